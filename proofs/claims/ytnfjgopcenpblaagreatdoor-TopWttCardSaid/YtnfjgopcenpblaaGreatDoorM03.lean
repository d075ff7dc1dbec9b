/- Texts of this claim, one behind the other (merged by a program): TG, TH, TI, TJ, TK. No condition of their own. -/
import Derived.Test.YtnfjgopcenpblaaGreatDoorM02
/- The walk of the reader's Put: a byte more, and the tokens that are known then. No condition beyond the ranges. -/
namespace Go.Proofs.YtnfjgopcenpblaaGreatDoor.T
open Go.RowKit Go.Proofs.YtnfjgopcenpblaaGreatDoorW.PrintWords Go.Proofs.YtnfjgopcenpblaaGreatDoorW.PrintLast Go.Proofs.YtnfjgopcenpblaaGreatDoorW.PrintMore Go.Proofs.YtnfjgopcenpblaaGreatDoor
set_option linter.unusedVariables false
/-- what is read of bytes that wait: tokens, what waits still, and where it begins -/
def pF : Nat → Int → List Int → List S66 × List Int × Int
  | 0, a, l => ([], l, a)
  | f + 1, a, l => if l = [] then ([], l, a) else if (oneF l).2.2 = 2 then ([], l, a) else
      (⟨a, (oneF l).2.1, if (oneF l).2.2 = 0 then [(oneF l).1] else [], (oneF l).2.2⟩ :: (pF f (a + (oneF l).2.1) (l.drop (oneF l).2.1.toNat)).1, (pF f (a + (oneF l).2.1) (l.drop (oneF l).2.1.toNat)).2)
theorem pF_nil (f : Nat) (a : Int) : pF f a [] = ([], [], a) := by cases f <;> rfl
theorem pF_short {f : Nat} {a : Int} {l : List Int} {s n : Int} (h : oneF l = (s, n, 2)) : pF f a l = ([], l, a) := by
  cases f with
  | zero => rfl
  | succ f => unfold pF; rw [h]; split <;> rfl
theorem pF_tok {f : Nat} {a : Int} {l : List Int} {s n e : Int} (hl : l ≠ []) (h : oneF l = (s, n, e)) (he : e ≠ 2) :
    pF (f + 1) a l = (⟨a, n, if e = 0 then [s] else [], e⟩ :: (pF f (a + n) (l.drop n.toNat)).1, (pF f (a + n) (l.drop n.toNat)).2) := by
  rw [pF, if_neg hl, h, if_neg he]
/-- a world on Put's way -/
structure PutInv (w : World) (B b : Nat) (v : Value) (W : World) (vi u : Value) (li : List Int) (ai : Int) (xs : List S66) : Prop where
  rdr : Rdr W B b vi li ai
  toks : Kd.S k66 66 W w.heap.size (fun k => some k ≠ vi.ownBlock ∧ k ≠ b) u xs
  kept : Kept w W (fun k => k = b ∨ some k = v.ownBlock)
  new : vi.ownBlock = v.ownBlock ∨ ∀ k, vi.ownBlock = some k → w.heap.size ≤ k
  below : Below B w W
  blt : b < w.heap.size
  hB : B ≤ w.heap.size
theorem PutInv.keep {w W W' : World} {B b : Nat} {v vi u : Value} {li : List Int} {ai : Int} {xs : List S66} (h : PutInv w B b v W vi u li ai xs) (hb : Below W.heap.size W W') : PutInv w B b v W' vi u li ai xs :=
  ⟨h.rdr.keep hb, Kd.S_below h.toks hb, h.kept.below hb, h.new, h.below.trans (hb.mono (Nat.le_trans h.hB h.below.size)), h.blt, h.hB⟩
theorem put_first {w w1 w2 : World} {B b : Nat} {v v1 : Value} {l : List Int} {at_ : Int} (h : Rdr w B b v l at_) (hB : B ≤ w.heap.size) {l1 : List Int} (ho : w1.ownsRow B 5 1 v1 l1.length (nums .u8 l1)) (hb : Below B w w1) (hg : w.grownBy w1 v.ownBlock)
    (hat : v1.ownBlock = v.ownBlock ∨ ∃ b, v1.ownBlock = some b ∧ w.heap.size ≤ b) (hw : w2 = w1.setCell ⟨b, 0, none⟩ v1) : PutInv w B b v w2 v1 (.slice none 0 0) l1 at_ [] := by
  subst hw
  have hblk := blk_grown h.blk hg h.ne
  refine ⟨⟨blk_put hblk 0 _ rfl, own_setCell ho (own_ne ho hblk (by decide)) _, h.le⟩, Kd.S_nil _ _ _ _ _, ?_, ?_, hb.setCell (p := ⟨b, 0, none⟩) h.le _, h.lt, hB⟩
  · exact (Kept.of_grown hg (Kept.refl w _) (fun k hk => .inl (.inr hk.symm))).setCell (p := ⟨b, 0, none⟩) (.inl (.inl rfl)) _
  · exact hat.imp id fun ⟨k, hk, hle⟩ j hj => by rw [hk] at hj; injection hj with hj; omega
theorem PutInv.step {w W W' W2 : World} {B b : Nat} {v vi u u2 v' : Value} {li l' : List Int} {ai a' : Int} {xs : List S66} {tok : S66} (h : PutInv w B b v W vi u li ai xs)
    (hr : Rdr W' B b v' l' a') (hk : Kept W W' (fun k => k = b)) (hn : ∀ k, v'.ownBlock = some k → W.heap.size ≤ k) (hbl : Below B W W')
    (ho : Kd.S k66 66 W2 w.heap.size (fun k => some k ≠ v'.ownBlock ∧ k ≠ b) u2 (xs ++ [tok])) (hg : W'.grownBy W2 u.ownBlock) : PutInv w B b v W2 v' u2 l' a' (xs ++ [tok]) := by
  have hle := h.below.size
  have hub : ∀ k, some k = u.ownBlock → k ≠ b := fun k hk2 hkb => (h.toks.choose_spec.1 k hk2.symm).2 hkb
  have hub2 : ∀ k, u.ownBlock = some k → w.heap.size ≤ k ∧ k < W.heap.size := fun k hk => ⟨Kd.S_base h.toks k hk, Kd.S_lt h.toks k hk⟩
  refine ⟨⟨blk_grown hr.blk hg (fun e => hub b e rfl), own_other hr.own hg ?_, hr.le⟩, ho, ?_, .inr fun k hk2 => Nat.le_trans hle (hn k hk2), ?_, h.blt, h.hB⟩
  · cases hv : v'.ownBlock with
    | none => exact .inl rfl
    | some k => exact .inr (fun e => by have := hn k hv; have := (hub2 k e.symm).2; omega)
  · refine Kept.of_grown hg (h.kept.then_ hk (fun k hk2 => .inl (.inl hk2))) (fun k hk2 => .inr (hub2 k hk2).1)
  · have h1 : Below B w W' := h.below.trans hbl
    exact ⟨hg.os.trans h1.os, hg.tape.trans h1.tape, hg.output.trans h1.output, Nat.le_trans h1.size hg.size, fun k hk2 => (hg.block k (Nat.lt_of_lt_of_le hk2 (Nat.le_trans h.hB h1.size)) (fun e => by have := (hub2 k e.symm).1; have := h.hB; omega)).trans (h1.block k hk2)⟩
def okp (W W5 : World) (k : Nat) : Prop := W.heap.size ≤ k ∧ k < W5.heap.size ∧ ∃ cells, W5.heap[k]? = some (.cells cells 3 (0, 0))
theorem tok_in {w W W5 : World} {B b : Nat} {v vi u v' : Value} {li l' : List Int} {ai a' : Int} {xs : List S66} {tok : S66} {cs : List Value} (h : PutInv w B b v W vi u li ai xs)
    (hr : Rdr W5 B b v' l' a') (hk : Kept W W5 (fun k => k = b)) (hn : ∀ k, v'.ownBlock = some k → W.heap.size ≤ k) (hM : k66.M W5 W.heap.size (fun _ => True) tok cs) :
    k66.M W5 w.heap.size (okp W W5) tok cs ∧ (∀ k, okp W W5 k → (some k ≠ v'.ownBlock ∧ k ≠ b) ∧ some k ≠ u.ownBlock) ∧ (∀ k, W5.heap.size ≤ k → some k ≠ v'.ownBlock ∧ k ≠ b) ∧
    Kd.S k66 66 W5 w.heap.size (fun k => (some k ≠ v'.ownBlock ∧ k ≠ b) ∧ ¬ okp W W5 k) u xs := by
  have hbl := h.rdr.lt
  refine ⟨?_, ?_, ?_, ?_⟩
  · refine k66.M_mono (fun k hk2 => ?_) (k66.M_lower h.below.size (k66.M_bound hM))
    obtain ⟨_, h1, h2, q, hq, cells, hc⟩ := hk2
    have : q = 3 := by simpa [k66, Kd.iso, Kd.pair, Kd.slice, Kd.int, Kd.scalar] using hq
    subst this
    exact ⟨h1, h2, cells, hc⟩
  · rintro k ⟨h1, h2, cells, hc⟩
    refine ⟨⟨own_ne hr.own hc (by decide), by omega⟩, fun e => ?_⟩
    have := Kd.S_lt h.toks k e.symm
    omega
  · exact fun k hk2 => ⟨fun e => by have := own_lt hr.own k e.symm; omega, by have := hr.lt; omega⟩
  · have h1 := Kd.S_bound h.toks
    have h2 := Kd.S_kept h1 hk (fun k hk2 => hk2.1.2)
    refine Kd.S_mono h2 (fun k hk2 => ⟨⟨fun e => by have := hn k e.symm; have := hk2.2.2.1; omega, hk2.1.2⟩, fun h3 => by have := h3.1; have := hk2.2.2.1; omega⟩)
theorem Rdr.rd {w : World} {B b : Nat} {A : Option Addr} {c : Nat} {l : List Int} {at_ : Int} (h : Rdr w B b (.slice A l.length c) l at_) : Kd.C (Kd.int .u8) w A l.length l := by
  obtain ⟨A2, c2, e2, hr⟩ := own_reads h.own
  injection e2 with e3 _ _
  subst e3
  exact Kd.C_of_reads (h1 := fun _ => rfl) hr
def PutP (w : World) (B b : Nat) (v : Value) (q : List S66 × List Int × Int) (x : Ending) (w' : World) : Prop := ∃ u v', x = .returned u ∧ PutInv w B b v w' v' u q.2.1 q.2.2 q.1
structure PutNow (k : Nat) (at_ : Int) (l1 : List Int) (kq : Nat) (li : List Int) (ai : Int) (xs : List S66) : Prop where
  ans : pF k at_ l1 = (xs ++ (pF kq ai li).1, (pF kq ai li).2)
  fuel : li.length < kq
  byt : Bytes li
  a0 : 0 ≤ ai
  asum : ai + li.length = at_ + l1.length
  few : xs.length + li.length ≤ l1.length
  kle : kq ≤ k
theorem PutNow.next {k : Nat} {at_ : Int} {l1 : List Int} {k1 : Nat} {li : List Int} {ai : Int} {xs : List S66} {n : Nat} {o : List Int} {e : Int} {q : Prop} (h : PutNow k at_ l1 (k1 + 1) li ai xs) (_hq : q)
    (ha : pF k at_ l1 = (xs ++ (⟨ai, n, o, e⟩ :: (pF k1 (ai + n) (li.drop (n : Int).toNat)).1), (pF k1 (ai + n) (li.drop (n : Int).toNat)).2)) (h1 : 1 ≤ n) (h2 : n ≤ li.length) :
    PutNow k at_ l1 k1 (li.drop (n : Int).toNat) (ai + n) (xs ++ [⟨ai, n, o, e⟩]) := by
  obtain ⟨h3, h4, h5, h6, h7, h8, h9⟩ := h
  refine ⟨by rw [ha]; simp, by simp; omega, h5.drop _, by omega, by simp; omega, by simp; omega, by omega⟩
set_option maxHeartbeats 1000000 in
theorem Put_calls (w : World) (B b : Nat) (v : Value) (l : List Int) (at_ c : Int) (h : Rdr w B b v l at_) (hB : B ≤ w.heap.size) (hl : l.length ≤ 100) (hy : Bytes (l ++ [c])) (h0 : 0 ≤ at_) (h1 : at_ + l.length ≤ 281474976710656) :
    Calls Tryz.prog 130 #[.pointer (some ⟨b, 0, none⟩), .int .u8 c] w (PutP w B b v (pF (l.length + 2) at_ (l ++ [c]))) := by
  obtain ⟨A, cc, rfl⟩ := h.form
  have hlt := h.lt
  have c0 := blk_cell h.blk 0
  replace c0 : w.cell? ⟨b, 0, none⟩ = some (.slice A l.length cc) := c0.trans rfl
  have H := Lib.hid h
  replace h := ()
  have hl1 : (l ++ [c]).length = l.length + 1 := by simp
  generalize hl1g : l ++ [c] = l1 at *
  go_enter Tryz.func130, Tryz.ntmps130
  go_wp2_with (first
    | ((with_reducible refine gate_builtin (b := .append) (xs := #[.tmp 13, .tmp 15]) rfl ?_); at_builtin; refine print_append_num (w0 := w) B rfl (.tmp 13) (.tmp 15) 22 5 .u8 1 rfl Tryz.underlying22 info5 (by omega) (.slice A l.length cc) l c rfl rfl H.out.own (Below.refl _ _) hB (by omega) ?_; intro v1 w1 ho hb hg hat; rw [hl1g] at ho; obtain ⟨A1, c1, rfl⟩ := own_slice ho; have hblk := Lib.hid (blk_grown H.out.blk hg H.out.ne); have f0 := blk_frozen hblk.out 0; have e0 : w1.cell? ⟨b, 0, none⟩ = some (.slice A l.length cc) := (blk_cell hblk.out 0).trans rfl; have ho := Lib.hid ho; have hb := Lib.hid hb; have hg := Lib.hid hg; have hat := Lib.hid hat; clear c0)
    | ((with_reducible refine gate_store (t := 22) (p := 18) rfl ?_); refine store_event (t := 22) (p := 18) (v := ?vo) (w1 := w1.setCell ⟨b, 0, none⟩ (.slice A1 l1.length c1)) ?hg ?ho ?hn ?hr ?_; (case ho => rfl); (case hg => rfl); (case hn => rfl); (case hr => first | (go_simp; done) | (go_simp; rfl)); intro w2 hw2; have I := Lib.hid (put_first H.out hB ho.out hb.out hg.out hat.out hw2); clear hw2 ho hb hg hat f0 e0 hblk H))
  go_loopg [5] (l.length + 2) (fun kq v5 w' => ∃ xs li ai vi, Hid (PutInv w B b (.slice A l.length cc) w' vi v5 li ai xs) ∧ Hid (PutNow (l.length + 2) at_ l1 kq li ai xs))
  case atStart => exact ⟨[], l1, at_, _, I, ⟨by simp, by omega, hy, h0, rfl, by simp, Nat.le_refl _⟩⟩
  case round =>
    clear I
    obtain ⟨xs, li, ai, vi, I, N⟩ := hrel
    obtain ⟨Ai, ci, rfl⟩ := I.out.rdr.form
    have cw0 : wr.cell? ⟨b, 0, none⟩ = some (.slice Ai li.length ci) := (blk_cell I.out.rdr.blk 0).trans rfl
    have hlen := hl1
    cases gk with
    | zero => exact absurd N.out.fuel (by omega)
    | succ k1 =>
      by_cases hli : li = []
      · subst hli
        have hans : Hid (pF (l.length + 2) at_ l1 = (xs, [], ai)) := by
          have := N.out.ans
          rw [pF_nil (k1 + 1)] at this
          exact Lib.hid (by simpa using this)
        go_wp2
        go_ret
        exact ⟨u5, _, rfl, by rw [hans.out]; exact I.out⟩
      · obtain ⟨n, s, e, hone, hn1, hn2, hn4, he, h2⟩ := one_far hli N.out.byt
        have hf := Lib.hid (show utf_One.f li = some (s, (n : Int), e) by rw [utf_One.of N.out.byt, hone])
        have hpos : (0 : Int) < (li.length : Int) := by omega
        have hR := Lib.hid I.out.rdr.rd
        have hC := Lib.hid (own_le I.out.rdr.own)
        by_cases he2 : e = 2
        · subst he2
          have hans : Hid (pF (l.length + 2) at_ l1 = (xs, li, ai)) := by
            have := N.out.ans
            rw [pF_short (f := k1 + 1) hone] at this
            exact Lib.hid (by simpa using this)
          go_wp2_with (first
            | ((with_reducible refine gate_callee (f := 131) rfl ?_); refine goesL_ (some 30) rfl rfl Tryz.func131 (by kernel_rfl) rfl #[.slice Ai li.length ci] rfl (by (try simp only [List.map_toArray, List.map_cons, List.map_nil]); first | done | rfl) ?_; refine (utf_One.calls Ai ci li s n 2 _ hR.out hC.out hf.out).mono ?_; rintro e w' ⟨rfl, ⟨nd, rfl⟩⟩; refine ⟨_, rfl, ?_⟩; generalize hq : World.drewN wr nd = w4; have I := Lib.hid (show PutInv w B b (.slice A l.length cc) w4 (.slice Ai li.length ci) u5 li ai xs by rw [← hq]; exact I.out.keep (pw_below_drewN (Below.refl _ _) nd)); clear hq))
          go_ret
          exact ⟨u5, _, rfl, by rw [hans.out]; exact I.out⟩
        · have hee : (e == 2) = false := beq_eq_false_iff_ne.mpr he2
          have hans := Lib.hid N.out.ans
          rw [pF_tok (f := k1) hli hone he2] at hans
          generalize hog : (if e = 0 then [s] else []) = o at hans
          have hfew := Lib.hid N.out.few
          have hfl : li.length ≤ 140737488355328 := by have := N.out.few; omega
          have hx48 : Hid ((xs.length + 1) * 48 ≤ 140737488355328) := by have := N.out.few; exact Lib.hid (by omega)
          go_wp2_with (first
            | ((with_reducible refine gate_callee (f := 131) rfl ?_); refine goesL_ (some 30) rfl rfl Tryz.func131 (by kernel_rfl) rfl #[.slice Ai li.length ci] rfl (by (try simp only [List.map_toArray, List.map_cons, List.map_nil]); first | done | rfl) ?_; refine (utf_One.calls Ai ci li s n e _ hR.out hC.out hf.out).mono ?_; rintro e2 w' ⟨rfl, ⟨nd, rfl⟩⟩; refine ⟨_, rfl, ?_⟩; generalize hq : World.drewN wr nd = w4; have I := Lib.hid (show PutInv w B b (.slice A l.length cc) w4 (.slice Ai li.length ci) u5 li ai xs by rw [← hq]; exact I.out.keep (pw_below_drewN (Below.refl _ _) nd)); clear hq)
            | ((with_reducible refine gate_callee (f := 129) rfl ?_); refine goesL_ (some 41) rfl rfl Tryz.func129 (by kernel_rfl) rfl #[.pointer (some ⟨b, 0, none⟩), .int .i64 s, .int .i64 n, .int .i64 e] rfl (by (try simp only [List.map_toArray, List.map_cons, List.map_nil]); first | done | rfl) ?_; refine (take_calls w4 B b _ li ai s n e I.out.rdr (by omega) (by omega) (Nat.le_trans hB I.out.below.size) hfl).mono ?_; rintro e2 w5 ⟨cs, v', rfl, hM, hr, hk, hn, hbl⟩; rw [hog] at hM; obtain ⟨v2, rfl, hv2⟩ := k66_openM hM; obtain ⟨Ao, co, rfl⟩ := Kd.R_slice hv2; refine ⟨_, rfl, ?_⟩; have hM := Lib.hid hM; have hv2 := Lib.hid hv2; have hr := Lib.hid hr; have hk := Lib.hid hk; have hn := Lib.hid hn; have hbl := Lib.hid hbl)
            | ((with_reducible refine gate_builtin (b := .append) (xs := #[.tmp 36, .tmp 42]) rfl ?_); at_builtin; obtain ⟨q1, q2, q3, q4⟩ := tok_in I.out hr.out hk.out hn.out hM.out; refine Kd.S_append k66 (w0 := w5) w.heap.size rfl (.tmp 36) (.tmp 42) 49 66 (.agg #[(.int .i64 0), (.int .i64 0), (.slice none 0 0), (.int .i64 0)]) 48 rfl Tryz.underlying49 info66 rfl (by decide) (by omega) u5 xs (⟨ai, n, o, e⟩ : S66) [.int .i64 ai, .int .i64 n, .slice Ao o.length co, .int .i64 e] _ (okp w4 w5) rfl rfl q1 q2 q3 q4 (Below.refl _ _) ?aS hx48.out ?_; (case aS => exact Nat.le_trans I.out.below.size hk.out.1); intro v6 w6 ho hb hg hat; have I2 := Lib.hid (I.out.step hr.out hk.out hn.out hbl.out ho hg); clear q1 q2 q3 q4 ho hb hg hat hM hv2 hr hk hn hbl I))
          have hw : wrap64 (ai + n) = ai + n := by have := N.out.a0; have := N.out.asum; unfold wrap64; omega
          rw [hw] at I2
          go_roundg k1
          case measure => exact Nat.lt_succ_self _
          case rel => exact ⟨_, _, _, _, I2, N.out.next hog hans.out hn1 hn2⟩
end Go.Proofs.YtnfjgopcenpblaaGreatDoor.T

/- The walk of the reader's End: what waits is short. No condition beyond the ranges. -/
namespace Go.Proofs.YtnfjgopcenpblaaGreatDoor.T
open Go.RowKit Go.Proofs.YtnfjgopcenpblaaGreatDoorW.PrintWords Go.Proofs.YtnfjgopcenpblaaGreatDoorW.PrintLast Go.Proofs.YtnfjgopcenpblaaGreatDoorW.PrintMore Go.Proofs.YtnfjgopcenpblaaGreatDoor
set_option linter.unusedVariables false
def eF (a : Int) (l : List Int) : List S66 × List Int × Int := if l = [] then ([], [], a) else ([⟨a, l.length, [], 2⟩], [], a + l.length)
theorem PutInv.start {w : World} {B b : Nat} {v : Value} {l : List Int} {at_ : Int} (h : Rdr w B b v l at_) (hB : B ≤ w.heap.size) : PutInv w B b v w v (.slice none 0 0) l at_ [] :=
  ⟨h, Kd.S_nil _ _ _ _ _, Kept.refl _ _, .inl rfl, Below.refl _ _, h.lt, hB⟩
theorem lit_M {W : World} {tok : S66} {cs : List Value} {base : Nat} {p : Nat → Prop} (h : k66.M W base p tok cs) (hc : cs.length = 4) : ∀ j x, [tok][j]? = some x → k66.M W base ((fun j k => j = 0 ∧ p k) j) x ((cs.drop (j * k66.sz)).take k66.sz) := by
  intro j x hj
  have hj0 : j = 0 := by
    cases j with
    | zero => rfl
    | succ j => simp at hj
  subst hj0
  have hx : tok = x := by simpa using hj
  subst hx
  have : (cs.drop (0 * k66.sz)).take k66.sz = cs := by
    rw [Nat.zero_mul, List.drop_zero]
    exact List.take_of_length_le (by rw [hc]; exact Nat.le_refl _)
  rw [this]
  exact k66.M_mono (fun k hk => ⟨rfl, hk⟩) h
set_option maxHeartbeats 1000000 in
theorem End_calls (w : World) (B b : Nat) (v : Value) (l : List Int) (at_ : Int) (h : Rdr w B b v l at_) (hB : B ≤ w.heap.size) (hl : l.length ≤ 100) (h0 : 0 ≤ at_) (h1 : at_ + l.length ≤ 281474976710656) :
    Calls Tryz.prog 126 #[.pointer (some ⟨b, 0, none⟩)] w (PutP w B b v (eF at_ l)) := by
  obtain ⟨A, cc, rfl⟩ := h.form
  have c0 := blk_cell h.blk 0
  replace c0 : w.cell? ⟨b, 0, none⟩ = some (.slice A l.length cc) := c0.trans rfl
  have I := Lib.hid (PutInv.start h hB)
  replace h := ()
  by_cases hli : l = []
  · subst hli
    go_enter Tryz.func126, Tryz.ntmps126
    go_wp2
    go_ret
    exact ⟨_, _, rfl, I.out⟩
  · have hpos : ((l.length : Int) == 0) = false := by
      have : l.length ≠ 0 := fun h => hli (List.eq_nil_of_length_eq_zero h)
      exact beq_eq_false_iff_ne.mpr (by omega)
    have hw : wrap64 (at_ + l.length) = at_ + l.length := by unfold wrap64; omega
    have hd : l.drop (l.length : Int).toNat = [] := by simp
    have hans : Hid (eF at_ l = ([⟨at_, l.length, [], 2⟩], [], at_ + l.length)) := by unfold eF; rw [if_neg hli]; exact rfl
    have hfl : l.length ≤ 140737488355328 := by omega
    go_enter Tryz.func126, Tryz.ntmps126
    go_wp2_with (first
      | ((with_reducible refine gate_callee (f := 129) rfl ?_); refine goesL_ (some 15) rfl rfl Tryz.func129 (by kernel_rfl) rfl #[.pointer (some ⟨b, 0, none⟩), .int .i64 0, .int .i64 l.length, .int .i64 2] rfl (by (try simp only [List.map_toArray, List.map_cons, List.map_nil]); first | done | rfl) ?_; refine (take_calls w B b _ l at_ 0 l.length 2 I.out.rdr (by omega) (by omega) hB hfl).mono ?_; rintro e2 w5 ⟨cs, v', rfl, hM, hr, hk, hn, hbl⟩; rw [if_neg (by decide)] at hM; rw [hd, hw] at hr; obtain ⟨v2, rfl, hv2⟩ := k66_openM hM; obtain ⟨Ao, co, rfl⟩ := Kd.R_slice hv2; refine ⟨_, rfl, ?_⟩; have hM := Lib.hid hM; have hr := Lib.hid hr; have hk := Lib.hid hk; have hn := Lib.hid hn; have hbl := Lib.hid hbl)
      | ((with_reducible refine gate_dst (N := 16) rfl ?_); obtain ⟨q1, q2, q3, q4⟩ := tok_in I.out hr.out hk.out hn.out hM.out; refine Kd.S_lits k66 (w0 := w5) w.heap.size 66 rfl (N := 16) rfl (xs := [(⟨at_, l.length, [], 2⟩ : S66)]) (inner := [.int .i64 at_, .int .i64 l.length, .slice Ao 0 co, .int .i64 2]) (ok := fun k => some k ≠ v'.ownBlock ∧ k ≠ b) (fun j k => j = 0 ∧ okp w w5 k) ?hr rfl (lit_M q1 rfl) (fun i j k hi hj => hi.1.trans hj.1.symm) (fun j k hk => (q2 k hk.2).1) (q3 _ (Nat.le_refl _)) (Below.refl _ _) hk.out.1 (by simp) ?_; (case hr => first | (go_simp; done) | (go_simp; rfl)); intro v6 w6 ho hb hg hat; have I2 := Lib.hid (I.out.step (xs := []) hr.out hk.out hn.out hbl.out ho hg); clear q1 q2 q3 q4 ho hb hg hat hM hr hk hn hbl I))
    go_ret
    exact ⟨_, _, rfl, by rw [hans.out]; exact I2.out⟩
end Go.Proofs.YtnfjgopcenpblaaGreatDoor.T

/- Tries: what a trie's block has, and the walk of Step. No condition beyond the ranges. -/
namespace Go.Proofs.YtnfjgopcenpblaaGreatDoor.T
open Go.RowKit Go.Proofs.YtnfjgopcenpblaaGreatDoorW.PrintWords Go.Proofs.YtnfjgopcenpblaaGreatDoorW.PrintLast Go.Proofs.YtnfjgopcenpblaaGreatDoorW.PrintMore Go.Proofs.YtnfjgopcenpblaaGreatDoor
set_option linter.unusedVariables false
set_option linter.unusedSimpArgs false
/-- the blocks of F that w has are the same in w' -/
def Same (F : Nat → Prop) (w w' : World) : Prop := w.heap.size ≤ w'.heap.size ∧ ∀ k, F k → k < w.heap.size → w'.heap[k]? = w.heap[k]?
theorem Same.of_below {F : Nat → Prop} {w w' : World} (h : Below w.heap.size w w') : Same F w w' := ⟨h.size, fun k _ hk => h.block k hk⟩
theorem Same.trans {F : Nat → Prop} {w w' w2 : World} (h : Same F w w') (g : Same F w' w2) : Same F w w2 := ⟨Nat.le_trans h.1 g.1, fun k hk hl => (g.2 k hk (Nat.lt_of_lt_of_le hl h.1)).trans (h.2 k hk hl)⟩
theorem Same.mono {F G : Nat → Prop} {w w' : World} (h : Same F w w') (hg : ∀ k, G k → F k) : Same G w w' := ⟨h.1, fun k hk hl => h.2 k (hg k hk) hl⟩
theorem Same.of_kept {F S : Nat → Prop} {w w' : World} (h : Kept w w' S) (hn : ∀ k, F k → ¬ S k) : Same F w w' := ⟨h.1, fun k hk hl => h.2 k hl (hn k hk)⟩
theorem Same.blk {F : Nat → Prop} {w w' : World} (h : Same F w w') {b : Nat} {o : Obj} (hb : w.heap[b]? = some o) (hF : F b) : w'.heap[b]? = some o := (h.2 b hF (blk_lt hb)).trans hb
/-- block b is a trie: its nodes ns and its rules rs, all in blocks of ok -/
structure Tr (w : World) (ok : Nat → Prop) (b : Nat) (ns : List S183) (rs : List S150) : Prop where
  blk : ∃ nv rv, w.heap[b]? = some (.cells #[nv, rv] 186 (0, 0)) ∧ k183.R 183 w 0 ok nv ns ∧ k150.R 150 w 0 ok rv rs
  okb : ok b
theorem Tr.same {w w' : World} {ok : Nat → Prop} {b : Nat} {ns : List S183} {rs : List S150} (h : Tr w ok b ns rs) (hs : Same ok w w') : Tr w' ok b ns rs := by
  obtain ⟨⟨nv, rv, h1, h2, h3⟩, h4⟩ := h
  exact ⟨⟨nv, rv, hs.blk h1 h4, Kd.R_step h2 hs.2, Kd.R_step h3 hs.2⟩, h4⟩
theorem Tr.mono {w : World} {ok ok' : Nat → Prop} {b : Nat} {ns : List S183} {rs : List S150} (h : Tr w ok b ns rs) (hk : ∀ k, ok k → ok' k) : Tr w ok' b ns rs := by
  obtain ⟨⟨nv, rv, h1, h2, h3⟩, h4⟩ := h
  exact ⟨⟨nv, rv, h1, Kd.R_mono h2 hk, Kd.R_mono h3 hk⟩, hk _ h4⟩
theorem Tr.open_ {w : World} {ok : Nat → Prop} {b : Nat} {ns : List S183} {rs : List S150} (h : Tr w ok b ns rs) : ∃ A c A1 c1, w.cell? ⟨b, 0, none⟩ = some (.slice A ns.length c) ∧ w.cell? ⟨b, 1, none⟩ = some (.slice A1 rs.length c1) ∧
    ns.length ≤ c ∧ k183.C w A ns.length ns ∧ rs.length ≤ c1 ∧ k150.C w A1 rs.length rs := by
  obtain ⟨⟨nv, rv, h1, h2, h3⟩, h4⟩ := h
  obtain ⟨A, c, rfl, l, r⟩ := Kd.R_reads h2
  obtain ⟨A1, c1, rfl, l1, r1⟩ := Kd.R_reads h3
  exact ⟨A, c, A1, c1, (blk_cell h1 0).trans rfl, (blk_cell h1 1).trans rfl, l, r, l1, r1⟩
/-- kids are nodes, brothers are elder ones -/
def NWF (ns : List S183) : Prop := ∀ i : Int, 0 ≤ i → i < ns.length → 0 ≤ (rd_T183 ns i).f1 ∧ (rd_T183 ns i).f1 < ns.length ∧ 0 ≤ (rd_T183 ns i).f2 ∧ ((rd_T183 ns i).f2 = 0 ∨ (rd_T183 ns i).f2 < i)
def stepGo (ns : List S183) (u : Int) : Nat → Int → Int × Bool
  | 0, _ => (0, false)
  | f + 1, k => if 0 < k then (if (rd_T183 ns k).f0 = u then (k, true) else stepGo ns u f (rd_T183 ns k).f2) else (0, false)
def stepF (ns : List S183) (at_ u : Int) : Int × Bool := if at_ < 0 ∨ (ns.length : Int) ≤ at_ then (0, false) else stepGo ns u (ns.length + 1) (rd_T183 ns at_).f1
theorem Step_calls (w : World) (ok : Nat → Prop) (b : Nat) (ns : List S183) (rs : List S150) (at_ u : Int) (h : Tr w ok b ns rs) (hw : NWF ns) (r1 : Int) (r2 : Bool) (hs : stepF ns at_ u = (r1, r2)) :
    Calls Tryz.prog 89 #[.pointer (some ⟨b, 0, none⟩), .int .i64 at_, .int .i64 u] w fun e w' => e = .returned (.tuple #[.int .i64 r1, .bool r2]) ∧ w = w' := by
  obtain ⟨A, c, A1, c1, c0, _, hlc, hC, _, _⟩ := h.open_
  clear h
  by_cases hr : at_ < 0 ∨ (ns.length : Int) ≤ at_
  · unfold stepF at hs
    rw [if_pos hr] at hs
    cases hs
    rcases hr with hr | hr
    · have d0 : decide (at_ < 0) = true := decide_eq_true hr
      go_enter Tryz.func89, Tryz.ntmps89
      go_wp2
      go_ret2
      exact ⟨rfl, rfl⟩
    · have d0 : decide (at_ < 0) = false := decide_eq_false (by omega)
      have d1 : decide ((ns.length : Int) ≤ at_) = true := decide_eq_true hr
      go_enter Tryz.func89, Tryz.ntmps89
      go_wp2
      go_ret2
      exact ⟨rfl, rfl⟩
  · unfold stepF at hs
    rw [if_neg hr] at hs
    have e0 : 0 ≤ at_ := by omega
    have e1 : at_ < ns.length := by omega
    have d0 : decide (at_ < 0) = false := decide_eq_false (by omega)
    have d1 : decide ((ns.length : Int) ≤ at_) = false := decide_eq_false (by omega)
    obtain ⟨ad, rfl, x0, x1, x2, x3⟩ := at_T183 hC at_ e0 e1
    have hwk := hw at_ e0 e1
    generalize (rd_T183 ns at_).f1 = k0 at *
    have hk0 := Lib.hid hwk
    have hs := Lib.hid hs
    clear hwk
    replace e0 := eq_true e0
    replace e1 := eq_true e1
    go_enter Tryz.func89, Tryz.ntmps89
    go_wp2
    go_loopg [8] (ns.length + 1) (fun kq v w' => ∃ k : Int, v = .int .i64 k ∧ w' = w ∧ Hid (0 ≤ k ∧ k < ns.length ∧ k < kq ∧ stepGo ns u kq k = (r1, r2)))
    case atStart => exact ⟨k0, rfl, rfl, Lib.hid ⟨hk0.out.1, hk0.out.2.1, by have := hk0.out.2.1; omega, hs.out⟩⟩
    case round =>
      obtain ⟨k, rfl, rfl, H⟩ := hrel
      obtain ⟨k1, k2, k3, k4⟩ := H.out
      clear x0 x1 x2 x3 e0 e1 hs
      cases gk with
      | zero => exact absurd k3 (by omega)
      | succ g =>
        rw [stepGo] at k4
        by_cases hk : 0 < k
        · rw [if_pos hk] at k4
          have dk : decide (0 < k) = true := decide_eq_true hk
          obtain ⟨ad, e9, x0, x1, x2, x3⟩ := at_T183 hC k k1 k2
          injection e9 with e9
          subst e9
          have hwk := hw k k1 k2
          generalize hf0 : (rd_T183 ns k).f0 = f0 at *
          generalize hf2 : (rd_T183 ns k).f2 = f2 at *
          replace k1' := eq_true k1
          replace k2' := eq_true k2
          by_cases hu : f0 = u
          · rw [if_pos hu] at k4
            cases k4
            have du : (f0 == u) = true := beq_iff_eq.mpr hu
            go_wp2
            go_ret2
            exact ⟨rfl, rfl⟩
          · rw [if_neg hu] at k4
            have k4 := Lib.hid k4
            have du : (f0 == u) = false := beq_eq_false_iff_ne.mpr hu
            go_wp2
            go_roundg g
            case measure => omega
            case rel => exact ⟨f2, rfl, rfl, Lib.hid ⟨by omega, by omega, by omega, k4.out⟩⟩
        · rw [if_neg hk] at k4
          cases k4
          have dk : decide (0 < k) = false := decide_eq_false hk
          go_wp2
          go_ret2
          exact ⟨rfl, rfl⟩
end Go.Proofs.YtnfjgopcenpblaaGreatDoor.T

/- Tries: the walks of Rule, Leaf, Out and Longest. No condition beyond the ranges. -/
namespace Go.Proofs.YtnfjgopcenpblaaGreatDoor.T
open Go.RowKit Go.Proofs.YtnfjgopcenpblaaGreatDoorW.PrintWords Go.Proofs.YtnfjgopcenpblaaGreatDoorW.PrintLast Go.Proofs.YtnfjgopcenpblaaGreatDoorW.PrintMore Go.Proofs.YtnfjgopcenpblaaGreatDoor
set_option linter.unusedVariables false
set_option linter.unusedSimpArgs false
theorem Rule_calls (w : World) (ok : Nat → Prop) (b : Nat) (ns : List S183) (rs : List S150) (at_ : Int) (h : Tr w ok b ns rs) (h0 : 0 ≤ at_) (h1 : at_ < ns.length) (r : Int) (hr : (rd_T183 ns at_).f3 = r) :
    Calls Tryz.prog 158 #[.pointer (some ⟨b, 0, none⟩), .int .i64 at_] w fun e w' => e = .returned (.int .i64 r) ∧ w = w' := by
  obtain ⟨A, c, A1, c1, c0, _, hlc, hC, _, _⟩ := h.open_
  clear h
  obtain ⟨ad, rfl, x0, x1, x2, x3⟩ := at_T183 hC at_ h0 h1
  rw [hr] at x3
  have d0 : decide (at_ < 0) = false := decide_eq_false (by omega)
  have d1 : decide ((ns.length : Int) ≤ at_) = false := decide_eq_false (by omega)
  replace h0 := eq_true h0
  replace h1 := eq_true h1
  go_enter Tryz.func158, Tryz.ntmps158
  go_wp2
  go_ret
  exact ⟨rfl, rfl⟩
theorem Leaf_calls (w : World) (ok : Nat → Prop) (b : Nat) (ns : List S183) (rs : List S150) (at_ : Int) (h : Tr w ok b ns rs) (h0 : 0 ≤ at_) (h1 : at_ < ns.length) (r : Bool) (hr : ((rd_T183 ns at_).f1 == 0) = r) :
    Calls Tryz.prog 159 #[.pointer (some ⟨b, 0, none⟩), .int .i64 at_] w fun e w' => e = .returned (.bool r) ∧ w = w' := by
  obtain ⟨A, c, A1, c1, c0, _, hlc, hC, _, _⟩ := h.open_
  clear h
  obtain ⟨ad, rfl, x0, x1, x2, x3⟩ := at_T183 hC at_ h0 h1
  have d0 : decide (at_ < 0) = false := decide_eq_false (by omega)
  have d1 : decide ((ns.length : Int) ≤ at_) = false := decide_eq_false (by omega)
  generalize (rd_T183 ns at_).f1 = k0 at *
  replace h0 := eq_true h0
  replace h1 := eq_true h1
  go_enter Tryz.func159, Tryz.ntmps159
  go_wp2
  go_ret
  exact ⟨rfl, rfl⟩
theorem Out_calls (w : World) (ok : Nat → Prop) (b : Nat) (ns : List S183) (rs : List S150) (k : Int) (h : Tr w ok b ns rs) (h0 : 0 ≤ k) (h1 : k < rs.length) (o : List Int) (hr : (rd_T150 rs k).f1 = o) (hl : o.length ≤ 140737488355) :
    Calls Tryz.prog 157 #[.pointer (some ⟨b, 0, none⟩), .int .i64 k] w fun e w' => ∃ v, e = .returned v ∧ (Kd.int .i64).R 3 w' 0 (fun k => w.heap.size ≤ k) v o ∧ Below w.heap.size w w' := by
  obtain ⟨A, c, A1, c1, _, c0, _, _, hlc, hC⟩ := h.open_
  clear h
  obtain ⟨ad, A2, c2, A3, c3, rfl, x0, x1, hl2, hC2, hl3, hC3⟩ := at_T150 hC k h0 h1
  rw [hr] at x1 hl3 hC3
  have hrd := Kd.reads_of_C (d := (0 : Int)) (enc := Value.int .i64) (h1 := fun _ => rfl) hC3
  have d0 : decide (k < 0) = false := decide_eq_false (by omega)
  have d1 : decide ((rs.length : Int) ≤ k) = false := decide_eq_false (by omega)
  replace h0 := eq_true h0
  replace h1 := eq_true h1
  go_enter Tryz.func157, Tryz.ntmps157
  go_wp2_with (first
    | ((with_reducible refine gate_builtin (b := .append) (xs := #[.const (.slice none 0 0), .tmp 23]) rfl ?_); at_builtin; refine print_append_row_of (w0 := w) (Value.int .i64) 0 w.heap.size rfl (.const (.slice none 0 0)) (.tmp 23) 25 3 (.int .i64 0) 8 rfl Tryz.underlying25 info3 rfl (by omega) (fun _ => rfl) (.slice none 0 0) [] o A3 _ _ rfl rfl (own_nil _ _ _ _) ?aR ?aB ?aS ?aL ?_; (case aR => exact hrd); (case aB => exact Below.refl _ _); (case aS => exact Nat.le_refl _); (case aL => simp; omega); intro v4 w4 ho hb4 hg4 hat4; have ho := Lib.hid ho; have hb4 := Lib.hid hb4; clear hg4 hat4))
  go_ret
  exact ⟨v4, rfl, Kd.R_lower (Kd.R_of_own (ok := fun k => w.heap.size ≤ k) (enc := Value.int .i64) ho.out (fun k hk => own_base ho.out k hk)) (Nat.zero_le _), hb4.out⟩
def longGo (ns : List S183) : List Int → Int → Int → Int → Int → Int × Int × Bool
  | [], at_, k, n, _ => (k, n, !((rd_T183 ns at_).f1 == 0))
  | u :: us, at_, k, n, i => if (stepF ns at_ u).2 = false then (k, n, false) else
      if 0 ≤ (rd_T183 ns (stepF ns at_ u).1).f3 then longGo ns us (stepF ns at_ u).1 (rd_T183 ns (stepF ns at_ u).1).f3 (i + 1) (i + 1) else longGo ns us (stepF ns at_ u).1 k n (i + 1)
def longF (ns : List S183) (us : List Int) : Int × Int × Bool := longGo ns us 0 (-1) 0 0
theorem stepGo_lt {ns : List S183} (hw : NWF ns) {u : Int} : ∀ (f : Nat) (k r : Int), 0 ≤ k → k < ns.length → stepGo ns u f k = (r, true) → 0 < r ∧ r < ns.length
  | 0, k, r, _, _, h => by simp [stepGo] at h
  | f + 1, k, r, h0, h1, h => by
    rw [stepGo] at h
    have hk := hw k h0 h1
    split at h
    · split at h
      · cases h; exact ⟨by assumption, h1⟩
      · exact stepGo_lt hw f _ r hk.2.2.1 (by omega) h
    · simp at h
theorem stepF_lt {ns : List S183} (hw : NWF ns) {at_ u r : Int} (h : stepF ns at_ u = (r, true)) : 0 < r ∧ r < ns.length := by
  unfold stepF at h
  split at h
  · simp at h
  · exact stepGo_lt hw _ _ r (hw at_ (by omega) (by omega)).1 (hw at_ (by omega) (by omega)).2.1 h
set_option maxRecDepth 100000 in
theorem Longest_calls (w : World) (ok : Nat → Prop) (b : Nat) (ns : List S183) (rs : List S150) (A : Option Addr) (c : Nat) (us : List Int) (h : Tr w ok b ns rs) (hw : NWF ns) (hp : 0 < ns.length) (hC : (Kd.int .i64).C w A us.length us) (hl : us.length ≤ 1000)
    (r1 r2 : Int) (r3 : Bool) (hs : longF ns us = (r1, r2, r3)) :
    Calls Tryz.prog 156 #[.pointer (some ⟨b, 0, none⟩), .slice A us.length c] w fun e w' => e = .returned (.tuple #[.int .i64 r1, .int .i64 r2, .bool r3]) ∧ w = w' := by
  replace h := Lib.hid h
  replace hs := Lib.hid (show longGo ns (us.drop 0) 0 (-1) 0 ((0 : Nat) : Int) = (r1, r2, r3) from hs)
  have hrd := Lib.hid (Kd.reads_of_C (d := (0 : Int)) (enc := Value.int .i64) (h1 := fun _ => rfl) hC)
  clear hC
  go_enter Tryz.func156, Tryz.ntmps156
  go_wp2
  go_loopg [7, 8, 9, 17] (us.length + 1) (fun kq v7 v8 v9 v17 w' => ∃ (k n at_ : Int) (i : Nat), v7 = .int .i64 k ∧ v8 = .int .i64 n ∧ v9 = .int .i64 at_ ∧ v17 = .int .i64 i ∧ w' = w ∧ Hid (0 ≤ at_ ∧ at_ < ns.length ∧ i ≤ us.length ∧ us.length + 1 = kq + i ∧ longGo ns (us.drop i) at_ k n i = (r1, r2, r3)))
  case atStart => exact ⟨-1, 0, 0, 0, rfl, rfl, rfl, rfl, rfl, Lib.hid ⟨by omega, by omega, by omega, by omega, hs.out⟩⟩
  case round =>
    obtain ⟨k, n, at_, i, rfl, rfl, rfl, rfl, rfl, H⟩ := hrel
    obtain ⟨a0, a1, i0, i1, e⟩ := H.out
    clear hs
    cases gk with
    | zero => exact absurd i1 (by omega)
    | succ g =>
      by_cases hi : i < us.length
      · have di : decide ((i : Int) < (us.length : Int)) = true := decide_eq_true (by omega)
        obtain ⟨ad, rfl, hc⟩ := hrd.out.2.2 (by omega)
        have hx := hc i hi
        rw [List.drop_eq_getElem_cons hi] at e
        have hg : us.getD i 0 = us[i] := by rw [List.getD_eq_getElem?_getD, List.getElem?_eq_getElem hi]; rfl
        rw [hg] at hx
        clear hc hg
        generalize us[i] = u at *
        have hw1 : wrap64 ((i : Int) + 1) = ((i + 1 : Nat) : Int) := by unfold wrap64; omega
        rw [longGo] at e
        have p0 : (0 ≤ (i : Int)) = True := eq_true (by omega)
        have p1 : ((i : Int) < (us.length : Int)) = True := eq_true (by omega)
        rcases hst : stepF ns at_ u with ⟨nx, bb⟩
        rw [hst] at e
        cases bb with
        | false =>
          rw [if_pos rfl] at e
          cases e
          replace hst := Lib.hid hst
          go_wp2_with (first
            | (go_at_call 89; refine (Step_calls wr ok b ns rs at_ u h.out hw nx false hst.out).mono ?_; rintro e w' ⟨rfl, rfl⟩))
          go_ret3
          exact ⟨rfl, rfl⟩
        | true =>
          rw [if_neg (by simp)] at e
          have hnx := stepF_lt hw hst
          have q0 : 0 ≤ nx := by omega
          have q1 := hnx.2
          replace hst := Lib.hid hst
          generalize hf3' : (rd_T183 ns nx).f3 = f3' at *
          by_cases hr : 0 ≤ f3'
          · rw [if_pos hr] at e
            have dr : decide (0 ≤ f3') = true := decide_eq_true hr
            replace e := Lib.hid e
            go_wp2_with (first
              | (go_at_call 89; refine (Step_calls wr ok b ns rs at_ u h.out hw nx true hst.out).mono ?_; rintro e w' ⟨rfl, rfl⟩)
              | (go_at_call 158; refine (Rule_calls wr ok b ns rs nx h.out q0 q1 f3' hf3').mono ?_; rintro e w' ⟨rfl, rfl⟩))
            go_roundg g
            case measure => omega
            case rel => exact ⟨f3', _, nx, i + 1, rfl, rfl, rfl, rfl, rfl, Lib.hid ⟨q0, q1, by omega, by omega, e.out⟩⟩
          · rw [if_neg hr] at e
            have dr : decide (0 ≤ f3') = false := decide_eq_false hr
            replace e := Lib.hid e
            go_wp2_with (first
              | (go_at_call 89; refine (Step_calls wr ok b ns rs at_ u h.out hw nx true hst.out).mono ?_; rintro e w' ⟨rfl, rfl⟩)
              | (go_at_call 158; refine (Rule_calls wr ok b ns rs nx h.out q0 q1 f3' hf3').mono ?_; rintro e w' ⟨rfl, rfl⟩))
            go_roundg g
            case measure => omega
            case rel => exact ⟨k, n, nx, i + 1, rfl, rfl, rfl, rfl, rfl, Lib.hid ⟨q0, q1, by omega, by omega, e.out⟩⟩
      · have di : decide ((i : Int) < (us.length : Int)) = false := decide_eq_false (by omega)
        rw [List.drop_eq_nil_of_le (by omega), longGo] at e
        generalize hlf : ((rd_T183 ns at_).f1 == 0) = lf at *
        cases e
        go_wp2_with (first
          | (go_at_call 159; refine (Leaf_calls wr ok b ns rs at_ h.out a0 a1 lf hlf).mono ?_; rintro e w' ⟨rfl, rfl⟩))
        go_ret3
        exact ⟨rfl, rfl⟩
end Go.Proofs.YtnfjgopcenpblaaGreatDoor.T

/- The walks of slices.Equal over whole numbers, and of rule.Find, by its closure. No condition beyond the ranges. -/
namespace Go.Proofs.YtnfjgopcenpblaaGreatDoor.T
open Go.RowKit Go.Proofs.YtnfjgopcenpblaaGreatDoorW.PrintWords Go.Proofs.YtnfjgopcenpblaaGreatDoorW.PrintLast Go.Proofs.YtnfjgopcenpblaaGreatDoorW.PrintMore Go.Proofs.YtnfjgopcenpblaaGreatDoor
set_option linter.unusedVariables false
set_option linter.unusedSimpArgs false
theorem C_at {w : World} {A : Option Addr} {us : List Int} (hC : (Kd.int .i64).C w A us.length us) {i : Nat} (hi : i < us.length) : ∃ ad, A = some ad ∧ w.cell? (ad.add i) = some (.int .i64 (us.getD i 0)) := by
  obtain ⟨ad, e, hc⟩ := (Kd.reads_of_C (d := (0 : Int)) (enc := Value.int .i64) (h1 := fun _ => rfl) hC).2.2 (by omega)
  exact ⟨ad, e, hc i hi⟩
theorem w1 {i n : Nat} (h : i < n) (hn : n ≤ 1000000) : wrap64 ((i : Int) + 1) = ((i + 1 : Nat) : Int) := by unfold wrap64; omega
theorem drop_at {us : List Int} {i : Nat} (hi : i < us.length) : us.drop i = us.getD i 0 :: us.drop (i + 1) := by
  rw [List.drop_eq_getElem_cons hi, List.getD_eq_getElem?_getD, List.getElem?_eq_getElem hi]; rfl
theorem Equal_calls (w : World) (A B : Option Addr) (c d : Nat) (us vs : List Int) (hA : (Kd.int .i64).C w A us.length us) (hB : (Kd.int .i64).C w B vs.length vs) (hl : us.length ≤ 1000000) (r : Bool) (hr : decide (us = vs) = r) :
    Calls Tryz.prog 103 #[.slice A us.length c, .slice B vs.length d] w fun e w' => e = .returned (.bool r) ∧ Below w.heap.size w w' := by
  by_cases hn : us.length = vs.length
  · have dn : ((us.length : Int) == (vs.length : Int)) = true := beq_iff_eq.mpr (by omega)
    have hA := Lib.hid hA
    have hB := Lib.hid hB
    have hr := Lib.hid (show decide (us.drop 0 = vs.drop 0) = r from hr)
    have HB := Lib.hid (Below.refl w.heap.size w)
    go_enter Tryz.func103, Tryz.ntmps103
    go_wp2
    go_loopg [13] (us.length + 1) (fun kq v w' => ∃ i : Nat, v = .int .i64 i ∧ Hid (Below w.heap.size w w') ∧ Hid (i ≤ us.length ∧ us.length + 1 = kq + i ∧ decide (us.drop i = vs.drop i) = r))
    case atStart => exact ⟨0, rfl, HB, Lib.hid ⟨by omega, by omega, hr.out⟩⟩
    case round =>
      clear HB
      obtain ⟨i, rfl, HB, H⟩ := hrel
      obtain ⟨i0, i1, e⟩ := H.out
      clear hr
      cases gk with
      | zero => exact absurd i1 (by omega)
      | succ g =>
        by_cases hi : i < us.length
        · have di : decide ((i : Int) < (us.length : Int)) = true := decide_eq_true (by omega)
          obtain ⟨ad, rfl, x0⟩ := C_at (Kd.C_below hA.out HB.out) hi
          obtain ⟨ad2, rfl, x1⟩ := C_at (Kd.C_below hB.out HB.out) (show i < vs.length by omega)
          rw [drop_at hi, drop_at (show i < vs.length by omega)] at e
          have hw1 : wrap64 ((i : Int) + 1) = ((i + 1 : Nat) : Int) := w1 hi (by omega)
          have p0 : (0 ≤ (i : Int)) = True := eq_true (Int.natCast_nonneg i)
          have p1 : ((i : Int) < (us.length : Int)) = True := eq_true (by omega)
          have p2 : ((i : Int) < (vs.length : Int)) = True := eq_true (by omega)
          generalize us.getD i 0 = a at *
          generalize vs.getD i 0 = b at *
          by_cases hab : a = b
          · have dab : (a == b) = true := beq_iff_eq.mpr hab
            replace e : Hid (decide (us.drop (i + 1) = vs.drop (i + 1)) = r) := Lib.hid (by rw [← e, hab]; simp)
            go_wp2
            go_quiet (fail)
            go_wp2
            go_roundg g
            case measure => omega
            case rel => exact ⟨i + 1, rfl, Lib.hid (by first | exact HB.out | exact pw_below_drewN HB.out _), Lib.hid ⟨by omega, by omega, e.out⟩⟩
          · have dab : (a == b) = false := beq_eq_false_iff_ne.mpr hab
            have : r = false := by rw [← e]; exact decide_eq_false (by simp [hab])
            subst this
            clear e
            go_wp2
            go_quiet (fail)
            go_wp2
            go_ret
            exact ⟨rfl, by first | exact HB.out | exact pw_below_drewN HB.out _⟩
        · have di : decide ((i : Int) < (us.length : Int)) = false := decide_eq_false (by omega)
          rw [List.drop_eq_nil_of_le (by omega), List.drop_eq_nil_of_le (by omega)] at e
          have : r = true := by rw [← e]; rfl
          subst this
          clear e
          go_wp2
          go_ret
          exact ⟨rfl, HB.out⟩
  · have dn : ((us.length : Int) == (vs.length : Int)) = false := beq_eq_false_iff_ne.mpr (by omega)
    have : r = false := by rw [← hr]; exact decide_eq_false (fun h => hn (by rw [h]))
    subst this
    clear hr
    go_enter Tryz.func103, Tryz.ntmps103
    go_wp2
    go_ret
    exact ⟨rfl, Below.refl _ _⟩
def findGo (l : List Int) : List S150 → Nat → Int
  | [], _ => -1
  | r :: rs, i => if r.f0 = l then (i : Int) else findGo l rs (i + 1)
def findF (rs : List S150) (l : List Int) : Int := findGo l rs 0
theorem Find1_calls (w : World) (g : Nat) (A B D : Option Addr) (c d e : Nat) (a o l : List Int) (hA : (Kd.int .i64).C w A a.length a) (hB : (Kd.int .i64).C w B l.length l) (hg : w.cell? ⟨g, 0, none⟩ = some (.slice B l.length d)) (hl : a.length ≤ 1000000) (r : Bool) (hr : decide (a = l) = r) :
    Calls Tryz.prog 102 #[.agg #[.slice A a.length c, .slice D o.length e], .pointer (some ⟨g, 0, none⟩)] w fun e w' => e = .returned (.bool r) ∧ Below w.heap.size w w' := by
  have hb : Below w.heap.size w (w.alloc (.cells #[.slice A a.length c, .slice D o.length e] 150)) := below_alloc (Below.refl _ _) _
  have hg' := (hb.cell (World.block_lt_of_cell? w _ hg)).trans hg
  have HH := Lib.hid (Equal_calls _ A B c d a l (Kd.C_below hA hb) (Kd.C_below hB hb) hl r hr)
  replace hb := Lib.hid hb
  clear hA hB hg hr
  go_enter Tryz.func102, Tryz.ntmps102
  go_wp2_with (first | (go_at_call 103; refine HH.out.mono ?_; rintro e w' ⟨rfl, hb2⟩; replace hb2 := Lib.hid hb2))
  go_ret
  exact ⟨rfl, below_step hb.out hb2.out⟩
set_option maxRecDepth 100000 in
/-- what is found by its In -/
theorem Index_calls (w : World) (g : Nat) (A B : Option Addr) (c d : Nat) (rs : List S150) (l : List Int) (hA : k150.C w A rs.length rs) (hB : (Kd.int .i64).C w B l.length l) (hg : w.cell? ⟨g, 0, none⟩ = some (.slice B l.length d)) (hl : ∀ r ∈ rs, r.f0.length ≤ 1000000) (hn : rs.length ≤ 1000000) (r : Int) (hr : findF rs l = r) :
    Calls Tryz.prog 101 #[.slice A rs.length c, .func (.func 102) #[] #[.pointer (some ⟨g, 0, none⟩)]] w fun e w' => e = .returned (.int .i64 r) ∧ Below w.heap.size w w' := by
  have hr := Lib.hid (show findGo l (rs.drop 0) 0 = r from hr)
  have hA := Lib.hid hA
  have hB := Lib.hid hB
  have hg := Lib.hid hg
  have HB := Lib.hid (Below.refl w.heap.size w)
  go_enter Tryz.func101, Tryz.ntmps101
  go_wp2
  go_loopg [8] (rs.length + 1) (fun kq v w' => ∃ i : Nat, v = .int .i64 i ∧ Hid (Below w.heap.size w w') ∧ Hid (i ≤ rs.length ∧ rs.length + 1 = kq + i ∧ findGo l (rs.drop i) i = r))
  case atStart => exact ⟨0, rfl, HB, Lib.hid ⟨by omega, by omega, hr.out⟩⟩
  case round =>
    clear HB
    obtain ⟨i, rfl, HB, H⟩ := hrel
    obtain ⟨i0, i1, e⟩ := H.out
    clear hr
    cases gk with
    | zero => exact absurd i1 (by omega)
    | succ gk =>
      by_cases hi : i < rs.length
      · have di : decide ((i : Int) < (rs.length : Int)) = true := decide_eq_true (Int.ofNat_lt.mpr hi)
        obtain ⟨ad, A1, c1, A2, c2, rfl, x0, x1, l1, g1, l2, g2⟩ := at_T150 (Kd.C_below hA.out HB.out) (i : Int) (Int.natCast_nonneg i) (Int.ofNat_lt.mpr hi)
        have hmem : rd_T150 rs i ∈ rs := by
          unfold rd_T150
          rw [Int.toNat_natCast, List.getD_eq_getElem?_getD, List.getElem?_eq_getElem hi]
          exact List.getElem_mem hi
        have hl1 := hl _ hmem
        have hdr : rs.drop i = rd_T150 rs i :: rs.drop (i + 1) := by
          unfold rd_T150
          rw [Int.toNat_natCast, List.drop_eq_getElem_cons hi, List.getD_eq_getElem?_getD, List.getElem?_eq_getElem hi]; rfl
        rw [hdr, findGo] at e
        have hw1 : wrap64 ((i : Int) + 1) = ((i + 1 : Nat) : Int) := w1 hi hn
        have p0 : (0 ≤ (i : Int)) = True := eq_true (Int.natCast_nonneg i)
        have p1 : ((i : Int) < (rs.length : Int)) = True := eq_true (Int.ofNat_lt.mpr hi)
        rw [Int.toNat_natCast] at x0 x1
        clear hdr hmem
        generalize rd_T150 rs i = q at *
        obtain ⟨qa, qo⟩ := q
        dsimp only at *
        have hgr : wr.cell? ⟨g, 0, none⟩ = some (.slice B l.length d) := (HB.out.cell (World.block_lt_of_cell? w _ hg.out)).trans hg.out
        have HH : ∀ b : Bool, decide (qa = l) = b → Hid (Calls Tryz.prog 102 #[.agg #[.slice A1 qa.length c1, .slice A2 qo.length c2], .pointer (some ⟨g, 0, none⟩)] wr fun e w' => e = .returned (.bool b) ∧ Below wr.heap.size wr w') := fun b hb => Lib.hid (Find1_calls wr g A1 B A2 c1 d c2 qa qo l g1 (Kd.C_below hB.out HB.out) hgr hl1 b hb)
        clear g1 g2 hgr
        by_cases hq : qa = l
        · rw [if_pos hq] at e
          subst e
          replace HH := HH true (decide_eq_true hq)
          replace hq := Lib.hid hq
          go_wp2_with (first | (go_at_call 102; refine HH.out.mono ?_; rintro e w' ⟨rfl, hb2⟩; replace hb2 := Lib.hid hb2))
          go_ret
          exact ⟨rfl, below_step HB.out hb2.out⟩
        · rw [if_neg hq] at e
          replace HH := HH false (decide_eq_false hq)
          replace hq := Lib.hid hq
          replace e := Lib.hid e
          go_wp2_with (first | (go_at_call 102; refine HH.out.mono ?_; rintro e w' ⟨rfl, hb2⟩; replace hb2 := Lib.hid hb2))
          go_roundg gk
          case measure => omega
          case rel => exact ⟨i + 1, rfl, Lib.hid (below_step HB.out hb2.out), Lib.hid ⟨by omega, by omega, e.out⟩⟩
      · have di : decide ((i : Int) < (rs.length : Int)) = false := decide_eq_false (by omega)
        rw [List.drop_eq_nil_of_le (by omega), findGo] at e
        subst e
        go_wp2
        go_ret
        exact ⟨rfl, HB.out⟩
theorem Find_calls (w : World) (A B : Option Addr) (c d : Nat) (rs : List S150) (l : List Int) (hA : k150.C w A rs.length rs) (hB : (Kd.int .i64).C w B l.length l) (hl : ∀ r ∈ rs, r.f0.length ≤ 1000000) (hn : rs.length ≤ 1000000) (r : Int) (hr : findF rs l = r) :
    Calls Tryz.prog 90 #[.slice A rs.length c, .slice B l.length d] w fun e w' => e = .returned (.int .i64 r) ∧ Below w.heap.size w w' := by
  have hb : Below w.heap.size w (w.alloc (.cells #[.slice B l.length d] 25)) := below_alloc (Below.refl _ _) _
  have hg' : (w.alloc (.cells #[.slice B l.length d] 25)).cell? ⟨w.heap.size, 0, none⟩ = some (.slice B l.length d) := (blk_cell (blk_new w (.cells #[.slice B l.length d] 25)) 0).trans rfl
  have HH := Lib.hid (Index_calls _ _ A B c d rs l (Kd.C_below hA hb) (Kd.C_below hB hb) hg' hl hn r hr)
  replace hb := Lib.hid hb
  clear hA hB hg' hr
  have hmf : ∀ (fn : Fn) (first cap : Array Value) (w : World), (Instr.makeFunc fn first cap).run Tryz.prog w = .ok (.func fn first cap) w := fun _ _ _ _ => rfl
  go_enter Tryz.func90, Tryz.ntmps90
  go_wp2_with (first | (go_at_call 101; refine HH.out.mono ?_; rintro e w' ⟨rfl, hb2⟩; replace hb2 := Lib.hid hb2))
  go_ret
  exact ⟨rfl, below_step hb.out hb2.out⟩
end Go.Proofs.YtnfjgopcenpblaaGreatDoor.T
