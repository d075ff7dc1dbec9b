/- The walk of the reader's Put: a byte more, and the tokens that are known then. No condition beyond the ranges. -/
import Derived.Test.YtdhpldiahgajcaaK1
import Derived.Test.YtdhpldiahgajcaaV2
namespace Go.Proofs.Ytdhpldiahgajcaa.PUtfAll
open Go.RowKit Go.Proofs.YtdhpldiahgajcaaW.PrintWords Go.Proofs.YtdhpldiahgajcaaW.PrintLast Go.Proofs.YtdhpldiahgajcaaW.PrintMore Go.Proofs.Ytdhpldiahgajcaa
set_option linter.unusedVariables false
/-- what is read of bytes that wait: tokens, what waits still, and where it begins -/
def pF : Nat → Int → List Int → List S32 × List Int × Int
  | 0, a, l => ([], l, a)
  | f + 1, a, l => if l = [] then ([], l, a) else if (oneF l).2.2 = 2 then ([], l, a) else
      (⟨a, (oneF l).2.1, if (oneF l).2.2 = 0 then [(oneF l).1] else [], (oneF l).2.2⟩ :: (pF f (a + (oneF l).2.1) (l.drop (oneF l).2.1.toNat)).1, (pF f (a + (oneF l).2.1) (l.drop (oneF l).2.1.toNat)).2)
theorem pF_nil (f : Nat) (a : Int) : pF f a [] = ([], [], a) := by cases f <;> rfl
theorem pF_short {f : Nat} {a : Int} {l : List Int} {s n : Int} (h : oneF l = (s, n, 2)) : pF f a l = ([], l, a) := by
  cases f with
  | zero => rfl
  | succ f => unfold pF; rw [h]; split <;> rfl
theorem pF_tok {f : Nat} {a : Int} {l : List Int} {s n e : Int} (hl : l ≠ []) (h : oneF l = (s, n, e)) (he : e ≠ 2) :
    pF (f + 1) a l = (⟨a, n, if e = 0 then [s] else [], e⟩ :: (pF f (a + n) (l.drop n.toNat)).1, (pF f (a + n) (l.drop n.toNat)).2) := by
  rw [pF, if_neg hl, h, if_neg he]
/-- a world on Put's way -/
structure PutInv (w : World) (B b : Nat) (v : Value) (W : World) (vi u : Value) (li : List Int) (ai : Int) (xs : List S32) : Prop where
  rdr : Rdr W B b vi li ai
  toks : Kd.S k32 32 W w.heap.size (fun k => some k ≠ vi.ownBlock ∧ k ≠ b) u xs
  kept : Kept w W (fun k => k = b ∨ some k = v.ownBlock)
  new : vi.ownBlock = v.ownBlock ∨ ∀ k, vi.ownBlock = some k → w.heap.size ≤ k
  below : Below B w W
  blt : b < w.heap.size
  hB : B ≤ w.heap.size
theorem PutInv.keep {w W W' : World} {B b : Nat} {v vi u : Value} {li : List Int} {ai : Int} {xs : List S32} (h : PutInv w B b v W vi u li ai xs) (hb : Below W.heap.size W W') : PutInv w B b v W' vi u li ai xs :=
  ⟨h.rdr.keep hb, Kd.S_below h.toks hb, h.kept.below hb, h.new, h.below.trans (hb.mono (Nat.le_trans h.hB h.below.size)), h.blt, h.hB⟩
theorem put_first {w w1 w2 : World} {B b : Nat} {v v1 : Value} {l : List Int} {at_ : Int} (h : Rdr w B b v l at_) (hB : B ≤ w.heap.size) {l1 : List Int} (ho : w1.ownsRow B 5 1 v1 l1.length (nums .u8 l1)) (hb : Below B w w1) (hg : w.grownBy w1 v.ownBlock)
    (hat : v1.ownBlock = v.ownBlock ∨ ∃ b, v1.ownBlock = some b ∧ w.heap.size ≤ b) (hw : w2 = w1.setCell ⟨b, 0, none⟩ v1) : PutInv w B b v w2 v1 (.slice none 0 0) l1 at_ [] := by
  subst hw
  have hblk := blk_grown h.blk hg h.ne
  refine ⟨⟨blk_put hblk 0 _ rfl, own_setCell ho (own_ne ho hblk (by decide)) _, h.le⟩, Kd.S_nil _ _ _ _ _, ?_, ?_, hb.setCell (p := ⟨b, 0, none⟩) h.le _, h.lt, hB⟩
  · exact (Kept.of_grown hg (Kept.refl w _) (fun k hk => .inl (.inr hk.symm))).setCell (p := ⟨b, 0, none⟩) (.inl (.inl rfl)) _
  · exact hat.imp id fun ⟨k, hk, hle⟩ j hj => by rw [hk] at hj; injection hj with hj; omega
theorem PutInv.step {w W W' W2 : World} {B b : Nat} {v vi u u2 v' : Value} {li l' : List Int} {ai a' : Int} {xs : List S32} {tok : S32} (h : PutInv w B b v W vi u li ai xs)
    (hr : Rdr W' B b v' l' a') (hk : Kept W W' (fun k => k = b)) (hn : ∀ k, v'.ownBlock = some k → W.heap.size ≤ k) (hbl : Below B W W')
    (ho : Kd.S k32 32 W2 w.heap.size (fun k => some k ≠ v'.ownBlock ∧ k ≠ b) u2 (xs ++ [tok])) (hg : W'.grownBy W2 u.ownBlock) : PutInv w B b v W2 v' u2 l' a' (xs ++ [tok]) := by
  have hle := h.below.size
  have hub : ∀ k, some k = u.ownBlock → k ≠ b := fun k hk2 hkb => (h.toks.choose_spec.1 k hk2.symm).2 hkb
  have hub2 : ∀ k, u.ownBlock = some k → w.heap.size ≤ k ∧ k < W.heap.size := fun k hk => ⟨Kd.S_base h.toks k hk, Kd.S_lt h.toks k hk⟩
  refine ⟨⟨blk_grown hr.blk hg (fun e => hub b e rfl), own_other hr.own hg ?_, hr.le⟩, ho, ?_, .inr fun k hk2 => Nat.le_trans hle (hn k hk2), ?_, h.blt, h.hB⟩
  · cases hv : v'.ownBlock with
    | none => exact .inl rfl
    | some k => exact .inr (fun e => by have := hn k hv; have := (hub2 k e.symm).2; omega)
  · refine Kept.of_grown hg (h.kept.then_ hk (fun k hk2 => .inl (.inl hk2))) (fun k hk2 => .inr (hub2 k hk2).1)
  · have h1 : Below B w W' := h.below.trans hbl
    exact ⟨hg.os.trans h1.os, hg.tape.trans h1.tape, hg.output.trans h1.output, Nat.le_trans h1.size hg.size, fun k hk2 => (hg.block k (Nat.lt_of_lt_of_le hk2 (Nat.le_trans h.hB h1.size)) (fun e => by have := (hub2 k e.symm).1; have := h.hB; omega)).trans (h1.block k hk2)⟩
def okp (W W5 : World) (k : Nat) : Prop := W.heap.size ≤ k ∧ k < W5.heap.size ∧ ∃ cells, W5.heap[k]? = some (.cells cells 3 (0, 0))
theorem tok_in {w W W5 : World} {B b : Nat} {v vi u v' : Value} {li l' : List Int} {ai a' : Int} {xs : List S32} {tok : S32} {cs : List Value} (h : PutInv w B b v W vi u li ai xs)
    (hr : Rdr W5 B b v' l' a') (hk : Kept W W5 (fun k => k = b)) (hn : ∀ k, v'.ownBlock = some k → W.heap.size ≤ k) (hM : k32.M W5 W.heap.size (fun _ => True) tok cs) :
    k32.M W5 w.heap.size (okp W W5) tok cs ∧ (∀ k, okp W W5 k → (some k ≠ v'.ownBlock ∧ k ≠ b) ∧ some k ≠ u.ownBlock) ∧ (∀ k, W5.heap.size ≤ k → some k ≠ v'.ownBlock ∧ k ≠ b) ∧
    Kd.S k32 32 W5 w.heap.size (fun k => (some k ≠ v'.ownBlock ∧ k ≠ b) ∧ ¬ okp W W5 k) u xs := by
  have hbl := h.rdr.lt
  refine ⟨?_, ?_, ?_, ?_⟩
  · refine k32.M_mono (fun k hk2 => ?_) (k32.M_lower h.below.size (k32.M_bound hM))
    obtain ⟨_, h1, h2, q, hq, cells, hc⟩ := hk2
    have : q = 3 := by simpa [k32, Kd.iso, Kd.pair, Kd.slice, Kd.int, Kd.scalar] using hq
    subst this
    exact ⟨h1, h2, cells, hc⟩
  · rintro k ⟨h1, h2, cells, hc⟩
    refine ⟨⟨own_ne hr.own hc (by decide), by omega⟩, fun e => ?_⟩
    have := Kd.S_lt h.toks k e.symm
    omega
  · exact fun k hk2 => ⟨fun e => by have := own_lt hr.own k e.symm; omega, by have := hr.lt; omega⟩
  · have h1 := Kd.S_bound h.toks
    have h2 := Kd.S_kept h1 hk (fun k hk2 => hk2.1.2)
    refine Kd.S_mono h2 (fun k hk2 => ⟨⟨fun e => by have := hn k e.symm; have := hk2.2.2.1; omega, hk2.1.2⟩, fun h3 => by have := h3.1; have := hk2.2.2.1; omega⟩)
theorem Rdr.rd {w : World} {B b : Nat} {A : Option Addr} {c : Nat} {l : List Int} {at_ : Int} (h : Rdr w B b (.slice A l.length c) l at_) : Kd.C (Kd.int .u8) w A l.length l := by
  obtain ⟨A2, c2, e2, hr⟩ := own_reads h.own
  injection e2 with e3 _ _
  subst e3
  exact Kd.C_of_reads (h1 := fun _ => rfl) hr
def PutP (w : World) (B b : Nat) (v : Value) (q : List S32 × List Int × Int) (x : Ending) (w' : World) : Prop := ∃ u v', x = .returned u ∧ PutInv w B b v w' v' u q.2.1 q.2.2 q.1
structure PutNow (k : Nat) (at_ : Int) (l1 : List Int) (kq : Nat) (li : List Int) (ai : Int) (xs : List S32) : Prop where
  ans : pF k at_ l1 = (xs ++ (pF kq ai li).1, (pF kq ai li).2)
  fuel : li.length < kq
  byt : Bytes li
  a0 : 0 ≤ ai
  asum : ai + li.length = at_ + l1.length
  few : xs.length + li.length ≤ l1.length
  kle : kq ≤ k
theorem PutNow.next {k : Nat} {at_ : Int} {l1 : List Int} {k1 : Nat} {li : List Int} {ai : Int} {xs : List S32} {n : Nat} {o : List Int} {e : Int} {q : Prop} (h : PutNow k at_ l1 (k1 + 1) li ai xs) (_hq : q)
    (ha : pF k at_ l1 = (xs ++ (⟨ai, n, o, e⟩ :: (pF k1 (ai + n) (li.drop (n : Int).toNat)).1), (pF k1 (ai + n) (li.drop (n : Int).toNat)).2)) (h1 : 1 ≤ n) (h2 : n ≤ li.length) :
    PutNow k at_ l1 k1 (li.drop (n : Int).toNat) (ai + n) (xs ++ [⟨ai, n, o, e⟩]) := by
  obtain ⟨h3, h4, h5, h6, h7, h8, h9⟩ := h
  refine ⟨by rw [ha]; simp, by simp; omega, h5.drop _, by omega, by simp; omega, by simp; omega, by omega⟩
set_option maxHeartbeats 1000000 in
theorem Put_calls (w : World) (B b : Nat) (v : Value) (l : List Int) (at_ c : Int) (h : Rdr w B b v l at_) (hB : B ≤ w.heap.size) (hl : l.length ≤ 100) (hy : Bytes (l ++ [c])) (h0 : 0 ≤ at_) (h1 : at_ + l.length ≤ 281474976710656) :
    Calls Try.prog 16 #[.pointer (some ⟨b, 0, none⟩), .int .u8 c] w (PutP w B b v (pF (l.length + 2) at_ (l ++ [c]))) := by
  obtain ⟨A, cc, rfl⟩ := h.form
  have hlt := h.lt
  have c0 := blk_cell h.blk 0
  replace c0 : w.cell? ⟨b, 0, none⟩ = some (.slice A l.length cc) := c0.trans rfl
  have H := Lib.hid h
  replace h := ()
  have hl1 : (l ++ [c]).length = l.length + 1 := by simp
  generalize hl1g : l ++ [c] = l1 at *
  go_enter Try.func16, Try.ntmps16
  go_wp2_with (first
    | ((with_reducible refine gate_builtin (b := .append) (xs := #[.tmp 13, .tmp 15]) rfl ?_); at_builtin; refine print_append_num (w0 := w) B rfl (.tmp 13) (.tmp 15) 22 5 .u8 1 rfl Try.underlying22 info5 (by omega) (.slice A l.length cc) l c rfl rfl H.out.own (Below.refl _ _) hB (by omega) ?_; intro v1 w1 ho hb hg hat; rw [hl1g] at ho; obtain ⟨A1, c1, rfl⟩ := own_slice ho; have hblk := Lib.hid (blk_grown H.out.blk hg H.out.ne); have f0 := blk_frozen hblk.out 0; have e0 : w1.cell? ⟨b, 0, none⟩ = some (.slice A l.length cc) := (blk_cell hblk.out 0).trans rfl; have ho := Lib.hid ho; have hb := Lib.hid hb; have hg := Lib.hid hg; have hat := Lib.hid hat; clear c0)
    | ((with_reducible refine gate_store (t := 22) (p := 18) rfl ?_); refine store_event (t := 22) (p := 18) (v := ?vo) (w1 := w1.setCell ⟨b, 0, none⟩ (.slice A1 l1.length c1)) ?hg ?ho ?hn ?hr ?_; (case ho => rfl); (case hg => rfl); (case hn => rfl); (case hr => first | (go_simp; done) | (go_simp; rfl)); intro w2 hw2; have I := Lib.hid (put_first H.out hB ho.out hb.out hg.out hat.out hw2); clear hw2 ho hb hg hat f0 e0 hblk H))
  go_loopg [5] (l.length + 2) (fun kq v5 w' => ∃ xs li ai vi, Hid (PutInv w B b (.slice A l.length cc) w' vi v5 li ai xs) ∧ Hid (PutNow (l.length + 2) at_ l1 kq li ai xs))
  case atStart => exact ⟨[], l1, at_, _, I, ⟨by simp, by omega, hy, h0, rfl, by simp, Nat.le_refl _⟩⟩
  case round =>
    clear I
    obtain ⟨xs, li, ai, vi, I, N⟩ := hrel
    obtain ⟨Ai, ci, rfl⟩ := I.out.rdr.form
    have cw0 : wr.cell? ⟨b, 0, none⟩ = some (.slice Ai li.length ci) := (blk_cell I.out.rdr.blk 0).trans rfl
    have hlen := hl1
    cases gk with
    | zero => exact absurd N.out.fuel (by omega)
    | succ k1 =>
      by_cases hli : li = []
      · subst hli
        have hans : Hid (pF (l.length + 2) at_ l1 = (xs, [], ai)) := by
          have := N.out.ans
          rw [pF_nil (k1 + 1)] at this
          exact Lib.hid (by simpa using this)
        go_wp2
        go_ret
        exact ⟨u5, _, rfl, by rw [hans.out]; exact I.out⟩
      · obtain ⟨n, s, e, hone, hn1, hn2, hn4, he, h2⟩ := one_far hli N.out.byt
        have hf := Lib.hid (show utf_One.f li = some (s, (n : Int), e) by rw [utf_One.of N.out.byt, hone])
        have hpos : (0 : Int) < (li.length : Int) := by omega
        have hR := Lib.hid I.out.rdr.rd
        have hC := Lib.hid (own_le I.out.rdr.own)
        by_cases he2 : e = 2
        · subst he2
          have hans : Hid (pF (l.length + 2) at_ l1 = (xs, li, ai)) := by
            have := N.out.ans
            rw [pF_short (f := k1 + 1) hone] at this
            exact Lib.hid (by simpa using this)
          go_wp2_with (first
            | ((with_reducible refine gate_callee (f := 18) rfl ?_); refine goesL_ (some 30) rfl rfl Try.func18 (by kernel_rfl) rfl #[.slice Ai li.length ci] rfl (by (try simp only [List.map_toArray, List.map_cons, List.map_nil]); first | done | rfl) ?_; refine (utf_One.calls Ai ci li s n 2 _ hR.out hC.out hf.out).mono ?_; rintro e w' ⟨rfl, ⟨nd, rfl⟩⟩; refine ⟨_, rfl, ?_⟩; generalize hq : World.drewN wr nd = w4; have I := Lib.hid (show PutInv w B b (.slice A l.length cc) w4 (.slice Ai li.length ci) u5 li ai xs by rw [← hq]; exact I.out.keep (pw_below_drewN (Below.refl _ _) nd)); clear hq))
          go_ret
          exact ⟨u5, _, rfl, by rw [hans.out]; exact I.out⟩
        · have hee : (e == 2) = false := beq_eq_false_iff_ne.mpr he2
          have hans := Lib.hid N.out.ans
          rw [pF_tok (f := k1) hli hone he2] at hans
          generalize hog : (if e = 0 then [s] else []) = o at hans
          have hfew := Lib.hid N.out.few
          have hfl : li.length ≤ 140737488355328 := by have := N.out.few; omega
          have hx48 : Hid ((xs.length + 1) * 48 ≤ 140737488355328) := by have := N.out.few; exact Lib.hid (by omega)
          go_wp2_with (first
            | ((with_reducible refine gate_callee (f := 18) rfl ?_); refine goesL_ (some 30) rfl rfl Try.func18 (by kernel_rfl) rfl #[.slice Ai li.length ci] rfl (by (try simp only [List.map_toArray, List.map_cons, List.map_nil]); first | done | rfl) ?_; refine (utf_One.calls Ai ci li s n e _ hR.out hC.out hf.out).mono ?_; rintro e2 w' ⟨rfl, ⟨nd, rfl⟩⟩; refine ⟨_, rfl, ?_⟩; generalize hq : World.drewN wr nd = w4; have I := Lib.hid (show PutInv w B b (.slice A l.length cc) w4 (.slice Ai li.length ci) u5 li ai xs by rw [← hq]; exact I.out.keep (pw_below_drewN (Below.refl _ _) nd)); clear hq)
            | ((with_reducible refine gate_callee (f := 31) rfl ?_); refine goesL_ (some 41) rfl rfl Try.func31 (by kernel_rfl) rfl #[.pointer (some ⟨b, 0, none⟩), .int .i64 s, .int .i64 n, .int .i64 e] rfl (by (try simp only [List.map_toArray, List.map_cons, List.map_nil]); first | done | rfl) ?_; refine (take_calls w4 B b _ li ai s n e I.out.rdr (by omega) (by omega) (Nat.le_trans hB I.out.below.size) hfl).mono ?_; rintro e2 w5 ⟨cs, v', rfl, hM, hr, hk, hn, hbl⟩; rw [hog] at hM; obtain ⟨v2, rfl, hv2⟩ := k32_openM hM; obtain ⟨Ao, co, rfl⟩ := Kd.R_slice hv2; refine ⟨_, rfl, ?_⟩; have hM := Lib.hid hM; have hv2 := Lib.hid hv2; have hr := Lib.hid hr; have hk := Lib.hid hk; have hn := Lib.hid hn; have hbl := Lib.hid hbl)
            | ((with_reducible refine gate_builtin (b := .append) (xs := #[.tmp 36, .tmp 42]) rfl ?_); at_builtin; obtain ⟨q1, q2, q3, q4⟩ := tok_in I.out hr.out hk.out hn.out hM.out; refine Kd.S_append k32 (w0 := w5) w.heap.size rfl (.tmp 36) (.tmp 42) 27 32 (.agg #[(.int .i64 0), (.int .i64 0), (.slice none 0 0), (.int .i64 0)]) 48 rfl Try.underlying27 info32 rfl (by decide) (by omega) u5 xs (⟨ai, n, o, e⟩ : S32) [.int .i64 ai, .int .i64 n, .slice Ao o.length co, .int .i64 e] _ (okp w4 w5) rfl rfl q1 q2 q3 q4 (Below.refl _ _) ?aS hx48.out ?_; (case aS => exact Nat.le_trans I.out.below.size hk.out.1); intro v6 w6 ho hb hg hat; have I2 := Lib.hid (I.out.step hr.out hk.out hn.out hbl.out ho hg); clear q1 q2 q3 q4 ho hb hg hat hM hv2 hr hk hn hbl I))
          have hw : wrap64 (ai + n) = ai + n := by have := N.out.a0; have := N.out.asum; unfold wrap64; omega
          rw [hw] at I2
          go_roundg k1
          case measure => exact Nat.lt_succ_self _
          case rel => exact ⟨_, _, _, _, I2, N.out.next hog hans.out hn1 hn2⟩
end Go.Proofs.Ytdhpldiahgajcaa.PUtfAll
