/- The walk of layer 2's law CarryEnd: it returns true; no condition but what a row hands on. -/
import Derived.Test.YtdhpldiahgajcaaK11
namespace Go.Proofs.Ytdhpldiahgajcaa.PUtfAll
open Go.RowKit Go.Proofs.YtdhpldiahgajcaaW.PrintWords Go.Proofs.YtdhpldiahgajcaaW.PrintLast Go.Proofs.YtdhpldiahgajcaaW.PrintMore Go.Proofs.Ytdhpldiahgajcaa
set_option linter.unusedVariables false
theorem all_pos : ∀ (f : Nat) (a : Int) (l : List Int), Bytes l → ∀ t ∈ allF f a l, a ≤ t.f0 ∧ t.f0 ≤ a + l.length := by
  intro f
  induction f with
  | zero => intro a l _ t ht; simp [allF] at ht
  | succ f ih =>
    intro a l hB t ht
    unfold allF at ht
    by_cases h0 : l = []
    · rw [if_pos h0] at ht; simp at ht
    · obtain ⟨n, s, e, h1, h2, h3, h4, h5, h6⟩ := one_far h0 hB
      rw [if_neg h0, h1] at ht
      rcases List.mem_cons.1 ht with rfl | ht
      · exact ⟨Int.le_refl _, by show a ≤ a + (l.length : Int); omega⟩
      · have := ih _ _ (hB.drop _) t ht
        simp at this
        omega
/-- tokens of which the first k stand already where they are wanted -/
def mixF (d : Int) (tb : List S32) (k : Nat) : List S32 := tb.take k ++ (tb.drop k).map (shf d)
theorem mix_zero (d : Int) (tb : List S32) : mixF d tb 0 = tb.map (shf d) := by simp [mixF]
theorem mix_all (d : Int) (tb : List S32) {k : Nat} (h : tb.length ≤ k) : mixF d tb k = tb := by simp [mixF, List.take_of_length_le h, List.drop_eq_nil_of_le h]
theorem mix_len (d : Int) (tb : List S32) (k : Nat) : (mixF d tb k).length = tb.length := by simp [mixF]; omega
theorem mix_get (d : Int) (tb : List S32) {k : Nat} (h : k < tb.length) : (mixF d tb k).getD k z32 = shf d tb[k] := by
  have hm : min k tb.length = k := by omega
  simp [mixF, List.getElem?_append, hm, h]
theorem mix_set (d : Int) (tb : List S32) {k : Nat} (h : k < tb.length) : (mixF d tb k).set k tb[k] = mixF d tb (k + 1) := by
  unfold mixF
  rw [List.set_append_right _ _ (by simp; omega)]
  have e : k - (tb.take k).length = 0 := by simp; omega
  rw [e, List.drop_eq_getElem_cons h, List.map_cons, List.set_cons_zero, List.take_add_one, List.getElem?_eq_getElem h]
  simp only [Option.toList_some, List.append_assoc, List.singleton_append]
/-- what stays beside the second row while it is set right -/
structure EndNow (W w' : World) (B1 N0 g : Nat) (uX : Value) (ta : List S32) (uY : Value) (tb : List S32) (d : Int) (v8 : Value) (n : Int) (k kq : Nat) : Prop where
  sum : k + kq = tb.length
  X : Kd.R k32 32 w' B1 (fun k => k < N0) uX ta
  Y : Kd.R k32 32 w' N0 (fun k => some k ≠ v8.ownBlock ∧ k ≠ g) uY (mixF d tb k)
  rdr : Rdr w' W.heap.size g v8 [] n
  below : Below W.heap.size W w'
  n0 : W.heap.size ≤ N0
theorem EndNow.next {W w' w2 : World} {B1 N0 g gY cap : Nat} {uX : Value} {ta tb : List S32} {d : Int} {v8 : Value} {n : Int} {k kq : Nat} (h : EndNow W w' B1 N0 g uX ta (.slice (some ⟨gY, 0, none⟩) tb.length cap) tb d v8 n k (kq + 1))
    (hY : Kd.R k32 32 w2 N0 (fun k => some k ≠ v8.ownBlock ∧ k ≠ g) (.slice (some ⟨gY, 0, none⟩) tb.length cap) (mixF d tb (k + 1))) (hb : Below N0 w' w2) (hg : w'.grownBy w2 (some gY)) :
    EndNow W w2 B1 N0 g uX ta (.slice (some ⟨gY, 0, none⟩) tb.length cap) tb d v8 n (k + 1) kq := by
  have hgY := h.Y.1 gY (by simp [Value.ownBlock])
  have hge : N0 ≤ gY := Kd.R_base h.Y gY (by simp [Value.ownBlock])
  refine ⟨by have := h.sum; omega, Kd.R_grown h.X hg (fun k hk e => by injection e with e; omega), hY, ⟨blk_grown h.rdr.blk hg (fun e => by injection e with e; exact hgY.2 e.symm), own_other h.rdr.own hg ?_, h.rdr.le⟩, h.below.trans (hb.mono h.n0), h.n0⟩
  cases hv : v8.ownBlock with
  | none => exact .inl rfl
  | some k => exact .inr (fun e => hgY.1 (by rw [hv]; exact e.symm))
/-- a reader's first text is behind: Feed and End -/
structure EndOne (W w3 w6 : World) (g : Nat) (v : Value) (u : Value) (n : Int) (ta : List S32) : Prop where
  inv : TokInv w3 W.heap.size g (.slice none 0 0) w6 v u [] n ta
  below : Below W.heap.size W w6
theorem eF_wait (a : Int) (l : List Int) : (eF a l).2.1 = [] ∧ (eF a l).2.2 = a + l.length := by
  unfold eF; split
  · next h => subst h; simp
  · exact ⟨rfl, rfl⟩
theorem EndOne.of {W w3 w4 w5 w6 : World} {g : Nat} {u u5 u6 v' v5 : Value} {q : List S32 × List Int × Int} {n : Int} {ta : List S32} (h : TokInv w3 W.heap.size g (.slice none 0 0) w4 v' u q.2.1 q.2.2 q.1) (hB : Below W.heap.size W w3)
    (I : TokInv w4 W.heap.size g v' w5 v5 u5 (eF q.2.2 q.2.1).2.1 (eF q.2.2 q.2.1).2.2 (eF q.2.2 q.2.1).1) (ho : Kd.R k32 32 w6 w3.heap.size (fun k => some k ≠ v5.ownBlock ∧ k ≠ g) u6 (q.1 ++ (eF q.2.2 q.2.1).1)) (hg : w5.grownBy w6 u.ownBlock)
    (hn : q.2.2 + q.2.1.length = n) (ht : q.1 ++ (eF q.2.2 q.2.1).1 = ta) : EndOne W w3 w6 g v5 u6 n ta := by
  have := h.next I ho hg
  rw [ht, (eF_wait _ _).1, (eF_wait _ _).2, hn] at this
  exact ⟨this, hB.trans this.below⟩
/-- and its second text -/
theorem end_two {W w3 w6 w7 w8 w9 : World} {g : Nat} {v u u7 u8 u9 v7 v8 : Value} {n n2 d : Int} {ta tb : List S32} {q : List S32 × List Int × Int} (h : EndOne W w3 w6 g v u n ta) (I : TokInv w6 W.heap.size g v w7 v7 u7 q.2.1 q.2.2 q.1)
    (J : TokInv w7 W.heap.size g v7 w8 v8 u8 (eF q.2.2 q.2.1).2.1 (eF q.2.2 q.2.1).2.2 (eF q.2.2 q.2.1).1) (ho : Kd.R k32 32 w9 w6.heap.size (fun k => some k ≠ v8.ownBlock ∧ k ≠ g) u9 (q.1 ++ (eF q.2.2 q.2.1).1)) (hg : w8.grownBy w9 u7.ownBlock)
    (hn : q.2.2 + q.2.1.length = n2) (ht : q.1 ++ (eF q.2.2 q.2.1).1 = tb.map (shf d)) : EndNow W w9 w3.heap.size w6.heap.size g u ta u9 tb d v8 n2 0 tb.length := by
  have hY := I.next J ho hg
  rw [(eF_wait _ _).1, (eF_wait _ _).2, hn] at hY
  have hX := Kd.R_kept (Kd.R_bound h.inv.toks) hY.kept (fun k hk h3 => h3.elim hk.1.2 hk.1.1)
  refine ⟨by omega, Kd.R_mono hX (fun k hk => hk.2.2.1), ?_, hY.rdr, h.below.trans hY.below, h.below.size⟩
  rw [mix_zero, ← ht]
  exact hY.toks
theorem tok_cells {w : World} {base g n cap : Nat} {ok : Nat → Prop} {xs : List S32} {k : Nat} (h : Kd.R k32 32 w base ok (.slice (some ⟨g, 0, none⟩) n cap) xs) (hk : k < n) (x : Int) :
    ∃ (v2 : Value), w.cell? ⟨g, k * 4, none⟩ = some (.int .i64 (xs.getD k z32).f0) ∧ (∀ (j : Nat) u, [Value.int .i64 (xs.getD k z32).f0, .int .i64 (xs.getD k z32).f1, v2, .int .i64 (xs.getD k z32).f3][j]? = some u → w.cell? ⟨g, (k : Int).toNat * k32.sz + j, none⟩ = some u) ∧
      k32.M w base (fun k => ok k ∧ k ≠ g) ⟨x, (xs.getD k z32).f1, (xs.getD k z32).f2, (xs.getD k z32).f3⟩ [.int .i64 x, .int .i64 (xs.getD k z32).f1, v2, .int .i64 (xs.getD k z32).f3] := by
  obtain ⟨c, hcl, hM, hcc, _⟩ := Kd.R_elem h z32 (k : Int) (by omega) (by omega)
  rw [Int.toNat_natCast] at hM hcc
  obtain ⟨v2, rfl, hv2⟩ := k32_openM hM
  refine ⟨v2, ?_, fun j u hj => by rw [Int.toNat_natCast]; exact hcc j u hj, k32_mkM _ _ _ ⟨x, _, _, _⟩ (Kd.R_mono hv2 (fun k hk => hk))⟩
  have := hcc 0 _ rfl
  rw [Nat.add_zero] at this
  exact this
theorem shf_zero (l : List S32) : l.map (shf 0) = l := by
  have : ∀ t : S32, shf 0 t = t := fun t => by cases t; simp [shf]
  induction l with
  | nil => rfl
  | cons x r ih => rw [List.map_cons, ih, this]
theorem end_pure (a0 : Int) (n : Nat) {bs : List Int} (hB : Bytes bs) (h0 : 0 ≤ a0) (h1 : a0 ≤ 1048576) (hl : bs.length ≤ 1048576) : ∃ q : List S32 × List Int × Int, feedF a0 [] bs = q ∧ q.2.1.length ≤ 100 ∧ 0 ≤ q.2.2 ∧ q.2.2 + q.2.1.length = a0 + bs.length ∧
    q.1 ++ (eF q.2.2 q.2.1).1 = (allF (bs.length + 1) 0 bs).map (shf a0) ∧ (q.1.length + (eF q.2.2 q.2.1).1.length) * 48 ≤ 140737488355328 ∧ q.2.2 + q.2.1.length ≤ 281474976710656 := by
  obtain ⟨f1, f2, f3, f4, f5, f6⟩ := feed_at (bs := bs) (a := a0) (l := []) waits_nil (by simpa using hB)
  rw [List.nil_append] at f4 f6
  have h2 := feed_all bs a0 (bs.length + 1) hB (by omega)
  rw [show a0 = 0 + a0 by omega, all_shift, show 0 + a0 = a0 by omega] at h2
  have h6 : (eF (feedF a0 [] bs).2.2 (feedF a0 [] bs).2.1).1.length ≤ 1 := by unfold eF; split <;> simp
  exact ⟨_, rfl, by omega, by omega, f4, h2, by omega, by omega⟩
theorem at_pn {P : Program} {f n c : Nat} {p : Value} {A : Option Addr} {w : World} {Q : Ending → World → Prop} (h : Calls P f #[p, .slice A n c] w Q) : Calls P f #[p, .slice A n c] w Q := h
theorem store3 : (Try.prog.info? 3).map (·.size) = some 1 := by kernel_rfl
theorem holdx {p q : Prop} (_ : p) (h : q) : q := h
theorem EndNow.form {W w' : World} {B1 N0 g : Nat} {uX : Value} {ta : List S32} {uY : Value} {tb : List S32} {d : Int} {v8 : Value} {n : Int} {k kq : Nat} (h : EndNow W w' B1 N0 g uX ta uY tb d v8 n k kq) : ∃ A c, uY = .slice A tb.length c := by
  obtain ⟨A, c, e⟩ := Kd.R_slice h.Y
  rw [mix_len] at e
  exact ⟨A, c, e⟩
theorem EndNow.head {W w' : World} {B1 N0 g : Nat} {uX : Value} {ta : List S32} {A : Option Addr} {c : Nat} {tb : List S32} {d : Int} {v8 : Value} {n : Int} {k kq : Nat} (h : EndNow W w' B1 N0 g uX ta (.slice A tb.length c) tb d v8 n k kq) (hp : 0 < tb.length) : ∃ gY, A = some ⟨gY, 0, none⟩ := by
  obtain ⟨g2, c2, e, _⟩ := Kd.R_form h.Y (by rw [mix_len]; exact hp)
  injection e with e1 _ _
  exact ⟨g2, e1⟩
theorem end_wrap {x : Int} (h0 : 0 ≤ x) (h1 : x ≤ 1048576) : wrap64 x = x := by unfold wrap64; omega
set_option maxHeartbeats 4000000 in
theorem CarryEnd_row (W : World) (A : Option Addr) (cap : Nat) (la0 : List Int) (r : RowAt .u8 W A la0) (s : la0.length * 1 ≤ 140737488351232) (f : ∀ n ∈ la0, (Lit.int .u8 n).wf = true) (hca0 : la0.length ≤ cap)
    (A1 : Option Addr) (cap1 : Nat) (lb0 : List Int) (r1 : RowAt .u8 W A1 lb0) (s1 : lb0.length * 1 ≤ 140737488351232) (f1 : ∀ n ∈ lb0, (Lit.int .u8 n).wf = true) (hcb0 : lb0.length ≤ cap1) (hk : la0.length + lb0.length ≤ 1048576) :
    Calls Try.prog 10 #[.slice A la0.length cap, .slice A1 lb0.length cap1] W fun e w' => e = .returned (.bool true) ∧ Below W.heap.size W w' := by
  have HYYa := Lib.hid (bytes_wf f)
  have HYYb := Lib.hid (bytes_wf f1)
  have HCa := Lib.hid (C_of_row r (by omega))
  have HCb := Lib.hid (C_of_row r1 (by omega))
  have HKa := Lib.hid hca0
  have HKb := Lib.hid hcb0
  replace r := ()
  replace f := ()
  replace r1 := ()
  replace f1 := ()
  have hsa : la0.length ≤ 1048576 := by omega
  have hsb : lb0.length ≤ 1048576 := by omega
  clear s s1 hk hca0 hcb0
  have HB := Lib.hid (Below.refl W.heap.size W)
  obtain ⟨qa, e1, e2, e3, e4, e5, e6, e7⟩ := end_pure 0 0 HYYa.out (by omega) (by omega) hsa
  rw [shf_zero] at e5
  rw [show (0 : Int) + (la0.length : Int) = (la0.length : Int) by omega] at e4
  obtain ⟨qb, g1, g2, g3, g4, g5, g6, g7⟩ := end_pure (la0.length : Int) 0 HYYb.out (by omega) (by omega) hsb
  have FA := Lib.hid e1
  have FB := Lib.hid g1
  have LA := Lib.hid e2
  have LB := Lib.hid g2
  have PA := Lib.hid e3
  have PB := Lib.hid g3
  have UA := Lib.hid e7
  have UB := Lib.hid g7
  have EA := Lib.hid e4
  have EB := Lib.hid g4
  have TA := Lib.hid e5
  have TB := Lib.hid g5
  have HXqa := Lib.hid e6
  have HXqb := Lib.hid g6
  have Sa := Lib.hid (same_all (la0.length + 1) 0 HYYa.out (by omega))
  have Sb := Lib.hid (same_all (lb0.length + 1) 0 HYYb.out (by omega))
  have Aa := Lib.hid (all_f HYYa.out (by omega))
  have Ab := Lib.hid (all_f HYYb.out (by omega))
  have hpos := all_pos (lb0.length + 1) 0 lb0 HYYb.out
  replace hpos : Hid (∀ t ∈ allF (lb0.length + 1) 0 lb0, 0 ≤ t.f0 ∧ t.f0 ≤ 1048576) := Lib.hid (fun t ht => by have := hpos t ht; omega)
  have htl : (allF (lb0.length + 1) 0 lb0).length ≤ 1048576 := by have := all_len (lb0.length + 1) 0 lb0 HYYb.out; omega
  clear e1 e2 e3 e4 e5 e6 e7 g1 g2 g3 g4 g5 g6 g7
  generalize allF (la0.length + 1) 0 la0 = ta at *
  generalize allF (lb0.length + 1) 0 lb0 = tb at *
  have hn2 : Hid (((la0.length : Int) + (lb0.length : Int)) + (([] : List Int).length : Int) ≤ 281474976710656) := Lib.hid (by simp; omega)
  have hn0 : Hid (0 ≤ (la0.length : Int) + (lb0.length : Int)) := Lib.hid (by omega)
  generalize hsumg : (la0.length : Int) + (lb0.length : Int) = nn at *
  clear hsumg
  go_enter Try.func10, Try.ntmps10
  go_wp2_with (first
    | (go_at_call 15; refine (awake2_calls _).mono ?_; rintro e w1 ⟨rfl, hb⟩; replace HB := Lib.hid hb; clear hb)
    | ((with_reducible refine gate_dst (N := 12) rfl ?_); refine box_event ?hg (N := 12) ?hd (cs := #[.slice none 0 0, .int .i64 0]) (t := 26) ?hr ?_; (case hd => rfl); (case hg => rfl); (case hr => first | (go_simp; done) | (go_simp; rfl)); intro g hg w3 K hb; have R := Lib.hid (Rdr.fresh (B := W.heap.size) hg K HB.out.size); have HB := Lib.hid (HB.out.trans (hb.mono HB.out.size)); clear K hb hg)
    | (go_at_call 26; (with_reducible refine at_pn (A := A) ?_); refine (Feed_calls W _ W.heap.size g _ [] 0 A cap la0 R.out HB.out.size HCa.out HB.out (Nat.le_refl _) waits_nil (by intro x hx; simp at hx) HYYa.out (by omega) (by simp; omega) (by omega)).mono ?_; rintro e w4 ⟨u4, v4, rfl, I4⟩; rw [FA.out] at I4; replace I4 := Lib.hid I4; clear R)
    | (go_at_call 19; (with_reducible refine holdx I4 ?_); refine (End_calls _ W.heap.size g v4 qa.2.1 qa.2.2 I4.out.rdr (HB.out.trans I4.out.below).size LA.out PA.out UA.out).mono ?_; rintro e w5 ⟨u5, v5, rfl, I5⟩; replace I5 := Lib.hid (TokInv.of I5))
    | ((with_reducible refine gate_builtin (b := .append) (xs := #[.tmp 15, .tmp 17]) rfl ?_); at_builtin; obtain ⟨q1, ⟨A3, c3, rfl, q2⟩, q3, q4, q5⟩ := I4.out.app I5.out; refine Kd.R_append_rows k32 (w0 := w5) w3.heap.size rfl (.tmp 15) (.tmp 17) 27 32 (.agg #[(.int .i64 0), (.int .i64 0), (.slice none 0 0), (.int .i64 0)]) 48 rfl Try.underlying27 info32 rfl (by decide) (by omega) u4 qa.1 (eF qa.2.2 qa.2.1).1 A3 _ c3 _ (okq w4 g v5) rfl rfl q1 q2 (fun _ _ hm => hm) q3 q4 (Below.refl _ _) q5 HXqa.out ?_; intro u6 w6 hox hbx hg hat; have O := Lib.hid (EndOne.of I4.out HB.out I5.out hox hg EA.out TA.out); clear I4 I5; clear q1 q2 q3 q4 q5 hox hbx hg hat)
    | (go_at_call 26; (with_reducible refine at_pn (A := A1) ?_); refine (Feed_calls W _ W.heap.size g v5 [] (la0.length : Int) A1 cap1 lb0 O.out.inv.rdr O.out.below.size HCb.out O.out.below (Nat.le_refl _) waits_nil (by intro x hx; simp at hx) HYYb.out (by omega) (by simp; omega) (by omega)).mono ?_; rintro e w7 ⟨u7, v7, rfl, I7⟩; rw [FB.out] at I7; replace I7 := Lib.hid I7)
    | (go_at_call 19; (with_reducible refine holdx I7 ?_); refine (End_calls _ W.heap.size g v7 qb.2.1 qb.2.2 I7.out.rdr (O.out.below.trans I7.out.below).size LB.out PB.out UB.out).mono ?_; rintro e w8 ⟨u8, v8, rfl, I8⟩; replace I8 := Lib.hid (TokInv.of I8))
    | ((with_reducible refine gate_builtin (b := .append) (xs := #[.tmp 21, .tmp 23]) rfl ?_); at_builtin; obtain ⟨q1, ⟨A3, c3, rfl, q2⟩, q3, q4, q5⟩ := I7.out.app I8.out; refine Kd.R_append_rows k32 (w0 := w8) w6.heap.size rfl (.tmp 21) (.tmp 23) 27 32 (.agg #[(.int .i64 0), (.int .i64 0), (.slice none 0 0), (.int .i64 0)]) 48 rfl Try.underlying27 info32 rfl (by decide) (by omega) u7 qb.1 (eF qb.2.2 qb.2.1).1 A3 _ c3 _ (okq w7 g v8) rfl rfl q1 q2 (fun _ _ hm => hm) q3 q4 (Below.refl _ _) q5 HXqb.out ?_; intro u9 w9 hox hbx hg hat; have Z := Lib.hid (end_two O.out I7.out I8.out hox hg EB.out TB.out); obtain ⟨A9, c9, rfl⟩ := Z.out.form; clear I7 I8 O; clear q1 q2 q3 q4 q5 hox hbx hg hat))
  clear TA TB FA FB LA LB PA PB UA UB EA EB HXqa HXqb
  go_loopg [27] tb.length (fun kq v27 w' => ∃ (k : Nat), v27 = .int .i64 k ∧ Hid (EndNow W w' w3.heap.size w6.heap.size g u6 ta (.slice A9 tb.length c9) tb la0.length v8 nn k kq))
  case atStart => exact ⟨0, rfl, Z⟩
  case round =>
    clear Z HB
    obtain ⟨k, rfl, Z⟩ := hrel
    cases gk with
    | zero =>
      have hkn : tb.length ≤ k := by have := Z.out.sum; omega
      have hkn2 : k = tb.length := by have := Z.out.sum; omega
      have HB := Lib.hid Z.out.below
      have R := Lib.hid Z.out.rdr
      obtain ⟨A6, c6, rfl, hc6, hC6⟩ := R_len Z.out.X rfl
      have HD := Lib.hid hc6
      have HE := Lib.hid hC6
      have hY := Z.out.Y
      rw [mix_all _ _ hkn] at hY
      obtain ⟨_, hcy, hCy⟩ := Kd.R_reads' hY
      have HF := Lib.hid hcy
      have HG := Lib.hid hCy
      clear hY hcy hCy hc6 hC6 Z hkn
      have hq : eF nn [] = ([], [], nn) := rfl
      have hq := Lib.hid hq
      go_wp2_with (first
        | (go_at_call 27; (with_reducible refine at_sl1 (A := A) ?_); refine (utf_All.calls _ A _ la0 ta _ (Kd.C_below HCa.out HB.out) HKa.out Aa.out).mono ?_; rintro e w10 ⟨v10, rfl, hs7, hb⟩; obtain ⟨A10, c10, rfl, hc7, hC7⟩ := Kd.S_reads hs7; have HH := Lib.hid hc7; have HI := Lib.hid hC7; have HE := Lib.hid (Kd.C_below HE.out hb); have HG := Lib.hid (Kd.C_below HG.out hb); have R := Lib.hid (R.out.keep hb); have HB := Lib.hid (HB.out.trans (hb.mono HB.out.size)); clear hs7 hb hc7 hC7)
        | (go_at_call 25; (with_reducible refine at_sl2 (A := A6) ?_); refine (lontarlaw01_Same.calls _ A6 c6 ta A10 c10 ta true _ HE.out HD.out HI.out HH.out Sa.out).mono ?_; rintro e w11 ⟨rfl, hb⟩; have HG := Lib.hid (Kd.C_below HG.out hb); have R := Lib.hid (R.out.keep hb); have HB := Lib.hid (HB.out.trans (hb.mono HB.out.size)); clear hb)
        | (go_at_call 27; (with_reducible refine at_sl1 (A := A1) ?_); refine (utf_All.calls _ A1 _ lb0 tb _ (Kd.C_below HCb.out HB.out) HKb.out Ab.out).mono ?_; rintro e w12 ⟨v12, rfl, hs7, hb⟩; obtain ⟨A12, c12, rfl, hc7, hC7⟩ := Kd.S_reads hs7; have HJ := Lib.hid hc7; have HL := Lib.hid hC7; have HG := Lib.hid (Kd.C_below HG.out hb); have R := Lib.hid (R.out.keep hb); have HB := Lib.hid (HB.out.trans (hb.mono HB.out.size)); clear hs7 hb hc7 hC7)
        | (go_at_call 25; (with_reducible refine at_sl2 (A := A9) ?_); refine (lontarlaw01_Same.calls _ A9 c9 tb A12 c12 tb true _ HG.out HF.out HL.out HJ.out Sb.out).mono ?_; rintro e w13 ⟨rfl, hb⟩; have R := Lib.hid (R.out.keep hb); have HB := Lib.hid (HB.out.trans (hb.mono HB.out.size)); clear hb)
        | (go_at_call 19; refine (End_one _ _ g v8 [] nn R.out (by simp) hn0.out hn2.out).mono ?_; rintro e w14 ⟨A14, c14, v14, rfl, _, R14, hb⟩; rw [hq.out]; have HB := Lib.hid (HB.out.trans hb); clear hb R14))
      all_goals go_ret
      all_goals exact ⟨rfl, HB.out⟩
    | succ kq =>
      have hkl : k < tb.length := by have := Z.out.sum; omega
      have hkI : (k : Int) < (tb.length : Int) := by omega
      obtain ⟨gY, rfl⟩ := Z.out.head (by omega)
      have hgt := mix_get (la0.length : Int) tb hkl
      have hset := mix_set (la0.length : Int) tb hkl
      have hp2 := hpos.out tb[k] (List.getElem_mem _)
      generalize tb[k] = tk at hgt hset hp2
      obtain ⟨v2, hcell, hcc, hM⟩ := tok_cells Z.out.Y hkl (wrap64 tk.f0)
      rw [hgt] at hcell hcc hM
      replace hcell : wr.cell? ⟨gY, k * 4, none⟩ = some (.int .i64 (tk.f0 + (la0.length : Int))) := hcell
      have hww : wrap64 tk.f0 = tk.f0 := end_wrap hp2.1 hp2.2
      have hxx : (⟨wrap64 tk.f0, (shf (la0.length : Int) tk).f1, (shf (la0.length : Int) tk).f2, (shf (la0.length : Int) tk).f3⟩ : S32) = tk := by rw [hww]; rfl
      rw [hxx] at hM
      clear hxx hww
      have hwk := twice_num hkl htl
      have HCC := Lib.hid hcc
      have HM := Lib.hid hM
      replace hset := Lib.hid hset
      clear hcc hM hgt hp2
      go_wp2_with (first
        | ((with_reducible refine gate_store (t := 3) (p := 39) rfl ?_); refine Kd.R_store k32 (w0 := wr) w6.heap.size rfl rfl 3 (.tmp 39) (.tmp 37) rfl 32 (g := gY) (n := tb.length) (cap := c9) (o' := k * 4) (k : Int) 0 (mixF (la0.length : Int) tb k) tk (.int .i64 (wrap64 tk.f0)) [.int .i64 (wrap64 tk.f0)] [.int .i64 (tk.f0 + (la0.length : Int)), .int .i64 tk.f1, v2, .int .i64 tk.f3] (fun k => some k ≠ v8.ownBlock ∧ k ≠ g) (fun k => (some k ≠ v8.ownBlock ∧ k ≠ g) ∧ k ≠ gY) rfl ?hoff rfl rfl store3 (by simp [Value.oneCell']) Z.out.Y (by omega) (by omega) rfl HCC.out (show 0 + 1 ≤ 4 by omega) HM.out (fun _ hk => hk) (Below.refl _ _) ?_; (case hoff => rw [Int.toNat_natCast]; rfl); intro w15 hr hb hg; rw [Int.toNat_natCast, hset.out] at hr; replace Z := Lib.hid (Z.out.next hr hb hg); clear hr hb hg hset HCC HM))
      go_roundg kq
      case measure => exact Nat.lt_succ_self _
      case rel => exact ⟨k + 1, congrArg (Value.int .i64) (by first | exact hwk | rfl), Z⟩
end Go.Proofs.Ytdhpldiahgajcaa.PUtfAll
