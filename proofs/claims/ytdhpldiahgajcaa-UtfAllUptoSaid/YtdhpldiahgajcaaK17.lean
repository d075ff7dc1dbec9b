/- The walk of layer 1's law UtfAll: it returns true; no condition but what a row hands on. -/
import Derived.Test.YtdhpldiahgajcaaV11
import Derived.Test.YtdhpldiahgajcaaV7
import Derived.Test.YtdhpldiahgajcaaK16
namespace Go.Proofs.Ytdhpldiahgajcaa.PUtfAll
open Go.RowKit Go.Proofs.YtdhpldiahgajcaaW.PrintWords Go.Proofs.YtdhpldiahgajcaaW.PrintLast Go.Proofs.YtdhpldiahgajcaaW.PrintMore Go.Proofs.Ytdhpldiahgajcaa
set_option linter.unusedVariables false
set_option linter.unusedSimpArgs false
abbrev Y : Bool := true
abbrev Z : Bool := false
section
variable {P : Program} {ops : Array Oper} {oi : Oper} {a : Act} {K : Act → World → Prop} {Q : Exit → Act → World → Prop}
theorem lits_step {W : World} (hw : Region.wanted oi (yielded ops a.tmps) = true) {N : Option Tmp} (hN : oi.dst = N) {cs : Array Value} {t n : Nat}
    (hrun : (execOp a.eval oi).run P W = .ok (.value (.slice (some ⟨W.heap.size, 0, none⟩) n n)) (W.alloc (.cells cs t (0, 0))))
    (h : ∀ g w1, w1.heap[g]? = some (.cells cs t (0, 0)) → Below W.heap.size W w1 → K (a.put N (.slice (some ⟨g, 0, none⟩) n n)) w1) : if Region.wanted oi (yielded ops a.tmps) = true then Oper.wp P oi a W K Q else K (a.put N undef) W :=
  value_ hw hN hrun (h _ _ (blk_new W _) (below_alloc (Below.refl _ _) _))
end
/-- the texts that a law reads, none longer than M -/
def TextsB (w : World) (g n M : Nat) : Prop := ∀ k, k < n → ∃ (A : Option Addr) (c : Nat) (l : List Int), w.cell? ⟨g, k, none⟩ = some (.slice A l.length c) ∧ Kd.C (Kd.int .u8) w A l.length l ∧ l.length ≤ c ∧ Bytes l ∧ l.length ≤ M
theorem TextsB.keep {w w' : World} {g n M : Nat} (h : TextsB w g n M) (hb : Below w.heap.size w w') : TextsB w' g n M := fun k hk => by
  obtain ⟨A, c, l, h1, h2, h3, h4, h5⟩ := h k hk
  exact ⟨A, c, l, cell_kept h1 (Kept.of_below hb (fun _ => False)) (fun h => h), Kd.C_below h2 hb, h3, h4, h5⟩
theorem textsB_4 {w : World} {g M : Nat} {A1 A2 A3 A4 : Option Addr} {c1 c2 c3 c4 : Nat} {l1 l2 l3 l4 : List Int} (hg : w.heap[g]? = some (.cells #[.slice A1 l1.length c1, .slice A2 l2.length c2, .slice A3 l3.length c3, .slice A4 l4.length c4] 22 (0, 0)))
    (h1 : l1.length ≤ c1 ∧ Kd.C (Kd.int .u8) w A1 l1.length l1) (h2 : l2.length ≤ c2 ∧ Kd.C (Kd.int .u8) w A2 l2.length l2) (h3 : l3.length ≤ c3 ∧ Kd.C (Kd.int .u8) w A3 l3.length l3) (h4 : l4.length ≤ c4 ∧ Kd.C (Kd.int .u8) w A4 l4.length l4)
    (b1 : Bytes l1 ∧ l1.length ≤ M) (b2 : Bytes l2 ∧ l2.length ≤ M) (b3 : Bytes l3 ∧ l3.length ≤ M) (b4 : Bytes l4 ∧ l4.length ≤ M) : TextsB w g 4 M := by
  intro k hk
  obtain rfl | rfl | rfl | rfl : k = 0 ∨ k = 1 ∨ k = 2 ∨ k = 3 := by omega
  · exact ⟨A1, c1, l1, (blk_cell hg 0).trans rfl, h1.2, h1.1, b1⟩
  · exact ⟨A2, c2, l2, (blk_cell hg 1).trans rfl, h2.2, h2.1, b2⟩
  · exact ⟨A3, c3, l3, (blk_cell hg 2).trans rfl, h3.2, h3.1, b3⟩
  · exact ⟨A4, c4, l4, (blk_cell hg 3).trans rfl, h4.2, h4.1, b4⟩
theorem half_num {n : Nat} (hn : n ≤ 4194304) : ∃ h : Nat, h ≤ n ∧ wrap64 (Int.tdiv (n : Int) 2) = (h : Int) ∧ Int.tdiv (n : Int) 2 = (h : Int) ∧ (n : Int) / 2 = (h : Int) := by
  have h1 : Int.tdiv (n : Int) 2 = (n : Int) / 2 := Int.tdiv_eq_ediv_of_nonneg (by omega)
  refine ⟨n / 2, by omega, ?_, by omega, by omega⟩
  rw [h1, w64 (by omega) (by omega)]; omega
def uall.T4 : Bool × List (List Nat × List Nat) := (true, [([], []), ([], []), ([], []), ([], []), ([3], [3]), ([4], [4]), ([2, 5], [2, 5]), ([], []), ([7], [7]), ([], []), ([8, 9, 8], [8, 9]), ([0, 1, 6, 10], [0, 1, 6, 10]), ([11], [11]), ([], [])])
def uall.B4 : List Nat := [0, 0, 0, 0, 8, 24, 60, 0, 128, 0, 896, 2047, 4095, 0]
theorem uall.tab4 : rtab .any (opsOf Try.f11 4) = uall.T4 := by kernel_rfl
theorem uall.bits4 : waitsOk uall.T4.2 uall.B4 = true := by kernel_rfl
set_option maxRecDepth 100000 in
set_option maxHeartbeats 4000000 in
theorem UtfAll_row (W : World) (A : Option Addr) (cap : Nat) (l : List Int) (r : RowAt .u8 W A l) (s : l.length * 1 ≤ 140737488351232) (f : ∀ n ∈ l, (Lit.int .u8 n).wf = true) (hcap : l.length ≤ cap)
    (A1 : Option Addr) (cap1 : Nat) (l1 : List Int) (r1 : RowAt .i64 W A1 l1) (s1 : l1.length * 8 ≤ 140737488351232) (f1 : ∀ n ∈ l1, (Lit.int .i64 n).wf = true) (hcap1 : l1.length ≤ cap1) (hk : l.length + l1.length ≤ 1048576) :
    Calls Try.prog 11 #[.slice A l.length cap, .slice A1 l1.length cap1] W fun e w' => e = .returned (.bool true) ∧ Below W.heap.size W w' := by
  have HY := Lib.hid (bytes_wf f)
  have HC := Lib.hid (C_of_row r (by omega))
  have HC1 := Lib.hid (C_of_row r1 (by omega))
  have HK := Lib.hid hcap
  have HK1 := Lib.hid hcap1
  have HB := Lib.hid (Below.refl W.heap.size W)
  have F1 := Lib.hid (bytes_f (l := l1) (by omega))
  have hbl := bsF_len l1
  have HYx := Lib.hid (bsF_bytes l1)
  replace r := ()
  replace f := ()
  replace r1 := ()
  replace f1 := ()
  clear s s1 hcap hcap1
  generalize bsF l1 = x at *
  have HSx : Hid (x.length ≤ 4194304) := Lib.hid (by omega)
  have HSl : Hid (l.length ≤ 1048576) := Lib.hid (by omega)
  obtain ⟨h, hh1, hh2, hh3, hh4⟩ := half_num HSx.out
  have hwh : wrap64 (h : Int) = (h : Int) := by have := HSx.out; rw [w64 (by omega) (by omega)]
  have hhI : (h : Int) ≤ (x.length : Int) := by omega
  clear hk hbl
  go_enter Try.func11, Try.ntmps11
  go_wp2_with (first
    | (go_at_call 20; refine (lontarlaw01_awake.calls 3 true _ (awake_is 0)).mono ?_; rintro e w1 ⟨rfl, hb⟩; replace HB := Lib.hid hb; clear hb)
    | (go_at_call 28; refine (utf_Bytes.calls _ A1 cap1 l1 x _ (Kd.C_below HC1.out HB.out) HK1.out F1.out).mono ?_; rintro e w2 ⟨v2, rfl, hR, hb⟩; obtain ⟨Ax, cx, rfl⟩ := Kd.R_slice hR; obtain ⟨_, hcx, hCx⟩ := Kd.R_reads' hR; have HCx := Lib.hid hCx; have HKx := Lib.hid hcx; have HB := Lib.hid (HB.out.trans (hb.mono HB.out.size)); clear hR hb hcx hCx))
  obtain ⟨i08, hi08, _, hsz8, _⟩ := info_parts info5
  obtain ⟨hcut, hA8, hC8⟩ := print_take_of (P := Try.prog) (Value.int .u8) 0 22 5 .i64 Try.underlying22 hi08 hsz8 Ax cx x (h : Int) (by omega) hhI HKx.out
  rw [Int.toNat_natCast] at hcut hA8 hC8
  have hxh : Bytes (x.take h) ∧ (x.take h).length ≤ x.length := ⟨HYx.out.take h, by rw [List.length_take]; omega⟩
  have HXH := Lib.hid (And.intro hC8 (Kd.C_of_reads (h1 := fun _ => rfl) (hA8 _ (Kd.reads_of_C (d := (0 : Int)) HCx.out))))
  generalize x.take h = xh at *
  replace hxh := Lib.hid hxh
  clear hi08 hsz8 hA8 hC8
  refine start_ (n := 14) (S := fun w' => True) (ds := []) #[Z, Z, Z, Z, Z, Z, Z, Z, Z, Z, Z, Z, Z, Z] (by kernel_rfl) rfl rfl trivial (fun hHeld => ?_)
  refine with_tabW uall.tab4 uall.bits4 (fun HT_ HW_ => ?_)
  refine pure_ (i := 0) (N := some 12) (v := ?_) (a' := ?_) #[Y, Z, Z, Z, Z, Z, Z, Z, Z, Z, Z, Z, Z, Z] rfl rfl (any_of HT_.out (by kernel_rfl)) (fun _ _ _ h => h) (Or.inl ⟨by rfl, ?_⟩) ?_ ?_
  rotate_left
  · intro w'
    go_simp
    with_reducible rfl
  rotate_left
  · simp only [Act.put, List.setIfInBounds_toArray, List.set_cons_zero, List.set_cons_succ, i64_w, i32_w]
    rfl
  refine pure_ (i := 1) (N := some 13) (v := ?_) (a' := ?_) #[Y, Y, Z, Z, Z, Z, Z, Z, Z, Z, Z, Z, Z, Z] rfl rfl (any_of HT_.out (by kernel_rfl)) (fun _ _ _ h => h) (Or.inl ⟨by rfl, ?_⟩) ?_ ?_
  rotate_left
  · intro w'
    go_simp
    with_reducible rfl
  rotate_left
  · simp only [Act.put, List.setIfInBounds_toArray, List.set_cons_zero, List.set_cons_succ, i64_w, i32_w]
    rfl
  refine pure_ (i := 2) (N := some 14) (v := ?_) (a' := ?_) #[Y, Y, Y, Z, Z, Z, Z, Z, Z, Z, Z, Z, Z, Z] rfl rfl (any_of HT_.out (by kernel_rfl)) (fun _ _ _ h => h) (Or.inl ⟨by rfl, ?_⟩) ?_ ?_
  rotate_left
  · intro w'
    go_simp
    with_reducible rfl
  rotate_left
  · simp only [Act.put, List.setIfInBounds_toArray, List.set_cons_zero, List.set_cons_succ, i64_w, i32_w]
    rfl
  refine pure_ (i := 3) (N := some 15) (v := ?_) (a' := ?_) #[Y, Y, Y, Y, Z, Z, Z, Z, Z, Z, Z, Z, Z, Z] rfl rfl (any_of HT_.out (by kernel_rfl)) (fun _ _ _ h => h) (Or.inl ⟨by rfl, ?_⟩) ?_ ?_
  rotate_left
  · intro w'
    go_simp
    with_reducible rfl
  rotate_left
  · simp only [Act.put, List.setIfInBounds_toArray, List.set_cons_zero, List.set_cons_succ, i64_w, i32_w]
    rfl
  refine pure_ (i := 4) (N := some 16) (v := ?_) (a' := ?_) #[Y, Y, Y, Y, Y, Z, Z, Z, Z, Z, Z, Z, Z, Z] rfl rfl (any_of HT_.out (by kernel_rfl)) (fun _ _ _ h => h) (Or.inl ⟨by rfl, ?_⟩) ?_ ?_
  rotate_left
  · intro w'
    go_simp
    with_reducible rfl
  rotate_left
  · simp only [Act.put, List.setIfInBounds_toArray, List.set_cons_zero, List.set_cons_succ, i64_w, i32_w]
    rfl
  refine pure_ (i := 5) (N := some 17) (v := ?_) (a' := ?_) #[Y, Y, Y, Y, Y, Y, Z, Z, Z, Z, Z, Z, Z, Z] rfl rfl (any_of HT_.out (by kernel_rfl)) (fun _ _ _ h => h) (Or.inl ⟨by rfl, ?_⟩) ?_ ?_
  rotate_left
  · intro w'
    go_simp
    with_reducible rfl
  rotate_left
  · simp only [Act.put, List.setIfInBounds_toArray, List.set_cons_zero, List.set_cons_succ, i64_w, i32_w]
    rfl
  refine pure_ (i := 6) (N := some 18) (v := ?_) (a' := ?_) #[Y, Y, Y, Y, Y, Y, Y, Z, Z, Z, Z, Z, Z, Z] rfl rfl (any_of HT_.out (by kernel_rfl)) (fun _ _ _ h => h) (Or.inl ⟨by rfl, ?_⟩) ?_ ?_
  rotate_left
  · intro w'
    go_simp
    with_reducible rfl
  rotate_left
  · simp only [Act.put, List.setIfInBounds_toArray, List.set_cons_zero, List.set_cons_succ, i64_w, i32_w]
    rfl
  refine pure_ (i := 7) (N := some 19) (v := ?_) (a' := ?_) #[Y, Y, Y, Y, Y, Y, Y, Y, Z, Z, Z, Z, Z, Z] rfl rfl (any_of HT_.out (by kernel_rfl)) (fun _ _ _ h => h) (Or.inl ⟨by rfl, ?_⟩) ?_ ?_
  rotate_left
  · intro w'
    go_simp
    with_reducible rfl
  rotate_left
  · simp only [Act.put, List.setIfInBounds_toArray, List.set_cons_zero, List.set_cons_succ, i64_w, i32_w]
    rfl
  refine pure_ (i := 9) (N := some 21) (v := ?_) (a' := ?_) #[Y, Y, Y, Y, Y, Y, Y, Y, Z, Y, Z, Z, Z, Z] rfl rfl (any_of HT_.out (by kernel_rfl)) (fun _ _ _ h => h) (Or.inl ⟨by rfl, ?_⟩) ?_ ?_
  rotate_left
  · intro w'
    go_simp
    with_reducible rfl
  rotate_left
  · simp only [Act.put, List.setIfInBounds_toArray, List.set_cons_zero, List.set_cons_succ, i64_w, i32_w]
    rfl
  refine pure_ (i := 13) (N := some 25) (v := ?_) (a' := ?_) #[Y, Y, Y, Y, Y, Y, Y, Y, Z, Y, Z, Z, Z, Y] rfl rfl (any_of HT_.out (by kernel_rfl)) (fun _ _ _ h => h) (Or.inl ⟨by rfl, ?_⟩) ?_ ?_
  rotate_left
  · intro w'
    go_simp
    with_reducible rfl
  rotate_left
  · simp only [Act.put, List.setIfInBounds_toArray, List.set_cons_zero, List.set_cons_succ, i64_w, i32_w]
    rfl
  refine one_ (i := 8) (N := some 20) #[Y, Y, Y, Y, Y, Y, Y, Y, Y, Y, Z, Z, Z, Y] rfl rfl (one_of HT_.out (by kernel_rfl)) (by decide) (fun K hK => ?_)
  have HBd := Lib.hid (HB.out.trans ((below_drew (Below.refl w2.heap.size w2)).mono HB.out.size))
  have HCd := Lib.hid (Kd.C_below HCx.out (below_drew (Below.refl _ _)))
  refine Kd.R_append_rows_step (Kd.int .u8) (w0 := w2.drew) w2.drew.heap.size (by rfl) (.const (.slice none 0 0)) (.tmp 19) 22 5 (.int .u8 0) 1 rfl Try.underlying22 info5 rfl (by decide) (by omega) (.slice none 0 0) [] x Ax x.length cx (fun _ => True) (fun _ => False) rfl rfl (Kd.R_nil _ _ _ _ _) HCd.out (fun _ _ hm => hm) (fun _ hf => hf.elim) (fun _ _ => trivial) (Below.refl _ _) (Nat.le_refl _) (by have := HSx.out; have := HSl.out; (try simp); omega) ?_
  intro v8 w8 ho hb hg hat
  rw [List.nil_append] at ho
  obtain ⟨A8, c8, rfl⟩ := Kd.R_slice ho
  have HO := Lib.hid ho
  have HB3 := Lib.hid hb
  clear ho hb hg hat
  refine hK.out _ _ trivial (fun hHeld => ?_)
  clear hK K
  refine norm_ (a' := ?_) ?_ ?_
  rotate_left
  · show Act.put _ (some 20) _ = _
    simp only [Act.put, List.setIfInBounds_toArray, List.set_cons_zero, List.set_cons_succ, i64_w, i32_w]
    rfl
  refine one_ (i := 10) (N := some 22) #[Y, Y, Y, Y, Y, Y, Y, Y, Y, Y, Y, Z, Z, Y] rfl rfl (one_of HT_.out (by kernel_rfl)) (by decide) (fun K hK => ?_)
  refine Kd.R_append_rows_step (Kd.int .u8) (w0 := w2.drew) w2.drew.heap.size (by rfl) (.tmp 20) (.tmp 21) 22 5 (.int .u8 0) 1 rfl Try.underlying22 info5 rfl (by decide) (by omega) (.slice A8 x.length c8) x l A l.length cap (fun _ => True) (fun _ => False) rfl rfl HO.out (Kd.C_below HC.out (HBd.out.trans (HB3.out.mono HBd.out.size))) (fun _ _ hm => hm) (fun _ hf => hf.elim) (fun _ _ => trivial) HB3.out HB3.out.size (by have := HSx.out; have := HSl.out; (try simp); omega) ?_
  intro v9 w9 ho hb hg hat
  generalize hxl9 : x ++ l = xl at ho
  obtain ⟨A9, c9, rfl⟩ := Kd.R_slice ho
  obtain ⟨_, hc9, hC9⟩ := Kd.R_reads' ho
  have H9 := Lib.hid (And.intro hc9 hC9)
  have HB9 := Lib.hid hb
  have HXL := Lib.hid hxl9
  clear ho hb hg hat hxl9 hc9 hC9
  refine hK.out _ _ trivial (fun hHeld => ?_)
  clear hK K
  refine norm_ (a' := ?_) ?_ ?_
  rotate_left
  · show Act.put _ (some 22) _ = _
    simp only [Act.put, List.setIfInBounds_toArray, List.set_cons_zero, List.set_cons_succ, i64_w, i32_w]
    rfl
  refine one_ (i := 11) (N := some 23) #[Y, Y, Y, Y, Y, Y, Y, Y, Y, Y, Y, Y, Z, Y] rfl rfl (one_of HT_.out (by kernel_rfl)) (by decide) (fun K hK => ?_)
  refine lits_step (by rfl) rfl (cs := #[.slice A l.length cap, .slice Ax x.length cx, .slice Ax xh.length cx, .slice A9 xl.length c9]) (t := 22) (n := 4) ?hr ?_
  · first | (go_simp; done) | (go_simp; rfl)
  intro g w5 K5 hb
  have HBw : Below W.heap.size W w9 := HBd.out.trans (HB9.out.mono HBd.out.size)
  have hd9 : Below w2.heap.size w2 w9 := (below_drew (Below.refl _ _)).trans HB9.out
  have HT := Lib.hid (textsB_4 (M := 5242880) K5 ⟨HK.out, Kd.C_below (Kd.C_below HC.out HBw) hb⟩ ⟨HKx.out, Kd.C_below (Kd.C_below HCx.out hd9) hb⟩ ⟨HXH.out.1, Kd.C_below (Kd.C_below HXH.out.2 hd9) hb⟩ ⟨H9.out.1, Kd.C_below H9.out.2 hb⟩ ⟨HY.out, by have := HSl.out; omega⟩ ⟨HYx.out, by have := HSx.out; omega⟩ ⟨hxh.out.1, by have := hxh.out.2; have := HSx.out; omega⟩ ⟨by rw [← HXL.out]; exact HYx.out.app HY.out, by rw [← HXL.out, List.length_append]; have := HSx.out; have := HSl.out; omega⟩)
  have HB5 := Lib.hid (HBw.trans (hb.mono HBw.size))
  clear K5 hb HBw hd9
  refine hK.out _ _ trivial (fun hHeld => ?_)
  clear hK K
  refine norm_ (a' := ?_) ?_ ?_
  rotate_left
  · show Act.put _ (some 23) _ = _
    simp only [Act.put, List.setIfInBounds_toArray, List.set_cons_zero, List.set_cons_succ, i64_w, i32_w]
    rfl
  refine pure_ (i := 12) (N := some 24) (v := ?_) (a' := ?_) #[Y, Y, Y, Y, Y, Y, Y, Y, Y, Y, Y, Y, Y, Y] rfl rfl (any_of HT_.out (by kernel_rfl)) (fun _ _ _ h => h) (Or.inl ⟨by rfl, ?_⟩) ?_ ?_
  rotate_left
  · intro w'
    go_simp
    with_reducible rfl
  rotate_left
  · simp only [Act.put, List.setIfInBounds_toArray, List.set_cons_zero, List.set_cons_succ, i64_w, i32_w]
    rfl
  refine done_ (done_of HT_.out (by kernel_rfl)) ?_
  clear hHeld hcut HO H9 HB9 HXL HB3 HXH HBd HCd
  go_wp2
  go_loopg [25] 4 (fun kq v25 w' => ∃ (k : Nat), v25 = .int .i64 k ∧ k + kq = 4 ∧ Hid (Below w5.heap.size w5 w'))
  case atStart => exact ⟨0, rfl, rfl, Lib.hid (Below.refl _ _)⟩
  case round =>
    obtain ⟨k, rfl, hsum, HB2⟩ := hrel
    cases gk with
    | zero =>
      obtain rfl : k = 4 := by omega
      go_wp2
      all_goals go_ret
      all_goals exact ⟨by first | rfl | (simp; done), HB5.out.trans (HB2.out.mono HB5.out.size)⟩
    | succ kq =>
      have hk : k < 4 := by omega
      have hkI : (k : Int) < 4 := by omega
      obtain ⟨Ak, ck, lk, e1, e2, e3, e4, e5⟩ := (HT.out.keep HB2.out) k hk
      have F1 := Lib.hid (all_f e4 (by omega))
      have F2 := Lib.hid (lall_f e4 (by omega))
      have F3 := Lib.hid (same_all (lk.length + 1) 0 e4 (by omega))
      have G1 := Lib.hid (And.intro e2 e3)
      generalize allF (lk.length + 1) 0 lk = tk at *
      have hwk : wrap64 ((k : Int) + 1) = ((k + 1 : Nat) : Int) := by rw [w64 (by omega) (by omega)]; rfl
      have HSUM := Lib.hid hsum
      clear e2 e3 e4 e5 hsum hk
      go_wp2_with (first
        | (go_at_call 27; refine (utf_All.calls _ Ak ck lk tk _ G1.out.1 G1.out.2 F1.out).mono ?_; rintro e w6 ⟨v6, rfl, hs7, hb⟩; obtain ⟨A6, c6, rfl, hc7, hC7⟩ := Kd.S_reads hs7; have HE := Lib.hid (And.intro hc7 hC7); have HB6 := Lib.hid hb; clear hs7 hb hc7 hC7)
        | (go_at_call 29; refine (lontarlaw01_All.calls _ Ak ck lk tk _ (Kd.C_below G1.out.1 HB6.out) G1.out.2 F2.out).mono ?_; rintro e w7 ⟨v7, rfl, hs7, hb⟩; obtain ⟨A7, c7, rfl, hc7, hC7⟩ := Kd.S_reads hs7; have HE := Lib.hid (And.intro HE.out.1 (Kd.C_below HE.out.2 hb)); have HG := Lib.hid (And.intro hc7 hC7); have HB7 := Lib.hid (HB6.out.trans (hb.mono HB6.out.size)); clear hs7 hb hc7 hC7)
        | (go_at_call 25; refine (lontarlaw01_Same.calls _ A6 c6 tk A7 c7 tk true _ HE.out.2 HE.out.1 HG.out.2 HG.out.1 F3.out).mono ?_; rintro e w8 ⟨rfl, hb⟩; have HB8 := Lib.hid (HB2.out.trans ((HB7.out.trans (hb.mono HB7.out.size)).mono HB2.out.size)); clear hb))
      go_roundg kq
      case measure => exact Nat.lt_succ_self _
      case rel => exact ⟨k + 1, congrArg (Value.int .i64) (by first | exact hwk | rfl), by have := HSUM.out; omega, HB8⟩
end Go.Proofs.Ytdhpldiahgajcaa.PUtfAll
