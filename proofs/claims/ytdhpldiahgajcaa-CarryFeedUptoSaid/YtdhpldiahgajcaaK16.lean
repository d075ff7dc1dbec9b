/- The walk of layer 1's law UtfOne: it returns true; no condition but what a row hands on. -/
import Derived.Test.YtdhpldiahgajcaaV10
import Derived.Test.YtdhpldiahgajcaaK6
namespace Go.Proofs.Ytdhpldiahgajcaa.PUtfAll
open Go.RowKit Go.Proofs.YtdhpldiahgajcaaW.PrintWords Go.Proofs.YtdhpldiahgajcaaW.PrintLast Go.Proofs.YtdhpldiahgajcaaW.PrintMore Go.Proofs.Ytdhpldiahgajcaa
set_option linter.unusedVariables false
set_option linter.unusedSimpArgs false
section
variable {P : Program} {ops : Array Oper} {rest : List Oper} {o : Oper} {a : Act} {Q : Exit → Act → World → Prop}
theorem lits_event {W : World} (hgd : o.guard = none) {N : Tmp} (_hd : o.dst = some N) {cs : Array Value} {t n : Nat}
    (hrun : (execOp a.eval o).run P W = .ok (.value (.slice (some ⟨W.heap.size, 0, none⟩) n n)) (W.alloc (.cells cs t (0, 0))))
    (h : ∀ g, g = W.heap.size → ∀ w1, w1.heap[g]? = some (.cells cs t (0, 0)) → Below W.heap.size W w1 → wpList P ops Q rest (a.put o.dst (.slice (some ⟨g, 0, none⟩) n n)) w1) : wpList P ops Q (o :: rest) a W :=
  Kd.event_run hgd hrun (h _ rfl _ (blk_new W _) (below_alloc (Below.refl _ _) _))
end
/-- the texts that a law reads, one behind another -/
def Texts (w : World) (g n : Nat) : Prop := ∀ k, k < n → ∃ (A : Option Addr) (c : Nat) (l : List Int), w.cell? ⟨g, k, none⟩ = some (.slice A l.length c) ∧ Kd.C (Kd.int .u8) w A l.length l ∧ l.length ≤ c ∧ Bytes l
theorem Texts.keep {w w' : World} {g n : Nat} (h : Texts w g n) (hb : Below w.heap.size w w') : Texts w' g n := fun k hk => by
  obtain ⟨A, c, l, h1, h2, h3, h4⟩ := h k hk
  exact ⟨A, c, l, cell_kept h1 (Kept.of_below hb (fun _ => False)) (fun h => h), Kd.C_below h2 hb, h3, h4⟩
theorem texts_4 {w : World} {g : Nat} {A1 A2 A3 : Option Addr} {c1 c2 c3 : Nat} {l1 l2 l3 : List Int} (hg : w.heap[g]? = some (.cells #[.slice A1 l1.length c1, .slice A2 l2.length c2, .slice A3 l3.length c3, .slice none 0 0] 22 (0, 0)))
    (h1 : l1.length ≤ c1 ∧ Kd.C (Kd.int .u8) w A1 l1.length l1) (h2 : l2.length ≤ c2 ∧ Kd.C (Kd.int .u8) w A2 l2.length l2) (h3 : l3.length ≤ c3 ∧ Kd.C (Kd.int .u8) w A3 l3.length l3) (b1 : Bytes l1) (b2 : Bytes l2) (b3 : Bytes l3) : Texts w g 4 := by
  intro k hk
  obtain rfl | rfl | rfl | rfl : k = 0 ∨ k = 1 ∨ k = 2 ∨ k = 3 := by omega
  · exact ⟨A1, c1, l1, (blk_cell hg 0).trans rfl, h1.2, h1.1, b1⟩
  · exact ⟨A2, c2, l2, (blk_cell hg 1).trans rfl, h2.2, h2.1, b2⟩
  · exact ⟨A3, c3, l3, (blk_cell hg 2).trans rfl, h3.2, h3.1, b3⟩
  · exact ⟨none, 0, [], (blk_cell hg 3).trans rfl, Kd.C_nil _ _, Nat.le_refl _, fun n hn => by simp at hn⟩
theorem m_num {c : Int} (h0 : 0 ≤ c) : ∃ m : Nat, 1 ≤ m ∧ m ≤ 4 ∧ (1 + Int.tmod c 4) % 256 = (m : Int) := by
  have h2 : Int.tmod c 4 = c % 4 := Int.tmod_eq_emod_of_nonneg h0
  refine ⟨(1 + c % 4).toNat, by omega, by omega, by rw [h2]; omega⟩
set_option maxRecDepth 100000 in
set_option maxHeartbeats 4000000 in
theorem UtfOne_row (W : World) (a : Int) (wa : (Lit.int .u32 a).wf = true) (c : Int) (wc : (Lit.int .u8 c).wf = true) (A : Option Addr) (cap : Nat) (l : List Int) (r : RowAt .u8 W A l) (s : l.length * 1 ≤ 140737488351232) (f : ∀ n ∈ l, (Lit.int .u8 n).wf = true) (hcap : l.length ≤ cap) :
    Calls Try.prog 4 #[.int .u32 a, .int .u8 c, .slice A l.length cap] W fun e w' => e = .returned (.bool true) ∧ Below W.heap.size W w' := by
  have HY := Lib.hid (bytes_wf f)
  have HC := Lib.hid (C_of_row r (by omega))
  have HK := Lib.hid hcap
  have HB := Lib.hid (Below.refl W.heap.size W)
  have hc := bytes_wf (l := [c]) (by intro n hn; rw [List.mem_singleton.1 hn]; exact wc) c (by simp)
  replace r := ()
  replace f := ()
  clear hcap
  obtain ⟨x4, hxs0⟩ : ∃ x4, ([a % 256, a / 256 % 256, a / 65536 % 256, a / 16777216 % 256] : List Int) = x4 := ⟨_, rfl⟩
  have hx4 : x4.length = 4 := by rw [← hxs0]; rfl
  obtain ⟨m, hm1, hm4, hm⟩ := m_num hc.1
  have hml : (m : Int) ≤ x4.length := by omega
  have hxs : Hid (([a % 256, a / 256 % 256, a / 65536 % 256, a / 16777216 % 256] : List Int) = x4) := Lib.hid hxs0
  have HX4 : Hid (Bytes x4) := by rw [← hxs0]; exact Lib.hid (fun n hn => by simp at hn; omega)
  clear hxs0 hx4
  replace hc := Lib.hid hc
  go_enter Try.func4, Try.ntmps4
  go_wp2_with (first
    | (go_at_call 20; refine (lontarlaw01_awake.calls 3 true _ (awake_is 0)).mono ?_; rintro e w1 ⟨rfl, hb⟩; replace HB := Lib.hid hb; clear hb)
    | ((with_reducible refine gate_dst (N := 29) rfl ?_); refine Kd.R_lit (Kd.int .u8) _ 5 ?hg (N := 29) ?hd (xs := [a % 256, a / 256 % 256, a / 65536 % 256, a / 16777216 % 256]) (inner := [.int .u8 (a % 256), .int .u8 (a / 256 % 256), .int .u8 (a / 65536 % 256), .int .u8 (a / 16777216 % 256)]) (ok := fun _ => True) (okp := fun _ => True) ?hr ?hp (fun _ hk => hk) trivial (Below.refl _ _) (Nat.le_refl _) (by simp) ?_; (case hd => rfl); (case hg => rfl); (case hr => first | (go_simp; done) | (go_simp; rfl)); (case hp => exact (Reps.one (show Kd.M (Kd.int .u8) _ _ _ (a % 256) [.int .u8 (a % 256)] from rfl) (Reps.one (show Kd.M (Kd.int .u8) _ _ _ (a / 256 % 256) [.int .u8 (a / 256 % 256)] from rfl) (Reps.one (show Kd.M (Kd.int .u8) _ _ _ (a / 65536 % 256) [.int .u8 (a / 65536 % 256)] from rfl) (Reps.one (show Kd.M (Kd.int .u8) _ _ _ (a / 16777216 % 256) [.int .u8 (a / 16777216 % 256)] from rfl) (Reps.none _ _)))))); intro v2 w2 ho hb hg_ hnew_; rw [hxs.out] at ho; obtain ⟨A2, c2, rfl⟩ := Kd.R_slice ho; obtain ⟨_, hc2, hC2⟩ := Kd.R_reads' ho; obtain ⟨i08, hi08, _, hsz8, _⟩ := info_parts info5; obtain ⟨hcut, hA8, hC8⟩ := print_take_of (P := Try.prog) (Value.int .u8) 0 22 5 .u8 Try.underlying22 hi08 hsz8 A2 c2 x4 (m : Int) (by omega) hml hc2; rw [Int.toNat_natCast] at hcut hA8 hC8; generalize hxm : x4.take m = xm at *; have H2 := Lib.hid (And.intro hC8 (Kd.C_of_reads (h1 := fun _ => rfl) (hA8 _ (Kd.reads_of_C (d := (0 : Int)) hC2)))); clear hi08 hsz8 hA8 hC8; have hxl : Hid (xm.length ≤ 4) := (by have := congrArg List.length hxm; rw [List.length_take] at this; exact Lib.hid (show xm.length ≤ 4 by omega)); have HXM : Hid (Bytes xm) := (by rw [← hxm]; exact Lib.hid (HX4.out.take m)); clear hxm; replace HB := Lib.hid (HB.out.trans (hb.mono HB.out.size)); clear hb hg_ hnew_ ho hc2 hC2)
    | ((with_reducible refine gate_builtin (b := .append) (xs := #[.const (.slice none 0 0), .tmp 36]) rfl ?_); at_builtin; refine Kd.R_append_row (Value.int .u8) 0 (w0 := w2) w2.heap.size rfl (.const (.slice none 0 0)) (.tmp 36) 22 5 (.int .u8 0) 1 rfl Try.underlying22 info5 rfl (by omega) (.slice none 0 0) [] xm A2 xm.length c2 (fun _ => True) rfl rfl (fun _ _ => trivial) (Kd.R_nil _ _ _ _ _) H2.out.2 (Below.refl _ _) (Nat.le_refl _) ?sz1 ?_; (case sz1 => have := hxl.out; simp; omega); intro v8 w3 ho hb hg hat; rw [List.nil_append] at ho; obtain ⟨A8, c8, rfl⟩ := Kd.R_slice ho; have HO := Lib.hid ho; have HB3 := Lib.hid hb; clear ho hb hg hat)
    | ((with_reducible refine gate_builtin (b := .append) (xs := #[.tmp 37, .tmp 38]) rfl ?_); at_builtin; refine Kd.R_append_row (Value.int .u8) 0 (w0 := w2) w2.heap.size rfl (.tmp 37) (.tmp 38) 22 5 (.int .u8 0) 1 rfl Try.underlying22 info5 rfl (by omega) (.slice A8 xm.length c8) xm l A l.length cap (fun _ => True) rfl rfl (fun _ _ => trivial) HO.out (Kd.C_below HC.out (HB.out.trans (HB3.out.mono HB.out.size))) HB3.out HB3.out.size ?sz2 ?_; (case sz2 => have := hxl.out; omega); intro v9 w4 ho hb hg hat; generalize hxl9 : xm ++ l = xl at ho; obtain ⟨A9, c9, rfl⟩ := Kd.R_slice ho; obtain ⟨_, hc9, hC9⟩ := Kd.R_reads' ho; have H9 := Lib.hid (And.intro hc9 hC9); have H2 := Lib.hid (And.intro H2.out.1 (Kd.C_below H2.out.2 hb)); have hxl9 := Lib.hid hxl9; have HB := Lib.hid (HB.out.trans (hb.mono HB.out.size)); clear ho hb hg hat HO HB3 hc9 hC9)
    | ((with_reducible refine gate_dst (N := 40) rfl ?_); refine lits_event ?hg (N := 40) ?hd (cs := #[.slice A2 xm.length c2, .slice A l.length cap, .slice A9 xl.length c9, .slice none 0 0]) (t := 22) (n := 4) ?hr ?_; (case hd => rfl); (case hg => rfl); (case hr => first | (go_simp; done) | (go_simp; rfl)); intro g hg w5 K hb; have HT := Lib.hid (texts_4 K ⟨H2.out.1, Kd.C_below H2.out.2 hb⟩ ⟨HK.out, Kd.C_below (Kd.C_below HC.out HB.out) hb⟩ ⟨H9.out.1, Kd.C_below H9.out.2 hb⟩ HXM.out HY.out (by rw [← hxl9.out]; exact HXM.out.app HY.out)); have HB := Lib.hid (HB.out.trans (hb.mono HB.out.size)); clear K hb hg H2 H9 hxl9))
  go_loopg [42] 4 (fun kq v42 w' => ∃ (k : Nat), v42 = .int .i64 k ∧ k + kq = 4 ∧ Hid (Below w5.heap.size w5 w'))
  case atStart => exact ⟨0, rfl, rfl, Lib.hid (Below.refl _ _)⟩
  case round =>
    obtain ⟨k, rfl, hsum, HB2⟩ := hrel
    cases gk with
    | zero =>
      obtain rfl : k = 4 := by omega
      go_wp2
      all_goals go_ret
      all_goals exact ⟨by first | rfl | (simp; done), HB.out.trans (HB2.out.mono HB.out.size)⟩
    | succ kq =>
      have hk : k < 4 := by omega
      have hkI : (k : Int) < 4 := by omega
      obtain ⟨Ak, ck, lk, e1, e2, e3, e4⟩ := (HT.out.keep HB2.out) k hk
      obtain ⟨x, n, e, ho⟩ : ∃ x n e, oneF lk = (x, n, e) := ⟨_, _, _, rfl⟩
      have F1 := Lib.hid ((utf_One.of e4).trans (congrArg some ho))
      have F2 := Lib.hid ((one_is e4).trans (congrArg some ho))
      have G1 := Lib.hid (And.intro e2 e3)
      have hwk : wrap64 ((k : Int) + 1) = ((k + 1 : Nat) : Int) := by rw [w64 (by omega) (by omega)]; rfl
      have HSUM := Lib.hid hsum
      clear e2 e3 e4 ho hsum hk
      go_wp2_with (first
        | (go_at_call 18; refine (utf_One.calls Ak ck lk x n e _ G1.out.1 G1.out.2 F1.out).mono ?_; rintro e6 w6 ⟨rfl, hd⟩; have hb6 : Below wr.heap.size wr w6 := (by obtain ⟨nd, hq⟩ := hd; first | (rw [hq]; exact pw_below_drewN (Below.refl _ _) nd) | (rw [← hq]; exact pw_below_drewN (Below.refl _ _) nd)); have HB6 := Lib.hid hb6; clear hd hb6)
        | (go_at_call 21; refine (lontarlaw01_one.calls 100 Ak ck lk x n e _ (Kd.C_below G1.out.1 HB6.out) G1.out.2 F2.out).mono ?_; rintro e7 w7 ⟨rfl, hb⟩; have HB7 := Lib.hid (HB2.out.trans ((HB6.out.trans (hb.mono HB6.out.size)).mono HB2.out.size)); clear hb))
      go_roundg kq
      case measure => exact Nat.lt_succ_self _
      case rel => exact ⟨k + 1, congrArg (Value.int .i64) (by first | exact hwk | rfl), by have := HSUM.out; omega, HB7⟩
end Go.Proofs.Ytdhpldiahgajcaa.PUtfAll
