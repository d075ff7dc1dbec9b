/- The row of 'CarryFeed': for every input the call returns true, and each argument reads afterwards as it read before. No condition of its own. -/
import Derived.Test.YtdhpldiahgajcaaRows
import Derived.Test.YtdhpldiahgajcaaFrame
import Derived.Test.YtdhpldiahgajcaaK19
import Derived.ProofKit
import Derived.OpenShut
import Derived.ShutString
import Derived.ChangeOld
import Derived.Below
import Derived.SizedLaws
import Derived.Deep.CondSized
import Derived.Test.YtdhpldiahgajcaaBulk
namespace Go.Proofs.Ytdhpldiahgajcaa.RCarryFeedUpto
open Go.ChangeShapes Go.WideShapes Go.ChangeAt Go.RowKit
open Go.Proofs.Ytdhpldiahgajcaa Go.Proofs.Ytdhpldiahgajcaa.PUtfAll
set_option linter.unusedVariables false
theorem own : ownKnob Try.prog.godebug = none := by kernel_rfl
theorem laidOut : laidOutB Try.prog = true := by kernel_rfl
theorem contract (H : Type) (enc : TypeId × Value → H) (W : World) (base : Nat) (args : Array Value) (ds gs : List (DataW H)) (before : List MemPlace)
    (hval0 : ∀ (j : Nat) t v, Try.f14.params[j]? = some t → args[j]? = some v → Value.okWide Try.prog W .any base t v)
    (hW : DataW.Whole enc Try.prog Try.f14.params.toList Rows.carryFeedSpec.vars false W args.toList ds gs before) (hk : Rows.uptoSmall H (ds ++ gs) = true)
    (hsz0 : (DataW.weightsEach Try.prog (Try.f14.params.toList ++ Rows.carryFeedSpec.plain.varTypes Try.prog) (ds ++ gs)).all (· ≤ reachBytes) = true) :
    Calls Try.prog 14 args W fun e W' => ∃ v, e = .returned v ∧ Rows.carryFeedSpec.post enc Try.prog Try.f14 false true false false W args v W' := by
  have hval : ∀ (j : Nat) t v, Try.f14.params[j]? = some t → args[j]? = some v → Value.okWide Try.prog W .any base t v := hval0
  have hsz : (DataW.weightsEach Try.prog (Try.f14.params.toList ++ Rows.carryFeedSpec.plain.varTypes Try.prog) (ds ++ gs)).all (· ≤ reachBytes) = true := hsz0
  have hW' := hW
  obtain ⟨p, q, hA0, hV, rfl, hfz, hnd⟩ := hW
  have hA : DataW.TrodAll enc Try.prog W 0 (fun _ => true) true Try.f14.params.toList args.toList ds p := hA0
  rw [Try.params14] at hA hval hsz
  obtain ⟨v0, vs0, d0, ds0, p0, q0, hargs, rfl, rfl, h0, r0⟩ := trodAll_cons hA
  obtain ⟨v1, vs1, d1, ds1, p1, q1, rfl, rfl, rfl, h1, r1⟩ := trodAll_cons r0
  obtain ⟨v2, vs2, d2, ds2, p2, q2, rfl, rfl, rfl, h2, r2⟩ := trodAll_cons r1
  obtain ⟨rfl, rfl, rfl⟩ := trodAll_nil r2
  obtain rfl : args = #[v0, v1, v2] := by cases args; simp_all
  obtain ⟨rfl, rfl⟩ := trodVars_none hV
  obtain ⟨a0, len0, cap0, rfl⟩ := okWide_slice Try.underlying22 (hval 0 22 v0 rfl rfl)
  have k0 := h0
  have lt0 : ∀ x ∈ p0, x.block < W.heap.size := by obtain ⟨m, hm⟩ := k0; exact DataW.trod_lt m _ _ _ hm
  obtain ⟨l0, rfl, w0, s0, f0⟩ := rowAt_of_trod hsz (j := 0) rfl rfl Try.underlying22 Try.underlying5 (by kernel_rfl) (B := 1) (by kernel_rfl) k0
  have c0 := cap_of_trod Try.underlying22 Try.underlying5 (by kernel_rfl) k0
  obtain ⟨a1, len1, cap1, rfl⟩ := okWide_slice Try.underlying29 (hval 1 29 v1 rfl rfl)
  have k1 := h1
  have lt1 : ∀ x ∈ p1, x.block < W.heap.size := by obtain ⟨m, hm⟩ := k1; exact DataW.trod_lt m _ _ _ hm
  obtain ⟨l1, rfl, w1, s1, f1⟩ := rowAt_of_trod hsz (j := 1) rfl rfl Try.underlying29 Try.underlying3 (by kernel_rfl) (B := 8) (by kernel_rfl) k1
  have c1 := cap_of_trod Try.underlying29 Try.underlying3 (by kernel_rfl) k1
  obtain ⟨a2, len2, cap2, rfl⟩ := okWide_slice Try.underlying22 (hval 2 22 v2 rfl rfl)
  have k2 := h2
  have lt2 : ∀ x ∈ p2, x.block < W.heap.size := by obtain ⟨m, hm⟩ := k2; exact DataW.trod_lt m _ _ _ hm
  obtain ⟨l2, rfl, w2, s2, f2⟩ := rowAt_of_trod hsz (j := 2) rfl rfl Try.underlying22 Try.underlying5 (by kernel_rfl) (B := 1) (by kernel_rfl) k2
  have c2 := cap_of_trod Try.underlying22 Try.underlying5 (by kernel_rfl) k2
  have bk0 := bulk_of_trod Try.underlying22 Try.underlying5 (by kernel_rfl) k0
  have bk1 := bulk_of_trod Try.underlying29 Try.underlying3 (by kernel_rfl) k1
  have bk2 := bulk_of_trod Try.underlying22 Try.underlying5 (by kernel_rfl) k2
  have hbk := of_decide_eq_true hk
  simp only [List.append_nil, Rows.uptoBulkAll] at hbk
  have hkk : l0.length + l1.length + l2.length ≤ 1048576 := by omega
  clear hA0 hval0
  refine (PUtfAll.CarryFeed_row W a0 cap0 l0 w0 s0 f0 c0 a1 cap1 l1 w1 s1 f1 c1 a2 cap2 l2 w2 s2 f2 c2 hkk).mono fun e W' ⟨he, bel⟩ => ?_
  subst he
  exact ⟨_, rfl, _, _, _, [], _, [], hW', trodAll_mk1 (shut_bool Try.underlying4 _), (trodAll_cons_mk (Below.trod laidOut (by kernel_rfl) (of_decide_eq_true (by kernel_rfl)) k0 bel lt0) (trodAll_cons_mk (Below.trod laidOut (by kernel_rfl) (of_decide_eq_true (by kernel_rfl)) k1 bel lt1) (trodAll_cons_mk (Below.trod laidOut (by kernel_rfl) (of_decide_eq_true (by kernel_rfl)) k2 bel lt2) trodAll_mk0))), rfl, bel.frame _, fun h => by cases h⟩
set_option maxRecDepth 100000 in
theorem lifted (os : Os) (started : os.Started) (H : Type) (enc : TypeId × Value → H) (F : Stop.Interp) :
    ReturnsInHanded {} Try.checked os 14 .any ((Rows.OpenSpec.upto Rows.carryFeedSpec).pre6 enc Try.prog Try.f14 Rows.carryFeedUptoRow.domain false) (((Rows.OpenSpec.upto Rows.carryFeedSpec).at F).post enc Try.prog Try.f14 false true false false) := by
  refine returnsInHanded_of_cond_sized (C := Try.checked) (s := Rows.OpenSpec.upto Rows.carryFeedSpec) (k := Rows.uptoSmall) rfl own started (by kernel_rfl) Try.func14
    (OpenSpec.witness (enc := enc) (C := Try.checked) (s := Rows.OpenSpec.upto Rows.carryFeedSpec) (k := Rows.uptoSmall) rfl false ⟨#[], #[.slice none 0 0, .slice none 0 0, .slice none 0 0], []⟩ 8 (by kernel_rfl) (by kernel_rfl) (by kernel_rfl)
      (x := ([.nil, .nil, .nil], [], [])) (by kernel_rfl) rfl (by kernel_rfl)) ?_
  intro W base args ds gs before hval hW _ hk hsz _
  exact contract H enc W base args ds gs before hval hW hk hsz
theorem over : Rows.CarryFeedUptoSaid :=
  OpenClaim.holds_of_cond 14 Try.f14 rfl rfl rfl rfl rfl rfl rfl ⟨rfl, rfl, rfl, rfl, rfl⟩ rfl rfl rfl rfl rfl (by kernel_rfl) Try.func14 (by kernel_rfl)
    (of_decide_eq_true (by kernel_rfl)) (by unfold Func.isWrapper; first | (rw [if_pos (by decide +kernel)]; kernel_rfl) | (rw [if_neg (by decide +kernel)]; exact ⟨rfl, rfl⟩))
    (fun os started H enc _ F => lifted os started H enc F)
end Go.Proofs.Ytdhpldiahgajcaa.RCarryFeedUpto
namespace Go.Proofs.Ytdhpldiahgajcaa
theorem CarryFeedUpto_holds : Rows.CarryFeedUptoSaid := RCarryFeedUpto.over
#print axioms CarryFeedUpto_holds
end Go.Proofs.Ytdhpldiahgajcaa
