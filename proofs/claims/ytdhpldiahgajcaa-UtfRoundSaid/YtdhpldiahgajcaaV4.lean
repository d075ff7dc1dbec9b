/- UtfRound's Lean function of the same answers is true at every input; no condition. -/
import Derived.Test.YtdhpldiahgajcaaU9
import Derived.Test.YtdhpldiahgajcaaV3
namespace Go.Proofs.Ytdhpldiahgajcaa.PUtfAll
open Go.RowKit Go.Proofs.YtdhpldiahgajcaaW.PrintWords Go.Proofs.Ytdhpldiahgajcaa
theorem size_no {s : Int} (h : scalB s = false) : sizeS s = 0 := by unfold sizeS; rw [h]; rfl
theorem UtfRound_pure : lontarlaw01_UtfRound.Pure := by
  intro a0 a1 _ _
  refine ⟨4, ?_⟩
  unfold lontarlaw01_UtfRound.f
  rw [awake_is 1]
  simp only [Option.bind_some, if_true]
  generalize wrap64 (Int.tmod a0 1114112) = a
  generalize wrap64 (Int.tmod a1 1114112) = b
  rw [scal_is]
  simp only [Option.bind_some]
  cases ha : scalB a with
  | false =>
    rw [if_neg (by decide)]
    simp only [lontarlaw01_UtfRound.j0, if_true]
    rw [size_is, size_no ha]
    rfl
  | true =>
    rw [if_pos rfl, scal_is]
    simp only [Option.bind_some]
    cases hb : scalB b with
    | false =>
      simp only [Bool.not_false, lontarlaw01_UtfRound.j0, if_true]
      rw [size_is, size_is, size_no hb]
      simp only [Option.bind_some]
      split <;> rfl
    | true =>
      simp only [Bool.not_true, lontarlaw01_UtfRound.j0]
      rw [if_neg (by decide)]
      exact round_yes ha hb 1
open Go.RowKit in
theorem UtfRound_row (a0 : Int) (w0 : (Lit.int .u32 a0).wf = true) (a1 : Int) (w1 : (Lit.int .u32 a1).wf = true) (W : World) :
    Calls Try.prog 5 #[.int .u32 a0, .int .u32 a1] W fun e w' => e = .returned (.bool true) ∧ Below W.heap.size W w' :=
  lontarlaw01_UtfRound.walk UtfRound_pure a0 a1 W w0 w1
end Go.Proofs.Ytdhpldiahgajcaa.PUtfAll
