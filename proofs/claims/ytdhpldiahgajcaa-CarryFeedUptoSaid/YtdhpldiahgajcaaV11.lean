/- The law package's All is utf.All. No condition but bytes and sizes. -/
import Derived.Test.YtdhpldiahgajcaaV10
import Derived.Test.YtdhpldiahgajcaaV6
import Derived.Test.YtdhpldiahgajcaaU8
namespace Go.Proofs.Ytdhpldiahgajcaa.PUtfAll
open Go.RowKit Go.Proofs.YtdhpldiahgajcaaW.PrintWords Go.Proofs.Ytdhpldiahgajcaa
set_option linter.unusedVariables false
theorem one_le {l : List Int} {r : Int × Int × Int} {k : Nat} (h : lontarlaw01_one.f 100 l = some r) (hk : 100 ≤ k) : lontarlaw01_one.f k l = some r := by
  obtain ⟨m, rfl⟩ : ∃ m, k = 100 + m := ⟨k - 100, by omega⟩
  induction m with
  | zero => exact h
  | succ m ih => exact lontarlaw01_one.mono l (100 + m) r (ih (by omega))
theorem at_num {a n m : Nat} (h : a + n ≤ m) (hm : m < 2932031007402) : wrap64 ((a : Int) + n) = ((a + n : Nat) : Int) := by unfold wrap64; omega
theorem lall_l0 (l : List Int) (hB : Bytes l) (hl : l.length < 2932031007402) : ∀ (k : Nat) (a : Nat) (xs : List S32), a ≤ l.length → xs.length ≤ a → l.length - a + 101 ≤ k → lontarlaw01_All.l0 k l xs (a : Int) = some (xs ++ allF k a (l.drop a)) := by
  intro k
  induction k with
  | zero => intro a xs _ _ h; omega
  | succ k ih =>
    intro a xs ha hx hk
    unfold lontarlaw01_All.l0 allF
    by_cases h0 : a = l.length
    · rw [if_neg (by omega), if_pos (by rw [h0, List.drop_length]), List.append_nil]
    · have hd : l.drop a ≠ [] := fun h => by have := congrArg List.length h; simp at this; omega
      obtain ⟨n, s, e, h1, h2, h3, h4, h5, h6⟩ := one_far hd (hB.drop a)
      rw [List.length_drop] at h3
      have h10 := one_le (one_is (hB.drop a)) (show 100 ≤ k by omega)
      rw [h1] at h10
      rw [if_pos (by omega), if_pos (by omega), if_pos (by omega), if_neg hd, Int.toNat_natCast, h10, h1]
      have hw := at_num (show a + n ≤ l.length by omega) hl
      have hlt : xs.length < 2932031007402 := by omega
      have e1 : (a : Int) + n = ((a + n : Nat) : Int) := rfl
      simp only [Option.bind_some]
      by_cases he : e = 0
      · subst he
        rw [if_pos rfl, if_pos hlt, if_pos rfl, hw, ih (a + n) _ (by omega) (by simp; omega) (by omega), Int.toNat_natCast, List.drop_drop, e1]
        simp
      · rw [if_neg he, if_pos hlt, if_neg he, hw, ih (a + n) _ (by omega) (by simp; omega) (by omega), Int.toNat_natCast, List.drop_drop, e1]
        simp
theorem lall_f {l : List Int} (hB : Bytes l) (hl : l.length < 2932031007402) : lontarlaw01_All.f (l.length + 101) l = some (allF (l.length + 1) 0 l) := by
  have := lall_l0 l hB hl (l.length + 101) 0 [] (by omega) (by simp) (by omega)
  rw [List.nil_append, List.drop_zero, all_fuel _ (l.length + 1) _ _ (by omega) (by omega) hB] at this
  exact this
end Go.Proofs.Ytdhpldiahgajcaa.PUtfAll
