/- Plain laws of the bytes of scalars, of both parts, and of the pieces that are read of them. No condition but sizes. -/
import Derived.Test.YtdhpldiahgajcaaV6
namespace Go.Proofs.Ytdhpldiahgajcaa.PUtfAll
open Go.RowKit Go.Proofs.YtdhpldiahgajcaaW.PrintWords Go.Proofs.Ytdhpldiahgajcaa
set_option linter.unusedVariables false
def bsF : List Int → List Int
  | [] => []
  | s :: r => encB s ++ bsF r
theorem bsF_app (a b : List Int) : bsF (a ++ b) = bsF a ++ bsF b := by
  induction a with
  | nil => rfl
  | cons s r ih => simp only [List.cons_append, bsF, ih, List.append_assoc]
theorem bsF_bytes (l : List Int) : Bytes (bsF l) := by
  induction l with
  | nil => intro x hx; simp [bsF] at hx
  | cons s r ih => exact (encB_bytes s).app ih
theorem bsF_len (l : List Int) : (bsF l).length ≤ 4 * l.length := by
  induction l with
  | nil => simp [bsF]
  | cons s r ih => have := (encB_len s).2; simp only [bsF, List.length_append, List.length_cons]; omega
/-- the scalar that is read of what utf.Put lays -/
def scS (s : Int) : Int := if scalB s = true then s else 65533
theorem encB_sc (s : Int) : scalB (scS s) = true ∧ encB s = encS (scS s) := by
  unfold encB scS
  by_cases h : scalB s = true
  · rw [if_pos h, if_pos h]; exact ⟨h, rfl⟩
  · rw [if_neg h, if_neg h]; exact ⟨by decide, rfl⟩
def tokF : Int → List Int → List S32
  | _, [] => []
  | a, s :: r => ⟨a, ((encB s).length : Int), [scS s], 0⟩ :: tokF (a + (encB s).length) r
theorem tok_is : ∀ (l : List Int) (f : Nat) (a : Int), (bsF l).length < f → allF f a (bsF l) = tokF a l := by
  intro l
  induction l with
  | nil => intro f a hf; cases f <;> simp [allF, bsF, tokF]
  | cons s r ih =>
    intro f a hf
    cases f with
    | zero => omega
    | succ f =>
      obtain ⟨h1, h2⟩ := encB_sc s
      have hl := encB_len s
      have h3 := one_enc h1 (bsF r)
      rw [← h2] at h3
      simp only [bsF, List.length_append] at hf
      unfold allF
      rw [bsF, if_neg (fun h => by have := congrArg List.length (List.append_eq_nil_iff.1 h).1; rw [List.length_nil] at this; omega), h3]
      simp only [if_true, Int.toNat_natCast, List.drop_left]
      rw [ih f _ (by omega)]
      rfl
theorem tok_len (l : List Int) (a : Int) : (tokF a l).length = l.length := by
  induction l generalizing a with
  | nil => rfl
  | cons s r ih => simp only [tokF, List.length_cons, ih]
theorem tok_get (l : List Int) (a : Int) {i : Nat} (h : i < l.length) : ∃ at_ n : Int, (tokF a l).getD i z32 = ⟨at_, n, [scS (l.getD i 0)], 0⟩ := by
  induction l generalizing a i with
  | nil => simp at h
  | cons s r ih =>
    cases i with
    | zero => exact ⟨a, _, rfl⟩
    | succ i =>
      obtain ⟨x, y, e⟩ := ih (a + (encB s).length) (i := i) (by simpa using h)
      exact ⟨x, y, by simpa [tokF] using e⟩
theorem up_num {k n : Nat} (hk : k < n) (hn : n ≤ 1048576) : wrap64 ((k : Int) + 1) = ((k + 1 : Nat) : Int) := by unfold wrap64; omega
theorem put_some (s : Int) {k : Nat} (hk : 2 ≤ k) (l : List Int) (hl : l.length ≤ 4194304) : utf_Put.f k l s = some (l ++ encB s) := by
  obtain ⟨k2, rfl⟩ : ∃ k2, k = k2 + 2 := ⟨k - 2, by omega⟩
  exact put_is s k2 l (by omega)
theorem bytes_l0 (l : List Int) (hl : l.length ≤ 1048576) : ∀ (k : Nat) (i : Nat) (xs : List Int), i ≤ l.length → xs.length ≤ 4 * i → l.length - i + 3 ≤ k → utf_Bytes.l0 k xs l (l.length : Int) (i : Int) = some (xs ++ bsF (l.drop i)) := by
  intro k
  induction k with
  | zero => intro i xs _ _ h; omega
  | succ k ih =>
    intro i xs hi hx hk
    unfold utf_Bytes.l0
    by_cases h0 : i = l.length
    · rw [if_neg (by omega), h0, List.drop_length]; simp [bsF]
    · have hd := List.drop_eq_getElem_cons (show i < l.length by omega)
      have hr : rd l (i : Int) = l[i] := by unfold rd; simp [List.getElem?_eq_getElem (show i < l.length by omega)]
      have hw := up_num (show i < l.length by omega) hl
      have hel := encB_len l[i]
      rw [if_pos (by omega), if_pos (by omega), if_pos (by omega), hr, put_some _ (by omega) _ (by omega)]
      simp only [Option.bind_some]
      rw [hw, ih (i + 1) _ (by omega) (by rw [List.length_append]; omega) (by omega), hd, bsF, List.append_assoc]
theorem bytes_f {l : List Int} (hl : l.length ≤ 1048576) : utf_Bytes.f (l.length + 3) l = some (bsF l) := by
  have := bytes_l0 l hl (l.length + 3) 0 [] (by omega) (by simp) (by omega)
  rw [List.nil_append, List.drop_zero] at this
  exact this
theorem sc_ne {s : Int} (h : ¬ scS s = s) : scalB s = false ∧ scS s = 65533 := by
  unfold scS at *
  by_cases c : scalB s = true
  · rw [if_pos c] at h; exact absurd rfl h
  · rw [if_neg c]; exact ⟨by simpa using c, rfl⟩
end Go.Proofs.Ytdhpldiahgajcaa.PUtfAll
