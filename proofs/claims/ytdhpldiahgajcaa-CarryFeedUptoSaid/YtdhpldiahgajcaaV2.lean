/- Plain laws of the answers of utf's functions (layer 1) as the printer has them: what they come to; no condition but sizes. -/
import Derived.Test.YtdhpldiahgajcaaV1
import Derived.Test.YtdhpldiahgajcaaU3
import Derived.Lib.Bytes
namespace Go.Proofs.Ytdhpldiahgajcaa.PUtfAll
open Go.RowKit Go.Proofs.YtdhpldiahgajcaaW.PrintWords Go.Proofs.Ytdhpldiahgajcaa
theorem scal_is (s : Int) : utf_Scalar.f s = some (scalB s) := by
  unfold utf_Scalar.f scalB
  by_cases h1 : s ≥ 0
  · rw [if_pos h1]
    by_cases h2 : s ≤ 1114111
    · rw [if_pos h2]
      by_cases h3 : s < 55296
      · rw [if_pos h3]; exact congrArg some (decide_eq_true (by omega)).symm
      · rw [if_neg h3]; exact congrArg some (decide_eq_decide.2 (by omega))
    · rw [if_neg h2]; exact congrArg some (decide_eq_false (by omega)).symm
  · rw [if_neg h1]; exact congrArg some (decide_eq_false (by omega)).symm
theorem size_is (s : Int) : utf_Size.f s = some (sizeS s) := by
  unfold utf_Size.f sizeS
  rw [scal_is]
  simp only [Option.bind_some]
  (repeat' split) <;> rfl
theorem or_i64 {x y : Int} (i : Nat) (hx₀ : 0 ≤ x) (hx : x % 2 ^ i = 0) (hx₁ : x < 2 ^ 62) (h₀ : 0 ≤ y) (h₁ : y < 2 ^ i) (h2 : y < 2 ^ 62) : Go.bits .or .i64 x y = x + y :=
  bits_join .i64 62 (by decide) (fun n h0 h1 => IntWalk.i64_in n (by omega)) i x y hx₀ hx hx₁ h₀ h₁ h2
theorem and63_i64 {x : Int} (h₀ : 0 ≤ x) (h₁ : x < 2 ^ 62) : Go.bits .and .i64 x 63 = x % 64 :=
  bits_mask .i64 62 (by decide) (fun n h0 h1 => IntWalk.i64_in n (by omega)) 6 (by decide) x h₀ h₁
theorem or128 {x : Int} (h₀ : 0 ≤ x) (h₁ : x < 4611686018427387904) : Go.bits .or .i64 128 (Go.bits .and .i64 x 63) % 256 = 128 + x % 64 := by
  rw [and63_i64 h₀ h₁, or_i64 6 (by decide) (by decide) (by decide) (by omega) (by omega) (by omega)]; omega
theorem put_scal {s : Int} (h : scalB s = true) (k : Nat) (l : List Int) (hl : l.length + 4 < 140737488355328) : utf_Put.f (k + 1) l s = some (l ++ encS s) := by
  obtain ⟨h0, h1, h2⟩ := scal_bd h
  unfold utf_Put.f
  rw [size_is]
  simp only [Option.bind_some]
  unfold sizeS encS
  rw [if_pos h]
  by_cases c1 : s < 128
  · rw [if_pos c1, if_pos c1, if_pos rfl, if_pos (by omega), show s % 256 = s by omega]
  · rw [if_neg c1, if_neg c1]
    by_cases c2 : s < 2048
    · rw [if_pos c2, if_pos c2, if_neg (by decide), if_pos rfl]
      rw [or128 h0 (by omega), or_i64 5 (by decide) (by decide) (by decide) (by omega) (by omega) (by omega)]
      rw [if_pos (by simp; omega), show (192 + s / 64) % 256 = 192 + s / 64 by omega]
    · rw [if_neg c2, if_neg c2]
      by_cases c3 : s < 65536
      · rw [if_pos c3, if_pos c3, if_neg (by decide), if_neg (by decide), if_pos rfl]
        rw [or128 h0 (by omega), or128 (x := s / 64) (by omega) (by omega), or_i64 4 (by decide) (by decide) (by decide) (by omega) (by omega) (by omega)]
        rw [if_pos (by simp; omega), show (224 + s / 4096) % 256 = 224 + s / 4096 by omega]
      · rw [if_neg c3, if_neg c3, if_neg (by decide), if_neg (by decide), if_neg (by decide), if_pos rfl]
        rw [or128 h0 (by omega), or128 (x := s / 64) (by omega) (by omega), or128 (x := s / 4096) (by omega) (by omega), or_i64 3 (by decide) (by decide) (by decide) (by omega) (by omega) (by omega)]
        rw [if_pos (by simp; omega), show (240 + s / 262144) % 256 = 240 + s / 262144 by omega]
theorem put_is (s : Int) (k : Nat) (l : List Int) (hl : l.length + 4 < 140737488355328) : utf_Put.f (k + 2) l s = some (l ++ encB s) := by
  unfold encB
  by_cases h : scalB s = true
  · rw [if_pos h]; exact put_scal h (k + 1) l hl
  · rw [if_neg h]
    unfold utf_Put.f
    rw [size_is]
    simp only [Option.bind_some]
    unfold sizeS
    rw [if_neg h, if_neg (by decide), if_neg (by decide), if_neg (by decide), if_neg (by decide), put_scal (by decide) k l hl]
    rfl
theorem str_inj {a b : List Int} (ha : Bytes a) (hb : Bytes b) (h : (strOfNums a).toList = (strOfNums b).toList) : a = b := by
  rw [Lib.strOfNums_toList, Lib.strOfNums_toList] at h
  have back : ∀ l : List Int, Bytes l → (Lib.bytesOf l).map (fun c => (c.toNat : Int)) = l := by
    intro l hl
    unfold Lib.bytesOf
    rw [List.map_map]
    conv => rhs; rw [← List.map_id l]
    refine List.map_congr_left fun n hn => ?_
    have := hl n hn
    simp only [Function.comp, id]
    rw [UInt8.toNat_ofNat']
    omega
  rw [← back a ha, ← back b hb, h]
theorem awake_is (k : Nat) : lontarlaw01_awake.f (k + 3) = some true := by
  have h : lontarlaw01_awake.f 3 = some true := by decide +kernel
  induction k with
  | zero => exact h
  | succ k ih => exact lontarlaw01_awake.mono (k + 3) true ih
theorem put_two {a b : Int} (ha : scalB a = true) (hb : scalB b = true) : encB a = encS a ∧ encB b = encS b := ⟨by unfold encB; rw [if_pos ha], by unfold encB; rw [if_pos hb]⟩
theorem Bytes.app {l m : List Int} (h : Bytes l) (k : Bytes m) : Bytes (l ++ m) := fun n hn => by
  rcases List.mem_append.1 hn with h1 | h1
  · exact h n h1
  · exact k n h1
theorem Bytes.drop {l : List Int} (h : Bytes l) (k : Nat) : Bytes (l.drop k) := fun n hn => h n (List.mem_of_mem_drop hn)
theorem Bytes.take {l : List Int} (h : Bytes l) (k : Nat) : Bytes (l.take k) := fun n hn => h n (List.mem_of_mem_take hn)
end Go.Proofs.Ytdhpldiahgajcaa.PUtfAll
