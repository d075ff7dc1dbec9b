/- UtfRound's plain law: the Lean function of the same answers is true at every input; no condition. -/
import Derived.Test.YtdhpldiahgajcaaV2
namespace Go.Proofs.Ytdhpldiahgajcaa.PUtfAll
open Go.RowKit Go.Proofs.YtdhpldiahgajcaaW.PrintWords Go.Proofs.Ytdhpldiahgajcaa
theorem enc_eq {a b : Int} (ha : scalB a = true) (hb : scalB b = true) : ((strOfNums (encS a)).toList == (strOfNums (encS b)).toList) = (a == b) := by
  rw [Bool.eq_iff_iff, beq_iff_eq, beq_iff_eq]
  exact ⟨fun h => enc_inj ha hb (str_inj (enc_bytes ha) (enc_bytes hb) h), fun h => by rw [h]⟩
theorem round_yes {a b : Int} (ha : scalB a = true) (hb : scalB b = true) (k : Nat) :
    ((utf_Put.f (k + 2) ([] : List Int) a).bind fun t153 => ((utf_Put.f (k + 2) t153 b).bind fun t156 => ((utf_One.f t156).bind fun bt159 => (if 0 ≤ (mn bt159.2.1 (t156.length : Int)) then (if (mn bt159.2.1 (t156.length : Int)) ≤ (t156.length : Int) then ((utf_One.f (t156.drop ((mn bt159.2.1 (t156.length : Int)) : Int).toNat)).bind fun bt166 => (if bt159.1 = a then (if bt166.1 = b then (if bt159.2.2 = 0 then (if bt166.2.2 = 0 then ((utf_Size.f a).bind fun t169 => (if bt159.2.1 = t169 then (if (wrap64 (bt159.2.1 + bt166.2.1)) = (t156.length : Int) then ((utf_Put.f (k + 2) ([] : List Int) a).bind fun t170 => ((utf_Put.f (k + 2) ([] : List Int) b).bind fun t173 => (some (((strOfNums t170).toList == (strOfNums t173).toList) == (a == b))))) else (some false)) else (some false))) else (some false)) else (some false)) else (some false)) else (some false))) else (none)) else (none))))) = some true := by
  obtain ⟨ea, eb⟩ := put_two ha hb
  have la := enc_one_len (s := a)
  have lb := enc_one_len (s := b)
  have fa := enc_len ha
  have fb := enc_len hb
  rw [put_is a k [] (by simp), ea, List.nil_append]
  simp only [Option.bind_some]
  rw [put_is b k (encS a) (by omega), eb]
  simp only [Option.bind_some]
  rw [utf_One.of ((enc_bytes ha).app (enc_bytes hb)), one_enc ha]
  simp only [Option.bind_some]
  have hm : mn ((encS a).length : Int) ((encS a ++ encS b).length : Int) = (encS a).length := by unfold mn; rw [List.length_append]; omega
  rw [hm, if_pos (by omega), if_pos (by rw [List.length_append]; omega)]
  rw [show ((encS a).length : Int).toNat = (encS a).length by omega, List.drop_left, utf_One.of (enc_bytes hb)]
  have h1 := one_enc hb []
  rw [List.append_nil] at h1
  rw [h1]
  simp only [Option.bind_some, if_true]
  rw [size_is]
  simp only [Option.bind_some]
  rw [if_pos fa]
  have hw : wrap64 (((encS a).length : Int) + ((encS b).length : Int)) = ((encS a ++ encS b).length : Int) := by unfold wrap64; rw [List.length_append]; omega
  rw [if_pos hw, put_is b k [] (by simp), eb, List.nil_append]
  simp only [Option.bind_some]
  rw [enc_eq ha hb]
  simp
end Go.Proofs.Ytdhpldiahgajcaa.PUtfAll
