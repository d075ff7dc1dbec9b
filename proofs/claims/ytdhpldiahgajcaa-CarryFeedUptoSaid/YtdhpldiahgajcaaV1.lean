/- Plain laws of utf.One's and utf.Put's answers (layer 1): no program in sight; no condition. -/
import Derived.Test.YtdhpldiahgajcaaU2
namespace Go.Proofs.Ytdhpldiahgajcaa.PUtfAll
open Go.RowKit Go.Proofs.YtdhpldiahgajcaaW.PrintWords Go.Proofs.Ytdhpldiahgajcaa
def scalB (s : Int) : Bool := decide (0 ≤ s ∧ s ≤ 1114111 ∧ (s < 55296 ∨ 57343 < s))
def sizeS (s : Int) : Int := if scalB s = true then (if s < 128 then 1 else if s < 2048 then 2 else if s < 65536 then 3 else 4) else 0
def encS (s : Int) : List Int :=
  if s < 128 then [s] else if s < 2048 then [192 + s / 64, 128 + s % 64]
  else if s < 65536 then [224 + s / 4096, 128 + s / 64 % 64, 128 + s % 64]
  else [240 + s / 262144, 128 + s / 4096 % 64, 128 + s / 64 % 64, 128 + s % 64]
def encB (s : Int) : List Int := if scalB s = true then encS s else [239, 191, 189]
theorem scal_bd {s : Int} (h : scalB s = true) : 0 ≤ s ∧ s ≤ 1114111 ∧ (s < 55296 ∨ 57343 < s) := by unfold scalB at h; simpa using h
theorem one_go {l : List Int} {z s lo hi : Int} (h0 : l.length ≠ 0) (hl : leadF (l.getD 0 0) = (z, s, lo, hi)) (hz : z ≠ 0) : oneF l = oneGo l z 5 1 s lo hi := by
  unfold oneF
  rw [if_neg h0, hl, if_neg hz]
theorem lead1 {c : Int} (h : c < 128) : leadF c = (1, c, 128, 191) := by unfold leadF; rw [if_pos h]
theorem lead2 {c : Int} (h0 : 194 ≤ c) (h1 : c < 224) : leadF c = (2, c - 192, 128, 191) := by
  unfold leadF; rw [if_neg (by omega), if_neg (by omega), if_pos h1]
theorem lead3 {c : Int} (h0 : 224 ≤ c) (h1 : c < 240) : leadF c = (3, c - 224, if c = 224 then 160 else 128, if c = 237 then 159 else 191) := by
  unfold leadF; rw [if_neg (by omega), if_neg (by omega), if_neg (by omega)]
  by_cases a : c = 224
  · subst a; rfl
  · rw [if_neg a]
    by_cases b : c = 237
    · subst b; rfl
    · rw [if_neg b, if_pos h1, if_neg a, if_neg b]
theorem lead4 {c : Int} (h0 : 240 ≤ c) (h1 : c ≤ 244) : leadF c = (4, c - 240, if c = 240 then 144 else 128, if c = 244 then 143 else 191) := by
  unfold leadF; rw [if_neg (by omega), if_neg (by omega), if_neg (by omega), if_neg (by omega), if_neg (by omega), if_neg (by omega)]
  by_cases a : c = 240
  · subst a; rfl
  · rw [if_neg a]
    by_cases b : c = 244
    · subst b; rfl
    · rw [if_neg b, if_neg a, if_neg b]
/-- a scalar is read as it was laid, whatever stands behind it -/
theorem one_enc {s : Int} (h : scalB s = true) (r : List Int) : oneF (encS s ++ r) = (s, ((encS s).length : Int), 0) := by
  obtain ⟨h0, h1, h2⟩ := scal_bd h
  unfold encS
  by_cases c1 : s < 128
  · rw [if_pos c1]
    rw [one_go (l := [s] ++ r) (by simp) (lead1 (c := s) c1) (by decide), go_end (by rfl)]
    rfl
  · rw [if_neg c1]
    by_cases c2 : s < 2048
    · rw [if_pos c2]
      have e0 : ([192 + s / 64, 128 + s % 64] ++ r).getD 1 0 = 128 + s % 64 := rfl
      have en : ([192 + s / 64, 128 + s % 64] ++ r).length = r.length + 2 := by simp
      rw [one_go (l := [192 + s / 64, 128 + s % 64] ++ r) (by simp) (lead2 (c := 192 + s / 64) (by omega) (by omega)) (by decide)]
      rw [go_on (by decide) (by rw [en]; omega) (by rw [e0]; omega), e0, go_end (by rfl)]
      simp only [Prod.mk.injEq]
      exact ⟨by omega, by simp, trivial⟩
    · rw [if_neg c2]
      by_cases c3 : s < 65536
      · rw [if_pos c3]
        have e0 : ([224 + s / 4096, 128 + s / 64 % 64, 128 + s % 64] ++ r).getD 1 0 = 128 + s / 64 % 64 := rfl
        have e1 : ([224 + s / 4096, 128 + s / 64 % 64, 128 + s % 64] ++ r).getD (1 + 1) 0 = 128 + s % 64 := rfl
        have en : ([224 + s / 4096, 128 + s / 64 % 64, 128 + s % 64] ++ r).length = r.length + 3 := by simp
        rw [one_go (l := [224 + s / 4096, 128 + s / 64 % 64, 128 + s % 64] ++ r) (by simp) (lead3 (c := 224 + s / 4096) (by omega) (by omega)) (by decide)]
        rw [go_on (by decide) (by rw [en]; omega) (by rw [e0]; (repeat' split) <;> omega), e0]
        rw [go_on (by decide) (by rw [en]; omega) (by rw [e1]; omega), e1, go_end (by rfl)]
        simp only [Prod.mk.injEq]
        exact ⟨by omega, by simp, trivial⟩
      · rw [if_neg c3]
        have e0 : ([240 + s / 262144, 128 + s / 4096 % 64, 128 + s / 64 % 64, 128 + s % 64] ++ r).getD 1 0 = 128 + s / 4096 % 64 := rfl
        have e1 : ([240 + s / 262144, 128 + s / 4096 % 64, 128 + s / 64 % 64, 128 + s % 64] ++ r).getD (1 + 1) 0 = 128 + s / 64 % 64 := rfl
        have e2 : ([240 + s / 262144, 128 + s / 4096 % 64, 128 + s / 64 % 64, 128 + s % 64] ++ r).getD (1 + 1 + 1) 0 = 128 + s % 64 := rfl
        have en : ([240 + s / 262144, 128 + s / 4096 % 64, 128 + s / 64 % 64, 128 + s % 64] ++ r).length = r.length + 4 := by simp
        rw [one_go (l := [240 + s / 262144, 128 + s / 4096 % 64, 128 + s / 64 % 64, 128 + s % 64] ++ r) (by simp) (lead4 (c := 240 + s / 262144) (by omega) (by omega)) (by decide)]
        rw [go_on (by decide) (by rw [en]; omega) (by rw [e0]; (repeat' split) <;> omega), e0]
        rw [go_on (by decide) (by rw [en]; omega) (by rw [e1]; omega), e1]
        rw [go_on (by decide) (by rw [en]; omega) (by rw [e2]; omega), e2, go_end (by rfl)]
        simp only [Prod.mk.injEq]
        exact ⟨by omega, by simp, trivial⟩
theorem enc_len {s : Int} (h : scalB s = true) : ((encS s).length : Int) = sizeS s := by
  unfold encS sizeS; rw [if_pos h]; (repeat' split) <;> rfl
theorem enc_bytes {s : Int} (h : scalB s = true) : Bytes (encS s) := by
  obtain ⟨h0, h1, h2⟩ := scal_bd h
  unfold encS
  intro n hn
  (repeat' split at hn) <;> simp at hn <;> omega
theorem encB_bytes (s : Int) : Bytes (encB s) := by
  unfold encB
  by_cases h : scalB s = true
  · rw [if_pos h]; exact enc_bytes h
  · rw [if_neg h]; intro n hn; simp at hn; omega
theorem enc_inj {a b : Int} (ha : scalB a = true) (hb : scalB b = true) (h : encS a = encS b) : a = b := by
  have h1 := one_enc ha []
  have h2 := one_enc hb []
  rw [h] at h1
  rw [h1] at h2
  exact (Prod.mk.inj h2).1
theorem enc_one_len {s : Int} : 1 ≤ (encS s).length ∧ (encS s).length ≤ 4 := by
  unfold encS; (repeat' split) <;> simp
end Go.Proofs.Ytdhpldiahgajcaa.PUtfAll
