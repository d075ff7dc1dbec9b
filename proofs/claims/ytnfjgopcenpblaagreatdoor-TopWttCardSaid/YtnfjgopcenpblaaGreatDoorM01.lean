/- Texts of this claim, one behind the other (merged by a program): TD, TE, TF. No condition of their own. -/
import Derived.Test.YtnfjgopcenpblaaGreatDoorM00
/- Plain laws of utf.One's and utf.Put's answers (layer 1): no program in sight; no condition. -/
namespace Go.Proofs.YtnfjgopcenpblaaGreatDoor.T
open Go.RowKit Go.Proofs.YtnfjgopcenpblaaGreatDoorW.PrintWords Go.Proofs.YtnfjgopcenpblaaGreatDoor
def scalB (s : Int) : Bool := decide (0 ≤ s ∧ s ≤ 1114111 ∧ (s < 55296 ∨ 57343 < s))
def sizeS (s : Int) : Int := if scalB s = true then (if s < 128 then 1 else if s < 2048 then 2 else if s < 65536 then 3 else 4) else 0
def encS (s : Int) : List Int :=
  if s < 128 then [s] else if s < 2048 then [192 + s / 64, 128 + s % 64]
  else if s < 65536 then [224 + s / 4096, 128 + s / 64 % 64, 128 + s % 64]
  else [240 + s / 262144, 128 + s / 4096 % 64, 128 + s / 64 % 64, 128 + s % 64]
def encB (s : Int) : List Int := if scalB s = true then encS s else [239, 191, 189]
theorem scal_bd {s : Int} (h : scalB s = true) : 0 ≤ s ∧ s ≤ 1114111 ∧ (s < 55296 ∨ 57343 < s) := by unfold scalB at h; simpa using h
theorem one_go {l : List Int} {z s lo hi : Int} (h0 : l.length ≠ 0) (hl : leadF (l.getD 0 0) = (z, s, lo, hi)) (hz : z ≠ 0) : oneF l = oneGo l z 5 1 s lo hi := by
  unfold oneF
  rw [if_neg h0, hl, if_neg hz]
theorem lead1 {c : Int} (h : c < 128) : leadF c = (1, c, 128, 191) := by unfold leadF; rw [if_pos h]
theorem lead2 {c : Int} (h0 : 194 ≤ c) (h1 : c < 224) : leadF c = (2, c - 192, 128, 191) := by
  unfold leadF; rw [if_neg (by omega), if_neg (by omega), if_pos h1]
theorem lead3 {c : Int} (h0 : 224 ≤ c) (h1 : c < 240) : leadF c = (3, c - 224, if c = 224 then 160 else 128, if c = 237 then 159 else 191) := by
  unfold leadF; rw [if_neg (by omega), if_neg (by omega), if_neg (by omega)]
  by_cases a : c = 224
  · subst a; rfl
  · rw [if_neg a]
    by_cases b : c = 237
    · subst b; rfl
    · rw [if_neg b, if_pos h1, if_neg a, if_neg b]
theorem lead4 {c : Int} (h0 : 240 ≤ c) (h1 : c ≤ 244) : leadF c = (4, c - 240, if c = 240 then 144 else 128, if c = 244 then 143 else 191) := by
  unfold leadF; rw [if_neg (by omega), if_neg (by omega), if_neg (by omega), if_neg (by omega), if_neg (by omega), if_neg (by omega)]
  by_cases a : c = 240
  · subst a; rfl
  · rw [if_neg a]
    by_cases b : c = 244
    · subst b; rfl
    · rw [if_neg b, if_neg a, if_neg b]
/-- a scalar is read as it was laid, whatever stands behind it -/
theorem one_enc {s : Int} (h : scalB s = true) (r : List Int) : oneF (encS s ++ r) = (s, ((encS s).length : Int), 0) := by
  obtain ⟨h0, h1, h2⟩ := scal_bd h
  unfold encS
  by_cases c1 : s < 128
  · rw [if_pos c1]
    rw [one_go (l := [s] ++ r) (by simp) (lead1 (c := s) c1) (by decide), go_end (by rfl)]
    rfl
  · rw [if_neg c1]
    by_cases c2 : s < 2048
    · rw [if_pos c2]
      have e0 : ([192 + s / 64, 128 + s % 64] ++ r).getD 1 0 = 128 + s % 64 := rfl
      have en : ([192 + s / 64, 128 + s % 64] ++ r).length = r.length + 2 := by simp
      rw [one_go (l := [192 + s / 64, 128 + s % 64] ++ r) (by simp) (lead2 (c := 192 + s / 64) (by omega) (by omega)) (by decide)]
      rw [go_on (by decide) (by rw [en]; omega) (by rw [e0]; omega), e0, go_end (by rfl)]
      simp only [Prod.mk.injEq]
      exact ⟨by omega, by simp, trivial⟩
    · rw [if_neg c2]
      by_cases c3 : s < 65536
      · rw [if_pos c3]
        have e0 : ([224 + s / 4096, 128 + s / 64 % 64, 128 + s % 64] ++ r).getD 1 0 = 128 + s / 64 % 64 := rfl
        have e1 : ([224 + s / 4096, 128 + s / 64 % 64, 128 + s % 64] ++ r).getD (1 + 1) 0 = 128 + s % 64 := rfl
        have en : ([224 + s / 4096, 128 + s / 64 % 64, 128 + s % 64] ++ r).length = r.length + 3 := by simp
        rw [one_go (l := [224 + s / 4096, 128 + s / 64 % 64, 128 + s % 64] ++ r) (by simp) (lead3 (c := 224 + s / 4096) (by omega) (by omega)) (by decide)]
        rw [go_on (by decide) (by rw [en]; omega) (by rw [e0]; (repeat' split) <;> omega), e0]
        rw [go_on (by decide) (by rw [en]; omega) (by rw [e1]; omega), e1, go_end (by rfl)]
        simp only [Prod.mk.injEq]
        exact ⟨by omega, by simp, trivial⟩
      · rw [if_neg c3]
        have e0 : ([240 + s / 262144, 128 + s / 4096 % 64, 128 + s / 64 % 64, 128 + s % 64] ++ r).getD 1 0 = 128 + s / 4096 % 64 := rfl
        have e1 : ([240 + s / 262144, 128 + s / 4096 % 64, 128 + s / 64 % 64, 128 + s % 64] ++ r).getD (1 + 1) 0 = 128 + s / 64 % 64 := rfl
        have e2 : ([240 + s / 262144, 128 + s / 4096 % 64, 128 + s / 64 % 64, 128 + s % 64] ++ r).getD (1 + 1 + 1) 0 = 128 + s % 64 := rfl
        have en : ([240 + s / 262144, 128 + s / 4096 % 64, 128 + s / 64 % 64, 128 + s % 64] ++ r).length = r.length + 4 := by simp
        rw [one_go (l := [240 + s / 262144, 128 + s / 4096 % 64, 128 + s / 64 % 64, 128 + s % 64] ++ r) (by simp) (lead4 (c := 240 + s / 262144) (by omega) (by omega)) (by decide)]
        rw [go_on (by decide) (by rw [en]; omega) (by rw [e0]; (repeat' split) <;> omega), e0]
        rw [go_on (by decide) (by rw [en]; omega) (by rw [e1]; omega), e1]
        rw [go_on (by decide) (by rw [en]; omega) (by rw [e2]; omega), e2, go_end (by rfl)]
        simp only [Prod.mk.injEq]
        exact ⟨by omega, by simp, trivial⟩
theorem enc_len {s : Int} (h : scalB s = true) : ((encS s).length : Int) = sizeS s := by
  unfold encS sizeS; rw [if_pos h]; (repeat' split) <;> rfl
theorem enc_bytes {s : Int} (h : scalB s = true) : Bytes (encS s) := by
  obtain ⟨h0, h1, h2⟩ := scal_bd h
  unfold encS
  intro n hn
  (repeat' split at hn) <;> simp at hn <;> omega
theorem encB_bytes (s : Int) : Bytes (encB s) := by
  unfold encB
  by_cases h : scalB s = true
  · rw [if_pos h]; exact enc_bytes h
  · rw [if_neg h]; intro n hn; simp at hn; omega
theorem enc_inj {a b : Int} (ha : scalB a = true) (hb : scalB b = true) (h : encS a = encS b) : a = b := by
  have h1 := one_enc ha []
  have h2 := one_enc hb []
  rw [h] at h1
  rw [h1] at h2
  exact (Prod.mk.inj h2).1
theorem enc_one_len {s : Int} : 1 ≤ (encS s).length ∧ (encS s).length ≤ 4 := by
  unfold encS; (repeat' split) <;> simp
end Go.Proofs.YtnfjgopcenpblaaGreatDoor.T

/- Plain laws of utf.One's answers: what they read, how far, and that a longer text changes nothing that was decided; of bytes. -/
namespace Go.Proofs.YtnfjgopcenpblaaGreatDoor.T
open Go.RowKit Go.Proofs.YtnfjgopcenpblaaGreatDoorW.PrintWords Go.Proofs.YtnfjgopcenpblaaGreatDoor
theorem getD_app {l m : List Int} {j : Nat} (h : j < l.length) : (l ++ m).getD j 0 = l.getD j 0 := by
  simp [List.getElem?_append, h]
theorem go_ext (l r : List Int) (z : Int) : ∀ f k s lo hi, k ≤ l.length → (oneGo l z f k s lo hi).2.2 ≠ 2 → oneGo (l ++ r) z f k s lo hi = oneGo l z f k s lo hi := by
  intro f
  induction f with
  | zero => intro k s lo hi _ _; rfl
  | succ f ih =>
    intro k s lo hi hk h
    by_cases c1 : (k : Int) = z
    · rw [go_end c1, go_end c1]
    · by_cases c2 : k = l.length
      · rw [go_short c1 c2] at h; exact absurd rfl h
      · have hlt : k < l.length := by omega
        have hl2 : ¬ k = (l ++ r).length := by rw [List.length_append]; omega
        have hg : (l ++ r).getD k 0 = l.getD k 0 := getD_app hlt
        by_cases c3 : l.getD k 0 < lo ∨ hi < l.getD k 0
        · rw [go_bad c1 c2 c3, go_bad c1 hl2 (by rw [hg]; exact c3)]
        · rw [go_on c1 c2 c3] at h ⊢
          rw [go_on c1 hl2 (by rw [hg]; exact c3), hg]
          exact ih _ _ _ _ (by omega) h
theorem one_ext {l : List Int} (r : List Int) (h0 : l ≠ []) (h : (oneF l).2.2 ≠ 2) : oneF (l ++ r) = oneF l := by
  have hl : l.length ≠ 0 := fun h => h0 (List.eq_nil_of_length_eq_zero h)
  have hl2 : (l ++ r).length ≠ 0 := by rw [List.length_append]; omega
  have hg : (l ++ r).getD 0 0 = l.getD 0 0 := getD_app (by omega)
  unfold oneF at *
  rw [if_neg hl] at *
  rw [if_neg hl2, hg]
  by_cases c : (leadF (l.getD 0 0)).1 = 0
  · rw [if_pos c, if_pos c]
  · rw [if_neg c] at *
    rw [if_neg c]
    exact go_ext l r _ 5 1 _ _ _ (by omega) h
/-- how far it goes -/
theorem go_far (l : List Int) (z : Int) : ∀ (f k : Nat) (s lo hi : Int), k ≤ l.length → (k : Int) ≤ z → z < (k : Int) + (f : Int) → 1 ≤ k →
    ∃ (n : Nat) (s' e : Int), oneGo l z f k s lo hi = (s', (n : Int), e) ∧ k ≤ n ∧ n ≤ l.length ∧ (n : Int) ≤ z ∧ (e = 0 ∨ e = 1 ∨ e = 2) ∧ (e = 0 → (n : Int) = z) ∧ (e = 2 → n = l.length ∧ (n : Int) < z) ∧ (e = 1 → (n : Int) < z ∧ n < l.length) := by
  intro f
  induction f with
  | zero => intro k s lo hi h1 h2 h3 _; omega
  | succ f ih =>
    intro k s lo hi hk hz hf h1
    by_cases c1 : (k : Int) = z
    · exact ⟨k, s, 0, go_end c1, by omega, hk, by omega, .inl rfl, fun _ => c1, fun h => by omega, fun h => by omega⟩
    · by_cases c2 : k = l.length
      · exact ⟨l.length, 0, 2, go_short c1 c2, by omega, by omega, by omega, .inr (.inr rfl), fun h => by omega, fun _ => ⟨rfl, by omega⟩, fun h => by omega⟩
      · by_cases c3 : l.getD k 0 < lo ∨ hi < l.getD k 0
        · exact ⟨k, 0, 1, go_bad c1 c2 c3, by omega, by omega, by omega, .inr (.inl rfl), fun h => by omega, fun h => by omega, fun _ => ⟨by omega, by omega⟩⟩
        · obtain ⟨n, s', e, h, a, b, c, d, p, q, r⟩ := ih (k + 1) (s * 64 + l.getD k 0 % 64) 128 191 (by omega) (by omega) (by omega) (by omega)
          exact ⟨n, s', e, by rw [go_on c1 c2 c3]; exact h, by omega, b, c, d, p, q, r⟩
theorem one_far {l : List Int} (h0 : l ≠ []) (hB : Bytes l) : ∃ (n : Nat) (s e : Int), oneF l = (s, (n : Int), e) ∧ 1 ≤ n ∧ n ≤ l.length ∧ n ≤ 4 ∧ (e = 0 ∨ e = 1 ∨ e = 2) ∧ (e = 2 → n = l.length ∧ n ≤ 3) := by
  have hl : l.length ≠ 0 := fun h => h0 (List.eq_nil_of_length_eq_zero h)
  obtain ⟨x0, x1⟩ := hB.at 0
  obtain ⟨p1, p2, _⟩ := lead_bd _ x0 x1
  by_cases c : (leadF (l.getD 0 0)).1 = 0
  · refine ⟨1, 0, 1, ?_, by omega, by omega, by omega, .inr (.inl rfl), fun h => by omega⟩
    unfold oneF; rw [if_neg hl, if_pos c]; rfl
  · obtain ⟨n, s', e, h, a, b, cc, d, p, q, r⟩ := go_far l (leadF (l.getD 0 0)).1 5 1 (leadF (l.getD 0 0)).2.1 (leadF (l.getD 0 0)).2.2.1 (leadF (l.getD 0 0)).2.2.2 (by omega) (by omega) (by omega) (by omega)
    refine ⟨n, s', e, ?_, a, b, by omega, d, fun h => ⟨(q h).1, by have := (q h).2; omega⟩⟩
    unfold oneF; rw [if_neg hl, if_neg c]; exact h
theorem one_nil : oneF [] = (0, 0, 2) := rfl
theorem list4 {l : List Int} : (l.length = 1 → l = [l.getD 0 0]) ∧ (2 ≤ l.length → l.take 2 = [l.getD 0 0, l.getD 1 0]) ∧ (3 ≤ l.length → l.take 3 = [l.getD 0 0, l.getD 1 0, l.getD 2 0]) ∧ (4 ≤ l.length → l.take 4 = [l.getD 0 0, l.getD 1 0, l.getD 2 0, l.getD 3 0]) ∧ (1 ≤ l.length → l.take 1 = [l.getD 0 0]) := by
  rcases l with _ | ⟨a, _ | ⟨b, _ | ⟨c, _ | ⟨d, t⟩⟩⟩⟩ <;> simp <;> omega
theorem lead_z {c z s lo hi : Int} (h0 : 0 ≤ c) (h1 : c < 256) (h : leadF c = (z, s, lo, hi)) :
    (z = 1 ∧ c < 128 ∧ s = c) ∨ z = 0 ∨ (z = 2 ∧ 194 ≤ c ∧ c < 224 ∧ s = c - 192 ∧ lo = 128 ∧ hi = 191) ∨
    (z = 3 ∧ 224 ≤ c ∧ c < 240 ∧ s = c - 224 ∧ hi ≤ 191 ∧ 128 ≤ lo ∧ (c = 224 → lo = 160) ∧ (c = 237 → hi = 159)) ∨
    (z = 4 ∧ 240 ≤ c ∧ c ≤ 244 ∧ s = c - 240 ∧ hi ≤ 191 ∧ 128 ≤ lo ∧ (c = 240 → lo = 144) ∧ (c = 244 → hi = 143)) := by
  by_cases a : c < 128
  · rw [lead1 a] at h
    simp only [Prod.mk.injEq] at h
    exact .inl ⟨by omega, a, by omega⟩
  · by_cases b : c < 194 ∨ 244 < c
    · unfold leadF at h
      rw [if_neg a, if_pos b] at h
      simp only [Prod.mk.injEq] at h
      exact .inr (.inl (by omega))
    · by_cases d : c < 224
      · rw [lead2 (by omega) d] at h
        simp only [Prod.mk.injEq] at h
        exact .inr (.inr (.inl ⟨by omega, by omega, d, by omega, by omega, by omega⟩))
      · by_cases e : c < 240
        · rw [lead3 (by omega) e] at h
          simp only [Prod.mk.injEq] at h
          obtain ⟨q1, q2, q3, q4⟩ := h
          refine .inr (.inr (.inr (.inl ⟨by omega, by omega, e, by omega, ?_, ?_, fun hc => ?_, fun hc => ?_⟩)))
          · split at q4 <;> omega
          · split at q3 <;> omega
          · rw [if_pos hc] at q3; omega
          · rw [if_pos hc] at q4; omega
        · rw [lead4 (by omega) (by omega)] at h
          simp only [Prod.mk.injEq] at h
          obtain ⟨q1, q2, q3, q4⟩ := h
          refine .inr (.inr (.inr (.inr ⟨by omega, by omega, by omega, by omega, ?_, ?_, fun hc => ?_, fun hc => ?_⟩)))
          · split at q4 <;> omega
          · split at q3 <;> omega
          · rw [if_pos hc] at q3; omega
          · rw [if_pos hc] at q4; omega
/-- what is read is a scalar, and the bytes that are read are its own -/
theorem one_dec {l : List Int} (hB : Bytes l) {s n : Int} (h : oneF l = (s, n, 0)) : scalB s = true ∧ l.take n.toNat = encS s ∧ n = ((encS s).length : Int) := by
  by_cases h0 : l = []
  · subst h0; rw [one_nil] at h; simp at h
  have hl : l.length ≠ 0 := fun h => h0 (List.eq_nil_of_length_eq_zero h)
  obtain ⟨x0, x1⟩ := hB.at 0
  have B1 := hB.at 1
  have B2 := hB.at 2
  have B3 := hB.at 3
  obtain ⟨t1, t2, t3, t4, t5⟩ := list4 (l := l)
  generalize hq : leadF (l.getD 0 0) = q at *
  obtain ⟨z, s0, lo, hi⟩ := q
  by_cases hz : z = 0
  · unfold oneF at h; rw [if_neg hl, hq, if_pos hz] at h; simp at h
  rw [one_go hl hq hz] at h
  have far := go_far l z 5 1 s0 lo hi (by omega) (by have := lead_bd _ x0 x1; rw [hq] at this; simp at this; omega) (by have := lead_bd _ x0 x1; rw [hq] at this; simp at this; omega) (by omega)
  obtain ⟨nn, s', e, g, _, g2, _, _, g5, _⟩ := far
  rw [g] at h
  simp only [Prod.mk.injEq] at h
  obtain ⟨rfl, rfl, rfl⟩ := h
  have hnz := g5 rfl
  rw [Int.toNat_natCast]
  have hkk : ∀ j : Nat, 1 ≤ j → (j : Int) < z → ¬ (j : Int) = z ∧ ¬ j = l.length := fun j h1 h2 => ⟨by omega, by omega⟩
  rcases lead_z x0 x1 hq with ⟨rfl, hc, rfl⟩ | rfl | ⟨rfl, hc1, hc2, rfl, rfl, rfl⟩ | ⟨rfl, hc1, hc2, rfl, d1, d2, d3, d4⟩ | ⟨rfl, hc1, hc2, rfl, d1, d2, d3, d4⟩
  · rw [go_end (by rfl)] at g
    simp only [Prod.mk.injEq] at g
    obtain ⟨rfl, g6, _⟩ := g
    obtain rfl : nn = 1 := by omega
    refine ⟨by unfold scalB; exact decide_eq_true (by omega), ?_, ?_⟩
    · unfold encS; rw [if_pos hc, t5 (by omega)]
    · unfold encS; rw [if_pos hc]; rfl
  · exact absurd rfl hz
  · obtain rfl : nn = 2 := by omega
    obtain ⟨a1, a2⟩ := hkk 1 (by omega) (by omega)
    by_cases b1 : l.getD 1 0 < 128 ∨ 191 < l.getD 1 0
    · rw [go_bad a1 a2 b1] at g; simp at g
    rw [go_on a1 a2 b1, go_end (by rfl)] at g
    simp only [Prod.mk.injEq] at g
    obtain ⟨rfl, _, _⟩ := g
    have e : (l.getD 0 0 - 192) * 64 + l.getD 1 0 % 64 = (l.getD 0 0 - 192) * 64 + (l.getD 1 0 - 128) := by omega
    rw [e]
    refine ⟨by unfold scalB; exact decide_eq_true (by omega), ?_, ?_⟩
    · unfold encS; rw [if_neg (by omega), if_pos (by omega), t2 (by omega)]
      simp only [List.cons.injEq, and_true]; omega
    · unfold encS; rw [if_neg (by omega), if_pos (by omega)]; rfl
  · obtain rfl : nn = 3 := by omega
    obtain ⟨a1, a2⟩ := hkk 1 (by omega) (by omega)
    obtain ⟨a3, a4⟩ := hkk 2 (by omega) (by omega)
    by_cases b1 : l.getD 1 0 < lo ∨ hi < l.getD 1 0
    · rw [go_bad a1 a2 b1] at g; simp at g
    rw [go_on a1 a2 b1] at g
    by_cases b2 : l.getD (1 + 1) 0 < 128 ∨ 191 < l.getD (1 + 1) 0
    · rw [go_bad a3 a4 b2] at g; simp at g
    rw [go_on a3 a4 b2, go_end (by rfl)] at g
    simp only [Prod.mk.injEq] at g
    obtain ⟨rfl, _, _⟩ := g
    have w2 : l.getD (1 + 1) 0 = l.getD 2 0 := rfl
    rw [w2] at b2 ⊢
    have e : ((l.getD 0 0 - 224) * 64 + l.getD 1 0 % 64) * 64 + l.getD 2 0 % 64 = (l.getD 0 0 - 224) * 4096 + (l.getD 1 0 - 128) * 64 + (l.getD 2 0 - 128) := by omega
    rw [e]
    refine ⟨by unfold scalB; exact decide_eq_true (by omega), ?_, ?_⟩
    · unfold encS; rw [if_neg (by omega), if_neg (by omega), if_pos (by omega), t3 (by omega)]
      simp only [List.cons.injEq, and_true]; omega
    · unfold encS; rw [if_neg (by omega), if_neg (by omega), if_pos (by omega)]; rfl
  · obtain rfl : nn = 4 := by omega
    obtain ⟨a1, a2⟩ := hkk 1 (by omega) (by omega)
    obtain ⟨a3, a4⟩ := hkk 2 (by omega) (by omega)
    obtain ⟨a5, a6⟩ := hkk 3 (by omega) (by omega)
    by_cases b1 : l.getD 1 0 < lo ∨ hi < l.getD 1 0
    · rw [go_bad a1 a2 b1] at g; simp at g
    rw [go_on a1 a2 b1] at g
    by_cases b2 : l.getD (1 + 1) 0 < 128 ∨ 191 < l.getD (1 + 1) 0
    · rw [go_bad a3 a4 b2] at g; simp at g
    rw [go_on a3 a4 b2] at g
    by_cases b3 : l.getD (1 + 1 + 1) 0 < 128 ∨ 191 < l.getD (1 + 1 + 1) 0
    · rw [go_bad a5 a6 b3] at g; simp at g
    rw [go_on a5 a6 b3, go_end (by rfl)] at g
    simp only [Prod.mk.injEq] at g
    obtain ⟨rfl, _, _⟩ := g
    have w2 : l.getD (1 + 1) 0 = l.getD 2 0 := rfl
    have w3 : l.getD (1 + 1 + 1) 0 = l.getD 3 0 := rfl
    rw [w2] at b2 ⊢
    rw [w3] at b3 ⊢
    have e : (((l.getD 0 0 - 240) * 64 + l.getD 1 0 % 64) * 64 + l.getD 2 0 % 64) * 64 + l.getD 3 0 % 64 = (l.getD 0 0 - 240) * 262144 + (l.getD 1 0 - 128) * 4096 + (l.getD 2 0 - 128) * 64 + (l.getD 3 0 - 128) := by omega
    rw [e]
    refine ⟨by unfold scalB; exact decide_eq_true (by omega), ?_, ?_⟩
    · unfold encS; rw [if_neg (by omega), if_neg (by omega), if_neg (by omega), t4 (by omega)]
      simp only [List.cons.injEq, and_true]; omega
    · unfold encS; rw [if_neg (by omega), if_neg (by omega), if_neg (by omega)]; rfl
end Go.Proofs.YtnfjgopcenpblaaGreatDoor.T

/- A reader of layer 2: what its block has, and the walks of Held and take. No condition beyond the ranges. -/
namespace Go.Proofs.YtnfjgopcenpblaaGreatDoor.T
open Go.RowKit Go.Proofs.YtnfjgopcenpblaaGreatDoorW.PrintWords Go.Proofs.YtnfjgopcenpblaaGreatDoorW.PrintLast Go.Proofs.YtnfjgopcenpblaaGreatDoorW.PrintMore Go.Proofs.YtnfjgopcenpblaaGreatDoor
set_option linter.unusedVariables false
/-- block b is a reader: the bytes l wait (in the slice v, its own, in blocks from B on), and at_ is where they begin -/
structure Rdr (w : World) (B b : Nat) (v : Value) (l : List Int) (at_ : Int) : Prop where
  blk : w.heap[b]? = some (.cells #[v, .int .i64 at_] 97 (0, 0))
  own : w.ownsRow B 5 1 v l.length (nums .u8 l)
  le : B ≤ b
namespace Rdr
variable {w w' : World} {B b : Nat} {v : Value} {l : List Int} {at_ : Int}
theorem ne (h : Rdr w B b v l at_) : some b ≠ v.ownBlock := own_ne h.own h.blk (by decide)
theorem lt (h : Rdr w B b v l at_) : b < w.heap.size := blk_lt h.blk
theorem form (h : Rdr w B b v l at_) : ∃ A c, v = .slice A l.length c := own_slice h.own
theorem keep (h : Rdr w B b v l at_) (hb : Below w.heap.size w w') : Rdr w' B b v l at_ := ⟨blk_below h.blk hb, pw_own_below h.own hb, h.le⟩
end Rdr
/-- what take leaves -/
def TakeP (w : World) (B b : Nat) (l : List Int) (at_ s n e : Int) (x : Ending) (w' : World) : Prop :=
  ∃ (cs : List Value) (v' : Value), x = .returned (.agg cs.toArray) ∧ k66.M w' w.heap.size (fun _ => True) ⟨at_, n, if e = 0 then [s] else [], e⟩ cs ∧ Rdr w' B b v' (l.drop n.toNat) (wrap64 (at_ + n)) ∧
    Kept w w' (fun k => k = b) ∧ (∀ k, v'.ownBlock = some k → w.heap.size ≤ k) ∧ Below B w w'
theorem holdit {p : Prop} (h : Hid p) : p := h
/-- a world on take's way, behind the token's block -/
structure TakeMid (w : World) (B b : Nat) (v : Value) (l : List Int) (at_ n e : Int) (o : Value) (out : List Int) (W : World) : Prop where
  blk : W.heap[b]? = some (.cells #[v, .int .i64 at_] 97 (0, 0))
  own : W.ownsRow B 5 1 v l.length (nums .u8 l)
  k8 : W.heap[w.heap.size]? = some (.cells #[.int .i64 0, .int .i64 0, .slice none 0 0, .int .i64 0] 66 (0, 0))
  k9 : W.heap[w.heap.size + 1]? = some (.cells #[.int .i64 at_, .int .i64 n, o, .int .i64 e] 66 (0, 0))
  row : (Kd.int .i64).R 3 W w.heap.size (fun _ => True) o out
  below : Below w.heap.size w W
  lt : b < w.heap.size
namespace TakeMid
variable {w W W2 : World} {B b : Nat} {v o : Value} {l out : List Int} {at_ n e : Int} {A : Option Addr} {c : Nat}
theorem c0 (h : TakeMid w B b v l at_ n e o out W) : W.cell? ⟨b, 0, none⟩ = some v := (blk_cell h.blk 0).trans rfl
theorem c1 (h : TakeMid w B b v l at_ n e o out W) : W.cell? ⟨b, 1, none⟩ = some (.int .i64 at_) := (blk_cell h.blk 1).trans rfl
theorem f0 (h : TakeMid w B b v l at_ n e o out W) : W.frozen? ⟨b, 0, none⟩ = false := blk_frozen h.blk 0
theorem f1 (h : TakeMid w B b v l at_ n e o out W) : W.frozen? ⟨b, 1, none⟩ = false := blk_frozen h.blk 1
theorem reads (h : TakeMid w B b (.slice A l.length c) l at_ n e o out W) : ReadsOf (Value.int .u8) 0 W A l.length l := by
  obtain ⟨A2, c2, e2, hr⟩ := own_reads h.own
  injection e2 with e3 _ _
  subst e3
  exact hr
end TakeMid
theorem take_mid {w W W2 : World} {B b : Nat} {v o : Value} {l out : List Int} {at_ n e : Int} (h : TakeMid w B b v l at_ n e o out W) (hg : W.grownBy W2 none) : TakeMid w B b v l at_ n e o out W2 := by
  have hb : Below W.heap.size W W2 := ⟨hg.os, hg.tape, hg.output, hg.size, fun k hk => hg.block k hk (by simp)⟩
  exact ⟨blk_below h.blk hb, pw_own_below h.own hb, blk_below h.k8 hb, blk_below h.k9 hb, Kd.R_below h.row hb, below_step h.below hb, h.lt⟩
theorem mid_no {w : World} {B b : Nat} {v : Value} {l : List Int} {at_ n e : Int} (h : Rdr w B b v l at_) :
    TakeMid w B b v l at_ n e (.slice none 0 0) [] ((w.alloc (.cells #[.int .i64 0, .int .i64 0, .slice none 0 0, .int .i64 0] 66)).alloc (.cells #[.int .i64 at_, .int .i64 n, .slice none 0 0, .int .i64 e] 66)) := by
  have hb : Below w.heap.size w ((w.alloc (.cells #[.int .i64 0, .int .i64 0, .slice none 0 0, .int .i64 0] 66)).alloc (.cells #[.int .i64 at_, .int .i64 n, .slice none 0 0, .int .i64 e] 66)) := below_alloc (below_alloc (Below.refl _ _) _) _
  refine ⟨blk_below h.blk hb, pw_own_below h.own hb, blk_alloc (blk_new w _) _, ?_, Kd.R_nil _ _ _ _ _, hb, h.lt⟩
  have := blk_new (w.alloc (.cells #[.int .i64 0, .int .i64 0, .slice none 0 0, .int .i64 0] 66)) (.cells #[.int .i64 at_, .int .i64 n, .slice none 0 0, .int .i64 e] 66)
  simpa using this
theorem mid_yes {w : World} {B b : Nat} {v : Value} {l : List Int} {at_ n e s : Int} (h : Rdr w B b v l at_) :
    TakeMid w B b v l at_ n e (.slice (some ⟨w.heap.size + 2, 0, none⟩) 1 1) [s] (((w.alloc (.cells #[.int .i64 0, .int .i64 0, .slice none 0 0, .int .i64 0] 66)).alloc (.cells #[.int .i64 at_, .int .i64 n, .slice (some ⟨w.heap.size + 2, 0, none⟩) 1 1, .int .i64 e] 66)).alloc (.cells #[.int .i64 s] 3)) := by
  have hb : Below w.heap.size w (((w.alloc (.cells #[.int .i64 0, .int .i64 0, .slice none 0 0, .int .i64 0] 66)).alloc (.cells #[.int .i64 at_, .int .i64 n, .slice (some ⟨w.heap.size + 2, 0, none⟩) 1 1, .int .i64 e] 66)).alloc (.cells #[.int .i64 s] 3)) := below_alloc (below_alloc (below_alloc (Below.refl _ _) _) _) _
  refine ⟨blk_below h.blk hb, pw_own_below h.own hb, blk_alloc (blk_alloc (blk_new w _) _) _, ?_, ?_, hb, h.lt⟩
  · have := blk_new (w.alloc (.cells #[.int .i64 0, .int .i64 0, .slice none 0 0, .int .i64 0] 66)) (.cells #[.int .i64 at_, .int .i64 n, .slice (some ⟨w.heap.size + 2, 0, none⟩) 1 1, .int .i64 e] 66)
    have := blk_alloc this (.cells #[.int .i64 s] 3)
    simpa using this
  · have := own_lit ((w.alloc (.cells #[.int .i64 0, .int .i64 0, .slice none 0 0, .int .i64 0] 66)).alloc (.cells #[.int .i64 at_, .int .i64 n, .slice (some ⟨w.heap.size + 2, 0, none⟩) 1 1, .int .i64 e] 66)) w.heap.size 3 .i64 [s] (by simp; omega) (by simp)
    rw [show ((w.alloc (.cells #[.int .i64 0, .int .i64 0, .slice none 0 0, .int .i64 0] 66)).alloc (.cells #[.int .i64 at_, .int .i64 n, .slice (some ⟨w.heap.size + 2, 0, none⟩) 1 1, .int .i64 e] 66)).heap.size = w.heap.size + 2 from by simp] at this
    exact Kd.R_of_own (enc := Value.int .i64) this (fun _ _ => trivial)
/-- a world on take's way, behind the store of what waits -/
structure TakeTwo (w : World) (B b : Nat) (v : Value) (l : List Int) (at_ atT n e : Int) (o : Value) (out : List Int) (W : World) : Prop where
  blk : W.heap[b]? = some (.cells #[v, .int .i64 at_] 97 (0, 0))
  own : W.ownsRow w.heap.size 5 1 v l.length (nums .u8 l)
  k8 : W.heap[w.heap.size]? = some (.cells #[.int .i64 0, .int .i64 0, .slice none 0 0, .int .i64 0] 66 (0, 0))
  k9 : W.heap[w.heap.size + 1]? = some (.cells #[.int .i64 atT, .int .i64 n, o, .int .i64 e] 66 (0, 0))
  row : (Kd.int .i64).R 3 W w.heap.size (fun _ => True) o out
  kept : Kept w W (fun k => k = b)
  os : W.os = w.os
  tape : W.tape = w.tape
  output : W.output = w.output
  lt : b < w.heap.size
namespace TakeTwo
variable {w W W2 : World} {B b : Nat} {v o : Value} {l out : List Int} {at_ n e atT : Int} {A : Option Addr} {c : Nat}
theorem c1 (h : TakeTwo w B b v l at_ atT n e o out W) : W.cell? ⟨b, 1, none⟩ = some (.int .i64 at_) := (blk_cell h.blk 1).trans rfl
theorem f1 (h : TakeTwo w B b v l at_ atT n e o out W) : W.frozen? ⟨b, 1, none⟩ = false := blk_frozen h.blk 1
end TakeTwo
theorem TakeTwo.all {w W : World} {B b : Nat} {v o : Value} {l out : List Int} {at_ n e atT : Int} (h : TakeTwo w B b v l at_ atT n e o out W) :
    W.cell? ⟨w.heap.size + 1, 0, none⟩ = some (.int .i64 atT) ∧ W.cell? ⟨w.heap.size + 1, 1, none⟩ = some (.int .i64 n) ∧ W.cell? ⟨w.heap.size + 1, 2, none⟩ = some o ∧ W.cell? ⟨w.heap.size + 1, 3, none⟩ = some (.int .i64 e) ∧
    W.frozen? ⟨w.heap.size, 0, none⟩ = false ∧ W.frozen? ⟨w.heap.size, 1, none⟩ = false ∧ W.frozen? ⟨w.heap.size, 2, none⟩ = false ∧ W.frozen? ⟨w.heap.size, 3, none⟩ = false ∧
    W.cell? ⟨w.heap.size, 0, none⟩ = some (.int .i64 0) ∧ W.cell? ⟨w.heap.size, 1, none⟩ = some (.int .i64 0) ∧ W.cell? ⟨w.heap.size, 2, none⟩ = some (.slice none 0 0) ∧ W.cell? ⟨w.heap.size, 3, none⟩ = some (.int .i64 0) :=
  ⟨(blk_cell h.k9 0).trans rfl, (blk_cell h.k9 1).trans rfl, (blk_cell h.k9 2).trans rfl, (blk_cell h.k9 3).trans rfl, blk_frozen h.k8 0, blk_frozen h.k8 1, blk_frozen h.k8 2, blk_frozen h.k8 3,
    (blk_cell h.k8 0).trans rfl, (blk_cell h.k8 1).trans rfl, (blk_cell h.k8 2).trans rfl, (blk_cell h.k8 3).trans rfl⟩
theorem wait_one {w W W2 : World} {B b : Nat} {v v4 o : Value} {l l4 out : List Int} {at_ n e : Int} (h : TakeMid w B b v l at_ n e o out W) (ho : W.ownsRow w.heap.size 5 1 v4 ([] ++ l4).length (encs (Value.int .u8) ([] ++ l4))) (hw : W2 = W.setCell ⟨b, 0, none⟩ v4) :
    TakeTwo w B b v4 l4 at_ at_ n e o out W2 := by
  subst hw
  have n8 : w.heap.size ≠ b := by have := h.lt; omega
  have n9 : w.heap.size + 1 ≠ b := by have := h.lt; omega
  exact ⟨blk_put h.blk 0 _ rfl, own_setCell ho (own_ne ho h.blk (by decide)) _, blk_far h.k8 n8 _, blk_far h.k9 n9 _, Kd.R_mono (Kd.R_far (p := ⟨b, 0, none⟩) (Kd.R_types h.row h.blk (by decide)) (fun _ hk => hk.2) _) (fun _ _ => trivial),
    (Kept.of_below h.below (fun k => k = b)).setCell (p := ⟨b, 0, none⟩) (.inl rfl) v4, h.below.os, h.below.tape, h.below.output, h.lt⟩
theorem wait_two {w W W2 : World} {B b : Nat} {v o : Value} {l out : List Int} {at_ atT x n e : Int} (h : TakeTwo w B b v l at_ atT n e o out W) (hw : W2 = W.setCell ⟨b, 1, none⟩ (.int .i64 x)) :
    TakeTwo w B b v l x atT n e o out W2 := by
  subst hw
  have n8 : w.heap.size ≠ b := by have := h.lt; omega
  have n9 : w.heap.size + 1 ≠ b := by have := h.lt; omega
  exact ⟨blk_put h.blk 1 _ rfl, own_setCell h.own (own_ne h.own h.blk (by decide)) _, blk_far h.k8 n8 _, blk_far h.k9 n9 _, Kd.R_mono (Kd.R_far (p := ⟨b, 1, none⟩) (Kd.R_types h.row h.blk (by decide)) (fun _ hk => hk.2) _) (fun _ _ => trivial),
    h.kept.setCell (p := ⟨b, 1, none⟩) (.inl rfl) _, h.os, h.tape, h.output, h.lt⟩
theorem take_end {w W : World} {B b : Nat} {A4 o : Value} {l out : List Int} {at_ s n e : Int} (h : TakeTwo w B b A4 (l.drop n.toNat) (wrap64 (at_ + n)) at_ n e o out W) (hB : B ≤ b) {x : Ending} (hx : x = .returned (.agg #[.int .i64 at_, .int .i64 n, o, .int .i64 e])) (ho : out = if e = 0 then [s] else []) (hBw : B ≤ w.heap.size) :
    TakeP w B b l at_ s n e x ((((W.setCell ⟨w.heap.size, 0, none⟩ (.int .i64 at_)).setCell ⟨w.heap.size, 1, none⟩ (.int .i64 n)).setCell ⟨w.heap.size, 2, none⟩ o).setCell ⟨w.heap.size, 3, none⟩ (.int .i64 e)) := by
  subst hx
  have far : ∀ (V : World) (i : Nat) (u : Value) (k : Nat), k ≠ w.heap.size → (V.setCell ⟨w.heap.size, i, none⟩ u).heap[k]? = V.heap[k]? := fun V i u k hk => Below.heap_setCell V ⟨w.heap.size, i, none⟩ u k hk
  have hb8 : b ≠ w.heap.size := by have := h.lt; omega
  have hk : ∀ k, k ≠ w.heap.size → ((((W.setCell ⟨w.heap.size, 0, none⟩ (.int .i64 at_)).setCell ⟨w.heap.size, 1, none⟩ (.int .i64 n)).setCell ⟨w.heap.size, 2, none⟩ o).setCell ⟨w.heap.size, 3, none⟩ (.int .i64 e)).heap[k]? = W.heap[k]? := fun k hk => by
    rw [far _ _ _ _ hk, far _ _ _ _ hk, far _ _ _ _ hk, far _ _ _ _ hk]
  have own1 : ∀ (V : World) (i : Nat) (u : Value) (cs : Array Value), V.heap[w.heap.size]? = some (.cells cs 66 (0, 0)) → V.ownsRow w.heap.size 5 1 A4 (l.drop n.toNat).length (nums .u8 (l.drop n.toNat)) →
      (V.setCell ⟨w.heap.size, i, none⟩ u).heap[w.heap.size]? = some (.cells (cs.setIfInBounds i u) 66 (0, 0)) ∧ (V.setCell ⟨w.heap.size, i, none⟩ u).ownsRow w.heap.size 5 1 A4 (l.drop n.toNat).length (nums .u8 (l.drop n.toNat)) :=
    fun V i u cs hb ho => ⟨blk_set hb i u, own_setCell ho (own_ne ho hb (by decide)) u⟩
  obtain ⟨a1, b1⟩ := own1 _ 0 (.int .i64 at_) _ h.k8 h.own
  obtain ⟨a2, b2⟩ := own1 _ 1 (.int .i64 n) _ a1 b1
  obtain ⟨a3, b3⟩ := own1 _ 2 o _ a2 b2
  obtain ⟨a4, b4⟩ := own1 _ 3 (.int .i64 e) _ a3 b3
  have kept : Kept w ((((W.setCell ⟨w.heap.size, 0, none⟩ (.int .i64 at_)).setCell ⟨w.heap.size, 1, none⟩ (.int .i64 n)).setCell ⟨w.heap.size, 2, none⟩ o).setCell ⟨w.heap.size, 3, none⟩ (.int .i64 e)) (fun k => k = b) :=
    (((h.kept.setCell (p := ⟨w.heap.size, 0, none⟩) (.inr (Nat.le_refl _)) _).setCell (p := ⟨w.heap.size, 1, none⟩) (.inr (Nat.le_refl _)) _).setCell (p := ⟨w.heap.size, 2, none⟩) (.inr (Nat.le_refl _)) _).setCell (p := ⟨w.heap.size, 3, none⟩) (.inr (Nat.le_refl _)) _
  refine ⟨[.int .i64 at_, .int .i64 n, o, .int .i64 e], A4, rfl, ?_, ⟨(hk b hb8).trans h.blk, own_weaken b4 hBw, hB⟩, kept, fun k hk => own_base b4 k hk, h.os, h.tape, h.output, kept.1, fun k hkb => kept.2 k (by omega) (by omega)⟩
  rw [← ho]
  have hr := Kd.R_types h.row h.k8 (by decide)
  exact k66_mkM _ _ _ ⟨at_, n, out, e⟩ (Kd.R_mono (Kd.R_step hr (fun k hk2 _ => hk k hk2.2)) (fun _ _ => trivial))
theorem take_calls (w : World) (B b : Nat) (v : Value) (l : List Int) (at_ s n e : Int) (h : Rdr w B b v l at_) (hn0 : 0 ≤ n) (hn1 : n ≤ l.length) (hB : B ≤ w.heap.size) (hl : l.length ≤ 140737488355328) :
    Calls Tryz.prog 129 #[.pointer (some ⟨b, 0, none⟩), .int .i64 s, .int .i64 n, .int .i64 e] w (TakeP w B b l at_ s n e) := by
  obtain ⟨A, c, rfl⟩ := h.form
  have hlt := h.lt
  have hBb := h.le
  have hlc : l.length ≤ c := own_le h.own
  have d1 : (w.alloc (.cells #[.int .i64 0, .int .i64 0, .slice none 0 0, .int .i64 0] 66)).cell? ⟨b, 1, none⟩ = some (.int .i64 at_) := (blk_cell (h.keep (below_alloc (Below.refl _ _) _)).blk 1).trans rfl
  obtain ⟨i08, hi08, _, hsz8, _⟩ := info_parts info5
  obtain ⟨A8, hcut8, hA8, hC8⟩ := print_drop_of (P := Tryz.prog) (Value.int .u8) 0 22 5 .i64 Tryz.underlying22 hi08 hsz8 A c l n hn0 hn1 hlc
  by_cases he : e = 0
  · subst he
    have HH : Hid (TakeMid w B b (.slice A l.length c) l at_ n 0 (.slice (some ⟨w.heap.size + 2, 0, none⟩) 1 1) [s] (((w.alloc (.cells #[.int .i64 0, .int .i64 0, .slice none 0 0, .int .i64 0] 66)).alloc (.cells #[.int .i64 at_, .int .i64 n, .slice (some ⟨w.heap.size + 2, 0, none⟩) 1 1, .int .i64 0] 66)).alloc (.cells #[.int .i64 s] 3))) := Lib.hid (mid_yes h)
    have d0 := HH.out.c0
    have hrd := HH.out.reads
    have hB3 := HH.out.below
    replace h := ()
    go_enter Tryz.func129, Tryz.ntmps129
    go_wp2_with (first
      | ((with_reducible refine gate_builtin (b := .append) (xs := #[.const (.slice none 0 0), .tmp 28]) rfl ?_); at_builtin; refine print_append_row_of (w0 := w) (Value.int .u8) 0 w.heap.size rfl (.const (.slice none 0 0)) (.tmp 28) 22 5 (.int .u8 0) 1 rfl Tryz.underlying22 info5 rfl (by omega) (fun _ => rfl) (.slice none 0 0) [] (l.drop n.toNat) A8 _ _ rfl rfl (own_nil _ _ _ _) ?aR ?aB ?aS ?aL ?_; (case aR => first | exact hA8 _ hrd | (have hq := hA8 _ hrd; rw [List.length_drop] at hq; exact hq)); (case aB => exact hB3); (case aS => exact hB3.size); (case aL => simp; omega); intro v4 w4 ho hb4 hg4 hat4; clear hb4; obtain ⟨A4, c4, rfl⟩ := own_slice ho; have HM := Lib.hid (take_mid HH.out hg4); have HO := Lib.hid ho; clear ho hg4 d0 hA8 hrd hB3 hat4 HH; have f0 := HM.out.f0; have e0 := HM.out.c0; have e1 := HM.out.c1)
      | ((with_reducible refine gate_store (t := 22) (p := 31) rfl ?_); refine store_event (t := 22) (p := 31) (v := ?vo) (w1 := w4.setCell ⟨b, 0, none⟩ (.slice A4 ([] ++ l.drop n.toNat).length c4)) ?hg ?ho ?hn ?hr ?_; (case ho => rfl); (case hg => rfl); (case hn => rfl); (case hr => first | (go_simp; done) | (go_simp; rfl)); intro w5 hw5; have HN := Lib.hid (wait_one HM.out HO.out hw5); clear hw5 HM HO f0 e0 e1; have d1 := HN.out.c1; have f1 := HN.out.f1)
      | ((with_reducible refine gate_store (t := 3) (p := 39) rfl ?_); refine store_event (t := 3) (p := 39) (v := ?vo2) (w1 := w5.setCell ⟨b, 1, none⟩ (.int .i64 (wrap64 (at_ + n)))) ?hg ?ho ?hn ?hr ?_; (case ho => rfl); (case hg => rfl); (case hn => rfl); (case hr => first | (go_simp; done) | (go_simp; rfl)); intro w6 hw6; have HP := Lib.hid (wait_two HN.out hw6); clear hw6 HN f1 d1; obtain ⟨g0, g1, g2, g3, i0, i1, i2, i3, j0, j1, j2, j3⟩ := HP.out.all))
    try simp only [Exit.inBlock, Exit.then]
    refine bodyPost_ret (v := .agg #[.int .i64 at_, .int .i64 n, .slice (some ⟨w.heap.size + 2, 0, none⟩) 1 1, .int .i64 0]) ?_ rfl ?_
    · clear HP
      simp only [results, show Tryz.f129.results = #[ResultVar.cell 8 66] from rfl]
      go_simp
    exact take_end HP.out hBb rfl (by simp) hB
  · have he2 : (e == 0) = false := beq_eq_false_iff_ne.mpr he
    have HH : Hid (TakeMid w B b (.slice A l.length c) l at_ n e (.slice none 0 0) [] ((w.alloc (.cells #[.int .i64 0, .int .i64 0, .slice none 0 0, .int .i64 0] 66)).alloc (.cells #[.int .i64 at_, .int .i64 n, .slice none 0 0, .int .i64 e] 66))) := Lib.hid (mid_no h)
    have d0 := HH.out.c0
    have hrd := HH.out.reads
    have hB3 := HH.out.below
    replace h := ()
    go_enter Tryz.func129, Tryz.ntmps129
    go_wp2_with (first
      | ((with_reducible refine gate_builtin (b := .append) (xs := #[.const (.slice none 0 0), .tmp 28]) rfl ?_); at_builtin; refine print_append_row_of (w0 := w) (Value.int .u8) 0 w.heap.size rfl (.const (.slice none 0 0)) (.tmp 28) 22 5 (.int .u8 0) 1 rfl Tryz.underlying22 info5 rfl (by omega) (fun _ => rfl) (.slice none 0 0) [] (l.drop n.toNat) A8 _ _ rfl rfl (own_nil _ _ _ _) ?aR ?aB ?aS ?aL ?_; (case aR => first | exact hA8 _ hrd | (have hq := hA8 _ hrd; rw [List.length_drop] at hq; exact hq)); (case aB => exact hB3); (case aS => exact hB3.size); (case aL => simp; omega); intro v4 w4 ho hb4 hg4 hat4; clear hb4; obtain ⟨A4, c4, rfl⟩ := own_slice ho; have HM := Lib.hid (take_mid HH.out hg4); have HO := Lib.hid ho; clear ho hg4 d0 hA8 hrd hB3 hat4 HH; have f0 := HM.out.f0; have e0 := HM.out.c0; have e1 := HM.out.c1)
      | ((with_reducible refine gate_store (t := 22) (p := 31) rfl ?_); refine store_event (t := 22) (p := 31) (v := ?vo) (w1 := w4.setCell ⟨b, 0, none⟩ (.slice A4 ([] ++ l.drop n.toNat).length c4)) ?hg ?ho ?hn ?hr ?_; (case ho => rfl); (case hg => rfl); (case hn => rfl); (case hr => first | (go_simp; done) | (go_simp; rfl)); intro w5 hw5; have HN := Lib.hid (wait_one HM.out HO.out hw5); clear hw5 HM HO f0 e0 e1; have d1 := HN.out.c1; have f1 := HN.out.f1)
      | ((with_reducible refine gate_store (t := 3) (p := 39) rfl ?_); refine store_event (t := 3) (p := 39) (v := ?vo2) (w1 := w5.setCell ⟨b, 1, none⟩ (.int .i64 (wrap64 (at_ + n)))) ?hg ?ho ?hn ?hr ?_; (case ho => rfl); (case hg => rfl); (case hn => rfl); (case hr => first | (go_simp; done) | (go_simp; rfl)); intro w6 hw6; have HP := Lib.hid (wait_two HN.out hw6); clear hw6 HN f1 d1; obtain ⟨g0, g1, g2, g3, i0, i1, i2, i3, j0, j1, j2, j3⟩ := HP.out.all))
    try simp only [Exit.inBlock, Exit.then]
    refine bodyPost_ret (v := .agg #[.int .i64 at_, .int .i64 n, .slice none 0 0, .int .i64 e]) ?_ rfl ?_
    · clear HP
      simp only [results, show Tryz.f129.results = #[ResultVar.cell 8 66] from rfl]
      go_simp
    exact take_end HP.out hBb rfl (by simp [he]) hB
end Go.Proofs.YtnfjgopcenpblaaGreatDoor.T
