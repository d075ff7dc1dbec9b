/- Plain laws of utf.One's answers: what they read, how far, and that a longer text changes nothing that was decided; of bytes. -/
import Derived.Test.YtdhpldiahgajcaaV1
namespace Go.Proofs.Ytdhpldiahgajcaa.PUtfAll
open Go.RowKit Go.Proofs.YtdhpldiahgajcaaW.PrintWords Go.Proofs.Ytdhpldiahgajcaa
theorem getD_app {l m : List Int} {j : Nat} (h : j < l.length) : (l ++ m).getD j 0 = l.getD j 0 := by
  simp [List.getElem?_append, h]
theorem go_ext (l r : List Int) (z : Int) : ∀ f k s lo hi, k ≤ l.length → (oneGo l z f k s lo hi).2.2 ≠ 2 → oneGo (l ++ r) z f k s lo hi = oneGo l z f k s lo hi := by
  intro f
  induction f with
  | zero => intro k s lo hi _ _; rfl
  | succ f ih =>
    intro k s lo hi hk h
    by_cases c1 : (k : Int) = z
    · rw [go_end c1, go_end c1]
    · by_cases c2 : k = l.length
      · rw [go_short c1 c2] at h; exact absurd rfl h
      · have hlt : k < l.length := by omega
        have hl2 : ¬ k = (l ++ r).length := by rw [List.length_append]; omega
        have hg : (l ++ r).getD k 0 = l.getD k 0 := getD_app hlt
        by_cases c3 : l.getD k 0 < lo ∨ hi < l.getD k 0
        · rw [go_bad c1 c2 c3, go_bad c1 hl2 (by rw [hg]; exact c3)]
        · rw [go_on c1 c2 c3] at h ⊢
          rw [go_on c1 hl2 (by rw [hg]; exact c3), hg]
          exact ih _ _ _ _ (by omega) h
theorem one_ext {l : List Int} (r : List Int) (h0 : l ≠ []) (h : (oneF l).2.2 ≠ 2) : oneF (l ++ r) = oneF l := by
  have hl : l.length ≠ 0 := fun h => h0 (List.eq_nil_of_length_eq_zero h)
  have hl2 : (l ++ r).length ≠ 0 := by rw [List.length_append]; omega
  have hg : (l ++ r).getD 0 0 = l.getD 0 0 := getD_app (by omega)
  unfold oneF at *
  rw [if_neg hl] at *
  rw [if_neg hl2, hg]
  by_cases c : (leadF (l.getD 0 0)).1 = 0
  · rw [if_pos c, if_pos c]
  · rw [if_neg c] at *
    rw [if_neg c]
    exact go_ext l r _ 5 1 _ _ _ (by omega) h
/-- how far it goes -/
theorem go_far (l : List Int) (z : Int) : ∀ (f k : Nat) (s lo hi : Int), k ≤ l.length → (k : Int) ≤ z → z < (k : Int) + (f : Int) → 1 ≤ k →
    ∃ (n : Nat) (s' e : Int), oneGo l z f k s lo hi = (s', (n : Int), e) ∧ k ≤ n ∧ n ≤ l.length ∧ (n : Int) ≤ z ∧ (e = 0 ∨ e = 1 ∨ e = 2) ∧ (e = 0 → (n : Int) = z) ∧ (e = 2 → n = l.length ∧ (n : Int) < z) ∧ (e = 1 → (n : Int) < z ∧ n < l.length) := by
  intro f
  induction f with
  | zero => intro k s lo hi h1 h2 h3 _; omega
  | succ f ih =>
    intro k s lo hi hk hz hf h1
    by_cases c1 : (k : Int) = z
    · exact ⟨k, s, 0, go_end c1, by omega, hk, by omega, .inl rfl, fun _ => c1, fun h => by omega, fun h => by omega⟩
    · by_cases c2 : k = l.length
      · exact ⟨l.length, 0, 2, go_short c1 c2, by omega, by omega, by omega, .inr (.inr rfl), fun h => by omega, fun _ => ⟨rfl, by omega⟩, fun h => by omega⟩
      · by_cases c3 : l.getD k 0 < lo ∨ hi < l.getD k 0
        · exact ⟨k, 0, 1, go_bad c1 c2 c3, by omega, by omega, by omega, .inr (.inl rfl), fun h => by omega, fun h => by omega, fun _ => ⟨by omega, by omega⟩⟩
        · obtain ⟨n, s', e, h, a, b, c, d, p, q, r⟩ := ih (k + 1) (s * 64 + l.getD k 0 % 64) 128 191 (by omega) (by omega) (by omega) (by omega)
          exact ⟨n, s', e, by rw [go_on c1 c2 c3]; exact h, by omega, b, c, d, p, q, r⟩
theorem one_far {l : List Int} (h0 : l ≠ []) (hB : Bytes l) : ∃ (n : Nat) (s e : Int), oneF l = (s, (n : Int), e) ∧ 1 ≤ n ∧ n ≤ l.length ∧ n ≤ 4 ∧ (e = 0 ∨ e = 1 ∨ e = 2) ∧ (e = 2 → n = l.length ∧ n ≤ 3) := by
  have hl : l.length ≠ 0 := fun h => h0 (List.eq_nil_of_length_eq_zero h)
  obtain ⟨x0, x1⟩ := hB.at 0
  obtain ⟨p1, p2, _⟩ := lead_bd _ x0 x1
  by_cases c : (leadF (l.getD 0 0)).1 = 0
  · refine ⟨1, 0, 1, ?_, by omega, by omega, by omega, .inr (.inl rfl), fun h => by omega⟩
    unfold oneF; rw [if_neg hl, if_pos c]; rfl
  · obtain ⟨n, s', e, h, a, b, cc, d, p, q, r⟩ := go_far l (leadF (l.getD 0 0)).1 5 1 (leadF (l.getD 0 0)).2.1 (leadF (l.getD 0 0)).2.2.1 (leadF (l.getD 0 0)).2.2.2 (by omega) (by omega) (by omega) (by omega)
    refine ⟨n, s', e, ?_, a, b, by omega, d, fun h => ⟨(q h).1, by have := (q h).2; omega⟩⟩
    unfold oneF; rw [if_neg hl, if_neg c]; exact h
theorem one_nil : oneF [] = (0, 0, 2) := rfl
theorem list4 {l : List Int} : (l.length = 1 → l = [l.getD 0 0]) ∧ (2 ≤ l.length → l.take 2 = [l.getD 0 0, l.getD 1 0]) ∧ (3 ≤ l.length → l.take 3 = [l.getD 0 0, l.getD 1 0, l.getD 2 0]) ∧ (4 ≤ l.length → l.take 4 = [l.getD 0 0, l.getD 1 0, l.getD 2 0, l.getD 3 0]) ∧ (1 ≤ l.length → l.take 1 = [l.getD 0 0]) := by
  rcases l with _ | ⟨a, _ | ⟨b, _ | ⟨c, _ | ⟨d, t⟩⟩⟩⟩ <;> simp <;> omega
theorem lead_z {c z s lo hi : Int} (h0 : 0 ≤ c) (h1 : c < 256) (h : leadF c = (z, s, lo, hi)) :
    (z = 1 ∧ c < 128 ∧ s = c) ∨ z = 0 ∨ (z = 2 ∧ 194 ≤ c ∧ c < 224 ∧ s = c - 192 ∧ lo = 128 ∧ hi = 191) ∨
    (z = 3 ∧ 224 ≤ c ∧ c < 240 ∧ s = c - 224 ∧ hi ≤ 191 ∧ 128 ≤ lo ∧ (c = 224 → lo = 160) ∧ (c = 237 → hi = 159)) ∨
    (z = 4 ∧ 240 ≤ c ∧ c ≤ 244 ∧ s = c - 240 ∧ hi ≤ 191 ∧ 128 ≤ lo ∧ (c = 240 → lo = 144) ∧ (c = 244 → hi = 143)) := by
  by_cases a : c < 128
  · rw [lead1 a] at h
    simp only [Prod.mk.injEq] at h
    exact .inl ⟨by omega, a, by omega⟩
  · by_cases b : c < 194 ∨ 244 < c
    · unfold leadF at h
      rw [if_neg a, if_pos b] at h
      simp only [Prod.mk.injEq] at h
      exact .inr (.inl (by omega))
    · by_cases d : c < 224
      · rw [lead2 (by omega) d] at h
        simp only [Prod.mk.injEq] at h
        exact .inr (.inr (.inl ⟨by omega, by omega, d, by omega, by omega, by omega⟩))
      · by_cases e : c < 240
        · rw [lead3 (by omega) e] at h
          simp only [Prod.mk.injEq] at h
          obtain ⟨q1, q2, q3, q4⟩ := h
          refine .inr (.inr (.inr (.inl ⟨by omega, by omega, e, by omega, ?_, ?_, fun hc => ?_, fun hc => ?_⟩)))
          · split at q4 <;> omega
          · split at q3 <;> omega
          · rw [if_pos hc] at q3; omega
          · rw [if_pos hc] at q4; omega
        · rw [lead4 (by omega) (by omega)] at h
          simp only [Prod.mk.injEq] at h
          obtain ⟨q1, q2, q3, q4⟩ := h
          refine .inr (.inr (.inr (.inr ⟨by omega, by omega, by omega, by omega, ?_, ?_, fun hc => ?_, fun hc => ?_⟩)))
          · split at q4 <;> omega
          · split at q3 <;> omega
          · rw [if_pos hc] at q3; omega
          · rw [if_pos hc] at q4; omega
/-- what is read is a scalar, and the bytes that are read are its own -/
theorem one_dec {l : List Int} (hB : Bytes l) {s n : Int} (h : oneF l = (s, n, 0)) : scalB s = true ∧ l.take n.toNat = encS s ∧ n = ((encS s).length : Int) := by
  by_cases h0 : l = []
  · subst h0; rw [one_nil] at h; simp at h
  have hl : l.length ≠ 0 := fun h => h0 (List.eq_nil_of_length_eq_zero h)
  obtain ⟨x0, x1⟩ := hB.at 0
  have B1 := hB.at 1
  have B2 := hB.at 2
  have B3 := hB.at 3
  obtain ⟨t1, t2, t3, t4, t5⟩ := list4 (l := l)
  generalize hq : leadF (l.getD 0 0) = q at *
  obtain ⟨z, s0, lo, hi⟩ := q
  by_cases hz : z = 0
  · unfold oneF at h; rw [if_neg hl, hq, if_pos hz] at h; simp at h
  rw [one_go hl hq hz] at h
  have far := go_far l z 5 1 s0 lo hi (by omega) (by have := lead_bd _ x0 x1; rw [hq] at this; simp at this; omega) (by have := lead_bd _ x0 x1; rw [hq] at this; simp at this; omega) (by omega)
  obtain ⟨nn, s', e, g, _, g2, _, _, g5, _⟩ := far
  rw [g] at h
  simp only [Prod.mk.injEq] at h
  obtain ⟨rfl, rfl, rfl⟩ := h
  have hnz := g5 rfl
  rw [Int.toNat_natCast]
  have hkk : ∀ j : Nat, 1 ≤ j → (j : Int) < z → ¬ (j : Int) = z ∧ ¬ j = l.length := fun j h1 h2 => ⟨by omega, by omega⟩
  rcases lead_z x0 x1 hq with ⟨rfl, hc, rfl⟩ | rfl | ⟨rfl, hc1, hc2, rfl, rfl, rfl⟩ | ⟨rfl, hc1, hc2, rfl, d1, d2, d3, d4⟩ | ⟨rfl, hc1, hc2, rfl, d1, d2, d3, d4⟩
  · rw [go_end (by rfl)] at g
    simp only [Prod.mk.injEq] at g
    obtain ⟨rfl, g6, _⟩ := g
    obtain rfl : nn = 1 := by omega
    refine ⟨by unfold scalB; exact decide_eq_true (by omega), ?_, ?_⟩
    · unfold encS; rw [if_pos hc, t5 (by omega)]
    · unfold encS; rw [if_pos hc]; rfl
  · exact absurd rfl hz
  · obtain rfl : nn = 2 := by omega
    obtain ⟨a1, a2⟩ := hkk 1 (by omega) (by omega)
    by_cases b1 : l.getD 1 0 < 128 ∨ 191 < l.getD 1 0
    · rw [go_bad a1 a2 b1] at g; simp at g
    rw [go_on a1 a2 b1, go_end (by rfl)] at g
    simp only [Prod.mk.injEq] at g
    obtain ⟨rfl, _, _⟩ := g
    have e : (l.getD 0 0 - 192) * 64 + l.getD 1 0 % 64 = (l.getD 0 0 - 192) * 64 + (l.getD 1 0 - 128) := by omega
    rw [e]
    refine ⟨by unfold scalB; exact decide_eq_true (by omega), ?_, ?_⟩
    · unfold encS; rw [if_neg (by omega), if_pos (by omega), t2 (by omega)]
      simp only [List.cons.injEq, and_true]; omega
    · unfold encS; rw [if_neg (by omega), if_pos (by omega)]; rfl
  · obtain rfl : nn = 3 := by omega
    obtain ⟨a1, a2⟩ := hkk 1 (by omega) (by omega)
    obtain ⟨a3, a4⟩ := hkk 2 (by omega) (by omega)
    by_cases b1 : l.getD 1 0 < lo ∨ hi < l.getD 1 0
    · rw [go_bad a1 a2 b1] at g; simp at g
    rw [go_on a1 a2 b1] at g
    by_cases b2 : l.getD (1 + 1) 0 < 128 ∨ 191 < l.getD (1 + 1) 0
    · rw [go_bad a3 a4 b2] at g; simp at g
    rw [go_on a3 a4 b2, go_end (by rfl)] at g
    simp only [Prod.mk.injEq] at g
    obtain ⟨rfl, _, _⟩ := g
    have w2 : l.getD (1 + 1) 0 = l.getD 2 0 := rfl
    rw [w2] at b2 ⊢
    have e : ((l.getD 0 0 - 224) * 64 + l.getD 1 0 % 64) * 64 + l.getD 2 0 % 64 = (l.getD 0 0 - 224) * 4096 + (l.getD 1 0 - 128) * 64 + (l.getD 2 0 - 128) := by omega
    rw [e]
    refine ⟨by unfold scalB; exact decide_eq_true (by omega), ?_, ?_⟩
    · unfold encS; rw [if_neg (by omega), if_neg (by omega), if_pos (by omega), t3 (by omega)]
      simp only [List.cons.injEq, and_true]; omega
    · unfold encS; rw [if_neg (by omega), if_neg (by omega), if_pos (by omega)]; rfl
  · obtain rfl : nn = 4 := by omega
    obtain ⟨a1, a2⟩ := hkk 1 (by omega) (by omega)
    obtain ⟨a3, a4⟩ := hkk 2 (by omega) (by omega)
    obtain ⟨a5, a6⟩ := hkk 3 (by omega) (by omega)
    by_cases b1 : l.getD 1 0 < lo ∨ hi < l.getD 1 0
    · rw [go_bad a1 a2 b1] at g; simp at g
    rw [go_on a1 a2 b1] at g
    by_cases b2 : l.getD (1 + 1) 0 < 128 ∨ 191 < l.getD (1 + 1) 0
    · rw [go_bad a3 a4 b2] at g; simp at g
    rw [go_on a3 a4 b2] at g
    by_cases b3 : l.getD (1 + 1 + 1) 0 < 128 ∨ 191 < l.getD (1 + 1 + 1) 0
    · rw [go_bad a5 a6 b3] at g; simp at g
    rw [go_on a5 a6 b3, go_end (by rfl)] at g
    simp only [Prod.mk.injEq] at g
    obtain ⟨rfl, _, _⟩ := g
    have w2 : l.getD (1 + 1) 0 = l.getD 2 0 := rfl
    have w3 : l.getD (1 + 1 + 1) 0 = l.getD 3 0 := rfl
    rw [w2] at b2 ⊢
    rw [w3] at b3 ⊢
    have e : (((l.getD 0 0 - 240) * 64 + l.getD 1 0 % 64) * 64 + l.getD 2 0 % 64) * 64 + l.getD 3 0 % 64 = (l.getD 0 0 - 240) * 262144 + (l.getD 1 0 - 128) * 4096 + (l.getD 2 0 - 128) * 64 + (l.getD 3 0 - 128) := by omega
    rw [e]
    refine ⟨by unfold scalB; exact decide_eq_true (by omega), ?_, ?_⟩
    · unfold encS; rw [if_neg (by omega), if_neg (by omega), if_neg (by omega), t4 (by omega)]
      simp only [List.cons.injEq, and_true]; omega
    · unfold encS; rw [if_neg (by omega), if_neg (by omega), if_neg (by omega)]; rfl
end Go.Proofs.Ytdhpldiahgajcaa.PUtfAll
