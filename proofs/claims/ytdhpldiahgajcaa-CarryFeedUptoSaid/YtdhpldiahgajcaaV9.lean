/- Plain laws of the law package's own reading of UTF-8: 'begins' tells beginnings. No condition but bytes and sizes. -/
import Derived.Test.YtdhpldiahgajcaaV8
namespace Go.Proofs.Ytdhpldiahgajcaa.PUtfAll
open Go.RowKit Go.Proofs.YtdhpldiahgajcaaW.PrintWords Go.Proofs.Ytdhpldiahgajcaa
set_option linter.unusedVariables false
set_option linter.unusedSimpArgs false
theorem one1 (c : Int) : (oneF [c]).2.2 = 2 ↔ (leadF c).1 ≠ 0 ∧ (leadF c).1 ≠ 1 := by
  unfold oneF
  rw [if_neg (by simp), show ([c] : List Int).getD 0 0 = c from rfl]
  generalize leadF c = q
  obtain ⟨z, s, lo, hi⟩ := q
  by_cases h0 : z = 0
  · rw [if_pos h0]; simp [h0]
  · rw [if_neg h0]
    by_cases h1 : ((1 : Nat) : Int) = z
    · rw [oneGo, if_pos h1]; simp; omega
    · rw [oneGo, if_neg h1, if_pos (show 1 = ([c] : List Int).length from rfl)]; simp; omega
theorem one2 (c d : Int) : (oneF [c, d]).2.2 = 2 ↔ (leadF c).1 ≠ 0 ∧ (leadF c).1 ≠ 1 ∧ (leadF c).1 ≠ 2 ∧ (leadF c).2.2.1 ≤ d ∧ d ≤ (leadF c).2.2.2 := by
  unfold oneF
  rw [if_neg (by simp), show ([c, d] : List Int).getD 0 0 = c from rfl]
  generalize leadF c = q
  obtain ⟨z, s, lo, hi⟩ := q
  simp only
  by_cases h0 : z = 0
  · rw [if_pos h0]; simp [h0]
  · rw [if_neg h0]
    by_cases h1 : ((1 : Nat) : Int) = z
    · rw [oneGo, if_pos h1]; simp; omega
    · rw [oneGo, if_neg h1, if_neg (by simp), show ([c, d] : List Int).getD 1 0 = d from rfl]
      by_cases h2 : d < lo ∨ hi < d
      · rw [if_pos h2]; simp; omega
      · rw [if_neg h2]
        by_cases h3 : ((1 + 1 : Nat) : Int) = z
        · rw [oneGo, if_pos h3]; simp; omega
        · rw [oneGo, if_neg h3, if_pos (show 1 + 1 = ([c, d] : List Int).length from rfl)]; simp; omega
theorem one3 (c d e : Int) : (oneF [c, d, e]).2.2 = 2 ↔ (leadF c).1 ≠ 0 ∧ (leadF c).1 ≠ 1 ∧ (leadF c).1 ≠ 2 ∧ (leadF c).1 ≠ 3 ∧ (leadF c).2.2.1 ≤ d ∧ d ≤ (leadF c).2.2.2 ∧ 128 ≤ e ∧ e ≤ 191 := by
  unfold oneF
  rw [if_neg (by simp), show ([c, d, e] : List Int).getD 0 0 = c from rfl]
  generalize leadF c = q
  obtain ⟨z, s, lo, hi⟩ := q
  simp only
  by_cases h0 : z = 0
  · rw [if_pos h0]; simp [h0]
  · rw [if_neg h0]
    by_cases h1 : ((1 : Nat) : Int) = z
    · rw [oneGo, if_pos h1]; simp; omega
    · rw [oneGo, if_neg h1, if_neg (by simp), show ([c, d, e] : List Int).getD 1 0 = d from rfl]
      by_cases h2 : d < lo ∨ hi < d
      · rw [if_pos h2]; simp; omega
      · rw [if_neg h2]
        by_cases h3 : ((1 + 1 : Nat) : Int) = z
        · rw [oneGo, if_pos h3]; simp; omega
        · rw [oneGo, if_neg h3, if_neg (by simp), show ([c, d, e] : List Int).getD (1 + 1) 0 = e from rfl]
          by_cases h4 : e < 128 ∨ 191 < e
          · rw [if_pos h4]; simp; omega
          · rw [if_neg h4]
            by_cases h5 : ((1 + 1 + 1 : Nat) : Int) = z
            · rw [oneGo, if_pos h5]; simp; omega
            · rw [oneGo, if_neg h5, if_pos (show 1 + 1 + 1 = ([c, d, e] : List Int).length from rfl)]; simp; omega
theorem lead0 {c : Int} (h : (128 ≤ c ∧ c < 194) ∨ 244 < c) : leadF c = (0, 0, 128, 191) := by unfold leadF; rw [if_neg (by omega), if_pos (by omega)]
/-- the leads, by ranges -/
theorem lead_cases {c : Int} (h0 : 0 ≤ c) (h1 : c < 256) :
    (c < 128 ∧ leadF c = (1, c, 128, 191) ∧ leadL c = (0, 0)) ∨ (128 ≤ c ∧ c < 192 ∧ leadF c = (0, 0, 128, 191) ∧ leadL c = (0, 0)) ∨ (192 ≤ c ∧ c < 194 ∧ leadF c = (0, 0, 128, 191) ∧ leadL c = (2, c - 192)) ∨
    (194 ≤ c ∧ c < 224 ∧ leadF c = (2, c - 192, 128, 191) ∧ leadL c = (2, c - 192)) ∨
    (224 ≤ c ∧ c < 240 ∧ leadF c = (3, c - 224, if c = 224 then 160 else 128, if c = 237 then 159 else 191) ∧ leadL c = (3, c - 224)) ∨
    (240 ≤ c ∧ c ≤ 244 ∧ leadF c = (4, c - 240, if c = 240 then 144 else 128, if c = 244 then 143 else 191) ∧ leadL c = (4, c - 240)) ∨
    (244 < c ∧ c < 248 ∧ leadF c = (0, 0, 128, 191) ∧ leadL c = (4, c - 240)) ∨ (248 ≤ c ∧ leadF c = (0, 0, 128, 191) ∧ leadL c = (0, 0)) := by
  unfold leadL
  by_cases a1 : c < 128
  · exact .inl ⟨a1, lead1 a1, by rw [if_neg (by omega), if_neg (by omega), if_neg (by omega)]⟩
  by_cases a2 : c < 192
  · exact .inr (.inl ⟨by omega, a2, lead0 (.inl ⟨by omega, by omega⟩), by rw [if_neg (by omega), if_neg (by omega), if_neg (by omega)]⟩)
  by_cases a3 : c < 194
  · exact .inr (.inr (.inl ⟨by omega, a3, lead0 (.inl ⟨by omega, by omega⟩), by rw [if_pos (by omega)]⟩))
  by_cases a4 : c < 224
  · exact .inr (.inr (.inr (.inl ⟨by omega, a4, lead2 (by omega) a4, by rw [if_pos (by omega)]⟩)))
  by_cases a5 : c < 240
  · exact .inr (.inr (.inr (.inr (.inl ⟨by omega, a5, lead3 (by omega) a5, by rw [if_neg (by omega), if_pos (by omega)]⟩))))
  by_cases a6 : c ≤ 244
  · exact .inr (.inr (.inr (.inr (.inr (.inl ⟨by omega, a6, lead4 (by omega) a6, by rw [if_neg (by omega), if_neg (by omega), if_pos (by omega)]⟩)))))
  by_cases a7 : c < 248
  · exact .inr (.inr (.inr (.inr (.inr (.inr (.inl ⟨by omega, a7, lead0 (.inr (by omega)), by rw [if_neg (by omega), if_neg (by omega), if_pos (by omega)]⟩))))))
  · exact .inr (.inr (.inr (.inr (.inr (.inr (.inr ⟨by omega, lead0 (.inr (by omega)), by rw [if_neg (by omega), if_neg (by omega), if_neg (by omega)]⟩))))))
theorem dec_t {p : Prop} [Decidable p] {b : Bool} (h : b = true ↔ p) : b = decide p := by
  by_cases hp : p
  · rw [h.2 hp, decide_eq_true hp]
  · rw [decide_eq_false hp]; exact Bool.eq_false_iff.mpr (fun hb => hp (h.1 hb))
theorem beg1 {c : Int} (hB : Bytes [c]) : lontarlaw01_begins.f 40 [c] = some (decide ((oneF [c]).2.2 = 2)) := by
  have hc := hB c (by simp)
  refine begins_at (by simp) hB (by simp) (fun _ k hk => ?_) (fun h => by simp [contB] at h)
  obtain ⟨k, rfl⟩ : ∃ k2, k = k2 + 20 := ⟨k - 20, by omega⟩
  rw [show ([c] : List Int).getD 0 0 = c from rfl]
  have ho := one1 c
  rcases lead_cases hc.1 hc.2 with ⟨g1, g2, g3⟩ | ⟨g0, g1, g2, g3⟩ | ⟨g0, g1, g2, g3⟩ | ⟨g0, g1, g2, g3⟩ | ⟨g0, g1, g2, g3⟩ | ⟨g0, g1, g2, g3⟩ | ⟨g0, g1, g2, g3⟩ | ⟨g1, g2, g3⟩ <;> rw [g3] <;> rw [g2] at ho <;> simp only at ho ⊢
  · rw [j3_big (by simp), decide_eq_false (fun h => (ho.1 h).2 rfl)]
  · rw [j3_big (by simp), decide_eq_false (fun h => (ho.1 h).1 rfl)]
  · rw [b21 hB (by omega) (by omega), decide_eq_false (fun h => (ho.1 h).1 rfl), cand_2n (by omega) (by omega)]
  · rw [b21 hB (by omega) (by omega), decide_eq_true (ho.2 ⟨by omega, by omega⟩), cand_2 (by omega) (by omega) (by omega)]
  · rw [b31 hB (by omega) (by omega), decide_eq_true (ho.2 ⟨by omega, by omega⟩)]
    have := mx_is ((c - 224) * 64 * 64) 2048
    congr 1
    exact cand_3.2 (by omega)
  · rw [b41 hB (by omega) (by omega), decide_eq_true (ho.2 ⟨by omega, by omega⟩)]
    have := mx_is ((c - 240) * 64 * 64 * 64) 65536
    congr 1
    exact cand_4.2 (by omega)
  · rw [b41 hB (by omega) (by omega), decide_eq_false (fun h => (ho.1 h).1 rfl)]
    have := mx_is ((c - 240) * 64 * 64 * 64) 65536
    congr 1; exact Bool.eq_false_iff.mpr (fun h => by have := cand_4.1 h; omega)
  · rw [j3_big (by simp), decide_eq_false (fun h => (ho.1 h).1 rfl)]
theorem beg2 {c d : Int} (hB : Bytes [c, d]) : lontarlaw01_begins.f 40 [c, d] = some (decide ((oneF [c, d]).2.2 = 2)) := by
  have hc := hB c (by simp)
  have hd := hB d (by simp)
  have ho := one2 c d
  refine begins_at (by simp) hB (by simp) (fun hct k hk => ?_) (fun h => ?_)
  · have hct : 128 ≤ d ∧ d ≤ 191 := by simpa [contB] using hct
    obtain ⟨k, rfl⟩ : ∃ k2, k = k2 + 20 := ⟨k - 20, by omega⟩
    rw [show ([c, d] : List Int).getD 0 0 = c from rfl]
    rcases lead_cases hc.1 hc.2 with ⟨g1, g2, g3⟩ | ⟨g0, g1, g2, g3⟩ | ⟨g0, g1, g2, g3⟩ | ⟨g0, g1, g2, g3⟩ | ⟨g0, g1, g2, g3⟩ | ⟨g0, g1, g2, g3⟩ | ⟨g0, g1, g2, g3⟩ | ⟨g1, g2, g3⟩ <;> rw [g3] <;> rw [g2] at ho <;> simp only at ho ⊢
    · rw [j3_big (by simp), decide_eq_false (fun h => (ho.1 h).2.1 rfl)]
    · rw [j3_big (by simp), decide_eq_false (fun h => (ho.1 h).1 rfl)]
    · rw [j3_big (by simp), decide_eq_false (fun h => (ho.1 h).1 rfl)]
    · rw [j3_big (by simp), decide_eq_false (fun h => (ho.1 h).2.2.1 rfl)]
    · rw [b32 hB hct.1 (by omega) (by omega)]
      have := mx_is (((c - 224) * 64 + (d - 128)) * 64) 2048
      congr 1
      refine dec_t (cand_3.trans ?_)
      rw [ho]
      clear ho
      split <;> split <;> omega
    · rw [b42 hB hct.1 (by omega) (by omega)]
      have := mx_is (((c - 240) * 64 + (d - 128)) * 64 * 64) 65536
      congr 1
      refine dec_t (cand_4.trans ?_)
      rw [ho]
      clear ho
      split <;> split <;> omega
    · rw [b42 hB hct.1 (by omega) (by omega), decide_eq_false (fun h => (ho.1 h).1 rfl)]
      have := mx_is (((c - 240) * 64 + (d - 128)) * 64 * 64) 65536
      congr 1; exact Bool.eq_false_iff.mpr (fun h => by have := cand_4.1 h; omega)
    · rw [j3_big (by simp), decide_eq_false (fun h => (ho.1 h).1 rfl)]
  · have hct : ¬ (128 ≤ d ∧ d ≤ 191) := by intro hh; simp [contB, hh] at h
    refine decide_eq_false (fun hh => ?_)
    obtain ⟨z0, z1, z2, h1, h2⟩ := ho.1 hh
    rcases lead_cases hc.1 hc.2 with ⟨g1, g2, g3⟩ | ⟨g0, g1, g2, g3⟩ | ⟨g0, g1, g2, g3⟩ | ⟨g0, g1, g2, g3⟩ | ⟨g0, g1, g2, g3⟩ | ⟨g0, g1, g2, g3⟩ | ⟨g0, g1, g2, g3⟩ | ⟨g1, g2, g3⟩ <;> rw [g2] at z0 z1 z2 h1 h2 <;> simp only at z0 z1 z2 h1 h2
    all_goals first | omega | (split at h1 <;> split at h2 <;> omega)
theorem beg3 {c d e : Int} (hB : Bytes [c, d, e]) : lontarlaw01_begins.f 40 [c, d, e] = some (decide ((oneF [c, d, e]).2.2 = 2)) := by
  have hc := hB c (by simp)
  have hd := hB d (by simp)
  have he := hB e (by simp)
  have ho := one3 c d e
  refine begins_at (by simp) hB (by simp) (fun hct k hk => ?_) (fun h => ?_)
  · have hct : (128 ≤ d ∧ d ≤ 191) ∧ (128 ≤ e ∧ e ≤ 191) := by simpa [contB] using hct
    obtain ⟨k, rfl⟩ : ∃ k2, k = k2 + 20 := ⟨k - 20, by omega⟩
    rw [show ([c, d, e] : List Int).getD 0 0 = c from rfl]
    rcases lead_cases hc.1 hc.2 with ⟨g1, g2, g3⟩ | ⟨g0, g1, g2, g3⟩ | ⟨g0, g1, g2, g3⟩ | ⟨g0, g1, g2, g3⟩ | ⟨g0, g1, g2, g3⟩ | ⟨g0, g1, g2, g3⟩ | ⟨g0, g1, g2, g3⟩ | ⟨g1, g2, g3⟩ <;> rw [g3] <;> rw [g2] at ho <;> simp only at ho ⊢
    · rw [j3_big (by simp), decide_eq_false (fun h => (ho.1 h).2.1 rfl)]
    · rw [j3_big (by simp), decide_eq_false (fun h => (ho.1 h).1 rfl)]
    · rw [j3_big (by simp), decide_eq_false (fun h => (ho.1 h).1 rfl)]
    · rw [j3_big (by simp), decide_eq_false (fun h => (ho.1 h).2.2.1 rfl)]
    · rw [j3_big (by simp), decide_eq_false (fun h => (ho.1 h).2.2.2.1 rfl)]
    · rw [b43 hB hct.1.1 hct.2.1 (by omega) (by omega)]
      have := mx_is ((((c - 240) * 64 + (d - 128)) * 64 + (e - 128)) * 64) 65536
      congr 1
      refine dec_t (cand_4.trans ?_)
      rw [ho]
      clear ho
      split <;> split <;> omega
    · rw [b43 hB hct.1.1 hct.2.1 (by omega) (by omega), decide_eq_false (fun h => (ho.1 h).1 rfl)]
      have := mx_is ((((c - 240) * 64 + (d - 128)) * 64 + (e - 128)) * 64) 65536
      congr 1; exact Bool.eq_false_iff.mpr (fun h => by have := cand_4.1 h; omega)
    · rw [j3_big (by simp), decide_eq_false (fun h => (ho.1 h).1 rfl)]
  · have hct : ¬ ((128 ≤ d ∧ d ≤ 191) ∧ (128 ≤ e ∧ e ≤ 191)) := by intro hh; simp [contB, hh.1, hh.2] at h
    refine decide_eq_false (fun hh => ?_)
    obtain ⟨z0, z1, z2, z3, h1, h2, h3, h4⟩ := ho.1 hh
    rcases lead_cases hc.1 hc.2 with ⟨g1, g2, g3⟩ | ⟨g0, g1, g2, g3⟩ | ⟨g0, g1, g2, g3⟩ | ⟨g0, g1, g2, g3⟩ | ⟨g0, g1, g2, g3⟩ | ⟨g0, g1, g2, g3⟩ | ⟨g0, g1, g2, g3⟩ | ⟨g1, g2, g3⟩ <;> rw [g2] at z0 z1 z2 z3 h1 h2 <;> simp only at z0 z1 z2 z3 h1 h2
    all_goals first | omega | (split at h1 <;> split at h2 <;> omega)
theorem beg4 {c d e f : Int} (hB : Bytes [c, d, e, f]) : lontarlaw01_begins.f 40 [c, d, e, f] = some (decide ((oneF [c, d, e, f]).2.2 = 2)) := by
  have hc := hB c (by simp)
  obtain ⟨n, s, x, h1, h2, h3, h4, h5, h6⟩ := one_far (l := [c, d, e, f]) (by simp) hB
  have hx : ¬ (oneF [c, d, e, f]).2.2 = 2 := by
    rw [h1]
    intro hx
    obtain ⟨x1, x2⟩ := h6 hx
    rw [x1] at x2
    exact absurd x2 (by simp)
  rw [decide_eq_false hx]
  refine begins_at (by simp) hB (by simp) (fun hct k hk => ?_) (fun _ => rfl)
  obtain ⟨k, rfl⟩ : ∃ k2, k = k2 + 1 := ⟨k - 1, by omega⟩
  rw [show ([c, d, e, f] : List Int).getD 0 0 = c from rfl]
  rcases lead_cases hc.1 hc.2 with ⟨g1, g2, g3⟩ | ⟨g0, g1, g2, g3⟩ | ⟨g0, g1, g2, g3⟩ | ⟨g0, g1, g2, g3⟩ | ⟨g0, g1, g2, g3⟩ | ⟨g0, g1, g2, g3⟩ | ⟨g0, g1, g2, g3⟩ | ⟨g1, g2, g3⟩ <;> rw [g3] <;> exact j3_big (by simp)
theorem begins_is {b : List Int} (h : b ≠ []) (hB : Bytes b) (hl : b.length ≤ 4) : lontarlaw01_begins.f 40 b = some (decide ((oneF b).2.2 = 2)) := by
  rcases b with _ | ⟨c, _ | ⟨d, _ | ⟨e, _ | ⟨f, _ | ⟨g, t⟩⟩⟩⟩⟩
  · exact absurd rfl h
  · exact beg1 hB
  · exact beg2 hB
  · exact beg3 hB
  · exact beg4 hB
  · simp at hl
theorem begins_le {b : List Int} {r : Bool} {k : Nat} (h : lontarlaw01_begins.f 40 b = some r) (hk : 40 ≤ k) : lontarlaw01_begins.f k b = some r := by
  obtain ⟨m, rfl⟩ : ∃ m, k = 40 + m := ⟨k - 40, by omega⟩
  induction m with
  | zero => exact h
  | succ m ih => exact lontarlaw01_begins.mono b (40 + m) r (ih (by omega))
end Go.Proofs.Ytdhpldiahgajcaa.PUtfAll
