/- What is read of a scalar's bytes one by one: nothing ahead of the last. No condition beyond the ranges. -/
import Derived.Test.YtdhpldiahgajcaaK5
import Derived.Test.YtdhpldiahgajcaaV2
namespace Go.Proofs.Ytdhpldiahgajcaa.PUtfAll
open Go.RowKit Go.Proofs.YtdhpldiahgajcaaW.PrintWords Go.Proofs.Ytdhpldiahgajcaa
set_option linter.unusedVariables false
theorem enc_pre {s : Int} (h : scalB s = true) {k : Nat} (h0 : 0 < k) (hk : k < (encS s).length) : ∃ s' n, oneF ((encS s).take k) = (s', n, 2) := by
  have hl : ((encS s).take k).length = k := by simp; omega
  have hne : (encS s).take k ≠ [] := fun e => by rw [e] at hl; simp at hl; omega
  have hB : Bytes ((encS s).take k) := fun x hx => enc_bytes h x (List.mem_of_mem_take hx)
  by_cases he : (oneF ((encS s).take k)).2.2 = 2
  · exact ⟨_, _, Prod.ext rfl (Prod.ext rfl he)⟩
  · exfalso
    have h1 := one_ext ((encS s).drop k) hne he
    rw [List.take_append_drop] at h1
    have h2 := one_enc h []
    rw [List.append_nil] at h2
    obtain ⟨n, s', e, h3, _, h4, _⟩ := one_far hne hB
    rw [h2, h3] at h1
    simp only [Prod.mk.injEq] at h1
    omega
/-- as utf.Put lays it: of what is no scalar, those of fffd -/
theorem encB_scal (s : Int) : ∃ t, scalB t = true ∧ encB s = encS t := by
  unfold encB
  by_cases h : scalB s = true
  · exact ⟨s, h, by rw [if_pos h]⟩
  · exact ⟨65533, by decide, by rw [if_neg h]; rfl⟩
theorem soon_step {s : Int} {j : Nat} (a : Int) (hj : j < (encB s).length) :
    ∃ ts, pF (((encB s).take j).length + 2) a ((encB s).take j ++ [(encB s).getD j 0]) = (ts, if j + 1 = (encB s).length then [] else (encB s).take (j + 1), if j + 1 = (encB s).length then a + (encB s).length else a) ∧ ts.length = (if j + 1 = (encB s).length then 1 else 0) := by
  obtain ⟨t, ht, e⟩ := encB_scal s
  rw [e] at hj ⊢
  have e1 : (encS t).take j ++ [(encS t).getD j 0] = (encS t).take (j + 1) := by
    rw [List.take_add_one]
    simp [List.getElem?_eq_getElem hj]
  rw [e1]
  by_cases hl : j + 1 = (encS t).length
  · rw [if_pos hl, if_pos hl, if_pos hl, hl, List.take_length]
    have h2 := one_enc ht []
    rw [List.append_nil] at h2
    have hne : encS t ≠ [] := fun e => by rw [e] at hj; simp at hj
    have h3 := pF_tok (f := ((encS t).take j).length + 1) (a := a) hne h2 (by decide)
    rw [h3]
    rw [Int.toNat_natCast, List.drop_length, pF_nil]
    exact ⟨_, rfl, rfl⟩
  · rw [if_neg hl, if_neg hl, if_neg hl]
    obtain ⟨s', n, h⟩ := enc_pre ht (k := j + 1) (by omega) (by omega)
    exact ⟨[], pF_short h, rfl⟩
theorem encB_len (s : Int) : 1 ≤ (encB s).length ∧ (encB s).length ≤ 4 := by
  obtain ⟨t, _, e⟩ := encB_scal s
  rw [e]; exact enc_one_len
end Go.Proofs.Ytdhpldiahgajcaa.PUtfAll
