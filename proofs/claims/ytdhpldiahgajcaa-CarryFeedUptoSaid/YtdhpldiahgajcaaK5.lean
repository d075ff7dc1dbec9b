/- What Put's answers are over bytes: they go on by what they read, and what waits is a beginning of three at most. A slice's room, of a row. No condition beyond the ranges. -/
import Derived.Test.YtdhpldiahgajcaaK4
namespace Go.Proofs.Ytdhpldiahgajcaa
open Go.ChangeShapes Go.WideShapes Go.RowKit
theorem cap_of_trod {H : Type} {enc : TypeId × Value → H} {P : Program} {W : World} {base : Nat} {spare : Nat → Bool} {held : Bool} {t e : TypeId} {k : IntKind} {a : Option Addr} {len cap : Nat} {d : DataW H} {ps : List MemPlace}
    (hu : P.underlying t = some (.slice e)) (he : P.underlying e = some (.int k)) (hc : P.cellsOf e = 1)
    (h : DataW.Trod enc P W base spare held t (.slice a len cap) d ps) : len ≤ cap := by
  obtain ⟨fuel, hf⟩ := h
  rcases open_ints hu he hc hf with ⟨hcs, hx⟩ | ⟨x, l, c, zs, hcs, _, hl, _, hz, hx, hcell, hwz⟩
  · simp [Value.cells] at hcs
    obtain ⟨rfl, rfl, rfl⟩ := hcs
    exact Nat.zero_le _
  · simp [Value.cells] at hcs
    obtain ⟨rfl, rfl, rfl⟩ := hcs
    exact hl
end Go.Proofs.Ytdhpldiahgajcaa
namespace Go.Proofs.Ytdhpldiahgajcaa.PUtfAll
open Go.RowKit Go.Proofs.YtdhpldiahgajcaaW.PrintWords Go.Proofs.Ytdhpldiahgajcaa
set_option linter.unusedVariables false
/-- what waits: nothing, or a beginning -/
def Waits (l : List Int) : Prop := l = [] ∨ ∃ s n, oneF l = (s, n, 2)
theorem Waits.three {l : List Int} (h : Waits l) (hB : Bytes l) : l.length ≤ 3 := by
  rcases h with rfl | ⟨s, n, h⟩
  · simp
  · by_cases h0 : l = []
    · simp [h0]
    · obtain ⟨m, s', e, h1, _, _, _, _, h6⟩ := one_far h0 hB
      rw [h] at h1
      simp only [Prod.mk.injEq] at h1
      have := h6 h1.2.2.symm
      omega
def sumF : List S32 → Int
  | [] => 0
  | t :: r => t.f1 + sumF r
theorem pF_law : ∀ (f : Nat) (a : Int) (l : List Int), l.length < f → Bytes l → ∃ (ts : List S32) (m : Nat), pF f a l = (ts, l.drop m, a + m) ∧ m ≤ l.length ∧ sumF ts = m ∧ Waits (l.drop m) ∧ (∀ t ∈ ts, 0 ≤ t.f1 ∧ t.f1 ≤ l.length) := by
  intro f
  induction f with
  | zero => intro a l h; omega
  | succ f ih =>
    intro a l hf hB
    by_cases h0 : l = []
    · subst h0
      exact ⟨[], 0, by rw [pF_nil]; simp, by simp, rfl, .inl rfl, by simp⟩
    · obtain ⟨n, s, e, h1, h2, h3, h4, h5, h6⟩ := one_far h0 hB
      by_cases he : e = 2
      · subst he
        exact ⟨[], 0, by rw [pF_short h1]; simp, by simp, rfl, .inr ⟨s, n, by rw [List.drop_zero]; exact h1⟩, by simp⟩
      · obtain ⟨ts, m, g1, g2, g3, g4, g5⟩ := ih (a + n) (l.drop n) (by simp; omega) (fun x hx => hB x (List.mem_of_mem_drop hx))
        simp only [List.length_drop] at g2 g5
        refine ⟨⟨a, n, if e = 0 then [s] else [], e⟩ :: ts, n + m, ?_, by omega, by rw [sumF, g3]; simp, by rw [← List.drop_drop]; exact g4, ?_⟩
        · rw [pF_tok h0 h1 he, Int.toNat_natCast, g1, List.drop_drop]
          simp only [Prod.mk.injEq, true_and]
          omega
        · intro t ht
          rcases List.mem_cons.1 ht with rfl | ht
          · exact ⟨by simp, by simp; omega⟩
          · have := g5 t ht; exact ⟨this.1, by omega⟩
/-- a reader's step over bytes: behind k of them -/
theorem held_step {l : List Int} {a k : Nat} (hB : Bytes l) (hk : k < l.length) (ha : a ≤ k) (hW : Waits ((l.take k).drop a)) :
    ∃ (ts : List S32) (m : Nat), pF (((l.take k).drop a).length + 2) a ((l.take k).drop a ++ [l.getD k 0]) = (ts, (l.take (k + 1)).drop (a + m), (a : Int) + m) ∧ a + m ≤ k + 1 ∧ sumF ts = m ∧ Waits ((l.take (k + 1)).drop (a + m)) ∧ (∀ t ∈ ts, 0 ≤ t.f1 ∧ t.f1 ≤ 4) ∧
      ((l.take (k + 1)).drop (a + m)).length ≤ 3 ∧ ((l.take (k + 1)).drop (a + m)).length = k + 1 - (a + m) := by
  have e1 : (l.take k).drop a ++ [l.getD k 0] = (l.take (k + 1)).drop a := by
    rw [List.take_add_one, List.drop_append_of_le_length (by simp; omega)]
    congr 1
    simp [List.getElem?_eq_getElem hk]
  have hB1 : Bytes ((l.take (k + 1)).drop a) := fun x hx => hB x (List.mem_of_mem_take (List.mem_of_mem_drop hx))
  have hB0 : Bytes ((l.take k).drop a) := fun x hx => hB x (List.mem_of_mem_take (List.mem_of_mem_drop hx))
  have h3 := hW.three hB0
  have l0 : ((l.take k).drop a).length = k - a := by simp; omega
  have l1 : ((l.take (k + 1)).drop a).length = k + 1 - a := by simp; omega
  rw [e1]
  obtain ⟨ts, m, g1, g2, g3, g4, g5⟩ := pF_law (((l.take k).drop a).length + 2) a ((l.take (k + 1)).drop a) (by omega) hB1
  rw [List.drop_drop] at g1 g4
  refine ⟨ts, m, g1, by omega, g3, g4, fun t ht => ⟨(g5 t ht).1, by have := (g5 t ht).2; omega⟩, g4.three (fun x hx => hB x (List.mem_of_mem_take (List.mem_of_mem_drop hx))), by simp; omega⟩
end Go.Proofs.Ytdhpldiahgajcaa.PUtfAll
