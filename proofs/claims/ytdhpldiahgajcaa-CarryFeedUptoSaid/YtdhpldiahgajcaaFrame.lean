/- What a walk is told of a slice of whole numbers that came in, and how a row hands it on. Plain helpers; no condition. -/
import Derived.SizedLaws
import Derived.ChangeSlices
import Derived.ProofKit
import Derived.Below
import Derived.OpenShut
namespace Go.Proofs.Ytdhpldiahgajcaa
open Go.ChangeShapes Go.WideShapes Go.RowKit
/-- a slice's elements: none, or the cells of a row -/
def RowAt (k : IntKind) (w : World) (a : Option Addr) (l : List Int) : Prop :=
  l = [] ∨ ∃ b off, a = some ⟨b, off, none⟩ ∧ ∀ i, i < l.length → w.cell? ⟨b, off + i, none⟩ = some (.int k (l.getD i 0))
theorem cell_lt {w : World} {a : Addr} {v : Value} (h : w.cell? a = some v) : a.block < w.heap.size := by
  rcases a with ⟨b, o, e⟩
  by_cases hb : b < w.heap.size
  · exact hb
  · exfalso
    have : w.heap[b]? = none := by simp; omega
    cases e <;> simp [World.cell?, this] at h
theorem RowAt.keep {k : IntKind} {w w' : World} {a : Option Addr} {l : List Int} (h : RowAt k w a l) (hb : Below w.heap.size w w') : RowAt k w' a l := by
  rcases h with h | ⟨b, off, ha, hc⟩
  · exact .inl h
  · refine .inr ⟨b, off, ha, fun i hi => ?_⟩
    have := hc i hi
    rw [hb.cell (cell_lt this)]
    exact this
theorem RowAt.cell {k : IntKind} {w : World} {a : Option Addr} {l : List Int} (h : RowAt k w a l) (h0 : l ≠ []) : ∃ b off, a = some ⟨b, off, none⟩ ∧ ∀ i, i < l.length → w.cell? ⟨b, off + i, none⟩ = some (.int k (l.getD i 0)) := by
  rcases h with h | h
  · exact absurd h h0
  · exact h
theorem rowAt_of_trod {H : Type} {enc : TypeId × Value → H} {P : Program} {W : World} {base : Nat} {spare : Nat → Bool} {held : Bool} {t e : TypeId} {k : IntKind} {a : Option Addr} {len cap : Nat} {d : DataW H} {ps : List MemPlace} {ts : List TypeId} {ds : List (DataW H)} {j : Nat}
    (hsz : (DataW.weightsEach P ts ds).all (· ≤ reachBytes) = true) (ht : ts[j]? = some t) (hd : ds[j]? = some d) (hu : P.underlying t = some (.slice e)) (he : P.underlying e = some (.int k)) (hc : P.cellsOf e = 1) {B : Nat} (hB : P.bytesOf e = B)
    (h : DataW.Trod enc P W base spare held t (.slice a len cap) d ps) :
    ∃ l : List Int, len = l.length ∧ RowAt k W a l ∧ l.length * B ≤ 140737488351232 ∧ ∀ n ∈ l, (Lit.int k n).wf = true := by
  obtain ⟨fuel, hf⟩ := h
  rcases open_ints hu he hc hf with ⟨hcs, _⟩ | ⟨x, l, c, zs, hcs, _, hl, _, hz, hx, hcell, hwz⟩
  · simp [Value.cells] at hcs
    obtain ⟨rfl, rfl, rfl⟩ := hcs
    exact ⟨[], rfl, .inl rfl, by simp, by simp⟩
  · simp [Value.cells] at hcs
    obtain ⟨rfl, rfl, rfl⟩ := hcs
    obtain ⟨hx, _⟩ := Prod.mk.inj hx
    subst hx
    have z := sized_slice hsz ht hd hu
    rw [hB] at z
    have hl2 : len ≤ zs.length := by
      rw [hz]
      split
      · exact hl
      · exact Nat.le_refl _
    have h1 : (lits (H := H) k (zs.take len)).length + (lits (H := H) k (zs.drop len)).length = zs.length := by
      simp [lits]
      omega
    rw [h1] at z
    have hll : (zs.take len).length = len := by rw [List.length_take]; omega
    refine ⟨zs.take len, hll.symm, ?_, ?_, fun n hn => hwz n (List.mem_of_mem_take hn)⟩
    · by_cases h0 : zs.take len = []
      · exact .inl h0
      · have hpos : 0 < zs.length := by
          rcases zs with _ | ⟨y, ys⟩
          · simp at h0
          · simp
        obtain ⟨b, off, rfl, hcc⟩ := ints_at hcell hpos
        refine .inr ⟨b, off, rfl, fun i hi => ?_⟩
        rw [hll] at hi
        rw [hcc i (by omega)]
        simp [List.getD_eq_getElem?_getD, hi]
    · rw [hll]; exact Nat.le_trans (Nat.mul_le_mul_right _ hl2) z
end Go.Proofs.Ytdhpldiahgajcaa
