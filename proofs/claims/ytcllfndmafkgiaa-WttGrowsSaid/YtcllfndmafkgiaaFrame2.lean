/- Appends of whole numbers onto a row of the call's own, by what came in or what it owns: plain laws, no condition but the sizes. -/
import Derived.Test.YtcllfndmafkgiaaFrame
import Derived.Laws.AppendOwn
import Derived.Laws.OwnMore
import Derived.Maps.AppendAt
import Derived.OwnWalk
namespace Go.Proofs.Ytcllfndmafkgiaa
open Go.RowKit
/-- the slice value v owns the numbers l, in blocks from base on -/
def Owns (k : IntKind) (w : World) (base : Nat) (e : TypeId) (v : Value) (l : List Int) : Prop := w.ownsRow base e 1 v l.length (l.map (Value.int k))
theorem Owns.nil (k : IntKind) (w : World) (base : Nat) (e : TypeId) : Owns k w base e (.slice none 0 0) [] := World.ownsRow_nil w base e 1
theorem Owns.at {k : IntKind} {w : World} {base : Nat} {e : TypeId} {v : Value} {l : List Int} (h : Owns k w base e v l) : ∃ a c, v = .slice a l.length c ∧ RowAt k w a l := by
  obtain ⟨_, h⟩ := h
  rcases h with ⟨rfl, h0⟩ | ⟨g, cap, cur, rfl, _, hg, hn, _, hc, ht⟩
  · have : l = [] := List.eq_nil_of_length_eq_zero h0
    subst this
    exact ⟨none, 0, rfl, .inl rfl⟩
  · refine ⟨some ⟨g, 0, none⟩, cap, rfl, .inr ⟨g, 0, rfl, fun i hi => ?_⟩⟩
    rw [Nat.zero_add, cell_of_row w g i cur e (0, 0) hg]
    have h1 : (cur.toList.take (l.length * 1))[i]? = (l.map (Value.int k))[i]? := by rw [ht]
    rw [Nat.mul_one, List.getElem?_take, if_pos hi] at h1
    rw [← Array.getElem?_toList, h1]
    simp [hi]
theorem run_append_row {P : Program} (w : World) (base : Nat) (t ty e : TypeId) (i : TypeInfo) (z : Value) (bytes : Nat) (ht : P.underlying t = some (.slice e)) (hi : P.info? e = some i) (hz : i.zero = some z)
    (hsize : i.size = 1) (hby : i.bytes = bytes) (hzs : z.cells.size = 1) (k : IntKind)
    (v : Value) (xs : List Int) (hown : Owns k w base e v xs) (a : Option Addr) (c : Nat) (l : List Int) (hr : RowAt k w a l)
    (h63 : xs.length + l.length ≤ maxLen) (hbytes : (xs.length + l.length) * bytes ≤ 140737488355328) (hbase : base ≤ w.heap.size) :
    ∃ v' w', (Builtin.append_ #[t, t] ty #[v, .slice a l.length c]).run P w = .ok v' w' ∧ Owns k w' base e v' (xs ++ l) ∧ w.grownBy w' v.ownBlock := by
  cases a with
  | none =>
    have hl : l = [] := by
      rcases hr with h | ⟨b, off, h, _⟩
      · exact h
      · cases h
    subst hl
    refine ⟨v, w, ?_, by simpa using hown, World.grownBy.refl w _⟩
    rcases hown.2 with ⟨rfl, h0⟩ | ⟨g, cap, cur, rfl, _, _, hnc, _⟩
    · simp [Builtin.append_, run_underlying ht, sizeOf, typeInfo, hi, Builtin.lenOf, Builtin.firstCells]
    · simp [Builtin.append_, run_underlying ht, sizeOf, typeInfo, hi, Builtin.lenOf, Builtin.firstCells, hnc, storeCells]
  | some ad =>
    have hcells : ∀ j u, (l.map (Value.int k))[j]? = some u → w.cell? (ad.add j) = some u := by
      intro j u hu
      rcases hr with h | ⟨b, off, h, hc⟩
      · subst h; simp at hu
      · injection h with h
        subst h
        have hj : j < l.length := by
          by_cases hj : j < l.length
          · exact hj
          · rw [List.getElem?_eq_none (by simpa using Nat.le_of_not_lt hj)] at hu; cases hu
        rw [Go.WideShapes.add_plain, hc j hj]
        simp [hj] at hu ⊢
        exact hu
    obtain ⟨v', w', hrun, h2, h3, _⟩ := run_append_own (P := P) w base t ty e i z 1 bytes ht hi hz hsize hby hzs (by omega) v xs.length (xs.map (Value.int k)) hown ad l.length c (l.map (Value.int k)) (by simp) hcells
      (fun u hu => by obtain ⟨n, _, rfl⟩ := List.mem_map.1 hu; rfl) h63 hbytes hbase
    refine ⟨v', w', hrun, ?_, h3⟩
    unfold Owns
    rw [List.length_append, List.map_append]
    exact h2
theorem wpList_append_row {P : Program} {w : World} {ops : Array Oper} {rest : List Oper} {o : Oper} {a : Act} {Q : Exit → Act → World → Prop} (hgd : o.guard = none) (s x : Operand) (t : TypeId)
    (ho : o.op = .call { callee := .builtin .append, args := #[s, x], argTypes := #[t, t] })
    (W0 : World) (e : TypeId) (i : TypeInfo) (z : Value) (bytes : Nat) (ht : P.underlying t = some (.slice e)) (hi : P.info? e = some i) (hz : i.zero = some z)
    (hsize : i.size = 1) (hby : i.bytes = bytes) (hzs : z.cells.size = 1) (k : IntKind) (hB : Below W0.heap.size W0 w)
    (v : Value) (xs : List Int) (hs : a.eval s = v) (hown : Owns k w W0.heap.size e v xs) (A : Option Addr) (c : Nat) (l : List Int) (hx : a.eval x = .slice A l.length c) (hr : RowAt k w A l)
    (h63 : xs.length + l.length ≤ maxLen) (hbytes : (xs.length + l.length) * bytes ≤ 140737488355328)
    (h : ∀ v' w', Owns k w' W0.heap.size e v' (xs ++ l) → Below W0.heap.size W0 w' → wpList P ops Q rest (a.put o.dst v') w') : wpList P ops Q (o :: rest) a w := by
  refine wpList_plain hgd fun K hK => ?_
  obtain ⟨v', w', hrun, h2, h3⟩ := run_append_row (P := P) w W0.heap.size t o.type e i z bytes ht hi hz hsize hby hzs k v xs hown A c l hr h63 hbytes hB.size
  unfold Oper.wp execOp
  simp only [ho, resolve, invoke, builtin, Sem.run_bind, Sem.run_pure, Result.andThen_ok, List.map_toArray, List.map_cons, List.map_nil, hs, hx, hrun]
  exact hK _ _ (h v' w' h2 (hB.grown h3 hB.size (fun g hg => (World.ownsRow.lt hown g hg).1)))
end Go.Proofs.Ytcllfndmafkgiaa
