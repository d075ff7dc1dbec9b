/- Texts of this claim, one behind the other (merged by a program): Frame, TA, TB, TC. No condition of their own. -/
import Derived.SizedLaws
import Derived.ChangeSlices
import Derived.ProofKit
import Derived.Below
import Derived.OpenShut
import Derived.Test.YtnfjgopcenpblaaGreatDoorProg
import Derived.Deep.Draws
import Derived.Deep.AppendLies
import Derived.Maps.AppendAt
import Derived.OwnWalk
import Derived.Laws.BytesArg
import Derived.Laws.MakeOwn
import Derived.Laws.OwnMore
import Derived.Deep.OwnRows
import Derived.Tactics
import Derived.Lib.ConvBytes
import Derived.Laws.Slices
import Derived.WalkKit
import Derived.KernelRfl
import Derived.RowKit3
import Derived.Deep.LoopGhost
import Derived.Deep.QuietTactic
import Derived.BigQuiet
import Derived.WideLaws
import Derived.Deep.DeepCutAuto
import Derived.Deep.CutBlock
import Derived.Deep.RegionHeld3
import Derived.Laws.Rows
import Derived.Lib.AppendStr
import Derived.ArgAppend
import Derived.Laws.IdiomCopy
import Derived.OrdersHeld
import Derived.Laws.BitsLemmas
import Derived.Lib.Hide
import Derived.ScopeJumps
import Derived.WalkMore
import Derived.IntWalk
import Derived.RowKit
import Derived.Test.YtnfjgopcenpblaaGreatDoorWWords
import Derived.Test.YtnfjgopcenpblaaGreatDoorWLast
import Derived.Test.YtnfjgopcenpblaaGreatDoorWTab
import Derived.Test.YtnfjgopcenpblaaGreatDoorWFour
import Derived.Test.YtnfjgopcenpblaaGreatDoorWQPut
import Derived.Test.YtnfjgopcenpblaaGreatDoorWApart
import Derived.Test.YtnfjgopcenpblaaGreatDoorWArr
import Derived.Test.YtnfjgopcenpblaaGreatDoorWZeros
import Derived.Test.YtnfjgopcenpblaaGreatDoorWFoot
import Derived.Test.YtnfjgopcenpblaaGreatDoorWKept
import Derived.Test.YtnfjgopcenpblaaGreatDoorWShare
import Derived.Test.YtnfjgopcenpblaaGreatDoorWN
import Derived.Test.YtnfjgopcenpblaaGreatDoorWFootNe
import Derived.Test.YtnfjgopcenpblaaGreatDoorWAt
import Derived.Test.YtnfjgopcenpblaaGreatDoorWEqStruct
import Derived.Test.YtnfjgopcenpblaaGreatDoorWRepsOne
import Derived.Test.YtnfjgopcenpblaaGreatDoorWInv
import Derived.Test.YtnfjgopcenpblaaGreatDoorWInvWords
import Derived.Test.YtnfjgopcenpblaaGreatDoorWGuard
import Derived.Test.YtnfjgopcenpblaaGreatDoorWNEv
import Derived.Test.YtnfjgopcenpblaaGreatDoorWMore
/- What a walk is told of a slice of whole numbers that came in, and how a row hands it on. Plain helpers; no condition. -/
namespace Go.Proofs.YtnfjgopcenpblaaGreatDoor
open Go.ChangeShapes Go.WideShapes Go.RowKit
/-- a slice's elements: none, or the cells of a row -/
def RowAt (k : IntKind) (w : World) (a : Option Addr) (l : List Int) : Prop :=
  l = [] ∨ ∃ b off, a = some ⟨b, off, none⟩ ∧ ∀ i, i < l.length → w.cell? ⟨b, off + i, none⟩ = some (.int k (l.getD i 0))
theorem cell_lt {w : World} {a : Addr} {v : Value} (h : w.cell? a = some v) : a.block < w.heap.size := by
  rcases a with ⟨b, o, e⟩
  by_cases hb : b < w.heap.size
  · exact hb
  · exfalso
    have : w.heap[b]? = none := by simp; omega
    cases e <;> simp [World.cell?, this] at h
theorem RowAt.keep {k : IntKind} {w w' : World} {a : Option Addr} {l : List Int} (h : RowAt k w a l) (hb : Below w.heap.size w w') : RowAt k w' a l := by
  rcases h with h | ⟨b, off, ha, hc⟩
  · exact .inl h
  · refine .inr ⟨b, off, ha, fun i hi => ?_⟩
    have := hc i hi
    rw [hb.cell (cell_lt this)]
    exact this
theorem RowAt.cell {k : IntKind} {w : World} {a : Option Addr} {l : List Int} (h : RowAt k w a l) (h0 : l ≠ []) : ∃ b off, a = some ⟨b, off, none⟩ ∧ ∀ i, i < l.length → w.cell? ⟨b, off + i, none⟩ = some (.int k (l.getD i 0)) := by
  rcases h with h | h
  · exact absurd h h0
  · exact h
theorem rowAt_of_trod {H : Type} {enc : TypeId × Value → H} {P : Program} {W : World} {base : Nat} {spare : Nat → Bool} {held : Bool} {t e : TypeId} {k : IntKind} {a : Option Addr} {len cap : Nat} {d : DataW H} {ps : List MemPlace} {ts : List TypeId} {ds : List (DataW H)} {j : Nat}
    (hsz : (DataW.weightsEach P ts ds).all (· ≤ reachBytes) = true) (ht : ts[j]? = some t) (hd : ds[j]? = some d) (hu : P.underlying t = some (.slice e)) (he : P.underlying e = some (.int k)) (hc : P.cellsOf e = 1) {B : Nat} (hB : P.bytesOf e = B)
    (h : DataW.Trod enc P W base spare held t (.slice a len cap) d ps) :
    ∃ l : List Int, len = l.length ∧ RowAt k W a l ∧ l.length * B ≤ 140737488351232 ∧ ∀ n ∈ l, (Lit.int k n).wf = true := by
  obtain ⟨fuel, hf⟩ := h
  rcases open_ints hu he hc hf with ⟨hcs, _⟩ | ⟨x, l, c, zs, hcs, _, hl, _, hz, hx, hcell, hwz⟩
  · simp [Value.cells] at hcs
    obtain ⟨rfl, rfl, rfl⟩ := hcs
    exact ⟨[], rfl, .inl rfl, by simp, by simp⟩
  · simp [Value.cells] at hcs
    obtain ⟨rfl, rfl, rfl⟩ := hcs
    obtain ⟨hx, _⟩ := Prod.mk.inj hx
    subst hx
    have z := sized_slice hsz ht hd hu
    rw [hB] at z
    have hl2 : len ≤ zs.length := by
      rw [hz]
      split
      · exact hl
      · exact Nat.le_refl _
    have h1 : (lits (H := H) k (zs.take len)).length + (lits (H := H) k (zs.drop len)).length = zs.length := by
      simp [lits]
      omega
    rw [h1] at z
    have hll : (zs.take len).length = len := by rw [List.length_take]; omega
    refine ⟨zs.take len, hll.symm, ?_, ?_, fun n hn => hwz n (List.mem_of_mem_take hn)⟩
    · by_cases h0 : zs.take len = []
      · exact .inl h0
      · have hpos : 0 < zs.length := by
          rcases zs with _ | ⟨y, ys⟩
          · simp at h0
          · simp
        obtain ⟨b, off, rfl, hcc⟩ := ints_at hcell hpos
        refine .inr ⟨b, off, rfl, fun i hi => ?_⟩
        rw [hll] at hi
        rw [hcc i (by omega)]
        simp [List.getD_eq_getElem?_getD, hi]
    · rw [hll]; exact Nat.le_trans (Nat.mul_le_mul_right _ hl2) z
end Go.Proofs.YtnfjgopcenpblaaGreatDoor

/- The kinds of the values of the whole program's seat. Written by a program out of Lean's own print of the given functions; no condition of its own. -/
namespace Go.Proofs.YtnfjgopcenpblaaGreatDoor.T
open Go.RowKit Go.Proofs.YtnfjgopcenpblaaGreatDoorW.PrintWords Go.Proofs.YtnfjgopcenpblaaGreatDoorW.PrintLast Go.Proofs.YtnfjgopcenpblaaGreatDoorW.PrintMore
attribute [local go_sem] max2_int min2_int max_two min_two max_three min_three max_four min_four   -- for this text's walks alone
set_option linter.unusedVariables false
set_option linter.unusedSimpArgs false



def errW : Option Int → Value
  | none => .nilIface
  | some c => .iface 0 (.int .i64 c)
theorem errW_none : errW none = .nilIface := rfl
theorem errW_some (c : Int) : errW (some c) = .iface 0 (.int .i64 c) := rfl

theorem info3 : (Tryz.prog.info? 3).map (fun i => (i.zero, i.size, i.bytes)) = some (some (.int .i64 0), 1, 8) := by kernel_rfl
theorem info5 : (Tryz.prog.info? 5).map (fun i => (i.zero, i.size, i.bytes)) = some (some (.int .u8 0), 1, 1) := by kernel_rfl
theorem info9 : (Tryz.prog.info? 9).map (fun i => (i.zero, i.size, i.bytes)) = some (some (.string ⟨#[]⟩), 1, 16) := by kernel_rfl
theorem info66 : (Tryz.prog.info? 66).map (fun i => (i.zero, i.size, i.bytes)) = some (some (.agg #[(.int .i64 0), (.int .i64 0), (.slice none 0 0), (.int .i64 0)]), 4, 48) := by kernel_rfl
-- the values' own types
def rd_L3 (xs : List (List Int)) (i : Int) : (List Int) := xs.getD i.toNat ([] : List Int)
theorem at_L3 {w : World} {A : Option Addr} {n : Nat} {xs : List (List Int)} (h : Kd.C (Kd.slice 3 (Kd.int .i64)) w A n xs) (i : Int) (h0 : 0 ≤ i) (h1 : i < n) : ∃ ad A0 c0, A = some ad ∧ w.cell? (ad.add i.toNat) = some (.slice A0 (rd_L3 xs i).length c0) ∧ (rd_L3 xs i).length ≤ c0 ∧ (Kd.int .i64).C w A0 (rd_L3 xs i).length (rd_L3 xs i) := by
  obtain ⟨ad, c, e, _, hK, hc0⟩ := Kd.C_get h ([] : List Int) i h0 h1
  have hc : ∀ j u, c[j]? = some u → w.cell? (ad.add (i.toNat * 1 + j)) = some u := hc0
  obtain ⟨A0, c0, rfl, l0, g0⟩ := hK
  exact ⟨ad, A0, c0, e, by have hq := hc 0 _ rfl; rwa [Nat.mul_one, Nat.add_zero] at hq, l0, g0⟩

/-! #### struct type 150 -/
structure S150 where
  f0 : (List Int)
  f1 : (List Int)
def z150 : S150 := ⟨([] : List Int), ([] : List Int)⟩
def k150 : Kd S150 := Kd.iso (Kd.pair (Kd.slice 3 (Kd.int .i64)) (Kd.slice 3 (Kd.int .i64))) (fun x : S150 => (x.f0, x.f1))
theorem k150_open {w : World} {x : S150} {cs : List Value} (h : k150.K w x cs) : ∃ A0 c0 A1 c1, cs = [.slice A0 x.f0.length c0, .slice A1 x.f1.length c1] ∧ x.f0.length ≤ c0 ∧ (Kd.int .i64).C w A0 x.f0.length x.f0 ∧ x.f1.length ≤ c1 ∧ (Kd.int .i64).C w A1 x.f1.length x.f1 := by
  obtain ⟨_, _, rfl, ⟨A0, c0, rfl, l0, g0⟩, ⟨A1, c1, rfl, l1, g1⟩⟩ := h
  exact ⟨A0, c0, A1, c1, rfl, l0, g0, l1, g1⟩
theorem k150_openM {w : World} {base : Nat} {ok : Nat → Prop} {x : S150} {cs : List Value} (h : k150.M w base ok x cs) : ∃ v0 v1, cs = [v0, v1] ∧ (Kd.int .i64).R 3 w base ok v0 x.f0 ∧ (Kd.int .i64).R 3 w base ok v1 x.f1 := by
  obtain ⟨_, _, rfl, ⟨v0, rfl, g0⟩, ⟨v1, rfl, g1⟩⟩ := h
  exact ⟨v0, v1, rfl, g0, g1⟩
theorem k150_mk (w : World) (x : S150) {A0 : Option Addr} {c0 : Nat} (l0 : x.f0.length ≤ c0) (g0 : (Kd.int .i64).C w A0 x.f0.length x.f0) {A1 : Option Addr} {c1 : Nat} (l1 : x.f1.length ≤ c1) (g1 : (Kd.int .i64).C w A1 x.f1.length x.f1) : k150.K w x [.slice A0 x.f0.length c0, .slice A1 x.f1.length c1] := ⟨[.slice A0 x.f0.length c0], [.slice A1 x.f1.length c1], rfl, ⟨A0, c0, rfl, l0, g0⟩, ⟨A1, c1, rfl, l1, g1⟩⟩
theorem k150_mkM (w : World) (base : Nat) (ok : Nat → Prop) (x : S150) {v0 : Value} (g0 : (Kd.int .i64).R 3 w base ok v0 x.f0) {v1 : Value} (g1 : (Kd.int .i64).R 3 w base ok v1 x.f1) : k150.M w base ok x [v0, v1] := ⟨[v0], [v1], rfl, ⟨v0, rfl, g0⟩, ⟨v1, rfl, g1⟩⟩
def rd_T150 (xs : List S150) (i : Int) : S150 := xs.getD i.toNat z150
theorem at_T150 {w : World} {A : Option Addr} {n : Nat} {xs : List S150} (h : Kd.C k150 w A n xs) (i : Int) (h0 : 0 ≤ i) (h1 : i < n) : ∃ ad A0 c0 A1 c1, A = some ad ∧ w.cell? (ad.add (i.toNat * 2)) = some (.slice A0 (rd_T150 xs i).f0.length c0) ∧ w.cell? ⟨(ad.add (i.toNat * 2)).block, (ad.add (i.toNat * 2)).off + 1, none⟩ = some (.slice A1 (rd_T150 xs i).f1.length c1) ∧ (rd_T150 xs i).f0.length ≤ c0 ∧ (Kd.int .i64).C w A0 (rd_T150 xs i).f0.length (rd_T150 xs i).f0 ∧ (rd_T150 xs i).f1.length ≤ c1 ∧ (Kd.int .i64).C w A1 (rd_T150 xs i).f1.length (rd_T150 xs i).f1 := by
  obtain ⟨ad, c, e, _, hK, hc0⟩ := Kd.C_get h z150 i h0 h1
  have hc : ∀ j u, c[j]? = some u → w.cell? (ad.add (i.toNat * 2 + j)) = some u := hc0
  obtain ⟨A0, c0, A1, c1, rfl, l0, g0, l1, g1⟩ := k150_open hK
  exact ⟨ad, A0, c0, A1, c1, e, hc 0 _ rfl, by rw [← add_field _ _ 1 (by omega)]; exact hc 1 _ rfl, l0, g0, l1, g1⟩

/-! #### struct type 183 -/
structure S183 where
  f0 : Int
  f1 : Int
  f2 : Int
  f3 : Int
def z183 : S183 := ⟨(0 : Int), (0 : Int), (0 : Int), (0 : Int)⟩
def k183 : Kd S183 := Kd.iso (Kd.pair (Kd.int .i64) (Kd.pair (Kd.int .i64) (Kd.pair (Kd.int .i64) (Kd.int .i64)))) (fun x : S183 => (x.f0, x.f1, x.f2, x.f3))
theorem k183_open {w : World} {x : S183} {cs : List Value} (h : k183.K w x cs) : cs = [.int .i64 x.f0, .int .i64 x.f1, .int .i64 x.f2, .int .i64 x.f3] := by
  obtain ⟨_, _, rfl, rfl, ⟨_, _, rfl, rfl, ⟨_, _, rfl, rfl, rfl⟩⟩⟩ := h
  exact rfl
theorem k183_openM {w : World} {base : Nat} {ok : Nat → Prop} {x : S183} {cs : List Value} (h : k183.M w base ok x cs) : cs = [.int .i64 x.f0, .int .i64 x.f1, .int .i64 x.f2, .int .i64 x.f3] := by
  obtain ⟨_, _, rfl, rfl, ⟨_, _, rfl, rfl, ⟨_, _, rfl, rfl, rfl⟩⟩⟩ := h
  exact rfl
theorem k183_mk (w : World) (x : S183)  : k183.K w x [.int .i64 x.f0, .int .i64 x.f1, .int .i64 x.f2, .int .i64 x.f3] := ⟨[.int .i64 x.f0], [.int .i64 x.f1, .int .i64 x.f2, .int .i64 x.f3], rfl, rfl, ⟨[.int .i64 x.f1], [.int .i64 x.f2, .int .i64 x.f3], rfl, rfl, ⟨[.int .i64 x.f2], [.int .i64 x.f3], rfl, rfl, rfl⟩⟩⟩
theorem k183_mkM (w : World) (base : Nat) (ok : Nat → Prop) (x : S183)  : k183.M w base ok x [.int .i64 x.f0, .int .i64 x.f1, .int .i64 x.f2, .int .i64 x.f3] := ⟨[.int .i64 x.f0], [.int .i64 x.f1, .int .i64 x.f2, .int .i64 x.f3], rfl, rfl, ⟨[.int .i64 x.f1], [.int .i64 x.f2, .int .i64 x.f3], rfl, rfl, ⟨[.int .i64 x.f2], [.int .i64 x.f3], rfl, rfl, rfl⟩⟩⟩
def rd_T183 (xs : List S183) (i : Int) : S183 := xs.getD i.toNat z183
theorem at_T183 {w : World} {A : Option Addr} {n : Nat} {xs : List S183} (h : Kd.C k183 w A n xs) (i : Int) (h0 : 0 ≤ i) (h1 : i < n) : ∃ ad , A = some ad ∧ w.cell? (ad.add (i.toNat * 4)) = some (.int .i64 (rd_T183 xs i).f0) ∧ w.cell? ⟨(ad.add (i.toNat * 4)).block, (ad.add (i.toNat * 4)).off + 1, none⟩ = some (.int .i64 (rd_T183 xs i).f1) ∧ w.cell? ⟨(ad.add (i.toNat * 4)).block, (ad.add (i.toNat * 4)).off + 2, none⟩ = some (.int .i64 (rd_T183 xs i).f2) ∧ w.cell? ⟨(ad.add (i.toNat * 4)).block, (ad.add (i.toNat * 4)).off + 3, none⟩ = some (.int .i64 (rd_T183 xs i).f3) := by
  obtain ⟨ad, c, e, _, hK, hc0⟩ := Kd.C_get h z183 i h0 h1
  have hc : ∀ j u, c[j]? = some u → w.cell? (ad.add (i.toNat * 4 + j)) = some u := hc0
  obtain rfl := k183_open hK
  exact ⟨ad, e, hc 0 _ rfl, by rw [← add_field _ _ 1 (by omega)]; exact hc 1 _ rfl, by rw [← add_field _ _ 2 (by omega)]; exact hc 2 _ rfl, by rw [← add_field _ _ 3 (by omega)]; exact hc 3 _ rfl⟩

/-! #### struct type 66 -/
structure S66 where
  f0 : Int
  f1 : Int
  f2 : (List Int)
  f3 : Int
def z66 : S66 := ⟨(0 : Int), (0 : Int), ([] : List Int), (0 : Int)⟩
def k66 : Kd S66 := Kd.iso (Kd.pair (Kd.int .i64) (Kd.pair (Kd.int .i64) (Kd.pair (Kd.slice 3 (Kd.int .i64)) (Kd.int .i64)))) (fun x : S66 => (x.f0, x.f1, x.f2, x.f3))
theorem k66_open {w : World} {x : S66} {cs : List Value} (h : k66.K w x cs) : ∃ A2 c2, cs = [.int .i64 x.f0, .int .i64 x.f1, .slice A2 x.f2.length c2, .int .i64 x.f3] ∧ x.f2.length ≤ c2 ∧ (Kd.int .i64).C w A2 x.f2.length x.f2 := by
  obtain ⟨_, _, rfl, rfl, ⟨_, _, rfl, rfl, ⟨_, _, rfl, ⟨A2, c2, rfl, l2, g2⟩, rfl⟩⟩⟩ := h
  exact ⟨A2, c2, rfl, l2, g2⟩
theorem k66_openM {w : World} {base : Nat} {ok : Nat → Prop} {x : S66} {cs : List Value} (h : k66.M w base ok x cs) : ∃ v2, cs = [.int .i64 x.f0, .int .i64 x.f1, v2, .int .i64 x.f3] ∧ (Kd.int .i64).R 3 w base ok v2 x.f2 := by
  obtain ⟨_, _, rfl, rfl, ⟨_, _, rfl, rfl, ⟨_, _, rfl, ⟨v2, rfl, g2⟩, rfl⟩⟩⟩ := h
  exact ⟨v2, rfl, g2⟩
theorem k66_mk (w : World) (x : S66) {A2 : Option Addr} {c2 : Nat} (l2 : x.f2.length ≤ c2) (g2 : (Kd.int .i64).C w A2 x.f2.length x.f2) : k66.K w x [.int .i64 x.f0, .int .i64 x.f1, .slice A2 x.f2.length c2, .int .i64 x.f3] := ⟨[.int .i64 x.f0], [.int .i64 x.f1, .slice A2 x.f2.length c2, .int .i64 x.f3], rfl, rfl, ⟨[.int .i64 x.f1], [.slice A2 x.f2.length c2, .int .i64 x.f3], rfl, rfl, ⟨[.slice A2 x.f2.length c2], [.int .i64 x.f3], rfl, ⟨A2, c2, rfl, l2, g2⟩, rfl⟩⟩⟩
theorem k66_mkM (w : World) (base : Nat) (ok : Nat → Prop) (x : S66) {v2 : Value} (g2 : (Kd.int .i64).R 3 w base ok v2 x.f2) : k66.M w base ok x [.int .i64 x.f0, .int .i64 x.f1, v2, .int .i64 x.f3] := ⟨[.int .i64 x.f0], [.int .i64 x.f1, v2, .int .i64 x.f3], rfl, rfl, ⟨[.int .i64 x.f1], [v2, .int .i64 x.f3], rfl, rfl, ⟨[v2], [.int .i64 x.f3], rfl, ⟨v2, rfl, g2⟩, rfl⟩⟩⟩
def rd_T66 (xs : List S66) (i : Int) : S66 := xs.getD i.toNat z66
theorem at_T66 {w : World} {A : Option Addr} {n : Nat} {xs : List S66} (h : Kd.C k66 w A n xs) (i : Int) (h0 : 0 ≤ i) (h1 : i < n) : ∃ ad A2 c2, A = some ad ∧ w.cell? (ad.add (i.toNat * 4)) = some (.int .i64 (rd_T66 xs i).f0) ∧ w.cell? ⟨(ad.add (i.toNat * 4)).block, (ad.add (i.toNat * 4)).off + 1, none⟩ = some (.int .i64 (rd_T66 xs i).f1) ∧ w.cell? ⟨(ad.add (i.toNat * 4)).block, (ad.add (i.toNat * 4)).off + 2, none⟩ = some (.slice A2 (rd_T66 xs i).f2.length c2) ∧ w.cell? ⟨(ad.add (i.toNat * 4)).block, (ad.add (i.toNat * 4)).off + 3, none⟩ = some (.int .i64 (rd_T66 xs i).f3) ∧ (rd_T66 xs i).f2.length ≤ c2 ∧ (Kd.int .i64).C w A2 (rd_T66 xs i).f2.length (rd_T66 xs i).f2 := by
  obtain ⟨ad, c, e, _, hK, hc0⟩ := Kd.C_get h z66 i h0 h1
  have hc : ∀ j u, c[j]? = some u → w.cell? (ad.add (i.toNat * 4 + j)) = some u := hc0
  obtain ⟨A2, c2, rfl, l2, g2⟩ := k66_open hK
  exact ⟨ad, A2, c2, e, hc 0 _ rfl, by rw [← add_field _ _ 1 (by omega)]; exact hc 1 _ rfl, by rw [← add_field _ _ 2 (by omega)]; exact hc 2 _ rfl, by rw [← add_field _ _ 3 (by omega)]; exact hc 3 _ rfl, l2, g2⟩

end Go.Proofs.YtnfjgopcenpblaaGreatDoor.T

/- utf.lead. Written by a program out of Lean's own print of the given functions (the walk and the Lean function of the same answers); no condition of its own. -/
namespace Go.Proofs.YtnfjgopcenpblaaGreatDoor.T
open Go.RowKit Go.Proofs.YtnfjgopcenpblaaGreatDoorW.PrintWords Go.Proofs.YtnfjgopcenpblaaGreatDoorW.PrintLast Go.Proofs.YtnfjgopcenpblaaGreatDoorW.PrintMore
attribute [local go_sem] max2_int min2_int max_two min_two max_three min_three max_four min_four   -- for this text's walks alone
set_option linter.unusedVariables false
set_option linter.unusedSimpArgs false

/-! ### utf_lead: function 32 -/
def utf_lead.j0 : Nat → Int → Int → Int → Bool → Option (Int × Int × Int × Int)
  | 0, _, _, _, _ => none
  | k + 1, x0, x4, x5, x13 => if x13 = true then (some (0, 0, x4, x5)) else (if x0 < 224 then (some (2, wrap64 (Go.bits .and .u8 x0 31), x4, x5)) else (if x0 = 224 then (some (3, 0, 160, x5)) else (if x0 = 237 then (some (3, 13, x4, 159)) else (if x0 < 240 then (some (3, wrap64 (Go.bits .and .u8 x0 15), x4, x5)) else (if x0 = 240 then (some (4, 0, 144, x5)) else (if x0 = 244 then (some (4, 4, x4, 143)) else (some (4, wrap64 (Go.bits .and .u8 x0 7), x4, x5))))))))
def utf_lead.f (k : Nat) (a0 : Int) : Option (Int × Int × Int × Int) := if a0 < 128 then (some (1, wrap64 (a0), 128, 191)) else (if a0 < 194 then (utf_lead.j0 k a0 128 191 true) else (utf_lead.j0 k a0 128 191 (decide (a0 > 244))))
theorem utf_lead.mono_l : ∀ k, (∀ y0 y1 y2 y3, LeO (utf_lead.j0 k y0 y1 y2 y3) (utf_lead.j0 (k + 1) y0 y1 y2 y3))
  | 0 => fun _ _ _ _ r h => by simp [utf_lead.j0] at h
  | k + 1 => by
    have ih0 := utf_lead.mono_l k
    · intro y0 y1 y2 y3
      unfold utf_lead.j0
      repeat' first
      | (with_reducible exact ih0 _ _ _ _)
      | (with_reducible exact LeO.refl _)
      | (with_reducible exact LeO.none _)
      | (with_reducible refine LeO.ite ?_ ?_)
      | (with_reducible refine LeO.bind ?_ (fun _ => ?_))
      | exact ih0 _ _ _ _
      | exact LeO.none _
      | refine LeO.ite ?_ ?_
      | refine LeO.bind ?_ (fun _ => ?_)
theorem utf_lead.mono : ∀ a0 k, LeO (utf_lead.f k a0) (utf_lead.f (k + 1) a0) := by
  intro a0 k
  have ih0 := utf_lead.mono_l k
  unfold utf_lead.f
  repeat' first
      | (with_reducible exact ih0 _ _ _ _)
      | (with_reducible exact LeO.refl _)
      | (with_reducible exact LeO.none _)
      | (with_reducible refine LeO.ite ?_ ?_)
      | (with_reducible refine LeO.bind ?_ (fun _ => ?_))
      | exact ih0 _ _ _ _
      | exact LeO.none _
      | refine LeO.ite ?_ ?_
      | refine LeO.bind ?_ (fun _ => ?_)
set_option maxHeartbeats 8000000 in
set_option maxRecDepth 100000 in
theorem utf_lead.calls (k : Nat) (a0 : Int) (r1 : Int) (r2 : Int) (r3 : Int) (r4 : Int) (w : World) (h : utf_lead.f k a0 = some (r1, r2, r3, r4)) :
    Calls Tryz.prog 132 #[.int .u8 a0] w fun e w' => e = .returned (.tuple #[.int .i64 r1, .int .i64 r2, .int .u8 r3, .int .u8 r4]) ∧ Drawn0 w w' := by
  have H : (if a0 < 128 then (some (1, wrap64 (a0), 128, 191)) else (if a0 < 194 then (utf_lead.j0 k a0 128 191 true) else (utf_lead.j0 k a0 128 191 (decide (a0 > 244))))) = some (r1, r2, r3, r4) := h
  clear h
  by_cases c2 : a0 < 128
  · rw [if_pos c2] at H
    have c2b0 : decide (a0 < 128) = true := decide_eq_true c2
    clear c2
    simp only [Option.some.injEq, Prod.mk.injEq] at H
    obtain ⟨rfl, rfl, rfl, rfl⟩ := H
    go_enter Tryz.func132, Tryz.ntmps132
    go_wp2
    refine bodyPost_ret (results_list (rs := [.tmp 2, .tmp 3, .tmp 4, .tmp 5]) rfl (by simp) (.tmp (.tmp (.tmp (.tmp .nil))))) rfl ?_
    exact ⟨by first | rfl | (simp; done) | (simp [*]; done), by repeat (first | exact Drawn0.refl _ | apply Drawn0.step)⟩
  · rw [if_neg c2] at H
    have c2b0 : decide (a0 < 128) = false := decide_eq_false c2
    clear c2
    have HC3 := Aside0.mk H
    clear H
    go_enter Tryz.func132, Tryz.ntmps132
    go_upto_region 4 with (fail)
    go_cut [13] (fun v13 wc => ∃ (kq : Nat) (x13_2 : Bool), v13 = .bool x13_2 ∧ Aside0 (utf_lead.j0 kq a0 128 191 x13_2 = some (r1, r2, r3, r4)) ∧ Aside0 (kq ≤ k) ∧ Drawn0 w wc)
    case first =>
      have H := HC3.out
      clear HC3
      by_cases c4 : a0 < 194
      · rw [if_pos c4] at H
        have c4b0 : decide (a0 < 194) = true := decide_eq_true c4
        clear c4
        (first | rw [c4b0] | (simp only [i64_w, i32_w]; rw [c4b0]) | skip)
        have H' := Aside0.mk H
        clear H
        go_wp2
        go_meet
        case rel => exact ⟨_, (true), (by first | rfl | (simp; done) | (simp [*]; done)), H', ⟨by first | omega | exact Nat.le_refl _⟩, by repeat (first | exact Drawn0.refl _ | apply Drawn0.step)⟩
      · rw [if_neg c4] at H
        have c4b0 : decide (a0 < 194) = false := decide_eq_false c4
        clear c4
        (first | rw [c4b0] | (simp only [i64_w, i32_w]; rw [c4b0]) | skip)
        have H' := Aside0.mk H
        clear H
        go_wp2
        go_meet
        case rel => exact ⟨_, (decide (a0 > 244)), (by first | rfl | (simp; done) | (simp [*]; done)), H', ⟨by first | omega | exact Nat.le_refl _⟩, by repeat (first | exact Drawn0.refl _ | apply Drawn0.step)⟩
    case rest =>
      clear HC3
      try clear c2
      try clear c2b0
      try clear p2
      try clear c3
      try clear c4
      try clear c4b0
      obtain ⟨kq, x13_2, rfl, HA, HJ2, ⟨mc2, rfl⟩⟩ := hcut
      cases kq with
      | zero => exact absurd HA.out (by simp [utf_lead.j0])
      | succ kj2 =>
        have H := HA.out
        clear HA
        simp only [utf_lead.j0] at H
        by_cases c5 : x13_2 = true
        · subst c5
          have H1 : (some (0, 0, 128, 191)) = some (r1, r2, r3, r4) := by rw [if_pos rfl] at H; exact H
          clear H
          have H := H1
          clear H1
          simp only [Option.some.injEq, Prod.mk.injEq] at H
          obtain ⟨rfl, rfl, rfl, rfl⟩ := H
          go_wp2
          refine bodyPost_ret (results_list (rs := [.tmp 2, .tmp 3, .tmp 4, .tmp 5]) rfl (by simp) (.tmp (.tmp (.tmp (.tmp .nil))))) rfl ?_
          exact ⟨by first | rfl | (simp; done) | (simp [*]; done), by repeat (first | exact Drawn0.refl _ | apply Drawn0.step)⟩
        · replace c5 := Bool.eq_false_iff.mpr c5
          subst c5
          have H1 : (if a0 < 224 then (some (2, wrap64 (Go.bits .and .u8 a0 31), 128, 191)) else (if a0 = 224 then (some (3, 0, 160, 191)) else (if a0 = 237 then (some (3, 13, 128, 159)) else (if a0 < 240 then (some (3, wrap64 (Go.bits .and .u8 a0 15), 128, 191)) else (if a0 = 240 then (some (4, 0, 144, 191)) else (if a0 = 244 then (some (4, 4, 128, 143)) else (some (4, wrap64 (Go.bits .and .u8 a0 7), 128, 191)))))))) = some (r1, r2, r3, r4) := by rw [if_neg (show ¬ (false = true) by decide)] at H; exact H
          clear H
          have H := H1
          clear H1
          by_cases c6 : a0 < 224
          · rw [if_pos c6] at H
            have c6b0 : decide (a0 < 224) = true := decide_eq_true c6
            clear c6
            simp only [Option.some.injEq, Prod.mk.injEq] at H
            obtain ⟨rfl, rfl, rfl, rfl⟩ := H
            go_wp2
            refine bodyPost_ret (results_list (rs := [.tmp 2, .tmp 3, .tmp 4, .tmp 5]) rfl (by simp) (.tmp (.tmp (.tmp (.tmp .nil))))) rfl ?_
            exact ⟨by first | rfl | (simp; done) | (simp [*]; done), by repeat (first | exact Drawn0.refl _ | apply Drawn0.step)⟩
          · rw [if_neg c6] at H
            have c6b0 : decide (a0 < 224) = false := decide_eq_false c6
            clear c6
            by_cases c7 : a0 = 224
            · rw [if_pos c7] at H
              have c7b0 : (a0 == 224) = true := beq_iff_eq.mpr c7
              have c7b1 : (a0 != 224) = false := bne_eq_false_iff_eq.mpr c7
              clear c7
              simp only [Option.some.injEq, Prod.mk.injEq] at H
              obtain ⟨rfl, rfl, rfl, rfl⟩ := H
              go_wp2
              refine bodyPost_ret (results_list (rs := [.tmp 2, .tmp 3, .tmp 4, .tmp 5]) rfl (by simp) (.tmp (.tmp (.tmp (.tmp .nil))))) rfl ?_
              exact ⟨by first | rfl | (simp; done) | (simp [*]; done), by repeat (first | exact Drawn0.refl _ | apply Drawn0.step)⟩
            · rw [if_neg c7] at H
              have c7b0 : (a0 == 224) = false := beq_eq_false_iff_ne.mpr c7
              have c7b1 : (a0 != 224) = true := bne_iff_ne.mpr c7
              by_cases c8 : a0 = 237
              · rw [if_pos c8] at H
                have c8b0 : (a0 == 237) = true := beq_iff_eq.mpr c8
                have c8b1 : (a0 != 237) = false := bne_eq_false_iff_eq.mpr c8
                clear c8
                simp only [Option.some.injEq, Prod.mk.injEq] at H
                obtain ⟨rfl, rfl, rfl, rfl⟩ := H
                go_wp2
                refine bodyPost_ret (results_list (rs := [.tmp 2, .tmp 3, .tmp 4, .tmp 5]) rfl (by simp) (.tmp (.tmp (.tmp (.tmp .nil))))) rfl ?_
                exact ⟨by first | rfl | (simp; done) | (simp [*]; done), by repeat (first | exact Drawn0.refl _ | apply Drawn0.step)⟩
              · rw [if_neg c8] at H
                have c8b0 : (a0 == 237) = false := beq_eq_false_iff_ne.mpr c8
                have c8b1 : (a0 != 237) = true := bne_iff_ne.mpr c8
                by_cases c9 : a0 < 240
                · rw [if_pos c9] at H
                  have c9b0 : decide (a0 < 240) = true := decide_eq_true c9
                  clear c9
                  simp only [Option.some.injEq, Prod.mk.injEq] at H
                  obtain ⟨rfl, rfl, rfl, rfl⟩ := H
                  go_wp2
                  refine bodyPost_ret (results_list (rs := [.tmp 2, .tmp 3, .tmp 4, .tmp 5]) rfl (by simp) (.tmp (.tmp (.tmp (.tmp .nil))))) rfl ?_
                  exact ⟨by first | rfl | (simp; done) | (simp [*]; done), by repeat (first | exact Drawn0.refl _ | apply Drawn0.step)⟩
                · rw [if_neg c9] at H
                  have c9b0 : decide (a0 < 240) = false := decide_eq_false c9
                  clear c9
                  by_cases c10 : a0 = 240
                  · rw [if_pos c10] at H
                    have c10b0 : (a0 == 240) = true := beq_iff_eq.mpr c10
                    have c10b1 : (a0 != 240) = false := bne_eq_false_iff_eq.mpr c10
                    clear c10
                    simp only [Option.some.injEq, Prod.mk.injEq] at H
                    obtain ⟨rfl, rfl, rfl, rfl⟩ := H
                    go_wp2
                    refine bodyPost_ret (results_list (rs := [.tmp 2, .tmp 3, .tmp 4, .tmp 5]) rfl (by simp) (.tmp (.tmp (.tmp (.tmp .nil))))) rfl ?_
                    exact ⟨by first | rfl | (simp; done) | (simp [*]; done), by repeat (first | exact Drawn0.refl _ | apply Drawn0.step)⟩
                  · rw [if_neg c10] at H
                    have c10b0 : (a0 == 240) = false := beq_eq_false_iff_ne.mpr c10
                    have c10b1 : (a0 != 240) = true := bne_iff_ne.mpr c10
                    by_cases c11 : a0 = 244
                    · rw [if_pos c11] at H
                      have c11b0 : (a0 == 244) = true := beq_iff_eq.mpr c11
                      have c11b1 : (a0 != 244) = false := bne_eq_false_iff_eq.mpr c11
                      clear c11
                      simp only [Option.some.injEq, Prod.mk.injEq] at H
                      obtain ⟨rfl, rfl, rfl, rfl⟩ := H
                      go_wp2
                      refine bodyPost_ret (results_list (rs := [.tmp 2, .tmp 3, .tmp 4, .tmp 5]) rfl (by simp) (.tmp (.tmp (.tmp (.tmp .nil))))) rfl ?_
                      exact ⟨by first | rfl | (simp; done) | (simp [*]; done), by repeat (first | exact Drawn0.refl _ | apply Drawn0.step)⟩
                    · rw [if_neg c11] at H
                      have c11b0 : (a0 == 244) = false := beq_eq_false_iff_ne.mpr c11
                      have c11b1 : (a0 != 244) = true := bne_iff_ne.mpr c11
                      simp only [Option.some.injEq, Prod.mk.injEq] at H
                      obtain ⟨rfl, rfl, rfl, rfl⟩ := H
                      go_wp2
                      refine bodyPost_ret (results_list (rs := [.tmp 2, .tmp 3, .tmp 4, .tmp 5]) rfl (by simp) (.tmp (.tmp (.tmp (.tmp .nil))))) rfl ?_
                      exact ⟨by first | rfl | (simp; done) | (simp [*]; done), by repeat (first | exact Drawn0.refl _ | apply Drawn0.step)⟩


end Go.Proofs.YtnfjgopcenpblaaGreatDoor.T

/- utf.One (layer 1): the walk through its labels, and the Lean function of the same answers; no condition of its own. -/
namespace Go
/-- By a goto to label l: J l; else Q. -/
def Exit.jumps (J : Nat → Act → World → Prop) (Q : Exit → Act → World → Prop) : Exit → Act → World → Prop
  | .goto l, a, w => J l a w
  | e, a, w => Q e a w
section
variable {P : Program} {a : Act} {w : World} {Q : Exit → Act → World → Prop}
@[go_sem] theorem Exit.jumps_ret {J : Nat → Act → World → Prop} : Exit.jumps J Q .ret a w = Q .ret a w := rfl
@[go_sem] theorem Exit.jumps_normal {J : Nat → Act → World → Prop} : Exit.jumps J Q .normal a w = Q .normal a w := rfl
@[go_sem] theorem Exit.jumps_panic {J : Nat → Act → World → Prop} (ch : List PanicEntry) : Exit.jumps J Q (.panic ch) a w = Q (.panic ch) a w := rfl
@[go_sem] theorem Exit.jumps_goto {J : Nat → Act → World → Prop} (l : Nat) : Exit.jumps J Q (.goto l) a w = J l a w := rfl
/-- A scope with several labels: what holds at a jump to each, and a measure that every pass lowers. -/
theorem wp_scope_labels {c : Code} (J : Nat → Act → World → Prop) (μ : Nat → Act → World → Nat)
    (first : c.wp P (Exit.jumps J Q) a w)
    (pass : ∀ l a w, J l a w → ∃ rest, findLabel c l = some rest ∧ rest.wp P (Exit.jumps (fun l' a' w' => J l' a' w' ∧ μ l' a' w' < μ l a w) Q) a w) : (Code.scope c).wp P Q a w := by
  intro b k cs
  have key : ∀ n l a w rest, findLabel c l = some rest → μ l a w = n → J l a w → ∃ e a' w', Q e a' w' ∧ Arrives P (lone (b.at a (.code rest :: .inScope c :: k)) cs w) b k cs e a' w' := by
    intro n
    induction n using Nat.strongRecOn with
    | _ n ih =>
      intro l a w rest hf hn hJ
      obtain ⟨rest', hf', hp⟩ := pass l a w hJ
      rw [hf] at hf'
      injection hf' with hf'
      subst hf'
      obtain ⟨e, a₁, w₁, hq, harr⟩ := hp b (.inScope c :: k) cs
      cases e with
      | normal => exact ⟨.normal, a₁, w₁, hq, Steps.trans harr (.one step_inScope)⟩
      | exit id => exact ⟨.exit id, a₁, w₁, hq, fun k' hk => harr k' (by simp [exitTo, hk])⟩
      | goto l' =>
        obtain ⟨hJ', hlt⟩ := hq
        obtain ⟨r', hr', _⟩ := pass l' a₁ w₁ hJ'
        obtain ⟨e₂, a₂, w₂, hq₂, harr₂⟩ := ih _ (by omega) l' a₁ w₁ r' hr' rfl hJ'
        have hg : gotoIn l' (.inScope c :: k) = some (.code r' :: .inScope c :: k) := by simp [gotoIn, hr']
        exact ⟨e₂, a₂, w₂, hq₂, .of_steps (harr _ hg) harr₂⟩
      | ret => exact ⟨_, a₁, w₁, hq, harr⟩
      | panic ch => exact ⟨_, a₁, w₁, hq, harr⟩
      | outgrown => exact ⟨_, a₁, w₁, hq, harr⟩
  obtain ⟨e, a₁, w₁, hq, harr⟩ := first b (.inScope c :: k) cs
  cases e with
  | normal => exact ⟨.normal, a₁, w₁, hq, .head step_scope (Steps.trans harr (.one step_inScope))⟩
  | exit id => exact ⟨.exit id, a₁, w₁, hq, fun k' hk => .head step_scope (harr k' (by simp [exitTo, hk]))⟩
  | goto l' =>
    obtain ⟨r', hr', _⟩ := pass l' a₁ w₁ hq
    obtain ⟨e₂, a₂, w₂, hq₂, harr₂⟩ := key _ l' a₁ w₁ r' hr' rfl hq
    have hg : gotoIn l' (.inScope c :: k) = some (.code r' :: .inScope c :: k) := by simp [gotoIn, hr']
    exact ⟨e₂, a₂, w₂, hq₂, .of_steps (.head step_scope (harr _ hg)) harr₂⟩
  | ret => exact ⟨_, a₁, w₁, hq, .of_steps (.one step_scope) harr⟩
  | panic ch => exact ⟨_, a₁, w₁, hq, .of_steps (.one step_scope) harr⟩
  | outgrown => exact ⟨_, a₁, w₁, hq, .of_steps (.one step_scope) harr⟩
end
end Go
namespace Go.Proofs.YtnfjgopcenpblaaGreatDoor.T
open Go.RowKit Go.Proofs.YtnfjgopcenpblaaGreatDoorW.PrintWords Go.Proofs.YtnfjgopcenpblaaGreatDoorW.PrintLast Go.Proofs.YtnfjgopcenpblaaGreatDoorW.PrintMore Go.Proofs.YtnfjgopcenpblaaGreatDoor
set_option linter.unusedVariables false
/-- what a first byte wants -/
def leadF (c : Int) : Int × Int × Int × Int :=
  if c < 128 then (1, c, 128, 191) else if c < 194 ∨ 244 < c then (0, 0, 128, 191) else if c < 224 then (2, c - 192, 128, 191)
  else if c = 224 then (3, 0, 160, 191) else if c = 237 then (3, 13, 128, 159) else if c < 240 then (3, c - 224, 128, 191)
  else if c = 240 then (4, 0, 144, 191) else if c = 244 then (4, 4, 128, 143) else (4, c - 240, 128, 191)
/-- from byte k on -/
def oneGo (l : List Int) (z : Int) : Nat → Nat → Int → Int → Int → Int × Int × Int
  | 0, _, _, _, _ => (0, 0, 0)
  | f + 1, k, s, lo, hi =>
    if (k : Int) = z then (s, k, 0) else if k = l.length then (0, l.length, 2)
    else if l.getD k 0 < lo ∨ hi < l.getD k 0 then (0, k, 1) else oneGo l z f (k + 1) (s * 64 + l.getD k 0 % 64) 128 191
/-- the scalar that bytes begin with -/
def oneF (l : List Int) : Int × Int × Int :=
  if l.length = 0 then (0, 0, 2) else if (leadF (l.getD 0 0)).1 = 0 then (0, 1, 1)
  else oneGo l (leadF (l.getD 0 0)).1 5 1 (leadF (l.getD 0 0)).2.1 (leadF (l.getD 0 0)).2.2.1 (leadF (l.getD 0 0)).2.2.2
theorem lead_is (c : Int) (h0 : 0 ≤ c) (h1 : c < 256) : utf_lead.f 3 c = some ((leadF c).1, (leadF c).2.1, (leadF c).2.2.1, (leadF c).2.2.2) := by
  have H : ∀ n : Nat, n < 256 → utf_lead.f 3 (n : Int) = some ((leadF n).1, (leadF n).2.1, (leadF n).2.2.1, (leadF n).2.2.2) := by decide +kernel
  obtain ⟨n, rfl⟩ := Int.eq_ofNat_of_zero_le h0
  exact H n (by omega)
theorem lead_bd (c : Int) (h0 : 0 ≤ c) (h1 : c < 256) : 0 ≤ (leadF c).1 ∧ (leadF c).1 ≤ 4 ∧ 0 ≤ (leadF c).2.1 ∧ (leadF c).2.1 < 128 ∧ 128 ≤ (leadF c).2.2.1 ∧ (leadF c).2.2.2 ≤ 191 := by
  have H : ∀ n : Nat, n < 256 → 0 ≤ (leadF n).1 ∧ (leadF n).1 ≤ 4 ∧ 0 ≤ (leadF n).2.1 ∧ (leadF n).2.1 < 128 ∧ 128 ≤ (leadF n).2.2.1 ∧ (leadF n).2.2.2 ≤ 191 := by decide +kernel
  obtain ⟨n, rfl⟩ := Int.eq_ofNat_of_zero_le h0
  exact H n (by omega)
theorem lead_c (c : Int) (h0 : 0 ≤ c) (h1 : c < 256) (w : World) :
    Calls Tryz.prog 132 #[.int .u8 c] w fun e w' => e = .returned (.tuple #[.int .i64 (leadF c).1, .int .i64 (leadF c).2.1, .int .u8 (leadF c).2.2.1, .int .u8 (leadF c).2.2.2]) ∧ ∃ n, w' = w.drewN n :=
  (utf_lead.calls 3 c _ _ _ _ w (lead_is c h0 h1)).mono fun _ _ ⟨a, b⟩ => ⟨a, b.out⟩
theorem go_end {l : List Int} {z s lo hi : Int} {f k : Nat} (h : (k : Int) = z) : oneGo l z (f + 1) k s lo hi = (s, (k : Int), 0) := by simp only [oneGo]; rw [if_pos h]
theorem go_short {l : List Int} {z s lo hi : Int} {f k : Nat} (h : ¬ (k : Int) = z) (h2 : k = l.length) : oneGo l z (f + 1) k s lo hi = (0, (l.length : Int), 2) := by simp only [oneGo]; rw [if_neg h, if_pos h2]
theorem go_bad {l : List Int} {z s lo hi : Int} {f k : Nat} (h : ¬ (k : Int) = z) (h2 : ¬ k = l.length) (h3 : l.getD k 0 < lo ∨ hi < l.getD k 0) : oneGo l z (f + 1) k s lo hi = (0, (k : Int), 1) := by simp only [oneGo]; rw [if_neg h, if_neg h2, if_pos h3]
theorem go_on {l : List Int} {z s lo hi : Int} {f k : Nat} (h : ¬ (k : Int) = z) (h2 : ¬ k = l.length) (h3 : ¬ (l.getD k 0 < lo ∨ hi < l.getD k 0)) : oneGo l z (f + 1) k s lo hi = oneGo l z f (k + 1) (s * 64 + l.getD k 0 % 64) 128 191 := by
  conv => lhs; unfold oneGo
  rw [if_neg h, if_neg h2, if_neg h3]
theorem i64_or6 {x y : Int} (hx₀ : 0 ≤ x) (hx : x % 64 = 0) (hx₁ : x < 4611686018427387904) (h₀ : 0 ≤ y) (h₁ : y < 64) : bits .or .i64 x y = x + y :=
  bits_join .i64 62 (by decide) (fun n h0 h1 => IntWalk.i64_in n (by omega)) 6 x y hx₀ hx hx₁ h₀ h₁ (by omega)
theorem pow_bd {k : Nat} (h : k ≤ 3) : (64 : Int) ^ k ≤ 262144 := by
  rcases k with _ | _ | _ | _ | k <;> first | decide | omega
def JOne (A : Option Addr) (l : List Int) (c : Nat) (w : World) : Nat → Act → World → Prop
  | 0, a', w' => ∃ (u1 u2 u3 u4 u5 u6 u7 u8 u9 u10 u11 u12 u13 u14 u15 u16 u17 u18 u19 u20 u21 u22 u23 u24 u25 u26 u27 u28 u29 u30 u31 u32 u33 u34 u35 u36 u37 u38 u39 u40 u41 u42 u43 u44 u45 u46 u47 u48 u49 u50 u51 u52 u53 u54 u55 u56 u57 u58 u59 u60 : Value), a' = { tmps := #[.slice A l.length c, u1, u2, u3, u4, u5, u6, u7, u8, u9, u10, u11, u12, u13, u14, u15, u16, u17, u18, u19, u20, u21, u22, u23, u24, u25, u26, u27, u28, u29, u30, u31, u32, u33, u34, u35, u36, u37, u38, u39, u40, u41, u42, u43, u44, u45, u46, u47, u48, u49, u50, u51, u52, u53, u54, u55, u56, u57, u58, u59, u60], defers := [] } ∧ oneF l = (0, (l.length : Int), 2) ∧ ∃ n, w' = w.drewN n
  | 1, a', w' => ∃ k : Nat, ∃ (u1 u2 u3 u4 u6 u7 u8 u9 u10 u11 u12 u13 u14 u15 u16 u17 u18 u19 u20 u21 u22 u23 u24 u25 u26 u27 u28 u29 u30 u31 u32 u33 u34 u35 u36 u37 u38 u39 u40 u41 u42 u43 u44 u45 u46 u47 u48 u49 u50 u51 u52 u53 u54 u55 u56 u57 u58 u59 u60 : Value), a' = { tmps := #[.slice A l.length c, u1, u2, u3, u4, .int .i64 k, u6, u7, u8, u9, u10, u11, u12, u13, u14, u15, u16, u17, u18, u19, u20, u21, u22, u23, u24, u25, u26, u27, u28, u29, u30, u31, u32, u33, u34, u35, u36, u37, u38, u39, u40, u41, u42, u43, u44, u45, u46, u47, u48, u49, u50, u51, u52, u53, u54, u55, u56, u57, u58, u59, u60], defers := [] } ∧ oneF l = (0, (k : Int), 1) ∧ ∃ n, w' = w.drewN n
  | 2, a', w' => ∃ (k : Nat) (s z lo hi : Int), ∃ (u1 u2 u3 u4 u10 u11 u12 u13 u14 u15 u16 u17 u18 u19 u20 u21 u22 u23 u24 u25 u26 u27 u28 u29 u30 u31 u32 u33 u34 u35 u36 u37 u38 u39 u40 u41 u42 u43 u44 u45 u46 u47 u48 u49 u50 u51 u52 u53 u54 u55 u56 u57 u58 u59 u60 : Value), a' = { tmps := #[.slice A l.length c, u1, u2, u3, u4, .int .i64 k, .int .i64 s, .int .i64 z, .int .u8 lo, .int .u8 hi, u10, u11, u12, u13, u14, u15, u16, u17, u18, u19, u20, u21, u22, u23, u24, u25, u26, u27, u28, u29, u30, u31, u32, u33, u34, u35, u36, u37, u38, u39, u40, u41, u42, u43, u44, u45, u46, u47, u48, u49, u50, u51, u52, u53, u54, u55, u56, u57, u58, u59, u60], defers := [] } ∧ oneF l = oneGo l z (6 - k) k s lo hi ∧ (1 ≤ k ∧ k ≤ l.length ∧ (k : Int) ≤ z ∧ z ≤ 4 ∧ 0 ≤ s ∧ s < 128 * 64 ^ (k - 1) ∧ 0 ≤ lo ∧ hi < 256) ∧ ∃ n, w' = w.drewN n
  | _, _, _ => False
def muOne (l : Nat) (a : Act) (_ : World) : Nat := if l = 2 then 10 - (intOf (a.tmps.getD 5 undef)).toNat else 0
def Bytes (l : List Int) : Prop := ∀ n ∈ l, 0 ≤ n ∧ n < 256
theorem Bytes.at {l : List Int} (h : Bytes l) (i : Nat) : 0 ≤ l.getD i 0 ∧ l.getD i 0 < 256 := by
  by_cases hi : i < l.length
  · have : l.getD i 0 = l[i] := by simp [hi]
    rw [this]; exact h _ (List.getElem_mem hi)
  · have : l.getD i 0 = 0 := by simp [List.getD_eq_getElem?_getD, List.getElem?_eq_none (Nat.le_of_not_lt hi)]
    rw [this]; omega
set_option maxRecDepth 100000 in
set_option maxHeartbeats 4000000 in
theorem one_c (A : Option Addr) (c : Nat) (l : List Int) (w : World) (hr : RowAt .u8 w A l) (hB : Bytes l) (hs : l.length ≤ 9223372036854775807) :
    Calls Tryz.prog 131 #[.slice A l.length c] w fun e w' => e = .returned (.tuple #[.int .i64 (oneF l).1, .int .i64 (oneF l).2.1, .int .i64 (oneF l).2.2]) ∧ ∃ n, w' = w.drewN n := by
  go_enter Tryz.func131, Tryz.ntmps131
  go_wp2
  refine wp_scope_labels (JOne A l c w) muOne ?_ ?_
  · by_cases h0 : l.length = 0
    · have e0 : ((l.length : Int) == 0) = true := beq_iff_eq.2 (by omega)
      have HF : Hid (oneF l = (0, (l.length : Int), 2)) := by show _ = _; unfold oneF; rw [if_pos h0, h0]; rfl
      clear h0
      go_wp2
      go_step3
      exact ⟨_, _, _, _, _, _, _, _, _, _, _, _, _, _, _, _, _, _, _, _, _, _, _, _, _, _, _, _, _, _, _, _, _, _, _, _, _, _, _, _, _, _, _, _, _, _, _, _, _, _, _, _, _, _, _, _, _, _, _, _, rfl, HF.out, 0, rfl⟩
    · have e0 : ((l.length : Int) == 0) = false := beq_eq_false_iff_ne.2 (by omega)
      obtain ⟨b, off, rfl, hc⟩ := hr.cell (by intro h; simp [h] at h0)
      have c0 := hc 0 (by omega)
      rw [Nat.add_zero] at c0
      have hl0 : 0 < l.length := by omega
      obtain ⟨x0, x1⟩ := hB.at 0
      have HL := Lib.hid (fun W => lead_c (l.getD 0 0) x0 x1 W)
      obtain ⟨p1, p2, p3, p4, p5, p6⟩ := lead_bd (l.getD 0 0) x0 x1
      by_cases hz : (leadF (l.getD 0 0)).1 = 0
      · have HF : Hid (oneF l = (0, 1, 1)) := by show _ = _; unfold oneF; rw [if_neg h0, if_pos hz]
        have e1 : ((leadF (l.getD 0 0)).1 == 0) = true := beq_iff_eq.2 hz
        clear hc hz h0 p1 p2 p3 p4 p5 p6
        generalize l.getD 0 0 = y at *
        go_wp2_with (go_at_call 132; refine (HL.out _).mono ?_; rintro e w' ⟨rfl, n, rfl⟩)
        go_step3
        exact ⟨1, _, _, _, _, _, _, _, _, _, _, _, _, _, _, _, _, _, _, _, _, _, _, _, _, _, _, _, _, _, _, _, _, _, _, _, _, _, _, _, _, _, _, _, _, _, _, _, _, _, _, _, _, _, _, _, _, _, _, _, rfl, HF.out, _, rfl⟩
      · have HF : Hid (oneF l = oneGo l (leadF (l.getD 0 0)).1 (6 - 1) 1 (leadF (l.getD 0 0)).2.1 (leadF (l.getD 0 0)).2.2.1 (leadF (l.getD 0 0)).2.2.2) := by show _ = _; unfold oneF; rw [if_neg h0, if_neg hz]
        have e1 : ((leadF (l.getD 0 0)).1 == 0) = false := beq_eq_false_iff_ne.2 hz
        have q1 : 1 ≤ (leadF (l.getD 0 0)).1 := by omega
        clear hz h0 p1
        have HC := Lib.hid hc
        clear hc
        generalize l.getD 0 0 = y at *
        generalize (leadF y).1 = z at *
        generalize (leadF y).2.1 = s at *
        generalize (leadF y).2.2.1 = lo at *
        generalize (leadF y).2.2.2 = hi at *
        by_cases hk : ((1 : Nat) : Int) = z
        · have e2 : ((1 : Int) == z) = true := beq_iff_eq.2 (by omega)
          have HG := Lib.hid (HF.out.trans (go_end hk))
          clear hk
          go_wp2_with (first | (go_at_call 132; refine (HL.out _).mono ?_; rintro e w' ⟨rfl, n, rfl⟩) | go_step3)
          try rw [Exit.jumps_ret]
          go_ret3
          exact ⟨by rw [HG.out]; rfl, _, rfl⟩
        · have e2 : ((1 : Int) == z) = false := beq_eq_false_iff_ne.2 (by omega)
          have hkz : ((1 : Nat) : Int) < z := by omega
          by_cases hl : 1 = l.length
          · have e3 : ((1 : Int) == (l.length : Int)) = true := beq_iff_eq.2 (by omega)
            have HG := Lib.hid (HF.out.trans (go_short hk hl))
            clear hk hl
            go_wp2_with (first | (go_at_call 132; refine (HL.out _).mono ?_; rintro e w' ⟨rfl, n, rfl⟩) | go_step3)
            exact ⟨_, _, _, _, _, _, _, _, _, _, _, _, _, _, _, _, _, _, _, _, _, _, _, _, _, _, _, _, _, _, _, _, _, _, _, _, _, _, _, _, _, _, _, _, _, _, _, _, _, _, _, _, _, _, _, _, _, _, _, _, rfl, HG.out, _, rfl⟩
          · have e3 : ((1 : Int) == (l.length : Int)) = false := beq_eq_false_iff_ne.2 (by omega)
            have hkl : 1 < l.length := by omega
            have ck := HC.out 1 hkl
            obtain ⟨y0, y1⟩ := hB.at 1
            by_cases hb : l.getD 1 0 < lo ∨ hi < l.getD 1 0
            · have HG := Lib.hid (HF.out.trans (go_bad hk hl hb))
              have HB := Lib.hid hb
              clear hk hl hb
              generalize l.getD 1 0 = x at *
              by_cases hb1 : x < lo
              · go_wp2_with (first | (go_at_call 132; refine (HL.out _).mono ?_; rintro e w' ⟨rfl, n, rfl⟩) | go_step3)
                exact ⟨1, _, _, _, _, _, _, _, _, _, _, _, _, _, _, _, _, _, _, _, _, _, _, _, _, _, _, _, _, _, _, _, _, _, _, _, _, _, _, _, _, _, _, _, _, _, _, _, _, _, _, _, _, _, _, _, _, _, _, _, rfl, HG.out, _, rfl⟩
              · have hb2 : hi < x := by have := HB.out; omega
                go_wp2_with (first | (go_at_call 132; refine (HL.out _).mono ?_; rintro e w' ⟨rfl, n, rfl⟩) | go_step3)
                exact ⟨1, _, _, _, _, _, _, _, _, _, _, _, _, _, _, _, _, _, _, _, _, _, _, _, _, _, _, _, _, _, _, _, _, _, _, _, _, _, _, _, _, _, _, _, _, _, _, _, _, _, _, _, _, _, _, _, _, _, _, _, rfl, HG.out, _, rfl⟩
            · have HG := Lib.hid (HF.out.trans (go_on (f := 5 - 1) hk hl hb))
              have hb1 : ¬ l.getD 1 0 < lo := fun h => hb (.inl h)
              have hb2 : ¬ hi < l.getD 1 0 := fun h => hb (.inr h)
              clear hk hl hb
              generalize l.getD 1 0 = x at *
              have hor : Hid (bits .or .i64 (s * 64) (x % 64) = s * 64 + x % 64) := i64_or6 (by omega) (by omega) (by omega) (by omega) (by omega)
              have hsb : Hid (s * 64 + x % 64 < 128 * 64 ^ (2 - 1)) := by show _ < _; omega
              go_wp2_with (first | (go_at_call 132; refine (HL.out _).mono ?_; rintro e w' ⟨rfl, n, rfl⟩) | go_step3)
              rw [hor.out]
              exact ⟨2, _, _, _, _, _, _, _, _, _, _, _, _, _, _, _, _, _, _, _, _, _, _, _, _, _, _, _, _, _, _, _, _, _, _, _, _, _, _, _, _, _, _, _, _, _, _, _, _, _, _, _, _, _, _, _, _, _, _, _, rfl, HG.out, ⟨by omega, by omega, by omega, by omega, by omega, hsb.out, by omega, by omega⟩, _, rfl⟩
  · intro l' a' w' hJ
    match l', hJ with
    | 0, hJ =>
      obtain ⟨u1, u2, u3, u4, u5, u6, u7, u8, u9, u10, u11, u12, u13, u14, u15, u16, u17, u18, u19, u20, u21, u22, u23, u24, u25, u26, u27, u28, u29, u30, u31, u32, u33, u34, u35, u36, u37, u38, u39, u40, u41, u42, u43, u44, u45, u46, u47, u48, u49, u50, u51, u52, u53, u54, u55, u56, u57, u58, u59, u60, rfl, hF, n, rfl⟩ := hJ
      refine ⟨_, rfl, ?_⟩
      have HF := Lib.hid hF
      clear hF
      go_wp2
      try rw [Exit.jumps_ret]
      go_ret3
      exact ⟨by rw [HF.out]; rfl, _, rfl⟩
    | 1, hJ =>
      obtain ⟨k, u1, u2, u3, u4, u6, u7, u8, u9, u10, u11, u12, u13, u14, u15, u16, u17, u18, u19, u20, u21, u22, u23, u24, u25, u26, u27, u28, u29, u30, u31, u32, u33, u34, u35, u36, u37, u38, u39, u40, u41, u42, u43, u44, u45, u46, u47, u48, u49, u50, u51, u52, u53, u54, u55, u56, u57, u58, u59, u60, rfl, hF, n, rfl⟩ := hJ
      refine ⟨_, rfl, ?_⟩
      have HF := Lib.hid hF
      clear hF
      go_wp2_with go_step3
      try rw [Exit.jumps_ret]
      go_ret3
      exact ⟨by rw [HF.out]; rfl, _, rfl⟩
    | 2, hJ =>
      obtain ⟨k, s, z, lo, hi, u1, u2, u3, u4, u10, u11, u12, u13, u14, u15, u16, u17, u18, u19, u20, u21, u22, u23, u24, u25, u26, u27, u28, u29, u30, u31, u32, u33, u34, u35, u36, u37, u38, u39, u40, u41, u42, u43, u44, u45, u46, u47, u48, u49, u50, u51, u52, u53, u54, u55, u56, u57, u58, u59, u60, rfl, hF, ⟨g1, g2, g3, g4, g5, g6, g7, g8⟩, n, rfl⟩ := hJ
      refine ⟨_, rfl, ?_⟩
      have HF := Lib.hid hF
      clear hF
      obtain ⟨b, off, rfl, hc⟩ := hr.cell (by intro h; simp [h] at g2; omega)
      have HC := Lib.hid hc
      clear hc
      by_cases hk : (k : Int) = z
      · have e2 : ((k : Int) == z) = true := beq_iff_eq.2 (by omega)
        have HG : Hid (oneF l = (s, (k : Int), 0)) := by
          have := HF.out
          rw [show 6 - k = (5 - k) + 1 by omega, go_end hk] at this
          exact this
        clear hk
        go_wp2_with go_step3
        try rw [Exit.jumps_ret]
        go_ret3
        exact ⟨by rw [HG.out]; rfl, _, rfl⟩
      · have e2 : ((k : Int) == z) = false := beq_eq_false_iff_ne.2 (by omega)
        have hkz : (k : Int) < z := by omega
        by_cases hl : k = l.length
        · have e3 : ((k : Int) == (l.length : Int)) = true := beq_iff_eq.2 (by omega)
          have HG : Hid (oneF l = (0, (l.length : Int), 2)) := by
            have := HF.out
            rw [show 6 - k = (5 - k) + 1 by omega, go_short hk hl] at this
            exact this
          clear hk hl
          go_wp2_with go_step3
          exact ⟨⟨_, _, _, _, _, _, _, _, _, _, _, _, _, _, _, _, _, _, _, _, _, _, _, _, _, _, _, _, _, _, _, _, _, _, _, _, _, _, _, _, _, _, _, _, _, _, _, _, _, _, _, _, _, _, _, _, _, _, _, _, rfl, HG.out, _, rfl⟩, by simp [muOne, intOf]; omega⟩
        · have e3 : ((k : Int) == (l.length : Int)) = false := beq_eq_false_iff_ne.2 (by omega)
          have hkl : k < l.length := by omega
          have hkl2 : (k : Int) < (l.length : Int) := by omega
          have ck := HC.out k hkl
          obtain ⟨y0, y1⟩ := hB.at k
          by_cases hb : l.getD k 0 < lo ∨ hi < l.getD k 0
          · have HG : Hid (oneF l = (0, (k : Int), 1)) := by
              have := HF.out
              rw [show 6 - k = (5 - k) + 1 by omega, go_bad hk hl hb] at this
              exact this
            have HB := Lib.hid hb
            clear hk hl hb
            generalize l.getD k 0 = x at *
            by_cases hb1 : x < lo
            · go_wp2_with go_step3
              exact ⟨⟨k, _, _, _, _, _, _, _, _, _, _, _, _, _, _, _, _, _, _, _, _, _, _, _, _, _, _, _, _, _, _, _, _, _, _, _, _, _, _, _, _, _, _, _, _, _, _, _, _, _, _, _, _, _, _, _, _, _, _, _, rfl, HG.out, _, rfl⟩, by simp [muOne, intOf]; omega⟩
            · have hb2 : hi < x := by have := HB.out; omega
              go_wp2_with go_step3
              exact ⟨⟨k, _, _, _, _, _, _, _, _, _, _, _, _, _, _, _, _, _, _, _, _, _, _, _, _, _, _, _, _, _, _, _, _, _, _, _, _, _, _, _, _, _, _, _, _, _, _, _, _, _, _, _, _, _, _, _, _, _, _, _, rfl, HG.out, _, rfl⟩, by simp [muOne, intOf]; omega⟩
          · have HG : Hid (oneF l = oneGo l z (6 - (k + 1)) (k + 1) (s * 64 + l.getD k 0 % 64) 128 191) := by
              have := HF.out
              rw [show 6 - k = (5 - k) + 1 by omega, go_on hk hl hb] at this
              rw [show 6 - (k + 1) = 5 - k by omega]
              exact this
            have hb1 : ¬ l.getD k 0 < lo := fun h => hb (.inl h)
            have hb2 : ¬ hi < l.getD k 0 := fun h => hb (.inr h)
            clear hk hl hb
            generalize l.getD k 0 = x at *
            have hsb : s * 64 + x % 64 < 128 * 64 ^ (k + 1 - 1) := by
              have e : (64 : Int) ^ (k + 1 - 1) = 64 ^ (k - 1) * 64 := by rw [show k + 1 - 1 = (k - 1) + 1 by omega, Int.pow_succ]
              rw [e]; omega
            have hpb := pow_bd (k := k - 1) (by omega)
            have hs62 : s < 33554432 := by omega
            have hor : Hid (bits .or .i64 (s * 64) (x % 64) = s * 64 + x % 64) := i64_or6 (by omega) (by omega) (by omega) (by omega) (by omega)
            have HSB := Lib.hid hsb
            clear hsb hpb g6
            go_wp2_with go_step3
            rw [hor.out]
            exact ⟨⟨k + 1, _, _, _, _, _, _, _, _, _, _, _, _, _, _, _, _, _, _, _, _, _, _, _, _, _, _, _, _, _, _, _, _, _, _, _, _, _, _, _, _, _, _, _, _, _, _, _, _, _, _, _, _, _, _, _, _, _, _, _, rfl, HG.out, ⟨by omega, by omega, by omega, by omega, by omega, HSB.out, by omega, by omega⟩, _, rfl⟩, by simp [muOne, intOf]; omega⟩
    | (n + 3), hJ => exact hJ.elim
theorem row_of_C {k : IntKind} {w : World} {A : Option Addr} {xs : List Int} (h : Kd.C (Kd.int k) w A xs.length xs) : RowAt k w A xs := by
  obtain ⟨_, _, h⟩ := h
  by_cases h0 : xs = []
  · exact .inl h0
  · have hp : 0 < xs.length := List.length_pos_iff.2 h0
    obtain ⟨ad, rfl, hc⟩ := h hp
    have hcell : ∀ i, i < xs.length → w.cell? (ad.add i) = some (.int k (xs.getD i 0)) := by
      intro i hi
      obtain ⟨c, _, hk, hu⟩ := hc i xs[i] (by simp [hi])
      have hk' : c = [.int k xs[i]] := hk
      subst hk'
      have := hu 0 _ rfl
      simpa [Kd.int, Kd.scalar, hi] using this
    obtain ⟨b, off, rfl, hcc⟩ := ints_at hcell hp
    exact .inr ⟨b, off, rfl, hcc⟩
theorem C_of_row {k : IntKind} {w : World} {A : Option Addr} {xs : List Int} (h : RowAt k w A xs) (hs : xs.length ≤ 9223372036854775807) : Kd.C (Kd.int k) w A xs.length xs := by
  refine ⟨rfl, hs, fun hp => ?_⟩
  rcases h with h | ⟨b, off, rfl, hc⟩
  · subst h; simp at hp
  · refine ⟨_, rfl, fun j p hj => ⟨[.int k p], rfl, rfl, fun i u hu => ?_⟩⟩
    have hjl : j < xs.length := by
      by_cases hx : j < xs.length
      · exact hx
      · rw [List.getElem?_eq_none (by omega)] at hj; cases hj
    rcases i with _ | i
    · simp at hu
      subst hu
      have hcj := hc j hjl
      have e : xs.getD j 0 = p := by simp [hj]
      rw [e] at hcj
      have e2 : (Kd.int k).sz = 1 := rfl
      rw [e2, Nat.mul_one, Nat.add_zero, Go.WideShapes.add_plain]
      exact hcj
    · simp at hu
def isBytes (l : List Int) : Bool := l.all fun n => decide (0 ≤ n) && decide (n < 256)
theorem bytes_of_is {l : List Int} (h : isBytes l = true) : Bytes l := fun n hn => by
  have := List.all_eq_true.1 h n hn
  simpa using this
theorem is_of_bytes {l : List Int} (h : Bytes l) : isBytes l = true := List.all_eq_true.2 fun n hn => by
  have := h n hn
  simpa using this
/-- the answers of utf.One, of bytes -/
def utf_One.f (l0 : List Int) : Option (Int × Int × Int) := if isBytes l0 = true then some (oneF l0) else none
theorem utf_One.of {l0 : List Int} (h : Bytes l0) : utf_One.f l0 = some (oneF l0) := by unfold utf_One.f; rw [if_pos (is_of_bytes h)]
theorem utf_One.calls (A0 : Option Addr) (c0 : Nat) (l0 : List Int) (r1 : Int) (r2 : Int) (r3 : Int) (w : World) (hr0 : Kd.C (Kd.int .u8) w A0 l0.length l0) (hc0 : l0.length ≤ c0) (h : utf_One.f l0 = some (r1, r2, r3)) :
    Calls Tryz.prog 131 #[.slice A0 l0.length c0] w fun e w' => e = .returned (.tuple #[.int .i64 r1, .int .i64 r2, .int .i64 r3]) ∧ Drawn0 w w' := by
  unfold utf_One.f at h
  by_cases hb : isBytes l0 = true
  · rw [if_pos hb] at h
    injection h with h
    refine (one_c A0 c0 l0 w (row_of_C hr0) (bytes_of_is hb) hr0.2.1).mono fun e w' ⟨he, n, hw⟩ => ⟨?_, ⟨n, hw⟩⟩
    rw [he, h]
  · rw [if_neg hb] at h; cases h
end Go.Proofs.YtnfjgopcenpblaaGreatDoor.T
