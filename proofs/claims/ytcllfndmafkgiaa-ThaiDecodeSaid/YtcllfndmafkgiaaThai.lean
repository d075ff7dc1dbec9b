/- Contracts of the thai functions (layer 7), over all bytes and all scalars; no condition beyond the range of a byte. -/
import Derived.Test.YtcllfndmafkgiaaProg
import Derived.WalkKit
import Derived.ProofKit
import Derived.Below
import Derived.Lib.Hide
import Derived.IntWalk
import Derived.Outline
import Derived.Laws.Tables
namespace Go.Proofs.Ytcllfndmafkgiaa
open Go.RowKit
theorem wpList_runTo {P : Program} {ops : Array Oper} {rest : List Oper} {o : Oper} {a : Act} {w : World} {Q : Exit → Act → World → Prop} (hg : o.guard = none) (d : Option Tmp) (hd : o.dst = d)
    (v : Value) (w' : World) (hrun : (execOp a.eval o).run P w = .ok (.value v) w')
    (h : wpList P ops Q rest (a.put d v) w') : wpList P ops Q (o :: rest) a w := by
  subst hd
  refine wpList_plain hg fun K hK => ?_
  unfold Oper.wp
  rw [hrun, Oper.upon_value]
  exact hK _ _ h
theorem heap_alloc (w : World) (o : Obj) : (w.alloc o).heap = w.heap.push o := rfl
theorem setRow_new (w : World) (cs ds : Array Value) (t : TypeId) : (w.alloc (.cells cs t)).setRow w.heap.size ds = w.alloc (.cells ds t) := by
  simp only [World.setRow, World.alloc]
  congr 1
  apply Array.ext
  · simp
  · intro i h1 h2
    simp [Array.getElem_modify, Array.getElem_push]
    split <;> split <;> simp_all <;> omega
theorem wpList_store_new {P : Program} {ops : Array Oper} {rest : List Oper} {o : Oper} {a : Act} {w : World} {Q : Exit → Act → World → Prop} (hgd : o.guard = none) (ty : TypeId) (x y : Operand) (ho : o.op = .store ty x y)
    (hd : o.dst = none) (cells : Array Value) (old : Array Value) (t : TypeId) (hx : a.eval x = .pointer (some ⟨w.heap.size, 0, none⟩)) (hy : a.eval y = .agg cells)
    (hi : (P.info? ty).map (·.size) = some cells.size)
    (hold : old.size = cells.size) (h1 : cells.all (·.oneCell') = true)
    (h : wpList P ops Q rest a (w.alloc (.cells cells t))) : wpList P ops Q (o :: rest) a (w.alloc (.cells old t)) := by
  refine wpList_store_row hgd ty x y ho w.heap.size cells hx hy t old ?_ hi hold h1 ?_
  · rw [heap_alloc]; simp
  · rw [hd, setRow_new]; exact h
theorem cell_new (w : World) (cs : Array Value) (t : TypeId) (n : Nat) (v : Value) (h : cs[n]? = some v) : (w.alloc (.cells cs t)).cell? ⟨w.heap.size, n, none⟩ = some v := by
  simp [World.cell?, heap_alloc, h]
namespace Th

def ofTab : List Int := [4,15,4,4,14,16,15,16,7,8,9,1,1,1,1,1,3,3,3,3,3,5,1,12,10,10,10,10,11,11,13]
def ofArr : Array Value := (ofTab.map (Value.int .i64)).toArray
def zArr : Array Value := ((List.replicate 31 0).map (Value.int .i64)).toArray
theorem ofArr_size : ofArr.size = 31 := rfl
theorem ofArr_get (n : Nat) (h : n < 31) : ofArr[n]? = some (.int .i64 (ofTab.getD n 0)) := by
  have h' : n < ofTab.length := h
  simp [ofArr, h']
attribute [irreducible] ofArr zArr ofTab
set_option maxHeartbeats 400000 in
theorem of31 (n : Nat) (w : World) (h1 : n < 31) :
    Calls Try.prog 31 #[.int .u8 (208 + n)] w fun e w' => e = .returned (.int .i64 (ofTab.getD n 0)) ∧ Below w.heap.size w w' := by
  have hc := cell_new w ofArr 60 n _ (ofArr_get n h1)
  go_enter Try.func31, Try.ntmps31
  go_wp2_with (first
    | with_reducible refine wpList_runTo (o := ⟨some 4, .build 60 _, _, _, _, _⟩) rfl (some 4) rfl (.agg ofArr) w (by kernel_rfl) ?_
    | with_reducible refine wpList_runTo (o := ⟨some 3, .alloc 60, _, _, _, _⟩) rfl (some 3) rfl (.pointer (some ⟨w.heap.size, 0, none⟩)) (w.alloc (.cells zArr 60)) (by kernel_rfl) ?_
    | with_reducible refine wpList_store_new (o := ⟨none, .store 60 _ _, _, _, _, _⟩) rfl 60 _ _ rfl rfl ofArr zArr 60 (by kernel_rfl) (by kernel_rfl) (by kernel_rfl) (by kernel_rfl) (by kernel_rfl) ?_)
  go_ret
  exact ⟨rfl, (Below.refl _ _).alloc (Nat.le_refl _) _⟩

theorem ret_ib {k : IntKind} {a b : Int} {x y : Bool} (h1 : a = b) (h2 : x = y) : Ending.returned (.tuple #[.int k a, .bool x]) = .returned (.tuple #[.int k b, .bool y]) := by rw [h1, h2]
theorem ret_i {k : IntKind} {a b : Int} (h1 : a = b) : Ending.returned (.int k a) = .returned (.int k b) := by rw [h1]
theorem ret_b {x y : Bool} (h1 : x = y) : Ending.returned (.bool x) = .returned (.bool y) := by rw [h1]
def dec (c : Int) : Int := if c < 128 then c else if 161 ≤ c ∧ c ≤ 218 ∨ 223 ≤ c ∧ c ≤ 251 then c + 3424 else 0
def decB (c : Int) : Bool := decide (c < 128 ∨ 161 ≤ c ∧ c ≤ 218 ∨ 223 ≤ c ∧ c ≤ 251)
def enc (s : Int) : Int := if 0 ≤ s ∧ s < 128 then s else if 3585 ≤ s ∧ s ≤ 3642 ∨ 3647 ≤ s ∧ s ≤ 3675 then s - 3424 else 0
def encB (s : Int) : Bool := decide (0 ≤ s ∧ s < 128 ∨ 3585 ≤ s ∧ s ≤ 3642 ∨ 3647 ≤ s ∧ s ≤ 3675)

theorem decode16 (c : Int) (w : World) (h0 : 0 ≤ c) (h1 : c < 256) :
    Calls Try.prog 16 #[.int .u8 c] w fun e w' => e = .returned (.tuple #[.int .i64 (dec c), .bool (decB c)]) ∧ w = w' := by
  go_enter Try.func16, Try.ntmps16
  go_wp2
  all_goals
    go_ret2
    refine ⟨ret_ib ?_ ?_, rfl⟩
    · unfold dec; (repeat' split) <;> omega
    · unfold decB; symm; simp; omega
theorem scalar17 (c : Int) (w : World) (h0 : 0 ≤ c) (h1 : c < 256) :
    Calls Try.prog 17 #[.int .u8 c] w fun e w' => e = .returned (.tuple #[.int .i64 (dec c), .bool (decB c)]) ∧ w = w' := by
  go_enter Try.func17, Try.ntmps17
  go_wp2
  all_goals
    go_ret2
    refine ⟨ret_ib ?_ ?_, rfl⟩
    · unfold dec; (repeat' split) <;> omega
    · unfold decB; symm; simp; omega
theorem encode18 (s : Int) (w : World) :
    Calls Try.prog 18 #[.int .i64 s] w fun e w' => e = .returned (.tuple #[.int .u8 (enc s), .bool (encB s)]) ∧ w = w' := by
  go_enter Try.func18, Try.ntmps18
  go_wp2
  all_goals
    go_ret2
    refine ⟨ret_ib ?_ ?_, rfl⟩
    · unfold enc; (repeat' split) <;> omega
    · unfold encB; symm; simp; omega
def cls (c : Int) : Int :=
  if c < 32 ∨ 127 ≤ c ∧ c < 160 then 0 else if c = 196 ∨ c = 198 then 6 else if 161 ≤ c ∧ c ≤ 206 then 2
  else if 208 ≤ c ∧ c ≤ 238 then ofTab.getD (c - 208).toNat 0 else 1
theorem of31' (c : Int) (w : World) (h0 : 208 ≤ c) (h1 : c ≤ 238) :
    Calls Try.prog 31 #[.int .u8 c] w fun e w' => e = .returned (.int .i64 (ofTab.getD (c - 208).toNat 0)) ∧ Below w.heap.size w w' := by
  obtain ⟨n, hn⟩ := Int.eq_ofNat_of_zero_le (show 0 ≤ c - 208 by omega)
  obtain rfl : c = 208 + n := by omega
  have := of31 n w (by omega)
  rw [show ((208 + (n : Int)) - 208).toNat = n by omega]
  exact this
theorem of19 (c : Int) (w : World) (h0 : 0 ≤ c) (h1 : c < 256) :
    Calls Try.prog 19 #[.int .u8 c] w fun e w' => e = .returned (.int .i64 (cls c)) ∧ Below w.heap.size w w' := by
  go_enter Try.func19, Try.ntmps19
  go_wp2_with (go_at_call 31; refine (of31' _ _ (by omega) (by omega)).mono ?_; rintro e w' ⟨rfl, hb⟩)
  all_goals
    go_ret
    refine ⟨ret_i ?_, ?_⟩
    · try simp only [beq_iff_eq, beq_eq_false_iff_ne] at *
      unfold cls; (repeat' split) <;> first | omega | rfl
    · first | assumption | exact Below.refl _ _
end Go.Proofs.Ytcllfndmafkgiaa.Th
