/- Contracts of the thai functions (layer 7), over all bytes and all scalars; no condition beyond the range of a byte. -/
import Derived.Test.YtcllfndmafkgiaaThai
import Derived.LoopTactic
namespace Go.Proofs.Ytcllfndmafkgiaa.Th
open Go.RowKit
def rowsL : List (Int × Int × Int) := [(0, 0x1f, 0), (0x7f, 0x9f, 0), (0xc4, 0xc4, 6), (0xc6, 0xc6, 6), (0xa1, 0xce, 2), (0xd0, 0xd0, 4), (0xd2, 0xd3, 4), (0xd1, 0xd1, 15), (0xd6, 0xd6, 15), (0xd4, 0xd4, 14), (0xd5, 0xd5, 16), (0xd7, 0xd7, 16), (0xd8, 0xd8, 7), (0xd9, 0xd9, 8), (0xda, 0xda, 9), (0xe0, 0xe4, 3), (0xe5, 0xe5, 5), (0xe7, 0xe7, 12), (0xe8, 0xeb, 10), (0xec, 0xed, 11), (0xee, 0xee, 13)]
def rowsArr : Array Value := (rowsL.flatMap fun x => [.int .u8 x.1, .int .u8 x.2.1, .int .i64 x.2.2]).toArray
def lo (k : Nat) : Int := (rowsL.getD k (0,0,0)).1
def hi (k : Nat) : Int := (rowsL.getD k (0,0,0)).2.1
def kd (k : Nat) : Int := (rowsL.getD k (0,0,0)).2.2
theorem rows_get (k : Nat) (h : k < 21) : rowsArr[k * 3]? = some (.int .u8 (lo k)) ∧ rowsArr[k * 3 + 1]? = some (.int .u8 (hi k)) ∧ rowsArr[k * 3 + 2]? = some (.int .i64 (kd k)) := by
  rcases k with _ | _ | _ | _ | _ | _ | _ | _ | _ | _ | _ | _ | _ | _ | _ | _ | _ | _ | _ | _ | _ | k <;> first | exact ⟨rfl, rfl, rfl⟩ | omega
/-- the first k rows do not hold c -/
def NoRow (c : Int) (k : Nat) : Prop := ∀ j, j < k → ¬ (lo j ≤ c ∧ c ≤ hi j)
theorem NoRow.zero (c : Int) : NoRow c 0 := fun j h => absurd h (by omega)
theorem NoRow.succ {c : Int} {k : Nat} (h : NoRow c k) (h2 : ¬ (lo k ≤ c ∧ c ≤ hi k)) : NoRow c (k + 1) := fun j hj => by
  by_cases e : j = k
  · subst e; exact h2
  · exact h j (by omega)
def clsR (c : Int) (l : List (Int × Int × Int)) : Int := match l.find? (fun x => decide (x.1 ≤ c) && decide (c ≤ x.2.1)) with | some x => x.2.2 | none => 1
theorem cls_rows (n : Nat) (h : n < 256) : cls n = clsR n rowsL := by
  have H : ∀ n : Fin 256, cls n.1 = clsR n.1 rowsL := by unfold cls ofTab rowsL; decide +kernel
  exact H ⟨n, h⟩
theorem rows_len : rowsL.length = 21 := rfl
theorem row_at (j : Nat) (h : j < rowsL.length) : rowsL.getD j (0,0,0) = rowsL[j] := by simp [h]
theorem clsR_hit {c : Int} {k : Nat} (hk : k < 21) (hn : NoRow c k) (h : lo k ≤ c ∧ c ≤ hi k) : clsR c rowsL = kd k := by
  have hl : k < rowsL.length := hk
  have e : rowsL.find? (fun x => decide (x.1 ≤ c) && decide (c ≤ x.2.1)) = some rowsL[k] := by
    rw [List.find?_eq_some_iff_getElem]
    refine ⟨?_, k, hl, rfl, ?_⟩
    · simp only [lo, hi, row_at k hl] at h; simp [h]
    · intro j hj
      have := hn j hj
      simp only [lo, hi, row_at j (by omega)] at this
      simp only [Bool.not_eq_true', Bool.and_eq_false_iff, decide_eq_false_iff_not]; omega
  unfold clsR; rw [e]; simp only [kd, row_at k hl]
theorem clsR_miss {c : Int} (hn : NoRow c 21) : clsR c rowsL = 1 := by
  have e : rowsL.find? (fun x => decide (x.1 ≤ c) && decide (c ≤ x.2.1)) = none := by
    rw [List.find?_eq_none]
    intro x hx
    obtain ⟨j, hj, rfl⟩ := List.getElem_of_mem hx
    have := hn j hj
    simp only [lo, hi, row_at j hj] at this
    simpa using this
  unfold clsR; rw [e]
theorem cls_hit {c : Int} {k : Nat} (h0 : 0 ≤ c) (h1 : c < 256) (hk : k < 21) (hn : NoRow c k) (h : lo k ≤ c) (h' : c ≤ hi k) : kd k = cls c := by
  obtain ⟨n, rfl⟩ := Int.eq_ofNat_of_zero_le h0
  rw [cls_rows n (by omega), clsR_hit hk hn ⟨h, h'⟩]
theorem cls_miss {c : Int} (h0 : 0 ≤ c) (h1 : c < 256) (hn : NoRow c 21) : 1 = cls c := by
  obtain ⟨n, rfl⟩ := Int.eq_ofNat_of_zero_le h0
  rw [cls_rows n (by omega), clsR_miss hn]
theorem row_cells (w : World) (k : Nat) (h : k < 21) : (w.alloc (.cells rowsArr 54)).cell? ⟨w.heap.size, k * 3, none⟩ = some (.int .u8 (lo k)) ∧ (w.alloc (.cells rowsArr 54)).cell? ⟨w.heap.size, k * 3 + 1, none⟩ = some (.int .u8 (hi k)) ∧ (w.alloc (.cells rowsArr 54)).cell? ⟨w.heap.size, k * 3 + 2, none⟩ = some (.int .i64 (kd k)) :=
  have ⟨a, b, c⟩ := rows_get k h
  ⟨cell_new w _ 54 _ _ a, cell_new w _ 54 _ _ b, cell_new w _ 54 _ _ c⟩
attribute [irreducible] rowsArr rowsL lo hi kd
set_option maxHeartbeats 400000 in
theorem class20 (c : Int) (w : World) (h0 : 0 ≤ c) (h1 : c < 256) :
    Calls Try.prog 20 #[.int .u8 c] w fun e w' => e = .returned (.int .i64 (cls c)) ∧ Below w.heap.size w w' := by
  have RC := Lib.hid (row_cells w)
  go_enter Try.func20, Try.ntmps20
  go_wp2_with (first
    | with_reducible refine wpList_runTo (o := ⟨some 26, .buildSlice 55 21 _, _, _, _, _⟩) rfl (some 26) rfl (.slice (some ⟨w.heap.size, 0, none⟩) 21 21) (w.alloc (.cells rowsArr 54)) (by kernel_rfl) ?_)
  have hb0 : Below w.heap.size w (w.alloc (.cells rowsArr 54)) := (Below.refl _ _).alloc (Nat.le_refl _) _
  have hz0 : (w.alloc (.cells rowsArr 54)).heap.size = w.heap.size + 1 := by simp
  generalize w.alloc (.cells rowsArr 54) = W0 at *
  have HZ := Lib.hid hz0
  clear hz0
  go_loopw [28] (fun i wr => ∃ k : Nat, k ≤ 21 ∧ i = .int .i64 k ∧ NoRow c k ∧ Below W0.heap.size W0 wr) (fun i _ => 21 - (intOf i).toNat)
  case atStart => exact ⟨0, by omega, rfl, NoRow.zero c, Below.refl _ _⟩
  case round =>
    obtain ⟨k, hk, rfl, hn, hb⟩ := hrel
    by_cases hlt : k < 21
    · obtain ⟨c0, c1, c2⟩ := RC.out k hlt
      have hs := HZ.out
      have d0 : wr.cell? ⟨w.heap.size, k * 3, none⟩ = some (.int .u8 (lo k)) := by rw [hb.cell (by simp; omega)]; exact c0
      have d1 : wr.cell? ⟨w.heap.size, k * 3 + 1, none⟩ = some (.int .u8 (hi k)) := by rw [hb.cell (by simp; omega)]; exact c1
      have d2 : wr.cell? ⟨w.heap.size, k * 3 + 2, none⟩ = some (.int .i64 (kd k)) := by rw [hb.cell (by simp; omega)]; exact c2
      clear hs c0 c1 c2
      have hbw : Below w.heap.size w wr := hb0.trans (hb.mono (by have := HZ.out; omega))
      have ha : ∀ X : Obj, Below w.heap.size w (wr.alloc X) := fun X => hbw.alloc (by have := hb.size; have := HZ.out; omega) X
      have ha0 : ∀ X : Obj, Below W0.heap.size W0 (wr.alloc X) := fun X => hb.alloc hb.size X
      have HA := Lib.hid ha
      have HA0 := Lib.hid ha0
      clear ha ha0 hbw
      go_wp2
      · go_ret
        exact ⟨ret_i (cls_hit h0 h1 hlt hn ‹_› ‹_›), HA.out _⟩
      · go_roundw
        case rel => exact ⟨k + 1, by omega, by go_num, hn.succ (by omega), HA0.out _⟩
        case measure => simp [intOf]; omega
      · go_roundw
        case rel => exact ⟨k + 1, by omega, by go_num, hn.succ (by omega), HA0.out _⟩
        case measure => simp [intOf]; omega
    · obtain rfl : k = 21 := by omega
      have hbw : Below w.heap.size w wr := hb0.trans (hb.mono (by have := HZ.out; omega))
      go_wp2
      go_ret
      exact ⟨ret_i (cls_miss h0 h1 hn), hbw⟩

end Go.Proofs.Ytcllfndmafkgiaa.Th
