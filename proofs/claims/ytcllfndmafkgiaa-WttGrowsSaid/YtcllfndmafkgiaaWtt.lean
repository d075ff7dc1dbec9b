/- Contracts of the functions of layer 8 (wtt) and of its law's helpers; no condition beyond the ranges of bytes. -/
import Derived.Test.YtcllfndmafkgiaaThaiLaws
import Derived.Laws.Rows
import Derived.IntWalk
import Derived.Test.YtcllfndmafkgiaaFrame
import Derived.StillTailTactics
import Derived.BigQuiet
import Derived.Deep.QuietTactic
import Derived.Deep.RegionHeld3
namespace Go.Proofs.Ytcllfndmafkgiaa.Th
open Go.RowKit
def rowsT : List (List UInt8) := [
  [88,65,65,65,65,65,65,82,82,82,82,82,82,82,82,82,82],
  [88,65,65,65,83,83,65,82,82,82,82,82,82,82,82,82,82],
  [88,65,65,65,65,83,65,67,67,67,67,67,67,67,67,67,67],
  [88,83,65,83,83,83,83,82,82,82,82,82,82,82,82,82,82],
  [88,83,65,83,65,83,65,82,82,82,82,82,82,82,82,82,82],
  [88,65,65,65,65,83,65,82,82,82,82,82,82,82,82,82,82],
  [88,65,65,65,83,65,83,82,82,82,82,82,82,82,82,82,82],
  [88,65,65,65,65,83,65,82,82,82,67,67,82,82,82,82,82],
  [88,65,65,65,83,83,65,82,82,82,67,82,82,82,82,82,82],
  [88,65,65,65,83,83,65,82,82,82,82,82,82,82,82,82,82],
  [88,65,65,65,65,65,65,82,82,82,82,82,82,82,82,82,82],
  [88,65,65,65,83,83,65,82,82,82,82,82,82,82,82,82,82],
  [88,65,65,65,83,83,65,82,82,82,82,82,82,82,82,82,82],
  [88,65,65,65,83,83,65,82,82,82,82,82,82,82,82,82,82],
  [88,65,65,65,83,83,65,82,82,82,67,67,82,82,82,82,82],
  [88,65,65,65,83,83,65,82,82,82,67,82,82,82,82,82,82],
  [88,65,65,65,83,83,65,82,82,82,67,82,67,82,82,82,82]]
def rowS (a : Nat) : ByteArray := ⟨(rowsT.getD a []).toArray⟩
def rowsVal : Array Value := (rowsT.map fun l => Value.string ⟨l.toArray⟩).toArray
def zRow : Array Value := (List.replicate 17 (Value.string ⟨#[]⟩)).toArray
theorem idx56 (a : Nat) (h : a < 17) (w : World) : (Instr.index 56 (.agg rowsVal) (.int .i64 a)).run Try.prog w = .ok (.string (rowS a)) w := by
  rcases a with _ | _ | _ | _ | _ | _ | _ | _ | _ | _ | _ | _ | _ | _ | _ | _ | _ | a <;> first | omega | kernel_rfl
def kindT : List Int := rowsT.flatten.map fun c => (c.toNat : Int)
def kind (a b : Int) : Int := if 0 ≤ a ∧ a < 17 ∧ 0 ≤ b ∧ b < 17 then kindT.getD (17 * a.toNat + b.toNat) 0 else 82
theorem idx9 (a b : Nat) (h : a < 17) (hb : b < 17) (w : World) : (Instr.index 9 (.string (rowS a)) (.int .i64 b)).run Try.prog w = .ok (.int .u8 (kind a b)) w := by
  rcases a with _ | _ | _ | _ | _ | _ | _ | _ | _ | _ | _ | _ | _ | _ | _ | _ | _ | a <;> first | omega | (rcases b with _ | _ | _ | _ | _ | _ | _ | _ | _ | _ | _ | _ | _ | _ | _ | _ | _ | b <;> first | omega | kernel_rfl)
def rowsStr : ByteArray := ⟨rowsT.flatten.toArray⟩
theorem idxStr (a b : Nat) (h : a < 17) (hb : b < 17) (w : World) : (Instr.index 9 (.string rowsStr) (.int .i64 (17 * (a : Int) + b))).run Try.prog w = .ok (.int .u8 (kind a b)) w := by
  rcases a with _ | _ | _ | _ | _ | _ | _ | _ | _ | _ | _ | _ | _ | _ | _ | _ | _ | a <;> first | omega | (rcases b with _ | _ | _ | _ | _ | _ | _ | _ | _ | _ | _ | _ | _ | _ | _ | _ | _ | b <;> first | omega | kernel_rfl)
theorem cells56 : (Try.prog.info? 56).map (·.size) = some 17 := by kernel_rfl
attribute [irreducible] rowS rowsVal zRow rowsT kindT rowsStr kind
set_option maxHeartbeats 400000 in
theorem rows32 (w : World) : Calls Try.prog 32 #[] w fun e w' => e = .returned (.agg rowsVal) ∧ Below w.heap.size w w' := by
  go_enter Try.func32, Try.ntmps32
  go_wp2_with (first
    | with_reducible refine wpList_runTo (o := ⟨some 1, .build 56 _, _, _, _, _⟩) rfl (some 1) rfl (.agg rowsVal) (w.alloc (.cells zRow 56)) (by kernel_rfl) ?_
    | with_reducible refine wpList_runTo (o := ⟨some 0, .alloc 56, _, _, _, _⟩) rfl (some 0) rfl (.pointer (some ⟨w.heap.size, 0, none⟩)) (w.alloc (.cells zRow 56)) (by kernel_rfl) ?_
    | with_reducible refine wpList_store_new (o := ⟨none, .store 56 _ _, _, _, _, _⟩) rfl 56 _ _ rfl rfl rowsVal zRow 56 (by kernel_rfl) (by kernel_rfl) (by kernel_rfl) (by kernel_rfl) (by kernel_rfl) ?_)
  refine bodyPost_ret (v := .agg rowsVal) (results_cell_row rfl _ _ w.heap.size 56 rowsVal (0, 0) _ rfl (by rw [heap_alloc]; simp) Try.underlying56 rfl (by kernel_rfl)) rfl ⟨rfl, (Below.refl _ _).alloc (Nat.le_refl _) _⟩
theorem Rows23 (w : World) : Calls Try.prog 23 #[] w fun e w' => e = .returned (.string rowsStr) ∧ w = w' := by
  go_enter Try.func23, Try.ntmps23
  go_wp2
  go_ret
  exact ⟨by kernel_rfl, rfl⟩
theorem kind_out {a b : Int} (h : ¬ (0 ≤ a ∧ a < 17 ∧ 0 ≤ b ∧ b < 17)) : kind a b = 82 := by
  unfold kind; rw [if_neg h]
theorem kind22 (a b : Int) (w : World) : Calls Try.prog 22 #[.int .i64 a, .int .i64 b] w fun e w' => e = .returned (.int .u8 (kind a b)) ∧ Below w.heap.size w w' := by
  by_cases h : 0 ≤ a ∧ a < 17 ∧ 0 ≤ b ∧ b < 17
  · obtain ⟨m, rfl⟩ := Int.eq_ofNat_of_zero_le h.1
    obtain ⟨n, rfl⟩ := Int.eq_ofNat_of_zero_le h.2.2.1
    have hm : m < 17 := by omega
    have hn : n < 17 := by omega
    have i1 := idx56 m hm
    have i2 := idx9 m n hm hn
    clear h
    go_enter Try.func22, Try.ntmps22
    go_wp2_with (go_at_call 32; refine (rows32 _).mono ?_; rintro e w' ⟨rfl, hb⟩)
    go_ret
    exact ⟨rfl, ‹_›⟩
  · have hk := Lib.hid (kind_out h)
    go_enter Try.func22, Try.ntmps22
    go_wp2_with (go_at_call 32; refine (rows32 _).mono ?_; rintro e w' ⟨rfl, hb⟩)
    all_goals first
      | (exfalso; omega)
      | (go_ret; exact ⟨ret_i hk.out.symm, Below.refl _ _⟩)
theorem idxStr' (a b : Int) (h0 : 0 ≤ a) (h1 : a < 17) (h2 : 0 ≤ b) (h3 : b < 17) (w : World) : (Instr.index 9 (.string rowsStr) (.int .i64 (17 * a + b))).run Try.prog w = .ok (.int .u8 (kind a b)) w := by
  obtain ⟨m, rfl⟩ := Int.eq_ofNat_of_zero_le h0
  obtain ⟨n, rfl⟩ := Int.eq_ofNat_of_zero_le h2
  exact idxStr m n (by omega) (by omega) w
def mayB (a b l : Int) : Bool := if kind (cls a) (cls b) = 82 then decide (l ≤ 0) else if kind (cls a) (cls b) = 83 then decide (l ≤ 1) else true
theorem mayB_r {a b l : Int} (h : (kind (cls a) (cls b) == 82) = true) : mayB a b l = decide (l ≤ 0) := by
  unfold mayB; rw [if_pos (by simpa using h)]
theorem mayB_s {a b l : Int} (h : (kind (cls a) (cls b) == 82) = false) (h2 : (kind (cls a) (cls b) == 83) = true) : mayB a b l = decide (l ≤ 1) := by
  unfold mayB; rw [if_neg (by simpa using h), if_pos (by simpa using h2)]
theorem mayB_t {a b l : Int} (h : (kind (cls a) (cls b) == 82) = false) (h2 : (kind (cls a) (cls b) == 83) = false) : mayB a b l = true := by
  unfold mayB; rw [if_neg (by simpa using h), if_neg (by simpa using h2)]
theorem may24 (a b l : Int) (w : World) (h0 : 0 ≤ a) (h1 : a < 256) (h2 : 0 ≤ b) (h3 : b < 256) :
    Calls Try.prog 24 #[.int .u8 a, .int .u8 b, .int .i64 l] w fun e w' => e = .returned (.bool (mayB a b l)) ∧ Below w.heap.size w w' := by
  have hx : ((kind (cls a) (cls b) == 82) = true ∧ Hid (mayB a b l = decide (l ≤ 0))) ∨ ((kind (cls a) (cls b) == 82) = false ∧ (kind (cls a) (cls b) == 83) = true ∧ Hid (mayB a b l = decide (l ≤ 1))) ∨ ((kind (cls a) (cls b) == 82) = false ∧ (kind (cls a) (cls b) == 83) = false ∧ Hid (mayB a b l = true)) := by
    cases h : (kind (cls a) (cls b) == 82) with
    | true => exact .inl ⟨rfl, mayB_r h⟩
    | false =>
      cases h2 : (kind (cls a) (cls b) == 83) with
      | true => exact .inr (.inl ⟨rfl, rfl, mayB_s h h2⟩)
      | false => exact .inr (.inr ⟨rfl, rfl, mayB_t h h2⟩)
  rcases hx with ⟨e1, H⟩ | ⟨e1, e2, H⟩ | ⟨e1, e2, H⟩
  all_goals
    go_enter Try.func24, Try.ntmps24
    go_wp2_with (first
      | (go_at_call 19; refine (of19 _ _ (by omega) (by omega)).mono ?_; rintro e w' ⟨rfl, hb⟩)
      | (go_at_call 22; refine (kind22 _ _ _).mono ?_; rintro e w' ⟨rfl, hb⟩))
    rename_i b1 _ b2
    go_ret
    exact ⟨ret_b H.out.symm, cat b1 (cat b2 hb)⟩
set_option maxRecDepth 100000 in
theorem may25 (a b l : Int) (w : World) (h0 : 0 ≤ a) (h1 : a < 256) (h2 : 0 ≤ b) (h3 : b < 256) :
    Calls Try.prog 25 #[.int .u8 a, .int .u8 b, .int .i64 l] w fun e w' => e = .returned (.bool (mayB a b l)) ∧ Below w.heap.size w w' := by
  have hx : ((kind (cls a) (cls b) == 82) = true ∧ Hid (mayB a b l = decide (l ≤ 0)) ∧ (kind (cls a) (cls b) == 83) = false) ∨ ((kind (cls a) (cls b) == 82) = false ∧ Hid (mayB a b l = decide (l ≤ 1)) ∧ (kind (cls a) (cls b) == 83) = true) ∨ ((kind (cls a) (cls b) == 82) = false ∧ Hid (mayB a b l = true) ∧ (kind (cls a) (cls b) == 83) = false) := by
    cases h : (kind (cls a) (cls b) == 82) with
    | true => exact .inl ⟨rfl, mayB_r h, by simp at h ⊢; omega⟩
    | false =>
      cases h2 : (kind (cls a) (cls b) == 83) with
      | true => exact .inr (.inl ⟨rfl, mayB_s h h2, rfl⟩)
      | false => exact .inr (.inr ⟨rfl, mayB_t h h2, rfl⟩)
  obtain ⟨g0, g1⟩ := cls_bd a h0 h1
  obtain ⟨g2, g3⟩ := cls_bd b h2 h3
  have I := idxStr' _ _ g0 g1 g2 g3
  rcases hx with ⟨e1, H, e2⟩ | ⟨e1, H, e2⟩ | ⟨e1, H, e2⟩
  all_goals
    have n1 : (kind (cls a) (cls b) != 82) = !(kind (cls a) (cls b) == 82) := rfl
    have n2 : (kind (cls a) (cls b) != 83) = !(kind (cls a) (cls b) == 83) := rfl
    rw [e1] at n1; rw [e2] at n2
    simp only [Bool.not_true, Bool.not_false] at n1 n2
    go_enter Try.func25, Try.ntmps25
    go_wp2_with (first
      | (go_at_call 23; refine (Rows23 _).mono ?_; rintro e w' ⟨rfl, rfl⟩)
      | (go_at_call 20; refine (class20 _ _ (by omega) (by omega)).mono ?_; rintro e w' ⟨rfl, hb⟩))
    all_goals
      go_ret
      exact ⟨ret_b (by rw [H.out]; first | done | rfl | (symm; simp; omega) | (simp; omega)), cat (by assumption) hb⟩
def bad (l : List Int) (v : Int) : Nat → Nat → Int
  | _, 0 => -1
  | k, n + 1 => if mayB (l.getD (k - 1) 0) (l.getD k 0) v = false then k else bad l v (k + 1) n
/-- the first place, from 1 on, whose byte may not stand behind the one ahead; -1: there is none -/
def badOf (l : List Int) (v : Int) : Int := bad l v 1 (l.length - 1)
theorem bad_stop {l : List Int} {v : Int} {k : Nat} : bad l v k 0 = -1 := rfl
theorem bad_hit {l : List Int} {v : Int} {k n : Nat} (h : mayB (l.getD (k - 1) 0) (l.getD k 0) v = false) : bad l v k (n + 1) = k := by simp only [bad]; rw [if_pos h]
theorem bad_go {l : List Int} {v : Int} {k n : Nat} (h : mayB (l.getD (k - 1) 0) (l.getD k 0) v = true) : bad l v k (n + 1) = bad l v (k + 1) n := by simp only [bad]; rw [if_neg (by simp only [h]; decide)]
attribute [irreducible] mayB bad
def Bytes (l : List Int) : Prop := ∀ n ∈ l, 0 ≤ n ∧ n < 256
theorem Bytes.at {l : List Int} (h : Bytes l) (i : Nat) : 0 ≤ l.getD i 0 ∧ l.getD i 0 < 256 := by
  by_cases hi : i < l.length
  · have : l.getD i 0 = l[i] := by simp [hi]
    rw [this]; exact h _ (List.getElem_mem hi)
  · have : l.getD i 0 = 0 := by simp [List.getD_eq_getElem?_getD, List.getElem?_eq_none (Nat.le_of_not_lt hi)]
    rw [this]; omega
theorem drewB {w : World} : Below w.heap.size w w.drew := (Below.refl _ _).drew
theorem cell_drew (w : World) (p : Addr) : w.drew.cell? p = w.cell? p := rfl
theorem held_start {w0 w : World} {p q : Addr} {x y : Value} (h : Below w0.heap.size w0 w) (h1 : w.cell? p = some x) (h2 : w.cell? q = some y) :
    Below w0.heap.size w0 w.drew ∧ w.drew.cell? p = some x ∧ w.drew.cell? q = some y := ⟨h.drew, h1, h2⟩
theorem held_step {w0 w w' : World} {p q : Addr} {x y : Value} (h : Below w0.heap.size w0 w ∧ w.cell? p = some x ∧ w.cell? q = some y) (hb : Below w.heap.size w w') :
    Below w0.heap.size w0 w' ∧ w'.cell? p = some x ∧ w'.cell? q = some y :=
  ⟨cat h.1 hb, by rw [hb.cell (cell_lt h.2.1)]; exact h.2.1, by rw [hb.cell (cell_lt h.2.2)]; exact h.2.2⟩
set_option maxHeartbeats 1000000 in
theorem check26 (a : Option Addr) (cap : Nat) (l : List Int) (v : Int) (w : World) (hr : RowAt .u8 w a l) (hB : Bytes l) (hs : l.length ≤ 140737488355328) :
    Calls Try.prog 26 #[.slice a l.length cap, .int .i64 v] w fun e w' => e = .returned (.int .i64 (badOf l v)) ∧ Below w.heap.size w w' := by
  go_enter Try.func26, Try.ntmps26
  go_wp2
  go_loopw [5] (fun i wr => ∃ m : Nat, m ≤ l.length - 1 ∧ i = .int .i64 (m + 1) ∧ badOf l v = bad l v (m + 1) (l.length - (m + 1)) ∧ Below w.heap.size w wr) (fun i _ => l.length - (intOf i).toNat)
  case atStart => exact ⟨0, by omega, rfl, rfl, Below.refl _ _⟩
  case round =>
    obtain ⟨m, hk, rfl, hq, hb⟩ := hrel
    have HQ := Lib.hid hq
    clear hq
    by_cases hlt : m + 1 < l.length
    · obtain ⟨b, off, rfl, hc⟩ := (hr.keep hb).cell (by intro h; simp [h] at hlt)
      have c0 := hc m (by omega)
      have c1 := hc (m + 1) hlt
      obtain ⟨x0, x1⟩ := hB.at m
      obtain ⟨y0, y1⟩ := hB.at (m + 1)
      have HN : Hid (l.length - (m + 1) = (l.length - (m + 2)) + 1) := by show _ = _; omega
      clear hc
      generalize hx : l.getD m 0 = x at *
      generalize hy : l.getD (m + 1) 0 = y at *
      have HX := Lib.hid hx
      have HY := Lib.hid hy
      clear hx hy
      rcases Bool.eq_false_or_eq_true (mayB x y v) with hm | hm
      · have HM := Lib.hid (fun W => may24 x y v W x0 x1 y0 y1)
        have n0 : (0 : Int) ≤ (m : Int) := by omega
        have n1 : (m : Int) < (l.length : Int) := by omega
        have n2 : (0 : Int) ≤ (m : Int) + 1 := by omega
        have n3 : (m : Int) + 1 < (l.length : Int) := by omega
        have n4 : IntKind.i64.wrap ((m : Int) + 1 - 1) = (m : Int) := by rw [show (m : Int) + 1 - 1 = m by omega]; exact IntWalk.i64_in _ (by omega)
        have n7 : IntKind.i64.wrap (m : Int) = (m : Int) := IntWalk.i64_in _ (by omega)
        have n5 : ((m : Int) + 1).toNat = m + 1 := by omega
        have n6 : ((m : Int)).toNat = m := by omega
        go_wp2_with fail
        go_region_held3 (fun w' => Below w.heap.size w w' ∧ w'.cell? ⟨b, off + m, none⟩ = some (.int .u8 x) ∧ w'.cell? ⟨b, off + (m + 1), none⟩ = some (.int .u8 y)) (first | exact held_start (by assumption) (by assumption) (by assumption) | exact held_step (by assumption) (by assumption)) (first | (go_at_call 24; refine (HM.out _).mono ?_; rintro e w' ⟨rfl, hb2⟩))
        clear n4 n7 n5 n6
        rename_i hHeld
        have HH := Lib.hid hHeld.1
        clear hHeld
        go_wp2
        go_roundw
        case rel => exact ⟨m + 1, by omega, by go_num, by rw [HQ.out, HN.out, bad_go (by show mayB (l.getD m 0) (l.getD (m + 1) 0) v = true; rw [HX.out, HY.out]; exact hm)], HH.out⟩
        case measure => simp [intOf]; omega
      · have HM := Lib.hid (fun W => may24 x y v W x0 x1 y0 y1)
        have n0 : (0 : Int) ≤ (m : Int) := by omega
        have n1 : (m : Int) < (l.length : Int) := by omega
        have n2 : (0 : Int) ≤ (m : Int) + 1 := by omega
        have n3 : (m : Int) + 1 < (l.length : Int) := by omega
        have n4 : IntKind.i64.wrap ((m : Int) + 1 - 1) = (m : Int) := by rw [show (m : Int) + 1 - 1 = m by omega]; exact IntWalk.i64_in _ (by omega)
        have n7 : IntKind.i64.wrap (m : Int) = (m : Int) := IntWalk.i64_in _ (by omega)
        have n5 : ((m : Int) + 1).toNat = m + 1 := by omega
        have n6 : ((m : Int)).toNat = m := by omega
        go_wp2_with fail
        go_region_held3 (fun w' => Below w.heap.size w w' ∧ w'.cell? ⟨b, off + m, none⟩ = some (.int .u8 x) ∧ w'.cell? ⟨b, off + (m + 1), none⟩ = some (.int .u8 y)) (first | exact held_start (by assumption) (by assumption) (by assumption) | exact held_step (by assumption) (by assumption)) (first | (go_at_call 24; refine (HM.out _).mono ?_; rintro e w' ⟨rfl, hb2⟩))
        clear n4 n7 n5 n6
        rename_i hHeld
        have HH := Lib.hid hHeld.1
        clear hHeld
        go_wp2
        go_ret
        exact ⟨ret_i (by rw [HQ.out, HN.out, bad_hit (by show mayB (l.getD m 0) (l.getD (m + 1) 0) v = false; rw [HX.out, HY.out]; exact hm)]; rfl), HH.out⟩
    · obtain rfl : m = l.length - 1 := by omega
      go_wp2
      all_goals first
        | (exfalso; omega)
        | (go_ret; exact ⟨ret_i (by rw [HQ.out, show l.length - (l.length - 1 + 1) = 0 by omega, bad_stop]), hb⟩)
end Go.Proofs.Ytcllfndmafkgiaa.Th
