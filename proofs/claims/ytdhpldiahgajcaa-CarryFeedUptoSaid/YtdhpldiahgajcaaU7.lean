/- one. Written by a program out of Lean's own print of the given functions (the walk and the Lean function of the same answers); no condition of its own. -/
import Derived.Test.YtdhpldiahgajcaaU0
import Derived.Test.YtdhpldiahgajcaaU5
import Derived.Test.YtdhpldiahgajcaaU6
namespace Go.Proofs.Ytdhpldiahgajcaa.PUtfAll
open Go.RowKit Go.Proofs.YtdhpldiahgajcaaW.PrintWords Go.Proofs.YtdhpldiahgajcaaW.PrintLast Go.Proofs.YtdhpldiahgajcaaW.PrintMore
attribute [local go_sem] max2_int min2_int max_two min_two max_three min_three max_four min_four   -- for this text's walks alone
set_option linter.unusedVariables false
set_option linter.unusedSimpArgs false
abbrev Y7 : Bool := true
abbrev Z7 : Bool := false

/-! ### lontarlaw01_one: function 21 -/
mutual
def lontarlaw01_one.l0 : Nat → List Int → Int → Option (Int × Int × Int)
 | 0, _, _ => none
 | k + 1, x0, x5 => if x5 ≤ 4 then (lontarlaw01_one.j1 k x0 x5 (decide (x5 ≤ (x0.length : Int)))) else (lontarlaw01_one.j1 k x0 x5 false)
def lontarlaw01_one.j1 : Nat → List Int → Int → Bool → Option (Int × Int × Int)
 | 0, _, _, _ => none
 | k + 1, x0, x5, x15 => if x15 = true then (if x5 = 1 then (if 0 < (x0.length : Int) then (lontarlaw01_one.j2 k x0 x5 (wrap64 (rd x0 0))) else (none)) else (if x5 = 2 then (if 0 < (x0.length : Int) then (if 1 < (x0.length : Int) then (lontarlaw01_one.j2 k x0 x5 (wrap64 ((wrap64 ((wrap64 (Go.bits .and .u8 (rd x0 0) 31)) * 64)) + (wrap64 (Go.bits .and .u8 (rd x0 1) 63))))) else (none)) else (none)) else (if x5 = 3 then (if 0 < (x0.length : Int) then (if 1 < (x0.length : Int) then (if 2 < (x0.length : Int) then (lontarlaw01_one.j2 k x0 x5 (wrap64 ((wrap64 ((wrap64 ((wrap64 (Go.bits .and .u8 (rd x0 0) 15)) * 4096)) + (wrap64 ((wrap64 (Go.bits .and .u8 (rd x0 1) 63)) * 64)))) + (wrap64 (Go.bits .and .u8 (rd x0 2) 63))))) else (none)) else (none)) else (none)) else (if 0 < (x0.length : Int) then (if 1 < (x0.length : Int) then (if 2 < (x0.length : Int) then (if 3 < (x0.length : Int) then (lontarlaw01_one.j2 k x0 x5 (wrap64 ((wrap64 ((wrap64 ((wrap64 ((wrap64 (Go.bits .and .u8 (rd x0 0) 7)) * 262144)) + (wrap64 ((wrap64 (Go.bits .and .u8 (rd x0 1) 63)) * 4096)))) + (wrap64 ((wrap64 (Go.bits .and .u8 (rd x0 2) 63)) * 64)))) + (wrap64 (Go.bits .and .u8 (rd x0 3) 63))))) else (none)) else (none)) else (none)) else (none))))) else (lontarlaw01_one.l1 k x0 0)
def lontarlaw01_one.j2 : Nat → List Int → Int → Int → Option (Int × Int × Int)
 | 0, _, _, _ => none
 | k + 1, x0, x5, x6 => (lontarlaw01_scalar.f x6).bind fun t221 => (if t221 = true then ((lontarlaw01_bytes.f x6).bind fun t222 => (if 0 ≤ x5 then (if x5 ≤ (x0.length : Int) then (if t222.toList = (strOfNums (x0.take (x5 : Int).toNat)).toList then (some (x6, x5, 0)) else (lontarlaw01_one.l0 k x0 (wrap64 (x5 + 1)))) else (none)) else (none))) else (lontarlaw01_one.l0 k x0 (wrap64 (x5 + 1))))
def lontarlaw01_one.l1 : Nat → List Int → Int → Option (Int × Int × Int)
 | 0, _, _ => none
 | k + 1, x0, x7 => if x7 < (x0.length : Int) then (if x7 < 4 then (if 0 ≤ (wrap64 (x7 + 1)) then (if (wrap64 (x7 + 1)) ≤ (x0.length : Int) then ((lontarlaw01_begins.f k (x0.take ((wrap64 (x7 + 1)) : Int).toNat)).bind fun t225 => (if t225 = true then (lontarlaw01_one.l1 k x0 (wrap64 (x7 + 1))) else (if x7 = (x0.length : Int) then (some (0, x7, 2)) else (some (0, mx x7 1, 1))))) else (none)) else (none)) else (if x7 = (x0.length : Int) then (some (0, x7, 2)) else (some (0, mx x7 1, 1)))) else (if x7 = (x0.length : Int) then (some (0, x7, 2)) else (some (0, mx x7 1, 1)))
end
def lontarlaw01_one.f (k : Nat) (l0 : List Int) : Option (Int × Int × Int) := lontarlaw01_one.l0 k l0 1
theorem lontarlaw01_one.mono_l : ∀ k, (∀ y0 y1, LeO (lontarlaw01_one.l0 k y0 y1) (lontarlaw01_one.l0 (k + 1) y0 y1)) ∧ (∀ y0 y1 y2, LeO (lontarlaw01_one.j1 k y0 y1 y2) (lontarlaw01_one.j1 (k + 1) y0 y1 y2)) ∧ (∀ y0 y1 y2, LeO (lontarlaw01_one.j2 k y0 y1 y2) (lontarlaw01_one.j2 (k + 1) y0 y1 y2)) ∧ (∀ y0 y1, LeO (lontarlaw01_one.l1 k y0 y1) (lontarlaw01_one.l1 (k + 1) y0 y1))
 | 0 => ⟨fun _ _ r h => by simp [lontarlaw01_one.l0] at h, fun _ _ _ r h => by simp [lontarlaw01_one.j1] at h, fun _ _ _ r h => by simp [lontarlaw01_one.j2] at h, fun _ _ r h => by simp [lontarlaw01_one.l1] at h⟩
 | k + 1 => by
  obtain ⟨ih0, ih1, ih2, ih3⟩ := lontarlaw01_one.mono_l k
  refine ⟨?_, ?_, ?_, ?_⟩
  ·intro y0 y1
   unfold lontarlaw01_one.l0
   repeat' first
   | (with_reducible exact ih0 _ _)
   | (with_reducible exact ih1 _ _ _)
   | (with_reducible exact ih2 _ _ _)
   | (with_reducible exact ih3 _ _)
   | (with_reducible exact lontarlaw01_begins.mono _ _)
   | (with_reducible exact LeO.refl _)
   | (with_reducible exact LeO.none _)
   | (with_reducible refine LeO.ite ?_ ?_)
   | (with_reducible refine LeO.bind ?_ (fun _ => ?_))
   | exact ih0 _ _
   | exact ih1 _ _ _
   | exact ih2 _ _ _
   | exact ih3 _ _
   | exact lontarlaw01_begins.mono _ _
   | exact LeO.none _
   | refine LeO.ite ?_ ?_
   | refine LeO.bind ?_ (fun _ => ?_)
  ·intro y0 y1 y2
   unfold lontarlaw01_one.j1
   repeat' first
   | (with_reducible exact ih0 _ _)
   | (with_reducible exact ih1 _ _ _)
   | (with_reducible exact ih2 _ _ _)
   | (with_reducible exact ih3 _ _)
   | (with_reducible exact lontarlaw01_begins.mono _ _)
   | (with_reducible exact LeO.refl _)
   | (with_reducible exact LeO.none _)
   | (with_reducible refine LeO.ite ?_ ?_)
   | (with_reducible refine LeO.bind ?_ (fun _ => ?_))
   | exact ih0 _ _
   | exact ih1 _ _ _
   | exact ih2 _ _ _
   | exact ih3 _ _
   | exact lontarlaw01_begins.mono _ _
   | exact LeO.none _
   | refine LeO.ite ?_ ?_
   | refine LeO.bind ?_ (fun _ => ?_)
  ·intro y0 y1 y2
   unfold lontarlaw01_one.j2
   repeat' first
   | (with_reducible exact ih0 _ _)
   | (with_reducible exact ih1 _ _ _)
   | (with_reducible exact ih2 _ _ _)
   | (with_reducible exact ih3 _ _)
   | (with_reducible exact lontarlaw01_begins.mono _ _)
   | (with_reducible exact LeO.refl _)
   | (with_reducible exact LeO.none _)
   | (with_reducible refine LeO.ite ?_ ?_)
   | (with_reducible refine LeO.bind ?_ (fun _ => ?_))
   | exact ih0 _ _
   | exact ih1 _ _ _
   | exact ih2 _ _ _
   | exact ih3 _ _
   | exact lontarlaw01_begins.mono _ _
   | exact LeO.none _
   | refine LeO.ite ?_ ?_
   | refine LeO.bind ?_ (fun _ => ?_)
  ·intro y0 y1
   unfold lontarlaw01_one.l1
   repeat' first
   | (with_reducible exact ih0 _ _)
   | (with_reducible exact ih1 _ _ _)
   | (with_reducible exact ih2 _ _ _)
   | (with_reducible exact ih3 _ _)
   | (with_reducible exact lontarlaw01_begins.mono _ _)
   | (with_reducible exact LeO.refl _)
   | (with_reducible exact LeO.none _)
   | (with_reducible refine LeO.ite ?_ ?_)
   | (with_reducible refine LeO.bind ?_ (fun _ => ?_))
   | exact ih0 _ _
   | exact ih1 _ _ _
   | exact ih2 _ _ _
   | exact ih3 _ _
   | exact lontarlaw01_begins.mono _ _
   | exact LeO.none _
   | refine LeO.ite ?_ ?_
   | refine LeO.bind ?_ (fun _ => ?_)
theorem lontarlaw01_one.mono : ∀ a0 k, LeO (lontarlaw01_one.f k a0) (lontarlaw01_one.f (k + 1) a0) := by
 intro a0 k
 obtain ⟨ih0, ih1, ih2, ih3⟩ := lontarlaw01_one.mono_l k
 unfold lontarlaw01_one.f
 repeat' first
   | (with_reducible exact ih0 _ _)
   | (with_reducible exact ih1 _ _ _)
   | (with_reducible exact ih2 _ _ _)
   | (with_reducible exact ih3 _ _)
   | (with_reducible exact lontarlaw01_begins.mono _ _)
   | (with_reducible exact LeO.refl _)
   | (with_reducible exact LeO.none _)
   | (with_reducible refine LeO.ite ?_ ?_)
   | (with_reducible refine LeO.bind ?_ (fun _ => ?_))
   | exact ih0 _ _
   | exact ih1 _ _ _
   | exact ih2 _ _ _
   | exact ih3 _ _
   | exact lontarlaw01_begins.mono _ _
   | exact LeO.none _
   | refine LeO.ite ?_ ?_
   | refine LeO.bind ?_ (fun _ => ?_)
def lontarlaw01_one.T6 : Bool × List (List Nat × List Nat) := (true, [([], []), ([0], [0]), ([1], [1]), ([2], [2]), ([3], [3]), ([4], [4]), ([], []), ([6], [6]), ([7], [7]), ([8], [8]), ([9], [9]), ([10], [10]), ([5, 11], [5, 11]), ([], []), ([13], [13]), ([14], [14]), ([15], [15]), ([16], [16]), ([17], [17]), ([12, 18], [12, 18]), ([], []), ([20], [20]), ([21], [21]), ([22], [22]), ([23], [23]), ([19, 24], [19, 24]), ([25, 0, 1, 2, 3, 4, 5, 6, 7, 8, 9, 10, 11, 12, 13, 14, 15, 16, 17, 18, 19, 20, 21, 22, 23, 24, 25], [25])])
def lontarlaw01_one.B6 : List Nat := [0, 1, 3, 7, 15, 31, 0, 64, 192, 448, 960, 1984, 4095, 0, 8192, 24576, 57344, 122880, 253952, 524287, 0, 1048576, 3145728, 7340032, 15728640, 33554431, 67108863]
theorem lontarlaw01_one.tab6 : rtab .any (opsOf Try.f21 6) = lontarlaw01_one.T6 := by kernel_rfl
theorem lontarlaw01_one.bits6 : waitsOk lontarlaw01_one.T6.2 lontarlaw01_one.B6 = true := by kernel_rfl
def lontarlaw01_one.T10 : Bool × List (List Nat × List Nat) := (true, [([], []), ([0], [0]), ([1], [1]), ([2], [2]), ([3], [3]), ([4], [4]), ([], []), ([6], [6]), ([7], [7]), ([8], [8]), ([9], [9]), ([5, 10], [5, 10]), ([11, 0, 1, 2, 3, 4, 5, 6, 7, 8, 9, 10, 11], [11])])
def lontarlaw01_one.B10 : List Nat := [0, 1, 3, 7, 15, 31, 0, 64, 192, 448, 960, 2047, 4095]
theorem lontarlaw01_one.tab10 : rtab .any (opsOf Try.f21 10) = lontarlaw01_one.T10 := by kernel_rfl
theorem lontarlaw01_one.bits10 : waitsOk lontarlaw01_one.T10.2 lontarlaw01_one.B10 = true := by kernel_rfl
def lontarlaw01_one.T12 : Bool × List (List Nat × List Nat) := (true, [([], []), ([0], [0]), ([1], [1]), ([2], [2]), ([3], [3]), ([4], [4]), ([], []), ([6], [6]), ([7], [7]), ([8], [8]), ([9], [9]), ([10], [10]), ([5, 11], [5, 11]), ([], []), ([13], [13]), ([14], [14]), ([15], [15]), ([16], [16]), ([12, 17], [12, 17]), ([18, 0, 1, 2, 3, 4, 5, 6, 7, 8, 9, 10, 11, 12, 13, 14, 15, 16, 17, 18], [18])])
def lontarlaw01_one.B12 : List Nat := [0, 1, 3, 7, 15, 31, 0, 64, 192, 448, 960, 1984, 4095, 0, 8192, 24576, 57344, 122880, 262143, 524287]
theorem lontarlaw01_one.tab12 : rtab .any (opsOf Try.f21 12) = lontarlaw01_one.T12 := by kernel_rfl
theorem lontarlaw01_one.bits12 : waitsOk lontarlaw01_one.T12.2 lontarlaw01_one.B12 = true := by kernel_rfl
def lontarlaw01_one.T13 : Bool × List (List Nat × List Nat) := (true, [([], []), ([0], [0]), ([1, 1], [1]), ([2], [2]), ([3, 2, 2], [2, 3]), ([2], [2]), ([2], [2]), ([5, 6, 2], [2, 5, 6]), ([7, 2], [2, 7]), ([4, 8, 2], [2, 4, 8]), ([2, 9], [2, 9])])
def lontarlaw01_one.B13 : List Nat := [0, 1, 3, 7, 15, 7, 7, 103, 231, 511, 1023]
theorem lontarlaw01_one.tab13 : rtab .any (opsOf Try.f21 13) = lontarlaw01_one.T13 := by kernel_rfl
theorem lontarlaw01_one.bits13 : waitsOk lontarlaw01_one.T13.2 lontarlaw01_one.B13 = true := by kernel_rfl
set_option maxHeartbeats 8000000 in
set_option maxRecDepth 100000 in
theorem lontarlaw01_one.calls (k : Nat) (A0 : Option Addr) (c0 : Nat) (l0 : List Int) (r1 : Int) (r2 : Int) (r3 : Int) (w : World) (hr0 : Kd.C (Kd.int .u8) w A0 l0.length l0) (hc0 : l0.length ≤ c0) (h : lontarlaw01_one.f k l0 = some (r1, r2, r3)) :
  Calls Try.prog 21 #[.slice A0 l0.length c0] w fun e w' => e = .returned (.tuple #[.int .i64 r1, .int .i64 r2, .int .i64 r3]) ∧ Below w.heap.size w w' := by
 have HR0 := Aside0.mk hr0
 have HC0 := Aside0.mk hc0
 clear hr0 hc0
 have HB := Aside0.mk (Below.refl w.heap.size w)
 have H : (lontarlaw01_one.l0 k l0 1) = some (r1, r2, r3) := h
 clear h
 have H' := Aside0.mk H
 clear H
 go_enter Try.func21, Try.ntmps21
 go_wp2
 go_loopg [5] k (fun kq v5 w' => ∃ (x5_1 : Int), v5 = .int .i64 x5_1 ∧ Aside0 (lontarlaw01_one.l0 kq l0 x5_1 = some (r1, r2, r3)) ∧ Aside0 (kq ≤ k) ∧ Aside0 (Below w.heap.size w w'))
 case atStart => exact ⟨(1), (by first | rfl | (simp; done) | (simp [*]; done)), H', ⟨Nat.le_refl _⟩, ⟨by repeat (first | (with_reducible first | exact HB.out | apply below_alloc | apply pw_below_drewN | apply below_drew1) | exact HB.out)⟩⟩
 case round =>
  clear H'
  obtain ⟨x5_1, rfl, HA, HK1, HB⟩ := hrel
  cases gk with
  | zero => exact absurd HA.out (by simp [lontarlaw01_one.l0])
  | succ k1 =>
   have H := HA.out
   clear HA
   simp only [lontarlaw01_one.l0] at H
   have HC2 := Aside0.mk H
   clear H
   go_upto_region 2 with (fail)
   go_cut [15] (fun v15 wc => ∃ (kq : Nat) (x15_1 : Bool), v15 = .bool x15_1 ∧ Aside0 (lontarlaw01_one.j1 kq l0 x5_1 x15_1 = some (r1, r2, r3)) ∧ Aside0 (kq ≤ k1) ∧ Aside0 (Below w.heap.size w wc))
   case first =>
    have H := HC2.out
    clear HC2
    by_cases c3 : x5_1 ≤ 4
    ·rw [if_pos c3] at H
     have c3b0 : decide (x5_1 ≤ 4) = true := decide_eq_true c3
     clear c3
     (first | rw [c3b0] | (simp only [i64_w, i32_w]; rw [c3b0]) | skip)
     have H' := Aside0.mk H
     clear H
     go_wp2
     go_meet
     case rel => exact ⟨_, (decide (x5_1 ≤ (l0.length : Int))), (by first | rfl | (simp; done) | (simp [*]; done)), H', ⟨by have := HK1.out; first | omega | exact Nat.le_refl _⟩, ⟨by repeat (first | (with_reducible first | exact HB.out | apply below_alloc | apply pw_below_drewN | apply below_drew1) | exact HB.out)⟩⟩
    ·rw [if_neg c3] at H
     have c3b0 : decide (x5_1 ≤ 4) = false := decide_eq_false c3
     clear c3
     (first | rw [c3b0] | (simp only [i64_w, i32_w]; rw [c3b0]) | skip)
     have H' := Aside0.mk H
     clear H
     go_wp2
     go_meet
     case rel => exact ⟨_, (false), (by first | rfl | (simp; done) | (simp [*]; done)), H', ⟨by have := HK1.out; first | omega | exact Nat.le_refl _⟩, ⟨by repeat (first | (with_reducible first | exact HB.out | apply below_alloc | apply pw_below_drewN | apply below_drew1) | exact HB.out)⟩⟩
   case rest =>
    clear HC2
    try clear c2
    try clear p2
    try clear c3
    try clear c3b0
    obtain ⟨kq, x15_1, rfl, HA, HJ1, HB⟩ := hcut
    cases kq with
    | zero => exact absurd HA.out (by simp [lontarlaw01_one.j1])
    | succ kj1 =>
     have H := HA.out
     clear HA
     simp only [lontarlaw01_one.j1] at H
     by_cases c4 : x15_1 = true
     ·subst c4
      have H1 : (if x5_1 = 1 then (if 0 < (l0.length : Int) then (lontarlaw01_one.j2 kj1 l0 x5_1 (wrap64 (rd l0 0))) else (none)) else (if x5_1 = 2 then (if 0 < (l0.length : Int) then (if 1 < (l0.length : Int) then (lontarlaw01_one.j2 kj1 l0 x5_1 (wrap64 ((wrap64 ((wrap64 (Go.bits .and .u8 (rd l0 0) 31)) * 64)) + (wrap64 (Go.bits .and .u8 (rd l0 1) 63))))) else (none)) else (none)) else (if x5_1 = 3 then (if 0 < (l0.length : Int) then (if 1 < (l0.length : Int) then (if 2 < (l0.length : Int) then (lontarlaw01_one.j2 kj1 l0 x5_1 (wrap64 ((wrap64 ((wrap64 ((wrap64 (Go.bits .and .u8 (rd l0 0) 15)) * 4096)) + (wrap64 ((wrap64 (Go.bits .and .u8 (rd l0 1) 63)) * 64)))) + (wrap64 (Go.bits .and .u8 (rd l0 2) 63))))) else (none)) else (none)) else (none)) else (if 0 < (l0.length : Int) then (if 1 < (l0.length : Int) then (if 2 < (l0.length : Int) then (if 3 < (l0.length : Int) then (lontarlaw01_one.j2 kj1 l0 x5_1 (wrap64 ((wrap64 ((wrap64 ((wrap64 ((wrap64 (Go.bits .and .u8 (rd l0 0) 7)) * 262144)) + (wrap64 ((wrap64 (Go.bits .and .u8 (rd l0 1) 63)) * 4096)))) + (wrap64 ((wrap64 (Go.bits .and .u8 (rd l0 2) 63)) * 64)))) + (wrap64 (Go.bits .and .u8 (rd l0 3) 63))))) else (none)) else (none)) else (none)) else (none))))) = some (r1, r2, r3) := by rw [if_pos rfl] at H; exact H
      clear H
      have H := H1
      clear H1
      have HC5 := Aside0.mk H
      clear H
      go_upto_block 2 with (fail)
      go_cut [6] (fun v6 wc => ∃ (kq : Nat) (x6_4 : Int), v6 = .int .i64 x6_4 ∧ Aside0 (lontarlaw01_one.j2 kq l0 x5_1 x6_4 = some (r1, r2, r3)) ∧ Aside0 (kq ≤ kj1) ∧ Aside0 (Below w.heap.size w wc))
      case first =>
       have H := HC5.out
       clear HC5
       by_cases c6 : x5_1 = 1
       ·rw [if_pos c6] at H
        have c6b0 : (x5_1 == 1) = true := beq_iff_eq.mpr c6
        have c6b1 : (x5_1 != 1) = false := bne_eq_false_iff_eq.mpr c6
        clear c6
        (first | rw [c6b0] | (simp only [i64_w, i32_w]; rw [c6b0]) | skip)
        by_cases c7 : 0 < (l0.length : Int)
        ·rw [if_pos c7] at H
         have c7b0 : decide (0 < (l0.length : Int)) = true := decide_eq_true c7
         have c7b1 : decide (0 < l0.length) = true := decide_eq_true (by omega)
         clear c7
         have H' := Aside0.mk H
         clear H
         have p211 : 0 ≤ (0 : Int) := (by omega)
         have q211 : 0 < (l0.length : Int) := of_decide_eq_true (by first | (with_reducible assumption) | assumption)
         obtain ⟨ad211, e211, hx211_0⟩ := Kd.at_int HR0.out 0 p211 q211
         cases e211
         have qi211 : (0 < l0.length) = True := eq_true (by omega)
         (try rw [show ((0 : Int)).toNat = 0 from rfl] at hx211_0)
         (try rw [Addr.add_zero'] at hx211_0)
         replace hx211_0 := (HB.out.cell (World.block_lt_of_cell? w _ hx211_0)).trans hx211_0
         replace p211 := eq_true p211
         replace q211 := eq_true q211
         go_wp2
         go_meet
         case rel => exact ⟨_, (wrap64 (rd l0 0)), (by first | rfl | (simp; done) | (simp [*]; done)), H', ⟨by have := HK1.out; have := HJ1.out; first | omega | exact Nat.le_refl _⟩, ⟨by repeat (first | (with_reducible first | exact HB.out | apply below_alloc | apply pw_below_drewN | apply below_drew1) | exact HB.out)⟩⟩
        ·rw [if_neg c7] at H
         exact absurd H (by simp)
       ·rw [if_neg c6] at H
        have c6b0 : (x5_1 == 1) = false := beq_eq_false_iff_ne.mpr c6
        have c6b1 : (x5_1 != 1) = true := bne_iff_ne.mpr c6
        (first | rw [c6b0] | (simp only [i64_w, i32_w]; rw [c6b0]) | skip)
        by_cases c8 : x5_1 = 2
        ·rw [if_pos c8] at H
         have c8b0 : (x5_1 == 2) = true := beq_iff_eq.mpr c8
         have c8b1 : (x5_1 != 2) = false := bne_eq_false_iff_eq.mpr c8
         clear c8
         by_cases c9 : 0 < (l0.length : Int)
         ·rw [if_pos c9] at H
          have c9b0 : decide (0 < (l0.length : Int)) = true := decide_eq_true c9
          have c9b1 : decide (0 < l0.length) = true := decide_eq_true (by omega)
          clear c9
          by_cases c10 : 1 < (l0.length : Int)
          ·rw [if_pos c10] at H
           have c10b0 : decide (1 < (l0.length : Int)) = true := decide_eq_true c10
           have c10b1 : decide (1 < l0.length) = true := decide_eq_true (by omega)
           clear c10
           have H' := Aside0.mk H
           clear H
           try go_wp2
           have n0_ := Aside0.mk (below_drew1 HB.out)
           clear HB
           have HB := n0_
           clear n0_
           have p212 : 0 ≤ (0 : Int) := (by omega)
           have q212 : 0 < (l0.length : Int) := of_decide_eq_true (by first | (with_reducible assumption) | assumption)
           obtain ⟨ad212, e212, hx212_0⟩ := Kd.at_int HR0.out 0 p212 q212
           have hw212_0 := hx212_0
           (try rw [show ((0 : Int)).toNat = 0 from rfl] at hw212_0)
           (try rw [show 0 * 1 = 0 from rfl] at hw212_0)
           (try rw [Addr.add_zero'] at hw212_0)
           cases e212
           have qi212 : (0 < l0.length) = True := eq_true (by omega)
           (try rw [show ((0 : Int)).toNat = 0 from rfl] at hx212_0)
           (try rw [Addr.add_zero'] at hx212_0)
           replace hx212_0 := (HB.out.cell (World.block_lt_of_cell? w _ hx212_0)).trans hx212_0
           replace p212 := eq_true p212
           replace q212 := eq_true q212
           have p213 : 0 ≤ (1 : Int) := (by omega)
           have q213 : 1 < (l0.length : Int) := of_decide_eq_true (by first | (with_reducible assumption) | assumption)
           obtain ⟨ad213, e213, hx213_0⟩ := Kd.at_int HR0.out 1 p213 q213
           have hw213_0 := hx213_0
           (try rw [show ((1 : Int)).toNat = 1 from rfl] at hw213_0)
           (try rw [show 1 * 1 = 1 from rfl] at hw213_0)
           (try simp only [Nat.reduceMul, Nat.reduceEqDiff, Go.Addr.add, ↓reduceIte] at hw213_0)
           obtain rfl : ad212 = ad213 := (by injection e213)
           (try simp only [show (1 : Int).toNat = 1 from rfl, Nat.reduceMul, Nat.reduceEqDiff, Go.Addr.add, ↓reduceIte] at hx213_0)
           have qi213 : (1 < l0.length) = True := eq_true (by omega)
           (try rw [show ((1 : Int)).toNat = 1 from rfl] at hx213_0)
           replace hx213_0 := (HB.out.cell (World.block_lt_of_cell? w _ hx213_0)).trans hx213_0
           replace p213 := eq_true p213
           replace q213 := eq_true q213
           refine start_ (n := 13) (S := fun w' => w'.cell? ad212 = some (.int .u8 (rd l0 0)) ∧ w'.cell? ⟨ad212.block, ad212.off + 1, none⟩ = some (.int .u8 (rd l0 1))) (ds := []) #[Z7, Z7, Z7, Z7, Z7, Z7, Z7, Z7, Z7, Z7, Z7, Z7, Z7] (by kernel_rfl) rfl rfl ⟨((HB.out.cell (World.block_lt_of_cell? w _ hw212_0)).trans hw212_0), ((HB.out.cell (World.block_lt_of_cell? w _ hw213_0)).trans hw213_0)⟩ (fun hHeld => ?_); refine with_tabW lontarlaw01_one.tab10 lontarlaw01_one.bits10 (fun HT_ HW_ => ?_)
           generalize wc.drew = w11 at HB hx212_0 hx213_0 hHeld ⊢
           refine pure_ (i := 0) (N := some 53) (v := ?_) (a' := ?_) #[Y7, Z7, Z7, Z7, Z7, Z7, Z7, Z7, Z7, Z7, Z7, Z7, Z7] rfl rfl (any_of HT_.out (by kernel_rfl)) (fun _ _ _ h => h) (Or.inl ⟨by rfl, ?_⟩) ?_ ?_
           rotate_left
           ·intro w'
            go_simp
            with_reducible rfl
           rotate_left
           ·simp only [Act.put, List.setIfInBounds_toArray, List.set_cons_zero, List.set_cons_succ, i64_w, i32_w]
            rfl
           refine pure_ (i := 1) (N := some 54) (v := ?_) (a' := ?_) #[Y7, Y7, Z7, Z7, Z7, Z7, Z7, Z7, Z7, Z7, Z7, Z7, Z7] rfl rfl (any_of HT_.out (by kernel_rfl)) (fun _ _ _ h => h) (Or.inl ⟨by rfl, ?_⟩) ?_ ?_
           rotate_left
           ·intro w'
            go_simp
            with_reducible rfl
           rotate_left
           ·simp only [Act.put, List.setIfInBounds_toArray, List.set_cons_zero, List.set_cons_succ, i64_w, i32_w]
            rfl
           refine pure_ (i := 6) (N := some 59) (v := ?_) (a' := ?_) #[Y7, Y7, Z7, Z7, Z7, Z7, Y7, Z7, Z7, Z7, Z7, Z7, Z7] rfl rfl (any_of HT_.out (by kernel_rfl)) (fun _ _ _ h => h) (Or.inl ⟨by rfl, ?_⟩) ?_ ?_
           rotate_left
           ·intro w'
            go_simp
            with_reducible rfl
           rotate_left
           ·simp only [Act.put, List.setIfInBounds_toArray, List.set_cons_zero, List.set_cons_succ, i64_w, i32_w]
            rfl
           refine pure_ (i := 7) (N := some 60) (v := ?_) (a' := ?_) #[Y7, Y7, Z7, Z7, Z7, Z7, Y7, Y7, Z7, Z7, Z7, Z7, Z7] rfl rfl (any_of HT_.out (by kernel_rfl)) (fun _ _ _ h => h) (Or.inl ⟨by rfl, ?_⟩) ?_ ?_
           rotate_left
           ·intro w'
            go_simp
            with_reducible rfl
           rotate_left
           ·simp only [Act.put, List.setIfInBounds_toArray, List.set_cons_zero, List.set_cons_succ, i64_w, i32_w]
            rfl
           refine take_ (i := 2) (N := some 55) (v := ?_) (a' := ?_) #[Y7, Y7, Y7, Z7, Z7, Z7, Y7, Y7, Z7, Z7, Z7, Z7, Z7] rfl rfl (take_ofW HT_.out HW_.out (by kernel_rfl)) (fun _ _ _ h => h) (Or.inl ⟨by rfl, ?_⟩) hHeld ?_ ?_
           rotate_left
           ·rintro w' ⟨s0, s1⟩
            go_simp
            with_reducible rfl
           rotate_left
           ·simp only [Act.put, List.setIfInBounds_toArray, List.set_cons_zero, List.set_cons_succ, i64_w, i32_w]
            rfl
           refine pure_ (i := 3) (N := some 56) (v := ?_) (a' := ?_) #[Y7, Y7, Y7, Y7, Z7, Z7, Y7, Y7, Z7, Z7, Z7, Z7, Z7] rfl rfl (any_of HT_.out (by kernel_rfl)) (fun _ _ _ h => h) (Or.inl ⟨by rfl, ?_⟩) ?_ ?_
           rotate_left
           ·intro w'
            go_simp
            with_reducible rfl
           rotate_left
           ·simp only [Act.put, List.setIfInBounds_toArray, List.set_cons_zero, List.set_cons_succ, i64_w, i32_w]
            rfl
           refine pure_ (i := 4) (N := some 57) (v := ?_) (a' := ?_) #[Y7, Y7, Y7, Y7, Y7, Z7, Y7, Y7, Z7, Z7, Z7, Z7, Z7] rfl rfl (any_of HT_.out (by kernel_rfl)) (fun _ _ _ h => h) (Or.inl ⟨by rfl, ?_⟩) ?_ ?_
           rotate_left
           ·intro w'
            go_simp
            with_reducible rfl
           rotate_left
           ·simp only [Act.put, List.setIfInBounds_toArray, List.set_cons_zero, List.set_cons_succ, i64_w, i32_w]
            rfl
           refine pure_ (i := 5) (N := some 58) (v := ?_) (a' := ?_) #[Y7, Y7, Y7, Y7, Y7, Y7, Y7, Y7, Z7, Z7, Z7, Z7, Z7] rfl rfl (any_of HT_.out (by kernel_rfl)) (fun _ _ _ h => h) (Or.inl ⟨by rfl, ?_⟩) ?_ ?_
           rotate_left
           ·intro w'
            go_simp
            with_reducible rfl
           rotate_left
           ·simp only [Act.put, List.setIfInBounds_toArray, List.set_cons_zero, List.set_cons_succ, i64_w, i32_w]
            rfl
           refine take_ (i := 8) (N := some 61) (v := ?_) (a' := ?_) #[Y7, Y7, Y7, Y7, Y7, Y7, Y7, Y7, Y7, Z7, Z7, Z7, Z7] rfl rfl (take_ofW HT_.out HW_.out (by kernel_rfl)) (fun _ _ _ h => h) (Or.inl ⟨by rfl, ?_⟩) hHeld ?_ ?_
           rotate_left
           ·rintro w' ⟨s0, s1⟩
            go_simp
            with_reducible rfl
           rotate_left
           ·simp only [Act.put, List.setIfInBounds_toArray, List.set_cons_zero, List.set_cons_succ, i64_w, i32_w]
            rfl
           refine pure_ (i := 9) (N := some 62) (v := ?_) (a' := ?_) #[Y7, Y7, Y7, Y7, Y7, Y7, Y7, Y7, Y7, Y7, Z7, Z7, Z7] rfl rfl (any_of HT_.out (by kernel_rfl)) (fun _ _ _ h => h) (Or.inl ⟨by rfl, ?_⟩) ?_ ?_
           rotate_left
           ·intro w'
            go_simp
            with_reducible rfl
           rotate_left
           ·simp only [Act.put, List.setIfInBounds_toArray, List.set_cons_zero, List.set_cons_succ, i64_w, i32_w]
            rfl
           refine pure_ (i := 10) (N := some 63) (v := ?_) (a' := ?_) #[Y7, Y7, Y7, Y7, Y7, Y7, Y7, Y7, Y7, Y7, Y7, Z7, Z7] rfl rfl (any_of HT_.out (by kernel_rfl)) (fun _ _ _ h => h) (Or.inl ⟨by rfl, ?_⟩) ?_ ?_
           rotate_left
           ·intro w'
            go_simp
            with_reducible rfl
           rotate_left
           ·simp only [Act.put, List.setIfInBounds_toArray, List.set_cons_zero, List.set_cons_succ, i64_w, i32_w]
            rfl
           refine pure_ (i := 11) (N := some 64) (v := ?_) (a' := ?_) #[Y7, Y7, Y7, Y7, Y7, Y7, Y7, Y7, Y7, Y7, Y7, Y7, Z7] rfl rfl (any_of HT_.out (by kernel_rfl)) (fun _ _ _ h => h) (Or.inl ⟨by rfl, ?_⟩) ?_ ?_
           rotate_left
           ·intro w'
            go_simp
            with_reducible rfl
           rotate_left
           ·simp only [Act.put, List.setIfInBounds_toArray, List.set_cons_zero, List.set_cons_succ, i64_w, i32_w]
            rfl
           refine pure_ (i := 12) (N := some 6) (v := ?_) (a' := ?_) #[Y7, Y7, Y7, Y7, Y7, Y7, Y7, Y7, Y7, Y7, Y7, Y7, Y7] rfl rfl (any_of HT_.out (by kernel_rfl)) (fun _ _ _ h => h) (Or.inl ⟨by rfl, ?_⟩) ?_ ?_
           rotate_left
           ·intro w'
            go_simp
            with_reducible rfl
           rotate_left
           ·simp only [Act.put, List.setIfInBounds_toArray, List.set_cons_zero, List.set_cons_succ, i64_w, i32_w]
            rfl
           refine done_ (done_of HT_.out (by kernel_rfl)) ?_
           try go_wp2
           go_meet
           case rel => exact ⟨_, (wrap64 ((wrap64 ((wrap64 (Go.bits .and .u8 (rd l0 0) 31)) * 64)) + (wrap64 (Go.bits .and .u8 (rd l0 1) 63)))), (by first | rfl | (simp; done) | (simp [*]; done)), H', ⟨by have := HK1.out; have := HJ1.out; first | omega | exact Nat.le_refl _⟩, ⟨by repeat (first | (with_reducible first | exact HB.out | apply below_alloc | apply pw_below_drewN | apply below_drew1) | exact HB.out)⟩⟩
          ·rw [if_neg c10] at H
           exact absurd H (by simp)
         ·rw [if_neg c9] at H
          exact absurd H (by simp)
        ·rw [if_neg c8] at H
         have c8b0 : (x5_1 == 2) = false := beq_eq_false_iff_ne.mpr c8
         have c8b1 : (x5_1 != 2) = true := bne_iff_ne.mpr c8
         by_cases c12 : x5_1 = 3
         ·rw [if_pos c12] at H
          have c12b0 : (x5_1 == 3) = true := beq_iff_eq.mpr c12
          have c12b1 : (x5_1 != 3) = false := bne_eq_false_iff_eq.mpr c12
          clear c12
          by_cases c13 : 0 < (l0.length : Int)
          ·rw [if_pos c13] at H
           have c13b0 : decide (0 < (l0.length : Int)) = true := decide_eq_true c13
           have c13b1 : decide (0 < l0.length) = true := decide_eq_true (by omega)
           clear c13
           by_cases c14 : 1 < (l0.length : Int)
           ·rw [if_pos c14] at H
            have c14b0 : decide (1 < (l0.length : Int)) = true := decide_eq_true c14
            have c14b1 : decide (1 < l0.length) = true := decide_eq_true (by omega)
            clear c14
            by_cases c15 : 2 < (l0.length : Int)
            ·rw [if_pos c15] at H
             have c15b0 : decide (2 < (l0.length : Int)) = true := decide_eq_true c15
             have c15b1 : decide (2 < l0.length) = true := decide_eq_true (by omega)
             clear c15
             have H' := Aside0.mk H
             clear H
             try go_wp2
             have n0_ := Aside0.mk (below_drew1 HB.out)
             clear HB
             have HB := n0_
             clear n0_
             have p214 : 0 ≤ (0 : Int) := (by omega)
             have q214 : 0 < (l0.length : Int) := of_decide_eq_true (by first | (with_reducible assumption) | assumption)
             obtain ⟨ad214, e214, hx214_0⟩ := Kd.at_int HR0.out 0 p214 q214
             have hw214_0 := hx214_0
             (try rw [show ((0 : Int)).toNat = 0 from rfl] at hw214_0)
             (try rw [show 0 * 1 = 0 from rfl] at hw214_0)
             (try rw [Addr.add_zero'] at hw214_0)
             cases e214
             have qi214 : (0 < l0.length) = True := eq_true (by omega)
             (try rw [show ((0 : Int)).toNat = 0 from rfl] at hx214_0)
             (try rw [Addr.add_zero'] at hx214_0)
             replace hx214_0 := (HB.out.cell (World.block_lt_of_cell? w _ hx214_0)).trans hx214_0
             replace p214 := eq_true p214
             replace q214 := eq_true q214
             have p215 : 0 ≤ (1 : Int) := (by omega)
             have q215 : 1 < (l0.length : Int) := of_decide_eq_true (by first | (with_reducible assumption) | assumption)
             obtain ⟨ad215, e215, hx215_0⟩ := Kd.at_int HR0.out 1 p215 q215
             have hw215_0 := hx215_0
             (try rw [show ((1 : Int)).toNat = 1 from rfl] at hw215_0)
             (try rw [show 1 * 1 = 1 from rfl] at hw215_0)
             (try simp only [Nat.reduceMul, Nat.reduceEqDiff, Go.Addr.add, ↓reduceIte] at hw215_0)
             obtain rfl : ad214 = ad215 := (by injection e215)
             (try simp only [show (1 : Int).toNat = 1 from rfl, Nat.reduceMul, Nat.reduceEqDiff, Go.Addr.add, ↓reduceIte] at hx215_0)
             have qi215 : (1 < l0.length) = True := eq_true (by omega)
             (try rw [show ((1 : Int)).toNat = 1 from rfl] at hx215_0)
             replace hx215_0 := (HB.out.cell (World.block_lt_of_cell? w _ hx215_0)).trans hx215_0
             replace p215 := eq_true p215
             replace q215 := eq_true q215
             have p216 : 0 ≤ (2 : Int) := (by omega)
             have q216 : 2 < (l0.length : Int) := of_decide_eq_true (by first | (with_reducible assumption) | assumption)
             obtain ⟨ad216, e216, hx216_0⟩ := Kd.at_int HR0.out 2 p216 q216
             have hw216_0 := hx216_0
             (try rw [show ((2 : Int)).toNat = 2 from rfl] at hw216_0)
             (try rw [show 2 * 1 = 2 from rfl] at hw216_0)
             (try simp only [Nat.reduceMul, Nat.reduceEqDiff, Go.Addr.add, ↓reduceIte] at hw216_0)
             obtain rfl : ad214 = ad216 := (by injection e216)
             (try simp only [show (2 : Int).toNat = 2 from rfl, Nat.reduceMul, Nat.reduceEqDiff, Go.Addr.add, ↓reduceIte] at hx216_0)
             have qi216 : (2 < l0.length) = True := eq_true (by omega)
             (try rw [show ((2 : Int)).toNat = 2 from rfl] at hx216_0)
             replace hx216_0 := (HB.out.cell (World.block_lt_of_cell? w _ hx216_0)).trans hx216_0
             replace p216 := eq_true p216
             replace q216 := eq_true q216
             refine start_ (n := 20) (S := fun w' => w'.cell? ad214 = some (.int .u8 (rd l0 0)) ∧ w'.cell? ⟨ad214.block, ad214.off + 1, none⟩ = some (.int .u8 (rd l0 1)) ∧ w'.cell? ⟨ad214.block, ad214.off + 2, none⟩ = some (.int .u8 (rd l0 2))) (ds := []) #[Z7, Z7, Z7, Z7, Z7, Z7, Z7, Z7, Z7, Z7, Z7, Z7, Z7, Z7, Z7, Z7, Z7, Z7, Z7, Z7] (by kernel_rfl) rfl rfl ⟨((HB.out.cell (World.block_lt_of_cell? w _ hw214_0)).trans hw214_0), ((HB.out.cell (World.block_lt_of_cell? w _ hw215_0)).trans hw215_0), ((HB.out.cell (World.block_lt_of_cell? w _ hw216_0)).trans hw216_0)⟩ (fun hHeld => ?_); refine with_tabW lontarlaw01_one.tab12 lontarlaw01_one.bits12 (fun HT_ HW_ => ?_)
             generalize wc.drew = w16 at HB hx214_0 hx215_0 hx216_0 hHeld ⊢
             refine pure_ (i := 0) (N := some 67) (v := ?_) (a' := ?_) #[Y7, Z7, Z7, Z7, Z7, Z7, Z7, Z7, Z7, Z7, Z7, Z7, Z7, Z7, Z7, Z7, Z7, Z7, Z7, Z7] rfl rfl (any_of HT_.out (by kernel_rfl)) (fun _ _ _ h => h) (Or.inl ⟨by rfl, ?_⟩) ?_ ?_
             rotate_left
             ·intro w'
              go_simp
              with_reducible rfl
             rotate_left
             ·simp only [Act.put, List.setIfInBounds_toArray, List.set_cons_zero, List.set_cons_succ, i64_w, i32_w]
              rfl
             refine pure_ (i := 1) (N := some 68) (v := ?_) (a' := ?_) #[Y7, Y7, Z7, Z7, Z7, Z7, Z7, Z7, Z7, Z7, Z7, Z7, Z7, Z7, Z7, Z7, Z7, Z7, Z7, Z7] rfl rfl (any_of HT_.out (by kernel_rfl)) (fun _ _ _ h => h) (Or.inl ⟨by rfl, ?_⟩) ?_ ?_
             rotate_left
             ·intro w'
              go_simp
              with_reducible rfl
             rotate_left
             ·simp only [Act.put, List.setIfInBounds_toArray, List.set_cons_zero, List.set_cons_succ, i64_w, i32_w]
              rfl
             refine pure_ (i := 6) (N := some 73) (v := ?_) (a' := ?_) #[Y7, Y7, Z7, Z7, Z7, Z7, Y7, Z7, Z7, Z7, Z7, Z7, Z7, Z7, Z7, Z7, Z7, Z7, Z7, Z7] rfl rfl (any_of HT_.out (by kernel_rfl)) (fun _ _ _ h => h) (Or.inl ⟨by rfl, ?_⟩) ?_ ?_
             rotate_left
             ·intro w'
              go_simp
              with_reducible rfl
             rotate_left
             ·simp only [Act.put, List.setIfInBounds_toArray, List.set_cons_zero, List.set_cons_succ, i64_w, i32_w]
              rfl
             refine pure_ (i := 7) (N := some 74) (v := ?_) (a' := ?_) #[Y7, Y7, Z7, Z7, Z7, Z7, Y7, Y7, Z7, Z7, Z7, Z7, Z7, Z7, Z7, Z7, Z7, Z7, Z7, Z7] rfl rfl (any_of HT_.out (by kernel_rfl)) (fun _ _ _ h => h) (Or.inl ⟨by rfl, ?_⟩) ?_ ?_
             rotate_left
             ·intro w'
              go_simp
              with_reducible rfl
             rotate_left
             ·simp only [Act.put, List.setIfInBounds_toArray, List.set_cons_zero, List.set_cons_succ, i64_w, i32_w]
              rfl
             refine pure_ (i := 13) (N := some 80) (v := ?_) (a' := ?_) #[Y7, Y7, Z7, Z7, Z7, Z7, Y7, Y7, Z7, Z7, Z7, Z7, Z7, Y7, Z7, Z7, Z7, Z7, Z7, Z7] rfl rfl (any_of HT_.out (by kernel_rfl)) (fun _ _ _ h => h) (Or.inl ⟨by rfl, ?_⟩) ?_ ?_
             rotate_left
             ·intro w'
              go_simp
              with_reducible rfl
             rotate_left
             ·simp only [Act.put, List.setIfInBounds_toArray, List.set_cons_zero, List.set_cons_succ, i64_w, i32_w]
              rfl
             refine pure_ (i := 14) (N := some 81) (v := ?_) (a' := ?_) #[Y7, Y7, Z7, Z7, Z7, Z7, Y7, Y7, Z7, Z7, Z7, Z7, Z7, Y7, Y7, Z7, Z7, Z7, Z7, Z7] rfl rfl (any_of HT_.out (by kernel_rfl)) (fun _ _ _ h => h) (Or.inl ⟨by rfl, ?_⟩) ?_ ?_
             rotate_left
             ·intro w'
              go_simp
              with_reducible rfl
             rotate_left
             ·simp only [Act.put, List.setIfInBounds_toArray, List.set_cons_zero, List.set_cons_succ, i64_w, i32_w]
              rfl
             refine take_ (i := 2) (N := some 69) (v := ?_) (a' := ?_) #[Y7, Y7, Y7, Z7, Z7, Z7, Y7, Y7, Z7, Z7, Z7, Z7, Z7, Y7, Y7, Z7, Z7, Z7, Z7, Z7] rfl rfl (take_ofW HT_.out HW_.out (by kernel_rfl)) (fun _ _ _ h => h) (Or.inl ⟨by rfl, ?_⟩) hHeld ?_ ?_
             rotate_left
             ·rintro w' ⟨s0, s1, s2⟩
              go_simp
              with_reducible rfl
             rotate_left
             ·simp only [Act.put, List.setIfInBounds_toArray, List.set_cons_zero, List.set_cons_succ, i64_w, i32_w]
              rfl
             refine pure_ (i := 3) (N := some 70) (v := ?_) (a' := ?_) #[Y7, Y7, Y7, Y7, Z7, Z7, Y7, Y7, Z7, Z7, Z7, Z7, Z7, Y7, Y7, Z7, Z7, Z7, Z7, Z7] rfl rfl (any_of HT_.out (by kernel_rfl)) (fun _ _ _ h => h) (Or.inl ⟨by rfl, ?_⟩) ?_ ?_
             rotate_left
             ·intro w'
              go_simp
              with_reducible rfl
             rotate_left
             ·simp only [Act.put, List.setIfInBounds_toArray, List.set_cons_zero, List.set_cons_succ, i64_w, i32_w]
              rfl
             refine pure_ (i := 4) (N := some 71) (v := ?_) (a' := ?_) #[Y7, Y7, Y7, Y7, Y7, Z7, Y7, Y7, Z7, Z7, Z7, Z7, Z7, Y7, Y7, Z7, Z7, Z7, Z7, Z7] rfl rfl (any_of HT_.out (by kernel_rfl)) (fun _ _ _ h => h) (Or.inl ⟨by rfl, ?_⟩) ?_ ?_
             rotate_left
             ·intro w'
              go_simp
              with_reducible rfl
             rotate_left
             ·simp only [Act.put, List.setIfInBounds_toArray, List.set_cons_zero, List.set_cons_succ, i64_w, i32_w]
              rfl
             refine pure_ (i := 5) (N := some 72) (v := ?_) (a' := ?_) #[Y7, Y7, Y7, Y7, Y7, Y7, Y7, Y7, Z7, Z7, Z7, Z7, Z7, Y7, Y7, Z7, Z7, Z7, Z7, Z7] rfl rfl (any_of HT_.out (by kernel_rfl)) (fun _ _ _ h => h) (Or.inl ⟨by rfl, ?_⟩) ?_ ?_
             rotate_left
             ·intro w'
              go_simp
              with_reducible rfl
             rotate_left
             ·simp only [Act.put, List.setIfInBounds_toArray, List.set_cons_zero, List.set_cons_succ, i64_w, i32_w]
              rfl
             refine take_ (i := 8) (N := some 75) (v := ?_) (a' := ?_) #[Y7, Y7, Y7, Y7, Y7, Y7, Y7, Y7, Y7, Z7, Z7, Z7, Z7, Y7, Y7, Z7, Z7, Z7, Z7, Z7] rfl rfl (take_ofW HT_.out HW_.out (by kernel_rfl)) (fun _ _ _ h => h) (Or.inl ⟨by rfl, ?_⟩) hHeld ?_ ?_
             rotate_left
             ·rintro w' ⟨s0, s1, s2⟩
              go_simp
              with_reducible rfl
             rotate_left
             ·simp only [Act.put, List.setIfInBounds_toArray, List.set_cons_zero, List.set_cons_succ, i64_w, i32_w]
              rfl
             refine pure_ (i := 9) (N := some 76) (v := ?_) (a' := ?_) #[Y7, Y7, Y7, Y7, Y7, Y7, Y7, Y7, Y7, Y7, Z7, Z7, Z7, Y7, Y7, Z7, Z7, Z7, Z7, Z7] rfl rfl (any_of HT_.out (by kernel_rfl)) (fun _ _ _ h => h) (Or.inl ⟨by rfl, ?_⟩) ?_ ?_
             rotate_left
             ·intro w'
              go_simp
              with_reducible rfl
             rotate_left
             ·simp only [Act.put, List.setIfInBounds_toArray, List.set_cons_zero, List.set_cons_succ, i64_w, i32_w]
              rfl
             refine pure_ (i := 10) (N := some 77) (v := ?_) (a' := ?_) #[Y7, Y7, Y7, Y7, Y7, Y7, Y7, Y7, Y7, Y7, Y7, Z7, Z7, Y7, Y7, Z7, Z7, Z7, Z7, Z7] rfl rfl (any_of HT_.out (by kernel_rfl)) (fun _ _ _ h => h) (Or.inl ⟨by rfl, ?_⟩) ?_ ?_
             rotate_left
             ·intro w'
              go_simp
              with_reducible rfl
             rotate_left
             ·simp only [Act.put, List.setIfInBounds_toArray, List.set_cons_zero, List.set_cons_succ, i64_w, i32_w]
              rfl
             refine pure_ (i := 11) (N := some 78) (v := ?_) (a' := ?_) #[Y7, Y7, Y7, Y7, Y7, Y7, Y7, Y7, Y7, Y7, Y7, Y7, Z7, Y7, Y7, Z7, Z7, Z7, Z7, Z7] rfl rfl (any_of HT_.out (by kernel_rfl)) (fun _ _ _ h => h) (Or.inl ⟨by rfl, ?_⟩) ?_ ?_
             rotate_left
             ·intro w'
              go_simp
              with_reducible rfl
             rotate_left
             ·simp only [Act.put, List.setIfInBounds_toArray, List.set_cons_zero, List.set_cons_succ, i64_w, i32_w]
              rfl
             refine pure_ (i := 12) (N := some 79) (v := ?_) (a' := ?_) #[Y7, Y7, Y7, Y7, Y7, Y7, Y7, Y7, Y7, Y7, Y7, Y7, Y7, Y7, Y7, Z7, Z7, Z7, Z7, Z7] rfl rfl (any_of HT_.out (by kernel_rfl)) (fun _ _ _ h => h) (Or.inl ⟨by rfl, ?_⟩) ?_ ?_
             rotate_left
             ·intro w'
              go_simp
              with_reducible rfl
             rotate_left
             ·simp only [Act.put, List.setIfInBounds_toArray, List.set_cons_zero, List.set_cons_succ, i64_w, i32_w]
              rfl
             refine take_ (i := 15) (N := some 82) (v := ?_) (a' := ?_) #[Y7, Y7, Y7, Y7, Y7, Y7, Y7, Y7, Y7, Y7, Y7, Y7, Y7, Y7, Y7, Y7, Z7, Z7, Z7, Z7] rfl rfl (take_ofW HT_.out HW_.out (by kernel_rfl)) (fun _ _ _ h => h) (Or.inl ⟨by rfl, ?_⟩) hHeld ?_ ?_
             rotate_left
             ·rintro w' ⟨s0, s1, s2⟩
              go_simp
              with_reducible rfl
             rotate_left
             ·simp only [Act.put, List.setIfInBounds_toArray, List.set_cons_zero, List.set_cons_succ, i64_w, i32_w]
              rfl
             refine pure_ (i := 16) (N := some 83) (v := ?_) (a' := ?_) #[Y7, Y7, Y7, Y7, Y7, Y7, Y7, Y7, Y7, Y7, Y7, Y7, Y7, Y7, Y7, Y7, Y7, Z7, Z7, Z7] rfl rfl (any_of HT_.out (by kernel_rfl)) (fun _ _ _ h => h) (Or.inl ⟨by rfl, ?_⟩) ?_ ?_
             rotate_left
             ·intro w'
              go_simp
              with_reducible rfl
             rotate_left
             ·simp only [Act.put, List.setIfInBounds_toArray, List.set_cons_zero, List.set_cons_succ, i64_w, i32_w]
              rfl
             refine pure_ (i := 17) (N := some 84) (v := ?_) (a' := ?_) #[Y7, Y7, Y7, Y7, Y7, Y7, Y7, Y7, Y7, Y7, Y7, Y7, Y7, Y7, Y7, Y7, Y7, Y7, Z7, Z7] rfl rfl (any_of HT_.out (by kernel_rfl)) (fun _ _ _ h => h) (Or.inl ⟨by rfl, ?_⟩) ?_ ?_
             rotate_left
             ·intro w'
              go_simp
              with_reducible rfl
             rotate_left
             ·simp only [Act.put, List.setIfInBounds_toArray, List.set_cons_zero, List.set_cons_succ, i64_w, i32_w]
              rfl
             refine pure_ (i := 18) (N := some 85) (v := ?_) (a' := ?_) #[Y7, Y7, Y7, Y7, Y7, Y7, Y7, Y7, Y7, Y7, Y7, Y7, Y7, Y7, Y7, Y7, Y7, Y7, Y7, Z7] rfl rfl (any_of HT_.out (by kernel_rfl)) (fun _ _ _ h => h) (Or.inl ⟨by rfl, ?_⟩) ?_ ?_
             rotate_left
             ·intro w'
              go_simp
              with_reducible rfl
             rotate_left
             ·simp only [Act.put, List.setIfInBounds_toArray, List.set_cons_zero, List.set_cons_succ, i64_w, i32_w]
              rfl
             refine pure_ (i := 19) (N := some 6) (v := ?_) (a' := ?_) #[Y7, Y7, Y7, Y7, Y7, Y7, Y7, Y7, Y7, Y7, Y7, Y7, Y7, Y7, Y7, Y7, Y7, Y7, Y7, Y7] rfl rfl (any_of HT_.out (by kernel_rfl)) (fun _ _ _ h => h) (Or.inl ⟨by rfl, ?_⟩) ?_ ?_
             rotate_left
             ·intro w'
              go_simp
              with_reducible rfl
             rotate_left
             ·simp only [Act.put, List.setIfInBounds_toArray, List.set_cons_zero, List.set_cons_succ, i64_w, i32_w]
              rfl
             refine done_ (done_of HT_.out (by kernel_rfl)) ?_
             try go_wp2
             go_meet
             case rel => exact ⟨_, (wrap64 ((wrap64 ((wrap64 ((wrap64 (Go.bits .and .u8 (rd l0 0) 15)) * 4096)) + (wrap64 ((wrap64 (Go.bits .and .u8 (rd l0 1) 63)) * 64)))) + (wrap64 (Go.bits .and .u8 (rd l0 2) 63)))), (by first | rfl | (simp; done) | (simp [*]; done)), H', ⟨by have := HK1.out; have := HJ1.out; first | omega | exact Nat.le_refl _⟩, ⟨by repeat (first | (with_reducible first | exact HB.out | apply below_alloc | apply pw_below_drewN | apply below_drew1) | exact HB.out)⟩⟩
            ·rw [if_neg c15] at H
             exact absurd H (by simp)
           ·rw [if_neg c14] at H
            exact absurd H (by simp)
          ·rw [if_neg c13] at H
           exact absurd H (by simp)
         ·rw [if_neg c12] at H
          have c12b0 : (x5_1 == 3) = false := beq_eq_false_iff_ne.mpr c12
          have c12b1 : (x5_1 != 3) = true := bne_iff_ne.mpr c12
          by_cases c17 : 0 < (l0.length : Int)
          ·rw [if_pos c17] at H
           have c17b0 : decide (0 < (l0.length : Int)) = true := decide_eq_true c17
           have c17b1 : decide (0 < l0.length) = true := decide_eq_true (by omega)
           clear c17
           by_cases c18 : 1 < (l0.length : Int)
           ·rw [if_pos c18] at H
            have c18b0 : decide (1 < (l0.length : Int)) = true := decide_eq_true c18
            have c18b1 : decide (1 < l0.length) = true := decide_eq_true (by omega)
            clear c18
            by_cases c19 : 2 < (l0.length : Int)
            ·rw [if_pos c19] at H
             have c19b0 : decide (2 < (l0.length : Int)) = true := decide_eq_true c19
             have c19b1 : decide (2 < l0.length) = true := decide_eq_true (by omega)
             clear c19
             by_cases c20 : 3 < (l0.length : Int)
             ·rw [if_pos c20] at H
              have c20b0 : decide (3 < (l0.length : Int)) = true := decide_eq_true c20
              have c20b1 : decide (3 < l0.length) = true := decide_eq_true (by omega)
              clear c20
              have H' := Aside0.mk H
              clear H
              try go_wp2
              have n0_ := Aside0.mk (below_drew1 HB.out)
              clear HB
              have HB := n0_
              clear n0_
              have p217 : 0 ≤ (0 : Int) := (by omega)
              have q217 : 0 < (l0.length : Int) := of_decide_eq_true (by first | (with_reducible assumption) | assumption)
              obtain ⟨ad217, e217, hx217_0⟩ := Kd.at_int HR0.out 0 p217 q217
              have hw217_0 := hx217_0
              (try rw [show ((0 : Int)).toNat = 0 from rfl] at hw217_0)
              (try rw [show 0 * 1 = 0 from rfl] at hw217_0)
              (try rw [Addr.add_zero'] at hw217_0)
              cases e217
              have qi217 : (0 < l0.length) = True := eq_true (by omega)
              (try rw [show ((0 : Int)).toNat = 0 from rfl] at hx217_0)
              (try rw [Addr.add_zero'] at hx217_0)
              replace hx217_0 := (HB.out.cell (World.block_lt_of_cell? w _ hx217_0)).trans hx217_0
              replace p217 := eq_true p217
              replace q217 := eq_true q217
              have p218 : 0 ≤ (1 : Int) := (by omega)
              have q218 : 1 < (l0.length : Int) := of_decide_eq_true (by first | (with_reducible assumption) | assumption)
              obtain ⟨ad218, e218, hx218_0⟩ := Kd.at_int HR0.out 1 p218 q218
              have hw218_0 := hx218_0
              (try rw [show ((1 : Int)).toNat = 1 from rfl] at hw218_0)
              (try rw [show 1 * 1 = 1 from rfl] at hw218_0)
              (try simp only [Nat.reduceMul, Nat.reduceEqDiff, Go.Addr.add, ↓reduceIte] at hw218_0)
              obtain rfl : ad217 = ad218 := (by injection e218)
              (try simp only [show (1 : Int).toNat = 1 from rfl, Nat.reduceMul, Nat.reduceEqDiff, Go.Addr.add, ↓reduceIte] at hx218_0)
              have qi218 : (1 < l0.length) = True := eq_true (by omega)
              (try rw [show ((1 : Int)).toNat = 1 from rfl] at hx218_0)
              replace hx218_0 := (HB.out.cell (World.block_lt_of_cell? w _ hx218_0)).trans hx218_0
              replace p218 := eq_true p218
              replace q218 := eq_true q218
              have p219 : 0 ≤ (2 : Int) := (by omega)
              have q219 : 2 < (l0.length : Int) := of_decide_eq_true (by first | (with_reducible assumption) | assumption)
              obtain ⟨ad219, e219, hx219_0⟩ := Kd.at_int HR0.out 2 p219 q219
              have hw219_0 := hx219_0
              (try rw [show ((2 : Int)).toNat = 2 from rfl] at hw219_0)
              (try rw [show 2 * 1 = 2 from rfl] at hw219_0)
              (try simp only [Nat.reduceMul, Nat.reduceEqDiff, Go.Addr.add, ↓reduceIte] at hw219_0)
              obtain rfl : ad217 = ad219 := (by injection e219)
              (try simp only [show (2 : Int).toNat = 2 from rfl, Nat.reduceMul, Nat.reduceEqDiff, Go.Addr.add, ↓reduceIte] at hx219_0)
              have qi219 : (2 < l0.length) = True := eq_true (by omega)
              (try rw [show ((2 : Int)).toNat = 2 from rfl] at hx219_0)
              replace hx219_0 := (HB.out.cell (World.block_lt_of_cell? w _ hx219_0)).trans hx219_0
              replace p219 := eq_true p219
              replace q219 := eq_true q219
              have p220 : 0 ≤ (3 : Int) := (by omega)
              have q220 : 3 < (l0.length : Int) := of_decide_eq_true (by first | (with_reducible assumption) | assumption)
              obtain ⟨ad220, e220, hx220_0⟩ := Kd.at_int HR0.out 3 p220 q220
              have hw220_0 := hx220_0
              (try rw [show ((3 : Int)).toNat = 3 from rfl] at hw220_0)
              (try rw [show 3 * 1 = 3 from rfl] at hw220_0)
              (try simp only [Nat.reduceMul, Nat.reduceEqDiff, Go.Addr.add, ↓reduceIte] at hw220_0)
              obtain rfl : ad217 = ad220 := (by injection e220)
              (try simp only [show (3 : Int).toNat = 3 from rfl, Nat.reduceMul, Nat.reduceEqDiff, Go.Addr.add, ↓reduceIte] at hx220_0)
              have qi220 : (3 < l0.length) = True := eq_true (by omega)
              (try rw [show ((3 : Int)).toNat = 3 from rfl] at hx220_0)
              replace hx220_0 := (HB.out.cell (World.block_lt_of_cell? w _ hx220_0)).trans hx220_0
              replace p220 := eq_true p220
              replace q220 := eq_true q220
              refine start_ (n := 27) (S := fun w' => w'.cell? ad217 = some (.int .u8 (rd l0 0)) ∧ w'.cell? ⟨ad217.block, ad217.off + 1, none⟩ = some (.int .u8 (rd l0 1)) ∧ w'.cell? ⟨ad217.block, ad217.off + 2, none⟩ = some (.int .u8 (rd l0 2)) ∧ w'.cell? ⟨ad217.block, ad217.off + 3, none⟩ = some (.int .u8 (rd l0 3))) (ds := []) #[Z7, Z7, Z7, Z7, Z7, Z7, Z7, Z7, Z7, Z7, Z7, Z7, Z7, Z7, Z7, Z7, Z7, Z7, Z7, Z7, Z7, Z7, Z7, Z7, Z7, Z7, Z7] (by kernel_rfl) rfl rfl ⟨((HB.out.cell (World.block_lt_of_cell? w _ hw217_0)).trans hw217_0), ((HB.out.cell (World.block_lt_of_cell? w _ hw218_0)).trans hw218_0), ((HB.out.cell (World.block_lt_of_cell? w _ hw219_0)).trans hw219_0), ((HB.out.cell (World.block_lt_of_cell? w _ hw220_0)).trans hw220_0)⟩ (fun hHeld => ?_); refine with_tabW lontarlaw01_one.tab6 lontarlaw01_one.bits6 (fun HT_ HW_ => ?_)
              generalize wc.drew = w21 at HB hx217_0 hx218_0 hx219_0 hx220_0 hHeld ⊢
              refine pure_ (i := 0) (N := some 19) (v := ?_) (a' := ?_) #[Y7, Z7, Z7, Z7, Z7, Z7, Z7, Z7, Z7, Z7, Z7, Z7, Z7, Z7, Z7, Z7, Z7, Z7, Z7, Z7, Z7, Z7, Z7, Z7, Z7, Z7, Z7] rfl rfl (any_of HT_.out (by kernel_rfl)) (fun _ _ _ h => h) (Or.inl ⟨by rfl, ?_⟩) ?_ ?_
              rotate_left
              ·intro w'
               go_simp
               with_reducible rfl
              rotate_left
              ·simp only [Act.put, List.setIfInBounds_toArray, List.set_cons_zero, List.set_cons_succ, i64_w, i32_w]
               rfl
              refine pure_ (i := 1) (N := some 20) (v := ?_) (a' := ?_) #[Y7, Y7, Z7, Z7, Z7, Z7, Z7, Z7, Z7, Z7, Z7, Z7, Z7, Z7, Z7, Z7, Z7, Z7, Z7, Z7, Z7, Z7, Z7, Z7, Z7, Z7, Z7] rfl rfl (any_of HT_.out (by kernel_rfl)) (fun _ _ _ h => h) (Or.inl ⟨by rfl, ?_⟩) ?_ ?_
              rotate_left
              ·intro w'
               go_simp
               with_reducible rfl
              rotate_left
              ·simp only [Act.put, List.setIfInBounds_toArray, List.set_cons_zero, List.set_cons_succ, i64_w, i32_w]
               rfl
              refine pure_ (i := 6) (N := some 25) (v := ?_) (a' := ?_) #[Y7, Y7, Z7, Z7, Z7, Z7, Y7, Z7, Z7, Z7, Z7, Z7, Z7, Z7, Z7, Z7, Z7, Z7, Z7, Z7, Z7, Z7, Z7, Z7, Z7, Z7, Z7] rfl rfl (any_of HT_.out (by kernel_rfl)) (fun _ _ _ h => h) (Or.inl ⟨by rfl, ?_⟩) ?_ ?_
              rotate_left
              ·intro w'
               go_simp
               with_reducible rfl
              rotate_left
              ·simp only [Act.put, List.setIfInBounds_toArray, List.set_cons_zero, List.set_cons_succ, i64_w, i32_w]
               rfl
              refine pure_ (i := 7) (N := some 26) (v := ?_) (a' := ?_) #[Y7, Y7, Z7, Z7, Z7, Z7, Y7, Y7, Z7, Z7, Z7, Z7, Z7, Z7, Z7, Z7, Z7, Z7, Z7, Z7, Z7, Z7, Z7, Z7, Z7, Z7, Z7] rfl rfl (any_of HT_.out (by kernel_rfl)) (fun _ _ _ h => h) (Or.inl ⟨by rfl, ?_⟩) ?_ ?_
              rotate_left
              ·intro w'
               go_simp
               with_reducible rfl
              rotate_left
              ·simp only [Act.put, List.setIfInBounds_toArray, List.set_cons_zero, List.set_cons_succ, i64_w, i32_w]
               rfl
              refine pure_ (i := 13) (N := some 32) (v := ?_) (a' := ?_) #[Y7, Y7, Z7, Z7, Z7, Z7, Y7, Y7, Z7, Z7, Z7, Z7, Z7, Y7, Z7, Z7, Z7, Z7, Z7, Z7, Z7, Z7, Z7, Z7, Z7, Z7, Z7] rfl rfl (any_of HT_.out (by kernel_rfl)) (fun _ _ _ h => h) (Or.inl ⟨by rfl, ?_⟩) ?_ ?_
              rotate_left
              ·intro w'
               go_simp
               with_reducible rfl
              rotate_left
              ·simp only [Act.put, List.setIfInBounds_toArray, List.set_cons_zero, List.set_cons_succ, i64_w, i32_w]
               rfl
              refine pure_ (i := 14) (N := some 33) (v := ?_) (a' := ?_) #[Y7, Y7, Z7, Z7, Z7, Z7, Y7, Y7, Z7, Z7, Z7, Z7, Z7, Y7, Y7, Z7, Z7, Z7, Z7, Z7, Z7, Z7, Z7, Z7, Z7, Z7, Z7] rfl rfl (any_of HT_.out (by kernel_rfl)) (fun _ _ _ h => h) (Or.inl ⟨by rfl, ?_⟩) ?_ ?_
              rotate_left
              ·intro w'
               go_simp
               with_reducible rfl
              rotate_left
              ·simp only [Act.put, List.setIfInBounds_toArray, List.set_cons_zero, List.set_cons_succ, i64_w, i32_w]
               rfl
              refine pure_ (i := 20) (N := some 39) (v := ?_) (a' := ?_) #[Y7, Y7, Z7, Z7, Z7, Z7, Y7, Y7, Z7, Z7, Z7, Z7, Z7, Y7, Y7, Z7, Z7, Z7, Z7, Z7, Y7, Z7, Z7, Z7, Z7, Z7, Z7] rfl rfl (any_of HT_.out (by kernel_rfl)) (fun _ _ _ h => h) (Or.inl ⟨by rfl, ?_⟩) ?_ ?_
              rotate_left
              ·intro w'
               go_simp
               with_reducible rfl
              rotate_left
              ·simp only [Act.put, List.setIfInBounds_toArray, List.set_cons_zero, List.set_cons_succ, i64_w, i32_w]
               rfl
              refine pure_ (i := 21) (N := some 40) (v := ?_) (a' := ?_) #[Y7, Y7, Z7, Z7, Z7, Z7, Y7, Y7, Z7, Z7, Z7, Z7, Z7, Y7, Y7, Z7, Z7, Z7, Z7, Z7, Y7, Y7, Z7, Z7, Z7, Z7, Z7] rfl rfl (any_of HT_.out (by kernel_rfl)) (fun _ _ _ h => h) (Or.inl ⟨by rfl, ?_⟩) ?_ ?_
              rotate_left
              ·intro w'
               go_simp
               with_reducible rfl
              rotate_left
              ·simp only [Act.put, List.setIfInBounds_toArray, List.set_cons_zero, List.set_cons_succ, i64_w, i32_w]
               rfl
              refine take_ (i := 2) (N := some 21) (v := ?_) (a' := ?_) #[Y7, Y7, Y7, Z7, Z7, Z7, Y7, Y7, Z7, Z7, Z7, Z7, Z7, Y7, Y7, Z7, Z7, Z7, Z7, Z7, Y7, Y7, Z7, Z7, Z7, Z7, Z7] rfl rfl (take_ofW HT_.out HW_.out (by kernel_rfl)) (fun _ _ _ h => h) (Or.inl ⟨by rfl, ?_⟩) hHeld ?_ ?_
              rotate_left
              ·rintro w' ⟨s0, s1, s2, s3⟩
               go_simp
               with_reducible rfl
              rotate_left
              ·simp only [Act.put, List.setIfInBounds_toArray, List.set_cons_zero, List.set_cons_succ, i64_w, i32_w]
               rfl
              refine pure_ (i := 3) (N := some 22) (v := ?_) (a' := ?_) #[Y7, Y7, Y7, Y7, Z7, Z7, Y7, Y7, Z7, Z7, Z7, Z7, Z7, Y7, Y7, Z7, Z7, Z7, Z7, Z7, Y7, Y7, Z7, Z7, Z7, Z7, Z7] rfl rfl (any_of HT_.out (by kernel_rfl)) (fun _ _ _ h => h) (Or.inl ⟨by rfl, ?_⟩) ?_ ?_
              rotate_left
              ·intro w'
               go_simp
               with_reducible rfl
              rotate_left
              ·simp only [Act.put, List.setIfInBounds_toArray, List.set_cons_zero, List.set_cons_succ, i64_w, i32_w]
               rfl
              refine pure_ (i := 4) (N := some 23) (v := ?_) (a' := ?_) #[Y7, Y7, Y7, Y7, Y7, Z7, Y7, Y7, Z7, Z7, Z7, Z7, Z7, Y7, Y7, Z7, Z7, Z7, Z7, Z7, Y7, Y7, Z7, Z7, Z7, Z7, Z7] rfl rfl (any_of HT_.out (by kernel_rfl)) (fun _ _ _ h => h) (Or.inl ⟨by rfl, ?_⟩) ?_ ?_
              rotate_left
              ·intro w'
               go_simp
               with_reducible rfl
              rotate_left
              ·simp only [Act.put, List.setIfInBounds_toArray, List.set_cons_zero, List.set_cons_succ, i64_w, i32_w]
               rfl
              refine pure_ (i := 5) (N := some 24) (v := ?_) (a' := ?_) #[Y7, Y7, Y7, Y7, Y7, Y7, Y7, Y7, Z7, Z7, Z7, Z7, Z7, Y7, Y7, Z7, Z7, Z7, Z7, Z7, Y7, Y7, Z7, Z7, Z7, Z7, Z7] rfl rfl (any_of HT_.out (by kernel_rfl)) (fun _ _ _ h => h) (Or.inl ⟨by rfl, ?_⟩) ?_ ?_
              rotate_left
              ·intro w'
               go_simp
               with_reducible rfl
              rotate_left
              ·simp only [Act.put, List.setIfInBounds_toArray, List.set_cons_zero, List.set_cons_succ, i64_w, i32_w]
               rfl
              refine take_ (i := 8) (N := some 27) (v := ?_) (a' := ?_) #[Y7, Y7, Y7, Y7, Y7, Y7, Y7, Y7, Y7, Z7, Z7, Z7, Z7, Y7, Y7, Z7, Z7, Z7, Z7, Z7, Y7, Y7, Z7, Z7, Z7, Z7, Z7] rfl rfl (take_ofW HT_.out HW_.out (by kernel_rfl)) (fun _ _ _ h => h) (Or.inl ⟨by rfl, ?_⟩) hHeld ?_ ?_
              rotate_left
              ·rintro w' ⟨s0, s1, s2, s3⟩
               go_simp
               with_reducible rfl
              rotate_left
              ·simp only [Act.put, List.setIfInBounds_toArray, List.set_cons_zero, List.set_cons_succ, i64_w, i32_w]
               rfl
              refine pure_ (i := 9) (N := some 28) (v := ?_) (a' := ?_) #[Y7, Y7, Y7, Y7, Y7, Y7, Y7, Y7, Y7, Y7, Z7, Z7, Z7, Y7, Y7, Z7, Z7, Z7, Z7, Z7, Y7, Y7, Z7, Z7, Z7, Z7, Z7] rfl rfl (any_of HT_.out (by kernel_rfl)) (fun _ _ _ h => h) (Or.inl ⟨by rfl, ?_⟩) ?_ ?_
              rotate_left
              ·intro w'
               go_simp
               with_reducible rfl
              rotate_left
              ·simp only [Act.put, List.setIfInBounds_toArray, List.set_cons_zero, List.set_cons_succ, i64_w, i32_w]
               rfl
              refine pure_ (i := 10) (N := some 29) (v := ?_) (a' := ?_) #[Y7, Y7, Y7, Y7, Y7, Y7, Y7, Y7, Y7, Y7, Y7, Z7, Z7, Y7, Y7, Z7, Z7, Z7, Z7, Z7, Y7, Y7, Z7, Z7, Z7, Z7, Z7] rfl rfl (any_of HT_.out (by kernel_rfl)) (fun _ _ _ h => h) (Or.inl ⟨by rfl, ?_⟩) ?_ ?_
              rotate_left
              ·intro w'
               go_simp
               with_reducible rfl
              rotate_left
              ·simp only [Act.put, List.setIfInBounds_toArray, List.set_cons_zero, List.set_cons_succ, i64_w, i32_w]
               rfl
              refine pure_ (i := 11) (N := some 30) (v := ?_) (a' := ?_) #[Y7, Y7, Y7, Y7, Y7, Y7, Y7, Y7, Y7, Y7, Y7, Y7, Z7, Y7, Y7, Z7, Z7, Z7, Z7, Z7, Y7, Y7, Z7, Z7, Z7, Z7, Z7] rfl rfl (any_of HT_.out (by kernel_rfl)) (fun _ _ _ h => h) (Or.inl ⟨by rfl, ?_⟩) ?_ ?_
              rotate_left
              ·intro w'
               go_simp
               with_reducible rfl
              rotate_left
              ·simp only [Act.put, List.setIfInBounds_toArray, List.set_cons_zero, List.set_cons_succ, i64_w, i32_w]
               rfl
              refine pure_ (i := 12) (N := some 31) (v := ?_) (a' := ?_) #[Y7, Y7, Y7, Y7, Y7, Y7, Y7, Y7, Y7, Y7, Y7, Y7, Y7, Y7, Y7, Z7, Z7, Z7, Z7, Z7, Y7, Y7, Z7, Z7, Z7, Z7, Z7] rfl rfl (any_of HT_.out (by kernel_rfl)) (fun _ _ _ h => h) (Or.inl ⟨by rfl, ?_⟩) ?_ ?_
              rotate_left
              ·intro w'
               go_simp
               with_reducible rfl
              rotate_left
              ·simp only [Act.put, List.setIfInBounds_toArray, List.set_cons_zero, List.set_cons_succ, i64_w, i32_w]
               rfl
              refine take_ (i := 15) (N := some 34) (v := ?_) (a' := ?_) #[Y7, Y7, Y7, Y7, Y7, Y7, Y7, Y7, Y7, Y7, Y7, Y7, Y7, Y7, Y7, Y7, Z7, Z7, Z7, Z7, Y7, Y7, Z7, Z7, Z7, Z7, Z7] rfl rfl (take_ofW HT_.out HW_.out (by kernel_rfl)) (fun _ _ _ h => h) (Or.inl ⟨by rfl, ?_⟩) hHeld ?_ ?_
              rotate_left
              ·rintro w' ⟨s0, s1, s2, s3⟩
               go_simp
               with_reducible rfl
              rotate_left
              ·simp only [Act.put, List.setIfInBounds_toArray, List.set_cons_zero, List.set_cons_succ, i64_w, i32_w]
               rfl
              refine pure_ (i := 16) (N := some 35) (v := ?_) (a' := ?_) #[Y7, Y7, Y7, Y7, Y7, Y7, Y7, Y7, Y7, Y7, Y7, Y7, Y7, Y7, Y7, Y7, Y7, Z7, Z7, Z7, Y7, Y7, Z7, Z7, Z7, Z7, Z7] rfl rfl (any_of HT_.out (by kernel_rfl)) (fun _ _ _ h => h) (Or.inl ⟨by rfl, ?_⟩) ?_ ?_
              rotate_left
              ·intro w'
               go_simp
               with_reducible rfl
              rotate_left
              ·simp only [Act.put, List.setIfInBounds_toArray, List.set_cons_zero, List.set_cons_succ, i64_w, i32_w]
               rfl
              refine pure_ (i := 17) (N := some 36) (v := ?_) (a' := ?_) #[Y7, Y7, Y7, Y7, Y7, Y7, Y7, Y7, Y7, Y7, Y7, Y7, Y7, Y7, Y7, Y7, Y7, Y7, Z7, Z7, Y7, Y7, Z7, Z7, Z7, Z7, Z7] rfl rfl (any_of HT_.out (by kernel_rfl)) (fun _ _ _ h => h) (Or.inl ⟨by rfl, ?_⟩) ?_ ?_
              rotate_left
              ·intro w'
               go_simp
               with_reducible rfl
              rotate_left
              ·simp only [Act.put, List.setIfInBounds_toArray, List.set_cons_zero, List.set_cons_succ, i64_w, i32_w]
               rfl
              refine pure_ (i := 18) (N := some 37) (v := ?_) (a' := ?_) #[Y7, Y7, Y7, Y7, Y7, Y7, Y7, Y7, Y7, Y7, Y7, Y7, Y7, Y7, Y7, Y7, Y7, Y7, Y7, Z7, Y7, Y7, Z7, Z7, Z7, Z7, Z7] rfl rfl (any_of HT_.out (by kernel_rfl)) (fun _ _ _ h => h) (Or.inl ⟨by rfl, ?_⟩) ?_ ?_
              rotate_left
              ·intro w'
               go_simp
               with_reducible rfl
              rotate_left
              ·simp only [Act.put, List.setIfInBounds_toArray, List.set_cons_zero, List.set_cons_succ, i64_w, i32_w]
               rfl
              refine pure_ (i := 19) (N := some 38) (v := ?_) (a' := ?_) #[Y7, Y7, Y7, Y7, Y7, Y7, Y7, Y7, Y7, Y7, Y7, Y7, Y7, Y7, Y7, Y7, Y7, Y7, Y7, Y7, Y7, Y7, Z7, Z7, Z7, Z7, Z7] rfl rfl (any_of HT_.out (by kernel_rfl)) (fun _ _ _ h => h) (Or.inl ⟨by rfl, ?_⟩) ?_ ?_
              rotate_left
              ·intro w'
               go_simp
               with_reducible rfl
              rotate_left
              ·simp only [Act.put, List.setIfInBounds_toArray, List.set_cons_zero, List.set_cons_succ, i64_w, i32_w]
               rfl
              refine take_ (i := 22) (N := some 41) (v := ?_) (a' := ?_) #[Y7, Y7, Y7, Y7, Y7, Y7, Y7, Y7, Y7, Y7, Y7, Y7, Y7, Y7, Y7, Y7, Y7, Y7, Y7, Y7, Y7, Y7, Y7, Z7, Z7, Z7, Z7] rfl rfl (take_ofW HT_.out HW_.out (by kernel_rfl)) (fun _ _ _ h => h) (Or.inl ⟨by rfl, ?_⟩) hHeld ?_ ?_
              rotate_left
              ·rintro w' ⟨s0, s1, s2, s3⟩
               go_simp
               with_reducible rfl
              rotate_left
              ·simp only [Act.put, List.setIfInBounds_toArray, List.set_cons_zero, List.set_cons_succ, i64_w, i32_w]
               rfl
              refine pure_ (i := 23) (N := some 42) (v := ?_) (a' := ?_) #[Y7, Y7, Y7, Y7, Y7, Y7, Y7, Y7, Y7, Y7, Y7, Y7, Y7, Y7, Y7, Y7, Y7, Y7, Y7, Y7, Y7, Y7, Y7, Y7, Z7, Z7, Z7] rfl rfl (any_of HT_.out (by kernel_rfl)) (fun _ _ _ h => h) (Or.inl ⟨by rfl, ?_⟩) ?_ ?_
              rotate_left
              ·intro w'
               go_simp
               with_reducible rfl
              rotate_left
              ·simp only [Act.put, List.setIfInBounds_toArray, List.set_cons_zero, List.set_cons_succ, i64_w, i32_w]
               rfl
              refine pure_ (i := 24) (N := some 43) (v := ?_) (a' := ?_) #[Y7, Y7, Y7, Y7, Y7, Y7, Y7, Y7, Y7, Y7, Y7, Y7, Y7, Y7, Y7, Y7, Y7, Y7, Y7, Y7, Y7, Y7, Y7, Y7, Y7, Z7, Z7] rfl rfl (any_of HT_.out (by kernel_rfl)) (fun _ _ _ h => h) (Or.inl ⟨by rfl, ?_⟩) ?_ ?_
              rotate_left
              ·intro w'
               go_simp
               with_reducible rfl
              rotate_left
              ·simp only [Act.put, List.setIfInBounds_toArray, List.set_cons_zero, List.set_cons_succ, i64_w, i32_w]
               rfl
              refine pure_ (i := 25) (N := some 44) (v := ?_) (a' := ?_) #[Y7, Y7, Y7, Y7, Y7, Y7, Y7, Y7, Y7, Y7, Y7, Y7, Y7, Y7, Y7, Y7, Y7, Y7, Y7, Y7, Y7, Y7, Y7, Y7, Y7, Y7, Z7] rfl rfl (any_of HT_.out (by kernel_rfl)) (fun _ _ _ h => h) (Or.inl ⟨by rfl, ?_⟩) ?_ ?_
              rotate_left
              ·intro w'
               go_simp
               with_reducible rfl
              rotate_left
              ·simp only [Act.put, List.setIfInBounds_toArray, List.set_cons_zero, List.set_cons_succ, i64_w, i32_w]
               rfl
              refine pure_ (i := 26) (N := some 6) (v := ?_) (a' := ?_) #[Y7, Y7, Y7, Y7, Y7, Y7, Y7, Y7, Y7, Y7, Y7, Y7, Y7, Y7, Y7, Y7, Y7, Y7, Y7, Y7, Y7, Y7, Y7, Y7, Y7, Y7, Y7] rfl rfl (any_of HT_.out (by kernel_rfl)) (fun _ _ _ h => h) (Or.inl ⟨by rfl, ?_⟩) ?_ ?_
              rotate_left
              ·intro w'
               go_simp
               with_reducible rfl
              rotate_left
              ·simp only [Act.put, List.setIfInBounds_toArray, List.set_cons_zero, List.set_cons_succ, i64_w, i32_w]
               rfl
              refine done_ (done_of HT_.out (by kernel_rfl)) ?_
              try go_wp2
              go_meet
              case rel => exact ⟨_, (wrap64 ((wrap64 ((wrap64 ((wrap64 ((wrap64 (Go.bits .and .u8 (rd l0 0) 7)) * 262144)) + (wrap64 ((wrap64 (Go.bits .and .u8 (rd l0 1) 63)) * 4096)))) + (wrap64 ((wrap64 (Go.bits .and .u8 (rd l0 2) 63)) * 64)))) + (wrap64 (Go.bits .and .u8 (rd l0 3) 63)))), (by first | rfl | (simp; done) | (simp [*]; done)), H', ⟨by have := HK1.out; have := HJ1.out; first | omega | exact Nat.le_refl _⟩, ⟨by repeat (first | (with_reducible first | exact HB.out | apply below_alloc | apply pw_below_drewN | apply below_drew1) | exact HB.out)⟩⟩
             ·rw [if_neg c20] at H
              exact absurd H (by simp)
            ·rw [if_neg c19] at H
             exact absurd H (by simp)
           ·rw [if_neg c18] at H
            exact absurd H (by simp)
          ·rw [if_neg c17] at H
           exact absurd H (by simp)
      case rest =>
       clear HC5
       try clear c1
       try clear c2
       try clear p2
       try clear q2
       try clear hx2
       try clear qi2
       try clear p6
       try clear c8
       try clear c8b0
       try clear c8b1
       try clear c9
       try clear c10
       try clear c12
       try clear c12b0
       try clear c12b1
       try clear c13
       try clear c13b0
       try clear c13b1
       try clear c14
       try clear c14b0
       try clear c14b1
       try clear c15
       try clear c15b0
       try clear c15b1
       try clear c17
       try clear c17b0
       try clear c17b1
       try clear c18
       try clear c18b0
       try clear c18b1
       try clear c19
       try clear c19b0
       try clear c19b1
       try clear c20
       try clear c20b0
       try clear c20b1
       try clear p21
       try clear q21
       try clear hx21
       try clear qi21
       try clear hx214_0
       try clear hx215_0
       try clear hx216_0
       try clear hx217_0
       try clear hx218_0
       try clear hx219_0
       try clear hx220_0
       try clear p214
       try clear p215
       try clear p216
       try clear p217
       try clear p218
       try clear p219
       try clear p220
       try clear q214
       try clear q215
       try clear q216
       try clear q217
       try clear q218
       try clear q219
       try clear q220
       obtain ⟨kq, x6_4, rfl, HA, HJ4, HB⟩ := hcut
       cases kq with
       | zero => exact absurd HA.out (by simp [lontarlaw01_one.j2])
       | succ kj4 =>
        have H := HA.out
        clear HA
        simp only [lontarlaw01_one.j2] at H
        replace H := Option.bind_eq_some_iff.mp H
        obtain ⟨t221, A220, H⟩ := H
        replace H : (if t221 = true then ((lontarlaw01_bytes.f x6_4).bind fun t222 => (if 0 ≤ x5_1 then (if x5_1 ≤ (l0.length : Int) then (if t222.toList = (strOfNums (l0.take (x5_1 : Int).toNat)).toList then (some (x6_4, x5_1, 0)) else (lontarlaw01_one.l0 kj4 l0 (wrap64 (x5_1 + 1)))) else (none)) else (none))) else (lontarlaw01_one.l0 kj4 l0 (wrap64 (x5_1 + 1)))) = some (r1, r2, r3) := H
        have A22 := Aside0.mk A220
        clear A220
        by_cases c23 : t221 = true
        ·subst c23
         have H1 : ((lontarlaw01_bytes.f x6_4).bind fun t222 => (if 0 ≤ x5_1 then (if x5_1 ≤ (l0.length : Int) then (if t222.toList = (strOfNums (l0.take (x5_1 : Int).toNat)).toList then (some (x6_4, x5_1, 0)) else (lontarlaw01_one.l0 kj4 l0 (wrap64 (x5_1 + 1)))) else (none)) else (none))) = some (r1, r2, r3) := by rw [if_pos rfl] at H; exact H
         clear H
         have H := H1
         clear H1
         replace H := Option.bind_eq_some_iff.mp H
         obtain ⟨t222, A240, H⟩ := H
         replace H : (if 0 ≤ x5_1 then (if x5_1 ≤ (l0.length : Int) then (if t222.toList = (strOfNums (l0.take (x5_1 : Int).toNat)).toList then (some (x6_4, x5_1, 0)) else (lontarlaw01_one.l0 kj4 l0 (wrap64 (x5_1 + 1)))) else (none)) else (none)) = some (r1, r2, r3) := H
         have A24 := Aside0.mk A240
         clear A240
         by_cases c25 : 0 ≤ x5_1
         ·rw [if_pos c25] at H
          have c25b0 := eq_true c25
          have c25b1 : decide (0 ≤ x5_1) = true := decide_eq_true c25
          clear c25
          by_cases c26 : x5_1 ≤ (l0.length : Int)
          ·rw [if_pos c26] at H
           have c26b0 := eq_true c26
           have c26b1 : decide (x5_1 ≤ (l0.length : Int)) = true := decide_eq_true c26
           clear c26
           by_cases c27 : t222.toList = (strOfNums (l0.take (x5_1 : Int).toNat)).toList
           ·rw [if_pos c27] at H
            have c27b0 : (t222.toList == (strOfNums (l0.take (x5_1 : Int).toNat)).toList) = true := beq_iff_eq.mpr c27
            have c27b1 : (t222.toList != (strOfNums (l0.take (x5_1 : Int).toNat)).toList) = false := bne_eq_false_iff_eq.mpr c27
            clear c27
            simp only [Option.some.injEq, Prod.mk.injEq] at H
            obtain ⟨rfl, rfl, rfl⟩ := H
            try go_wp2
            have n0_ := Aside0.mk (below_drew1 HB.out)
            clear HB
            have HB := n0_
            clear n0_
            obtain ⟨i029, hi029, _, hsz29, _⟩ := info_parts info5
            obtain ⟨hcut29, hA29, hC29⟩ := print_take_of (P := Try.prog) (Value.int .u8) 0 22 5 .i64 Try.underlying22 hi029 hsz29 A0 c0 l0 x5_1 (of_decide_eq_true (by first | (with_reducible assumption) | assumption)) (of_decide_eq_true (by first | (with_reducible assumption) | assumption)) HC0.out
            have HR223 := Aside0.mk (Kd.C_of_reads (h1 := fun _ => rfl) (hA29 _ (Kd.reads_of_C HR0.out)))
            have HC223 := Aside0.mk hC29
            clear hA29 hC29 hi029 hsz29
            generalize hlt_ : l0.take ((x5_1) : Int).toNat = lt_ at *
            replace hlt_ := Aside0.mk hlt_
            refine start_ (n := 11) (S := fun w' => (convert 22 9 (.slice A0 lt_.length c0)).run Try.prog w' = .ok (.string (strOfNums lt_)) w') (ds := []) #[Z7, Z7, Z7, Z7, Z7, Z7, Z7, Z7, Z7, Z7, Z7] (by kernel_rfl) rfl rfl (Kd.C_string (P := Try.prog) (A := A0) (c := c0) Try.underlying22 Try.underlying5 Try.underlying9 (Kd.C_below HR223.out HB.out)) (fun hHeld => ?_); refine with_tabW lontarlaw01_one.tab13 lontarlaw01_one.bits13 (fun HT_ HW_ => ?_)
            generalize wc.drew = w28 at HB hHeld ⊢
            refine pure_ (i := 0) (N := some 86) (v := ?_) (a' := ?_) #[Y7, Z7, Z7, Z7, Z7, Z7, Z7, Z7, Z7, Z7, Z7] rfl rfl (any_of HT_.out (by kernel_rfl)) (fun _ _ _ h => h) (Or.inl ⟨by rfl, ?_⟩) ?_ ?_
            rotate_left
            ·intro w'
             go_simp
             with_reducible rfl
            rotate_left
            ·simp only [Act.put, List.setIfInBounds_toArray, List.set_cons_zero, List.set_cons_succ, i64_w, i32_w]
             rfl
            refine one_ (i := 1) (N := some 87) #[Y7, Y7, Z7, Z7, Z7, Z7, Z7, Z7, Z7, Z7, Z7] rfl rfl (one_of HT_.out (by kernel_rfl)) (by decide) (fun K hK => ?_)
            refine goes_ Try.func33 (by kernel_rfl) rfl #[.int .i64 x6_4] (by rfl) rfl rfl (by (try simp only [List.map_toArray, List.map_cons, List.map_nil]); first | done | rfl | (simp only [List.length_drop, List.length_take]; rfl)) ?_
            with_reducible refine (lontarlaw01_scalar.calls x6_4 true _ A22.out).mono ?_
            rintro e w' ⟨rfl, ⟨nd, rfl⟩⟩
            refine ⟨_, rfl, ?_⟩
            refine hK.out _ _ (Kd.C_string (P := Try.prog) (A := A0) (c := c0) Try.underlying22 Try.underlying5 Try.underlying9 (Kd.C_below HR223.out (pw_below_drewN HB.out nd))) (fun hHeld => ?_)
            clear hK K
            refine norm_ (a' := ?_) ?_ ?_
            rotate_left
            ·show Act.put _ (some 87) _ = _
             simp only [Act.put, List.setIfInBounds_toArray, List.set_cons_zero, List.set_cons_succ, i64_w, i32_w]
             rfl
            refine pure_ (i := 2) (N := some 88) (v := ?_) (a' := ?_) #[Y7, Y7, Y7, Z7, Z7, Z7, Z7, Z7, Z7, Z7, Z7] rfl rfl (any_of HT_.out (by kernel_rfl)) (fun _ _ _ h => h) (Or.inl ⟨by rfl, ?_⟩) ?_ ?_
            rotate_left
            ·intro w'
             go_simp
             with_reducible rfl
            rotate_left
            ·simp only [Act.put, List.setIfInBounds_toArray, List.set_cons_zero, List.set_cons_succ, i64_w, i32_w]
             rfl
            refine pure_ (i := 3) (N := some 89) (v := ?_) (a' := ?_) #[Y7, Y7, Y7, Y7, Z7, Z7, Z7, Z7, Z7, Z7, Z7] rfl rfl (any_of HT_.out (by kernel_rfl)) (fun _ _ _ h => h) (Or.inl ⟨by rfl, ?_⟩) ?_ ?_
            rotate_left
            ·intro w'
             go_simp
             with_reducible rfl
            rotate_left
            ·simp only [Act.put, List.setIfInBounds_toArray, List.set_cons_zero, List.set_cons_succ, i64_w, i32_w]
             rfl
            refine pure_ (i := 5) (N := some 91) (v := ?_) (a' := ?_) #[Y7, Y7, Y7, Y7, Z7, Y7, Z7, Z7, Z7, Z7, Z7] rfl rfl (any_of HT_.out (by kernel_rfl)) (fun _ _ _ h => h) (Or.inl ⟨by rfl, ?_⟩) ?_ ?_
            rotate_left
            ·intro w'
             go_simp
             with_reducible rfl
            rotate_left
            ·simp only [Act.put, List.setIfInBounds_toArray, List.set_cons_zero, List.set_cons_succ, i64_w, i32_w]
             rfl
            refine pure_ (i := 6) (N := some 92) (v := ?_) (a' := ?_) #[Y7, Y7, Y7, Y7, Z7, Y7, Y7, Z7, Z7, Z7, Z7] rfl rfl (any_of HT_.out (by kernel_rfl)) (fun _ _ _ h => h) (Or.inl ⟨by rfl, ?_⟩) ?_ ?_
            rotate_left
            ·intro w'
             go_simp
             with_reducible rfl
            rotate_left
            ·simp only [Act.put, List.setIfInBounds_toArray, List.set_cons_zero, List.set_cons_succ, i64_w, i32_w]
             rfl
            refine pure_ (i := 7) (N := some 93) (v := ?_) (a' := ?_) #[Y7, Y7, Y7, Y7, Z7, Y7, Y7, Y7, Z7, Z7, Z7] rfl rfl (any_of HT_.out (by kernel_rfl)) (fun _ _ _ h => h) (Or.inl ⟨by rfl, ?_⟩) ?_ ?_
            rotate_left
            ·intro w'
             go_simp
             with_reducible rfl
            rotate_left
            ·simp only [Act.put, List.setIfInBounds_toArray, List.set_cons_zero, List.set_cons_succ, i64_w, i32_w]
             rfl
            refine take_ (i := 8) (N := some 94) (v := ?_) (a' := ?_) #[Y7, Y7, Y7, Y7, Z7, Y7, Y7, Y7, Y7, Z7, Z7] rfl rfl (take_ofW HT_.out HW_.out (by kernel_rfl)) (fun _ _ _ h => h) (Or.inl ⟨by rfl, ?_⟩) hHeld ?_ ?_
            rotate_left
            ·rintro w' s0
             go_simp
             with_reducible rfl
            rotate_left
            ·simp only [Act.put, List.setIfInBounds_toArray, List.set_cons_zero, List.set_cons_succ, i64_w, i32_w]
             rfl
            refine one_ (i := 4) (N := some 90) #[Y7, Y7, Y7, Y7, Y7, Y7, Y7, Y7, Y7, Z7, Z7] rfl rfl (one_of HT_.out (by kernel_rfl)) (by decide) (fun K hK => ?_)
            refine goes_ Try.func34 (by kernel_rfl) rfl #[.int .i64 x6_4] (by rfl) rfl rfl (by (try simp only [List.map_toArray, List.map_cons, List.map_nil]); first | done | rfl | (simp only [List.length_drop, List.length_take]; rfl)) ?_
            with_reducible refine (lontarlaw01_bytes.calls x6_4 t222 _ A24.out).mono ?_
            rintro e w30 ⟨rfl, hb⟩
            refine ⟨_, rfl, ?_⟩
            have n0_ := Aside0.mk (below_step (by repeat (first | (with_reducible first | exact HB.out | apply below_alloc | apply pw_below_drewN | apply below_drew1) | exact HB.out)) hb)
            clear HB
            have HB := n0_
            clear n0_
            (try clear hb)
            (try clear hb2)
            (try clear hk)
            (try clear hi)
            have hcv31 := Kd.C_string (P := Try.prog) (A := A0) (c := c0) Try.underlying22 Try.underlying5 Try.underlying9 (Kd.C_below HR223.out HB.out)
            refine hK.out _ _ (Kd.C_string (P := Try.prog) (A := A0) (c := c0) Try.underlying22 Try.underlying5 Try.underlying9 (Kd.C_below HR223.out HB.out)) (fun hHeld => ?_)
            clear hK K
            refine norm_ (a' := ?_) ?_ ?_
            rotate_left
            ·show Act.put _ (some 90) _ = _
             simp only [Act.put, List.setIfInBounds_toArray, List.set_cons_zero, List.set_cons_succ, i64_w, i32_w]
             rfl
            refine pure_ (i := 9) (N := some 95) (v := ?_) (a' := ?_) #[Y7, Y7, Y7, Y7, Y7, Y7, Y7, Y7, Y7, Y7, Z7] rfl rfl (any_of HT_.out (by kernel_rfl)) (fun _ _ _ h => h) (Or.inl ⟨by rfl, ?_⟩) ?_ ?_
            rotate_left
            ·intro w'
             go_simp
             with_reducible rfl
            rotate_left
            ·simp only [Act.put, List.setIfInBounds_toArray, List.set_cons_zero, List.set_cons_succ, i64_w, i32_w]
             rfl
            refine pure_ (i := 10) (N := some 96) (v := ?_) (a' := ?_) #[Y7, Y7, Y7, Y7, Y7, Y7, Y7, Y7, Y7, Y7, Y7] rfl rfl (any_of HT_.out (by kernel_rfl)) (fun _ _ _ h => h) (Or.inl ⟨by rfl, ?_⟩) ?_ ?_
            rotate_left
            ·intro w'
             go_simp
             with_reducible rfl
            rotate_left
            ·simp only [Act.put, List.setIfInBounds_toArray, List.set_cons_zero, List.set_cons_succ, i64_w, i32_w]
             rfl
            refine done_ (done_of HT_.out (by kernel_rfl)) ?_
            try go_wp2
            go_ret3
            exact ⟨by first | rfl | (simp [errW_none, errW_some] <;> rfl) | (simp [*, errW_none, errW_some] <;> rfl), by repeat (first | (with_reducible first | exact HB.out | apply below_alloc | apply pw_below_drewN | apply below_drew1) | exact HB.out)⟩
           ·rw [if_neg c27] at H
            have c27b0 : (t222.toList == (strOfNums (l0.take (x5_1 : Int).toNat)).toList) = false := beq_eq_false_iff_ne.mpr c27
            have c27b1 : (t222.toList != (strOfNums (l0.take (x5_1 : Int).toNat)).toList) = true := bne_iff_ne.mpr c27
            have H' := Aside0.mk H
            clear H
            try go_wp2
            have n0_ := Aside0.mk (below_drew1 HB.out)
            clear HB
            have HB := n0_
            clear n0_
            obtain ⟨i034, hi034, _, hsz34, _⟩ := info_parts info5
            obtain ⟨hcut34, hA34, hC34⟩ := print_take_of (P := Try.prog) (Value.int .u8) 0 22 5 .i64 Try.underlying22 hi034 hsz34 A0 c0 l0 x5_1 (of_decide_eq_true (by first | (with_reducible assumption) | assumption)) (of_decide_eq_true (by first | (with_reducible assumption) | assumption)) HC0.out
            have HR223 := Aside0.mk (Kd.C_of_reads (h1 := fun _ => rfl) (hA34 _ (Kd.reads_of_C HR0.out)))
            have HC223 := Aside0.mk hC34
            clear hA34 hC34 hi034 hsz34
            generalize hlt_ : l0.take ((x5_1) : Int).toNat = lt_ at *
            replace hlt_ := Aside0.mk hlt_
            refine start_ (n := 11) (S := fun w' => (convert 22 9 (.slice A0 lt_.length c0)).run Try.prog w' = .ok (.string (strOfNums lt_)) w') (ds := []) #[Z7, Z7, Z7, Z7, Z7, Z7, Z7, Z7, Z7, Z7, Z7] (by kernel_rfl) rfl rfl (Kd.C_string (P := Try.prog) (A := A0) (c := c0) Try.underlying22 Try.underlying5 Try.underlying9 (Kd.C_below HR223.out HB.out)) (fun hHeld => ?_); refine with_tabW lontarlaw01_one.tab13 lontarlaw01_one.bits13 (fun HT_ HW_ => ?_)
            generalize wc.drew = w33 at HB hHeld ⊢
            refine pure_ (i := 0) (N := some 86) (v := ?_) (a' := ?_) #[Y7, Z7, Z7, Z7, Z7, Z7, Z7, Z7, Z7, Z7, Z7] rfl rfl (any_of HT_.out (by kernel_rfl)) (fun _ _ _ h => h) (Or.inl ⟨by rfl, ?_⟩) ?_ ?_
            rotate_left
            ·intro w'
             go_simp
             with_reducible rfl
            rotate_left
            ·simp only [Act.put, List.setIfInBounds_toArray, List.set_cons_zero, List.set_cons_succ, i64_w, i32_w]
             rfl
            refine one_ (i := 1) (N := some 87) #[Y7, Y7, Z7, Z7, Z7, Z7, Z7, Z7, Z7, Z7, Z7] rfl rfl (one_of HT_.out (by kernel_rfl)) (by decide) (fun K hK => ?_)
            refine goes_ Try.func33 (by kernel_rfl) rfl #[.int .i64 x6_4] (by rfl) rfl rfl (by (try simp only [List.map_toArray, List.map_cons, List.map_nil]); first | done | rfl | (simp only [List.length_drop, List.length_take]; rfl)) ?_
            with_reducible refine (lontarlaw01_scalar.calls x6_4 true _ A22.out).mono ?_
            rintro e w' ⟨rfl, ⟨nd, rfl⟩⟩
            refine ⟨_, rfl, ?_⟩
            refine hK.out _ _ (Kd.C_string (P := Try.prog) (A := A0) (c := c0) Try.underlying22 Try.underlying5 Try.underlying9 (Kd.C_below HR223.out (pw_below_drewN HB.out nd))) (fun hHeld => ?_)
            clear hK K
            refine norm_ (a' := ?_) ?_ ?_
            rotate_left
            ·show Act.put _ (some 87) _ = _
             simp only [Act.put, List.setIfInBounds_toArray, List.set_cons_zero, List.set_cons_succ, i64_w, i32_w]
             rfl
            refine pure_ (i := 2) (N := some 88) (v := ?_) (a' := ?_) #[Y7, Y7, Y7, Z7, Z7, Z7, Z7, Z7, Z7, Z7, Z7] rfl rfl (any_of HT_.out (by kernel_rfl)) (fun _ _ _ h => h) (Or.inl ⟨by rfl, ?_⟩) ?_ ?_
            rotate_left
            ·intro w'
             go_simp
             with_reducible rfl
            rotate_left
            ·simp only [Act.put, List.setIfInBounds_toArray, List.set_cons_zero, List.set_cons_succ, i64_w, i32_w]
             rfl
            refine pure_ (i := 3) (N := some 89) (v := ?_) (a' := ?_) #[Y7, Y7, Y7, Y7, Z7, Z7, Z7, Z7, Z7, Z7, Z7] rfl rfl (any_of HT_.out (by kernel_rfl)) (fun _ _ _ h => h) (Or.inl ⟨by rfl, ?_⟩) ?_ ?_
            rotate_left
            ·intro w'
             go_simp
             with_reducible rfl
            rotate_left
            ·simp only [Act.put, List.setIfInBounds_toArray, List.set_cons_zero, List.set_cons_succ, i64_w, i32_w]
             rfl
            refine pure_ (i := 5) (N := some 91) (v := ?_) (a' := ?_) #[Y7, Y7, Y7, Y7, Z7, Y7, Z7, Z7, Z7, Z7, Z7] rfl rfl (any_of HT_.out (by kernel_rfl)) (fun _ _ _ h => h) (Or.inl ⟨by rfl, ?_⟩) ?_ ?_
            rotate_left
            ·intro w'
             go_simp
             with_reducible rfl
            rotate_left
            ·simp only [Act.put, List.setIfInBounds_toArray, List.set_cons_zero, List.set_cons_succ, i64_w, i32_w]
             rfl
            refine pure_ (i := 6) (N := some 92) (v := ?_) (a' := ?_) #[Y7, Y7, Y7, Y7, Z7, Y7, Y7, Z7, Z7, Z7, Z7] rfl rfl (any_of HT_.out (by kernel_rfl)) (fun _ _ _ h => h) (Or.inl ⟨by rfl, ?_⟩) ?_ ?_
            rotate_left
            ·intro w'
             go_simp
             with_reducible rfl
            rotate_left
            ·simp only [Act.put, List.setIfInBounds_toArray, List.set_cons_zero, List.set_cons_succ, i64_w, i32_w]
             rfl
            refine pure_ (i := 7) (N := some 93) (v := ?_) (a' := ?_) #[Y7, Y7, Y7, Y7, Z7, Y7, Y7, Y7, Z7, Z7, Z7] rfl rfl (any_of HT_.out (by kernel_rfl)) (fun _ _ _ h => h) (Or.inl ⟨by rfl, ?_⟩) ?_ ?_
            rotate_left
            ·intro w'
             go_simp
             with_reducible rfl
            rotate_left
            ·simp only [Act.put, List.setIfInBounds_toArray, List.set_cons_zero, List.set_cons_succ, i64_w, i32_w]
             rfl
            refine take_ (i := 8) (N := some 94) (v := ?_) (a' := ?_) #[Y7, Y7, Y7, Y7, Z7, Y7, Y7, Y7, Y7, Z7, Z7] rfl rfl (take_ofW HT_.out HW_.out (by kernel_rfl)) (fun _ _ _ h => h) (Or.inl ⟨by rfl, ?_⟩) hHeld ?_ ?_
            rotate_left
            ·rintro w' s0
             go_simp
             with_reducible rfl
            rotate_left
            ·simp only [Act.put, List.setIfInBounds_toArray, List.set_cons_zero, List.set_cons_succ, i64_w, i32_w]
             rfl
            refine one_ (i := 4) (N := some 90) #[Y7, Y7, Y7, Y7, Y7, Y7, Y7, Y7, Y7, Z7, Z7] rfl rfl (one_of HT_.out (by kernel_rfl)) (by decide) (fun K hK => ?_)
            refine goes_ Try.func34 (by kernel_rfl) rfl #[.int .i64 x6_4] (by rfl) rfl rfl (by (try simp only [List.map_toArray, List.map_cons, List.map_nil]); first | done | rfl | (simp only [List.length_drop, List.length_take]; rfl)) ?_
            with_reducible refine (lontarlaw01_bytes.calls x6_4 t222 _ A24.out).mono ?_
            rintro e w35 ⟨rfl, hb⟩
            refine ⟨_, rfl, ?_⟩
            have n0_ := Aside0.mk (below_step (by repeat (first | (with_reducible first | exact HB.out | apply below_alloc | apply pw_below_drewN | apply below_drew1) | exact HB.out)) hb)
            clear HB
            have HB := n0_
            clear n0_
            (try clear hb)
            (try clear hb2)
            (try clear hk)
            (try clear hi)
            have hcv36 := Kd.C_string (P := Try.prog) (A := A0) (c := c0) Try.underlying22 Try.underlying5 Try.underlying9 (Kd.C_below HR223.out HB.out)
            refine hK.out _ _ (Kd.C_string (P := Try.prog) (A := A0) (c := c0) Try.underlying22 Try.underlying5 Try.underlying9 (Kd.C_below HR223.out HB.out)) (fun hHeld => ?_)
            clear hK K
            refine norm_ (a' := ?_) ?_ ?_
            rotate_left
            ·show Act.put _ (some 90) _ = _
             simp only [Act.put, List.setIfInBounds_toArray, List.set_cons_zero, List.set_cons_succ, i64_w, i32_w]
             rfl
            refine pure_ (i := 9) (N := some 95) (v := ?_) (a' := ?_) #[Y7, Y7, Y7, Y7, Y7, Y7, Y7, Y7, Y7, Y7, Z7] rfl rfl (any_of HT_.out (by kernel_rfl)) (fun _ _ _ h => h) (Or.inl ⟨by rfl, ?_⟩) ?_ ?_
            rotate_left
            ·intro w'
             go_simp
             with_reducible rfl
            rotate_left
            ·simp only [Act.put, List.setIfInBounds_toArray, List.set_cons_zero, List.set_cons_succ, i64_w, i32_w]
             rfl
            refine pure_ (i := 10) (N := some 96) (v := ?_) (a' := ?_) #[Y7, Y7, Y7, Y7, Y7, Y7, Y7, Y7, Y7, Y7, Y7] rfl rfl (any_of HT_.out (by kernel_rfl)) (fun _ _ _ h => h) (Or.inl ⟨by rfl, ?_⟩) ?_ ?_
            rotate_left
            ·intro w'
             go_simp
             with_reducible rfl
            rotate_left
            ·simp only [Act.put, List.setIfInBounds_toArray, List.set_cons_zero, List.set_cons_succ, i64_w, i32_w]
             rfl
            refine done_ (done_of HT_.out (by kernel_rfl)) ?_
            try go_wp2
            go_roundg kj4
            case measure => have := HK1.out; have := HJ1.out; have := HJ4.out; omega
            case rel => exact ⟨(wrap64 (x5_1 + 1)), (by first | rfl | (simp; done) | (simp [*]; done)), H', ⟨by have := HK1.out; have := HJ1.out; have := HJ4.out; omega⟩, ⟨by repeat (first | (with_reducible first | exact HB.out | apply below_alloc | apply pw_below_drewN | apply below_drew1) | exact HB.out)⟩⟩
          ·rw [if_neg c26] at H
           exact absurd H (by simp)
         ·rw [if_neg c25] at H
          exact absurd H (by simp)
        ·replace c23 := Bool.eq_false_iff.mpr c23
         subst c23
         have H1 : (lontarlaw01_one.l0 kj4 l0 (wrap64 (x5_1 + 1))) = some (r1, r2, r3) := by rw [if_neg (show ¬ (false = true) by decide)] at H; exact H
         clear H
         have H := H1
         clear H1
         have H' := Aside0.mk H
         clear H
         try go_wp2
         have n0_ := Aside0.mk (below_drew1 HB.out)
         clear HB
         have HB := n0_
         clear n0_
         refine start_ (n := 11) (S := fun w' => True) (ds := []) #[Z7, Z7, Z7, Z7, Z7, Z7, Z7, Z7, Z7, Z7, Z7] (by kernel_rfl) rfl rfl trivial (fun hHeld => ?_); refine with_tabW lontarlaw01_one.tab13 lontarlaw01_one.bits13 (fun HT_ HW_ => ?_)
         generalize wc.drew = w38 at HB hHeld ⊢
         refine pure_ (i := 0) (N := some 86) (v := ?_) (a' := ?_) #[Y7, Z7, Z7, Z7, Z7, Z7, Z7, Z7, Z7, Z7, Z7] rfl rfl (any_of HT_.out (by kernel_rfl)) (fun _ _ _ h => h) (Or.inl ⟨by rfl, ?_⟩) ?_ ?_
         rotate_left
         ·intro w'
          go_simp
          with_reducible rfl
         rotate_left
         ·simp only [Act.put, List.setIfInBounds_toArray, List.set_cons_zero, List.set_cons_succ, i64_w, i32_w]
          rfl
         refine one_ (i := 1) (N := some 87) #[Y7, Y7, Z7, Z7, Z7, Z7, Z7, Z7, Z7, Z7, Z7] rfl rfl (one_of HT_.out (by kernel_rfl)) (by decide) (fun K hK => ?_)
         refine goes_ Try.func33 (by kernel_rfl) rfl #[.int .i64 x6_4] (by rfl) rfl rfl (by (try simp only [List.map_toArray, List.map_cons, List.map_nil]); first | done | rfl | (simp only [List.length_drop, List.length_take]; rfl)) ?_
         with_reducible refine (lontarlaw01_scalar.calls x6_4 false _ A22.out).mono ?_
         rintro e w' ⟨rfl, ⟨nd, rfl⟩⟩
         refine ⟨_, rfl, ?_⟩
         refine hK.out _ _ trivial (fun hHeld => ?_)
         clear hK K
         refine norm_ (a' := ?_) ?_ ?_
         rotate_left
         ·show Act.put _ (some 87) _ = _
          simp only [Act.put, List.setIfInBounds_toArray, List.set_cons_zero, List.set_cons_succ, i64_w, i32_w]
          rfl
         refine pure_ (i := 2) (N := some 88) (v := ?_) (a' := ?_) #[Y7, Y7, Y7, Z7, Z7, Z7, Z7, Z7, Z7, Z7, Z7] rfl rfl (any_of HT_.out (by kernel_rfl)) (fun _ _ _ h => h) (Or.inl ⟨by rfl, ?_⟩) ?_ ?_
         rotate_left
         ·intro w'
          go_simp
          with_reducible rfl
         rotate_left
         ·simp only [Act.put, List.setIfInBounds_toArray, List.set_cons_zero, List.set_cons_succ, i64_w, i32_w]
          rfl
         refine pure_ (i := 3) (N := some 89) (v := undef) (a' := ?_) #[Y7, Y7, Y7, Y7, Z7, Z7, Z7, Z7, Z7, Z7, Z7] rfl rfl (any_of HT_.out (by kernel_rfl)) (fun _ _ _ h => h) (Or.inr ⟨by rfl, rfl⟩) ?_ ?_
         rotate_left
         ·simp only [Act.put, List.setIfInBounds_toArray, List.set_cons_zero, List.set_cons_succ, i64_w, i32_w]
          rfl
         refine pure_ (i := 4) (N := some 90) (v := undef) (a' := ?_) #[Y7, Y7, Y7, Y7, Y7, Z7, Z7, Z7, Z7, Z7, Z7] rfl rfl (any_of HT_.out (by kernel_rfl)) (fun _ _ _ h => h) (Or.inr ⟨by rfl, rfl⟩) ?_ ?_
         rotate_left
         ·simp only [Act.put, List.setIfInBounds_toArray, List.set_cons_zero, List.set_cons_succ, i64_w, i32_w]
          rfl
         refine pure_ (i := 5) (N := some 91) (v := undef) (a' := ?_) #[Y7, Y7, Y7, Y7, Y7, Y7, Z7, Z7, Z7, Z7, Z7] rfl rfl (any_of HT_.out (by kernel_rfl)) (fun _ _ _ h => h) (Or.inr ⟨by rfl, rfl⟩) ?_ ?_
         rotate_left
         ·simp only [Act.put, List.setIfInBounds_toArray, List.set_cons_zero, List.set_cons_succ, i64_w, i32_w]
          rfl
         refine pure_ (i := 6) (N := some 92) (v := undef) (a' := ?_) #[Y7, Y7, Y7, Y7, Y7, Y7, Y7, Z7, Z7, Z7, Z7] rfl rfl (any_of HT_.out (by kernel_rfl)) (fun _ _ _ h => h) (Or.inr ⟨by rfl, rfl⟩) ?_ ?_
         rotate_left
         ·simp only [Act.put, List.setIfInBounds_toArray, List.set_cons_zero, List.set_cons_succ, i64_w, i32_w]
          rfl
         refine pure_ (i := 7) (N := some 93) (v := undef) (a' := ?_) #[Y7, Y7, Y7, Y7, Y7, Y7, Y7, Y7, Z7, Z7, Z7] rfl rfl (any_of HT_.out (by kernel_rfl)) (fun _ _ _ h => h) (Or.inr ⟨by rfl, rfl⟩) ?_ ?_
         rotate_left
         ·simp only [Act.put, List.setIfInBounds_toArray, List.set_cons_zero, List.set_cons_succ, i64_w, i32_w]
          rfl
         refine pure_ (i := 8) (N := some 94) (v := undef) (a' := ?_) #[Y7, Y7, Y7, Y7, Y7, Y7, Y7, Y7, Y7, Z7, Z7] rfl rfl (any_of HT_.out (by kernel_rfl)) (fun _ _ _ h => h) (Or.inr ⟨by rfl, rfl⟩) ?_ ?_
         rotate_left
         ·simp only [Act.put, List.setIfInBounds_toArray, List.set_cons_zero, List.set_cons_succ, i64_w, i32_w]
          rfl
         refine pure_ (i := 9) (N := some 95) (v := undef) (a' := ?_) #[Y7, Y7, Y7, Y7, Y7, Y7, Y7, Y7, Y7, Y7, Z7] rfl rfl (any_of HT_.out (by kernel_rfl)) (fun _ _ _ h => h) (Or.inr ⟨by rfl, rfl⟩) ?_ ?_
         rotate_left
         ·simp only [Act.put, List.setIfInBounds_toArray, List.set_cons_zero, List.set_cons_succ, i64_w, i32_w]
          rfl
         refine pure_ (i := 10) (N := some 96) (v := ?_) (a' := ?_) #[Y7, Y7, Y7, Y7, Y7, Y7, Y7, Y7, Y7, Y7, Y7] rfl rfl (any_of HT_.out (by kernel_rfl)) (fun _ _ _ h => h) (Or.inl ⟨by rfl, ?_⟩) ?_ ?_
         rotate_left
         ·intro w'
          go_simp
          with_reducible rfl
         rotate_left
         ·simp only [Act.put, List.setIfInBounds_toArray, List.set_cons_zero, List.set_cons_succ, i64_w, i32_w]
          rfl
         refine done_ (done_of HT_.out (by kernel_rfl)) ?_
         try go_wp2
         go_roundg kj4
         case measure => have := HK1.out; have := HJ1.out; have := HJ4.out; omega
         case rel => exact ⟨(wrap64 (x5_1 + 1)), (by first | rfl | (simp; done) | (simp [*]; done)), H', ⟨by have := HK1.out; have := HJ1.out; have := HJ4.out; omega⟩, ⟨by repeat (first | (with_reducible first | exact HB.out | apply below_alloc | apply pw_below_drewN | apply below_drew1) | exact HB.out)⟩⟩
     ·replace c4 := Bool.eq_false_iff.mpr c4
      subst c4
      have H1 : (lontarlaw01_one.l1 kj1 l0 0) = some (r1, r2, r3) := by rw [if_neg (show ¬ (false = true) by decide)] at H; exact H
      clear H
      have H := H1
      clear H1
      have H' := Aside0.mk H
      clear H
      go_wp2
      go_loopg [7] kj1 (fun kq v7 w' => ∃ (x7_3 : Int), v7 = .int .i64 x7_3 ∧ Aside0 (lontarlaw01_one.l1 kq l0 x7_3 = some (r1, r2, r3)) ∧ Aside0 (kq ≤ kj1) ∧ Aside0 (Below w.heap.size w w'))
      case atStart => exact ⟨(0), (by first | rfl | (simp; done) | (simp [*]; done)), H', ⟨Nat.le_refl _⟩, ⟨by repeat (first | (with_reducible first | exact HB.out | apply below_alloc | apply pw_below_drewN | apply below_drew1) | exact HB.out)⟩⟩
      case round =>
       clear H'
       try clear c1
       try clear c2
       try clear p2
       try clear q2
       try clear hx2
       try clear qi2
       try clear c3
       try clear hcv3
       try clear c4
       try clear p6
       try clear c8
       try clear c8b0
       try clear c8b1
       try clear c9
       try clear c10
       try clear c12
       try clear c12b0
       try clear c12b1
       try clear c13
       try clear c13b0
       try clear c13b1
       try clear c14
       try clear c14b0
       try clear c14b1
       try clear c15
       try clear c15b0
       try clear c15b1
       try clear c17
       try clear c17b0
       try clear c17b1
       try clear c18
       try clear c18b0
       try clear c18b1
       try clear c19
       try clear c19b0
       try clear c19b1
       try clear c20
       try clear c20b0
       try clear c20b1
       try clear p21
       try clear q21
       try clear hx21
       try clear qi21
       try clear p22
       try clear q22
       try clear hx22
       try clear c23
       try clear c25
       try clear c25b0
       try clear c25b1
       try clear c26
       try clear c26b0
       try clear c26b1
       try clear c27
       try clear c27b0
       try clear c27b1
       try clear hcv31
       try clear c33
       try clear c34
       try clear hcv36
       try clear hx214_0
       try clear hx215_0
       try clear hx216_0
       try clear hx217_0
       try clear hx218_0
       try clear hx219_0
       try clear hx220_0
       try clear p2
       try clear p21
       try clear p214
       try clear p215
       try clear p216
       try clear p217
       try clear p218
       try clear p219
       try clear p220
       try clear p6
       try clear q2
       try clear q21
       try clear q214
       try clear q215
       try clear q216
       try clear q217
       try clear q218
       try clear q219
       try clear q220
       obtain ⟨x7_3, rfl, HA, HK3, HB⟩ := hrel
       cases gk with
       | zero => exact absurd HA.out (by simp [lontarlaw01_one.l1])
       | succ k3 =>
        have H := HA.out
        clear HA
        simp only [lontarlaw01_one.l1] at H
        by_cases c39 : x7_3 < (l0.length : Int)
        ·rw [if_pos c39] at H
         have c39b0 : decide (x7_3 < (l0.length : Int)) = true := decide_eq_true c39
         clear c39
         by_cases c40 : x7_3 < 4
         ·rw [if_pos c40] at H
          have c40b0 : decide (x7_3 < 4) = true := decide_eq_true c40
          clear c40
          obtain ⟨ji41, hji41⟩ : ∃ j_ : Int, (wrap64 (x7_3 + 1)) = j_ := ⟨_, rfl⟩
          replace H : (if 0 ≤ (ji41) then (if (ji41) ≤ (l0.length : Int) then ((lontarlaw01_begins.f k3 (l0.take ((ji41) : Int).toNat)).bind fun t225 => (if t225 = true then (lontarlaw01_one.l1 k3 l0 ji41) else (if x7_3 = (l0.length : Int) then (some (0, x7_3, 2)) else (some (0, mx x7_3 1, 1))))) else (none)) else (none)) = some (r1, r2, r3) := by first | (rw [hji41] at H; exact H) | (simp only [hji41] at H ⊢; exact H)
          have hji41w : (IntKind.i64.wrap (x7_3 + 1)) = ji41 := (i64_w _).trans hji41
          by_cases c42 : 0 ≤ (ji41)
          ·rw [if_pos c42] at H
           have c42b0 := eq_true c42
           have c42b1 : decide (0 ≤ (ji41)) = true := decide_eq_true c42
           clear c42
           by_cases c43 : (ji41) ≤ (l0.length : Int)
           ·rw [if_pos c43] at H
            have c43b0 := eq_true c43
            have c43b1 : decide ((ji41) ≤ (l0.length : Int)) = true := decide_eq_true c43
            clear c43
            replace H := Option.bind_eq_some_iff.mp H
            obtain ⟨t225, A440, H⟩ := H
            replace H : (if t225 = true then (lontarlaw01_one.l1 k3 l0 ji41) else (if x7_3 = (l0.length : Int) then (some (0, x7_3, 2)) else (some (0, mx x7_3 1, 1)))) = some (r1, r2, r3) := H
            have A44 := Aside0.mk A440
            clear A440
            by_cases c45 : t225 = true
            ·subst c45
             have H1 : (lontarlaw01_one.l1 k3 l0 ji41) = some (r1, r2, r3) := by rw [if_pos rfl] at H; exact H
             clear H
             have H := H1
             clear H1
             have H' := Aside0.mk H
             clear H
             obtain ⟨i046, hi046, _, hsz46, _⟩ := info_parts info5
             obtain ⟨hcut46, hA46, hC46⟩ := print_take_of (P := Try.prog) (Value.int .u8) 0 22 5 .i64 Try.underlying22 hi046 hsz46 A0 c0 l0 (ji41) (of_decide_eq_true (by first | (with_reducible assumption) | assumption)) (of_decide_eq_true (by first | (with_reducible assumption) | assumption)) HC0.out
             have HR224 := Aside0.mk (Kd.C_of_reads (h1 := fun _ => rfl) (hA46 _ (Kd.reads_of_C HR0.out)))
             have HC224 := Aside0.mk hC46
             clear hA46 hC46 hi046 hsz46
             generalize hlt_ : l0.take ((ji41) : Int).toNat = lt_ at *
             replace hlt_ := Aside0.mk hlt_
             go_wp2_with (first | (go_at_call 35; (with_reducible refine (lontarlaw01_begins.calls k3 _ _ lt_ true _ ?side1 ?side2 A44.out).mono ?_); (case side1 => repeat (first | exact (Kd.C_below HR224.out HB.out) | (with_reducible refine Kd.C_alloc ?_ _) | (with_reducible refine Kd.C_drewN ?_ _) | (with_reducible refine Kd.C_drew ?_))); (case side2 => exact HC224.out); rintro e w47 ⟨rfl, hb⟩; have n0_ := Aside0.mk (below_step (by repeat (first | (with_reducible first | exact HB.out | apply below_alloc | apply pw_below_drewN | apply below_drew1) | exact HB.out)) hb); clear HB; have HB := n0_; clear n0_; (try clear hb); (try clear hb2); (try clear hk); (try clear hi)))
             go_roundg k3
             case measure => have := HK1.out; have := HJ1.out; have := HK3.out; omega
             case rel => exact ⟨(ji41), (by first | rfl | (simp; done) | (simp only [← hji41] <;> (first | rfl | simp)) | (simp [*]; done)), H', ⟨by have := HK1.out; have := HJ1.out; have := HK3.out; omega⟩, ⟨by repeat (first | (with_reducible first | exact HB.out | apply below_alloc | apply pw_below_drewN | apply below_drew1) | exact HB.out)⟩⟩
            ·replace c45 := Bool.eq_false_iff.mpr c45
             subst c45
             have H1 : (if x7_3 = (l0.length : Int) then (some (0, x7_3, 2)) else (some (0, mx x7_3 1, 1))) = some (r1, r2, r3) := by rw [if_neg (show ¬ (false = true) by decide)] at H; exact H
             clear H
             have H := H1
             clear H1
             by_cases c48 : x7_3 = (l0.length : Int)
             ·rw [if_pos c48] at H
              have c48b0 : (x7_3 == (l0.length : Int)) = true := beq_iff_eq.mpr c48
              have c48b1 : (x7_3 != (l0.length : Int)) = false := bne_eq_false_iff_eq.mpr c48
              clear c48
              simp only [Option.some.injEq, Prod.mk.injEq] at H
              obtain ⟨rfl, rfl, rfl⟩ := H
              obtain ⟨i049, hi049, _, hsz49, _⟩ := info_parts info5
              obtain ⟨hcut49, hA49, hC49⟩ := print_take_of (P := Try.prog) (Value.int .u8) 0 22 5 .i64 Try.underlying22 hi049 hsz49 A0 c0 l0 (ji41) (of_decide_eq_true (by first | (with_reducible assumption) | assumption)) (of_decide_eq_true (by first | (with_reducible assumption) | assumption)) HC0.out
              have HR224 := Aside0.mk (Kd.C_of_reads (h1 := fun _ => rfl) (hA49 _ (Kd.reads_of_C HR0.out)))
              have HC224 := Aside0.mk hC49
              clear hA49 hC49 hi049 hsz49
              generalize hlt_ : l0.take ((ji41) : Int).toNat = lt_ at *
              replace hlt_ := Aside0.mk hlt_
              go_wp2_with (first | (go_at_call 35; (with_reducible refine (lontarlaw01_begins.calls k3 _ _ lt_ false _ ?side1 ?side2 A44.out).mono ?_); (case side1 => repeat (first | exact (Kd.C_below HR224.out HB.out) | (with_reducible refine Kd.C_alloc ?_ _) | (with_reducible refine Kd.C_drewN ?_ _) | (with_reducible refine Kd.C_drew ?_))); (case side2 => exact HC224.out); rintro e w50 ⟨rfl, hb⟩; have n0_ := Aside0.mk (below_step (by repeat (first | (with_reducible first | exact HB.out | apply below_alloc | apply pw_below_drewN | apply below_drew1) | exact HB.out)) hb); clear HB; have HB := n0_; clear n0_; (try clear hb); (try clear hb2); (try clear hk); (try clear hi)))
              go_ret3
              exact ⟨by first | rfl | (simp [errW_none, errW_some] <;> rfl) | (simp only [← hji41]; first | rfl | (simp [errW_none, errW_some] <;> rfl)) | (simp [*, errW_none, errW_some] <;> rfl), by repeat (first | (with_reducible first | exact HB.out | apply below_alloc | apply pw_below_drewN | apply below_drew1) | exact HB.out)⟩
             ·rw [if_neg c48] at H
              have c48b0 : (x7_3 == (l0.length : Int)) = false := beq_eq_false_iff_ne.mpr c48
              have c48b1 : (x7_3 != (l0.length : Int)) = true := bne_iff_ne.mpr c48
              obtain ⟨ji51, hji51⟩ : ∃ j_ : Int, (mx x7_3 1) = j_ := ⟨_, rfl⟩
              replace H : (some (0, ji51, 1)) = some (r1, r2, r3) := by first | (rw [hji51] at H; exact H) | (simp only [hji51] at H ⊢; exact H)
              (try rw [hji51] at A44)
              have hji51_ : (if x7_3 < 1 then 1 else x7_3) = ji51 := hji51
              simp only [Option.some.injEq, Prod.mk.injEq] at H
              obtain ⟨rfl, rfl, rfl⟩ := H
              obtain ⟨i052, hi052, _, hsz52, _⟩ := info_parts info5
              obtain ⟨hcut52, hA52, hC52⟩ := print_take_of (P := Try.prog) (Value.int .u8) 0 22 5 .i64 Try.underlying22 hi052 hsz52 A0 c0 l0 (ji41) (of_decide_eq_true (by first | (with_reducible assumption) | assumption)) (of_decide_eq_true (by first | (with_reducible assumption) | assumption)) HC0.out
              have HR224 := Aside0.mk (Kd.C_of_reads (h1 := fun _ => rfl) (hA52 _ (Kd.reads_of_C HR0.out)))
              have HC224 := Aside0.mk hC52
              clear hA52 hC52 hi052 hsz52
              generalize hlt_ : l0.take ((ji41) : Int).toNat = lt_ at *
              replace hlt_ := Aside0.mk hlt_
              go_wp2_with (first | (go_at_call 35; (with_reducible refine (lontarlaw01_begins.calls k3 _ _ lt_ false _ ?side1 ?side2 A44.out).mono ?_); (case side1 => repeat (first | exact (Kd.C_below HR224.out HB.out) | (with_reducible refine Kd.C_alloc ?_ _) | (with_reducible refine Kd.C_drewN ?_ _) | (with_reducible refine Kd.C_drew ?_))); (case side2 => exact HC224.out); rintro e w53 ⟨rfl, hb⟩; have n0_ := Aside0.mk (below_step (by repeat (first | (with_reducible first | exact HB.out | apply below_alloc | apply pw_below_drewN | apply below_drew1) | exact HB.out)) hb); clear HB; have HB := n0_; clear n0_; (try clear hb); (try clear hb2); (try clear hk); (try clear hi)))
              go_ret3
              exact ⟨by first | rfl | (simp [errW_none, errW_some] <;> rfl) | (simp only [← hji41, ← hji51]; first | rfl | (simp [errW_none, errW_some] <;> rfl)) | (simp [*, errW_none, errW_some] <;> rfl), by repeat (first | (with_reducible first | exact HB.out | apply below_alloc | apply pw_below_drewN | apply below_drew1) | exact HB.out)⟩
           ·rw [if_neg c43] at H
            exact absurd H (by simp)
          ·rw [if_neg c42] at H
           exact absurd H (by simp)
         ·rw [if_neg c40] at H
          have c40b0 : decide (x7_3 < 4) = false := decide_eq_false c40
          clear c40
          by_cases c54 : x7_3 = (l0.length : Int)
          ·rw [if_pos c54] at H
           have c54b0 : (x7_3 == (l0.length : Int)) = true := beq_iff_eq.mpr c54
           have c54b1 : (x7_3 != (l0.length : Int)) = false := bne_eq_false_iff_eq.mpr c54
           clear c54
           simp only [Option.some.injEq, Prod.mk.injEq] at H
           obtain ⟨rfl, rfl, rfl⟩ := H
           go_wp2
           go_ret3
           exact ⟨by first | rfl | (simp [errW_none, errW_some] <;> rfl) | (simp [*, errW_none, errW_some] <;> rfl), by repeat (first | (with_reducible first | exact HB.out | apply below_alloc | apply pw_below_drewN | apply below_drew1) | exact HB.out)⟩
          ·rw [if_neg c54] at H
           have c54b0 : (x7_3 == (l0.length : Int)) = false := beq_eq_false_iff_ne.mpr c54
           have c54b1 : (x7_3 != (l0.length : Int)) = true := bne_iff_ne.mpr c54
           obtain ⟨ji55, hji55⟩ : ∃ j_ : Int, (mx x7_3 1) = j_ := ⟨_, rfl⟩
           replace H : (some (0, ji55, 1)) = some (r1, r2, r3) := by first | (rw [hji55] at H; exact H) | (simp only [hji55] at H ⊢; exact H)
           have hji55_ : (if x7_3 < 1 then 1 else x7_3) = ji55 := hji55
           simp only [Option.some.injEq, Prod.mk.injEq] at H
           obtain ⟨rfl, rfl, rfl⟩ := H
           go_wp2
           go_ret3
           exact ⟨by first | rfl | (simp [errW_none, errW_some] <;> rfl) | (simp only [← hji55]; first | rfl | (simp [errW_none, errW_some] <;> rfl)) | (simp [*, errW_none, errW_some] <;> rfl), by repeat (first | (with_reducible first | exact HB.out | apply below_alloc | apply pw_below_drewN | apply below_drew1) | exact HB.out)⟩
        ·rw [if_neg c39] at H
         have c39b0 : decide (x7_3 < (l0.length : Int)) = false := decide_eq_false c39
         clear c39
         by_cases c56 : x7_3 = (l0.length : Int)
         ·rw [if_pos c56] at H
          have c56b0 : (x7_3 == (l0.length : Int)) = true := beq_iff_eq.mpr c56
          have c56b1 : (x7_3 != (l0.length : Int)) = false := bne_eq_false_iff_eq.mpr c56
          clear c56
          simp only [Option.some.injEq, Prod.mk.injEq] at H
          obtain ⟨rfl, rfl, rfl⟩ := H
          go_wp2
          go_ret3
          exact ⟨by first | rfl | (simp [errW_none, errW_some] <;> rfl) | (simp [*, errW_none, errW_some] <;> rfl), by repeat (first | (with_reducible first | exact HB.out | apply below_alloc | apply pw_below_drewN | apply below_drew1) | exact HB.out)⟩
         ·rw [if_neg c56] at H
          have c56b0 : (x7_3 == (l0.length : Int)) = false := beq_eq_false_iff_ne.mpr c56
          have c56b1 : (x7_3 != (l0.length : Int)) = true := bne_iff_ne.mpr c56
          obtain ⟨ji57, hji57⟩ : ∃ j_ : Int, (mx x7_3 1) = j_ := ⟨_, rfl⟩
          replace H : (some (0, ji57, 1)) = some (r1, r2, r3) := by first | (rw [hji57] at H; exact H) | (simp only [hji57] at H ⊢; exact H)
          have hji57_ : (if x7_3 < 1 then 1 else x7_3) = ji57 := hji57
          simp only [Option.some.injEq, Prod.mk.injEq] at H
          obtain ⟨rfl, rfl, rfl⟩ := H
          go_wp2
          go_ret3
          exact ⟨by first | rfl | (simp [errW_none, errW_some] <;> rfl) | (simp only [← hji57]; first | rfl | (simp [errW_none, errW_some] <;> rfl)) | (simp [*, errW_none, errW_some] <;> rfl), by repeat (first | (with_reducible first | exact HB.out | apply below_alloc | apply pw_below_drewN | apply below_drew1) | exact HB.out)⟩

end Go.Proofs.Ytdhpldiahgajcaa.PUtfAll
