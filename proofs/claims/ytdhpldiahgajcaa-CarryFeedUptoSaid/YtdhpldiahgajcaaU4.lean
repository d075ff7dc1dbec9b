/- Same. Written by a program out of Lean's own print of the given functions (the walk and the Lean function of the same answers); no condition of its own. -/
import Derived.Test.YtdhpldiahgajcaaU0
import Derived.Test.YtdhpldiahgajcaaU3
namespace Go.Proofs.Ytdhpldiahgajcaa.PUtfAll
open Go.RowKit Go.Proofs.YtdhpldiahgajcaaW.PrintWords Go.Proofs.YtdhpldiahgajcaaW.PrintLast Go.Proofs.YtdhpldiahgajcaaW.PrintMore
attribute [local go_sem] max2_int min2_int max_two min_two max_three min_three max_four min_four   -- for this text's walks alone
set_option linter.unusedVariables false
set_option linter.unusedSimpArgs false
abbrev Y4 : Bool := true
abbrev Z4 : Bool := false

/-! ### lontarlaw01_Same: function 25 -/
def lontarlaw01_Same.l0 : Nat → List (S32) → List (S32) → Int → Int → Option (Bool)
 | 0, _, _, _, _ => none
 | k + 1, x0, x1, x12, x13 => if x13 < x12 then (if 0 ≤ x13 then (if x13 < (x0.length : Int) then (if x13 < (x1.length : Int) then (if ((rd_T32 x0 x13).f0) = ((rd_T32 x1 x13).f0) then (if ((rd_T32 x0 x13).f1) = ((rd_T32 x1 x13).f1) then (if ((rd_T32 x0 x13).f3) = ((rd_T32 x1 x13).f3) then ((lontarlaw01_Units.f k ((rd_T32 x0 x13).f2) ((rd_T32 x1 x13).f2)).bind fun t158 => (if t158 = true then (lontarlaw01_Same.l0 k x0 x1 x12 (wrap64 (x13 + 1))) else (some false))) else (some false)) else (some false)) else (some false)) else (none)) else (none)) else (none)) else (some true)
def lontarlaw01_Same.f (k : Nat) (l0 : List (S32)) (l1 : List (S32)) : Option (Bool) := if (l0.length : Int) = (l1.length : Int) then (lontarlaw01_Same.l0 k l0 l1 (l0.length : Int) 0) else (some false)
theorem lontarlaw01_Same.mono_l : ∀ k, (∀ y0 y1 y2 y3, LeO (lontarlaw01_Same.l0 k y0 y1 y2 y3) (lontarlaw01_Same.l0 (k + 1) y0 y1 y2 y3))
 | 0 => fun _ _ _ _ r h => by simp [lontarlaw01_Same.l0] at h
 | k + 1 => by
  have ih0 := lontarlaw01_Same.mono_l k
  ·intro y0 y1 y2 y3
   unfold lontarlaw01_Same.l0
   repeat' first
   | (with_reducible exact ih0 _ _ _ _)
   | (with_reducible exact lontarlaw01_Units.mono _ _ _)
   | (with_reducible exact LeO.refl _)
   | (with_reducible exact LeO.none _)
   | (with_reducible refine LeO.ite ?_ ?_)
   | (with_reducible refine LeO.bind ?_ (fun _ => ?_))
   | exact ih0 _ _ _ _
   | exact lontarlaw01_Units.mono _ _ _
   | exact LeO.none _
   | refine LeO.ite ?_ ?_
   | refine LeO.bind ?_ (fun _ => ?_)
theorem lontarlaw01_Same.mono : ∀ a0 a1 k, LeO (lontarlaw01_Same.f k a0 a1) (lontarlaw01_Same.f (k + 1) a0 a1) := by
 intro a0 a1 k
 have ih0 := lontarlaw01_Same.mono_l k
 unfold lontarlaw01_Same.f
 repeat' first
   | (with_reducible exact ih0 _ _ _ _)
   | (with_reducible exact lontarlaw01_Units.mono _ _ _)
   | (with_reducible exact LeO.refl _)
   | (with_reducible exact LeO.none _)
   | (with_reducible refine LeO.ite ?_ ?_)
   | (with_reducible refine LeO.bind ?_ (fun _ => ?_))
   | exact ih0 _ _ _ _
   | exact lontarlaw01_Units.mono _ _ _
   | exact LeO.none _
   | refine LeO.ite ?_ ?_
   | refine LeO.bind ?_ (fun _ => ?_)
def lontarlaw01_Same.T6 : Bool × List (List Nat × List Nat) := (true, [([], []), ([], []), ([0, 1], [0, 1]), ([2], [2]), ([3], [3]), ([], []), ([], []), ([5, 6], [5, 6]), ([7], [7]), ([8], [8]), ([4, 9], [4, 9]), ([10], [10]), ([11], [11]), ([11], [11]), ([12, 13, 11], [11, 12, 13]), ([14, 11], [11, 14]), ([15, 11], [11, 15]), ([11], [11]), ([11], [11]), ([17, 18, 11], [11, 17, 18]), ([19, 11], [11, 19]), ([20, 11], [11, 20]), ([16, 21, 11], [11, 16, 21]), ([11, 22], [11, 22]), ([23, 11], [23]), ([24], [24]), ([24], [24]), ([25, 26, 24], [24, 25, 26]), ([27, 24], [24, 27]), ([28, 24], [24, 28]), ([24], [24]), ([24], [24]), ([30, 31, 24], [24, 30, 31]), ([32, 24], [24, 32]), ([33, 24], [24, 33]), ([29, 34, 24], [24, 29, 34]), ([24, 35], [24, 35]), ([36, 24], [36]), ([37], [37]), ([37], [37]), ([38, 39, 37], [37, 38, 39]), ([40, 37], [37, 40]), ([41, 37], [37, 41]), ([37], [37]), ([37], [37]), ([43, 44, 37], [37, 43, 44]), ([45, 37], [37, 45]), ([46, 37], [37, 46]), ([42, 47, 37, 37], [37, 42, 47]), ([48, 37], [37, 48]), ([37, 49], [37, 49])])
def lontarlaw01_Same.B6 : List Nat := [0, 0, 3, 7, 15, 0, 0, 96, 224, 480, 1023, 2047, 4095, 4095, 16383, 32767, 65535, 4095, 4095, 397311, 921599, 1970175, 4194303, 8388607, 16777215, 33554431, 33554431, 134217727, 268435455, 536870911, 33554431, 33554431, 3254779903, 7549747199, 16139681791, 34359738367, 68719476735, 137438953471, 274877906943, 274877906943, 1099511627775, 2199023255551, 4398046511103, 274877906943, 274877906943, 26663156973567, 61847529062399, 132216273240063, 281474976710655, 562949953421311, 1125899906842623]
theorem lontarlaw01_Same.tab6 : rtab .any (opsOf Try.f25 6) = lontarlaw01_Same.T6 := by kernel_rfl
theorem lontarlaw01_Same.bits6 : waitsOk lontarlaw01_Same.T6.2 lontarlaw01_Same.B6 = true := by kernel_rfl
set_option maxHeartbeats 8000000 in
set_option maxRecDepth 100000 in
theorem lontarlaw01_Same.calls (k : Nat) (A0 : Option Addr) (c0 : Nat) (l0 : List (S32)) (A1 : Option Addr) (c1 : Nat) (l1 : List (S32)) (r : Bool) (w : World) (hr0 : Kd.C k32 w A0 l0.length l0) (hc0 : l0.length ≤ c0) (hr1 : Kd.C k32 w A1 l1.length l1) (hc1 : l1.length ≤ c1) (h : lontarlaw01_Same.f k l0 l1 = some r) :
  Calls Try.prog 25 #[.slice A0 l0.length c0, .slice A1 l1.length c1] w fun e w' => e = .returned (.bool r) ∧ Below w.heap.size w w' := by
 have HR0 := Aside0.mk hr0
 have HC0 := Aside0.mk hc0
 clear hr0 hc0
 have HR1 := Aside0.mk hr1
 have HC1 := Aside0.mk hc1
 clear hr1 hc1
 have HB := Aside0.mk (Below.refl w.heap.size w)
 have H : (if (l0.length : Int) = (l1.length : Int) then (lontarlaw01_Same.l0 k l0 l1 (l0.length : Int) 0) else (some false)) = some r := h
 clear h
 by_cases c3 : (l0.length : Int) = (l1.length : Int)
 ·rw [if_pos c3] at H
  have c3b0 : ((l0.length : Int) == (l1.length : Int)) = true := beq_iff_eq.mpr c3
  have c3b1 : ((l0.length : Int) != (l1.length : Int)) = false := bne_eq_false_iff_eq.mpr c3
  have c3b2 : (l0.length == l1.length) = true := by first | simpa using c3 | (simp at c3 ⊢; omega)
  clear c3
  have H' := Aside0.mk H
  clear H
  go_enter Try.func25, Try.ntmps25
  go_wp2
  go_loopg [13] k (fun kq v13 w' => ∃ (x13_1 : Int), v13 = .int .i64 x13_1 ∧ Aside0 (lontarlaw01_Same.l0 kq l0 l1 (l0.length : Int) x13_1 = some r) ∧ Aside0 (kq ≤ k) ∧ Aside0 (Below w.heap.size w w'))
  case atStart => exact ⟨(0), (by first | rfl | (simp; done) | (simp [*]; done)), H', ⟨Nat.le_refl _⟩, ⟨by repeat (first | (with_reducible first | exact HB.out | apply below_alloc | apply pw_below_drewN | apply below_drew1) | exact HB.out)⟩⟩
  case round =>
   clear H'
   try clear c1
   try clear c2
   try clear p2
   try clear c3
   try clear c3b0
   try clear c3b1
   try clear c3b2
   obtain ⟨x13_1, rfl, HA, HK1, HB⟩ := hrel
   cases gk with
   | zero => exact absurd HA.out (by simp [lontarlaw01_Same.l0])
   | succ k1 =>
    have H := HA.out
    clear HA
    simp only [lontarlaw01_Same.l0] at H
    by_cases c4 : x13_1 < (l0.length : Int)
    ·rw [if_pos c4] at H
     have c4b0 : decide (x13_1 < (l0.length : Int)) = true := decide_eq_true c4
     clear c4
     by_cases c5 : 0 ≤ x13_1
     ·rw [if_pos c5] at H
      have c5b0 : decide (0 ≤ x13_1) = true := decide_eq_true c5
      clear c5
      by_cases c6 : x13_1 < (l0.length : Int)
      ·rw [if_pos c6] at H
       have c6b0 : decide (x13_1 < (l0.length : Int)) = true := decide_eq_true c6
       clear c6
       by_cases c7 : x13_1 < (l1.length : Int)
       ·rw [if_pos c7] at H
        have c7b0 : decide (x13_1 < (l1.length : Int)) = true := decide_eq_true c7
        clear c7
        by_cases c8 : ((rd_T32 l0 x13_1).f0) = ((rd_T32 l1 x13_1).f0)
        ·rw [if_pos c8] at H
         have c8b0 : (((rd_T32 l0 x13_1).f0) == ((rd_T32 l1 x13_1).f0)) = true := beq_iff_eq.mpr c8
         have c8b1 : (((rd_T32 l0 x13_1).f0) != ((rd_T32 l1 x13_1).f0)) = false := bne_eq_false_iff_eq.mpr c8
         clear c8
         by_cases c9 : ((rd_T32 l0 x13_1).f1) = ((rd_T32 l1 x13_1).f1)
         ·rw [if_pos c9] at H
          have c9b0 : (((rd_T32 l0 x13_1).f1) == ((rd_T32 l1 x13_1).f1)) = true := beq_iff_eq.mpr c9
          have c9b1 : (((rd_T32 l0 x13_1).f1) != ((rd_T32 l1 x13_1).f1)) = false := bne_eq_false_iff_eq.mpr c9
          clear c9
          by_cases c10 : ((rd_T32 l0 x13_1).f3) = ((rd_T32 l1 x13_1).f3)
          ·rw [if_pos c10] at H
           have c10b0 : (((rd_T32 l0 x13_1).f3) == ((rd_T32 l1 x13_1).f3)) = true := beq_iff_eq.mpr c10
           have c10b1 : (((rd_T32 l0 x13_1).f3) != ((rd_T32 l1 x13_1).f3)) = false := bne_eq_false_iff_eq.mpr c10
           clear c10
           replace H := Option.bind_eq_some_iff.mp H
           obtain ⟨t158, A110, H⟩ := H
           replace H : (if t158 = true then (lontarlaw01_Same.l0 k1 l0 l1 (l0.length : Int) (wrap64 (x13_1 + 1))) else (some false)) = some r := H
           have A11 := Aside0.mk A110
           clear A110
           by_cases c12 : t158 = true
           ·subst c12
            have H1 : (lontarlaw01_Same.l0 k1 l0 l1 (l0.length : Int) (wrap64 (x13_1 + 1))) = some r := by rw [if_pos rfl] at H; exact H
            clear H
            have H := H1
            clear H1
            have H' := Aside0.mk H
            clear H
            try go_wp2
            have n0_ := Aside0.mk (below_drew1 HB.out)
            clear HB
            have HB := n0_
            clear n0_
            have p150 : 0 ≤ (x13_1 : Int) := of_decide_eq_true (by first | (with_reducible assumption) | assumption)
            have q150 : x13_1 < (l0.length : Int) := of_decide_eq_true (by first | (with_reducible assumption) | assumption)
            obtain ⟨ad150, A150_2, c150_2, e150, hx150_0, hx150_1, hx150_2, hx150_3, hl150_2, hi150_2⟩ := at_T32 HR0.out x13_1 p150 q150
            have hw150_3 := hx150_3
            have hw150_2 := hx150_2
            have hw150_1 := hx150_1
            have hw150_0 := hx150_0
            cases e150
            replace hx150_0 := (HB.out.cell (World.block_lt_of_cell? w _ hx150_0)).trans hx150_0
            replace hx150_1 := (HB.out.cell (World.block_lt_of_cell? w _ hx150_1)).trans hx150_1
            replace hx150_2 := (HB.out.cell (World.block_lt_of_cell? w _ hx150_2)).trans hx150_2
            replace hx150_3 := (HB.out.cell (World.block_lt_of_cell? w _ hx150_3)).trans hx150_3
            have HR150_2 := Aside0.mk hi150_2
            have HC150_2 := Aside0.mk hl150_2
            clear hi150_2 hl150_2
            replace p150 := eq_true p150
            replace q150 := eq_true q150
            have p151 : 0 ≤ (x13_1 : Int) := of_decide_eq_true (by first | (with_reducible assumption) | assumption)
            have q151 : x13_1 < (l1.length : Int) := of_decide_eq_true (by first | (with_reducible assumption) | assumption)
            obtain ⟨ad151, A151_2, c151_2, e151, hx151_0, hx151_1, hx151_2, hx151_3, hl151_2, hi151_2⟩ := at_T32 HR1.out x13_1 p151 q151
            have hw151_3 := hx151_3
            have hw151_2 := hx151_2
            have hw151_1 := hx151_1
            have hw151_0 := hx151_0
            cases e151
            replace hx151_0 := (HB.out.cell (World.block_lt_of_cell? w _ hx151_0)).trans hx151_0
            replace hx151_1 := (HB.out.cell (World.block_lt_of_cell? w _ hx151_1)).trans hx151_1
            replace hx151_2 := (HB.out.cell (World.block_lt_of_cell? w _ hx151_2)).trans hx151_2
            replace hx151_3 := (HB.out.cell (World.block_lt_of_cell? w _ hx151_3)).trans hx151_3
            have HR151_2 := Aside0.mk hi151_2
            have HC151_2 := Aside0.mk hl151_2
            clear hi151_2 hl151_2
            replace p151 := eq_true p151
            replace q151 := eq_true q151
            have p152 : 0 ≤ (x13_1 : Int) := of_decide_eq_true (by first | (with_reducible assumption) | assumption)
            have q152 : x13_1 < (l0.length : Int) := of_decide_eq_true (by first | (with_reducible assumption) | assumption)
            obtain ⟨ad152, A152_2, c152_2, e152, hx152_0, hx152_1, hx152_2, hx152_3, hl152_2, hi152_2⟩ := at_T32 HR0.out x13_1 p152 q152
            have hw152_3 := hx152_3
            have hw152_2 := hx152_2
            have hw152_1 := hx152_1
            have hw152_0 := hx152_0
            obtain rfl : ad150 = ad152 := (by injection e152)
            replace hx152_0 := (HB.out.cell (World.block_lt_of_cell? w _ hx152_0)).trans hx152_0
            replace hx152_1 := (HB.out.cell (World.block_lt_of_cell? w _ hx152_1)).trans hx152_1
            replace hx152_2 := (HB.out.cell (World.block_lt_of_cell? w _ hx152_2)).trans hx152_2
            replace hx152_3 := (HB.out.cell (World.block_lt_of_cell? w _ hx152_3)).trans hx152_3
            have HR152_2 := Aside0.mk hi152_2
            have HC152_2 := Aside0.mk hl152_2
            clear hi152_2 hl152_2
            replace p152 := eq_true p152
            replace q152 := eq_true q152
            have ea_ := Option.some.inj (hx150_2.symm.trans hx152_2)
            injection ea_ with ea_ en_ ec_
            subst ea_
            subst ec_
            clear en_
            have p153 : 0 ≤ (x13_1 : Int) := of_decide_eq_true (by first | (with_reducible assumption) | assumption)
            have q153 : x13_1 < (l1.length : Int) := of_decide_eq_true (by first | (with_reducible assumption) | assumption)
            obtain ⟨ad153, A153_2, c153_2, e153, hx153_0, hx153_1, hx153_2, hx153_3, hl153_2, hi153_2⟩ := at_T32 HR1.out x13_1 p153 q153
            have hw153_3 := hx153_3
            have hw153_2 := hx153_2
            have hw153_1 := hx153_1
            have hw153_0 := hx153_0
            obtain rfl : ad151 = ad153 := (by injection e153)
            replace hx153_0 := (HB.out.cell (World.block_lt_of_cell? w _ hx153_0)).trans hx153_0
            replace hx153_1 := (HB.out.cell (World.block_lt_of_cell? w _ hx153_1)).trans hx153_1
            replace hx153_2 := (HB.out.cell (World.block_lt_of_cell? w _ hx153_2)).trans hx153_2
            replace hx153_3 := (HB.out.cell (World.block_lt_of_cell? w _ hx153_3)).trans hx153_3
            have HR153_2 := Aside0.mk hi153_2
            have HC153_2 := Aside0.mk hl153_2
            clear hi153_2 hl153_2
            replace p153 := eq_true p153
            replace q153 := eq_true q153
            have ea_ := Option.some.inj (hx151_2.symm.trans hx153_2)
            injection ea_ with ea_ en_ ec_
            subst ea_
            subst ec_
            clear en_
            have p154 : 0 ≤ (x13_1 : Int) := of_decide_eq_true (by first | (with_reducible assumption) | assumption)
            have q154 : x13_1 < (l0.length : Int) := of_decide_eq_true (by first | (with_reducible assumption) | assumption)
            obtain ⟨ad154, A154_2, c154_2, e154, hx154_0, hx154_1, hx154_2, hx154_3, hl154_2, hi154_2⟩ := at_T32 HR0.out x13_1 p154 q154
            have hw154_3 := hx154_3
            have hw154_2 := hx154_2
            have hw154_1 := hx154_1
            have hw154_0 := hx154_0
            obtain rfl : ad150 = ad154 := (by injection e154)
            replace hx154_0 := (HB.out.cell (World.block_lt_of_cell? w _ hx154_0)).trans hx154_0
            replace hx154_1 := (HB.out.cell (World.block_lt_of_cell? w _ hx154_1)).trans hx154_1
            replace hx154_2 := (HB.out.cell (World.block_lt_of_cell? w _ hx154_2)).trans hx154_2
            replace hx154_3 := (HB.out.cell (World.block_lt_of_cell? w _ hx154_3)).trans hx154_3
            have HR154_2 := Aside0.mk hi154_2
            have HC154_2 := Aside0.mk hl154_2
            clear hi154_2 hl154_2
            replace p154 := eq_true p154
            replace q154 := eq_true q154
            have ea_ := Option.some.inj (hx150_2.symm.trans hx154_2)
            injection ea_ with ea_ en_ ec_
            subst ea_
            subst ec_
            clear en_
            have p155 : 0 ≤ (x13_1 : Int) := of_decide_eq_true (by first | (with_reducible assumption) | assumption)
            have q155 : x13_1 < (l1.length : Int) := of_decide_eq_true (by first | (with_reducible assumption) | assumption)
            obtain ⟨ad155, A155_2, c155_2, e155, hx155_0, hx155_1, hx155_2, hx155_3, hl155_2, hi155_2⟩ := at_T32 HR1.out x13_1 p155 q155
            have hw155_3 := hx155_3
            have hw155_2 := hx155_2
            have hw155_1 := hx155_1
            have hw155_0 := hx155_0
            obtain rfl : ad151 = ad155 := (by injection e155)
            replace hx155_0 := (HB.out.cell (World.block_lt_of_cell? w _ hx155_0)).trans hx155_0
            replace hx155_1 := (HB.out.cell (World.block_lt_of_cell? w _ hx155_1)).trans hx155_1
            replace hx155_2 := (HB.out.cell (World.block_lt_of_cell? w _ hx155_2)).trans hx155_2
            replace hx155_3 := (HB.out.cell (World.block_lt_of_cell? w _ hx155_3)).trans hx155_3
            have HR155_2 := Aside0.mk hi155_2
            have HC155_2 := Aside0.mk hl155_2
            clear hi155_2 hl155_2
            replace p155 := eq_true p155
            replace q155 := eq_true q155
            have ea_ := Option.some.inj (hx151_2.symm.trans hx155_2)
            injection ea_ with ea_ en_ ec_
            subst ea_
            subst ec_
            clear en_
            have p156 : 0 ≤ (x13_1 : Int) := of_decide_eq_true (by first | (with_reducible assumption) | assumption)
            have q156 : x13_1 < (l0.length : Int) := of_decide_eq_true (by first | (with_reducible assumption) | assumption)
            obtain ⟨ad156, A156_2, c156_2, e156, hx156_0, hx156_1, hx156_2, hx156_3, hl156_2, hi156_2⟩ := at_T32 HR0.out x13_1 p156 q156
            have hw156_3 := hx156_3
            have hw156_2 := hx156_2
            have hw156_1 := hx156_1
            have hw156_0 := hx156_0
            obtain rfl : ad150 = ad156 := (by injection e156)
            replace hx156_0 := (HB.out.cell (World.block_lt_of_cell? w _ hx156_0)).trans hx156_0
            replace hx156_1 := (HB.out.cell (World.block_lt_of_cell? w _ hx156_1)).trans hx156_1
            replace hx156_2 := (HB.out.cell (World.block_lt_of_cell? w _ hx156_2)).trans hx156_2
            replace hx156_3 := (HB.out.cell (World.block_lt_of_cell? w _ hx156_3)).trans hx156_3
            have HR156_2 := Aside0.mk hi156_2
            have HC156_2 := Aside0.mk hl156_2
            clear hi156_2 hl156_2
            replace p156 := eq_true p156
            replace q156 := eq_true q156
            have ea_ := Option.some.inj (hx150_2.symm.trans hx156_2)
            injection ea_ with ea_ en_ ec_
            subst ea_
            subst ec_
            clear en_
            have p157 : 0 ≤ (x13_1 : Int) := of_decide_eq_true (by first | (with_reducible assumption) | assumption)
            have q157 : x13_1 < (l1.length : Int) := of_decide_eq_true (by first | (with_reducible assumption) | assumption)
            obtain ⟨ad157, A157_2, c157_2, e157, hx157_0, hx157_1, hx157_2, hx157_3, hl157_2, hi157_2⟩ := at_T32 HR1.out x13_1 p157 q157
            have hw157_3 := hx157_3
            have hw157_2 := hx157_2
            have hw157_1 := hx157_1
            have hw157_0 := hx157_0
            obtain rfl : ad151 = ad157 := (by injection e157)
            replace hx157_0 := (HB.out.cell (World.block_lt_of_cell? w _ hx157_0)).trans hx157_0
            replace hx157_1 := (HB.out.cell (World.block_lt_of_cell? w _ hx157_1)).trans hx157_1
            replace hx157_2 := (HB.out.cell (World.block_lt_of_cell? w _ hx157_2)).trans hx157_2
            replace hx157_3 := (HB.out.cell (World.block_lt_of_cell? w _ hx157_3)).trans hx157_3
            have HR157_2 := Aside0.mk hi157_2
            have HC157_2 := Aside0.mk hl157_2
            clear hi157_2 hl157_2
            replace p157 := eq_true p157
            replace q157 := eq_true q157
            have ea_ := Option.some.inj (hx151_2.symm.trans hx157_2)
            injection ea_ with ea_ en_ ec_
            subst ea_
            subst ec_
            clear en_
            refine start_ (n := 51) (S := fun w' => w'.cell? (ad150.add ((x13_1).toNat * 4)) = some (.int .i64 ((rd_T32 l0 x13_1).f0)) ∧ w'.cell? ⟨(ad150.add ((x13_1).toNat * 4)).block, (ad150.add ((x13_1).toNat * 4)).off + 1, none⟩ = some (.int .i64 ((rd_T32 l0 x13_1).f1)) ∧ w'.cell? ⟨(ad150.add ((x13_1).toNat * 4)).block, (ad150.add ((x13_1).toNat * 4)).off + 2, none⟩ = some (.slice A150_2 ((rd_T32 l0 x13_1).f2).length c150_2) ∧ w'.cell? ⟨(ad150.add ((x13_1).toNat * 4)).block, (ad150.add ((x13_1).toNat * 4)).off + 3, none⟩ = some (.int .i64 ((rd_T32 l0 x13_1).f3)) ∧ w'.cell? (ad151.add ((x13_1).toNat * 4)) = some (.int .i64 ((rd_T32 l1 x13_1).f0)) ∧ w'.cell? ⟨(ad151.add ((x13_1).toNat * 4)).block, (ad151.add ((x13_1).toNat * 4)).off + 1, none⟩ = some (.int .i64 ((rd_T32 l1 x13_1).f1)) ∧ w'.cell? ⟨(ad151.add ((x13_1).toNat * 4)).block, (ad151.add ((x13_1).toNat * 4)).off + 2, none⟩ = some (.slice A151_2 ((rd_T32 l1 x13_1).f2).length c151_2) ∧ w'.cell? ⟨(ad151.add ((x13_1).toNat * 4)).block, (ad151.add ((x13_1).toNat * 4)).off + 3, none⟩ = some (.int .i64 ((rd_T32 l1 x13_1).f3)) ∧ w'.cell? (ad150.add ((x13_1).toNat * 4)) = some (.int .i64 ((rd_T32 l0 x13_1).f0)) ∧ w'.cell? ⟨(ad150.add ((x13_1).toNat * 4)).block, (ad150.add ((x13_1).toNat * 4)).off + 1, none⟩ = some (.int .i64 ((rd_T32 l0 x13_1).f1)) ∧ w'.cell? ⟨(ad150.add ((x13_1).toNat * 4)).block, (ad150.add ((x13_1).toNat * 4)).off + 2, none⟩ = some (.slice A150_2 ((rd_T32 l0 x13_1).f2).length c150_2) ∧ w'.cell? ⟨(ad150.add ((x13_1).toNat * 4)).block, (ad150.add ((x13_1).toNat * 4)).off + 3, none⟩ = some (.int .i64 ((rd_T32 l0 x13_1).f3)) ∧ w'.cell? (ad151.add ((x13_1).toNat * 4)) = some (.int .i64 ((rd_T32 l1 x13_1).f0)) ∧ w'.cell? ⟨(ad151.add ((x13_1).toNat * 4)).block, (ad151.add ((x13_1).toNat * 4)).off + 1, none⟩ = some (.int .i64 ((rd_T32 l1 x13_1).f1)) ∧ w'.cell? ⟨(ad151.add ((x13_1).toNat * 4)).block, (ad151.add ((x13_1).toNat * 4)).off + 2, none⟩ = some (.slice A151_2 ((rd_T32 l1 x13_1).f2).length c151_2) ∧ w'.cell? ⟨(ad151.add ((x13_1).toNat * 4)).block, (ad151.add ((x13_1).toNat * 4)).off + 3, none⟩ = some (.int .i64 ((rd_T32 l1 x13_1).f3)) ∧ w'.cell? (ad150.add ((x13_1).toNat * 4)) = some (.int .i64 ((rd_T32 l0 x13_1).f0)) ∧ w'.cell? ⟨(ad150.add ((x13_1).toNat * 4)).block, (ad150.add ((x13_1).toNat * 4)).off + 1, none⟩ = some (.int .i64 ((rd_T32 l0 x13_1).f1)) ∧ w'.cell? ⟨(ad150.add ((x13_1).toNat * 4)).block, (ad150.add ((x13_1).toNat * 4)).off + 2, none⟩ = some (.slice A150_2 ((rd_T32 l0 x13_1).f2).length c150_2) ∧ w'.cell? ⟨(ad150.add ((x13_1).toNat * 4)).block, (ad150.add ((x13_1).toNat * 4)).off + 3, none⟩ = some (.int .i64 ((rd_T32 l0 x13_1).f3)) ∧ w'.cell? (ad151.add ((x13_1).toNat * 4)) = some (.int .i64 ((rd_T32 l1 x13_1).f0)) ∧ w'.cell? ⟨(ad151.add ((x13_1).toNat * 4)).block, (ad151.add ((x13_1).toNat * 4)).off + 1, none⟩ = some (.int .i64 ((rd_T32 l1 x13_1).f1)) ∧ w'.cell? ⟨(ad151.add ((x13_1).toNat * 4)).block, (ad151.add ((x13_1).toNat * 4)).off + 2, none⟩ = some (.slice A151_2 ((rd_T32 l1 x13_1).f2).length c151_2) ∧ w'.cell? ⟨(ad151.add ((x13_1).toNat * 4)).block, (ad151.add ((x13_1).toNat * 4)).off + 3, none⟩ = some (.int .i64 ((rd_T32 l1 x13_1).f3)) ∧ w'.cell? (ad150.add ((x13_1).toNat * 4)) = some (.int .i64 ((rd_T32 l0 x13_1).f0)) ∧ w'.cell? ⟨(ad150.add ((x13_1).toNat * 4)).block, (ad150.add ((x13_1).toNat * 4)).off + 1, none⟩ = some (.int .i64 ((rd_T32 l0 x13_1).f1)) ∧ w'.cell? ⟨(ad150.add ((x13_1).toNat * 4)).block, (ad150.add ((x13_1).toNat * 4)).off + 2, none⟩ = some (.slice A150_2 ((rd_T32 l0 x13_1).f2).length c150_2) ∧ w'.cell? ⟨(ad150.add ((x13_1).toNat * 4)).block, (ad150.add ((x13_1).toNat * 4)).off + 3, none⟩ = some (.int .i64 ((rd_T32 l0 x13_1).f3)) ∧ w'.cell? (ad151.add ((x13_1).toNat * 4)) = some (.int .i64 ((rd_T32 l1 x13_1).f0)) ∧ w'.cell? ⟨(ad151.add ((x13_1).toNat * 4)).block, (ad151.add ((x13_1).toNat * 4)).off + 1, none⟩ = some (.int .i64 ((rd_T32 l1 x13_1).f1)) ∧ w'.cell? ⟨(ad151.add ((x13_1).toNat * 4)).block, (ad151.add ((x13_1).toNat * 4)).off + 2, none⟩ = some (.slice A151_2 ((rd_T32 l1 x13_1).f2).length c151_2) ∧ w'.cell? ⟨(ad151.add ((x13_1).toNat * 4)).block, (ad151.add ((x13_1).toNat * 4)).off + 3, none⟩ = some (.int .i64 ((rd_T32 l1 x13_1).f3))) (ds := []) #[Z4, Z4, Z4, Z4, Z4, Z4, Z4, Z4, Z4, Z4, Z4, Z4, Z4, Z4, Z4, Z4, Z4, Z4, Z4, Z4, Z4, Z4, Z4, Z4, Z4, Z4, Z4, Z4, Z4, Z4, Z4, Z4, Z4, Z4, Z4, Z4, Z4, Z4, Z4, Z4, Z4, Z4, Z4, Z4, Z4, Z4, Z4, Z4, Z4, Z4, Z4] (by kernel_rfl) rfl rfl ⟨((HB.out.cell (World.block_lt_of_cell? w _ hw150_0)).trans hw150_0), ((HB.out.cell (World.block_lt_of_cell? w _ hw150_1)).trans hw150_1), ((HB.out.cell (World.block_lt_of_cell? w _ hw150_2)).trans hw150_2), ((HB.out.cell (World.block_lt_of_cell? w _ hw150_3)).trans hw150_3), ((HB.out.cell (World.block_lt_of_cell? w _ hw151_0)).trans hw151_0), ((HB.out.cell (World.block_lt_of_cell? w _ hw151_1)).trans hw151_1), ((HB.out.cell (World.block_lt_of_cell? w _ hw151_2)).trans hw151_2), ((HB.out.cell (World.block_lt_of_cell? w _ hw151_3)).trans hw151_3), ((HB.out.cell (World.block_lt_of_cell? w _ hw152_0)).trans hw152_0), ((HB.out.cell (World.block_lt_of_cell? w _ hw152_1)).trans hw152_1), ((HB.out.cell (World.block_lt_of_cell? w _ hw152_2)).trans hw152_2), ((HB.out.cell (World.block_lt_of_cell? w _ hw152_3)).trans hw152_3), ((HB.out.cell (World.block_lt_of_cell? w _ hw153_0)).trans hw153_0), ((HB.out.cell (World.block_lt_of_cell? w _ hw153_1)).trans hw153_1), ((HB.out.cell (World.block_lt_of_cell? w _ hw153_2)).trans hw153_2), ((HB.out.cell (World.block_lt_of_cell? w _ hw153_3)).trans hw153_3), ((HB.out.cell (World.block_lt_of_cell? w _ hw154_0)).trans hw154_0), ((HB.out.cell (World.block_lt_of_cell? w _ hw154_1)).trans hw154_1), ((HB.out.cell (World.block_lt_of_cell? w _ hw154_2)).trans hw154_2), ((HB.out.cell (World.block_lt_of_cell? w _ hw154_3)).trans hw154_3), ((HB.out.cell (World.block_lt_of_cell? w _ hw155_0)).trans hw155_0), ((HB.out.cell (World.block_lt_of_cell? w _ hw155_1)).trans hw155_1), ((HB.out.cell (World.block_lt_of_cell? w _ hw155_2)).trans hw155_2), ((HB.out.cell (World.block_lt_of_cell? w _ hw155_3)).trans hw155_3), ((HB.out.cell (World.block_lt_of_cell? w _ hw156_0)).trans hw156_0), ((HB.out.cell (World.block_lt_of_cell? w _ hw156_1)).trans hw156_1), ((HB.out.cell (World.block_lt_of_cell? w _ hw156_2)).trans hw156_2), ((HB.out.cell (World.block_lt_of_cell? w _ hw156_3)).trans hw156_3), ((HB.out.cell (World.block_lt_of_cell? w _ hw157_0)).trans hw157_0), ((HB.out.cell (World.block_lt_of_cell? w _ hw157_1)).trans hw157_1), ((HB.out.cell (World.block_lt_of_cell? w _ hw157_2)).trans hw157_2), ((HB.out.cell (World.block_lt_of_cell? w _ hw157_3)).trans hw157_3)⟩ (fun hHeld => ?_); refine with_tabW lontarlaw01_Same.tab6 lontarlaw01_Same.bits6 (fun HT_ HW_ => ?_)
            generalize wr.drew = w13 at HB HR150_2 HR151_2 HR152_2 HR153_2 HR154_2 HR155_2 HR156_2 HR157_2 hx150_0 hx150_1 hx150_2 hx150_3 hx151_0 hx151_1 hx151_2 hx151_3 hx152_0 hx152_1 hx152_2 hx152_3 hx153_0 hx153_1 hx153_2 hx153_3 hx154_0 hx154_1 hx154_2 hx154_3 hx155_0 hx155_1 hx155_2 hx155_3 hx156_0 hx156_1 hx156_2 hx156_3 hx157_0 hx157_1 hx157_2 hx157_3 hHeld ⊢
            refine pure_ (i := 0) (N := some 16) (v := ?_) (a' := ?_) #[Y4, Z4, Z4, Z4, Z4, Z4, Z4, Z4, Z4, Z4, Z4, Z4, Z4, Z4, Z4, Z4, Z4, Z4, Z4, Z4, Z4, Z4, Z4, Z4, Z4, Z4, Z4, Z4, Z4, Z4, Z4, Z4, Z4, Z4, Z4, Z4, Z4, Z4, Z4, Z4, Z4, Z4, Z4, Z4, Z4, Z4, Z4, Z4, Z4, Z4, Z4] rfl rfl (any_of HT_.out (by kernel_rfl)) (fun _ _ _ h => h) (Or.inl ⟨by rfl, ?_⟩) ?_ ?_
            rotate_left
            ·intro w'
             go_simp
             with_reducible rfl
            rotate_left
            ·simp only [Act.put, List.setIfInBounds_toArray, List.set_cons_zero, List.set_cons_succ, i64_w, i32_w]
             rfl
            refine pure_ (i := 1) (N := some 17) (v := ?_) (a' := ?_) #[Y4, Y4, Z4, Z4, Z4, Z4, Z4, Z4, Z4, Z4, Z4, Z4, Z4, Z4, Z4, Z4, Z4, Z4, Z4, Z4, Z4, Z4, Z4, Z4, Z4, Z4, Z4, Z4, Z4, Z4, Z4, Z4, Z4, Z4, Z4, Z4, Z4, Z4, Z4, Z4, Z4, Z4, Z4, Z4, Z4, Z4, Z4, Z4, Z4, Z4, Z4] rfl rfl (any_of HT_.out (by kernel_rfl)) (fun _ _ _ h => h) (Or.inl ⟨by rfl, ?_⟩) ?_ ?_
            rotate_left
            ·intro w'
             go_simp
             with_reducible rfl
            rotate_left
            ·simp only [Act.put, List.setIfInBounds_toArray, List.set_cons_zero, List.set_cons_succ, i64_w, i32_w]
             rfl
            refine pure_ (i := 2) (N := some 18) (v := ?_) (a' := ?_) #[Y4, Y4, Y4, Z4, Z4, Z4, Z4, Z4, Z4, Z4, Z4, Z4, Z4, Z4, Z4, Z4, Z4, Z4, Z4, Z4, Z4, Z4, Z4, Z4, Z4, Z4, Z4, Z4, Z4, Z4, Z4, Z4, Z4, Z4, Z4, Z4, Z4, Z4, Z4, Z4, Z4, Z4, Z4, Z4, Z4, Z4, Z4, Z4, Z4, Z4, Z4] rfl rfl (any_of HT_.out (by kernel_rfl)) (fun _ _ _ h => h) (Or.inl ⟨by rfl, ?_⟩) ?_ ?_
            rotate_left
            ·intro w'
             go_simp
             with_reducible rfl
            rotate_left
            ·simp only [Act.put, List.setIfInBounds_toArray, List.set_cons_zero, List.set_cons_succ, i64_w, i32_w]
             rfl
            refine pure_ (i := 3) (N := some 19) (v := ?_) (a' := ?_) #[Y4, Y4, Y4, Y4, Z4, Z4, Z4, Z4, Z4, Z4, Z4, Z4, Z4, Z4, Z4, Z4, Z4, Z4, Z4, Z4, Z4, Z4, Z4, Z4, Z4, Z4, Z4, Z4, Z4, Z4, Z4, Z4, Z4, Z4, Z4, Z4, Z4, Z4, Z4, Z4, Z4, Z4, Z4, Z4, Z4, Z4, Z4, Z4, Z4, Z4, Z4] rfl rfl (any_of HT_.out (by kernel_rfl)) (fun _ _ _ h => h) (Or.inl ⟨by rfl, ?_⟩) ?_ ?_
            rotate_left
            ·intro w'
             go_simp
             with_reducible rfl
            rotate_left
            ·simp only [Act.put, List.setIfInBounds_toArray, List.set_cons_zero, List.set_cons_succ, i64_w, i32_w]
             rfl
            refine pure_ (i := 5) (N := some 21) (v := ?_) (a' := ?_) #[Y4, Y4, Y4, Y4, Z4, Y4, Z4, Z4, Z4, Z4, Z4, Z4, Z4, Z4, Z4, Z4, Z4, Z4, Z4, Z4, Z4, Z4, Z4, Z4, Z4, Z4, Z4, Z4, Z4, Z4, Z4, Z4, Z4, Z4, Z4, Z4, Z4, Z4, Z4, Z4, Z4, Z4, Z4, Z4, Z4, Z4, Z4, Z4, Z4, Z4, Z4] rfl rfl (any_of HT_.out (by kernel_rfl)) (fun _ _ _ h => h) (Or.inl ⟨by rfl, ?_⟩) ?_ ?_
            rotate_left
            ·intro w'
             go_simp
             with_reducible rfl
            rotate_left
            ·simp only [Act.put, List.setIfInBounds_toArray, List.set_cons_zero, List.set_cons_succ, i64_w, i32_w]
             rfl
            refine pure_ (i := 6) (N := some 22) (v := ?_) (a' := ?_) #[Y4, Y4, Y4, Y4, Z4, Y4, Y4, Z4, Z4, Z4, Z4, Z4, Z4, Z4, Z4, Z4, Z4, Z4, Z4, Z4, Z4, Z4, Z4, Z4, Z4, Z4, Z4, Z4, Z4, Z4, Z4, Z4, Z4, Z4, Z4, Z4, Z4, Z4, Z4, Z4, Z4, Z4, Z4, Z4, Z4, Z4, Z4, Z4, Z4, Z4, Z4] rfl rfl (any_of HT_.out (by kernel_rfl)) (fun _ _ _ h => h) (Or.inl ⟨by rfl, ?_⟩) ?_ ?_
            rotate_left
            ·intro w'
             go_simp
             with_reducible rfl
            rotate_left
            ·simp only [Act.put, List.setIfInBounds_toArray, List.set_cons_zero, List.set_cons_succ, i64_w, i32_w]
             rfl
            refine pure_ (i := 7) (N := some 23) (v := ?_) (a' := ?_) #[Y4, Y4, Y4, Y4, Z4, Y4, Y4, Y4, Z4, Z4, Z4, Z4, Z4, Z4, Z4, Z4, Z4, Z4, Z4, Z4, Z4, Z4, Z4, Z4, Z4, Z4, Z4, Z4, Z4, Z4, Z4, Z4, Z4, Z4, Z4, Z4, Z4, Z4, Z4, Z4, Z4, Z4, Z4, Z4, Z4, Z4, Z4, Z4, Z4, Z4, Z4] rfl rfl (any_of HT_.out (by kernel_rfl)) (fun _ _ _ h => h) (Or.inl ⟨by rfl, ?_⟩) ?_ ?_
            rotate_left
            ·intro w'
             go_simp
             with_reducible rfl
            rotate_left
            ·simp only [Act.put, List.setIfInBounds_toArray, List.set_cons_zero, List.set_cons_succ, i64_w, i32_w]
             rfl
            refine pure_ (i := 8) (N := some 24) (v := ?_) (a' := ?_) #[Y4, Y4, Y4, Y4, Z4, Y4, Y4, Y4, Y4, Z4, Z4, Z4, Z4, Z4, Z4, Z4, Z4, Z4, Z4, Z4, Z4, Z4, Z4, Z4, Z4, Z4, Z4, Z4, Z4, Z4, Z4, Z4, Z4, Z4, Z4, Z4, Z4, Z4, Z4, Z4, Z4, Z4, Z4, Z4, Z4, Z4, Z4, Z4, Z4, Z4, Z4] rfl rfl (any_of HT_.out (by kernel_rfl)) (fun _ _ _ h => h) (Or.inl ⟨by rfl, ?_⟩) ?_ ?_
            rotate_left
            ·intro w'
             go_simp
             with_reducible rfl
            rotate_left
            ·simp only [Act.put, List.setIfInBounds_toArray, List.set_cons_zero, List.set_cons_succ, i64_w, i32_w]
             rfl
            refine take_ (i := 4) (N := some 20) (v := ?_) (a' := ?_) #[Y4, Y4, Y4, Y4, Y4, Y4, Y4, Y4, Y4, Z4, Z4, Z4, Z4, Z4, Z4, Z4, Z4, Z4, Z4, Z4, Z4, Z4, Z4, Z4, Z4, Z4, Z4, Z4, Z4, Z4, Z4, Z4, Z4, Z4, Z4, Z4, Z4, Z4, Z4, Z4, Z4, Z4, Z4, Z4, Z4, Z4, Z4, Z4, Z4, Z4, Z4] rfl rfl (take_ofW HT_.out HW_.out (by kernel_rfl)) (fun _ _ _ h => h) (Or.inl ⟨by rfl, ?_⟩) hHeld ?_ ?_
            rotate_left
            ·rintro w' ⟨s0, s1, s2, s3, s4, s5, s6, s7, s8, s9, s10, s11, s12, s13, s14, s15, s16, s17, s18, s19, s20, s21, s22, s23, s24, s25, s26, s27, s28, s29, s30, s31⟩
             go_simp
             with_reducible rfl
            rotate_left
            ·simp only [Act.put, List.setIfInBounds_toArray, List.set_cons_zero, List.set_cons_succ, i64_w, i32_w]
             rfl
            refine take_ (i := 9) (N := some 25) (v := ?_) (a' := ?_) #[Y4, Y4, Y4, Y4, Y4, Y4, Y4, Y4, Y4, Y4, Z4, Z4, Z4, Z4, Z4, Z4, Z4, Z4, Z4, Z4, Z4, Z4, Z4, Z4, Z4, Z4, Z4, Z4, Z4, Z4, Z4, Z4, Z4, Z4, Z4, Z4, Z4, Z4, Z4, Z4, Z4, Z4, Z4, Z4, Z4, Z4, Z4, Z4, Z4, Z4, Z4] rfl rfl (take_ofW HT_.out HW_.out (by kernel_rfl)) (fun _ _ _ h => h) (Or.inl ⟨by rfl, ?_⟩) hHeld ?_ ?_
            rotate_left
            ·rintro w' ⟨s0, s1, s2, s3, s4, s5, s6, s7, s8, s9, s10, s11, s12, s13, s14, s15, s16, s17, s18, s19, s20, s21, s22, s23, s24, s25, s26, s27, s28, s29, s30, s31⟩
             go_simp
             with_reducible rfl
            rotate_left
            ·simp only [Act.put, List.setIfInBounds_toArray, List.set_cons_zero, List.set_cons_succ, i64_w, i32_w]
             rfl
            refine pure_ (i := 10) (N := some 26) (v := ?_) (a' := ?_) #[Y4, Y4, Y4, Y4, Y4, Y4, Y4, Y4, Y4, Y4, Y4, Z4, Z4, Z4, Z4, Z4, Z4, Z4, Z4, Z4, Z4, Z4, Z4, Z4, Z4, Z4, Z4, Z4, Z4, Z4, Z4, Z4, Z4, Z4, Z4, Z4, Z4, Z4, Z4, Z4, Z4, Z4, Z4, Z4, Z4, Z4, Z4, Z4, Z4, Z4, Z4] rfl rfl (any_of HT_.out (by kernel_rfl)) (fun _ _ _ h => h) (Or.inl ⟨by rfl, ?_⟩) ?_ ?_
            rotate_left
            ·intro w'
             go_simp
             with_reducible rfl
            rotate_left
            ·simp only [Act.put, List.setIfInBounds_toArray, List.set_cons_zero, List.set_cons_succ, i64_w, i32_w]
             rfl
            refine pure_ (i := 11) (N := some 27) (v := ?_) (a' := ?_) #[Y4, Y4, Y4, Y4, Y4, Y4, Y4, Y4, Y4, Y4, Y4, Y4, Z4, Z4, Z4, Z4, Z4, Z4, Z4, Z4, Z4, Z4, Z4, Z4, Z4, Z4, Z4, Z4, Z4, Z4, Z4, Z4, Z4, Z4, Z4, Z4, Z4, Z4, Z4, Z4, Z4, Z4, Z4, Z4, Z4, Z4, Z4, Z4, Z4, Z4, Z4] rfl rfl (any_of HT_.out (by kernel_rfl)) (fun _ _ _ h => h) (Or.inl ⟨by rfl, ?_⟩) ?_ ?_
            rotate_left
            ·intro w'
             go_simp
             with_reducible rfl
            rotate_left
            ·simp only [Act.put, List.setIfInBounds_toArray, List.set_cons_zero, List.set_cons_succ, i64_w, i32_w]
             rfl
            refine pure_ (i := 12) (N := some 28) (v := ?_) (a' := ?_) #[Y4, Y4, Y4, Y4, Y4, Y4, Y4, Y4, Y4, Y4, Y4, Y4, Y4, Z4, Z4, Z4, Z4, Z4, Z4, Z4, Z4, Z4, Z4, Z4, Z4, Z4, Z4, Z4, Z4, Z4, Z4, Z4, Z4, Z4, Z4, Z4, Z4, Z4, Z4, Z4, Z4, Z4, Z4, Z4, Z4, Z4, Z4, Z4, Z4, Z4, Z4] rfl rfl (any_of HT_.out (by kernel_rfl)) (fun _ _ _ h => h) (Or.inl ⟨by rfl, ?_⟩) ?_ ?_
            rotate_left
            ·intro w'
             go_simp
             with_reducible rfl
            rotate_left
            ·simp only [Act.put, List.setIfInBounds_toArray, List.set_cons_zero, List.set_cons_succ, i64_w, i32_w]
             rfl
            refine pure_ (i := 13) (N := some 29) (v := ?_) (a' := ?_) #[Y4, Y4, Y4, Y4, Y4, Y4, Y4, Y4, Y4, Y4, Y4, Y4, Y4, Y4, Z4, Z4, Z4, Z4, Z4, Z4, Z4, Z4, Z4, Z4, Z4, Z4, Z4, Z4, Z4, Z4, Z4, Z4, Z4, Z4, Z4, Z4, Z4, Z4, Z4, Z4, Z4, Z4, Z4, Z4, Z4, Z4, Z4, Z4, Z4, Z4, Z4] rfl rfl (any_of HT_.out (by kernel_rfl)) (fun _ _ _ h => h) (Or.inl ⟨by rfl, ?_⟩) ?_ ?_
            rotate_left
            ·intro w'
             go_simp
             with_reducible rfl
            rotate_left
            ·simp only [Act.put, List.setIfInBounds_toArray, List.set_cons_zero, List.set_cons_succ, i64_w, i32_w]
             rfl
            refine pure_ (i := 14) (N := some 30) (v := ?_) (a' := ?_) #[Y4, Y4, Y4, Y4, Y4, Y4, Y4, Y4, Y4, Y4, Y4, Y4, Y4, Y4, Y4, Z4, Z4, Z4, Z4, Z4, Z4, Z4, Z4, Z4, Z4, Z4, Z4, Z4, Z4, Z4, Z4, Z4, Z4, Z4, Z4, Z4, Z4, Z4, Z4, Z4, Z4, Z4, Z4, Z4, Z4, Z4, Z4, Z4, Z4, Z4, Z4] rfl rfl (any_of HT_.out (by kernel_rfl)) (fun _ _ _ h => h) (Or.inl ⟨by rfl, ?_⟩) ?_ ?_
            rotate_left
            ·intro w'
             go_simp
             with_reducible rfl
            rotate_left
            ·simp only [Act.put, List.setIfInBounds_toArray, List.set_cons_zero, List.set_cons_succ, i64_w, i32_w]
             rfl
            refine pure_ (i := 15) (N := some 31) (v := ?_) (a' := ?_) #[Y4, Y4, Y4, Y4, Y4, Y4, Y4, Y4, Y4, Y4, Y4, Y4, Y4, Y4, Y4, Y4, Z4, Z4, Z4, Z4, Z4, Z4, Z4, Z4, Z4, Z4, Z4, Z4, Z4, Z4, Z4, Z4, Z4, Z4, Z4, Z4, Z4, Z4, Z4, Z4, Z4, Z4, Z4, Z4, Z4, Z4, Z4, Z4, Z4, Z4, Z4] rfl rfl (any_of HT_.out (by kernel_rfl)) (fun _ _ _ h => h) (Or.inl ⟨by rfl, ?_⟩) ?_ ?_
            rotate_left
            ·intro w'
             go_simp
             with_reducible rfl
            rotate_left
            ·simp only [Act.put, List.setIfInBounds_toArray, List.set_cons_zero, List.set_cons_succ, i64_w, i32_w]
             rfl
            refine pure_ (i := 17) (N := some 33) (v := ?_) (a' := ?_) #[Y4, Y4, Y4, Y4, Y4, Y4, Y4, Y4, Y4, Y4, Y4, Y4, Y4, Y4, Y4, Y4, Z4, Y4, Z4, Z4, Z4, Z4, Z4, Z4, Z4, Z4, Z4, Z4, Z4, Z4, Z4, Z4, Z4, Z4, Z4, Z4, Z4, Z4, Z4, Z4, Z4, Z4, Z4, Z4, Z4, Z4, Z4, Z4, Z4, Z4, Z4] rfl rfl (any_of HT_.out (by kernel_rfl)) (fun _ _ _ h => h) (Or.inl ⟨by rfl, ?_⟩) ?_ ?_
            rotate_left
            ·intro w'
             go_simp
             with_reducible rfl
            rotate_left
            ·simp only [Act.put, List.setIfInBounds_toArray, List.set_cons_zero, List.set_cons_succ, i64_w, i32_w]
             rfl
            refine pure_ (i := 18) (N := some 34) (v := ?_) (a' := ?_) #[Y4, Y4, Y4, Y4, Y4, Y4, Y4, Y4, Y4, Y4, Y4, Y4, Y4, Y4, Y4, Y4, Z4, Y4, Y4, Z4, Z4, Z4, Z4, Z4, Z4, Z4, Z4, Z4, Z4, Z4, Z4, Z4, Z4, Z4, Z4, Z4, Z4, Z4, Z4, Z4, Z4, Z4, Z4, Z4, Z4, Z4, Z4, Z4, Z4, Z4, Z4] rfl rfl (any_of HT_.out (by kernel_rfl)) (fun _ _ _ h => h) (Or.inl ⟨by rfl, ?_⟩) ?_ ?_
            rotate_left
            ·intro w'
             go_simp
             with_reducible rfl
            rotate_left
            ·simp only [Act.put, List.setIfInBounds_toArray, List.set_cons_zero, List.set_cons_succ, i64_w, i32_w]
             rfl
            refine pure_ (i := 19) (N := some 35) (v := ?_) (a' := ?_) #[Y4, Y4, Y4, Y4, Y4, Y4, Y4, Y4, Y4, Y4, Y4, Y4, Y4, Y4, Y4, Y4, Z4, Y4, Y4, Y4, Z4, Z4, Z4, Z4, Z4, Z4, Z4, Z4, Z4, Z4, Z4, Z4, Z4, Z4, Z4, Z4, Z4, Z4, Z4, Z4, Z4, Z4, Z4, Z4, Z4, Z4, Z4, Z4, Z4, Z4, Z4] rfl rfl (any_of HT_.out (by kernel_rfl)) (fun _ _ _ h => h) (Or.inl ⟨by rfl, ?_⟩) ?_ ?_
            rotate_left
            ·intro w'
             go_simp
             with_reducible rfl
            rotate_left
            ·simp only [Act.put, List.setIfInBounds_toArray, List.set_cons_zero, List.set_cons_succ, i64_w, i32_w]
             rfl
            refine pure_ (i := 20) (N := some 36) (v := ?_) (a' := ?_) #[Y4, Y4, Y4, Y4, Y4, Y4, Y4, Y4, Y4, Y4, Y4, Y4, Y4, Y4, Y4, Y4, Z4, Y4, Y4, Y4, Y4, Z4, Z4, Z4, Z4, Z4, Z4, Z4, Z4, Z4, Z4, Z4, Z4, Z4, Z4, Z4, Z4, Z4, Z4, Z4, Z4, Z4, Z4, Z4, Z4, Z4, Z4, Z4, Z4, Z4, Z4] rfl rfl (any_of HT_.out (by kernel_rfl)) (fun _ _ _ h => h) (Or.inl ⟨by rfl, ?_⟩) ?_ ?_
            rotate_left
            ·intro w'
             go_simp
             with_reducible rfl
            rotate_left
            ·simp only [Act.put, List.setIfInBounds_toArray, List.set_cons_zero, List.set_cons_succ, i64_w, i32_w]
             rfl
            refine take_ (i := 16) (N := some 32) (v := ?_) (a' := ?_) #[Y4, Y4, Y4, Y4, Y4, Y4, Y4, Y4, Y4, Y4, Y4, Y4, Y4, Y4, Y4, Y4, Y4, Y4, Y4, Y4, Y4, Z4, Z4, Z4, Z4, Z4, Z4, Z4, Z4, Z4, Z4, Z4, Z4, Z4, Z4, Z4, Z4, Z4, Z4, Z4, Z4, Z4, Z4, Z4, Z4, Z4, Z4, Z4, Z4, Z4, Z4] rfl rfl (take_ofW HT_.out HW_.out (by kernel_rfl)) (fun _ _ _ h => h) (Or.inl ⟨by rfl, ?_⟩) hHeld ?_ ?_
            rotate_left
            ·rintro w' ⟨s0, s1, s2, s3, s4, s5, s6, s7, s8, s9, s10, s11, s12, s13, s14, s15, s16, s17, s18, s19, s20, s21, s22, s23, s24, s25, s26, s27, s28, s29, s30, s31⟩
             go_simp
             with_reducible rfl
            rotate_left
            ·simp only [Act.put, List.setIfInBounds_toArray, List.set_cons_zero, List.set_cons_succ, i64_w, i32_w]
             rfl
            refine take_ (i := 21) (N := some 37) (v := ?_) (a' := ?_) #[Y4, Y4, Y4, Y4, Y4, Y4, Y4, Y4, Y4, Y4, Y4, Y4, Y4, Y4, Y4, Y4, Y4, Y4, Y4, Y4, Y4, Y4, Z4, Z4, Z4, Z4, Z4, Z4, Z4, Z4, Z4, Z4, Z4, Z4, Z4, Z4, Z4, Z4, Z4, Z4, Z4, Z4, Z4, Z4, Z4, Z4, Z4, Z4, Z4, Z4, Z4] rfl rfl (take_ofW HT_.out HW_.out (by kernel_rfl)) (fun _ _ _ h => h) (Or.inl ⟨by rfl, ?_⟩) hHeld ?_ ?_
            rotate_left
            ·rintro w' ⟨s0, s1, s2, s3, s4, s5, s6, s7, s8, s9, s10, s11, s12, s13, s14, s15, s16, s17, s18, s19, s20, s21, s22, s23, s24, s25, s26, s27, s28, s29, s30, s31⟩
             go_simp
             with_reducible rfl
            rotate_left
            ·simp only [Act.put, List.setIfInBounds_toArray, List.set_cons_zero, List.set_cons_succ, i64_w, i32_w]
             rfl
            refine pure_ (i := 22) (N := some 38) (v := ?_) (a' := ?_) #[Y4, Y4, Y4, Y4, Y4, Y4, Y4, Y4, Y4, Y4, Y4, Y4, Y4, Y4, Y4, Y4, Y4, Y4, Y4, Y4, Y4, Y4, Y4, Z4, Z4, Z4, Z4, Z4, Z4, Z4, Z4, Z4, Z4, Z4, Z4, Z4, Z4, Z4, Z4, Z4, Z4, Z4, Z4, Z4, Z4, Z4, Z4, Z4, Z4, Z4, Z4] rfl rfl (any_of HT_.out (by kernel_rfl)) (fun _ _ _ h => h) (Or.inl ⟨by rfl, ?_⟩) ?_ ?_
            rotate_left
            ·intro w'
             go_simp
             with_reducible rfl
            rotate_left
            ·simp only [Act.put, List.setIfInBounds_toArray, List.set_cons_zero, List.set_cons_succ, i64_w, i32_w]
             rfl
            refine pure_ (i := 23) (N := some 39) (v := ?_) (a' := ?_) #[Y4, Y4, Y4, Y4, Y4, Y4, Y4, Y4, Y4, Y4, Y4, Y4, Y4, Y4, Y4, Y4, Y4, Y4, Y4, Y4, Y4, Y4, Y4, Y4, Z4, Z4, Z4, Z4, Z4, Z4, Z4, Z4, Z4, Z4, Z4, Z4, Z4, Z4, Z4, Z4, Z4, Z4, Z4, Z4, Z4, Z4, Z4, Z4, Z4, Z4, Z4] rfl rfl (any_of HT_.out (by kernel_rfl)) (fun _ _ _ h => h) (Or.inl ⟨by rfl, ?_⟩) ?_ ?_
            rotate_left
            ·intro w'
             go_simp
             with_reducible rfl
            rotate_left
            ·simp only [Act.put, List.setIfInBounds_toArray, List.set_cons_zero, List.set_cons_succ, i64_w, i32_w]
             rfl
            refine pure_ (i := 24) (N := some 40) (v := ?_) (a' := ?_) #[Y4, Y4, Y4, Y4, Y4, Y4, Y4, Y4, Y4, Y4, Y4, Y4, Y4, Y4, Y4, Y4, Y4, Y4, Y4, Y4, Y4, Y4, Y4, Y4, Y4, Z4, Z4, Z4, Z4, Z4, Z4, Z4, Z4, Z4, Z4, Z4, Z4, Z4, Z4, Z4, Z4, Z4, Z4, Z4, Z4, Z4, Z4, Z4, Z4, Z4, Z4] rfl rfl (any_of HT_.out (by kernel_rfl)) (fun _ _ _ h => h) (Or.inl ⟨by rfl, ?_⟩) ?_ ?_
            rotate_left
            ·intro w'
             go_simp
             with_reducible rfl
            rotate_left
            ·simp only [Act.put, List.setIfInBounds_toArray, List.set_cons_zero, List.set_cons_succ, i64_w, i32_w]
             rfl
            refine pure_ (i := 25) (N := some 41) (v := ?_) (a' := ?_) #[Y4, Y4, Y4, Y4, Y4, Y4, Y4, Y4, Y4, Y4, Y4, Y4, Y4, Y4, Y4, Y4, Y4, Y4, Y4, Y4, Y4, Y4, Y4, Y4, Y4, Y4, Z4, Z4, Z4, Z4, Z4, Z4, Z4, Z4, Z4, Z4, Z4, Z4, Z4, Z4, Z4, Z4, Z4, Z4, Z4, Z4, Z4, Z4, Z4, Z4, Z4] rfl rfl (any_of HT_.out (by kernel_rfl)) (fun _ _ _ h => h) (Or.inl ⟨by rfl, ?_⟩) ?_ ?_
            rotate_left
            ·intro w'
             go_simp
             with_reducible rfl
            rotate_left
            ·simp only [Act.put, List.setIfInBounds_toArray, List.set_cons_zero, List.set_cons_succ, i64_w, i32_w]
             rfl
            refine pure_ (i := 26) (N := some 42) (v := ?_) (a' := ?_) #[Y4, Y4, Y4, Y4, Y4, Y4, Y4, Y4, Y4, Y4, Y4, Y4, Y4, Y4, Y4, Y4, Y4, Y4, Y4, Y4, Y4, Y4, Y4, Y4, Y4, Y4, Y4, Z4, Z4, Z4, Z4, Z4, Z4, Z4, Z4, Z4, Z4, Z4, Z4, Z4, Z4, Z4, Z4, Z4, Z4, Z4, Z4, Z4, Z4, Z4, Z4] rfl rfl (any_of HT_.out (by kernel_rfl)) (fun _ _ _ h => h) (Or.inl ⟨by rfl, ?_⟩) ?_ ?_
            rotate_left
            ·intro w'
             go_simp
             with_reducible rfl
            rotate_left
            ·simp only [Act.put, List.setIfInBounds_toArray, List.set_cons_zero, List.set_cons_succ, i64_w, i32_w]
             rfl
            refine pure_ (i := 27) (N := some 43) (v := ?_) (a' := ?_) #[Y4, Y4, Y4, Y4, Y4, Y4, Y4, Y4, Y4, Y4, Y4, Y4, Y4, Y4, Y4, Y4, Y4, Y4, Y4, Y4, Y4, Y4, Y4, Y4, Y4, Y4, Y4, Y4, Z4, Z4, Z4, Z4, Z4, Z4, Z4, Z4, Z4, Z4, Z4, Z4, Z4, Z4, Z4, Z4, Z4, Z4, Z4, Z4, Z4, Z4, Z4] rfl rfl (any_of HT_.out (by kernel_rfl)) (fun _ _ _ h => h) (Or.inl ⟨by rfl, ?_⟩) ?_ ?_
            rotate_left
            ·intro w'
             go_simp
             with_reducible rfl
            rotate_left
            ·simp only [Act.put, List.setIfInBounds_toArray, List.set_cons_zero, List.set_cons_succ, i64_w, i32_w]
             rfl
            refine pure_ (i := 28) (N := some 44) (v := ?_) (a' := ?_) #[Y4, Y4, Y4, Y4, Y4, Y4, Y4, Y4, Y4, Y4, Y4, Y4, Y4, Y4, Y4, Y4, Y4, Y4, Y4, Y4, Y4, Y4, Y4, Y4, Y4, Y4, Y4, Y4, Y4, Z4, Z4, Z4, Z4, Z4, Z4, Z4, Z4, Z4, Z4, Z4, Z4, Z4, Z4, Z4, Z4, Z4, Z4, Z4, Z4, Z4, Z4] rfl rfl (any_of HT_.out (by kernel_rfl)) (fun _ _ _ h => h) (Or.inl ⟨by rfl, ?_⟩) ?_ ?_
            rotate_left
            ·intro w'
             go_simp
             with_reducible rfl
            rotate_left
            ·simp only [Act.put, List.setIfInBounds_toArray, List.set_cons_zero, List.set_cons_succ, i64_w, i32_w]
             rfl
            refine pure_ (i := 30) (N := some 46) (v := ?_) (a' := ?_) #[Y4, Y4, Y4, Y4, Y4, Y4, Y4, Y4, Y4, Y4, Y4, Y4, Y4, Y4, Y4, Y4, Y4, Y4, Y4, Y4, Y4, Y4, Y4, Y4, Y4, Y4, Y4, Y4, Y4, Z4, Y4, Z4, Z4, Z4, Z4, Z4, Z4, Z4, Z4, Z4, Z4, Z4, Z4, Z4, Z4, Z4, Z4, Z4, Z4, Z4, Z4] rfl rfl (any_of HT_.out (by kernel_rfl)) (fun _ _ _ h => h) (Or.inl ⟨by rfl, ?_⟩) ?_ ?_
            rotate_left
            ·intro w'
             go_simp
             with_reducible rfl
            rotate_left
            ·simp only [Act.put, List.setIfInBounds_toArray, List.set_cons_zero, List.set_cons_succ, i64_w, i32_w]
             rfl
            refine pure_ (i := 31) (N := some 47) (v := ?_) (a' := ?_) #[Y4, Y4, Y4, Y4, Y4, Y4, Y4, Y4, Y4, Y4, Y4, Y4, Y4, Y4, Y4, Y4, Y4, Y4, Y4, Y4, Y4, Y4, Y4, Y4, Y4, Y4, Y4, Y4, Y4, Z4, Y4, Y4, Z4, Z4, Z4, Z4, Z4, Z4, Z4, Z4, Z4, Z4, Z4, Z4, Z4, Z4, Z4, Z4, Z4, Z4, Z4] rfl rfl (any_of HT_.out (by kernel_rfl)) (fun _ _ _ h => h) (Or.inl ⟨by rfl, ?_⟩) ?_ ?_
            rotate_left
            ·intro w'
             go_simp
             with_reducible rfl
            rotate_left
            ·simp only [Act.put, List.setIfInBounds_toArray, List.set_cons_zero, List.set_cons_succ, i64_w, i32_w]
             rfl
            refine pure_ (i := 32) (N := some 48) (v := ?_) (a' := ?_) #[Y4, Y4, Y4, Y4, Y4, Y4, Y4, Y4, Y4, Y4, Y4, Y4, Y4, Y4, Y4, Y4, Y4, Y4, Y4, Y4, Y4, Y4, Y4, Y4, Y4, Y4, Y4, Y4, Y4, Z4, Y4, Y4, Y4, Z4, Z4, Z4, Z4, Z4, Z4, Z4, Z4, Z4, Z4, Z4, Z4, Z4, Z4, Z4, Z4, Z4, Z4] rfl rfl (any_of HT_.out (by kernel_rfl)) (fun _ _ _ h => h) (Or.inl ⟨by rfl, ?_⟩) ?_ ?_
            rotate_left
            ·intro w'
             go_simp
             with_reducible rfl
            rotate_left
            ·simp only [Act.put, List.setIfInBounds_toArray, List.set_cons_zero, List.set_cons_succ, i64_w, i32_w]
             rfl
            refine pure_ (i := 33) (N := some 49) (v := ?_) (a' := ?_) #[Y4, Y4, Y4, Y4, Y4, Y4, Y4, Y4, Y4, Y4, Y4, Y4, Y4, Y4, Y4, Y4, Y4, Y4, Y4, Y4, Y4, Y4, Y4, Y4, Y4, Y4, Y4, Y4, Y4, Z4, Y4, Y4, Y4, Y4, Z4, Z4, Z4, Z4, Z4, Z4, Z4, Z4, Z4, Z4, Z4, Z4, Z4, Z4, Z4, Z4, Z4] rfl rfl (any_of HT_.out (by kernel_rfl)) (fun _ _ _ h => h) (Or.inl ⟨by rfl, ?_⟩) ?_ ?_
            rotate_left
            ·intro w'
             go_simp
             with_reducible rfl
            rotate_left
            ·simp only [Act.put, List.setIfInBounds_toArray, List.set_cons_zero, List.set_cons_succ, i64_w, i32_w]
             rfl
            refine take_ (i := 29) (N := some 45) (v := ?_) (a' := ?_) #[Y4, Y4, Y4, Y4, Y4, Y4, Y4, Y4, Y4, Y4, Y4, Y4, Y4, Y4, Y4, Y4, Y4, Y4, Y4, Y4, Y4, Y4, Y4, Y4, Y4, Y4, Y4, Y4, Y4, Y4, Y4, Y4, Y4, Y4, Z4, Z4, Z4, Z4, Z4, Z4, Z4, Z4, Z4, Z4, Z4, Z4, Z4, Z4, Z4, Z4, Z4] rfl rfl (take_ofW HT_.out HW_.out (by kernel_rfl)) (fun _ _ _ h => h) (Or.inl ⟨by rfl, ?_⟩) hHeld ?_ ?_
            rotate_left
            ·rintro w' ⟨s0, s1, s2, s3, s4, s5, s6, s7, s8, s9, s10, s11, s12, s13, s14, s15, s16, s17, s18, s19, s20, s21, s22, s23, s24, s25, s26, s27, s28, s29, s30, s31⟩
             go_simp
             with_reducible rfl
            rotate_left
            ·simp only [Act.put, List.setIfInBounds_toArray, List.set_cons_zero, List.set_cons_succ, i64_w, i32_w]
             rfl
            refine take_ (i := 34) (N := some 50) (v := ?_) (a' := ?_) #[Y4, Y4, Y4, Y4, Y4, Y4, Y4, Y4, Y4, Y4, Y4, Y4, Y4, Y4, Y4, Y4, Y4, Y4, Y4, Y4, Y4, Y4, Y4, Y4, Y4, Y4, Y4, Y4, Y4, Y4, Y4, Y4, Y4, Y4, Y4, Z4, Z4, Z4, Z4, Z4, Z4, Z4, Z4, Z4, Z4, Z4, Z4, Z4, Z4, Z4, Z4] rfl rfl (take_ofW HT_.out HW_.out (by kernel_rfl)) (fun _ _ _ h => h) (Or.inl ⟨by rfl, ?_⟩) hHeld ?_ ?_
            rotate_left
            ·rintro w' ⟨s0, s1, s2, s3, s4, s5, s6, s7, s8, s9, s10, s11, s12, s13, s14, s15, s16, s17, s18, s19, s20, s21, s22, s23, s24, s25, s26, s27, s28, s29, s30, s31⟩
             go_simp
             with_reducible rfl
            rotate_left
            ·simp only [Act.put, List.setIfInBounds_toArray, List.set_cons_zero, List.set_cons_succ, i64_w, i32_w]
             rfl
            refine pure_ (i := 35) (N := some 51) (v := ?_) (a' := ?_) #[Y4, Y4, Y4, Y4, Y4, Y4, Y4, Y4, Y4, Y4, Y4, Y4, Y4, Y4, Y4, Y4, Y4, Y4, Y4, Y4, Y4, Y4, Y4, Y4, Y4, Y4, Y4, Y4, Y4, Y4, Y4, Y4, Y4, Y4, Y4, Y4, Z4, Z4, Z4, Z4, Z4, Z4, Z4, Z4, Z4, Z4, Z4, Z4, Z4, Z4, Z4] rfl rfl (any_of HT_.out (by kernel_rfl)) (fun _ _ _ h => h) (Or.inl ⟨by rfl, ?_⟩) ?_ ?_
            rotate_left
            ·intro w'
             go_simp
             with_reducible rfl
            rotate_left
            ·simp only [Act.put, List.setIfInBounds_toArray, List.set_cons_zero, List.set_cons_succ, i64_w, i32_w]
             rfl
            refine pure_ (i := 36) (N := some 52) (v := ?_) (a' := ?_) #[Y4, Y4, Y4, Y4, Y4, Y4, Y4, Y4, Y4, Y4, Y4, Y4, Y4, Y4, Y4, Y4, Y4, Y4, Y4, Y4, Y4, Y4, Y4, Y4, Y4, Y4, Y4, Y4, Y4, Y4, Y4, Y4, Y4, Y4, Y4, Y4, Y4, Z4, Z4, Z4, Z4, Z4, Z4, Z4, Z4, Z4, Z4, Z4, Z4, Z4, Z4] rfl rfl (any_of HT_.out (by kernel_rfl)) (fun _ _ _ h => h) (Or.inl ⟨by rfl, ?_⟩) ?_ ?_
            rotate_left
            ·intro w'
             go_simp
             with_reducible rfl
            rotate_left
            ·simp only [Act.put, List.setIfInBounds_toArray, List.set_cons_zero, List.set_cons_succ, i64_w, i32_w]
             rfl
            refine pure_ (i := 37) (N := some 53) (v := ?_) (a' := ?_) #[Y4, Y4, Y4, Y4, Y4, Y4, Y4, Y4, Y4, Y4, Y4, Y4, Y4, Y4, Y4, Y4, Y4, Y4, Y4, Y4, Y4, Y4, Y4, Y4, Y4, Y4, Y4, Y4, Y4, Y4, Y4, Y4, Y4, Y4, Y4, Y4, Y4, Y4, Z4, Z4, Z4, Z4, Z4, Z4, Z4, Z4, Z4, Z4, Z4, Z4, Z4] rfl rfl (any_of HT_.out (by kernel_rfl)) (fun _ _ _ h => h) (Or.inl ⟨by rfl, ?_⟩) ?_ ?_
            rotate_left
            ·intro w'
             go_simp
             with_reducible rfl
            rotate_left
            ·simp only [Act.put, List.setIfInBounds_toArray, List.set_cons_zero, List.set_cons_succ, i64_w, i32_w]
             rfl
            refine pure_ (i := 38) (N := some 54) (v := ?_) (a' := ?_) #[Y4, Y4, Y4, Y4, Y4, Y4, Y4, Y4, Y4, Y4, Y4, Y4, Y4, Y4, Y4, Y4, Y4, Y4, Y4, Y4, Y4, Y4, Y4, Y4, Y4, Y4, Y4, Y4, Y4, Y4, Y4, Y4, Y4, Y4, Y4, Y4, Y4, Y4, Y4, Z4, Z4, Z4, Z4, Z4, Z4, Z4, Z4, Z4, Z4, Z4, Z4] rfl rfl (any_of HT_.out (by kernel_rfl)) (fun _ _ _ h => h) (Or.inl ⟨by rfl, ?_⟩) ?_ ?_
            rotate_left
            ·intro w'
             go_simp
             with_reducible rfl
            rotate_left
            ·simp only [Act.put, List.setIfInBounds_toArray, List.set_cons_zero, List.set_cons_succ, i64_w, i32_w]
             rfl
            refine pure_ (i := 39) (N := some 55) (v := ?_) (a' := ?_) #[Y4, Y4, Y4, Y4, Y4, Y4, Y4, Y4, Y4, Y4, Y4, Y4, Y4, Y4, Y4, Y4, Y4, Y4, Y4, Y4, Y4, Y4, Y4, Y4, Y4, Y4, Y4, Y4, Y4, Y4, Y4, Y4, Y4, Y4, Y4, Y4, Y4, Y4, Y4, Y4, Z4, Z4, Z4, Z4, Z4, Z4, Z4, Z4, Z4, Z4, Z4] rfl rfl (any_of HT_.out (by kernel_rfl)) (fun _ _ _ h => h) (Or.inl ⟨by rfl, ?_⟩) ?_ ?_
            rotate_left
            ·intro w'
             go_simp
             with_reducible rfl
            rotate_left
            ·simp only [Act.put, List.setIfInBounds_toArray, List.set_cons_zero, List.set_cons_succ, i64_w, i32_w]
             rfl
            refine pure_ (i := 40) (N := some 56) (v := ?_) (a' := ?_) #[Y4, Y4, Y4, Y4, Y4, Y4, Y4, Y4, Y4, Y4, Y4, Y4, Y4, Y4, Y4, Y4, Y4, Y4, Y4, Y4, Y4, Y4, Y4, Y4, Y4, Y4, Y4, Y4, Y4, Y4, Y4, Y4, Y4, Y4, Y4, Y4, Y4, Y4, Y4, Y4, Y4, Z4, Z4, Z4, Z4, Z4, Z4, Z4, Z4, Z4, Z4] rfl rfl (any_of HT_.out (by kernel_rfl)) (fun _ _ _ h => h) (Or.inl ⟨by rfl, ?_⟩) ?_ ?_
            rotate_left
            ·intro w'
             go_simp
             with_reducible rfl
            rotate_left
            ·simp only [Act.put, List.setIfInBounds_toArray, List.set_cons_zero, List.set_cons_succ, i64_w, i32_w]
             rfl
            refine pure_ (i := 41) (N := some 57) (v := ?_) (a' := ?_) #[Y4, Y4, Y4, Y4, Y4, Y4, Y4, Y4, Y4, Y4, Y4, Y4, Y4, Y4, Y4, Y4, Y4, Y4, Y4, Y4, Y4, Y4, Y4, Y4, Y4, Y4, Y4, Y4, Y4, Y4, Y4, Y4, Y4, Y4, Y4, Y4, Y4, Y4, Y4, Y4, Y4, Y4, Z4, Z4, Z4, Z4, Z4, Z4, Z4, Z4, Z4] rfl rfl (any_of HT_.out (by kernel_rfl)) (fun _ _ _ h => h) (Or.inl ⟨by rfl, ?_⟩) ?_ ?_
            rotate_left
            ·intro w'
             go_simp
             with_reducible rfl
            rotate_left
            ·simp only [Act.put, List.setIfInBounds_toArray, List.set_cons_zero, List.set_cons_succ, i64_w, i32_w]
             rfl
            refine pure_ (i := 43) (N := some 59) (v := ?_) (a' := ?_) #[Y4, Y4, Y4, Y4, Y4, Y4, Y4, Y4, Y4, Y4, Y4, Y4, Y4, Y4, Y4, Y4, Y4, Y4, Y4, Y4, Y4, Y4, Y4, Y4, Y4, Y4, Y4, Y4, Y4, Y4, Y4, Y4, Y4, Y4, Y4, Y4, Y4, Y4, Y4, Y4, Y4, Y4, Z4, Y4, Z4, Z4, Z4, Z4, Z4, Z4, Z4] rfl rfl (any_of HT_.out (by kernel_rfl)) (fun _ _ _ h => h) (Or.inl ⟨by rfl, ?_⟩) ?_ ?_
            rotate_left
            ·intro w'
             go_simp
             with_reducible rfl
            rotate_left
            ·simp only [Act.put, List.setIfInBounds_toArray, List.set_cons_zero, List.set_cons_succ, i64_w, i32_w]
             rfl
            refine pure_ (i := 44) (N := some 60) (v := ?_) (a' := ?_) #[Y4, Y4, Y4, Y4, Y4, Y4, Y4, Y4, Y4, Y4, Y4, Y4, Y4, Y4, Y4, Y4, Y4, Y4, Y4, Y4, Y4, Y4, Y4, Y4, Y4, Y4, Y4, Y4, Y4, Y4, Y4, Y4, Y4, Y4, Y4, Y4, Y4, Y4, Y4, Y4, Y4, Y4, Z4, Y4, Y4, Z4, Z4, Z4, Z4, Z4, Z4] rfl rfl (any_of HT_.out (by kernel_rfl)) (fun _ _ _ h => h) (Or.inl ⟨by rfl, ?_⟩) ?_ ?_
            rotate_left
            ·intro w'
             go_simp
             with_reducible rfl
            rotate_left
            ·simp only [Act.put, List.setIfInBounds_toArray, List.set_cons_zero, List.set_cons_succ, i64_w, i32_w]
             rfl
            refine pure_ (i := 45) (N := some 61) (v := ?_) (a' := ?_) #[Y4, Y4, Y4, Y4, Y4, Y4, Y4, Y4, Y4, Y4, Y4, Y4, Y4, Y4, Y4, Y4, Y4, Y4, Y4, Y4, Y4, Y4, Y4, Y4, Y4, Y4, Y4, Y4, Y4, Y4, Y4, Y4, Y4, Y4, Y4, Y4, Y4, Y4, Y4, Y4, Y4, Y4, Z4, Y4, Y4, Y4, Z4, Z4, Z4, Z4, Z4] rfl rfl (any_of HT_.out (by kernel_rfl)) (fun _ _ _ h => h) (Or.inl ⟨by rfl, ?_⟩) ?_ ?_
            rotate_left
            ·intro w'
             go_simp
             with_reducible rfl
            rotate_left
            ·simp only [Act.put, List.setIfInBounds_toArray, List.set_cons_zero, List.set_cons_succ, i64_w, i32_w]
             rfl
            refine pure_ (i := 46) (N := some 62) (v := ?_) (a' := ?_) #[Y4, Y4, Y4, Y4, Y4, Y4, Y4, Y4, Y4, Y4, Y4, Y4, Y4, Y4, Y4, Y4, Y4, Y4, Y4, Y4, Y4, Y4, Y4, Y4, Y4, Y4, Y4, Y4, Y4, Y4, Y4, Y4, Y4, Y4, Y4, Y4, Y4, Y4, Y4, Y4, Y4, Y4, Z4, Y4, Y4, Y4, Y4, Z4, Z4, Z4, Z4] rfl rfl (any_of HT_.out (by kernel_rfl)) (fun _ _ _ h => h) (Or.inl ⟨by rfl, ?_⟩) ?_ ?_
            rotate_left
            ·intro w'
             go_simp
             with_reducible rfl
            rotate_left
            ·simp only [Act.put, List.setIfInBounds_toArray, List.set_cons_zero, List.set_cons_succ, i64_w, i32_w]
             rfl
            refine take_ (i := 42) (N := some 58) (v := ?_) (a' := ?_) #[Y4, Y4, Y4, Y4, Y4, Y4, Y4, Y4, Y4, Y4, Y4, Y4, Y4, Y4, Y4, Y4, Y4, Y4, Y4, Y4, Y4, Y4, Y4, Y4, Y4, Y4, Y4, Y4, Y4, Y4, Y4, Y4, Y4, Y4, Y4, Y4, Y4, Y4, Y4, Y4, Y4, Y4, Y4, Y4, Y4, Y4, Y4, Z4, Z4, Z4, Z4] rfl rfl (take_ofW HT_.out HW_.out (by kernel_rfl)) (fun _ _ _ h => h) (Or.inl ⟨by rfl, ?_⟩) hHeld ?_ ?_
            rotate_left
            ·rintro w' ⟨s0, s1, s2, s3, s4, s5, s6, s7, s8, s9, s10, s11, s12, s13, s14, s15, s16, s17, s18, s19, s20, s21, s22, s23, s24, s25, s26, s27, s28, s29, s30, s31⟩
             go_simp
             with_reducible rfl
            rotate_left
            ·simp only [Act.put, List.setIfInBounds_toArray, List.set_cons_zero, List.set_cons_succ, i64_w, i32_w]
             rfl
            refine take_ (i := 47) (N := some 63) (v := ?_) (a' := ?_) #[Y4, Y4, Y4, Y4, Y4, Y4, Y4, Y4, Y4, Y4, Y4, Y4, Y4, Y4, Y4, Y4, Y4, Y4, Y4, Y4, Y4, Y4, Y4, Y4, Y4, Y4, Y4, Y4, Y4, Y4, Y4, Y4, Y4, Y4, Y4, Y4, Y4, Y4, Y4, Y4, Y4, Y4, Y4, Y4, Y4, Y4, Y4, Y4, Z4, Z4, Z4] rfl rfl (take_ofW HT_.out HW_.out (by kernel_rfl)) (fun _ _ _ h => h) (Or.inl ⟨by rfl, ?_⟩) hHeld ?_ ?_
            rotate_left
            ·rintro w' ⟨s0, s1, s2, s3, s4, s5, s6, s7, s8, s9, s10, s11, s12, s13, s14, s15, s16, s17, s18, s19, s20, s21, s22, s23, s24, s25, s26, s27, s28, s29, s30, s31⟩
             go_simp
             with_reducible rfl
            rotate_left
            ·simp only [Act.put, List.setIfInBounds_toArray, List.set_cons_zero, List.set_cons_succ, i64_w, i32_w]
             rfl
            refine one_ (i := 48) (N := some 64) #[Y4, Y4, Y4, Y4, Y4, Y4, Y4, Y4, Y4, Y4, Y4, Y4, Y4, Y4, Y4, Y4, Y4, Y4, Y4, Y4, Y4, Y4, Y4, Y4, Y4, Y4, Y4, Y4, Y4, Y4, Y4, Y4, Y4, Y4, Y4, Y4, Y4, Y4, Y4, Y4, Y4, Y4, Y4, Y4, Y4, Y4, Y4, Y4, Y4, Z4, Z4] rfl rfl (one_of HT_.out (by kernel_rfl)) (by decide) (fun K hK => ?_)
            refine goes_ Try.func36 (by kernel_rfl) rfl #[.slice A150_2 ((rd_T32 l0 x13_1).f2).length c150_2, .slice A151_2 ((rd_T32 l1 x13_1).f2).length c151_2] (by rfl) rfl rfl (by (try simp only [List.map_toArray, List.map_cons, List.map_nil]); first | done | rfl | (simp only [List.length_drop, List.length_take]; rfl)) ?_
            with_reducible refine (lontarlaw01_Units.calls k1 _ _ ((rd_T32 l0 x13_1).f2) _ _ ((rd_T32 l1 x13_1).f2) true _ ?side1 ?side2 ?side3 ?side4 A11.out).mono ?_
            (case side1 => repeat (first | exact (Kd.C_below HR156_2.out HB.out) | (with_reducible refine Kd.C_alloc ?_ _) | (with_reducible refine Kd.C_drewN ?_ _) | (with_reducible refine Kd.C_drew ?_)))
            (case side2 => exact HC156_2.out)
            (case side3 => repeat (first | exact (Kd.C_below HR157_2.out HB.out) | (with_reducible refine Kd.C_alloc ?_ _) | (with_reducible refine Kd.C_drewN ?_ _) | (with_reducible refine Kd.C_drew ?_)))
            (case side4 => exact HC157_2.out)
            rintro e w' ⟨rfl, ⟨nd, rfl⟩⟩
            refine ⟨_, rfl, ?_⟩
            refine hK.out _ _ ⟨((HB.out.cell (World.block_lt_of_cell? w _ hw150_0)).trans hw150_0), ((HB.out.cell (World.block_lt_of_cell? w _ hw150_1)).trans hw150_1), ((HB.out.cell (World.block_lt_of_cell? w _ hw150_2)).trans hw150_2), ((HB.out.cell (World.block_lt_of_cell? w _ hw150_3)).trans hw150_3), ((HB.out.cell (World.block_lt_of_cell? w _ hw151_0)).trans hw151_0), ((HB.out.cell (World.block_lt_of_cell? w _ hw151_1)).trans hw151_1), ((HB.out.cell (World.block_lt_of_cell? w _ hw151_2)).trans hw151_2), ((HB.out.cell (World.block_lt_of_cell? w _ hw151_3)).trans hw151_3), ((HB.out.cell (World.block_lt_of_cell? w _ hw152_0)).trans hw152_0), ((HB.out.cell (World.block_lt_of_cell? w _ hw152_1)).trans hw152_1), ((HB.out.cell (World.block_lt_of_cell? w _ hw152_2)).trans hw152_2), ((HB.out.cell (World.block_lt_of_cell? w _ hw152_3)).trans hw152_3), ((HB.out.cell (World.block_lt_of_cell? w _ hw153_0)).trans hw153_0), ((HB.out.cell (World.block_lt_of_cell? w _ hw153_1)).trans hw153_1), ((HB.out.cell (World.block_lt_of_cell? w _ hw153_2)).trans hw153_2), ((HB.out.cell (World.block_lt_of_cell? w _ hw153_3)).trans hw153_3), ((HB.out.cell (World.block_lt_of_cell? w _ hw154_0)).trans hw154_0), ((HB.out.cell (World.block_lt_of_cell? w _ hw154_1)).trans hw154_1), ((HB.out.cell (World.block_lt_of_cell? w _ hw154_2)).trans hw154_2), ((HB.out.cell (World.block_lt_of_cell? w _ hw154_3)).trans hw154_3), ((HB.out.cell (World.block_lt_of_cell? w _ hw155_0)).trans hw155_0), ((HB.out.cell (World.block_lt_of_cell? w _ hw155_1)).trans hw155_1), ((HB.out.cell (World.block_lt_of_cell? w _ hw155_2)).trans hw155_2), ((HB.out.cell (World.block_lt_of_cell? w _ hw155_3)).trans hw155_3), ((HB.out.cell (World.block_lt_of_cell? w _ hw156_0)).trans hw156_0), ((HB.out.cell (World.block_lt_of_cell? w _ hw156_1)).trans hw156_1), ((HB.out.cell (World.block_lt_of_cell? w _ hw156_2)).trans hw156_2), ((HB.out.cell (World.block_lt_of_cell? w _ hw156_3)).trans hw156_3), ((HB.out.cell (World.block_lt_of_cell? w _ hw157_0)).trans hw157_0), ((HB.out.cell (World.block_lt_of_cell? w _ hw157_1)).trans hw157_1), ((HB.out.cell (World.block_lt_of_cell? w _ hw157_2)).trans hw157_2), ((HB.out.cell (World.block_lt_of_cell? w _ hw157_3)).trans hw157_3)⟩ (fun hHeld => ?_)
            clear hK K
            refine norm_ (a' := ?_) ?_ ?_
            rotate_left
            ·show Act.put _ (some 64) _ = _
             simp only [Act.put, List.setIfInBounds_toArray, List.set_cons_zero, List.set_cons_succ, i64_w, i32_w]
             rfl
            refine pure_ (i := 49) (N := some 65) (v := ?_) (a' := ?_) #[Y4, Y4, Y4, Y4, Y4, Y4, Y4, Y4, Y4, Y4, Y4, Y4, Y4, Y4, Y4, Y4, Y4, Y4, Y4, Y4, Y4, Y4, Y4, Y4, Y4, Y4, Y4, Y4, Y4, Y4, Y4, Y4, Y4, Y4, Y4, Y4, Y4, Y4, Y4, Y4, Y4, Y4, Y4, Y4, Y4, Y4, Y4, Y4, Y4, Y4, Z4] rfl rfl (any_of HT_.out (by kernel_rfl)) (fun _ _ _ h => h) (Or.inl ⟨by rfl, ?_⟩) ?_ ?_
            rotate_left
            ·intro w'
             go_simp
             with_reducible rfl
            rotate_left
            ·simp only [Act.put, List.setIfInBounds_toArray, List.set_cons_zero, List.set_cons_succ, i64_w, i32_w]
             rfl
            refine pure_ (i := 50) (N := some 66) (v := ?_) (a' := ?_) #[Y4, Y4, Y4, Y4, Y4, Y4, Y4, Y4, Y4, Y4, Y4, Y4, Y4, Y4, Y4, Y4, Y4, Y4, Y4, Y4, Y4, Y4, Y4, Y4, Y4, Y4, Y4, Y4, Y4, Y4, Y4, Y4, Y4, Y4, Y4, Y4, Y4, Y4, Y4, Y4, Y4, Y4, Y4, Y4, Y4, Y4, Y4, Y4, Y4, Y4, Y4] rfl rfl (any_of HT_.out (by kernel_rfl)) (fun _ _ _ h => h) (Or.inl ⟨by rfl, ?_⟩) ?_ ?_
            rotate_left
            ·intro w'
             go_simp
             with_reducible rfl
            rotate_left
            ·simp only [Act.put, List.setIfInBounds_toArray, List.set_cons_zero, List.set_cons_succ, i64_w, i32_w]
             rfl
            refine done_ (done_of HT_.out (by kernel_rfl)) ?_
            try go_wp2
            go_roundg k1
            case measure => have := HK1.out; omega
            case rel => exact ⟨(wrap64 (x13_1 + 1)), (by first | rfl | (simp; done) | (simp [*]; done)), H', ⟨by have := HK1.out; omega⟩, ⟨by repeat (first | (with_reducible first | exact HB.out | apply below_alloc | apply pw_below_drewN | apply below_drew1) | exact HB.out)⟩⟩
           ·replace c12 := Bool.eq_false_iff.mpr c12
            subst c12
            have H1 : (some false) = some r := by rw [if_neg (show ¬ (false = true) by decide)] at H; exact H
            clear H
            have H := H1
            clear H1
            obtain rfl := Option.some.inj H
            try go_wp2
            have n0_ := Aside0.mk (below_drew1 HB.out)
            clear HB
            have HB := n0_
            clear n0_
            have p150 : 0 ≤ (x13_1 : Int) := of_decide_eq_true (by first | (with_reducible assumption) | assumption)
            have q150 : x13_1 < (l0.length : Int) := of_decide_eq_true (by first | (with_reducible assumption) | assumption)
            obtain ⟨ad150, A150_2, c150_2, e150, hx150_0, hx150_1, hx150_2, hx150_3, hl150_2, hi150_2⟩ := at_T32 HR0.out x13_1 p150 q150
            have hw150_3 := hx150_3
            have hw150_2 := hx150_2
            have hw150_1 := hx150_1
            have hw150_0 := hx150_0
            cases e150
            replace hx150_0 := (HB.out.cell (World.block_lt_of_cell? w _ hx150_0)).trans hx150_0
            replace hx150_1 := (HB.out.cell (World.block_lt_of_cell? w _ hx150_1)).trans hx150_1
            replace hx150_2 := (HB.out.cell (World.block_lt_of_cell? w _ hx150_2)).trans hx150_2
            replace hx150_3 := (HB.out.cell (World.block_lt_of_cell? w _ hx150_3)).trans hx150_3
            have HR150_2 := Aside0.mk hi150_2
            have HC150_2 := Aside0.mk hl150_2
            clear hi150_2 hl150_2
            replace p150 := eq_true p150
            replace q150 := eq_true q150
            have p151 : 0 ≤ (x13_1 : Int) := of_decide_eq_true (by first | (with_reducible assumption) | assumption)
            have q151 : x13_1 < (l1.length : Int) := of_decide_eq_true (by first | (with_reducible assumption) | assumption)
            obtain ⟨ad151, A151_2, c151_2, e151, hx151_0, hx151_1, hx151_2, hx151_3, hl151_2, hi151_2⟩ := at_T32 HR1.out x13_1 p151 q151
            have hw151_3 := hx151_3
            have hw151_2 := hx151_2
            have hw151_1 := hx151_1
            have hw151_0 := hx151_0
            cases e151
            replace hx151_0 := (HB.out.cell (World.block_lt_of_cell? w _ hx151_0)).trans hx151_0
            replace hx151_1 := (HB.out.cell (World.block_lt_of_cell? w _ hx151_1)).trans hx151_1
            replace hx151_2 := (HB.out.cell (World.block_lt_of_cell? w _ hx151_2)).trans hx151_2
            replace hx151_3 := (HB.out.cell (World.block_lt_of_cell? w _ hx151_3)).trans hx151_3
            have HR151_2 := Aside0.mk hi151_2
            have HC151_2 := Aside0.mk hl151_2
            clear hi151_2 hl151_2
            replace p151 := eq_true p151
            replace q151 := eq_true q151
            have p152 : 0 ≤ (x13_1 : Int) := of_decide_eq_true (by first | (with_reducible assumption) | assumption)
            have q152 : x13_1 < (l0.length : Int) := of_decide_eq_true (by first | (with_reducible assumption) | assumption)
            obtain ⟨ad152, A152_2, c152_2, e152, hx152_0, hx152_1, hx152_2, hx152_3, hl152_2, hi152_2⟩ := at_T32 HR0.out x13_1 p152 q152
            have hw152_3 := hx152_3
            have hw152_2 := hx152_2
            have hw152_1 := hx152_1
            have hw152_0 := hx152_0
            obtain rfl : ad150 = ad152 := (by injection e152)
            replace hx152_0 := (HB.out.cell (World.block_lt_of_cell? w _ hx152_0)).trans hx152_0
            replace hx152_1 := (HB.out.cell (World.block_lt_of_cell? w _ hx152_1)).trans hx152_1
            replace hx152_2 := (HB.out.cell (World.block_lt_of_cell? w _ hx152_2)).trans hx152_2
            replace hx152_3 := (HB.out.cell (World.block_lt_of_cell? w _ hx152_3)).trans hx152_3
            have HR152_2 := Aside0.mk hi152_2
            have HC152_2 := Aside0.mk hl152_2
            clear hi152_2 hl152_2
            replace p152 := eq_true p152
            replace q152 := eq_true q152
            have ea_ := Option.some.inj (hx150_2.symm.trans hx152_2)
            injection ea_ with ea_ en_ ec_
            subst ea_
            subst ec_
            clear en_
            have p153 : 0 ≤ (x13_1 : Int) := of_decide_eq_true (by first | (with_reducible assumption) | assumption)
            have q153 : x13_1 < (l1.length : Int) := of_decide_eq_true (by first | (with_reducible assumption) | assumption)
            obtain ⟨ad153, A153_2, c153_2, e153, hx153_0, hx153_1, hx153_2, hx153_3, hl153_2, hi153_2⟩ := at_T32 HR1.out x13_1 p153 q153
            have hw153_3 := hx153_3
            have hw153_2 := hx153_2
            have hw153_1 := hx153_1
            have hw153_0 := hx153_0
            obtain rfl : ad151 = ad153 := (by injection e153)
            replace hx153_0 := (HB.out.cell (World.block_lt_of_cell? w _ hx153_0)).trans hx153_0
            replace hx153_1 := (HB.out.cell (World.block_lt_of_cell? w _ hx153_1)).trans hx153_1
            replace hx153_2 := (HB.out.cell (World.block_lt_of_cell? w _ hx153_2)).trans hx153_2
            replace hx153_3 := (HB.out.cell (World.block_lt_of_cell? w _ hx153_3)).trans hx153_3
            have HR153_2 := Aside0.mk hi153_2
            have HC153_2 := Aside0.mk hl153_2
            clear hi153_2 hl153_2
            replace p153 := eq_true p153
            replace q153 := eq_true q153
            have ea_ := Option.some.inj (hx151_2.symm.trans hx153_2)
            injection ea_ with ea_ en_ ec_
            subst ea_
            subst ec_
            clear en_
            have p154 : 0 ≤ (x13_1 : Int) := of_decide_eq_true (by first | (with_reducible assumption) | assumption)
            have q154 : x13_1 < (l0.length : Int) := of_decide_eq_true (by first | (with_reducible assumption) | assumption)
            obtain ⟨ad154, A154_2, c154_2, e154, hx154_0, hx154_1, hx154_2, hx154_3, hl154_2, hi154_2⟩ := at_T32 HR0.out x13_1 p154 q154
            have hw154_3 := hx154_3
            have hw154_2 := hx154_2
            have hw154_1 := hx154_1
            have hw154_0 := hx154_0
            obtain rfl : ad150 = ad154 := (by injection e154)
            replace hx154_0 := (HB.out.cell (World.block_lt_of_cell? w _ hx154_0)).trans hx154_0
            replace hx154_1 := (HB.out.cell (World.block_lt_of_cell? w _ hx154_1)).trans hx154_1
            replace hx154_2 := (HB.out.cell (World.block_lt_of_cell? w _ hx154_2)).trans hx154_2
            replace hx154_3 := (HB.out.cell (World.block_lt_of_cell? w _ hx154_3)).trans hx154_3
            have HR154_2 := Aside0.mk hi154_2
            have HC154_2 := Aside0.mk hl154_2
            clear hi154_2 hl154_2
            replace p154 := eq_true p154
            replace q154 := eq_true q154
            have ea_ := Option.some.inj (hx150_2.symm.trans hx154_2)
            injection ea_ with ea_ en_ ec_
            subst ea_
            subst ec_
            clear en_
            have p155 : 0 ≤ (x13_1 : Int) := of_decide_eq_true (by first | (with_reducible assumption) | assumption)
            have q155 : x13_1 < (l1.length : Int) := of_decide_eq_true (by first | (with_reducible assumption) | assumption)
            obtain ⟨ad155, A155_2, c155_2, e155, hx155_0, hx155_1, hx155_2, hx155_3, hl155_2, hi155_2⟩ := at_T32 HR1.out x13_1 p155 q155
            have hw155_3 := hx155_3
            have hw155_2 := hx155_2
            have hw155_1 := hx155_1
            have hw155_0 := hx155_0
            obtain rfl : ad151 = ad155 := (by injection e155)
            replace hx155_0 := (HB.out.cell (World.block_lt_of_cell? w _ hx155_0)).trans hx155_0
            replace hx155_1 := (HB.out.cell (World.block_lt_of_cell? w _ hx155_1)).trans hx155_1
            replace hx155_2 := (HB.out.cell (World.block_lt_of_cell? w _ hx155_2)).trans hx155_2
            replace hx155_3 := (HB.out.cell (World.block_lt_of_cell? w _ hx155_3)).trans hx155_3
            have HR155_2 := Aside0.mk hi155_2
            have HC155_2 := Aside0.mk hl155_2
            clear hi155_2 hl155_2
            replace p155 := eq_true p155
            replace q155 := eq_true q155
            have ea_ := Option.some.inj (hx151_2.symm.trans hx155_2)
            injection ea_ with ea_ en_ ec_
            subst ea_
            subst ec_
            clear en_
            have p156 : 0 ≤ (x13_1 : Int) := of_decide_eq_true (by first | (with_reducible assumption) | assumption)
            have q156 : x13_1 < (l0.length : Int) := of_decide_eq_true (by first | (with_reducible assumption) | assumption)
            obtain ⟨ad156, A156_2, c156_2, e156, hx156_0, hx156_1, hx156_2, hx156_3, hl156_2, hi156_2⟩ := at_T32 HR0.out x13_1 p156 q156
            have hw156_3 := hx156_3
            have hw156_2 := hx156_2
            have hw156_1 := hx156_1
            have hw156_0 := hx156_0
            obtain rfl : ad150 = ad156 := (by injection e156)
            replace hx156_0 := (HB.out.cell (World.block_lt_of_cell? w _ hx156_0)).trans hx156_0
            replace hx156_1 := (HB.out.cell (World.block_lt_of_cell? w _ hx156_1)).trans hx156_1
            replace hx156_2 := (HB.out.cell (World.block_lt_of_cell? w _ hx156_2)).trans hx156_2
            replace hx156_3 := (HB.out.cell (World.block_lt_of_cell? w _ hx156_3)).trans hx156_3
            have HR156_2 := Aside0.mk hi156_2
            have HC156_2 := Aside0.mk hl156_2
            clear hi156_2 hl156_2
            replace p156 := eq_true p156
            replace q156 := eq_true q156
            have ea_ := Option.some.inj (hx150_2.symm.trans hx156_2)
            injection ea_ with ea_ en_ ec_
            subst ea_
            subst ec_
            clear en_
            have p157 : 0 ≤ (x13_1 : Int) := of_decide_eq_true (by first | (with_reducible assumption) | assumption)
            have q157 : x13_1 < (l1.length : Int) := of_decide_eq_true (by first | (with_reducible assumption) | assumption)
            obtain ⟨ad157, A157_2, c157_2, e157, hx157_0, hx157_1, hx157_2, hx157_3, hl157_2, hi157_2⟩ := at_T32 HR1.out x13_1 p157 q157
            have hw157_3 := hx157_3
            have hw157_2 := hx157_2
            have hw157_1 := hx157_1
            have hw157_0 := hx157_0
            obtain rfl : ad151 = ad157 := (by injection e157)
            replace hx157_0 := (HB.out.cell (World.block_lt_of_cell? w _ hx157_0)).trans hx157_0
            replace hx157_1 := (HB.out.cell (World.block_lt_of_cell? w _ hx157_1)).trans hx157_1
            replace hx157_2 := (HB.out.cell (World.block_lt_of_cell? w _ hx157_2)).trans hx157_2
            replace hx157_3 := (HB.out.cell (World.block_lt_of_cell? w _ hx157_3)).trans hx157_3
            have HR157_2 := Aside0.mk hi157_2
            have HC157_2 := Aside0.mk hl157_2
            clear hi157_2 hl157_2
            replace p157 := eq_true p157
            replace q157 := eq_true q157
            have ea_ := Option.some.inj (hx151_2.symm.trans hx157_2)
            injection ea_ with ea_ en_ ec_
            subst ea_
            subst ec_
            clear en_
            refine start_ (n := 51) (S := fun w' => w'.cell? (ad150.add ((x13_1).toNat * 4)) = some (.int .i64 ((rd_T32 l0 x13_1).f0)) ∧ w'.cell? ⟨(ad150.add ((x13_1).toNat * 4)).block, (ad150.add ((x13_1).toNat * 4)).off + 1, none⟩ = some (.int .i64 ((rd_T32 l0 x13_1).f1)) ∧ w'.cell? ⟨(ad150.add ((x13_1).toNat * 4)).block, (ad150.add ((x13_1).toNat * 4)).off + 2, none⟩ = some (.slice A150_2 ((rd_T32 l0 x13_1).f2).length c150_2) ∧ w'.cell? ⟨(ad150.add ((x13_1).toNat * 4)).block, (ad150.add ((x13_1).toNat * 4)).off + 3, none⟩ = some (.int .i64 ((rd_T32 l0 x13_1).f3)) ∧ w'.cell? (ad151.add ((x13_1).toNat * 4)) = some (.int .i64 ((rd_T32 l1 x13_1).f0)) ∧ w'.cell? ⟨(ad151.add ((x13_1).toNat * 4)).block, (ad151.add ((x13_1).toNat * 4)).off + 1, none⟩ = some (.int .i64 ((rd_T32 l1 x13_1).f1)) ∧ w'.cell? ⟨(ad151.add ((x13_1).toNat * 4)).block, (ad151.add ((x13_1).toNat * 4)).off + 2, none⟩ = some (.slice A151_2 ((rd_T32 l1 x13_1).f2).length c151_2) ∧ w'.cell? ⟨(ad151.add ((x13_1).toNat * 4)).block, (ad151.add ((x13_1).toNat * 4)).off + 3, none⟩ = some (.int .i64 ((rd_T32 l1 x13_1).f3)) ∧ w'.cell? (ad150.add ((x13_1).toNat * 4)) = some (.int .i64 ((rd_T32 l0 x13_1).f0)) ∧ w'.cell? ⟨(ad150.add ((x13_1).toNat * 4)).block, (ad150.add ((x13_1).toNat * 4)).off + 1, none⟩ = some (.int .i64 ((rd_T32 l0 x13_1).f1)) ∧ w'.cell? ⟨(ad150.add ((x13_1).toNat * 4)).block, (ad150.add ((x13_1).toNat * 4)).off + 2, none⟩ = some (.slice A150_2 ((rd_T32 l0 x13_1).f2).length c150_2) ∧ w'.cell? ⟨(ad150.add ((x13_1).toNat * 4)).block, (ad150.add ((x13_1).toNat * 4)).off + 3, none⟩ = some (.int .i64 ((rd_T32 l0 x13_1).f3)) ∧ w'.cell? (ad151.add ((x13_1).toNat * 4)) = some (.int .i64 ((rd_T32 l1 x13_1).f0)) ∧ w'.cell? ⟨(ad151.add ((x13_1).toNat * 4)).block, (ad151.add ((x13_1).toNat * 4)).off + 1, none⟩ = some (.int .i64 ((rd_T32 l1 x13_1).f1)) ∧ w'.cell? ⟨(ad151.add ((x13_1).toNat * 4)).block, (ad151.add ((x13_1).toNat * 4)).off + 2, none⟩ = some (.slice A151_2 ((rd_T32 l1 x13_1).f2).length c151_2) ∧ w'.cell? ⟨(ad151.add ((x13_1).toNat * 4)).block, (ad151.add ((x13_1).toNat * 4)).off + 3, none⟩ = some (.int .i64 ((rd_T32 l1 x13_1).f3)) ∧ w'.cell? (ad150.add ((x13_1).toNat * 4)) = some (.int .i64 ((rd_T32 l0 x13_1).f0)) ∧ w'.cell? ⟨(ad150.add ((x13_1).toNat * 4)).block, (ad150.add ((x13_1).toNat * 4)).off + 1, none⟩ = some (.int .i64 ((rd_T32 l0 x13_1).f1)) ∧ w'.cell? ⟨(ad150.add ((x13_1).toNat * 4)).block, (ad150.add ((x13_1).toNat * 4)).off + 2, none⟩ = some (.slice A150_2 ((rd_T32 l0 x13_1).f2).length c150_2) ∧ w'.cell? ⟨(ad150.add ((x13_1).toNat * 4)).block, (ad150.add ((x13_1).toNat * 4)).off + 3, none⟩ = some (.int .i64 ((rd_T32 l0 x13_1).f3)) ∧ w'.cell? (ad151.add ((x13_1).toNat * 4)) = some (.int .i64 ((rd_T32 l1 x13_1).f0)) ∧ w'.cell? ⟨(ad151.add ((x13_1).toNat * 4)).block, (ad151.add ((x13_1).toNat * 4)).off + 1, none⟩ = some (.int .i64 ((rd_T32 l1 x13_1).f1)) ∧ w'.cell? ⟨(ad151.add ((x13_1).toNat * 4)).block, (ad151.add ((x13_1).toNat * 4)).off + 2, none⟩ = some (.slice A151_2 ((rd_T32 l1 x13_1).f2).length c151_2) ∧ w'.cell? ⟨(ad151.add ((x13_1).toNat * 4)).block, (ad151.add ((x13_1).toNat * 4)).off + 3, none⟩ = some (.int .i64 ((rd_T32 l1 x13_1).f3)) ∧ w'.cell? (ad150.add ((x13_1).toNat * 4)) = some (.int .i64 ((rd_T32 l0 x13_1).f0)) ∧ w'.cell? ⟨(ad150.add ((x13_1).toNat * 4)).block, (ad150.add ((x13_1).toNat * 4)).off + 1, none⟩ = some (.int .i64 ((rd_T32 l0 x13_1).f1)) ∧ w'.cell? ⟨(ad150.add ((x13_1).toNat * 4)).block, (ad150.add ((x13_1).toNat * 4)).off + 2, none⟩ = some (.slice A150_2 ((rd_T32 l0 x13_1).f2).length c150_2) ∧ w'.cell? ⟨(ad150.add ((x13_1).toNat * 4)).block, (ad150.add ((x13_1).toNat * 4)).off + 3, none⟩ = some (.int .i64 ((rd_T32 l0 x13_1).f3)) ∧ w'.cell? (ad151.add ((x13_1).toNat * 4)) = some (.int .i64 ((rd_T32 l1 x13_1).f0)) ∧ w'.cell? ⟨(ad151.add ((x13_1).toNat * 4)).block, (ad151.add ((x13_1).toNat * 4)).off + 1, none⟩ = some (.int .i64 ((rd_T32 l1 x13_1).f1)) ∧ w'.cell? ⟨(ad151.add ((x13_1).toNat * 4)).block, (ad151.add ((x13_1).toNat * 4)).off + 2, none⟩ = some (.slice A151_2 ((rd_T32 l1 x13_1).f2).length c151_2) ∧ w'.cell? ⟨(ad151.add ((x13_1).toNat * 4)).block, (ad151.add ((x13_1).toNat * 4)).off + 3, none⟩ = some (.int .i64 ((rd_T32 l1 x13_1).f3))) (ds := []) #[Z4, Z4, Z4, Z4, Z4, Z4, Z4, Z4, Z4, Z4, Z4, Z4, Z4, Z4, Z4, Z4, Z4, Z4, Z4, Z4, Z4, Z4, Z4, Z4, Z4, Z4, Z4, Z4, Z4, Z4, Z4, Z4, Z4, Z4, Z4, Z4, Z4, Z4, Z4, Z4, Z4, Z4, Z4, Z4, Z4, Z4, Z4, Z4, Z4, Z4, Z4] (by kernel_rfl) rfl rfl ⟨((HB.out.cell (World.block_lt_of_cell? w _ hw150_0)).trans hw150_0), ((HB.out.cell (World.block_lt_of_cell? w _ hw150_1)).trans hw150_1), ((HB.out.cell (World.block_lt_of_cell? w _ hw150_2)).trans hw150_2), ((HB.out.cell (World.block_lt_of_cell? w _ hw150_3)).trans hw150_3), ((HB.out.cell (World.block_lt_of_cell? w _ hw151_0)).trans hw151_0), ((HB.out.cell (World.block_lt_of_cell? w _ hw151_1)).trans hw151_1), ((HB.out.cell (World.block_lt_of_cell? w _ hw151_2)).trans hw151_2), ((HB.out.cell (World.block_lt_of_cell? w _ hw151_3)).trans hw151_3), ((HB.out.cell (World.block_lt_of_cell? w _ hw152_0)).trans hw152_0), ((HB.out.cell (World.block_lt_of_cell? w _ hw152_1)).trans hw152_1), ((HB.out.cell (World.block_lt_of_cell? w _ hw152_2)).trans hw152_2), ((HB.out.cell (World.block_lt_of_cell? w _ hw152_3)).trans hw152_3), ((HB.out.cell (World.block_lt_of_cell? w _ hw153_0)).trans hw153_0), ((HB.out.cell (World.block_lt_of_cell? w _ hw153_1)).trans hw153_1), ((HB.out.cell (World.block_lt_of_cell? w _ hw153_2)).trans hw153_2), ((HB.out.cell (World.block_lt_of_cell? w _ hw153_3)).trans hw153_3), ((HB.out.cell (World.block_lt_of_cell? w _ hw154_0)).trans hw154_0), ((HB.out.cell (World.block_lt_of_cell? w _ hw154_1)).trans hw154_1), ((HB.out.cell (World.block_lt_of_cell? w _ hw154_2)).trans hw154_2), ((HB.out.cell (World.block_lt_of_cell? w _ hw154_3)).trans hw154_3), ((HB.out.cell (World.block_lt_of_cell? w _ hw155_0)).trans hw155_0), ((HB.out.cell (World.block_lt_of_cell? w _ hw155_1)).trans hw155_1), ((HB.out.cell (World.block_lt_of_cell? w _ hw155_2)).trans hw155_2), ((HB.out.cell (World.block_lt_of_cell? w _ hw155_3)).trans hw155_3), ((HB.out.cell (World.block_lt_of_cell? w _ hw156_0)).trans hw156_0), ((HB.out.cell (World.block_lt_of_cell? w _ hw156_1)).trans hw156_1), ((HB.out.cell (World.block_lt_of_cell? w _ hw156_2)).trans hw156_2), ((HB.out.cell (World.block_lt_of_cell? w _ hw156_3)).trans hw156_3), ((HB.out.cell (World.block_lt_of_cell? w _ hw157_0)).trans hw157_0), ((HB.out.cell (World.block_lt_of_cell? w _ hw157_1)).trans hw157_1), ((HB.out.cell (World.block_lt_of_cell? w _ hw157_2)).trans hw157_2), ((HB.out.cell (World.block_lt_of_cell? w _ hw157_3)).trans hw157_3)⟩ (fun hHeld => ?_); refine with_tabW lontarlaw01_Same.tab6 lontarlaw01_Same.bits6 (fun HT_ HW_ => ?_)
            generalize wr.drew = w14 at HB HR150_2 HR151_2 HR152_2 HR153_2 HR154_2 HR155_2 HR156_2 HR157_2 hx150_0 hx150_1 hx150_2 hx150_3 hx151_0 hx151_1 hx151_2 hx151_3 hx152_0 hx152_1 hx152_2 hx152_3 hx153_0 hx153_1 hx153_2 hx153_3 hx154_0 hx154_1 hx154_2 hx154_3 hx155_0 hx155_1 hx155_2 hx155_3 hx156_0 hx156_1 hx156_2 hx156_3 hx157_0 hx157_1 hx157_2 hx157_3 hHeld ⊢
            refine pure_ (i := 0) (N := some 16) (v := ?_) (a' := ?_) #[Y4, Z4, Z4, Z4, Z4, Z4, Z4, Z4, Z4, Z4, Z4, Z4, Z4, Z4, Z4, Z4, Z4, Z4, Z4, Z4, Z4, Z4, Z4, Z4, Z4, Z4, Z4, Z4, Z4, Z4, Z4, Z4, Z4, Z4, Z4, Z4, Z4, Z4, Z4, Z4, Z4, Z4, Z4, Z4, Z4, Z4, Z4, Z4, Z4, Z4, Z4] rfl rfl (any_of HT_.out (by kernel_rfl)) (fun _ _ _ h => h) (Or.inl ⟨by rfl, ?_⟩) ?_ ?_
            rotate_left
            ·intro w'
             go_simp
             with_reducible rfl
            rotate_left
            ·simp only [Act.put, List.setIfInBounds_toArray, List.set_cons_zero, List.set_cons_succ, i64_w, i32_w]
             rfl
            refine pure_ (i := 1) (N := some 17) (v := ?_) (a' := ?_) #[Y4, Y4, Z4, Z4, Z4, Z4, Z4, Z4, Z4, Z4, Z4, Z4, Z4, Z4, Z4, Z4, Z4, Z4, Z4, Z4, Z4, Z4, Z4, Z4, Z4, Z4, Z4, Z4, Z4, Z4, Z4, Z4, Z4, Z4, Z4, Z4, Z4, Z4, Z4, Z4, Z4, Z4, Z4, Z4, Z4, Z4, Z4, Z4, Z4, Z4, Z4] rfl rfl (any_of HT_.out (by kernel_rfl)) (fun _ _ _ h => h) (Or.inl ⟨by rfl, ?_⟩) ?_ ?_
            rotate_left
            ·intro w'
             go_simp
             with_reducible rfl
            rotate_left
            ·simp only [Act.put, List.setIfInBounds_toArray, List.set_cons_zero, List.set_cons_succ, i64_w, i32_w]
             rfl
            refine pure_ (i := 2) (N := some 18) (v := ?_) (a' := ?_) #[Y4, Y4, Y4, Z4, Z4, Z4, Z4, Z4, Z4, Z4, Z4, Z4, Z4, Z4, Z4, Z4, Z4, Z4, Z4, Z4, Z4, Z4, Z4, Z4, Z4, Z4, Z4, Z4, Z4, Z4, Z4, Z4, Z4, Z4, Z4, Z4, Z4, Z4, Z4, Z4, Z4, Z4, Z4, Z4, Z4, Z4, Z4, Z4, Z4, Z4, Z4] rfl rfl (any_of HT_.out (by kernel_rfl)) (fun _ _ _ h => h) (Or.inl ⟨by rfl, ?_⟩) ?_ ?_
            rotate_left
            ·intro w'
             go_simp
             with_reducible rfl
            rotate_left
            ·simp only [Act.put, List.setIfInBounds_toArray, List.set_cons_zero, List.set_cons_succ, i64_w, i32_w]
             rfl
            refine pure_ (i := 3) (N := some 19) (v := ?_) (a' := ?_) #[Y4, Y4, Y4, Y4, Z4, Z4, Z4, Z4, Z4, Z4, Z4, Z4, Z4, Z4, Z4, Z4, Z4, Z4, Z4, Z4, Z4, Z4, Z4, Z4, Z4, Z4, Z4, Z4, Z4, Z4, Z4, Z4, Z4, Z4, Z4, Z4, Z4, Z4, Z4, Z4, Z4, Z4, Z4, Z4, Z4, Z4, Z4, Z4, Z4, Z4, Z4] rfl rfl (any_of HT_.out (by kernel_rfl)) (fun _ _ _ h => h) (Or.inl ⟨by rfl, ?_⟩) ?_ ?_
            rotate_left
            ·intro w'
             go_simp
             with_reducible rfl
            rotate_left
            ·simp only [Act.put, List.setIfInBounds_toArray, List.set_cons_zero, List.set_cons_succ, i64_w, i32_w]
             rfl
            refine pure_ (i := 5) (N := some 21) (v := ?_) (a' := ?_) #[Y4, Y4, Y4, Y4, Z4, Y4, Z4, Z4, Z4, Z4, Z4, Z4, Z4, Z4, Z4, Z4, Z4, Z4, Z4, Z4, Z4, Z4, Z4, Z4, Z4, Z4, Z4, Z4, Z4, Z4, Z4, Z4, Z4, Z4, Z4, Z4, Z4, Z4, Z4, Z4, Z4, Z4, Z4, Z4, Z4, Z4, Z4, Z4, Z4, Z4, Z4] rfl rfl (any_of HT_.out (by kernel_rfl)) (fun _ _ _ h => h) (Or.inl ⟨by rfl, ?_⟩) ?_ ?_
            rotate_left
            ·intro w'
             go_simp
             with_reducible rfl
            rotate_left
            ·simp only [Act.put, List.setIfInBounds_toArray, List.set_cons_zero, List.set_cons_succ, i64_w, i32_w]
             rfl
            refine pure_ (i := 6) (N := some 22) (v := ?_) (a' := ?_) #[Y4, Y4, Y4, Y4, Z4, Y4, Y4, Z4, Z4, Z4, Z4, Z4, Z4, Z4, Z4, Z4, Z4, Z4, Z4, Z4, Z4, Z4, Z4, Z4, Z4, Z4, Z4, Z4, Z4, Z4, Z4, Z4, Z4, Z4, Z4, Z4, Z4, Z4, Z4, Z4, Z4, Z4, Z4, Z4, Z4, Z4, Z4, Z4, Z4, Z4, Z4] rfl rfl (any_of HT_.out (by kernel_rfl)) (fun _ _ _ h => h) (Or.inl ⟨by rfl, ?_⟩) ?_ ?_
            rotate_left
            ·intro w'
             go_simp
             with_reducible rfl
            rotate_left
            ·simp only [Act.put, List.setIfInBounds_toArray, List.set_cons_zero, List.set_cons_succ, i64_w, i32_w]
             rfl
            refine pure_ (i := 7) (N := some 23) (v := ?_) (a' := ?_) #[Y4, Y4, Y4, Y4, Z4, Y4, Y4, Y4, Z4, Z4, Z4, Z4, Z4, Z4, Z4, Z4, Z4, Z4, Z4, Z4, Z4, Z4, Z4, Z4, Z4, Z4, Z4, Z4, Z4, Z4, Z4, Z4, Z4, Z4, Z4, Z4, Z4, Z4, Z4, Z4, Z4, Z4, Z4, Z4, Z4, Z4, Z4, Z4, Z4, Z4, Z4] rfl rfl (any_of HT_.out (by kernel_rfl)) (fun _ _ _ h => h) (Or.inl ⟨by rfl, ?_⟩) ?_ ?_
            rotate_left
            ·intro w'
             go_simp
             with_reducible rfl
            rotate_left
            ·simp only [Act.put, List.setIfInBounds_toArray, List.set_cons_zero, List.set_cons_succ, i64_w, i32_w]
             rfl
            refine pure_ (i := 8) (N := some 24) (v := ?_) (a' := ?_) #[Y4, Y4, Y4, Y4, Z4, Y4, Y4, Y4, Y4, Z4, Z4, Z4, Z4, Z4, Z4, Z4, Z4, Z4, Z4, Z4, Z4, Z4, Z4, Z4, Z4, Z4, Z4, Z4, Z4, Z4, Z4, Z4, Z4, Z4, Z4, Z4, Z4, Z4, Z4, Z4, Z4, Z4, Z4, Z4, Z4, Z4, Z4, Z4, Z4, Z4, Z4] rfl rfl (any_of HT_.out (by kernel_rfl)) (fun _ _ _ h => h) (Or.inl ⟨by rfl, ?_⟩) ?_ ?_
            rotate_left
            ·intro w'
             go_simp
             with_reducible rfl
            rotate_left
            ·simp only [Act.put, List.setIfInBounds_toArray, List.set_cons_zero, List.set_cons_succ, i64_w, i32_w]
             rfl
            refine take_ (i := 4) (N := some 20) (v := ?_) (a' := ?_) #[Y4, Y4, Y4, Y4, Y4, Y4, Y4, Y4, Y4, Z4, Z4, Z4, Z4, Z4, Z4, Z4, Z4, Z4, Z4, Z4, Z4, Z4, Z4, Z4, Z4, Z4, Z4, Z4, Z4, Z4, Z4, Z4, Z4, Z4, Z4, Z4, Z4, Z4, Z4, Z4, Z4, Z4, Z4, Z4, Z4, Z4, Z4, Z4, Z4, Z4, Z4] rfl rfl (take_ofW HT_.out HW_.out (by kernel_rfl)) (fun _ _ _ h => h) (Or.inl ⟨by rfl, ?_⟩) hHeld ?_ ?_
            rotate_left
            ·rintro w' ⟨s0, s1, s2, s3, s4, s5, s6, s7, s8, s9, s10, s11, s12, s13, s14, s15, s16, s17, s18, s19, s20, s21, s22, s23, s24, s25, s26, s27, s28, s29, s30, s31⟩
             go_simp
             with_reducible rfl
            rotate_left
            ·simp only [Act.put, List.setIfInBounds_toArray, List.set_cons_zero, List.set_cons_succ, i64_w, i32_w]
             rfl
            refine take_ (i := 9) (N := some 25) (v := ?_) (a' := ?_) #[Y4, Y4, Y4, Y4, Y4, Y4, Y4, Y4, Y4, Y4, Z4, Z4, Z4, Z4, Z4, Z4, Z4, Z4, Z4, Z4, Z4, Z4, Z4, Z4, Z4, Z4, Z4, Z4, Z4, Z4, Z4, Z4, Z4, Z4, Z4, Z4, Z4, Z4, Z4, Z4, Z4, Z4, Z4, Z4, Z4, Z4, Z4, Z4, Z4, Z4, Z4] rfl rfl (take_ofW HT_.out HW_.out (by kernel_rfl)) (fun _ _ _ h => h) (Or.inl ⟨by rfl, ?_⟩) hHeld ?_ ?_
            rotate_left
            ·rintro w' ⟨s0, s1, s2, s3, s4, s5, s6, s7, s8, s9, s10, s11, s12, s13, s14, s15, s16, s17, s18, s19, s20, s21, s22, s23, s24, s25, s26, s27, s28, s29, s30, s31⟩
             go_simp
             with_reducible rfl
            rotate_left
            ·simp only [Act.put, List.setIfInBounds_toArray, List.set_cons_zero, List.set_cons_succ, i64_w, i32_w]
             rfl
            refine pure_ (i := 10) (N := some 26) (v := ?_) (a' := ?_) #[Y4, Y4, Y4, Y4, Y4, Y4, Y4, Y4, Y4, Y4, Y4, Z4, Z4, Z4, Z4, Z4, Z4, Z4, Z4, Z4, Z4, Z4, Z4, Z4, Z4, Z4, Z4, Z4, Z4, Z4, Z4, Z4, Z4, Z4, Z4, Z4, Z4, Z4, Z4, Z4, Z4, Z4, Z4, Z4, Z4, Z4, Z4, Z4, Z4, Z4, Z4] rfl rfl (any_of HT_.out (by kernel_rfl)) (fun _ _ _ h => h) (Or.inl ⟨by rfl, ?_⟩) ?_ ?_
            rotate_left
            ·intro w'
             go_simp
             with_reducible rfl
            rotate_left
            ·simp only [Act.put, List.setIfInBounds_toArray, List.set_cons_zero, List.set_cons_succ, i64_w, i32_w]
             rfl
            refine pure_ (i := 11) (N := some 27) (v := ?_) (a' := ?_) #[Y4, Y4, Y4, Y4, Y4, Y4, Y4, Y4, Y4, Y4, Y4, Y4, Z4, Z4, Z4, Z4, Z4, Z4, Z4, Z4, Z4, Z4, Z4, Z4, Z4, Z4, Z4, Z4, Z4, Z4, Z4, Z4, Z4, Z4, Z4, Z4, Z4, Z4, Z4, Z4, Z4, Z4, Z4, Z4, Z4, Z4, Z4, Z4, Z4, Z4, Z4] rfl rfl (any_of HT_.out (by kernel_rfl)) (fun _ _ _ h => h) (Or.inl ⟨by rfl, ?_⟩) ?_ ?_
            rotate_left
            ·intro w'
             go_simp
             with_reducible rfl
            rotate_left
            ·simp only [Act.put, List.setIfInBounds_toArray, List.set_cons_zero, List.set_cons_succ, i64_w, i32_w]
             rfl
            refine pure_ (i := 12) (N := some 28) (v := ?_) (a' := ?_) #[Y4, Y4, Y4, Y4, Y4, Y4, Y4, Y4, Y4, Y4, Y4, Y4, Y4, Z4, Z4, Z4, Z4, Z4, Z4, Z4, Z4, Z4, Z4, Z4, Z4, Z4, Z4, Z4, Z4, Z4, Z4, Z4, Z4, Z4, Z4, Z4, Z4, Z4, Z4, Z4, Z4, Z4, Z4, Z4, Z4, Z4, Z4, Z4, Z4, Z4, Z4] rfl rfl (any_of HT_.out (by kernel_rfl)) (fun _ _ _ h => h) (Or.inl ⟨by rfl, ?_⟩) ?_ ?_
            rotate_left
            ·intro w'
             go_simp
             with_reducible rfl
            rotate_left
            ·simp only [Act.put, List.setIfInBounds_toArray, List.set_cons_zero, List.set_cons_succ, i64_w, i32_w]
             rfl
            refine pure_ (i := 13) (N := some 29) (v := ?_) (a' := ?_) #[Y4, Y4, Y4, Y4, Y4, Y4, Y4, Y4, Y4, Y4, Y4, Y4, Y4, Y4, Z4, Z4, Z4, Z4, Z4, Z4, Z4, Z4, Z4, Z4, Z4, Z4, Z4, Z4, Z4, Z4, Z4, Z4, Z4, Z4, Z4, Z4, Z4, Z4, Z4, Z4, Z4, Z4, Z4, Z4, Z4, Z4, Z4, Z4, Z4, Z4, Z4] rfl rfl (any_of HT_.out (by kernel_rfl)) (fun _ _ _ h => h) (Or.inl ⟨by rfl, ?_⟩) ?_ ?_
            rotate_left
            ·intro w'
             go_simp
             with_reducible rfl
            rotate_left
            ·simp only [Act.put, List.setIfInBounds_toArray, List.set_cons_zero, List.set_cons_succ, i64_w, i32_w]
             rfl
            refine pure_ (i := 14) (N := some 30) (v := ?_) (a' := ?_) #[Y4, Y4, Y4, Y4, Y4, Y4, Y4, Y4, Y4, Y4, Y4, Y4, Y4, Y4, Y4, Z4, Z4, Z4, Z4, Z4, Z4, Z4, Z4, Z4, Z4, Z4, Z4, Z4, Z4, Z4, Z4, Z4, Z4, Z4, Z4, Z4, Z4, Z4, Z4, Z4, Z4, Z4, Z4, Z4, Z4, Z4, Z4, Z4, Z4, Z4, Z4] rfl rfl (any_of HT_.out (by kernel_rfl)) (fun _ _ _ h => h) (Or.inl ⟨by rfl, ?_⟩) ?_ ?_
            rotate_left
            ·intro w'
             go_simp
             with_reducible rfl
            rotate_left
            ·simp only [Act.put, List.setIfInBounds_toArray, List.set_cons_zero, List.set_cons_succ, i64_w, i32_w]
             rfl
            refine pure_ (i := 15) (N := some 31) (v := ?_) (a' := ?_) #[Y4, Y4, Y4, Y4, Y4, Y4, Y4, Y4, Y4, Y4, Y4, Y4, Y4, Y4, Y4, Y4, Z4, Z4, Z4, Z4, Z4, Z4, Z4, Z4, Z4, Z4, Z4, Z4, Z4, Z4, Z4, Z4, Z4, Z4, Z4, Z4, Z4, Z4, Z4, Z4, Z4, Z4, Z4, Z4, Z4, Z4, Z4, Z4, Z4, Z4, Z4] rfl rfl (any_of HT_.out (by kernel_rfl)) (fun _ _ _ h => h) (Or.inl ⟨by rfl, ?_⟩) ?_ ?_
            rotate_left
            ·intro w'
             go_simp
             with_reducible rfl
            rotate_left
            ·simp only [Act.put, List.setIfInBounds_toArray, List.set_cons_zero, List.set_cons_succ, i64_w, i32_w]
             rfl
            refine pure_ (i := 17) (N := some 33) (v := ?_) (a' := ?_) #[Y4, Y4, Y4, Y4, Y4, Y4, Y4, Y4, Y4, Y4, Y4, Y4, Y4, Y4, Y4, Y4, Z4, Y4, Z4, Z4, Z4, Z4, Z4, Z4, Z4, Z4, Z4, Z4, Z4, Z4, Z4, Z4, Z4, Z4, Z4, Z4, Z4, Z4, Z4, Z4, Z4, Z4, Z4, Z4, Z4, Z4, Z4, Z4, Z4, Z4, Z4] rfl rfl (any_of HT_.out (by kernel_rfl)) (fun _ _ _ h => h) (Or.inl ⟨by rfl, ?_⟩) ?_ ?_
            rotate_left
            ·intro w'
             go_simp
             with_reducible rfl
            rotate_left
            ·simp only [Act.put, List.setIfInBounds_toArray, List.set_cons_zero, List.set_cons_succ, i64_w, i32_w]
             rfl
            refine pure_ (i := 18) (N := some 34) (v := ?_) (a' := ?_) #[Y4, Y4, Y4, Y4, Y4, Y4, Y4, Y4, Y4, Y4, Y4, Y4, Y4, Y4, Y4, Y4, Z4, Y4, Y4, Z4, Z4, Z4, Z4, Z4, Z4, Z4, Z4, Z4, Z4, Z4, Z4, Z4, Z4, Z4, Z4, Z4, Z4, Z4, Z4, Z4, Z4, Z4, Z4, Z4, Z4, Z4, Z4, Z4, Z4, Z4, Z4] rfl rfl (any_of HT_.out (by kernel_rfl)) (fun _ _ _ h => h) (Or.inl ⟨by rfl, ?_⟩) ?_ ?_
            rotate_left
            ·intro w'
             go_simp
             with_reducible rfl
            rotate_left
            ·simp only [Act.put, List.setIfInBounds_toArray, List.set_cons_zero, List.set_cons_succ, i64_w, i32_w]
             rfl
            refine pure_ (i := 19) (N := some 35) (v := ?_) (a' := ?_) #[Y4, Y4, Y4, Y4, Y4, Y4, Y4, Y4, Y4, Y4, Y4, Y4, Y4, Y4, Y4, Y4, Z4, Y4, Y4, Y4, Z4, Z4, Z4, Z4, Z4, Z4, Z4, Z4, Z4, Z4, Z4, Z4, Z4, Z4, Z4, Z4, Z4, Z4, Z4, Z4, Z4, Z4, Z4, Z4, Z4, Z4, Z4, Z4, Z4, Z4, Z4] rfl rfl (any_of HT_.out (by kernel_rfl)) (fun _ _ _ h => h) (Or.inl ⟨by rfl, ?_⟩) ?_ ?_
            rotate_left
            ·intro w'
             go_simp
             with_reducible rfl
            rotate_left
            ·simp only [Act.put, List.setIfInBounds_toArray, List.set_cons_zero, List.set_cons_succ, i64_w, i32_w]
             rfl
            refine pure_ (i := 20) (N := some 36) (v := ?_) (a' := ?_) #[Y4, Y4, Y4, Y4, Y4, Y4, Y4, Y4, Y4, Y4, Y4, Y4, Y4, Y4, Y4, Y4, Z4, Y4, Y4, Y4, Y4, Z4, Z4, Z4, Z4, Z4, Z4, Z4, Z4, Z4, Z4, Z4, Z4, Z4, Z4, Z4, Z4, Z4, Z4, Z4, Z4, Z4, Z4, Z4, Z4, Z4, Z4, Z4, Z4, Z4, Z4] rfl rfl (any_of HT_.out (by kernel_rfl)) (fun _ _ _ h => h) (Or.inl ⟨by rfl, ?_⟩) ?_ ?_
            rotate_left
            ·intro w'
             go_simp
             with_reducible rfl
            rotate_left
            ·simp only [Act.put, List.setIfInBounds_toArray, List.set_cons_zero, List.set_cons_succ, i64_w, i32_w]
             rfl
            refine take_ (i := 16) (N := some 32) (v := ?_) (a' := ?_) #[Y4, Y4, Y4, Y4, Y4, Y4, Y4, Y4, Y4, Y4, Y4, Y4, Y4, Y4, Y4, Y4, Y4, Y4, Y4, Y4, Y4, Z4, Z4, Z4, Z4, Z4, Z4, Z4, Z4, Z4, Z4, Z4, Z4, Z4, Z4, Z4, Z4, Z4, Z4, Z4, Z4, Z4, Z4, Z4, Z4, Z4, Z4, Z4, Z4, Z4, Z4] rfl rfl (take_ofW HT_.out HW_.out (by kernel_rfl)) (fun _ _ _ h => h) (Or.inl ⟨by rfl, ?_⟩) hHeld ?_ ?_
            rotate_left
            ·rintro w' ⟨s0, s1, s2, s3, s4, s5, s6, s7, s8, s9, s10, s11, s12, s13, s14, s15, s16, s17, s18, s19, s20, s21, s22, s23, s24, s25, s26, s27, s28, s29, s30, s31⟩
             go_simp
             with_reducible rfl
            rotate_left
            ·simp only [Act.put, List.setIfInBounds_toArray, List.set_cons_zero, List.set_cons_succ, i64_w, i32_w]
             rfl
            refine take_ (i := 21) (N := some 37) (v := ?_) (a' := ?_) #[Y4, Y4, Y4, Y4, Y4, Y4, Y4, Y4, Y4, Y4, Y4, Y4, Y4, Y4, Y4, Y4, Y4, Y4, Y4, Y4, Y4, Y4, Z4, Z4, Z4, Z4, Z4, Z4, Z4, Z4, Z4, Z4, Z4, Z4, Z4, Z4, Z4, Z4, Z4, Z4, Z4, Z4, Z4, Z4, Z4, Z4, Z4, Z4, Z4, Z4, Z4] rfl rfl (take_ofW HT_.out HW_.out (by kernel_rfl)) (fun _ _ _ h => h) (Or.inl ⟨by rfl, ?_⟩) hHeld ?_ ?_
            rotate_left
            ·rintro w' ⟨s0, s1, s2, s3, s4, s5, s6, s7, s8, s9, s10, s11, s12, s13, s14, s15, s16, s17, s18, s19, s20, s21, s22, s23, s24, s25, s26, s27, s28, s29, s30, s31⟩
             go_simp
             with_reducible rfl
            rotate_left
            ·simp only [Act.put, List.setIfInBounds_toArray, List.set_cons_zero, List.set_cons_succ, i64_w, i32_w]
             rfl
            refine pure_ (i := 22) (N := some 38) (v := ?_) (a' := ?_) #[Y4, Y4, Y4, Y4, Y4, Y4, Y4, Y4, Y4, Y4, Y4, Y4, Y4, Y4, Y4, Y4, Y4, Y4, Y4, Y4, Y4, Y4, Y4, Z4, Z4, Z4, Z4, Z4, Z4, Z4, Z4, Z4, Z4, Z4, Z4, Z4, Z4, Z4, Z4, Z4, Z4, Z4, Z4, Z4, Z4, Z4, Z4, Z4, Z4, Z4, Z4] rfl rfl (any_of HT_.out (by kernel_rfl)) (fun _ _ _ h => h) (Or.inl ⟨by rfl, ?_⟩) ?_ ?_
            rotate_left
            ·intro w'
             go_simp
             with_reducible rfl
            rotate_left
            ·simp only [Act.put, List.setIfInBounds_toArray, List.set_cons_zero, List.set_cons_succ, i64_w, i32_w]
             rfl
            refine pure_ (i := 23) (N := some 39) (v := ?_) (a' := ?_) #[Y4, Y4, Y4, Y4, Y4, Y4, Y4, Y4, Y4, Y4, Y4, Y4, Y4, Y4, Y4, Y4, Y4, Y4, Y4, Y4, Y4, Y4, Y4, Y4, Z4, Z4, Z4, Z4, Z4, Z4, Z4, Z4, Z4, Z4, Z4, Z4, Z4, Z4, Z4, Z4, Z4, Z4, Z4, Z4, Z4, Z4, Z4, Z4, Z4, Z4, Z4] rfl rfl (any_of HT_.out (by kernel_rfl)) (fun _ _ _ h => h) (Or.inl ⟨by rfl, ?_⟩) ?_ ?_
            rotate_left
            ·intro w'
             go_simp
             with_reducible rfl
            rotate_left
            ·simp only [Act.put, List.setIfInBounds_toArray, List.set_cons_zero, List.set_cons_succ, i64_w, i32_w]
             rfl
            refine pure_ (i := 24) (N := some 40) (v := ?_) (a' := ?_) #[Y4, Y4, Y4, Y4, Y4, Y4, Y4, Y4, Y4, Y4, Y4, Y4, Y4, Y4, Y4, Y4, Y4, Y4, Y4, Y4, Y4, Y4, Y4, Y4, Y4, Z4, Z4, Z4, Z4, Z4, Z4, Z4, Z4, Z4, Z4, Z4, Z4, Z4, Z4, Z4, Z4, Z4, Z4, Z4, Z4, Z4, Z4, Z4, Z4, Z4, Z4] rfl rfl (any_of HT_.out (by kernel_rfl)) (fun _ _ _ h => h) (Or.inl ⟨by rfl, ?_⟩) ?_ ?_
            rotate_left
            ·intro w'
             go_simp
             with_reducible rfl
            rotate_left
            ·simp only [Act.put, List.setIfInBounds_toArray, List.set_cons_zero, List.set_cons_succ, i64_w, i32_w]
             rfl
            refine pure_ (i := 25) (N := some 41) (v := ?_) (a' := ?_) #[Y4, Y4, Y4, Y4, Y4, Y4, Y4, Y4, Y4, Y4, Y4, Y4, Y4, Y4, Y4, Y4, Y4, Y4, Y4, Y4, Y4, Y4, Y4, Y4, Y4, Y4, Z4, Z4, Z4, Z4, Z4, Z4, Z4, Z4, Z4, Z4, Z4, Z4, Z4, Z4, Z4, Z4, Z4, Z4, Z4, Z4, Z4, Z4, Z4, Z4, Z4] rfl rfl (any_of HT_.out (by kernel_rfl)) (fun _ _ _ h => h) (Or.inl ⟨by rfl, ?_⟩) ?_ ?_
            rotate_left
            ·intro w'
             go_simp
             with_reducible rfl
            rotate_left
            ·simp only [Act.put, List.setIfInBounds_toArray, List.set_cons_zero, List.set_cons_succ, i64_w, i32_w]
             rfl
            refine pure_ (i := 26) (N := some 42) (v := ?_) (a' := ?_) #[Y4, Y4, Y4, Y4, Y4, Y4, Y4, Y4, Y4, Y4, Y4, Y4, Y4, Y4, Y4, Y4, Y4, Y4, Y4, Y4, Y4, Y4, Y4, Y4, Y4, Y4, Y4, Z4, Z4, Z4, Z4, Z4, Z4, Z4, Z4, Z4, Z4, Z4, Z4, Z4, Z4, Z4, Z4, Z4, Z4, Z4, Z4, Z4, Z4, Z4, Z4] rfl rfl (any_of HT_.out (by kernel_rfl)) (fun _ _ _ h => h) (Or.inl ⟨by rfl, ?_⟩) ?_ ?_
            rotate_left
            ·intro w'
             go_simp
             with_reducible rfl
            rotate_left
            ·simp only [Act.put, List.setIfInBounds_toArray, List.set_cons_zero, List.set_cons_succ, i64_w, i32_w]
             rfl
            refine pure_ (i := 27) (N := some 43) (v := ?_) (a' := ?_) #[Y4, Y4, Y4, Y4, Y4, Y4, Y4, Y4, Y4, Y4, Y4, Y4, Y4, Y4, Y4, Y4, Y4, Y4, Y4, Y4, Y4, Y4, Y4, Y4, Y4, Y4, Y4, Y4, Z4, Z4, Z4, Z4, Z4, Z4, Z4, Z4, Z4, Z4, Z4, Z4, Z4, Z4, Z4, Z4, Z4, Z4, Z4, Z4, Z4, Z4, Z4] rfl rfl (any_of HT_.out (by kernel_rfl)) (fun _ _ _ h => h) (Or.inl ⟨by rfl, ?_⟩) ?_ ?_
            rotate_left
            ·intro w'
             go_simp
             with_reducible rfl
            rotate_left
            ·simp only [Act.put, List.setIfInBounds_toArray, List.set_cons_zero, List.set_cons_succ, i64_w, i32_w]
             rfl
            refine pure_ (i := 28) (N := some 44) (v := ?_) (a' := ?_) #[Y4, Y4, Y4, Y4, Y4, Y4, Y4, Y4, Y4, Y4, Y4, Y4, Y4, Y4, Y4, Y4, Y4, Y4, Y4, Y4, Y4, Y4, Y4, Y4, Y4, Y4, Y4, Y4, Y4, Z4, Z4, Z4, Z4, Z4, Z4, Z4, Z4, Z4, Z4, Z4, Z4, Z4, Z4, Z4, Z4, Z4, Z4, Z4, Z4, Z4, Z4] rfl rfl (any_of HT_.out (by kernel_rfl)) (fun _ _ _ h => h) (Or.inl ⟨by rfl, ?_⟩) ?_ ?_
            rotate_left
            ·intro w'
             go_simp
             with_reducible rfl
            rotate_left
            ·simp only [Act.put, List.setIfInBounds_toArray, List.set_cons_zero, List.set_cons_succ, i64_w, i32_w]
             rfl
            refine pure_ (i := 30) (N := some 46) (v := ?_) (a' := ?_) #[Y4, Y4, Y4, Y4, Y4, Y4, Y4, Y4, Y4, Y4, Y4, Y4, Y4, Y4, Y4, Y4, Y4, Y4, Y4, Y4, Y4, Y4, Y4, Y4, Y4, Y4, Y4, Y4, Y4, Z4, Y4, Z4, Z4, Z4, Z4, Z4, Z4, Z4, Z4, Z4, Z4, Z4, Z4, Z4, Z4, Z4, Z4, Z4, Z4, Z4, Z4] rfl rfl (any_of HT_.out (by kernel_rfl)) (fun _ _ _ h => h) (Or.inl ⟨by rfl, ?_⟩) ?_ ?_
            rotate_left
            ·intro w'
             go_simp
             with_reducible rfl
            rotate_left
            ·simp only [Act.put, List.setIfInBounds_toArray, List.set_cons_zero, List.set_cons_succ, i64_w, i32_w]
             rfl
            refine pure_ (i := 31) (N := some 47) (v := ?_) (a' := ?_) #[Y4, Y4, Y4, Y4, Y4, Y4, Y4, Y4, Y4, Y4, Y4, Y4, Y4, Y4, Y4, Y4, Y4, Y4, Y4, Y4, Y4, Y4, Y4, Y4, Y4, Y4, Y4, Y4, Y4, Z4, Y4, Y4, Z4, Z4, Z4, Z4, Z4, Z4, Z4, Z4, Z4, Z4, Z4, Z4, Z4, Z4, Z4, Z4, Z4, Z4, Z4] rfl rfl (any_of HT_.out (by kernel_rfl)) (fun _ _ _ h => h) (Or.inl ⟨by rfl, ?_⟩) ?_ ?_
            rotate_left
            ·intro w'
             go_simp
             with_reducible rfl
            rotate_left
            ·simp only [Act.put, List.setIfInBounds_toArray, List.set_cons_zero, List.set_cons_succ, i64_w, i32_w]
             rfl
            refine pure_ (i := 32) (N := some 48) (v := ?_) (a' := ?_) #[Y4, Y4, Y4, Y4, Y4, Y4, Y4, Y4, Y4, Y4, Y4, Y4, Y4, Y4, Y4, Y4, Y4, Y4, Y4, Y4, Y4, Y4, Y4, Y4, Y4, Y4, Y4, Y4, Y4, Z4, Y4, Y4, Y4, Z4, Z4, Z4, Z4, Z4, Z4, Z4, Z4, Z4, Z4, Z4, Z4, Z4, Z4, Z4, Z4, Z4, Z4] rfl rfl (any_of HT_.out (by kernel_rfl)) (fun _ _ _ h => h) (Or.inl ⟨by rfl, ?_⟩) ?_ ?_
            rotate_left
            ·intro w'
             go_simp
             with_reducible rfl
            rotate_left
            ·simp only [Act.put, List.setIfInBounds_toArray, List.set_cons_zero, List.set_cons_succ, i64_w, i32_w]
             rfl
            refine pure_ (i := 33) (N := some 49) (v := ?_) (a' := ?_) #[Y4, Y4, Y4, Y4, Y4, Y4, Y4, Y4, Y4, Y4, Y4, Y4, Y4, Y4, Y4, Y4, Y4, Y4, Y4, Y4, Y4, Y4, Y4, Y4, Y4, Y4, Y4, Y4, Y4, Z4, Y4, Y4, Y4, Y4, Z4, Z4, Z4, Z4, Z4, Z4, Z4, Z4, Z4, Z4, Z4, Z4, Z4, Z4, Z4, Z4, Z4] rfl rfl (any_of HT_.out (by kernel_rfl)) (fun _ _ _ h => h) (Or.inl ⟨by rfl, ?_⟩) ?_ ?_
            rotate_left
            ·intro w'
             go_simp
             with_reducible rfl
            rotate_left
            ·simp only [Act.put, List.setIfInBounds_toArray, List.set_cons_zero, List.set_cons_succ, i64_w, i32_w]
             rfl
            refine take_ (i := 29) (N := some 45) (v := ?_) (a' := ?_) #[Y4, Y4, Y4, Y4, Y4, Y4, Y4, Y4, Y4, Y4, Y4, Y4, Y4, Y4, Y4, Y4, Y4, Y4, Y4, Y4, Y4, Y4, Y4, Y4, Y4, Y4, Y4, Y4, Y4, Y4, Y4, Y4, Y4, Y4, Z4, Z4, Z4, Z4, Z4, Z4, Z4, Z4, Z4, Z4, Z4, Z4, Z4, Z4, Z4, Z4, Z4] rfl rfl (take_ofW HT_.out HW_.out (by kernel_rfl)) (fun _ _ _ h => h) (Or.inl ⟨by rfl, ?_⟩) hHeld ?_ ?_
            rotate_left
            ·rintro w' ⟨s0, s1, s2, s3, s4, s5, s6, s7, s8, s9, s10, s11, s12, s13, s14, s15, s16, s17, s18, s19, s20, s21, s22, s23, s24, s25, s26, s27, s28, s29, s30, s31⟩
             go_simp
             with_reducible rfl
            rotate_left
            ·simp only [Act.put, List.setIfInBounds_toArray, List.set_cons_zero, List.set_cons_succ, i64_w, i32_w]
             rfl
            refine take_ (i := 34) (N := some 50) (v := ?_) (a' := ?_) #[Y4, Y4, Y4, Y4, Y4, Y4, Y4, Y4, Y4, Y4, Y4, Y4, Y4, Y4, Y4, Y4, Y4, Y4, Y4, Y4, Y4, Y4, Y4, Y4, Y4, Y4, Y4, Y4, Y4, Y4, Y4, Y4, Y4, Y4, Y4, Z4, Z4, Z4, Z4, Z4, Z4, Z4, Z4, Z4, Z4, Z4, Z4, Z4, Z4, Z4, Z4] rfl rfl (take_ofW HT_.out HW_.out (by kernel_rfl)) (fun _ _ _ h => h) (Or.inl ⟨by rfl, ?_⟩) hHeld ?_ ?_
            rotate_left
            ·rintro w' ⟨s0, s1, s2, s3, s4, s5, s6, s7, s8, s9, s10, s11, s12, s13, s14, s15, s16, s17, s18, s19, s20, s21, s22, s23, s24, s25, s26, s27, s28, s29, s30, s31⟩
             go_simp
             with_reducible rfl
            rotate_left
            ·simp only [Act.put, List.setIfInBounds_toArray, List.set_cons_zero, List.set_cons_succ, i64_w, i32_w]
             rfl
            refine pure_ (i := 35) (N := some 51) (v := ?_) (a' := ?_) #[Y4, Y4, Y4, Y4, Y4, Y4, Y4, Y4, Y4, Y4, Y4, Y4, Y4, Y4, Y4, Y4, Y4, Y4, Y4, Y4, Y4, Y4, Y4, Y4, Y4, Y4, Y4, Y4, Y4, Y4, Y4, Y4, Y4, Y4, Y4, Y4, Z4, Z4, Z4, Z4, Z4, Z4, Z4, Z4, Z4, Z4, Z4, Z4, Z4, Z4, Z4] rfl rfl (any_of HT_.out (by kernel_rfl)) (fun _ _ _ h => h) (Or.inl ⟨by rfl, ?_⟩) ?_ ?_
            rotate_left
            ·intro w'
             go_simp
             with_reducible rfl
            rotate_left
            ·simp only [Act.put, List.setIfInBounds_toArray, List.set_cons_zero, List.set_cons_succ, i64_w, i32_w]
             rfl
            refine pure_ (i := 36) (N := some 52) (v := ?_) (a' := ?_) #[Y4, Y4, Y4, Y4, Y4, Y4, Y4, Y4, Y4, Y4, Y4, Y4, Y4, Y4, Y4, Y4, Y4, Y4, Y4, Y4, Y4, Y4, Y4, Y4, Y4, Y4, Y4, Y4, Y4, Y4, Y4, Y4, Y4, Y4, Y4, Y4, Y4, Z4, Z4, Z4, Z4, Z4, Z4, Z4, Z4, Z4, Z4, Z4, Z4, Z4, Z4] rfl rfl (any_of HT_.out (by kernel_rfl)) (fun _ _ _ h => h) (Or.inl ⟨by rfl, ?_⟩) ?_ ?_
            rotate_left
            ·intro w'
             go_simp
             with_reducible rfl
            rotate_left
            ·simp only [Act.put, List.setIfInBounds_toArray, List.set_cons_zero, List.set_cons_succ, i64_w, i32_w]
             rfl
            refine pure_ (i := 37) (N := some 53) (v := ?_) (a' := ?_) #[Y4, Y4, Y4, Y4, Y4, Y4, Y4, Y4, Y4, Y4, Y4, Y4, Y4, Y4, Y4, Y4, Y4, Y4, Y4, Y4, Y4, Y4, Y4, Y4, Y4, Y4, Y4, Y4, Y4, Y4, Y4, Y4, Y4, Y4, Y4, Y4, Y4, Y4, Z4, Z4, Z4, Z4, Z4, Z4, Z4, Z4, Z4, Z4, Z4, Z4, Z4] rfl rfl (any_of HT_.out (by kernel_rfl)) (fun _ _ _ h => h) (Or.inl ⟨by rfl, ?_⟩) ?_ ?_
            rotate_left
            ·intro w'
             go_simp
             with_reducible rfl
            rotate_left
            ·simp only [Act.put, List.setIfInBounds_toArray, List.set_cons_zero, List.set_cons_succ, i64_w, i32_w]
             rfl
            refine pure_ (i := 38) (N := some 54) (v := ?_) (a' := ?_) #[Y4, Y4, Y4, Y4, Y4, Y4, Y4, Y4, Y4, Y4, Y4, Y4, Y4, Y4, Y4, Y4, Y4, Y4, Y4, Y4, Y4, Y4, Y4, Y4, Y4, Y4, Y4, Y4, Y4, Y4, Y4, Y4, Y4, Y4, Y4, Y4, Y4, Y4, Y4, Z4, Z4, Z4, Z4, Z4, Z4, Z4, Z4, Z4, Z4, Z4, Z4] rfl rfl (any_of HT_.out (by kernel_rfl)) (fun _ _ _ h => h) (Or.inl ⟨by rfl, ?_⟩) ?_ ?_
            rotate_left
            ·intro w'
             go_simp
             with_reducible rfl
            rotate_left
            ·simp only [Act.put, List.setIfInBounds_toArray, List.set_cons_zero, List.set_cons_succ, i64_w, i32_w]
             rfl
            refine pure_ (i := 39) (N := some 55) (v := ?_) (a' := ?_) #[Y4, Y4, Y4, Y4, Y4, Y4, Y4, Y4, Y4, Y4, Y4, Y4, Y4, Y4, Y4, Y4, Y4, Y4, Y4, Y4, Y4, Y4, Y4, Y4, Y4, Y4, Y4, Y4, Y4, Y4, Y4, Y4, Y4, Y4, Y4, Y4, Y4, Y4, Y4, Y4, Z4, Z4, Z4, Z4, Z4, Z4, Z4, Z4, Z4, Z4, Z4] rfl rfl (any_of HT_.out (by kernel_rfl)) (fun _ _ _ h => h) (Or.inl ⟨by rfl, ?_⟩) ?_ ?_
            rotate_left
            ·intro w'
             go_simp
             with_reducible rfl
            rotate_left
            ·simp only [Act.put, List.setIfInBounds_toArray, List.set_cons_zero, List.set_cons_succ, i64_w, i32_w]
             rfl
            refine pure_ (i := 40) (N := some 56) (v := ?_) (a' := ?_) #[Y4, Y4, Y4, Y4, Y4, Y4, Y4, Y4, Y4, Y4, Y4, Y4, Y4, Y4, Y4, Y4, Y4, Y4, Y4, Y4, Y4, Y4, Y4, Y4, Y4, Y4, Y4, Y4, Y4, Y4, Y4, Y4, Y4, Y4, Y4, Y4, Y4, Y4, Y4, Y4, Y4, Z4, Z4, Z4, Z4, Z4, Z4, Z4, Z4, Z4, Z4] rfl rfl (any_of HT_.out (by kernel_rfl)) (fun _ _ _ h => h) (Or.inl ⟨by rfl, ?_⟩) ?_ ?_
            rotate_left
            ·intro w'
             go_simp
             with_reducible rfl
            rotate_left
            ·simp only [Act.put, List.setIfInBounds_toArray, List.set_cons_zero, List.set_cons_succ, i64_w, i32_w]
             rfl
            refine pure_ (i := 41) (N := some 57) (v := ?_) (a' := ?_) #[Y4, Y4, Y4, Y4, Y4, Y4, Y4, Y4, Y4, Y4, Y4, Y4, Y4, Y4, Y4, Y4, Y4, Y4, Y4, Y4, Y4, Y4, Y4, Y4, Y4, Y4, Y4, Y4, Y4, Y4, Y4, Y4, Y4, Y4, Y4, Y4, Y4, Y4, Y4, Y4, Y4, Y4, Z4, Z4, Z4, Z4, Z4, Z4, Z4, Z4, Z4] rfl rfl (any_of HT_.out (by kernel_rfl)) (fun _ _ _ h => h) (Or.inl ⟨by rfl, ?_⟩) ?_ ?_
            rotate_left
            ·intro w'
             go_simp
             with_reducible rfl
            rotate_left
            ·simp only [Act.put, List.setIfInBounds_toArray, List.set_cons_zero, List.set_cons_succ, i64_w, i32_w]
             rfl
            refine pure_ (i := 43) (N := some 59) (v := ?_) (a' := ?_) #[Y4, Y4, Y4, Y4, Y4, Y4, Y4, Y4, Y4, Y4, Y4, Y4, Y4, Y4, Y4, Y4, Y4, Y4, Y4, Y4, Y4, Y4, Y4, Y4, Y4, Y4, Y4, Y4, Y4, Y4, Y4, Y4, Y4, Y4, Y4, Y4, Y4, Y4, Y4, Y4, Y4, Y4, Z4, Y4, Z4, Z4, Z4, Z4, Z4, Z4, Z4] rfl rfl (any_of HT_.out (by kernel_rfl)) (fun _ _ _ h => h) (Or.inl ⟨by rfl, ?_⟩) ?_ ?_
            rotate_left
            ·intro w'
             go_simp
             with_reducible rfl
            rotate_left
            ·simp only [Act.put, List.setIfInBounds_toArray, List.set_cons_zero, List.set_cons_succ, i64_w, i32_w]
             rfl
            refine pure_ (i := 44) (N := some 60) (v := ?_) (a' := ?_) #[Y4, Y4, Y4, Y4, Y4, Y4, Y4, Y4, Y4, Y4, Y4, Y4, Y4, Y4, Y4, Y4, Y4, Y4, Y4, Y4, Y4, Y4, Y4, Y4, Y4, Y4, Y4, Y4, Y4, Y4, Y4, Y4, Y4, Y4, Y4, Y4, Y4, Y4, Y4, Y4, Y4, Y4, Z4, Y4, Y4, Z4, Z4, Z4, Z4, Z4, Z4] rfl rfl (any_of HT_.out (by kernel_rfl)) (fun _ _ _ h => h) (Or.inl ⟨by rfl, ?_⟩) ?_ ?_
            rotate_left
            ·intro w'
             go_simp
             with_reducible rfl
            rotate_left
            ·simp only [Act.put, List.setIfInBounds_toArray, List.set_cons_zero, List.set_cons_succ, i64_w, i32_w]
             rfl
            refine pure_ (i := 45) (N := some 61) (v := ?_) (a' := ?_) #[Y4, Y4, Y4, Y4, Y4, Y4, Y4, Y4, Y4, Y4, Y4, Y4, Y4, Y4, Y4, Y4, Y4, Y4, Y4, Y4, Y4, Y4, Y4, Y4, Y4, Y4, Y4, Y4, Y4, Y4, Y4, Y4, Y4, Y4, Y4, Y4, Y4, Y4, Y4, Y4, Y4, Y4, Z4, Y4, Y4, Y4, Z4, Z4, Z4, Z4, Z4] rfl rfl (any_of HT_.out (by kernel_rfl)) (fun _ _ _ h => h) (Or.inl ⟨by rfl, ?_⟩) ?_ ?_
            rotate_left
            ·intro w'
             go_simp
             with_reducible rfl
            rotate_left
            ·simp only [Act.put, List.setIfInBounds_toArray, List.set_cons_zero, List.set_cons_succ, i64_w, i32_w]
             rfl
            refine pure_ (i := 46) (N := some 62) (v := ?_) (a' := ?_) #[Y4, Y4, Y4, Y4, Y4, Y4, Y4, Y4, Y4, Y4, Y4, Y4, Y4, Y4, Y4, Y4, Y4, Y4, Y4, Y4, Y4, Y4, Y4, Y4, Y4, Y4, Y4, Y4, Y4, Y4, Y4, Y4, Y4, Y4, Y4, Y4, Y4, Y4, Y4, Y4, Y4, Y4, Z4, Y4, Y4, Y4, Y4, Z4, Z4, Z4, Z4] rfl rfl (any_of HT_.out (by kernel_rfl)) (fun _ _ _ h => h) (Or.inl ⟨by rfl, ?_⟩) ?_ ?_
            rotate_left
            ·intro w'
             go_simp
             with_reducible rfl
            rotate_left
            ·simp only [Act.put, List.setIfInBounds_toArray, List.set_cons_zero, List.set_cons_succ, i64_w, i32_w]
             rfl
            refine take_ (i := 42) (N := some 58) (v := ?_) (a' := ?_) #[Y4, Y4, Y4, Y4, Y4, Y4, Y4, Y4, Y4, Y4, Y4, Y4, Y4, Y4, Y4, Y4, Y4, Y4, Y4, Y4, Y4, Y4, Y4, Y4, Y4, Y4, Y4, Y4, Y4, Y4, Y4, Y4, Y4, Y4, Y4, Y4, Y4, Y4, Y4, Y4, Y4, Y4, Y4, Y4, Y4, Y4, Y4, Z4, Z4, Z4, Z4] rfl rfl (take_ofW HT_.out HW_.out (by kernel_rfl)) (fun _ _ _ h => h) (Or.inl ⟨by rfl, ?_⟩) hHeld ?_ ?_
            rotate_left
            ·rintro w' ⟨s0, s1, s2, s3, s4, s5, s6, s7, s8, s9, s10, s11, s12, s13, s14, s15, s16, s17, s18, s19, s20, s21, s22, s23, s24, s25, s26, s27, s28, s29, s30, s31⟩
             go_simp
             with_reducible rfl
            rotate_left
            ·simp only [Act.put, List.setIfInBounds_toArray, List.set_cons_zero, List.set_cons_succ, i64_w, i32_w]
             rfl
            refine take_ (i := 47) (N := some 63) (v := ?_) (a' := ?_) #[Y4, Y4, Y4, Y4, Y4, Y4, Y4, Y4, Y4, Y4, Y4, Y4, Y4, Y4, Y4, Y4, Y4, Y4, Y4, Y4, Y4, Y4, Y4, Y4, Y4, Y4, Y4, Y4, Y4, Y4, Y4, Y4, Y4, Y4, Y4, Y4, Y4, Y4, Y4, Y4, Y4, Y4, Y4, Y4, Y4, Y4, Y4, Y4, Z4, Z4, Z4] rfl rfl (take_ofW HT_.out HW_.out (by kernel_rfl)) (fun _ _ _ h => h) (Or.inl ⟨by rfl, ?_⟩) hHeld ?_ ?_
            rotate_left
            ·rintro w' ⟨s0, s1, s2, s3, s4, s5, s6, s7, s8, s9, s10, s11, s12, s13, s14, s15, s16, s17, s18, s19, s20, s21, s22, s23, s24, s25, s26, s27, s28, s29, s30, s31⟩
             go_simp
             with_reducible rfl
            rotate_left
            ·simp only [Act.put, List.setIfInBounds_toArray, List.set_cons_zero, List.set_cons_succ, i64_w, i32_w]
             rfl
            refine one_ (i := 48) (N := some 64) #[Y4, Y4, Y4, Y4, Y4, Y4, Y4, Y4, Y4, Y4, Y4, Y4, Y4, Y4, Y4, Y4, Y4, Y4, Y4, Y4, Y4, Y4, Y4, Y4, Y4, Y4, Y4, Y4, Y4, Y4, Y4, Y4, Y4, Y4, Y4, Y4, Y4, Y4, Y4, Y4, Y4, Y4, Y4, Y4, Y4, Y4, Y4, Y4, Y4, Z4, Z4] rfl rfl (one_of HT_.out (by kernel_rfl)) (by decide) (fun K hK => ?_)
            refine goes_ Try.func36 (by kernel_rfl) rfl #[.slice A150_2 ((rd_T32 l0 x13_1).f2).length c150_2, .slice A151_2 ((rd_T32 l1 x13_1).f2).length c151_2] (by rfl) rfl rfl (by (try simp only [List.map_toArray, List.map_cons, List.map_nil]); first | done | rfl | (simp only [List.length_drop, List.length_take]; rfl)) ?_
            with_reducible refine (lontarlaw01_Units.calls k1 _ _ ((rd_T32 l0 x13_1).f2) _ _ ((rd_T32 l1 x13_1).f2) false _ ?side1 ?side2 ?side3 ?side4 A11.out).mono ?_
            (case side1 => repeat (first | exact (Kd.C_below HR156_2.out HB.out) | (with_reducible refine Kd.C_alloc ?_ _) | (with_reducible refine Kd.C_drewN ?_ _) | (with_reducible refine Kd.C_drew ?_)))
            (case side2 => exact HC156_2.out)
            (case side3 => repeat (first | exact (Kd.C_below HR157_2.out HB.out) | (with_reducible refine Kd.C_alloc ?_ _) | (with_reducible refine Kd.C_drewN ?_ _) | (with_reducible refine Kd.C_drew ?_)))
            (case side4 => exact HC157_2.out)
            rintro e w' ⟨rfl, ⟨nd, rfl⟩⟩
            refine ⟨_, rfl, ?_⟩
            refine hK.out _ _ ⟨((HB.out.cell (World.block_lt_of_cell? w _ hw150_0)).trans hw150_0), ((HB.out.cell (World.block_lt_of_cell? w _ hw150_1)).trans hw150_1), ((HB.out.cell (World.block_lt_of_cell? w _ hw150_2)).trans hw150_2), ((HB.out.cell (World.block_lt_of_cell? w _ hw150_3)).trans hw150_3), ((HB.out.cell (World.block_lt_of_cell? w _ hw151_0)).trans hw151_0), ((HB.out.cell (World.block_lt_of_cell? w _ hw151_1)).trans hw151_1), ((HB.out.cell (World.block_lt_of_cell? w _ hw151_2)).trans hw151_2), ((HB.out.cell (World.block_lt_of_cell? w _ hw151_3)).trans hw151_3), ((HB.out.cell (World.block_lt_of_cell? w _ hw152_0)).trans hw152_0), ((HB.out.cell (World.block_lt_of_cell? w _ hw152_1)).trans hw152_1), ((HB.out.cell (World.block_lt_of_cell? w _ hw152_2)).trans hw152_2), ((HB.out.cell (World.block_lt_of_cell? w _ hw152_3)).trans hw152_3), ((HB.out.cell (World.block_lt_of_cell? w _ hw153_0)).trans hw153_0), ((HB.out.cell (World.block_lt_of_cell? w _ hw153_1)).trans hw153_1), ((HB.out.cell (World.block_lt_of_cell? w _ hw153_2)).trans hw153_2), ((HB.out.cell (World.block_lt_of_cell? w _ hw153_3)).trans hw153_3), ((HB.out.cell (World.block_lt_of_cell? w _ hw154_0)).trans hw154_0), ((HB.out.cell (World.block_lt_of_cell? w _ hw154_1)).trans hw154_1), ((HB.out.cell (World.block_lt_of_cell? w _ hw154_2)).trans hw154_2), ((HB.out.cell (World.block_lt_of_cell? w _ hw154_3)).trans hw154_3), ((HB.out.cell (World.block_lt_of_cell? w _ hw155_0)).trans hw155_0), ((HB.out.cell (World.block_lt_of_cell? w _ hw155_1)).trans hw155_1), ((HB.out.cell (World.block_lt_of_cell? w _ hw155_2)).trans hw155_2), ((HB.out.cell (World.block_lt_of_cell? w _ hw155_3)).trans hw155_3), ((HB.out.cell (World.block_lt_of_cell? w _ hw156_0)).trans hw156_0), ((HB.out.cell (World.block_lt_of_cell? w _ hw156_1)).trans hw156_1), ((HB.out.cell (World.block_lt_of_cell? w _ hw156_2)).trans hw156_2), ((HB.out.cell (World.block_lt_of_cell? w _ hw156_3)).trans hw156_3), ((HB.out.cell (World.block_lt_of_cell? w _ hw157_0)).trans hw157_0), ((HB.out.cell (World.block_lt_of_cell? w _ hw157_1)).trans hw157_1), ((HB.out.cell (World.block_lt_of_cell? w _ hw157_2)).trans hw157_2), ((HB.out.cell (World.block_lt_of_cell? w _ hw157_3)).trans hw157_3)⟩ (fun hHeld => ?_)
            clear hK K
            refine norm_ (a' := ?_) ?_ ?_
            rotate_left
            ·show Act.put _ (some 64) _ = _
             simp only [Act.put, List.setIfInBounds_toArray, List.set_cons_zero, List.set_cons_succ, i64_w, i32_w]
             rfl
            refine pure_ (i := 49) (N := some 65) (v := ?_) (a' := ?_) #[Y4, Y4, Y4, Y4, Y4, Y4, Y4, Y4, Y4, Y4, Y4, Y4, Y4, Y4, Y4, Y4, Y4, Y4, Y4, Y4, Y4, Y4, Y4, Y4, Y4, Y4, Y4, Y4, Y4, Y4, Y4, Y4, Y4, Y4, Y4, Y4, Y4, Y4, Y4, Y4, Y4, Y4, Y4, Y4, Y4, Y4, Y4, Y4, Y4, Y4, Z4] rfl rfl (any_of HT_.out (by kernel_rfl)) (fun _ _ _ h => h) (Or.inl ⟨by rfl, ?_⟩) ?_ ?_
            rotate_left
            ·intro w'
             go_simp
             with_reducible rfl
            rotate_left
            ·simp only [Act.put, List.setIfInBounds_toArray, List.set_cons_zero, List.set_cons_succ, i64_w, i32_w]
             rfl
            refine pure_ (i := 50) (N := some 66) (v := ?_) (a' := ?_) #[Y4, Y4, Y4, Y4, Y4, Y4, Y4, Y4, Y4, Y4, Y4, Y4, Y4, Y4, Y4, Y4, Y4, Y4, Y4, Y4, Y4, Y4, Y4, Y4, Y4, Y4, Y4, Y4, Y4, Y4, Y4, Y4, Y4, Y4, Y4, Y4, Y4, Y4, Y4, Y4, Y4, Y4, Y4, Y4, Y4, Y4, Y4, Y4, Y4, Y4, Y4] rfl rfl (any_of HT_.out (by kernel_rfl)) (fun _ _ _ h => h) (Or.inl ⟨by rfl, ?_⟩) ?_ ?_
            rotate_left
            ·intro w'
             go_simp
             with_reducible rfl
            rotate_left
            ·simp only [Act.put, List.setIfInBounds_toArray, List.set_cons_zero, List.set_cons_succ, i64_w, i32_w]
             rfl
            refine done_ (done_of HT_.out (by kernel_rfl)) ?_
            try go_wp2
            go_ret
            exact ⟨by first | rfl | (simp [errW_none, errW_some] <;> rfl) | (simp [*, errW_none, errW_some] <;> rfl), by repeat (first | (with_reducible first | exact HB.out | apply below_alloc | apply pw_below_drewN | apply below_drew1) | exact HB.out)⟩
          ·rw [if_neg c10] at H
           have c10b0 : (((rd_T32 l0 x13_1).f3) == ((rd_T32 l1 x13_1).f3)) = false := beq_eq_false_iff_ne.mpr c10
           have c10b1 : (((rd_T32 l0 x13_1).f3) != ((rd_T32 l1 x13_1).f3)) = true := bne_iff_ne.mpr c10
           obtain rfl := Option.some.inj H
           try go_wp2
           have n0_ := Aside0.mk (below_drew1 HB.out)
           clear HB
           have HB := n0_
           clear n0_
           have p150 : 0 ≤ (x13_1 : Int) := of_decide_eq_true (by first | (with_reducible assumption) | assumption)
           have q150 : x13_1 < (l0.length : Int) := of_decide_eq_true (by first | (with_reducible assumption) | assumption)
           obtain ⟨ad150, A150_2, c150_2, e150, hx150_0, hx150_1, hx150_2, hx150_3, hl150_2, hi150_2⟩ := at_T32 HR0.out x13_1 p150 q150
           have hw150_3 := hx150_3
           have hw150_2 := hx150_2
           have hw150_1 := hx150_1
           have hw150_0 := hx150_0
           cases e150
           replace hx150_0 := (HB.out.cell (World.block_lt_of_cell? w _ hx150_0)).trans hx150_0
           replace hx150_1 := (HB.out.cell (World.block_lt_of_cell? w _ hx150_1)).trans hx150_1
           replace hx150_2 := (HB.out.cell (World.block_lt_of_cell? w _ hx150_2)).trans hx150_2
           replace hx150_3 := (HB.out.cell (World.block_lt_of_cell? w _ hx150_3)).trans hx150_3
           have HR150_2 := Aside0.mk hi150_2
           have HC150_2 := Aside0.mk hl150_2
           clear hi150_2 hl150_2
           replace p150 := eq_true p150
           replace q150 := eq_true q150
           have p151 : 0 ≤ (x13_1 : Int) := of_decide_eq_true (by first | (with_reducible assumption) | assumption)
           have q151 : x13_1 < (l1.length : Int) := of_decide_eq_true (by first | (with_reducible assumption) | assumption)
           obtain ⟨ad151, A151_2, c151_2, e151, hx151_0, hx151_1, hx151_2, hx151_3, hl151_2, hi151_2⟩ := at_T32 HR1.out x13_1 p151 q151
           have hw151_3 := hx151_3
           have hw151_2 := hx151_2
           have hw151_1 := hx151_1
           have hw151_0 := hx151_0
           cases e151
           replace hx151_0 := (HB.out.cell (World.block_lt_of_cell? w _ hx151_0)).trans hx151_0
           replace hx151_1 := (HB.out.cell (World.block_lt_of_cell? w _ hx151_1)).trans hx151_1
           replace hx151_2 := (HB.out.cell (World.block_lt_of_cell? w _ hx151_2)).trans hx151_2
           replace hx151_3 := (HB.out.cell (World.block_lt_of_cell? w _ hx151_3)).trans hx151_3
           have HR151_2 := Aside0.mk hi151_2
           have HC151_2 := Aside0.mk hl151_2
           clear hi151_2 hl151_2
           replace p151 := eq_true p151
           replace q151 := eq_true q151
           have p152 : 0 ≤ (x13_1 : Int) := of_decide_eq_true (by first | (with_reducible assumption) | assumption)
           have q152 : x13_1 < (l0.length : Int) := of_decide_eq_true (by first | (with_reducible assumption) | assumption)
           obtain ⟨ad152, A152_2, c152_2, e152, hx152_0, hx152_1, hx152_2, hx152_3, hl152_2, hi152_2⟩ := at_T32 HR0.out x13_1 p152 q152
           have hw152_3 := hx152_3
           have hw152_2 := hx152_2
           have hw152_1 := hx152_1
           have hw152_0 := hx152_0
           obtain rfl : ad150 = ad152 := (by injection e152)
           replace hx152_0 := (HB.out.cell (World.block_lt_of_cell? w _ hx152_0)).trans hx152_0
           replace hx152_1 := (HB.out.cell (World.block_lt_of_cell? w _ hx152_1)).trans hx152_1
           replace hx152_2 := (HB.out.cell (World.block_lt_of_cell? w _ hx152_2)).trans hx152_2
           replace hx152_3 := (HB.out.cell (World.block_lt_of_cell? w _ hx152_3)).trans hx152_3
           have HR152_2 := Aside0.mk hi152_2
           have HC152_2 := Aside0.mk hl152_2
           clear hi152_2 hl152_2
           replace p152 := eq_true p152
           replace q152 := eq_true q152
           have ea_ := Option.some.inj (hx150_2.symm.trans hx152_2)
           injection ea_ with ea_ en_ ec_
           subst ea_
           subst ec_
           clear en_
           have p153 : 0 ≤ (x13_1 : Int) := of_decide_eq_true (by first | (with_reducible assumption) | assumption)
           have q153 : x13_1 < (l1.length : Int) := of_decide_eq_true (by first | (with_reducible assumption) | assumption)
           obtain ⟨ad153, A153_2, c153_2, e153, hx153_0, hx153_1, hx153_2, hx153_3, hl153_2, hi153_2⟩ := at_T32 HR1.out x13_1 p153 q153
           have hw153_3 := hx153_3
           have hw153_2 := hx153_2
           have hw153_1 := hx153_1
           have hw153_0 := hx153_0
           obtain rfl : ad151 = ad153 := (by injection e153)
           replace hx153_0 := (HB.out.cell (World.block_lt_of_cell? w _ hx153_0)).trans hx153_0
           replace hx153_1 := (HB.out.cell (World.block_lt_of_cell? w _ hx153_1)).trans hx153_1
           replace hx153_2 := (HB.out.cell (World.block_lt_of_cell? w _ hx153_2)).trans hx153_2
           replace hx153_3 := (HB.out.cell (World.block_lt_of_cell? w _ hx153_3)).trans hx153_3
           have HR153_2 := Aside0.mk hi153_2
           have HC153_2 := Aside0.mk hl153_2
           clear hi153_2 hl153_2
           replace p153 := eq_true p153
           replace q153 := eq_true q153
           have ea_ := Option.some.inj (hx151_2.symm.trans hx153_2)
           injection ea_ with ea_ en_ ec_
           subst ea_
           subst ec_
           clear en_
           have p154 : 0 ≤ (x13_1 : Int) := of_decide_eq_true (by first | (with_reducible assumption) | assumption)
           have q154 : x13_1 < (l0.length : Int) := of_decide_eq_true (by first | (with_reducible assumption) | assumption)
           obtain ⟨ad154, A154_2, c154_2, e154, hx154_0, hx154_1, hx154_2, hx154_3, hl154_2, hi154_2⟩ := at_T32 HR0.out x13_1 p154 q154
           have hw154_3 := hx154_3
           have hw154_2 := hx154_2
           have hw154_1 := hx154_1
           have hw154_0 := hx154_0
           obtain rfl : ad150 = ad154 := (by injection e154)
           replace hx154_0 := (HB.out.cell (World.block_lt_of_cell? w _ hx154_0)).trans hx154_0
           replace hx154_1 := (HB.out.cell (World.block_lt_of_cell? w _ hx154_1)).trans hx154_1
           replace hx154_2 := (HB.out.cell (World.block_lt_of_cell? w _ hx154_2)).trans hx154_2
           replace hx154_3 := (HB.out.cell (World.block_lt_of_cell? w _ hx154_3)).trans hx154_3
           have HR154_2 := Aside0.mk hi154_2
           have HC154_2 := Aside0.mk hl154_2
           clear hi154_2 hl154_2
           replace p154 := eq_true p154
           replace q154 := eq_true q154
           have ea_ := Option.some.inj (hx150_2.symm.trans hx154_2)
           injection ea_ with ea_ en_ ec_
           subst ea_
           subst ec_
           clear en_
           have p155 : 0 ≤ (x13_1 : Int) := of_decide_eq_true (by first | (with_reducible assumption) | assumption)
           have q155 : x13_1 < (l1.length : Int) := of_decide_eq_true (by first | (with_reducible assumption) | assumption)
           obtain ⟨ad155, A155_2, c155_2, e155, hx155_0, hx155_1, hx155_2, hx155_3, hl155_2, hi155_2⟩ := at_T32 HR1.out x13_1 p155 q155
           have hw155_3 := hx155_3
           have hw155_2 := hx155_2
           have hw155_1 := hx155_1
           have hw155_0 := hx155_0
           obtain rfl : ad151 = ad155 := (by injection e155)
           replace hx155_0 := (HB.out.cell (World.block_lt_of_cell? w _ hx155_0)).trans hx155_0
           replace hx155_1 := (HB.out.cell (World.block_lt_of_cell? w _ hx155_1)).trans hx155_1
           replace hx155_2 := (HB.out.cell (World.block_lt_of_cell? w _ hx155_2)).trans hx155_2
           replace hx155_3 := (HB.out.cell (World.block_lt_of_cell? w _ hx155_3)).trans hx155_3
           have HR155_2 := Aside0.mk hi155_2
           have HC155_2 := Aside0.mk hl155_2
           clear hi155_2 hl155_2
           replace p155 := eq_true p155
           replace q155 := eq_true q155
           have ea_ := Option.some.inj (hx151_2.symm.trans hx155_2)
           injection ea_ with ea_ en_ ec_
           subst ea_
           subst ec_
           clear en_
           refine start_ (n := 51) (S := fun w' => w'.cell? (ad150.add ((x13_1).toNat * 4)) = some (.int .i64 ((rd_T32 l0 x13_1).f0)) ∧ w'.cell? ⟨(ad150.add ((x13_1).toNat * 4)).block, (ad150.add ((x13_1).toNat * 4)).off + 1, none⟩ = some (.int .i64 ((rd_T32 l0 x13_1).f1)) ∧ w'.cell? ⟨(ad150.add ((x13_1).toNat * 4)).block, (ad150.add ((x13_1).toNat * 4)).off + 2, none⟩ = some (.slice A150_2 ((rd_T32 l0 x13_1).f2).length c150_2) ∧ w'.cell? ⟨(ad150.add ((x13_1).toNat * 4)).block, (ad150.add ((x13_1).toNat * 4)).off + 3, none⟩ = some (.int .i64 ((rd_T32 l0 x13_1).f3)) ∧ w'.cell? (ad151.add ((x13_1).toNat * 4)) = some (.int .i64 ((rd_T32 l1 x13_1).f0)) ∧ w'.cell? ⟨(ad151.add ((x13_1).toNat * 4)).block, (ad151.add ((x13_1).toNat * 4)).off + 1, none⟩ = some (.int .i64 ((rd_T32 l1 x13_1).f1)) ∧ w'.cell? ⟨(ad151.add ((x13_1).toNat * 4)).block, (ad151.add ((x13_1).toNat * 4)).off + 2, none⟩ = some (.slice A151_2 ((rd_T32 l1 x13_1).f2).length c151_2) ∧ w'.cell? ⟨(ad151.add ((x13_1).toNat * 4)).block, (ad151.add ((x13_1).toNat * 4)).off + 3, none⟩ = some (.int .i64 ((rd_T32 l1 x13_1).f3)) ∧ w'.cell? (ad150.add ((x13_1).toNat * 4)) = some (.int .i64 ((rd_T32 l0 x13_1).f0)) ∧ w'.cell? ⟨(ad150.add ((x13_1).toNat * 4)).block, (ad150.add ((x13_1).toNat * 4)).off + 1, none⟩ = some (.int .i64 ((rd_T32 l0 x13_1).f1)) ∧ w'.cell? ⟨(ad150.add ((x13_1).toNat * 4)).block, (ad150.add ((x13_1).toNat * 4)).off + 2, none⟩ = some (.slice A150_2 ((rd_T32 l0 x13_1).f2).length c150_2) ∧ w'.cell? ⟨(ad150.add ((x13_1).toNat * 4)).block, (ad150.add ((x13_1).toNat * 4)).off + 3, none⟩ = some (.int .i64 ((rd_T32 l0 x13_1).f3)) ∧ w'.cell? (ad151.add ((x13_1).toNat * 4)) = some (.int .i64 ((rd_T32 l1 x13_1).f0)) ∧ w'.cell? ⟨(ad151.add ((x13_1).toNat * 4)).block, (ad151.add ((x13_1).toNat * 4)).off + 1, none⟩ = some (.int .i64 ((rd_T32 l1 x13_1).f1)) ∧ w'.cell? ⟨(ad151.add ((x13_1).toNat * 4)).block, (ad151.add ((x13_1).toNat * 4)).off + 2, none⟩ = some (.slice A151_2 ((rd_T32 l1 x13_1).f2).length c151_2) ∧ w'.cell? ⟨(ad151.add ((x13_1).toNat * 4)).block, (ad151.add ((x13_1).toNat * 4)).off + 3, none⟩ = some (.int .i64 ((rd_T32 l1 x13_1).f3)) ∧ w'.cell? (ad150.add ((x13_1).toNat * 4)) = some (.int .i64 ((rd_T32 l0 x13_1).f0)) ∧ w'.cell? ⟨(ad150.add ((x13_1).toNat * 4)).block, (ad150.add ((x13_1).toNat * 4)).off + 1, none⟩ = some (.int .i64 ((rd_T32 l0 x13_1).f1)) ∧ w'.cell? ⟨(ad150.add ((x13_1).toNat * 4)).block, (ad150.add ((x13_1).toNat * 4)).off + 2, none⟩ = some (.slice A150_2 ((rd_T32 l0 x13_1).f2).length c150_2) ∧ w'.cell? ⟨(ad150.add ((x13_1).toNat * 4)).block, (ad150.add ((x13_1).toNat * 4)).off + 3, none⟩ = some (.int .i64 ((rd_T32 l0 x13_1).f3)) ∧ w'.cell? (ad151.add ((x13_1).toNat * 4)) = some (.int .i64 ((rd_T32 l1 x13_1).f0)) ∧ w'.cell? ⟨(ad151.add ((x13_1).toNat * 4)).block, (ad151.add ((x13_1).toNat * 4)).off + 1, none⟩ = some (.int .i64 ((rd_T32 l1 x13_1).f1)) ∧ w'.cell? ⟨(ad151.add ((x13_1).toNat * 4)).block, (ad151.add ((x13_1).toNat * 4)).off + 2, none⟩ = some (.slice A151_2 ((rd_T32 l1 x13_1).f2).length c151_2) ∧ w'.cell? ⟨(ad151.add ((x13_1).toNat * 4)).block, (ad151.add ((x13_1).toNat * 4)).off + 3, none⟩ = some (.int .i64 ((rd_T32 l1 x13_1).f3))) (ds := []) #[Z4, Z4, Z4, Z4, Z4, Z4, Z4, Z4, Z4, Z4, Z4, Z4, Z4, Z4, Z4, Z4, Z4, Z4, Z4, Z4, Z4, Z4, Z4, Z4, Z4, Z4, Z4, Z4, Z4, Z4, Z4, Z4, Z4, Z4, Z4, Z4, Z4, Z4, Z4, Z4, Z4, Z4, Z4, Z4, Z4, Z4, Z4, Z4, Z4, Z4, Z4] (by kernel_rfl) rfl rfl ⟨((HB.out.cell (World.block_lt_of_cell? w _ hw150_0)).trans hw150_0), ((HB.out.cell (World.block_lt_of_cell? w _ hw150_1)).trans hw150_1), ((HB.out.cell (World.block_lt_of_cell? w _ hw150_2)).trans hw150_2), ((HB.out.cell (World.block_lt_of_cell? w _ hw150_3)).trans hw150_3), ((HB.out.cell (World.block_lt_of_cell? w _ hw151_0)).trans hw151_0), ((HB.out.cell (World.block_lt_of_cell? w _ hw151_1)).trans hw151_1), ((HB.out.cell (World.block_lt_of_cell? w _ hw151_2)).trans hw151_2), ((HB.out.cell (World.block_lt_of_cell? w _ hw151_3)).trans hw151_3), ((HB.out.cell (World.block_lt_of_cell? w _ hw152_0)).trans hw152_0), ((HB.out.cell (World.block_lt_of_cell? w _ hw152_1)).trans hw152_1), ((HB.out.cell (World.block_lt_of_cell? w _ hw152_2)).trans hw152_2), ((HB.out.cell (World.block_lt_of_cell? w _ hw152_3)).trans hw152_3), ((HB.out.cell (World.block_lt_of_cell? w _ hw153_0)).trans hw153_0), ((HB.out.cell (World.block_lt_of_cell? w _ hw153_1)).trans hw153_1), ((HB.out.cell (World.block_lt_of_cell? w _ hw153_2)).trans hw153_2), ((HB.out.cell (World.block_lt_of_cell? w _ hw153_3)).trans hw153_3), ((HB.out.cell (World.block_lt_of_cell? w _ hw154_0)).trans hw154_0), ((HB.out.cell (World.block_lt_of_cell? w _ hw154_1)).trans hw154_1), ((HB.out.cell (World.block_lt_of_cell? w _ hw154_2)).trans hw154_2), ((HB.out.cell (World.block_lt_of_cell? w _ hw154_3)).trans hw154_3), ((HB.out.cell (World.block_lt_of_cell? w _ hw155_0)).trans hw155_0), ((HB.out.cell (World.block_lt_of_cell? w _ hw155_1)).trans hw155_1), ((HB.out.cell (World.block_lt_of_cell? w _ hw155_2)).trans hw155_2), ((HB.out.cell (World.block_lt_of_cell? w _ hw155_3)).trans hw155_3)⟩ (fun hHeld => ?_); refine with_tabW lontarlaw01_Same.tab6 lontarlaw01_Same.bits6 (fun HT_ HW_ => ?_)
           generalize wr.drew = w15 at HB HR150_2 HR151_2 HR152_2 HR153_2 HR154_2 HR155_2 hx150_0 hx150_1 hx150_2 hx150_3 hx151_0 hx151_1 hx151_2 hx151_3 hx152_0 hx152_1 hx152_2 hx152_3 hx153_0 hx153_1 hx153_2 hx153_3 hx154_0 hx154_1 hx154_2 hx154_3 hx155_0 hx155_1 hx155_2 hx155_3 hHeld ⊢
           refine pure_ (i := 0) (N := some 16) (v := ?_) (a' := ?_) #[Y4, Z4, Z4, Z4, Z4, Z4, Z4, Z4, Z4, Z4, Z4, Z4, Z4, Z4, Z4, Z4, Z4, Z4, Z4, Z4, Z4, Z4, Z4, Z4, Z4, Z4, Z4, Z4, Z4, Z4, Z4, Z4, Z4, Z4, Z4, Z4, Z4, Z4, Z4, Z4, Z4, Z4, Z4, Z4, Z4, Z4, Z4, Z4, Z4, Z4, Z4] rfl rfl (any_of HT_.out (by kernel_rfl)) (fun _ _ _ h => h) (Or.inl ⟨by rfl, ?_⟩) ?_ ?_
           rotate_left
           ·intro w'
            go_simp
            with_reducible rfl
           rotate_left
           ·simp only [Act.put, List.setIfInBounds_toArray, List.set_cons_zero, List.set_cons_succ, i64_w, i32_w]
            rfl
           refine pure_ (i := 1) (N := some 17) (v := ?_) (a' := ?_) #[Y4, Y4, Z4, Z4, Z4, Z4, Z4, Z4, Z4, Z4, Z4, Z4, Z4, Z4, Z4, Z4, Z4, Z4, Z4, Z4, Z4, Z4, Z4, Z4, Z4, Z4, Z4, Z4, Z4, Z4, Z4, Z4, Z4, Z4, Z4, Z4, Z4, Z4, Z4, Z4, Z4, Z4, Z4, Z4, Z4, Z4, Z4, Z4, Z4, Z4, Z4] rfl rfl (any_of HT_.out (by kernel_rfl)) (fun _ _ _ h => h) (Or.inl ⟨by rfl, ?_⟩) ?_ ?_
           rotate_left
           ·intro w'
            go_simp
            with_reducible rfl
           rotate_left
           ·simp only [Act.put, List.setIfInBounds_toArray, List.set_cons_zero, List.set_cons_succ, i64_w, i32_w]
            rfl
           refine pure_ (i := 2) (N := some 18) (v := ?_) (a' := ?_) #[Y4, Y4, Y4, Z4, Z4, Z4, Z4, Z4, Z4, Z4, Z4, Z4, Z4, Z4, Z4, Z4, Z4, Z4, Z4, Z4, Z4, Z4, Z4, Z4, Z4, Z4, Z4, Z4, Z4, Z4, Z4, Z4, Z4, Z4, Z4, Z4, Z4, Z4, Z4, Z4, Z4, Z4, Z4, Z4, Z4, Z4, Z4, Z4, Z4, Z4, Z4] rfl rfl (any_of HT_.out (by kernel_rfl)) (fun _ _ _ h => h) (Or.inl ⟨by rfl, ?_⟩) ?_ ?_
           rotate_left
           ·intro w'
            go_simp
            with_reducible rfl
           rotate_left
           ·simp only [Act.put, List.setIfInBounds_toArray, List.set_cons_zero, List.set_cons_succ, i64_w, i32_w]
            rfl
           refine pure_ (i := 3) (N := some 19) (v := ?_) (a' := ?_) #[Y4, Y4, Y4, Y4, Z4, Z4, Z4, Z4, Z4, Z4, Z4, Z4, Z4, Z4, Z4, Z4, Z4, Z4, Z4, Z4, Z4, Z4, Z4, Z4, Z4, Z4, Z4, Z4, Z4, Z4, Z4, Z4, Z4, Z4, Z4, Z4, Z4, Z4, Z4, Z4, Z4, Z4, Z4, Z4, Z4, Z4, Z4, Z4, Z4, Z4, Z4] rfl rfl (any_of HT_.out (by kernel_rfl)) (fun _ _ _ h => h) (Or.inl ⟨by rfl, ?_⟩) ?_ ?_
           rotate_left
           ·intro w'
            go_simp
            with_reducible rfl
           rotate_left
           ·simp only [Act.put, List.setIfInBounds_toArray, List.set_cons_zero, List.set_cons_succ, i64_w, i32_w]
            rfl
           refine pure_ (i := 5) (N := some 21) (v := ?_) (a' := ?_) #[Y4, Y4, Y4, Y4, Z4, Y4, Z4, Z4, Z4, Z4, Z4, Z4, Z4, Z4, Z4, Z4, Z4, Z4, Z4, Z4, Z4, Z4, Z4, Z4, Z4, Z4, Z4, Z4, Z4, Z4, Z4, Z4, Z4, Z4, Z4, Z4, Z4, Z4, Z4, Z4, Z4, Z4, Z4, Z4, Z4, Z4, Z4, Z4, Z4, Z4, Z4] rfl rfl (any_of HT_.out (by kernel_rfl)) (fun _ _ _ h => h) (Or.inl ⟨by rfl, ?_⟩) ?_ ?_
           rotate_left
           ·intro w'
            go_simp
            with_reducible rfl
           rotate_left
           ·simp only [Act.put, List.setIfInBounds_toArray, List.set_cons_zero, List.set_cons_succ, i64_w, i32_w]
            rfl
           refine pure_ (i := 6) (N := some 22) (v := ?_) (a' := ?_) #[Y4, Y4, Y4, Y4, Z4, Y4, Y4, Z4, Z4, Z4, Z4, Z4, Z4, Z4, Z4, Z4, Z4, Z4, Z4, Z4, Z4, Z4, Z4, Z4, Z4, Z4, Z4, Z4, Z4, Z4, Z4, Z4, Z4, Z4, Z4, Z4, Z4, Z4, Z4, Z4, Z4, Z4, Z4, Z4, Z4, Z4, Z4, Z4, Z4, Z4, Z4] rfl rfl (any_of HT_.out (by kernel_rfl)) (fun _ _ _ h => h) (Or.inl ⟨by rfl, ?_⟩) ?_ ?_
           rotate_left
           ·intro w'
            go_simp
            with_reducible rfl
           rotate_left
           ·simp only [Act.put, List.setIfInBounds_toArray, List.set_cons_zero, List.set_cons_succ, i64_w, i32_w]
            rfl
           refine pure_ (i := 7) (N := some 23) (v := ?_) (a' := ?_) #[Y4, Y4, Y4, Y4, Z4, Y4, Y4, Y4, Z4, Z4, Z4, Z4, Z4, Z4, Z4, Z4, Z4, Z4, Z4, Z4, Z4, Z4, Z4, Z4, Z4, Z4, Z4, Z4, Z4, Z4, Z4, Z4, Z4, Z4, Z4, Z4, Z4, Z4, Z4, Z4, Z4, Z4, Z4, Z4, Z4, Z4, Z4, Z4, Z4, Z4, Z4] rfl rfl (any_of HT_.out (by kernel_rfl)) (fun _ _ _ h => h) (Or.inl ⟨by rfl, ?_⟩) ?_ ?_
           rotate_left
           ·intro w'
            go_simp
            with_reducible rfl
           rotate_left
           ·simp only [Act.put, List.setIfInBounds_toArray, List.set_cons_zero, List.set_cons_succ, i64_w, i32_w]
            rfl
           refine pure_ (i := 8) (N := some 24) (v := ?_) (a' := ?_) #[Y4, Y4, Y4, Y4, Z4, Y4, Y4, Y4, Y4, Z4, Z4, Z4, Z4, Z4, Z4, Z4, Z4, Z4, Z4, Z4, Z4, Z4, Z4, Z4, Z4, Z4, Z4, Z4, Z4, Z4, Z4, Z4, Z4, Z4, Z4, Z4, Z4, Z4, Z4, Z4, Z4, Z4, Z4, Z4, Z4, Z4, Z4, Z4, Z4, Z4, Z4] rfl rfl (any_of HT_.out (by kernel_rfl)) (fun _ _ _ h => h) (Or.inl ⟨by rfl, ?_⟩) ?_ ?_
           rotate_left
           ·intro w'
            go_simp
            with_reducible rfl
           rotate_left
           ·simp only [Act.put, List.setIfInBounds_toArray, List.set_cons_zero, List.set_cons_succ, i64_w, i32_w]
            rfl
           refine take_ (i := 4) (N := some 20) (v := ?_) (a' := ?_) #[Y4, Y4, Y4, Y4, Y4, Y4, Y4, Y4, Y4, Z4, Z4, Z4, Z4, Z4, Z4, Z4, Z4, Z4, Z4, Z4, Z4, Z4, Z4, Z4, Z4, Z4, Z4, Z4, Z4, Z4, Z4, Z4, Z4, Z4, Z4, Z4, Z4, Z4, Z4, Z4, Z4, Z4, Z4, Z4, Z4, Z4, Z4, Z4, Z4, Z4, Z4] rfl rfl (take_ofW HT_.out HW_.out (by kernel_rfl)) (fun _ _ _ h => h) (Or.inl ⟨by rfl, ?_⟩) hHeld ?_ ?_
           rotate_left
           ·rintro w' ⟨s0, s1, s2, s3, s4, s5, s6, s7, s8, s9, s10, s11, s12, s13, s14, s15, s16, s17, s18, s19, s20, s21, s22, s23⟩
            go_simp
            with_reducible rfl
           rotate_left
           ·simp only [Act.put, List.setIfInBounds_toArray, List.set_cons_zero, List.set_cons_succ, i64_w, i32_w]
            rfl
           refine take_ (i := 9) (N := some 25) (v := ?_) (a' := ?_) #[Y4, Y4, Y4, Y4, Y4, Y4, Y4, Y4, Y4, Y4, Z4, Z4, Z4, Z4, Z4, Z4, Z4, Z4, Z4, Z4, Z4, Z4, Z4, Z4, Z4, Z4, Z4, Z4, Z4, Z4, Z4, Z4, Z4, Z4, Z4, Z4, Z4, Z4, Z4, Z4, Z4, Z4, Z4, Z4, Z4, Z4, Z4, Z4, Z4, Z4, Z4] rfl rfl (take_ofW HT_.out HW_.out (by kernel_rfl)) (fun _ _ _ h => h) (Or.inl ⟨by rfl, ?_⟩) hHeld ?_ ?_
           rotate_left
           ·rintro w' ⟨s0, s1, s2, s3, s4, s5, s6, s7, s8, s9, s10, s11, s12, s13, s14, s15, s16, s17, s18, s19, s20, s21, s22, s23⟩
            go_simp
            with_reducible rfl
           rotate_left
           ·simp only [Act.put, List.setIfInBounds_toArray, List.set_cons_zero, List.set_cons_succ, i64_w, i32_w]
            rfl
           refine pure_ (i := 10) (N := some 26) (v := ?_) (a' := ?_) #[Y4, Y4, Y4, Y4, Y4, Y4, Y4, Y4, Y4, Y4, Y4, Z4, Z4, Z4, Z4, Z4, Z4, Z4, Z4, Z4, Z4, Z4, Z4, Z4, Z4, Z4, Z4, Z4, Z4, Z4, Z4, Z4, Z4, Z4, Z4, Z4, Z4, Z4, Z4, Z4, Z4, Z4, Z4, Z4, Z4, Z4, Z4, Z4, Z4, Z4, Z4] rfl rfl (any_of HT_.out (by kernel_rfl)) (fun _ _ _ h => h) (Or.inl ⟨by rfl, ?_⟩) ?_ ?_
           rotate_left
           ·intro w'
            go_simp
            with_reducible rfl
           rotate_left
           ·simp only [Act.put, List.setIfInBounds_toArray, List.set_cons_zero, List.set_cons_succ, i64_w, i32_w]
            rfl
           refine pure_ (i := 11) (N := some 27) (v := ?_) (a' := ?_) #[Y4, Y4, Y4, Y4, Y4, Y4, Y4, Y4, Y4, Y4, Y4, Y4, Z4, Z4, Z4, Z4, Z4, Z4, Z4, Z4, Z4, Z4, Z4, Z4, Z4, Z4, Z4, Z4, Z4, Z4, Z4, Z4, Z4, Z4, Z4, Z4, Z4, Z4, Z4, Z4, Z4, Z4, Z4, Z4, Z4, Z4, Z4, Z4, Z4, Z4, Z4] rfl rfl (any_of HT_.out (by kernel_rfl)) (fun _ _ _ h => h) (Or.inl ⟨by rfl, ?_⟩) ?_ ?_
           rotate_left
           ·intro w'
            go_simp
            with_reducible rfl
           rotate_left
           ·simp only [Act.put, List.setIfInBounds_toArray, List.set_cons_zero, List.set_cons_succ, i64_w, i32_w]
            rfl
           refine pure_ (i := 12) (N := some 28) (v := ?_) (a' := ?_) #[Y4, Y4, Y4, Y4, Y4, Y4, Y4, Y4, Y4, Y4, Y4, Y4, Y4, Z4, Z4, Z4, Z4, Z4, Z4, Z4, Z4, Z4, Z4, Z4, Z4, Z4, Z4, Z4, Z4, Z4, Z4, Z4, Z4, Z4, Z4, Z4, Z4, Z4, Z4, Z4, Z4, Z4, Z4, Z4, Z4, Z4, Z4, Z4, Z4, Z4, Z4] rfl rfl (any_of HT_.out (by kernel_rfl)) (fun _ _ _ h => h) (Or.inl ⟨by rfl, ?_⟩) ?_ ?_
           rotate_left
           ·intro w'
            go_simp
            with_reducible rfl
           rotate_left
           ·simp only [Act.put, List.setIfInBounds_toArray, List.set_cons_zero, List.set_cons_succ, i64_w, i32_w]
            rfl
           refine pure_ (i := 13) (N := some 29) (v := ?_) (a' := ?_) #[Y4, Y4, Y4, Y4, Y4, Y4, Y4, Y4, Y4, Y4, Y4, Y4, Y4, Y4, Z4, Z4, Z4, Z4, Z4, Z4, Z4, Z4, Z4, Z4, Z4, Z4, Z4, Z4, Z4, Z4, Z4, Z4, Z4, Z4, Z4, Z4, Z4, Z4, Z4, Z4, Z4, Z4, Z4, Z4, Z4, Z4, Z4, Z4, Z4, Z4, Z4] rfl rfl (any_of HT_.out (by kernel_rfl)) (fun _ _ _ h => h) (Or.inl ⟨by rfl, ?_⟩) ?_ ?_
           rotate_left
           ·intro w'
            go_simp
            with_reducible rfl
           rotate_left
           ·simp only [Act.put, List.setIfInBounds_toArray, List.set_cons_zero, List.set_cons_succ, i64_w, i32_w]
            rfl
           refine pure_ (i := 14) (N := some 30) (v := ?_) (a' := ?_) #[Y4, Y4, Y4, Y4, Y4, Y4, Y4, Y4, Y4, Y4, Y4, Y4, Y4, Y4, Y4, Z4, Z4, Z4, Z4, Z4, Z4, Z4, Z4, Z4, Z4, Z4, Z4, Z4, Z4, Z4, Z4, Z4, Z4, Z4, Z4, Z4, Z4, Z4, Z4, Z4, Z4, Z4, Z4, Z4, Z4, Z4, Z4, Z4, Z4, Z4, Z4] rfl rfl (any_of HT_.out (by kernel_rfl)) (fun _ _ _ h => h) (Or.inl ⟨by rfl, ?_⟩) ?_ ?_
           rotate_left
           ·intro w'
            go_simp
            with_reducible rfl
           rotate_left
           ·simp only [Act.put, List.setIfInBounds_toArray, List.set_cons_zero, List.set_cons_succ, i64_w, i32_w]
            rfl
           refine pure_ (i := 15) (N := some 31) (v := ?_) (a' := ?_) #[Y4, Y4, Y4, Y4, Y4, Y4, Y4, Y4, Y4, Y4, Y4, Y4, Y4, Y4, Y4, Y4, Z4, Z4, Z4, Z4, Z4, Z4, Z4, Z4, Z4, Z4, Z4, Z4, Z4, Z4, Z4, Z4, Z4, Z4, Z4, Z4, Z4, Z4, Z4, Z4, Z4, Z4, Z4, Z4, Z4, Z4, Z4, Z4, Z4, Z4, Z4] rfl rfl (any_of HT_.out (by kernel_rfl)) (fun _ _ _ h => h) (Or.inl ⟨by rfl, ?_⟩) ?_ ?_
           rotate_left
           ·intro w'
            go_simp
            with_reducible rfl
           rotate_left
           ·simp only [Act.put, List.setIfInBounds_toArray, List.set_cons_zero, List.set_cons_succ, i64_w, i32_w]
            rfl
           refine pure_ (i := 17) (N := some 33) (v := ?_) (a' := ?_) #[Y4, Y4, Y4, Y4, Y4, Y4, Y4, Y4, Y4, Y4, Y4, Y4, Y4, Y4, Y4, Y4, Z4, Y4, Z4, Z4, Z4, Z4, Z4, Z4, Z4, Z4, Z4, Z4, Z4, Z4, Z4, Z4, Z4, Z4, Z4, Z4, Z4, Z4, Z4, Z4, Z4, Z4, Z4, Z4, Z4, Z4, Z4, Z4, Z4, Z4, Z4] rfl rfl (any_of HT_.out (by kernel_rfl)) (fun _ _ _ h => h) (Or.inl ⟨by rfl, ?_⟩) ?_ ?_
           rotate_left
           ·intro w'
            go_simp
            with_reducible rfl
           rotate_left
           ·simp only [Act.put, List.setIfInBounds_toArray, List.set_cons_zero, List.set_cons_succ, i64_w, i32_w]
            rfl
           refine pure_ (i := 18) (N := some 34) (v := ?_) (a' := ?_) #[Y4, Y4, Y4, Y4, Y4, Y4, Y4, Y4, Y4, Y4, Y4, Y4, Y4, Y4, Y4, Y4, Z4, Y4, Y4, Z4, Z4, Z4, Z4, Z4, Z4, Z4, Z4, Z4, Z4, Z4, Z4, Z4, Z4, Z4, Z4, Z4, Z4, Z4, Z4, Z4, Z4, Z4, Z4, Z4, Z4, Z4, Z4, Z4, Z4, Z4, Z4] rfl rfl (any_of HT_.out (by kernel_rfl)) (fun _ _ _ h => h) (Or.inl ⟨by rfl, ?_⟩) ?_ ?_
           rotate_left
           ·intro w'
            go_simp
            with_reducible rfl
           rotate_left
           ·simp only [Act.put, List.setIfInBounds_toArray, List.set_cons_zero, List.set_cons_succ, i64_w, i32_w]
            rfl
           refine pure_ (i := 19) (N := some 35) (v := ?_) (a' := ?_) #[Y4, Y4, Y4, Y4, Y4, Y4, Y4, Y4, Y4, Y4, Y4, Y4, Y4, Y4, Y4, Y4, Z4, Y4, Y4, Y4, Z4, Z4, Z4, Z4, Z4, Z4, Z4, Z4, Z4, Z4, Z4, Z4, Z4, Z4, Z4, Z4, Z4, Z4, Z4, Z4, Z4, Z4, Z4, Z4, Z4, Z4, Z4, Z4, Z4, Z4, Z4] rfl rfl (any_of HT_.out (by kernel_rfl)) (fun _ _ _ h => h) (Or.inl ⟨by rfl, ?_⟩) ?_ ?_
           rotate_left
           ·intro w'
            go_simp
            with_reducible rfl
           rotate_left
           ·simp only [Act.put, List.setIfInBounds_toArray, List.set_cons_zero, List.set_cons_succ, i64_w, i32_w]
            rfl
           refine pure_ (i := 20) (N := some 36) (v := ?_) (a' := ?_) #[Y4, Y4, Y4, Y4, Y4, Y4, Y4, Y4, Y4, Y4, Y4, Y4, Y4, Y4, Y4, Y4, Z4, Y4, Y4, Y4, Y4, Z4, Z4, Z4, Z4, Z4, Z4, Z4, Z4, Z4, Z4, Z4, Z4, Z4, Z4, Z4, Z4, Z4, Z4, Z4, Z4, Z4, Z4, Z4, Z4, Z4, Z4, Z4, Z4, Z4, Z4] rfl rfl (any_of HT_.out (by kernel_rfl)) (fun _ _ _ h => h) (Or.inl ⟨by rfl, ?_⟩) ?_ ?_
           rotate_left
           ·intro w'
            go_simp
            with_reducible rfl
           rotate_left
           ·simp only [Act.put, List.setIfInBounds_toArray, List.set_cons_zero, List.set_cons_succ, i64_w, i32_w]
            rfl
           refine take_ (i := 16) (N := some 32) (v := ?_) (a' := ?_) #[Y4, Y4, Y4, Y4, Y4, Y4, Y4, Y4, Y4, Y4, Y4, Y4, Y4, Y4, Y4, Y4, Y4, Y4, Y4, Y4, Y4, Z4, Z4, Z4, Z4, Z4, Z4, Z4, Z4, Z4, Z4, Z4, Z4, Z4, Z4, Z4, Z4, Z4, Z4, Z4, Z4, Z4, Z4, Z4, Z4, Z4, Z4, Z4, Z4, Z4, Z4] rfl rfl (take_ofW HT_.out HW_.out (by kernel_rfl)) (fun _ _ _ h => h) (Or.inl ⟨by rfl, ?_⟩) hHeld ?_ ?_
           rotate_left
           ·rintro w' ⟨s0, s1, s2, s3, s4, s5, s6, s7, s8, s9, s10, s11, s12, s13, s14, s15, s16, s17, s18, s19, s20, s21, s22, s23⟩
            go_simp
            with_reducible rfl
           rotate_left
           ·simp only [Act.put, List.setIfInBounds_toArray, List.set_cons_zero, List.set_cons_succ, i64_w, i32_w]
            rfl
           refine take_ (i := 21) (N := some 37) (v := ?_) (a' := ?_) #[Y4, Y4, Y4, Y4, Y4, Y4, Y4, Y4, Y4, Y4, Y4, Y4, Y4, Y4, Y4, Y4, Y4, Y4, Y4, Y4, Y4, Y4, Z4, Z4, Z4, Z4, Z4, Z4, Z4, Z4, Z4, Z4, Z4, Z4, Z4, Z4, Z4, Z4, Z4, Z4, Z4, Z4, Z4, Z4, Z4, Z4, Z4, Z4, Z4, Z4, Z4] rfl rfl (take_ofW HT_.out HW_.out (by kernel_rfl)) (fun _ _ _ h => h) (Or.inl ⟨by rfl, ?_⟩) hHeld ?_ ?_
           rotate_left
           ·rintro w' ⟨s0, s1, s2, s3, s4, s5, s6, s7, s8, s9, s10, s11, s12, s13, s14, s15, s16, s17, s18, s19, s20, s21, s22, s23⟩
            go_simp
            with_reducible rfl
           rotate_left
           ·simp only [Act.put, List.setIfInBounds_toArray, List.set_cons_zero, List.set_cons_succ, i64_w, i32_w]
            rfl
           refine pure_ (i := 22) (N := some 38) (v := ?_) (a' := ?_) #[Y4, Y4, Y4, Y4, Y4, Y4, Y4, Y4, Y4, Y4, Y4, Y4, Y4, Y4, Y4, Y4, Y4, Y4, Y4, Y4, Y4, Y4, Y4, Z4, Z4, Z4, Z4, Z4, Z4, Z4, Z4, Z4, Z4, Z4, Z4, Z4, Z4, Z4, Z4, Z4, Z4, Z4, Z4, Z4, Z4, Z4, Z4, Z4, Z4, Z4, Z4] rfl rfl (any_of HT_.out (by kernel_rfl)) (fun _ _ _ h => h) (Or.inl ⟨by rfl, ?_⟩) ?_ ?_
           rotate_left
           ·intro w'
            go_simp
            with_reducible rfl
           rotate_left
           ·simp only [Act.put, List.setIfInBounds_toArray, List.set_cons_zero, List.set_cons_succ, i64_w, i32_w]
            rfl
           refine pure_ (i := 23) (N := some 39) (v := ?_) (a' := ?_) #[Y4, Y4, Y4, Y4, Y4, Y4, Y4, Y4, Y4, Y4, Y4, Y4, Y4, Y4, Y4, Y4, Y4, Y4, Y4, Y4, Y4, Y4, Y4, Y4, Z4, Z4, Z4, Z4, Z4, Z4, Z4, Z4, Z4, Z4, Z4, Z4, Z4, Z4, Z4, Z4, Z4, Z4, Z4, Z4, Z4, Z4, Z4, Z4, Z4, Z4, Z4] rfl rfl (any_of HT_.out (by kernel_rfl)) (fun _ _ _ h => h) (Or.inl ⟨by rfl, ?_⟩) ?_ ?_
           rotate_left
           ·intro w'
            go_simp
            with_reducible rfl
           rotate_left
           ·simp only [Act.put, List.setIfInBounds_toArray, List.set_cons_zero, List.set_cons_succ, i64_w, i32_w]
            rfl
           refine pure_ (i := 24) (N := some 40) (v := ?_) (a' := ?_) #[Y4, Y4, Y4, Y4, Y4, Y4, Y4, Y4, Y4, Y4, Y4, Y4, Y4, Y4, Y4, Y4, Y4, Y4, Y4, Y4, Y4, Y4, Y4, Y4, Y4, Z4, Z4, Z4, Z4, Z4, Z4, Z4, Z4, Z4, Z4, Z4, Z4, Z4, Z4, Z4, Z4, Z4, Z4, Z4, Z4, Z4, Z4, Z4, Z4, Z4, Z4] rfl rfl (any_of HT_.out (by kernel_rfl)) (fun _ _ _ h => h) (Or.inl ⟨by rfl, ?_⟩) ?_ ?_
           rotate_left
           ·intro w'
            go_simp
            with_reducible rfl
           rotate_left
           ·simp only [Act.put, List.setIfInBounds_toArray, List.set_cons_zero, List.set_cons_succ, i64_w, i32_w]
            rfl
           refine pure_ (i := 25) (N := some 41) (v := ?_) (a' := ?_) #[Y4, Y4, Y4, Y4, Y4, Y4, Y4, Y4, Y4, Y4, Y4, Y4, Y4, Y4, Y4, Y4, Y4, Y4, Y4, Y4, Y4, Y4, Y4, Y4, Y4, Y4, Z4, Z4, Z4, Z4, Z4, Z4, Z4, Z4, Z4, Z4, Z4, Z4, Z4, Z4, Z4, Z4, Z4, Z4, Z4, Z4, Z4, Z4, Z4, Z4, Z4] rfl rfl (any_of HT_.out (by kernel_rfl)) (fun _ _ _ h => h) (Or.inl ⟨by rfl, ?_⟩) ?_ ?_
           rotate_left
           ·intro w'
            go_simp
            with_reducible rfl
           rotate_left
           ·simp only [Act.put, List.setIfInBounds_toArray, List.set_cons_zero, List.set_cons_succ, i64_w, i32_w]
            rfl
           refine pure_ (i := 26) (N := some 42) (v := ?_) (a' := ?_) #[Y4, Y4, Y4, Y4, Y4, Y4, Y4, Y4, Y4, Y4, Y4, Y4, Y4, Y4, Y4, Y4, Y4, Y4, Y4, Y4, Y4, Y4, Y4, Y4, Y4, Y4, Y4, Z4, Z4, Z4, Z4, Z4, Z4, Z4, Z4, Z4, Z4, Z4, Z4, Z4, Z4, Z4, Z4, Z4, Z4, Z4, Z4, Z4, Z4, Z4, Z4] rfl rfl (any_of HT_.out (by kernel_rfl)) (fun _ _ _ h => h) (Or.inl ⟨by rfl, ?_⟩) ?_ ?_
           rotate_left
           ·intro w'
            go_simp
            with_reducible rfl
           rotate_left
           ·simp only [Act.put, List.setIfInBounds_toArray, List.set_cons_zero, List.set_cons_succ, i64_w, i32_w]
            rfl
           refine pure_ (i := 27) (N := some 43) (v := ?_) (a' := ?_) #[Y4, Y4, Y4, Y4, Y4, Y4, Y4, Y4, Y4, Y4, Y4, Y4, Y4, Y4, Y4, Y4, Y4, Y4, Y4, Y4, Y4, Y4, Y4, Y4, Y4, Y4, Y4, Y4, Z4, Z4, Z4, Z4, Z4, Z4, Z4, Z4, Z4, Z4, Z4, Z4, Z4, Z4, Z4, Z4, Z4, Z4, Z4, Z4, Z4, Z4, Z4] rfl rfl (any_of HT_.out (by kernel_rfl)) (fun _ _ _ h => h) (Or.inl ⟨by rfl, ?_⟩) ?_ ?_
           rotate_left
           ·intro w'
            go_simp
            with_reducible rfl
           rotate_left
           ·simp only [Act.put, List.setIfInBounds_toArray, List.set_cons_zero, List.set_cons_succ, i64_w, i32_w]
            rfl
           refine pure_ (i := 28) (N := some 44) (v := ?_) (a' := ?_) #[Y4, Y4, Y4, Y4, Y4, Y4, Y4, Y4, Y4, Y4, Y4, Y4, Y4, Y4, Y4, Y4, Y4, Y4, Y4, Y4, Y4, Y4, Y4, Y4, Y4, Y4, Y4, Y4, Y4, Z4, Z4, Z4, Z4, Z4, Z4, Z4, Z4, Z4, Z4, Z4, Z4, Z4, Z4, Z4, Z4, Z4, Z4, Z4, Z4, Z4, Z4] rfl rfl (any_of HT_.out (by kernel_rfl)) (fun _ _ _ h => h) (Or.inl ⟨by rfl, ?_⟩) ?_ ?_
           rotate_left
           ·intro w'
            go_simp
            with_reducible rfl
           rotate_left
           ·simp only [Act.put, List.setIfInBounds_toArray, List.set_cons_zero, List.set_cons_succ, i64_w, i32_w]
            rfl
           refine pure_ (i := 30) (N := some 46) (v := ?_) (a' := ?_) #[Y4, Y4, Y4, Y4, Y4, Y4, Y4, Y4, Y4, Y4, Y4, Y4, Y4, Y4, Y4, Y4, Y4, Y4, Y4, Y4, Y4, Y4, Y4, Y4, Y4, Y4, Y4, Y4, Y4, Z4, Y4, Z4, Z4, Z4, Z4, Z4, Z4, Z4, Z4, Z4, Z4, Z4, Z4, Z4, Z4, Z4, Z4, Z4, Z4, Z4, Z4] rfl rfl (any_of HT_.out (by kernel_rfl)) (fun _ _ _ h => h) (Or.inl ⟨by rfl, ?_⟩) ?_ ?_
           rotate_left
           ·intro w'
            go_simp
            with_reducible rfl
           rotate_left
           ·simp only [Act.put, List.setIfInBounds_toArray, List.set_cons_zero, List.set_cons_succ, i64_w, i32_w]
            rfl
           refine pure_ (i := 31) (N := some 47) (v := ?_) (a' := ?_) #[Y4, Y4, Y4, Y4, Y4, Y4, Y4, Y4, Y4, Y4, Y4, Y4, Y4, Y4, Y4, Y4, Y4, Y4, Y4, Y4, Y4, Y4, Y4, Y4, Y4, Y4, Y4, Y4, Y4, Z4, Y4, Y4, Z4, Z4, Z4, Z4, Z4, Z4, Z4, Z4, Z4, Z4, Z4, Z4, Z4, Z4, Z4, Z4, Z4, Z4, Z4] rfl rfl (any_of HT_.out (by kernel_rfl)) (fun _ _ _ h => h) (Or.inl ⟨by rfl, ?_⟩) ?_ ?_
           rotate_left
           ·intro w'
            go_simp
            with_reducible rfl
           rotate_left
           ·simp only [Act.put, List.setIfInBounds_toArray, List.set_cons_zero, List.set_cons_succ, i64_w, i32_w]
            rfl
           refine pure_ (i := 32) (N := some 48) (v := ?_) (a' := ?_) #[Y4, Y4, Y4, Y4, Y4, Y4, Y4, Y4, Y4, Y4, Y4, Y4, Y4, Y4, Y4, Y4, Y4, Y4, Y4, Y4, Y4, Y4, Y4, Y4, Y4, Y4, Y4, Y4, Y4, Z4, Y4, Y4, Y4, Z4, Z4, Z4, Z4, Z4, Z4, Z4, Z4, Z4, Z4, Z4, Z4, Z4, Z4, Z4, Z4, Z4, Z4] rfl rfl (any_of HT_.out (by kernel_rfl)) (fun _ _ _ h => h) (Or.inl ⟨by rfl, ?_⟩) ?_ ?_
           rotate_left
           ·intro w'
            go_simp
            with_reducible rfl
           rotate_left
           ·simp only [Act.put, List.setIfInBounds_toArray, List.set_cons_zero, List.set_cons_succ, i64_w, i32_w]
            rfl
           refine pure_ (i := 33) (N := some 49) (v := ?_) (a' := ?_) #[Y4, Y4, Y4, Y4, Y4, Y4, Y4, Y4, Y4, Y4, Y4, Y4, Y4, Y4, Y4, Y4, Y4, Y4, Y4, Y4, Y4, Y4, Y4, Y4, Y4, Y4, Y4, Y4, Y4, Z4, Y4, Y4, Y4, Y4, Z4, Z4, Z4, Z4, Z4, Z4, Z4, Z4, Z4, Z4, Z4, Z4, Z4, Z4, Z4, Z4, Z4] rfl rfl (any_of HT_.out (by kernel_rfl)) (fun _ _ _ h => h) (Or.inl ⟨by rfl, ?_⟩) ?_ ?_
           rotate_left
           ·intro w'
            go_simp
            with_reducible rfl
           rotate_left
           ·simp only [Act.put, List.setIfInBounds_toArray, List.set_cons_zero, List.set_cons_succ, i64_w, i32_w]
            rfl
           refine take_ (i := 29) (N := some 45) (v := ?_) (a' := ?_) #[Y4, Y4, Y4, Y4, Y4, Y4, Y4, Y4, Y4, Y4, Y4, Y4, Y4, Y4, Y4, Y4, Y4, Y4, Y4, Y4, Y4, Y4, Y4, Y4, Y4, Y4, Y4, Y4, Y4, Y4, Y4, Y4, Y4, Y4, Z4, Z4, Z4, Z4, Z4, Z4, Z4, Z4, Z4, Z4, Z4, Z4, Z4, Z4, Z4, Z4, Z4] rfl rfl (take_ofW HT_.out HW_.out (by kernel_rfl)) (fun _ _ _ h => h) (Or.inl ⟨by rfl, ?_⟩) hHeld ?_ ?_
           rotate_left
           ·rintro w' ⟨s0, s1, s2, s3, s4, s5, s6, s7, s8, s9, s10, s11, s12, s13, s14, s15, s16, s17, s18, s19, s20, s21, s22, s23⟩
            go_simp
            with_reducible rfl
           rotate_left
           ·simp only [Act.put, List.setIfInBounds_toArray, List.set_cons_zero, List.set_cons_succ, i64_w, i32_w]
            rfl
           refine take_ (i := 34) (N := some 50) (v := ?_) (a' := ?_) #[Y4, Y4, Y4, Y4, Y4, Y4, Y4, Y4, Y4, Y4, Y4, Y4, Y4, Y4, Y4, Y4, Y4, Y4, Y4, Y4, Y4, Y4, Y4, Y4, Y4, Y4, Y4, Y4, Y4, Y4, Y4, Y4, Y4, Y4, Y4, Z4, Z4, Z4, Z4, Z4, Z4, Z4, Z4, Z4, Z4, Z4, Z4, Z4, Z4, Z4, Z4] rfl rfl (take_ofW HT_.out HW_.out (by kernel_rfl)) (fun _ _ _ h => h) (Or.inl ⟨by rfl, ?_⟩) hHeld ?_ ?_
           rotate_left
           ·rintro w' ⟨s0, s1, s2, s3, s4, s5, s6, s7, s8, s9, s10, s11, s12, s13, s14, s15, s16, s17, s18, s19, s20, s21, s22, s23⟩
            go_simp
            with_reducible rfl
           rotate_left
           ·simp only [Act.put, List.setIfInBounds_toArray, List.set_cons_zero, List.set_cons_succ, i64_w, i32_w]
            rfl
           refine pure_ (i := 35) (N := some 51) (v := ?_) (a' := ?_) #[Y4, Y4, Y4, Y4, Y4, Y4, Y4, Y4, Y4, Y4, Y4, Y4, Y4, Y4, Y4, Y4, Y4, Y4, Y4, Y4, Y4, Y4, Y4, Y4, Y4, Y4, Y4, Y4, Y4, Y4, Y4, Y4, Y4, Y4, Y4, Y4, Z4, Z4, Z4, Z4, Z4, Z4, Z4, Z4, Z4, Z4, Z4, Z4, Z4, Z4, Z4] rfl rfl (any_of HT_.out (by kernel_rfl)) (fun _ _ _ h => h) (Or.inl ⟨by rfl, ?_⟩) ?_ ?_
           rotate_left
           ·intro w'
            go_simp
            with_reducible rfl
           rotate_left
           ·simp only [Act.put, List.setIfInBounds_toArray, List.set_cons_zero, List.set_cons_succ, i64_w, i32_w]
            rfl
           refine pure_ (i := 36) (N := some 52) (v := ?_) (a' := ?_) #[Y4, Y4, Y4, Y4, Y4, Y4, Y4, Y4, Y4, Y4, Y4, Y4, Y4, Y4, Y4, Y4, Y4, Y4, Y4, Y4, Y4, Y4, Y4, Y4, Y4, Y4, Y4, Y4, Y4, Y4, Y4, Y4, Y4, Y4, Y4, Y4, Y4, Z4, Z4, Z4, Z4, Z4, Z4, Z4, Z4, Z4, Z4, Z4, Z4, Z4, Z4] rfl rfl (any_of HT_.out (by kernel_rfl)) (fun _ _ _ h => h) (Or.inl ⟨by rfl, ?_⟩) ?_ ?_
           rotate_left
           ·intro w'
            go_simp
            with_reducible rfl
           rotate_left
           ·simp only [Act.put, List.setIfInBounds_toArray, List.set_cons_zero, List.set_cons_succ, i64_w, i32_w]
            rfl
           refine pure_ (i := 37) (N := some 53) (v := ?_) (a' := ?_) #[Y4, Y4, Y4, Y4, Y4, Y4, Y4, Y4, Y4, Y4, Y4, Y4, Y4, Y4, Y4, Y4, Y4, Y4, Y4, Y4, Y4, Y4, Y4, Y4, Y4, Y4, Y4, Y4, Y4, Y4, Y4, Y4, Y4, Y4, Y4, Y4, Y4, Y4, Z4, Z4, Z4, Z4, Z4, Z4, Z4, Z4, Z4, Z4, Z4, Z4, Z4] rfl rfl (any_of HT_.out (by kernel_rfl)) (fun _ _ _ h => h) (Or.inl ⟨by rfl, ?_⟩) ?_ ?_
           rotate_left
           ·intro w'
            go_simp
            with_reducible rfl
           rotate_left
           ·simp only [Act.put, List.setIfInBounds_toArray, List.set_cons_zero, List.set_cons_succ, i64_w, i32_w]
            rfl
           refine pure_ (i := 38) (N := some 54) (v := undef) (a' := ?_) #[Y4, Y4, Y4, Y4, Y4, Y4, Y4, Y4, Y4, Y4, Y4, Y4, Y4, Y4, Y4, Y4, Y4, Y4, Y4, Y4, Y4, Y4, Y4, Y4, Y4, Y4, Y4, Y4, Y4, Y4, Y4, Y4, Y4, Y4, Y4, Y4, Y4, Y4, Y4, Z4, Z4, Z4, Z4, Z4, Z4, Z4, Z4, Z4, Z4, Z4, Z4] rfl rfl (any_of HT_.out (by kernel_rfl)) (fun _ _ _ h => h) (Or.inr ⟨by rfl, rfl⟩) ?_ ?_
           rotate_left
           ·simp only [Act.put, List.setIfInBounds_toArray, List.set_cons_zero, List.set_cons_succ, i64_w, i32_w]
            rfl
           refine pure_ (i := 39) (N := some 55) (v := undef) (a' := ?_) #[Y4, Y4, Y4, Y4, Y4, Y4, Y4, Y4, Y4, Y4, Y4, Y4, Y4, Y4, Y4, Y4, Y4, Y4, Y4, Y4, Y4, Y4, Y4, Y4, Y4, Y4, Y4, Y4, Y4, Y4, Y4, Y4, Y4, Y4, Y4, Y4, Y4, Y4, Y4, Y4, Z4, Z4, Z4, Z4, Z4, Z4, Z4, Z4, Z4, Z4, Z4] rfl rfl (any_of HT_.out (by kernel_rfl)) (fun _ _ _ h => h) (Or.inr ⟨by rfl, rfl⟩) ?_ ?_
           rotate_left
           ·simp only [Act.put, List.setIfInBounds_toArray, List.set_cons_zero, List.set_cons_succ, i64_w, i32_w]
            rfl
           refine pure_ (i := 40) (N := some 56) (v := undef) (a' := ?_) #[Y4, Y4, Y4, Y4, Y4, Y4, Y4, Y4, Y4, Y4, Y4, Y4, Y4, Y4, Y4, Y4, Y4, Y4, Y4, Y4, Y4, Y4, Y4, Y4, Y4, Y4, Y4, Y4, Y4, Y4, Y4, Y4, Y4, Y4, Y4, Y4, Y4, Y4, Y4, Y4, Y4, Z4, Z4, Z4, Z4, Z4, Z4, Z4, Z4, Z4, Z4] rfl rfl (any_of HT_.out (by kernel_rfl)) (fun _ _ _ h => h) (Or.inr ⟨by rfl, rfl⟩) ?_ ?_
           rotate_left
           ·simp only [Act.put, List.setIfInBounds_toArray, List.set_cons_zero, List.set_cons_succ, i64_w, i32_w]
            rfl
           refine pure_ (i := 41) (N := some 57) (v := undef) (a' := ?_) #[Y4, Y4, Y4, Y4, Y4, Y4, Y4, Y4, Y4, Y4, Y4, Y4, Y4, Y4, Y4, Y4, Y4, Y4, Y4, Y4, Y4, Y4, Y4, Y4, Y4, Y4, Y4, Y4, Y4, Y4, Y4, Y4, Y4, Y4, Y4, Y4, Y4, Y4, Y4, Y4, Y4, Y4, Z4, Z4, Z4, Z4, Z4, Z4, Z4, Z4, Z4] rfl rfl (any_of HT_.out (by kernel_rfl)) (fun _ _ _ h => h) (Or.inr ⟨by rfl, rfl⟩) ?_ ?_
           rotate_left
           ·simp only [Act.put, List.setIfInBounds_toArray, List.set_cons_zero, List.set_cons_succ, i64_w, i32_w]
            rfl
           refine pure_ (i := 42) (N := some 58) (v := undef) (a' := ?_) #[Y4, Y4, Y4, Y4, Y4, Y4, Y4, Y4, Y4, Y4, Y4, Y4, Y4, Y4, Y4, Y4, Y4, Y4, Y4, Y4, Y4, Y4, Y4, Y4, Y4, Y4, Y4, Y4, Y4, Y4, Y4, Y4, Y4, Y4, Y4, Y4, Y4, Y4, Y4, Y4, Y4, Y4, Y4, Z4, Z4, Z4, Z4, Z4, Z4, Z4, Z4] rfl rfl (any_of HT_.out (by kernel_rfl)) (fun _ _ _ h => h) (Or.inr ⟨by rfl, rfl⟩) ?_ ?_
           rotate_left
           ·simp only [Act.put, List.setIfInBounds_toArray, List.set_cons_zero, List.set_cons_succ, i64_w, i32_w]
            rfl
           refine pure_ (i := 43) (N := some 59) (v := undef) (a' := ?_) #[Y4, Y4, Y4, Y4, Y4, Y4, Y4, Y4, Y4, Y4, Y4, Y4, Y4, Y4, Y4, Y4, Y4, Y4, Y4, Y4, Y4, Y4, Y4, Y4, Y4, Y4, Y4, Y4, Y4, Y4, Y4, Y4, Y4, Y4, Y4, Y4, Y4, Y4, Y4, Y4, Y4, Y4, Y4, Y4, Z4, Z4, Z4, Z4, Z4, Z4, Z4] rfl rfl (any_of HT_.out (by kernel_rfl)) (fun _ _ _ h => h) (Or.inr ⟨by rfl, rfl⟩) ?_ ?_
           rotate_left
           ·simp only [Act.put, List.setIfInBounds_toArray, List.set_cons_zero, List.set_cons_succ, i64_w, i32_w]
            rfl
           refine pure_ (i := 44) (N := some 60) (v := undef) (a' := ?_) #[Y4, Y4, Y4, Y4, Y4, Y4, Y4, Y4, Y4, Y4, Y4, Y4, Y4, Y4, Y4, Y4, Y4, Y4, Y4, Y4, Y4, Y4, Y4, Y4, Y4, Y4, Y4, Y4, Y4, Y4, Y4, Y4, Y4, Y4, Y4, Y4, Y4, Y4, Y4, Y4, Y4, Y4, Y4, Y4, Y4, Z4, Z4, Z4, Z4, Z4, Z4] rfl rfl (any_of HT_.out (by kernel_rfl)) (fun _ _ _ h => h) (Or.inr ⟨by rfl, rfl⟩) ?_ ?_
           rotate_left
           ·simp only [Act.put, List.setIfInBounds_toArray, List.set_cons_zero, List.set_cons_succ, i64_w, i32_w]
            rfl
           refine pure_ (i := 45) (N := some 61) (v := undef) (a' := ?_) #[Y4, Y4, Y4, Y4, Y4, Y4, Y4, Y4, Y4, Y4, Y4, Y4, Y4, Y4, Y4, Y4, Y4, Y4, Y4, Y4, Y4, Y4, Y4, Y4, Y4, Y4, Y4, Y4, Y4, Y4, Y4, Y4, Y4, Y4, Y4, Y4, Y4, Y4, Y4, Y4, Y4, Y4, Y4, Y4, Y4, Y4, Z4, Z4, Z4, Z4, Z4] rfl rfl (any_of HT_.out (by kernel_rfl)) (fun _ _ _ h => h) (Or.inr ⟨by rfl, rfl⟩) ?_ ?_
           rotate_left
           ·simp only [Act.put, List.setIfInBounds_toArray, List.set_cons_zero, List.set_cons_succ, i64_w, i32_w]
            rfl
           refine pure_ (i := 46) (N := some 62) (v := undef) (a' := ?_) #[Y4, Y4, Y4, Y4, Y4, Y4, Y4, Y4, Y4, Y4, Y4, Y4, Y4, Y4, Y4, Y4, Y4, Y4, Y4, Y4, Y4, Y4, Y4, Y4, Y4, Y4, Y4, Y4, Y4, Y4, Y4, Y4, Y4, Y4, Y4, Y4, Y4, Y4, Y4, Y4, Y4, Y4, Y4, Y4, Y4, Y4, Y4, Z4, Z4, Z4, Z4] rfl rfl (any_of HT_.out (by kernel_rfl)) (fun _ _ _ h => h) (Or.inr ⟨by rfl, rfl⟩) ?_ ?_
           rotate_left
           ·simp only [Act.put, List.setIfInBounds_toArray, List.set_cons_zero, List.set_cons_succ, i64_w, i32_w]
            rfl
           refine pure_ (i := 47) (N := some 63) (v := undef) (a' := ?_) #[Y4, Y4, Y4, Y4, Y4, Y4, Y4, Y4, Y4, Y4, Y4, Y4, Y4, Y4, Y4, Y4, Y4, Y4, Y4, Y4, Y4, Y4, Y4, Y4, Y4, Y4, Y4, Y4, Y4, Y4, Y4, Y4, Y4, Y4, Y4, Y4, Y4, Y4, Y4, Y4, Y4, Y4, Y4, Y4, Y4, Y4, Y4, Y4, Z4, Z4, Z4] rfl rfl (any_of HT_.out (by kernel_rfl)) (fun _ _ _ h => h) (Or.inr ⟨by rfl, rfl⟩) ?_ ?_
           rotate_left
           ·simp only [Act.put, List.setIfInBounds_toArray, List.set_cons_zero, List.set_cons_succ, i64_w, i32_w]
            rfl
           refine pure_ (i := 48) (N := some 64) (v := undef) (a' := ?_) #[Y4, Y4, Y4, Y4, Y4, Y4, Y4, Y4, Y4, Y4, Y4, Y4, Y4, Y4, Y4, Y4, Y4, Y4, Y4, Y4, Y4, Y4, Y4, Y4, Y4, Y4, Y4, Y4, Y4, Y4, Y4, Y4, Y4, Y4, Y4, Y4, Y4, Y4, Y4, Y4, Y4, Y4, Y4, Y4, Y4, Y4, Y4, Y4, Y4, Z4, Z4] rfl rfl (any_of HT_.out (by kernel_rfl)) (fun _ _ _ h => h) (Or.inr ⟨by rfl, rfl⟩) ?_ ?_
           rotate_left
           ·simp only [Act.put, List.setIfInBounds_toArray, List.set_cons_zero, List.set_cons_succ, i64_w, i32_w]
            rfl
           refine pure_ (i := 49) (N := some 65) (v := undef) (a' := ?_) #[Y4, Y4, Y4, Y4, Y4, Y4, Y4, Y4, Y4, Y4, Y4, Y4, Y4, Y4, Y4, Y4, Y4, Y4, Y4, Y4, Y4, Y4, Y4, Y4, Y4, Y4, Y4, Y4, Y4, Y4, Y4, Y4, Y4, Y4, Y4, Y4, Y4, Y4, Y4, Y4, Y4, Y4, Y4, Y4, Y4, Y4, Y4, Y4, Y4, Y4, Z4] rfl rfl (any_of HT_.out (by kernel_rfl)) (fun _ _ _ h => h) (Or.inr ⟨by rfl, rfl⟩) ?_ ?_
           rotate_left
           ·simp only [Act.put, List.setIfInBounds_toArray, List.set_cons_zero, List.set_cons_succ, i64_w, i32_w]
            rfl
           refine pure_ (i := 50) (N := some 66) (v := ?_) (a' := ?_) #[Y4, Y4, Y4, Y4, Y4, Y4, Y4, Y4, Y4, Y4, Y4, Y4, Y4, Y4, Y4, Y4, Y4, Y4, Y4, Y4, Y4, Y4, Y4, Y4, Y4, Y4, Y4, Y4, Y4, Y4, Y4, Y4, Y4, Y4, Y4, Y4, Y4, Y4, Y4, Y4, Y4, Y4, Y4, Y4, Y4, Y4, Y4, Y4, Y4, Y4, Y4] rfl rfl (any_of HT_.out (by kernel_rfl)) (fun _ _ _ h => h) (Or.inl ⟨by rfl, ?_⟩) ?_ ?_
           rotate_left
           ·intro w'
            go_simp
            with_reducible rfl
           rotate_left
           ·simp only [Act.put, List.setIfInBounds_toArray, List.set_cons_zero, List.set_cons_succ, i64_w, i32_w]
            rfl
           refine done_ (done_of HT_.out (by kernel_rfl)) ?_
           try go_wp2
           go_ret
           exact ⟨by first | rfl | (simp [errW_none, errW_some] <;> rfl) | (simp [*, errW_none, errW_some] <;> rfl), by repeat (first | (with_reducible first | exact HB.out | apply below_alloc | apply pw_below_drewN | apply below_drew1) | exact HB.out)⟩
         ·rw [if_neg c9] at H
          have c9b0 : (((rd_T32 l0 x13_1).f1) == ((rd_T32 l1 x13_1).f1)) = false := beq_eq_false_iff_ne.mpr c9
          have c9b1 : (((rd_T32 l0 x13_1).f1) != ((rd_T32 l1 x13_1).f1)) = true := bne_iff_ne.mpr c9
          obtain rfl := Option.some.inj H
          try go_wp2
          have n0_ := Aside0.mk (below_drew1 HB.out)
          clear HB
          have HB := n0_
          clear n0_
          have p150 : 0 ≤ (x13_1 : Int) := of_decide_eq_true (by first | (with_reducible assumption) | assumption)
          have q150 : x13_1 < (l0.length : Int) := of_decide_eq_true (by first | (with_reducible assumption) | assumption)
          obtain ⟨ad150, A150_2, c150_2, e150, hx150_0, hx150_1, hx150_2, hx150_3, hl150_2, hi150_2⟩ := at_T32 HR0.out x13_1 p150 q150
          have hw150_3 := hx150_3
          have hw150_2 := hx150_2
          have hw150_1 := hx150_1
          have hw150_0 := hx150_0
          cases e150
          replace hx150_0 := (HB.out.cell (World.block_lt_of_cell? w _ hx150_0)).trans hx150_0
          replace hx150_1 := (HB.out.cell (World.block_lt_of_cell? w _ hx150_1)).trans hx150_1
          replace hx150_2 := (HB.out.cell (World.block_lt_of_cell? w _ hx150_2)).trans hx150_2
          replace hx150_3 := (HB.out.cell (World.block_lt_of_cell? w _ hx150_3)).trans hx150_3
          have HR150_2 := Aside0.mk hi150_2
          have HC150_2 := Aside0.mk hl150_2
          clear hi150_2 hl150_2
          replace p150 := eq_true p150
          replace q150 := eq_true q150
          have p151 : 0 ≤ (x13_1 : Int) := of_decide_eq_true (by first | (with_reducible assumption) | assumption)
          have q151 : x13_1 < (l1.length : Int) := of_decide_eq_true (by first | (with_reducible assumption) | assumption)
          obtain ⟨ad151, A151_2, c151_2, e151, hx151_0, hx151_1, hx151_2, hx151_3, hl151_2, hi151_2⟩ := at_T32 HR1.out x13_1 p151 q151
          have hw151_3 := hx151_3
          have hw151_2 := hx151_2
          have hw151_1 := hx151_1
          have hw151_0 := hx151_0
          cases e151
          replace hx151_0 := (HB.out.cell (World.block_lt_of_cell? w _ hx151_0)).trans hx151_0
          replace hx151_1 := (HB.out.cell (World.block_lt_of_cell? w _ hx151_1)).trans hx151_1
          replace hx151_2 := (HB.out.cell (World.block_lt_of_cell? w _ hx151_2)).trans hx151_2
          replace hx151_3 := (HB.out.cell (World.block_lt_of_cell? w _ hx151_3)).trans hx151_3
          have HR151_2 := Aside0.mk hi151_2
          have HC151_2 := Aside0.mk hl151_2
          clear hi151_2 hl151_2
          replace p151 := eq_true p151
          replace q151 := eq_true q151
          have p152 : 0 ≤ (x13_1 : Int) := of_decide_eq_true (by first | (with_reducible assumption) | assumption)
          have q152 : x13_1 < (l0.length : Int) := of_decide_eq_true (by first | (with_reducible assumption) | assumption)
          obtain ⟨ad152, A152_2, c152_2, e152, hx152_0, hx152_1, hx152_2, hx152_3, hl152_2, hi152_2⟩ := at_T32 HR0.out x13_1 p152 q152
          have hw152_3 := hx152_3
          have hw152_2 := hx152_2
          have hw152_1 := hx152_1
          have hw152_0 := hx152_0
          obtain rfl : ad150 = ad152 := (by injection e152)
          replace hx152_0 := (HB.out.cell (World.block_lt_of_cell? w _ hx152_0)).trans hx152_0
          replace hx152_1 := (HB.out.cell (World.block_lt_of_cell? w _ hx152_1)).trans hx152_1
          replace hx152_2 := (HB.out.cell (World.block_lt_of_cell? w _ hx152_2)).trans hx152_2
          replace hx152_3 := (HB.out.cell (World.block_lt_of_cell? w _ hx152_3)).trans hx152_3
          have HR152_2 := Aside0.mk hi152_2
          have HC152_2 := Aside0.mk hl152_2
          clear hi152_2 hl152_2
          replace p152 := eq_true p152
          replace q152 := eq_true q152
          have ea_ := Option.some.inj (hx150_2.symm.trans hx152_2)
          injection ea_ with ea_ en_ ec_
          subst ea_
          subst ec_
          clear en_
          have p153 : 0 ≤ (x13_1 : Int) := of_decide_eq_true (by first | (with_reducible assumption) | assumption)
          have q153 : x13_1 < (l1.length : Int) := of_decide_eq_true (by first | (with_reducible assumption) | assumption)
          obtain ⟨ad153, A153_2, c153_2, e153, hx153_0, hx153_1, hx153_2, hx153_3, hl153_2, hi153_2⟩ := at_T32 HR1.out x13_1 p153 q153
          have hw153_3 := hx153_3
          have hw153_2 := hx153_2
          have hw153_1 := hx153_1
          have hw153_0 := hx153_0
          obtain rfl : ad151 = ad153 := (by injection e153)
          replace hx153_0 := (HB.out.cell (World.block_lt_of_cell? w _ hx153_0)).trans hx153_0
          replace hx153_1 := (HB.out.cell (World.block_lt_of_cell? w _ hx153_1)).trans hx153_1
          replace hx153_2 := (HB.out.cell (World.block_lt_of_cell? w _ hx153_2)).trans hx153_2
          replace hx153_3 := (HB.out.cell (World.block_lt_of_cell? w _ hx153_3)).trans hx153_3
          have HR153_2 := Aside0.mk hi153_2
          have HC153_2 := Aside0.mk hl153_2
          clear hi153_2 hl153_2
          replace p153 := eq_true p153
          replace q153 := eq_true q153
          have ea_ := Option.some.inj (hx151_2.symm.trans hx153_2)
          injection ea_ with ea_ en_ ec_
          subst ea_
          subst ec_
          clear en_
          refine start_ (n := 51) (S := fun w' => w'.cell? (ad150.add ((x13_1).toNat * 4)) = some (.int .i64 ((rd_T32 l0 x13_1).f0)) ∧ w'.cell? ⟨(ad150.add ((x13_1).toNat * 4)).block, (ad150.add ((x13_1).toNat * 4)).off + 1, none⟩ = some (.int .i64 ((rd_T32 l0 x13_1).f1)) ∧ w'.cell? ⟨(ad150.add ((x13_1).toNat * 4)).block, (ad150.add ((x13_1).toNat * 4)).off + 2, none⟩ = some (.slice A150_2 ((rd_T32 l0 x13_1).f2).length c150_2) ∧ w'.cell? ⟨(ad150.add ((x13_1).toNat * 4)).block, (ad150.add ((x13_1).toNat * 4)).off + 3, none⟩ = some (.int .i64 ((rd_T32 l0 x13_1).f3)) ∧ w'.cell? (ad151.add ((x13_1).toNat * 4)) = some (.int .i64 ((rd_T32 l1 x13_1).f0)) ∧ w'.cell? ⟨(ad151.add ((x13_1).toNat * 4)).block, (ad151.add ((x13_1).toNat * 4)).off + 1, none⟩ = some (.int .i64 ((rd_T32 l1 x13_1).f1)) ∧ w'.cell? ⟨(ad151.add ((x13_1).toNat * 4)).block, (ad151.add ((x13_1).toNat * 4)).off + 2, none⟩ = some (.slice A151_2 ((rd_T32 l1 x13_1).f2).length c151_2) ∧ w'.cell? ⟨(ad151.add ((x13_1).toNat * 4)).block, (ad151.add ((x13_1).toNat * 4)).off + 3, none⟩ = some (.int .i64 ((rd_T32 l1 x13_1).f3)) ∧ w'.cell? (ad150.add ((x13_1).toNat * 4)) = some (.int .i64 ((rd_T32 l0 x13_1).f0)) ∧ w'.cell? ⟨(ad150.add ((x13_1).toNat * 4)).block, (ad150.add ((x13_1).toNat * 4)).off + 1, none⟩ = some (.int .i64 ((rd_T32 l0 x13_1).f1)) ∧ w'.cell? ⟨(ad150.add ((x13_1).toNat * 4)).block, (ad150.add ((x13_1).toNat * 4)).off + 2, none⟩ = some (.slice A150_2 ((rd_T32 l0 x13_1).f2).length c150_2) ∧ w'.cell? ⟨(ad150.add ((x13_1).toNat * 4)).block, (ad150.add ((x13_1).toNat * 4)).off + 3, none⟩ = some (.int .i64 ((rd_T32 l0 x13_1).f3)) ∧ w'.cell? (ad151.add ((x13_1).toNat * 4)) = some (.int .i64 ((rd_T32 l1 x13_1).f0)) ∧ w'.cell? ⟨(ad151.add ((x13_1).toNat * 4)).block, (ad151.add ((x13_1).toNat * 4)).off + 1, none⟩ = some (.int .i64 ((rd_T32 l1 x13_1).f1)) ∧ w'.cell? ⟨(ad151.add ((x13_1).toNat * 4)).block, (ad151.add ((x13_1).toNat * 4)).off + 2, none⟩ = some (.slice A151_2 ((rd_T32 l1 x13_1).f2).length c151_2) ∧ w'.cell? ⟨(ad151.add ((x13_1).toNat * 4)).block, (ad151.add ((x13_1).toNat * 4)).off + 3, none⟩ = some (.int .i64 ((rd_T32 l1 x13_1).f3))) (ds := []) #[Z4, Z4, Z4, Z4, Z4, Z4, Z4, Z4, Z4, Z4, Z4, Z4, Z4, Z4, Z4, Z4, Z4, Z4, Z4, Z4, Z4, Z4, Z4, Z4, Z4, Z4, Z4, Z4, Z4, Z4, Z4, Z4, Z4, Z4, Z4, Z4, Z4, Z4, Z4, Z4, Z4, Z4, Z4, Z4, Z4, Z4, Z4, Z4, Z4, Z4, Z4] (by kernel_rfl) rfl rfl ⟨((HB.out.cell (World.block_lt_of_cell? w _ hw150_0)).trans hw150_0), ((HB.out.cell (World.block_lt_of_cell? w _ hw150_1)).trans hw150_1), ((HB.out.cell (World.block_lt_of_cell? w _ hw150_2)).trans hw150_2), ((HB.out.cell (World.block_lt_of_cell? w _ hw150_3)).trans hw150_3), ((HB.out.cell (World.block_lt_of_cell? w _ hw151_0)).trans hw151_0), ((HB.out.cell (World.block_lt_of_cell? w _ hw151_1)).trans hw151_1), ((HB.out.cell (World.block_lt_of_cell? w _ hw151_2)).trans hw151_2), ((HB.out.cell (World.block_lt_of_cell? w _ hw151_3)).trans hw151_3), ((HB.out.cell (World.block_lt_of_cell? w _ hw152_0)).trans hw152_0), ((HB.out.cell (World.block_lt_of_cell? w _ hw152_1)).trans hw152_1), ((HB.out.cell (World.block_lt_of_cell? w _ hw152_2)).trans hw152_2), ((HB.out.cell (World.block_lt_of_cell? w _ hw152_3)).trans hw152_3), ((HB.out.cell (World.block_lt_of_cell? w _ hw153_0)).trans hw153_0), ((HB.out.cell (World.block_lt_of_cell? w _ hw153_1)).trans hw153_1), ((HB.out.cell (World.block_lt_of_cell? w _ hw153_2)).trans hw153_2), ((HB.out.cell (World.block_lt_of_cell? w _ hw153_3)).trans hw153_3)⟩ (fun hHeld => ?_); refine with_tabW lontarlaw01_Same.tab6 lontarlaw01_Same.bits6 (fun HT_ HW_ => ?_)
          generalize wr.drew = w16 at HB HR150_2 HR151_2 HR152_2 HR153_2 hx150_0 hx150_1 hx150_2 hx150_3 hx151_0 hx151_1 hx151_2 hx151_3 hx152_0 hx152_1 hx152_2 hx152_3 hx153_0 hx153_1 hx153_2 hx153_3 hHeld ⊢
          refine pure_ (i := 0) (N := some 16) (v := ?_) (a' := ?_) #[Y4, Z4, Z4, Z4, Z4, Z4, Z4, Z4, Z4, Z4, Z4, Z4, Z4, Z4, Z4, Z4, Z4, Z4, Z4, Z4, Z4, Z4, Z4, Z4, Z4, Z4, Z4, Z4, Z4, Z4, Z4, Z4, Z4, Z4, Z4, Z4, Z4, Z4, Z4, Z4, Z4, Z4, Z4, Z4, Z4, Z4, Z4, Z4, Z4, Z4, Z4] rfl rfl (any_of HT_.out (by kernel_rfl)) (fun _ _ _ h => h) (Or.inl ⟨by rfl, ?_⟩) ?_ ?_
          rotate_left
          ·intro w'
           go_simp
           with_reducible rfl
          rotate_left
          ·simp only [Act.put, List.setIfInBounds_toArray, List.set_cons_zero, List.set_cons_succ, i64_w, i32_w]
           rfl
          refine pure_ (i := 1) (N := some 17) (v := ?_) (a' := ?_) #[Y4, Y4, Z4, Z4, Z4, Z4, Z4, Z4, Z4, Z4, Z4, Z4, Z4, Z4, Z4, Z4, Z4, Z4, Z4, Z4, Z4, Z4, Z4, Z4, Z4, Z4, Z4, Z4, Z4, Z4, Z4, Z4, Z4, Z4, Z4, Z4, Z4, Z4, Z4, Z4, Z4, Z4, Z4, Z4, Z4, Z4, Z4, Z4, Z4, Z4, Z4] rfl rfl (any_of HT_.out (by kernel_rfl)) (fun _ _ _ h => h) (Or.inl ⟨by rfl, ?_⟩) ?_ ?_
          rotate_left
          ·intro w'
           go_simp
           with_reducible rfl
          rotate_left
          ·simp only [Act.put, List.setIfInBounds_toArray, List.set_cons_zero, List.set_cons_succ, i64_w, i32_w]
           rfl
          refine pure_ (i := 2) (N := some 18) (v := ?_) (a' := ?_) #[Y4, Y4, Y4, Z4, Z4, Z4, Z4, Z4, Z4, Z4, Z4, Z4, Z4, Z4, Z4, Z4, Z4, Z4, Z4, Z4, Z4, Z4, Z4, Z4, Z4, Z4, Z4, Z4, Z4, Z4, Z4, Z4, Z4, Z4, Z4, Z4, Z4, Z4, Z4, Z4, Z4, Z4, Z4, Z4, Z4, Z4, Z4, Z4, Z4, Z4, Z4] rfl rfl (any_of HT_.out (by kernel_rfl)) (fun _ _ _ h => h) (Or.inl ⟨by rfl, ?_⟩) ?_ ?_
          rotate_left
          ·intro w'
           go_simp
           with_reducible rfl
          rotate_left
          ·simp only [Act.put, List.setIfInBounds_toArray, List.set_cons_zero, List.set_cons_succ, i64_w, i32_w]
           rfl
          refine pure_ (i := 3) (N := some 19) (v := ?_) (a' := ?_) #[Y4, Y4, Y4, Y4, Z4, Z4, Z4, Z4, Z4, Z4, Z4, Z4, Z4, Z4, Z4, Z4, Z4, Z4, Z4, Z4, Z4, Z4, Z4, Z4, Z4, Z4, Z4, Z4, Z4, Z4, Z4, Z4, Z4, Z4, Z4, Z4, Z4, Z4, Z4, Z4, Z4, Z4, Z4, Z4, Z4, Z4, Z4, Z4, Z4, Z4, Z4] rfl rfl (any_of HT_.out (by kernel_rfl)) (fun _ _ _ h => h) (Or.inl ⟨by rfl, ?_⟩) ?_ ?_
          rotate_left
          ·intro w'
           go_simp
           with_reducible rfl
          rotate_left
          ·simp only [Act.put, List.setIfInBounds_toArray, List.set_cons_zero, List.set_cons_succ, i64_w, i32_w]
           rfl
          refine pure_ (i := 5) (N := some 21) (v := ?_) (a' := ?_) #[Y4, Y4, Y4, Y4, Z4, Y4, Z4, Z4, Z4, Z4, Z4, Z4, Z4, Z4, Z4, Z4, Z4, Z4, Z4, Z4, Z4, Z4, Z4, Z4, Z4, Z4, Z4, Z4, Z4, Z4, Z4, Z4, Z4, Z4, Z4, Z4, Z4, Z4, Z4, Z4, Z4, Z4, Z4, Z4, Z4, Z4, Z4, Z4, Z4, Z4, Z4] rfl rfl (any_of HT_.out (by kernel_rfl)) (fun _ _ _ h => h) (Or.inl ⟨by rfl, ?_⟩) ?_ ?_
          rotate_left
          ·intro w'
           go_simp
           with_reducible rfl
          rotate_left
          ·simp only [Act.put, List.setIfInBounds_toArray, List.set_cons_zero, List.set_cons_succ, i64_w, i32_w]
           rfl
          refine pure_ (i := 6) (N := some 22) (v := ?_) (a' := ?_) #[Y4, Y4, Y4, Y4, Z4, Y4, Y4, Z4, Z4, Z4, Z4, Z4, Z4, Z4, Z4, Z4, Z4, Z4, Z4, Z4, Z4, Z4, Z4, Z4, Z4, Z4, Z4, Z4, Z4, Z4, Z4, Z4, Z4, Z4, Z4, Z4, Z4, Z4, Z4, Z4, Z4, Z4, Z4, Z4, Z4, Z4, Z4, Z4, Z4, Z4, Z4] rfl rfl (any_of HT_.out (by kernel_rfl)) (fun _ _ _ h => h) (Or.inl ⟨by rfl, ?_⟩) ?_ ?_
          rotate_left
          ·intro w'
           go_simp
           with_reducible rfl
          rotate_left
          ·simp only [Act.put, List.setIfInBounds_toArray, List.set_cons_zero, List.set_cons_succ, i64_w, i32_w]
           rfl
          refine pure_ (i := 7) (N := some 23) (v := ?_) (a' := ?_) #[Y4, Y4, Y4, Y4, Z4, Y4, Y4, Y4, Z4, Z4, Z4, Z4, Z4, Z4, Z4, Z4, Z4, Z4, Z4, Z4, Z4, Z4, Z4, Z4, Z4, Z4, Z4, Z4, Z4, Z4, Z4, Z4, Z4, Z4, Z4, Z4, Z4, Z4, Z4, Z4, Z4, Z4, Z4, Z4, Z4, Z4, Z4, Z4, Z4, Z4, Z4] rfl rfl (any_of HT_.out (by kernel_rfl)) (fun _ _ _ h => h) (Or.inl ⟨by rfl, ?_⟩) ?_ ?_
          rotate_left
          ·intro w'
           go_simp
           with_reducible rfl
          rotate_left
          ·simp only [Act.put, List.setIfInBounds_toArray, List.set_cons_zero, List.set_cons_succ, i64_w, i32_w]
           rfl
          refine pure_ (i := 8) (N := some 24) (v := ?_) (a' := ?_) #[Y4, Y4, Y4, Y4, Z4, Y4, Y4, Y4, Y4, Z4, Z4, Z4, Z4, Z4, Z4, Z4, Z4, Z4, Z4, Z4, Z4, Z4, Z4, Z4, Z4, Z4, Z4, Z4, Z4, Z4, Z4, Z4, Z4, Z4, Z4, Z4, Z4, Z4, Z4, Z4, Z4, Z4, Z4, Z4, Z4, Z4, Z4, Z4, Z4, Z4, Z4] rfl rfl (any_of HT_.out (by kernel_rfl)) (fun _ _ _ h => h) (Or.inl ⟨by rfl, ?_⟩) ?_ ?_
          rotate_left
          ·intro w'
           go_simp
           with_reducible rfl
          rotate_left
          ·simp only [Act.put, List.setIfInBounds_toArray, List.set_cons_zero, List.set_cons_succ, i64_w, i32_w]
           rfl
          refine take_ (i := 4) (N := some 20) (v := ?_) (a' := ?_) #[Y4, Y4, Y4, Y4, Y4, Y4, Y4, Y4, Y4, Z4, Z4, Z4, Z4, Z4, Z4, Z4, Z4, Z4, Z4, Z4, Z4, Z4, Z4, Z4, Z4, Z4, Z4, Z4, Z4, Z4, Z4, Z4, Z4, Z4, Z4, Z4, Z4, Z4, Z4, Z4, Z4, Z4, Z4, Z4, Z4, Z4, Z4, Z4, Z4, Z4, Z4] rfl rfl (take_ofW HT_.out HW_.out (by kernel_rfl)) (fun _ _ _ h => h) (Or.inl ⟨by rfl, ?_⟩) hHeld ?_ ?_
          rotate_left
          ·rintro w' ⟨s0, s1, s2, s3, s4, s5, s6, s7, s8, s9, s10, s11, s12, s13, s14, s15⟩
           go_simp
           with_reducible rfl
          rotate_left
          ·simp only [Act.put, List.setIfInBounds_toArray, List.set_cons_zero, List.set_cons_succ, i64_w, i32_w]
           rfl
          refine take_ (i := 9) (N := some 25) (v := ?_) (a' := ?_) #[Y4, Y4, Y4, Y4, Y4, Y4, Y4, Y4, Y4, Y4, Z4, Z4, Z4, Z4, Z4, Z4, Z4, Z4, Z4, Z4, Z4, Z4, Z4, Z4, Z4, Z4, Z4, Z4, Z4, Z4, Z4, Z4, Z4, Z4, Z4, Z4, Z4, Z4, Z4, Z4, Z4, Z4, Z4, Z4, Z4, Z4, Z4, Z4, Z4, Z4, Z4] rfl rfl (take_ofW HT_.out HW_.out (by kernel_rfl)) (fun _ _ _ h => h) (Or.inl ⟨by rfl, ?_⟩) hHeld ?_ ?_
          rotate_left
          ·rintro w' ⟨s0, s1, s2, s3, s4, s5, s6, s7, s8, s9, s10, s11, s12, s13, s14, s15⟩
           go_simp
           with_reducible rfl
          rotate_left
          ·simp only [Act.put, List.setIfInBounds_toArray, List.set_cons_zero, List.set_cons_succ, i64_w, i32_w]
           rfl
          refine pure_ (i := 10) (N := some 26) (v := ?_) (a' := ?_) #[Y4, Y4, Y4, Y4, Y4, Y4, Y4, Y4, Y4, Y4, Y4, Z4, Z4, Z4, Z4, Z4, Z4, Z4, Z4, Z4, Z4, Z4, Z4, Z4, Z4, Z4, Z4, Z4, Z4, Z4, Z4, Z4, Z4, Z4, Z4, Z4, Z4, Z4, Z4, Z4, Z4, Z4, Z4, Z4, Z4, Z4, Z4, Z4, Z4, Z4, Z4] rfl rfl (any_of HT_.out (by kernel_rfl)) (fun _ _ _ h => h) (Or.inl ⟨by rfl, ?_⟩) ?_ ?_
          rotate_left
          ·intro w'
           go_simp
           with_reducible rfl
          rotate_left
          ·simp only [Act.put, List.setIfInBounds_toArray, List.set_cons_zero, List.set_cons_succ, i64_w, i32_w]
           rfl
          refine pure_ (i := 11) (N := some 27) (v := ?_) (a' := ?_) #[Y4, Y4, Y4, Y4, Y4, Y4, Y4, Y4, Y4, Y4, Y4, Y4, Z4, Z4, Z4, Z4, Z4, Z4, Z4, Z4, Z4, Z4, Z4, Z4, Z4, Z4, Z4, Z4, Z4, Z4, Z4, Z4, Z4, Z4, Z4, Z4, Z4, Z4, Z4, Z4, Z4, Z4, Z4, Z4, Z4, Z4, Z4, Z4, Z4, Z4, Z4] rfl rfl (any_of HT_.out (by kernel_rfl)) (fun _ _ _ h => h) (Or.inl ⟨by rfl, ?_⟩) ?_ ?_
          rotate_left
          ·intro w'
           go_simp
           with_reducible rfl
          rotate_left
          ·simp only [Act.put, List.setIfInBounds_toArray, List.set_cons_zero, List.set_cons_succ, i64_w, i32_w]
           rfl
          refine pure_ (i := 12) (N := some 28) (v := ?_) (a' := ?_) #[Y4, Y4, Y4, Y4, Y4, Y4, Y4, Y4, Y4, Y4, Y4, Y4, Y4, Z4, Z4, Z4, Z4, Z4, Z4, Z4, Z4, Z4, Z4, Z4, Z4, Z4, Z4, Z4, Z4, Z4, Z4, Z4, Z4, Z4, Z4, Z4, Z4, Z4, Z4, Z4, Z4, Z4, Z4, Z4, Z4, Z4, Z4, Z4, Z4, Z4, Z4] rfl rfl (any_of HT_.out (by kernel_rfl)) (fun _ _ _ h => h) (Or.inl ⟨by rfl, ?_⟩) ?_ ?_
          rotate_left
          ·intro w'
           go_simp
           with_reducible rfl
          rotate_left
          ·simp only [Act.put, List.setIfInBounds_toArray, List.set_cons_zero, List.set_cons_succ, i64_w, i32_w]
           rfl
          refine pure_ (i := 13) (N := some 29) (v := ?_) (a' := ?_) #[Y4, Y4, Y4, Y4, Y4, Y4, Y4, Y4, Y4, Y4, Y4, Y4, Y4, Y4, Z4, Z4, Z4, Z4, Z4, Z4, Z4, Z4, Z4, Z4, Z4, Z4, Z4, Z4, Z4, Z4, Z4, Z4, Z4, Z4, Z4, Z4, Z4, Z4, Z4, Z4, Z4, Z4, Z4, Z4, Z4, Z4, Z4, Z4, Z4, Z4, Z4] rfl rfl (any_of HT_.out (by kernel_rfl)) (fun _ _ _ h => h) (Or.inl ⟨by rfl, ?_⟩) ?_ ?_
          rotate_left
          ·intro w'
           go_simp
           with_reducible rfl
          rotate_left
          ·simp only [Act.put, List.setIfInBounds_toArray, List.set_cons_zero, List.set_cons_succ, i64_w, i32_w]
           rfl
          refine pure_ (i := 14) (N := some 30) (v := ?_) (a' := ?_) #[Y4, Y4, Y4, Y4, Y4, Y4, Y4, Y4, Y4, Y4, Y4, Y4, Y4, Y4, Y4, Z4, Z4, Z4, Z4, Z4, Z4, Z4, Z4, Z4, Z4, Z4, Z4, Z4, Z4, Z4, Z4, Z4, Z4, Z4, Z4, Z4, Z4, Z4, Z4, Z4, Z4, Z4, Z4, Z4, Z4, Z4, Z4, Z4, Z4, Z4, Z4] rfl rfl (any_of HT_.out (by kernel_rfl)) (fun _ _ _ h => h) (Or.inl ⟨by rfl, ?_⟩) ?_ ?_
          rotate_left
          ·intro w'
           go_simp
           with_reducible rfl
          rotate_left
          ·simp only [Act.put, List.setIfInBounds_toArray, List.set_cons_zero, List.set_cons_succ, i64_w, i32_w]
           rfl
          refine pure_ (i := 15) (N := some 31) (v := ?_) (a' := ?_) #[Y4, Y4, Y4, Y4, Y4, Y4, Y4, Y4, Y4, Y4, Y4, Y4, Y4, Y4, Y4, Y4, Z4, Z4, Z4, Z4, Z4, Z4, Z4, Z4, Z4, Z4, Z4, Z4, Z4, Z4, Z4, Z4, Z4, Z4, Z4, Z4, Z4, Z4, Z4, Z4, Z4, Z4, Z4, Z4, Z4, Z4, Z4, Z4, Z4, Z4, Z4] rfl rfl (any_of HT_.out (by kernel_rfl)) (fun _ _ _ h => h) (Or.inl ⟨by rfl, ?_⟩) ?_ ?_
          rotate_left
          ·intro w'
           go_simp
           with_reducible rfl
          rotate_left
          ·simp only [Act.put, List.setIfInBounds_toArray, List.set_cons_zero, List.set_cons_succ, i64_w, i32_w]
           rfl
          refine pure_ (i := 17) (N := some 33) (v := ?_) (a' := ?_) #[Y4, Y4, Y4, Y4, Y4, Y4, Y4, Y4, Y4, Y4, Y4, Y4, Y4, Y4, Y4, Y4, Z4, Y4, Z4, Z4, Z4, Z4, Z4, Z4, Z4, Z4, Z4, Z4, Z4, Z4, Z4, Z4, Z4, Z4, Z4, Z4, Z4, Z4, Z4, Z4, Z4, Z4, Z4, Z4, Z4, Z4, Z4, Z4, Z4, Z4, Z4] rfl rfl (any_of HT_.out (by kernel_rfl)) (fun _ _ _ h => h) (Or.inl ⟨by rfl, ?_⟩) ?_ ?_
          rotate_left
          ·intro w'
           go_simp
           with_reducible rfl
          rotate_left
          ·simp only [Act.put, List.setIfInBounds_toArray, List.set_cons_zero, List.set_cons_succ, i64_w, i32_w]
           rfl
          refine pure_ (i := 18) (N := some 34) (v := ?_) (a' := ?_) #[Y4, Y4, Y4, Y4, Y4, Y4, Y4, Y4, Y4, Y4, Y4, Y4, Y4, Y4, Y4, Y4, Z4, Y4, Y4, Z4, Z4, Z4, Z4, Z4, Z4, Z4, Z4, Z4, Z4, Z4, Z4, Z4, Z4, Z4, Z4, Z4, Z4, Z4, Z4, Z4, Z4, Z4, Z4, Z4, Z4, Z4, Z4, Z4, Z4, Z4, Z4] rfl rfl (any_of HT_.out (by kernel_rfl)) (fun _ _ _ h => h) (Or.inl ⟨by rfl, ?_⟩) ?_ ?_
          rotate_left
          ·intro w'
           go_simp
           with_reducible rfl
          rotate_left
          ·simp only [Act.put, List.setIfInBounds_toArray, List.set_cons_zero, List.set_cons_succ, i64_w, i32_w]
           rfl
          refine pure_ (i := 19) (N := some 35) (v := ?_) (a' := ?_) #[Y4, Y4, Y4, Y4, Y4, Y4, Y4, Y4, Y4, Y4, Y4, Y4, Y4, Y4, Y4, Y4, Z4, Y4, Y4, Y4, Z4, Z4, Z4, Z4, Z4, Z4, Z4, Z4, Z4, Z4, Z4, Z4, Z4, Z4, Z4, Z4, Z4, Z4, Z4, Z4, Z4, Z4, Z4, Z4, Z4, Z4, Z4, Z4, Z4, Z4, Z4] rfl rfl (any_of HT_.out (by kernel_rfl)) (fun _ _ _ h => h) (Or.inl ⟨by rfl, ?_⟩) ?_ ?_
          rotate_left
          ·intro w'
           go_simp
           with_reducible rfl
          rotate_left
          ·simp only [Act.put, List.setIfInBounds_toArray, List.set_cons_zero, List.set_cons_succ, i64_w, i32_w]
           rfl
          refine pure_ (i := 20) (N := some 36) (v := ?_) (a' := ?_) #[Y4, Y4, Y4, Y4, Y4, Y4, Y4, Y4, Y4, Y4, Y4, Y4, Y4, Y4, Y4, Y4, Z4, Y4, Y4, Y4, Y4, Z4, Z4, Z4, Z4, Z4, Z4, Z4, Z4, Z4, Z4, Z4, Z4, Z4, Z4, Z4, Z4, Z4, Z4, Z4, Z4, Z4, Z4, Z4, Z4, Z4, Z4, Z4, Z4, Z4, Z4] rfl rfl (any_of HT_.out (by kernel_rfl)) (fun _ _ _ h => h) (Or.inl ⟨by rfl, ?_⟩) ?_ ?_
          rotate_left
          ·intro w'
           go_simp
           with_reducible rfl
          rotate_left
          ·simp only [Act.put, List.setIfInBounds_toArray, List.set_cons_zero, List.set_cons_succ, i64_w, i32_w]
           rfl
          refine take_ (i := 16) (N := some 32) (v := ?_) (a' := ?_) #[Y4, Y4, Y4, Y4, Y4, Y4, Y4, Y4, Y4, Y4, Y4, Y4, Y4, Y4, Y4, Y4, Y4, Y4, Y4, Y4, Y4, Z4, Z4, Z4, Z4, Z4, Z4, Z4, Z4, Z4, Z4, Z4, Z4, Z4, Z4, Z4, Z4, Z4, Z4, Z4, Z4, Z4, Z4, Z4, Z4, Z4, Z4, Z4, Z4, Z4, Z4] rfl rfl (take_ofW HT_.out HW_.out (by kernel_rfl)) (fun _ _ _ h => h) (Or.inl ⟨by rfl, ?_⟩) hHeld ?_ ?_
          rotate_left
          ·rintro w' ⟨s0, s1, s2, s3, s4, s5, s6, s7, s8, s9, s10, s11, s12, s13, s14, s15⟩
           go_simp
           with_reducible rfl
          rotate_left
          ·simp only [Act.put, List.setIfInBounds_toArray, List.set_cons_zero, List.set_cons_succ, i64_w, i32_w]
           rfl
          refine take_ (i := 21) (N := some 37) (v := ?_) (a' := ?_) #[Y4, Y4, Y4, Y4, Y4, Y4, Y4, Y4, Y4, Y4, Y4, Y4, Y4, Y4, Y4, Y4, Y4, Y4, Y4, Y4, Y4, Y4, Z4, Z4, Z4, Z4, Z4, Z4, Z4, Z4, Z4, Z4, Z4, Z4, Z4, Z4, Z4, Z4, Z4, Z4, Z4, Z4, Z4, Z4, Z4, Z4, Z4, Z4, Z4, Z4, Z4] rfl rfl (take_ofW HT_.out HW_.out (by kernel_rfl)) (fun _ _ _ h => h) (Or.inl ⟨by rfl, ?_⟩) hHeld ?_ ?_
          rotate_left
          ·rintro w' ⟨s0, s1, s2, s3, s4, s5, s6, s7, s8, s9, s10, s11, s12, s13, s14, s15⟩
           go_simp
           with_reducible rfl
          rotate_left
          ·simp only [Act.put, List.setIfInBounds_toArray, List.set_cons_zero, List.set_cons_succ, i64_w, i32_w]
           rfl
          refine pure_ (i := 22) (N := some 38) (v := ?_) (a' := ?_) #[Y4, Y4, Y4, Y4, Y4, Y4, Y4, Y4, Y4, Y4, Y4, Y4, Y4, Y4, Y4, Y4, Y4, Y4, Y4, Y4, Y4, Y4, Y4, Z4, Z4, Z4, Z4, Z4, Z4, Z4, Z4, Z4, Z4, Z4, Z4, Z4, Z4, Z4, Z4, Z4, Z4, Z4, Z4, Z4, Z4, Z4, Z4, Z4, Z4, Z4, Z4] rfl rfl (any_of HT_.out (by kernel_rfl)) (fun _ _ _ h => h) (Or.inl ⟨by rfl, ?_⟩) ?_ ?_
          rotate_left
          ·intro w'
           go_simp
           with_reducible rfl
          rotate_left
          ·simp only [Act.put, List.setIfInBounds_toArray, List.set_cons_zero, List.set_cons_succ, i64_w, i32_w]
           rfl
          refine pure_ (i := 23) (N := some 39) (v := ?_) (a' := ?_) #[Y4, Y4, Y4, Y4, Y4, Y4, Y4, Y4, Y4, Y4, Y4, Y4, Y4, Y4, Y4, Y4, Y4, Y4, Y4, Y4, Y4, Y4, Y4, Y4, Z4, Z4, Z4, Z4, Z4, Z4, Z4, Z4, Z4, Z4, Z4, Z4, Z4, Z4, Z4, Z4, Z4, Z4, Z4, Z4, Z4, Z4, Z4, Z4, Z4, Z4, Z4] rfl rfl (any_of HT_.out (by kernel_rfl)) (fun _ _ _ h => h) (Or.inl ⟨by rfl, ?_⟩) ?_ ?_
          rotate_left
          ·intro w'
           go_simp
           with_reducible rfl
          rotate_left
          ·simp only [Act.put, List.setIfInBounds_toArray, List.set_cons_zero, List.set_cons_succ, i64_w, i32_w]
           rfl
          refine pure_ (i := 24) (N := some 40) (v := ?_) (a' := ?_) #[Y4, Y4, Y4, Y4, Y4, Y4, Y4, Y4, Y4, Y4, Y4, Y4, Y4, Y4, Y4, Y4, Y4, Y4, Y4, Y4, Y4, Y4, Y4, Y4, Y4, Z4, Z4, Z4, Z4, Z4, Z4, Z4, Z4, Z4, Z4, Z4, Z4, Z4, Z4, Z4, Z4, Z4, Z4, Z4, Z4, Z4, Z4, Z4, Z4, Z4, Z4] rfl rfl (any_of HT_.out (by kernel_rfl)) (fun _ _ _ h => h) (Or.inl ⟨by rfl, ?_⟩) ?_ ?_
          rotate_left
          ·intro w'
           go_simp
           with_reducible rfl
          rotate_left
          ·simp only [Act.put, List.setIfInBounds_toArray, List.set_cons_zero, List.set_cons_succ, i64_w, i32_w]
           rfl
          refine pure_ (i := 25) (N := some 41) (v := undef) (a' := ?_) #[Y4, Y4, Y4, Y4, Y4, Y4, Y4, Y4, Y4, Y4, Y4, Y4, Y4, Y4, Y4, Y4, Y4, Y4, Y4, Y4, Y4, Y4, Y4, Y4, Y4, Y4, Z4, Z4, Z4, Z4, Z4, Z4, Z4, Z4, Z4, Z4, Z4, Z4, Z4, Z4, Z4, Z4, Z4, Z4, Z4, Z4, Z4, Z4, Z4, Z4, Z4] rfl rfl (any_of HT_.out (by kernel_rfl)) (fun _ _ _ h => h) (Or.inr ⟨by rfl, rfl⟩) ?_ ?_
          rotate_left
          ·simp only [Act.put, List.setIfInBounds_toArray, List.set_cons_zero, List.set_cons_succ, i64_w, i32_w]
           rfl
          refine pure_ (i := 26) (N := some 42) (v := undef) (a' := ?_) #[Y4, Y4, Y4, Y4, Y4, Y4, Y4, Y4, Y4, Y4, Y4, Y4, Y4, Y4, Y4, Y4, Y4, Y4, Y4, Y4, Y4, Y4, Y4, Y4, Y4, Y4, Y4, Z4, Z4, Z4, Z4, Z4, Z4, Z4, Z4, Z4, Z4, Z4, Z4, Z4, Z4, Z4, Z4, Z4, Z4, Z4, Z4, Z4, Z4, Z4, Z4] rfl rfl (any_of HT_.out (by kernel_rfl)) (fun _ _ _ h => h) (Or.inr ⟨by rfl, rfl⟩) ?_ ?_
          rotate_left
          ·simp only [Act.put, List.setIfInBounds_toArray, List.set_cons_zero, List.set_cons_succ, i64_w, i32_w]
           rfl
          refine pure_ (i := 27) (N := some 43) (v := undef) (a' := ?_) #[Y4, Y4, Y4, Y4, Y4, Y4, Y4, Y4, Y4, Y4, Y4, Y4, Y4, Y4, Y4, Y4, Y4, Y4, Y4, Y4, Y4, Y4, Y4, Y4, Y4, Y4, Y4, Y4, Z4, Z4, Z4, Z4, Z4, Z4, Z4, Z4, Z4, Z4, Z4, Z4, Z4, Z4, Z4, Z4, Z4, Z4, Z4, Z4, Z4, Z4, Z4] rfl rfl (any_of HT_.out (by kernel_rfl)) (fun _ _ _ h => h) (Or.inr ⟨by rfl, rfl⟩) ?_ ?_
          rotate_left
          ·simp only [Act.put, List.setIfInBounds_toArray, List.set_cons_zero, List.set_cons_succ, i64_w, i32_w]
           rfl
          refine pure_ (i := 28) (N := some 44) (v := undef) (a' := ?_) #[Y4, Y4, Y4, Y4, Y4, Y4, Y4, Y4, Y4, Y4, Y4, Y4, Y4, Y4, Y4, Y4, Y4, Y4, Y4, Y4, Y4, Y4, Y4, Y4, Y4, Y4, Y4, Y4, Y4, Z4, Z4, Z4, Z4, Z4, Z4, Z4, Z4, Z4, Z4, Z4, Z4, Z4, Z4, Z4, Z4, Z4, Z4, Z4, Z4, Z4, Z4] rfl rfl (any_of HT_.out (by kernel_rfl)) (fun _ _ _ h => h) (Or.inr ⟨by rfl, rfl⟩) ?_ ?_
          rotate_left
          ·simp only [Act.put, List.setIfInBounds_toArray, List.set_cons_zero, List.set_cons_succ, i64_w, i32_w]
           rfl
          refine pure_ (i := 29) (N := some 45) (v := undef) (a' := ?_) #[Y4, Y4, Y4, Y4, Y4, Y4, Y4, Y4, Y4, Y4, Y4, Y4, Y4, Y4, Y4, Y4, Y4, Y4, Y4, Y4, Y4, Y4, Y4, Y4, Y4, Y4, Y4, Y4, Y4, Y4, Z4, Z4, Z4, Z4, Z4, Z4, Z4, Z4, Z4, Z4, Z4, Z4, Z4, Z4, Z4, Z4, Z4, Z4, Z4, Z4, Z4] rfl rfl (any_of HT_.out (by kernel_rfl)) (fun _ _ _ h => h) (Or.inr ⟨by rfl, rfl⟩) ?_ ?_
          rotate_left
          ·simp only [Act.put, List.setIfInBounds_toArray, List.set_cons_zero, List.set_cons_succ, i64_w, i32_w]
           rfl
          refine pure_ (i := 30) (N := some 46) (v := undef) (a' := ?_) #[Y4, Y4, Y4, Y4, Y4, Y4, Y4, Y4, Y4, Y4, Y4, Y4, Y4, Y4, Y4, Y4, Y4, Y4, Y4, Y4, Y4, Y4, Y4, Y4, Y4, Y4, Y4, Y4, Y4, Y4, Y4, Z4, Z4, Z4, Z4, Z4, Z4, Z4, Z4, Z4, Z4, Z4, Z4, Z4, Z4, Z4, Z4, Z4, Z4, Z4, Z4] rfl rfl (any_of HT_.out (by kernel_rfl)) (fun _ _ _ h => h) (Or.inr ⟨by rfl, rfl⟩) ?_ ?_
          rotate_left
          ·simp only [Act.put, List.setIfInBounds_toArray, List.set_cons_zero, List.set_cons_succ, i64_w, i32_w]
           rfl
          refine pure_ (i := 31) (N := some 47) (v := undef) (a' := ?_) #[Y4, Y4, Y4, Y4, Y4, Y4, Y4, Y4, Y4, Y4, Y4, Y4, Y4, Y4, Y4, Y4, Y4, Y4, Y4, Y4, Y4, Y4, Y4, Y4, Y4, Y4, Y4, Y4, Y4, Y4, Y4, Y4, Z4, Z4, Z4, Z4, Z4, Z4, Z4, Z4, Z4, Z4, Z4, Z4, Z4, Z4, Z4, Z4, Z4, Z4, Z4] rfl rfl (any_of HT_.out (by kernel_rfl)) (fun _ _ _ h => h) (Or.inr ⟨by rfl, rfl⟩) ?_ ?_
          rotate_left
          ·simp only [Act.put, List.setIfInBounds_toArray, List.set_cons_zero, List.set_cons_succ, i64_w, i32_w]
           rfl
          refine pure_ (i := 32) (N := some 48) (v := undef) (a' := ?_) #[Y4, Y4, Y4, Y4, Y4, Y4, Y4, Y4, Y4, Y4, Y4, Y4, Y4, Y4, Y4, Y4, Y4, Y4, Y4, Y4, Y4, Y4, Y4, Y4, Y4, Y4, Y4, Y4, Y4, Y4, Y4, Y4, Y4, Z4, Z4, Z4, Z4, Z4, Z4, Z4, Z4, Z4, Z4, Z4, Z4, Z4, Z4, Z4, Z4, Z4, Z4] rfl rfl (any_of HT_.out (by kernel_rfl)) (fun _ _ _ h => h) (Or.inr ⟨by rfl, rfl⟩) ?_ ?_
          rotate_left
          ·simp only [Act.put, List.setIfInBounds_toArray, List.set_cons_zero, List.set_cons_succ, i64_w, i32_w]
           rfl
          refine pure_ (i := 33) (N := some 49) (v := undef) (a' := ?_) #[Y4, Y4, Y4, Y4, Y4, Y4, Y4, Y4, Y4, Y4, Y4, Y4, Y4, Y4, Y4, Y4, Y4, Y4, Y4, Y4, Y4, Y4, Y4, Y4, Y4, Y4, Y4, Y4, Y4, Y4, Y4, Y4, Y4, Y4, Z4, Z4, Z4, Z4, Z4, Z4, Z4, Z4, Z4, Z4, Z4, Z4, Z4, Z4, Z4, Z4, Z4] rfl rfl (any_of HT_.out (by kernel_rfl)) (fun _ _ _ h => h) (Or.inr ⟨by rfl, rfl⟩) ?_ ?_
          rotate_left
          ·simp only [Act.put, List.setIfInBounds_toArray, List.set_cons_zero, List.set_cons_succ, i64_w, i32_w]
           rfl
          refine pure_ (i := 34) (N := some 50) (v := undef) (a' := ?_) #[Y4, Y4, Y4, Y4, Y4, Y4, Y4, Y4, Y4, Y4, Y4, Y4, Y4, Y4, Y4, Y4, Y4, Y4, Y4, Y4, Y4, Y4, Y4, Y4, Y4, Y4, Y4, Y4, Y4, Y4, Y4, Y4, Y4, Y4, Y4, Z4, Z4, Z4, Z4, Z4, Z4, Z4, Z4, Z4, Z4, Z4, Z4, Z4, Z4, Z4, Z4] rfl rfl (any_of HT_.out (by kernel_rfl)) (fun _ _ _ h => h) (Or.inr ⟨by rfl, rfl⟩) ?_ ?_
          rotate_left
          ·simp only [Act.put, List.setIfInBounds_toArray, List.set_cons_zero, List.set_cons_succ, i64_w, i32_w]
           rfl
          refine pure_ (i := 35) (N := some 51) (v := undef) (a' := ?_) #[Y4, Y4, Y4, Y4, Y4, Y4, Y4, Y4, Y4, Y4, Y4, Y4, Y4, Y4, Y4, Y4, Y4, Y4, Y4, Y4, Y4, Y4, Y4, Y4, Y4, Y4, Y4, Y4, Y4, Y4, Y4, Y4, Y4, Y4, Y4, Y4, Z4, Z4, Z4, Z4, Z4, Z4, Z4, Z4, Z4, Z4, Z4, Z4, Z4, Z4, Z4] rfl rfl (any_of HT_.out (by kernel_rfl)) (fun _ _ _ h => h) (Or.inr ⟨by rfl, rfl⟩) ?_ ?_
          rotate_left
          ·simp only [Act.put, List.setIfInBounds_toArray, List.set_cons_zero, List.set_cons_succ, i64_w, i32_w]
           rfl
          refine pure_ (i := 36) (N := some 52) (v := ?_) (a' := ?_) #[Y4, Y4, Y4, Y4, Y4, Y4, Y4, Y4, Y4, Y4, Y4, Y4, Y4, Y4, Y4, Y4, Y4, Y4, Y4, Y4, Y4, Y4, Y4, Y4, Y4, Y4, Y4, Y4, Y4, Y4, Y4, Y4, Y4, Y4, Y4, Y4, Y4, Z4, Z4, Z4, Z4, Z4, Z4, Z4, Z4, Z4, Z4, Z4, Z4, Z4, Z4] rfl rfl (any_of HT_.out (by kernel_rfl)) (fun _ _ _ h => h) (Or.inl ⟨by rfl, ?_⟩) ?_ ?_
          rotate_left
          ·intro w'
           go_simp
           with_reducible rfl
          rotate_left
          ·simp only [Act.put, List.setIfInBounds_toArray, List.set_cons_zero, List.set_cons_succ, i64_w, i32_w]
           rfl
          refine pure_ (i := 37) (N := some 53) (v := ?_) (a' := ?_) #[Y4, Y4, Y4, Y4, Y4, Y4, Y4, Y4, Y4, Y4, Y4, Y4, Y4, Y4, Y4, Y4, Y4, Y4, Y4, Y4, Y4, Y4, Y4, Y4, Y4, Y4, Y4, Y4, Y4, Y4, Y4, Y4, Y4, Y4, Y4, Y4, Y4, Y4, Z4, Z4, Z4, Z4, Z4, Z4, Z4, Z4, Z4, Z4, Z4, Z4, Z4] rfl rfl (any_of HT_.out (by kernel_rfl)) (fun _ _ _ h => h) (Or.inl ⟨by rfl, ?_⟩) ?_ ?_
          rotate_left
          ·intro w'
           go_simp
           with_reducible rfl
          rotate_left
          ·simp only [Act.put, List.setIfInBounds_toArray, List.set_cons_zero, List.set_cons_succ, i64_w, i32_w]
           rfl
          refine pure_ (i := 38) (N := some 54) (v := undef) (a' := ?_) #[Y4, Y4, Y4, Y4, Y4, Y4, Y4, Y4, Y4, Y4, Y4, Y4, Y4, Y4, Y4, Y4, Y4, Y4, Y4, Y4, Y4, Y4, Y4, Y4, Y4, Y4, Y4, Y4, Y4, Y4, Y4, Y4, Y4, Y4, Y4, Y4, Y4, Y4, Y4, Z4, Z4, Z4, Z4, Z4, Z4, Z4, Z4, Z4, Z4, Z4, Z4] rfl rfl (any_of HT_.out (by kernel_rfl)) (fun _ _ _ h => h) (Or.inr ⟨by rfl, rfl⟩) ?_ ?_
          rotate_left
          ·simp only [Act.put, List.setIfInBounds_toArray, List.set_cons_zero, List.set_cons_succ, i64_w, i32_w]
           rfl
          refine pure_ (i := 39) (N := some 55) (v := undef) (a' := ?_) #[Y4, Y4, Y4, Y4, Y4, Y4, Y4, Y4, Y4, Y4, Y4, Y4, Y4, Y4, Y4, Y4, Y4, Y4, Y4, Y4, Y4, Y4, Y4, Y4, Y4, Y4, Y4, Y4, Y4, Y4, Y4, Y4, Y4, Y4, Y4, Y4, Y4, Y4, Y4, Y4, Z4, Z4, Z4, Z4, Z4, Z4, Z4, Z4, Z4, Z4, Z4] rfl rfl (any_of HT_.out (by kernel_rfl)) (fun _ _ _ h => h) (Or.inr ⟨by rfl, rfl⟩) ?_ ?_
          rotate_left
          ·simp only [Act.put, List.setIfInBounds_toArray, List.set_cons_zero, List.set_cons_succ, i64_w, i32_w]
           rfl
          refine pure_ (i := 40) (N := some 56) (v := undef) (a' := ?_) #[Y4, Y4, Y4, Y4, Y4, Y4, Y4, Y4, Y4, Y4, Y4, Y4, Y4, Y4, Y4, Y4, Y4, Y4, Y4, Y4, Y4, Y4, Y4, Y4, Y4, Y4, Y4, Y4, Y4, Y4, Y4, Y4, Y4, Y4, Y4, Y4, Y4, Y4, Y4, Y4, Y4, Z4, Z4, Z4, Z4, Z4, Z4, Z4, Z4, Z4, Z4] rfl rfl (any_of HT_.out (by kernel_rfl)) (fun _ _ _ h => h) (Or.inr ⟨by rfl, rfl⟩) ?_ ?_
          rotate_left
          ·simp only [Act.put, List.setIfInBounds_toArray, List.set_cons_zero, List.set_cons_succ, i64_w, i32_w]
           rfl
          refine pure_ (i := 41) (N := some 57) (v := undef) (a' := ?_) #[Y4, Y4, Y4, Y4, Y4, Y4, Y4, Y4, Y4, Y4, Y4, Y4, Y4, Y4, Y4, Y4, Y4, Y4, Y4, Y4, Y4, Y4, Y4, Y4, Y4, Y4, Y4, Y4, Y4, Y4, Y4, Y4, Y4, Y4, Y4, Y4, Y4, Y4, Y4, Y4, Y4, Y4, Z4, Z4, Z4, Z4, Z4, Z4, Z4, Z4, Z4] rfl rfl (any_of HT_.out (by kernel_rfl)) (fun _ _ _ h => h) (Or.inr ⟨by rfl, rfl⟩) ?_ ?_
          rotate_left
          ·simp only [Act.put, List.setIfInBounds_toArray, List.set_cons_zero, List.set_cons_succ, i64_w, i32_w]
           rfl
          refine pure_ (i := 42) (N := some 58) (v := undef) (a' := ?_) #[Y4, Y4, Y4, Y4, Y4, Y4, Y4, Y4, Y4, Y4, Y4, Y4, Y4, Y4, Y4, Y4, Y4, Y4, Y4, Y4, Y4, Y4, Y4, Y4, Y4, Y4, Y4, Y4, Y4, Y4, Y4, Y4, Y4, Y4, Y4, Y4, Y4, Y4, Y4, Y4, Y4, Y4, Y4, Z4, Z4, Z4, Z4, Z4, Z4, Z4, Z4] rfl rfl (any_of HT_.out (by kernel_rfl)) (fun _ _ _ h => h) (Or.inr ⟨by rfl, rfl⟩) ?_ ?_
          rotate_left
          ·simp only [Act.put, List.setIfInBounds_toArray, List.set_cons_zero, List.set_cons_succ, i64_w, i32_w]
           rfl
          refine pure_ (i := 43) (N := some 59) (v := undef) (a' := ?_) #[Y4, Y4, Y4, Y4, Y4, Y4, Y4, Y4, Y4, Y4, Y4, Y4, Y4, Y4, Y4, Y4, Y4, Y4, Y4, Y4, Y4, Y4, Y4, Y4, Y4, Y4, Y4, Y4, Y4, Y4, Y4, Y4, Y4, Y4, Y4, Y4, Y4, Y4, Y4, Y4, Y4, Y4, Y4, Y4, Z4, Z4, Z4, Z4, Z4, Z4, Z4] rfl rfl (any_of HT_.out (by kernel_rfl)) (fun _ _ _ h => h) (Or.inr ⟨by rfl, rfl⟩) ?_ ?_
          rotate_left
          ·simp only [Act.put, List.setIfInBounds_toArray, List.set_cons_zero, List.set_cons_succ, i64_w, i32_w]
           rfl
          refine pure_ (i := 44) (N := some 60) (v := undef) (a' := ?_) #[Y4, Y4, Y4, Y4, Y4, Y4, Y4, Y4, Y4, Y4, Y4, Y4, Y4, Y4, Y4, Y4, Y4, Y4, Y4, Y4, Y4, Y4, Y4, Y4, Y4, Y4, Y4, Y4, Y4, Y4, Y4, Y4, Y4, Y4, Y4, Y4, Y4, Y4, Y4, Y4, Y4, Y4, Y4, Y4, Y4, Z4, Z4, Z4, Z4, Z4, Z4] rfl rfl (any_of HT_.out (by kernel_rfl)) (fun _ _ _ h => h) (Or.inr ⟨by rfl, rfl⟩) ?_ ?_
          rotate_left
          ·simp only [Act.put, List.setIfInBounds_toArray, List.set_cons_zero, List.set_cons_succ, i64_w, i32_w]
           rfl
          refine pure_ (i := 45) (N := some 61) (v := undef) (a' := ?_) #[Y4, Y4, Y4, Y4, Y4, Y4, Y4, Y4, Y4, Y4, Y4, Y4, Y4, Y4, Y4, Y4, Y4, Y4, Y4, Y4, Y4, Y4, Y4, Y4, Y4, Y4, Y4, Y4, Y4, Y4, Y4, Y4, Y4, Y4, Y4, Y4, Y4, Y4, Y4, Y4, Y4, Y4, Y4, Y4, Y4, Y4, Z4, Z4, Z4, Z4, Z4] rfl rfl (any_of HT_.out (by kernel_rfl)) (fun _ _ _ h => h) (Or.inr ⟨by rfl, rfl⟩) ?_ ?_
          rotate_left
          ·simp only [Act.put, List.setIfInBounds_toArray, List.set_cons_zero, List.set_cons_succ, i64_w, i32_w]
           rfl
          refine pure_ (i := 46) (N := some 62) (v := undef) (a' := ?_) #[Y4, Y4, Y4, Y4, Y4, Y4, Y4, Y4, Y4, Y4, Y4, Y4, Y4, Y4, Y4, Y4, Y4, Y4, Y4, Y4, Y4, Y4, Y4, Y4, Y4, Y4, Y4, Y4, Y4, Y4, Y4, Y4, Y4, Y4, Y4, Y4, Y4, Y4, Y4, Y4, Y4, Y4, Y4, Y4, Y4, Y4, Y4, Z4, Z4, Z4, Z4] rfl rfl (any_of HT_.out (by kernel_rfl)) (fun _ _ _ h => h) (Or.inr ⟨by rfl, rfl⟩) ?_ ?_
          rotate_left
          ·simp only [Act.put, List.setIfInBounds_toArray, List.set_cons_zero, List.set_cons_succ, i64_w, i32_w]
           rfl
          refine pure_ (i := 47) (N := some 63) (v := undef) (a' := ?_) #[Y4, Y4, Y4, Y4, Y4, Y4, Y4, Y4, Y4, Y4, Y4, Y4, Y4, Y4, Y4, Y4, Y4, Y4, Y4, Y4, Y4, Y4, Y4, Y4, Y4, Y4, Y4, Y4, Y4, Y4, Y4, Y4, Y4, Y4, Y4, Y4, Y4, Y4, Y4, Y4, Y4, Y4, Y4, Y4, Y4, Y4, Y4, Y4, Z4, Z4, Z4] rfl rfl (any_of HT_.out (by kernel_rfl)) (fun _ _ _ h => h) (Or.inr ⟨by rfl, rfl⟩) ?_ ?_
          rotate_left
          ·simp only [Act.put, List.setIfInBounds_toArray, List.set_cons_zero, List.set_cons_succ, i64_w, i32_w]
           rfl
          refine pure_ (i := 48) (N := some 64) (v := undef) (a' := ?_) #[Y4, Y4, Y4, Y4, Y4, Y4, Y4, Y4, Y4, Y4, Y4, Y4, Y4, Y4, Y4, Y4, Y4, Y4, Y4, Y4, Y4, Y4, Y4, Y4, Y4, Y4, Y4, Y4, Y4, Y4, Y4, Y4, Y4, Y4, Y4, Y4, Y4, Y4, Y4, Y4, Y4, Y4, Y4, Y4, Y4, Y4, Y4, Y4, Y4, Z4, Z4] rfl rfl (any_of HT_.out (by kernel_rfl)) (fun _ _ _ h => h) (Or.inr ⟨by rfl, rfl⟩) ?_ ?_
          rotate_left
          ·simp only [Act.put, List.setIfInBounds_toArray, List.set_cons_zero, List.set_cons_succ, i64_w, i32_w]
           rfl
          refine pure_ (i := 49) (N := some 65) (v := undef) (a' := ?_) #[Y4, Y4, Y4, Y4, Y4, Y4, Y4, Y4, Y4, Y4, Y4, Y4, Y4, Y4, Y4, Y4, Y4, Y4, Y4, Y4, Y4, Y4, Y4, Y4, Y4, Y4, Y4, Y4, Y4, Y4, Y4, Y4, Y4, Y4, Y4, Y4, Y4, Y4, Y4, Y4, Y4, Y4, Y4, Y4, Y4, Y4, Y4, Y4, Y4, Y4, Z4] rfl rfl (any_of HT_.out (by kernel_rfl)) (fun _ _ _ h => h) (Or.inr ⟨by rfl, rfl⟩) ?_ ?_
          rotate_left
          ·simp only [Act.put, List.setIfInBounds_toArray, List.set_cons_zero, List.set_cons_succ, i64_w, i32_w]
           rfl
          refine pure_ (i := 50) (N := some 66) (v := ?_) (a' := ?_) #[Y4, Y4, Y4, Y4, Y4, Y4, Y4, Y4, Y4, Y4, Y4, Y4, Y4, Y4, Y4, Y4, Y4, Y4, Y4, Y4, Y4, Y4, Y4, Y4, Y4, Y4, Y4, Y4, Y4, Y4, Y4, Y4, Y4, Y4, Y4, Y4, Y4, Y4, Y4, Y4, Y4, Y4, Y4, Y4, Y4, Y4, Y4, Y4, Y4, Y4, Y4] rfl rfl (any_of HT_.out (by kernel_rfl)) (fun _ _ _ h => h) (Or.inl ⟨by rfl, ?_⟩) ?_ ?_
          rotate_left
          ·intro w'
           go_simp
           with_reducible rfl
          rotate_left
          ·simp only [Act.put, List.setIfInBounds_toArray, List.set_cons_zero, List.set_cons_succ, i64_w, i32_w]
           rfl
          refine done_ (done_of HT_.out (by kernel_rfl)) ?_
          try go_wp2
          go_ret
          exact ⟨by first | rfl | (simp [errW_none, errW_some] <;> rfl) | (simp [*, errW_none, errW_some] <;> rfl), by repeat (first | (with_reducible first | exact HB.out | apply below_alloc | apply pw_below_drewN | apply below_drew1) | exact HB.out)⟩
        ·rw [if_neg c8] at H
         have c8b0 : (((rd_T32 l0 x13_1).f0) == ((rd_T32 l1 x13_1).f0)) = false := beq_eq_false_iff_ne.mpr c8
         have c8b1 : (((rd_T32 l0 x13_1).f0) != ((rd_T32 l1 x13_1).f0)) = true := bne_iff_ne.mpr c8
         obtain rfl := Option.some.inj H
         try go_wp2
         have n0_ := Aside0.mk (below_drew1 HB.out)
         clear HB
         have HB := n0_
         clear n0_
         have p150 : 0 ≤ (x13_1 : Int) := of_decide_eq_true (by first | (with_reducible assumption) | assumption)
         have q150 : x13_1 < (l0.length : Int) := of_decide_eq_true (by first | (with_reducible assumption) | assumption)
         obtain ⟨ad150, A150_2, c150_2, e150, hx150_0, hx150_1, hx150_2, hx150_3, hl150_2, hi150_2⟩ := at_T32 HR0.out x13_1 p150 q150
         have hw150_3 := hx150_3
         have hw150_2 := hx150_2
         have hw150_1 := hx150_1
         have hw150_0 := hx150_0
         cases e150
         replace hx150_0 := (HB.out.cell (World.block_lt_of_cell? w _ hx150_0)).trans hx150_0
         replace hx150_1 := (HB.out.cell (World.block_lt_of_cell? w _ hx150_1)).trans hx150_1
         replace hx150_2 := (HB.out.cell (World.block_lt_of_cell? w _ hx150_2)).trans hx150_2
         replace hx150_3 := (HB.out.cell (World.block_lt_of_cell? w _ hx150_3)).trans hx150_3
         have HR150_2 := Aside0.mk hi150_2
         have HC150_2 := Aside0.mk hl150_2
         clear hi150_2 hl150_2
         replace p150 := eq_true p150
         replace q150 := eq_true q150
         have p151 : 0 ≤ (x13_1 : Int) := of_decide_eq_true (by first | (with_reducible assumption) | assumption)
         have q151 : x13_1 < (l1.length : Int) := of_decide_eq_true (by first | (with_reducible assumption) | assumption)
         obtain ⟨ad151, A151_2, c151_2, e151, hx151_0, hx151_1, hx151_2, hx151_3, hl151_2, hi151_2⟩ := at_T32 HR1.out x13_1 p151 q151
         have hw151_3 := hx151_3
         have hw151_2 := hx151_2
         have hw151_1 := hx151_1
         have hw151_0 := hx151_0
         cases e151
         replace hx151_0 := (HB.out.cell (World.block_lt_of_cell? w _ hx151_0)).trans hx151_0
         replace hx151_1 := (HB.out.cell (World.block_lt_of_cell? w _ hx151_1)).trans hx151_1
         replace hx151_2 := (HB.out.cell (World.block_lt_of_cell? w _ hx151_2)).trans hx151_2
         replace hx151_3 := (HB.out.cell (World.block_lt_of_cell? w _ hx151_3)).trans hx151_3
         have HR151_2 := Aside0.mk hi151_2
         have HC151_2 := Aside0.mk hl151_2
         clear hi151_2 hl151_2
         replace p151 := eq_true p151
         replace q151 := eq_true q151
         refine start_ (n := 51) (S := fun w' => w'.cell? (ad150.add ((x13_1).toNat * 4)) = some (.int .i64 ((rd_T32 l0 x13_1).f0)) ∧ w'.cell? ⟨(ad150.add ((x13_1).toNat * 4)).block, (ad150.add ((x13_1).toNat * 4)).off + 1, none⟩ = some (.int .i64 ((rd_T32 l0 x13_1).f1)) ∧ w'.cell? ⟨(ad150.add ((x13_1).toNat * 4)).block, (ad150.add ((x13_1).toNat * 4)).off + 2, none⟩ = some (.slice A150_2 ((rd_T32 l0 x13_1).f2).length c150_2) ∧ w'.cell? ⟨(ad150.add ((x13_1).toNat * 4)).block, (ad150.add ((x13_1).toNat * 4)).off + 3, none⟩ = some (.int .i64 ((rd_T32 l0 x13_1).f3)) ∧ w'.cell? (ad151.add ((x13_1).toNat * 4)) = some (.int .i64 ((rd_T32 l1 x13_1).f0)) ∧ w'.cell? ⟨(ad151.add ((x13_1).toNat * 4)).block, (ad151.add ((x13_1).toNat * 4)).off + 1, none⟩ = some (.int .i64 ((rd_T32 l1 x13_1).f1)) ∧ w'.cell? ⟨(ad151.add ((x13_1).toNat * 4)).block, (ad151.add ((x13_1).toNat * 4)).off + 2, none⟩ = some (.slice A151_2 ((rd_T32 l1 x13_1).f2).length c151_2) ∧ w'.cell? ⟨(ad151.add ((x13_1).toNat * 4)).block, (ad151.add ((x13_1).toNat * 4)).off + 3, none⟩ = some (.int .i64 ((rd_T32 l1 x13_1).f3))) (ds := []) #[Z4, Z4, Z4, Z4, Z4, Z4, Z4, Z4, Z4, Z4, Z4, Z4, Z4, Z4, Z4, Z4, Z4, Z4, Z4, Z4, Z4, Z4, Z4, Z4, Z4, Z4, Z4, Z4, Z4, Z4, Z4, Z4, Z4, Z4, Z4, Z4, Z4, Z4, Z4, Z4, Z4, Z4, Z4, Z4, Z4, Z4, Z4, Z4, Z4, Z4, Z4] (by kernel_rfl) rfl rfl ⟨((HB.out.cell (World.block_lt_of_cell? w _ hw150_0)).trans hw150_0), ((HB.out.cell (World.block_lt_of_cell? w _ hw150_1)).trans hw150_1), ((HB.out.cell (World.block_lt_of_cell? w _ hw150_2)).trans hw150_2), ((HB.out.cell (World.block_lt_of_cell? w _ hw150_3)).trans hw150_3), ((HB.out.cell (World.block_lt_of_cell? w _ hw151_0)).trans hw151_0), ((HB.out.cell (World.block_lt_of_cell? w _ hw151_1)).trans hw151_1), ((HB.out.cell (World.block_lt_of_cell? w _ hw151_2)).trans hw151_2), ((HB.out.cell (World.block_lt_of_cell? w _ hw151_3)).trans hw151_3)⟩ (fun hHeld => ?_); refine with_tabW lontarlaw01_Same.tab6 lontarlaw01_Same.bits6 (fun HT_ HW_ => ?_)
         generalize wr.drew = w17 at HB HR150_2 HR151_2 hx150_0 hx150_1 hx150_2 hx150_3 hx151_0 hx151_1 hx151_2 hx151_3 hHeld ⊢
         refine pure_ (i := 0) (N := some 16) (v := ?_) (a' := ?_) #[Y4, Z4, Z4, Z4, Z4, Z4, Z4, Z4, Z4, Z4, Z4, Z4, Z4, Z4, Z4, Z4, Z4, Z4, Z4, Z4, Z4, Z4, Z4, Z4, Z4, Z4, Z4, Z4, Z4, Z4, Z4, Z4, Z4, Z4, Z4, Z4, Z4, Z4, Z4, Z4, Z4, Z4, Z4, Z4, Z4, Z4, Z4, Z4, Z4, Z4, Z4] rfl rfl (any_of HT_.out (by kernel_rfl)) (fun _ _ _ h => h) (Or.inl ⟨by rfl, ?_⟩) ?_ ?_
         rotate_left
         ·intro w'
          go_simp
          with_reducible rfl
         rotate_left
         ·simp only [Act.put, List.setIfInBounds_toArray, List.set_cons_zero, List.set_cons_succ, i64_w, i32_w]
          rfl
         refine pure_ (i := 1) (N := some 17) (v := ?_) (a' := ?_) #[Y4, Y4, Z4, Z4, Z4, Z4, Z4, Z4, Z4, Z4, Z4, Z4, Z4, Z4, Z4, Z4, Z4, Z4, Z4, Z4, Z4, Z4, Z4, Z4, Z4, Z4, Z4, Z4, Z4, Z4, Z4, Z4, Z4, Z4, Z4, Z4, Z4, Z4, Z4, Z4, Z4, Z4, Z4, Z4, Z4, Z4, Z4, Z4, Z4, Z4, Z4] rfl rfl (any_of HT_.out (by kernel_rfl)) (fun _ _ _ h => h) (Or.inl ⟨by rfl, ?_⟩) ?_ ?_
         rotate_left
         ·intro w'
          go_simp
          with_reducible rfl
         rotate_left
         ·simp only [Act.put, List.setIfInBounds_toArray, List.set_cons_zero, List.set_cons_succ, i64_w, i32_w]
          rfl
         refine pure_ (i := 2) (N := some 18) (v := ?_) (a' := ?_) #[Y4, Y4, Y4, Z4, Z4, Z4, Z4, Z4, Z4, Z4, Z4, Z4, Z4, Z4, Z4, Z4, Z4, Z4, Z4, Z4, Z4, Z4, Z4, Z4, Z4, Z4, Z4, Z4, Z4, Z4, Z4, Z4, Z4, Z4, Z4, Z4, Z4, Z4, Z4, Z4, Z4, Z4, Z4, Z4, Z4, Z4, Z4, Z4, Z4, Z4, Z4] rfl rfl (any_of HT_.out (by kernel_rfl)) (fun _ _ _ h => h) (Or.inl ⟨by rfl, ?_⟩) ?_ ?_
         rotate_left
         ·intro w'
          go_simp
          with_reducible rfl
         rotate_left
         ·simp only [Act.put, List.setIfInBounds_toArray, List.set_cons_zero, List.set_cons_succ, i64_w, i32_w]
          rfl
         refine pure_ (i := 3) (N := some 19) (v := ?_) (a' := ?_) #[Y4, Y4, Y4, Y4, Z4, Z4, Z4, Z4, Z4, Z4, Z4, Z4, Z4, Z4, Z4, Z4, Z4, Z4, Z4, Z4, Z4, Z4, Z4, Z4, Z4, Z4, Z4, Z4, Z4, Z4, Z4, Z4, Z4, Z4, Z4, Z4, Z4, Z4, Z4, Z4, Z4, Z4, Z4, Z4, Z4, Z4, Z4, Z4, Z4, Z4, Z4] rfl rfl (any_of HT_.out (by kernel_rfl)) (fun _ _ _ h => h) (Or.inl ⟨by rfl, ?_⟩) ?_ ?_
         rotate_left
         ·intro w'
          go_simp
          with_reducible rfl
         rotate_left
         ·simp only [Act.put, List.setIfInBounds_toArray, List.set_cons_zero, List.set_cons_succ, i64_w, i32_w]
          rfl
         refine pure_ (i := 5) (N := some 21) (v := ?_) (a' := ?_) #[Y4, Y4, Y4, Y4, Z4, Y4, Z4, Z4, Z4, Z4, Z4, Z4, Z4, Z4, Z4, Z4, Z4, Z4, Z4, Z4, Z4, Z4, Z4, Z4, Z4, Z4, Z4, Z4, Z4, Z4, Z4, Z4, Z4, Z4, Z4, Z4, Z4, Z4, Z4, Z4, Z4, Z4, Z4, Z4, Z4, Z4, Z4, Z4, Z4, Z4, Z4] rfl rfl (any_of HT_.out (by kernel_rfl)) (fun _ _ _ h => h) (Or.inl ⟨by rfl, ?_⟩) ?_ ?_
         rotate_left
         ·intro w'
          go_simp
          with_reducible rfl
         rotate_left
         ·simp only [Act.put, List.setIfInBounds_toArray, List.set_cons_zero, List.set_cons_succ, i64_w, i32_w]
          rfl
         refine pure_ (i := 6) (N := some 22) (v := ?_) (a' := ?_) #[Y4, Y4, Y4, Y4, Z4, Y4, Y4, Z4, Z4, Z4, Z4, Z4, Z4, Z4, Z4, Z4, Z4, Z4, Z4, Z4, Z4, Z4, Z4, Z4, Z4, Z4, Z4, Z4, Z4, Z4, Z4, Z4, Z4, Z4, Z4, Z4, Z4, Z4, Z4, Z4, Z4, Z4, Z4, Z4, Z4, Z4, Z4, Z4, Z4, Z4, Z4] rfl rfl (any_of HT_.out (by kernel_rfl)) (fun _ _ _ h => h) (Or.inl ⟨by rfl, ?_⟩) ?_ ?_
         rotate_left
         ·intro w'
          go_simp
          with_reducible rfl
         rotate_left
         ·simp only [Act.put, List.setIfInBounds_toArray, List.set_cons_zero, List.set_cons_succ, i64_w, i32_w]
          rfl
         refine pure_ (i := 7) (N := some 23) (v := ?_) (a' := ?_) #[Y4, Y4, Y4, Y4, Z4, Y4, Y4, Y4, Z4, Z4, Z4, Z4, Z4, Z4, Z4, Z4, Z4, Z4, Z4, Z4, Z4, Z4, Z4, Z4, Z4, Z4, Z4, Z4, Z4, Z4, Z4, Z4, Z4, Z4, Z4, Z4, Z4, Z4, Z4, Z4, Z4, Z4, Z4, Z4, Z4, Z4, Z4, Z4, Z4, Z4, Z4] rfl rfl (any_of HT_.out (by kernel_rfl)) (fun _ _ _ h => h) (Or.inl ⟨by rfl, ?_⟩) ?_ ?_
         rotate_left
         ·intro w'
          go_simp
          with_reducible rfl
         rotate_left
         ·simp only [Act.put, List.setIfInBounds_toArray, List.set_cons_zero, List.set_cons_succ, i64_w, i32_w]
          rfl
         refine pure_ (i := 8) (N := some 24) (v := ?_) (a' := ?_) #[Y4, Y4, Y4, Y4, Z4, Y4, Y4, Y4, Y4, Z4, Z4, Z4, Z4, Z4, Z4, Z4, Z4, Z4, Z4, Z4, Z4, Z4, Z4, Z4, Z4, Z4, Z4, Z4, Z4, Z4, Z4, Z4, Z4, Z4, Z4, Z4, Z4, Z4, Z4, Z4, Z4, Z4, Z4, Z4, Z4, Z4, Z4, Z4, Z4, Z4, Z4] rfl rfl (any_of HT_.out (by kernel_rfl)) (fun _ _ _ h => h) (Or.inl ⟨by rfl, ?_⟩) ?_ ?_
         rotate_left
         ·intro w'
          go_simp
          with_reducible rfl
         rotate_left
         ·simp only [Act.put, List.setIfInBounds_toArray, List.set_cons_zero, List.set_cons_succ, i64_w, i32_w]
          rfl
         refine take_ (i := 4) (N := some 20) (v := ?_) (a' := ?_) #[Y4, Y4, Y4, Y4, Y4, Y4, Y4, Y4, Y4, Z4, Z4, Z4, Z4, Z4, Z4, Z4, Z4, Z4, Z4, Z4, Z4, Z4, Z4, Z4, Z4, Z4, Z4, Z4, Z4, Z4, Z4, Z4, Z4, Z4, Z4, Z4, Z4, Z4, Z4, Z4, Z4, Z4, Z4, Z4, Z4, Z4, Z4, Z4, Z4, Z4, Z4] rfl rfl (take_ofW HT_.out HW_.out (by kernel_rfl)) (fun _ _ _ h => h) (Or.inl ⟨by rfl, ?_⟩) hHeld ?_ ?_
         rotate_left
         ·rintro w' ⟨s0, s1, s2, s3, s4, s5, s6, s7⟩
          go_simp
          with_reducible rfl
         rotate_left
         ·simp only [Act.put, List.setIfInBounds_toArray, List.set_cons_zero, List.set_cons_succ, i64_w, i32_w]
          rfl
         refine take_ (i := 9) (N := some 25) (v := ?_) (a' := ?_) #[Y4, Y4, Y4, Y4, Y4, Y4, Y4, Y4, Y4, Y4, Z4, Z4, Z4, Z4, Z4, Z4, Z4, Z4, Z4, Z4, Z4, Z4, Z4, Z4, Z4, Z4, Z4, Z4, Z4, Z4, Z4, Z4, Z4, Z4, Z4, Z4, Z4, Z4, Z4, Z4, Z4, Z4, Z4, Z4, Z4, Z4, Z4, Z4, Z4, Z4, Z4] rfl rfl (take_ofW HT_.out HW_.out (by kernel_rfl)) (fun _ _ _ h => h) (Or.inl ⟨by rfl, ?_⟩) hHeld ?_ ?_
         rotate_left
         ·rintro w' ⟨s0, s1, s2, s3, s4, s5, s6, s7⟩
          go_simp
          with_reducible rfl
         rotate_left
         ·simp only [Act.put, List.setIfInBounds_toArray, List.set_cons_zero, List.set_cons_succ, i64_w, i32_w]
          rfl
         refine pure_ (i := 10) (N := some 26) (v := ?_) (a' := ?_) #[Y4, Y4, Y4, Y4, Y4, Y4, Y4, Y4, Y4, Y4, Y4, Z4, Z4, Z4, Z4, Z4, Z4, Z4, Z4, Z4, Z4, Z4, Z4, Z4, Z4, Z4, Z4, Z4, Z4, Z4, Z4, Z4, Z4, Z4, Z4, Z4, Z4, Z4, Z4, Z4, Z4, Z4, Z4, Z4, Z4, Z4, Z4, Z4, Z4, Z4, Z4] rfl rfl (any_of HT_.out (by kernel_rfl)) (fun _ _ _ h => h) (Or.inl ⟨by rfl, ?_⟩) ?_ ?_
         rotate_left
         ·intro w'
          go_simp
          with_reducible rfl
         rotate_left
         ·simp only [Act.put, List.setIfInBounds_toArray, List.set_cons_zero, List.set_cons_succ, i64_w, i32_w]
          rfl
         refine pure_ (i := 11) (N := some 27) (v := ?_) (a' := ?_) #[Y4, Y4, Y4, Y4, Y4, Y4, Y4, Y4, Y4, Y4, Y4, Y4, Z4, Z4, Z4, Z4, Z4, Z4, Z4, Z4, Z4, Z4, Z4, Z4, Z4, Z4, Z4, Z4, Z4, Z4, Z4, Z4, Z4, Z4, Z4, Z4, Z4, Z4, Z4, Z4, Z4, Z4, Z4, Z4, Z4, Z4, Z4, Z4, Z4, Z4, Z4] rfl rfl (any_of HT_.out (by kernel_rfl)) (fun _ _ _ h => h) (Or.inl ⟨by rfl, ?_⟩) ?_ ?_
         rotate_left
         ·intro w'
          go_simp
          with_reducible rfl
         rotate_left
         ·simp only [Act.put, List.setIfInBounds_toArray, List.set_cons_zero, List.set_cons_succ, i64_w, i32_w]
          rfl
         refine pure_ (i := 12) (N := some 28) (v := undef) (a' := ?_) #[Y4, Y4, Y4, Y4, Y4, Y4, Y4, Y4, Y4, Y4, Y4, Y4, Y4, Z4, Z4, Z4, Z4, Z4, Z4, Z4, Z4, Z4, Z4, Z4, Z4, Z4, Z4, Z4, Z4, Z4, Z4, Z4, Z4, Z4, Z4, Z4, Z4, Z4, Z4, Z4, Z4, Z4, Z4, Z4, Z4, Z4, Z4, Z4, Z4, Z4, Z4] rfl rfl (any_of HT_.out (by kernel_rfl)) (fun _ _ _ h => h) (Or.inr ⟨by rfl, rfl⟩) ?_ ?_
         rotate_left
         ·simp only [Act.put, List.setIfInBounds_toArray, List.set_cons_zero, List.set_cons_succ, i64_w, i32_w]
          rfl
         refine pure_ (i := 13) (N := some 29) (v := undef) (a' := ?_) #[Y4, Y4, Y4, Y4, Y4, Y4, Y4, Y4, Y4, Y4, Y4, Y4, Y4, Y4, Z4, Z4, Z4, Z4, Z4, Z4, Z4, Z4, Z4, Z4, Z4, Z4, Z4, Z4, Z4, Z4, Z4, Z4, Z4, Z4, Z4, Z4, Z4, Z4, Z4, Z4, Z4, Z4, Z4, Z4, Z4, Z4, Z4, Z4, Z4, Z4, Z4] rfl rfl (any_of HT_.out (by kernel_rfl)) (fun _ _ _ h => h) (Or.inr ⟨by rfl, rfl⟩) ?_ ?_
         rotate_left
         ·simp only [Act.put, List.setIfInBounds_toArray, List.set_cons_zero, List.set_cons_succ, i64_w, i32_w]
          rfl
         refine pure_ (i := 14) (N := some 30) (v := undef) (a' := ?_) #[Y4, Y4, Y4, Y4, Y4, Y4, Y4, Y4, Y4, Y4, Y4, Y4, Y4, Y4, Y4, Z4, Z4, Z4, Z4, Z4, Z4, Z4, Z4, Z4, Z4, Z4, Z4, Z4, Z4, Z4, Z4, Z4, Z4, Z4, Z4, Z4, Z4, Z4, Z4, Z4, Z4, Z4, Z4, Z4, Z4, Z4, Z4, Z4, Z4, Z4, Z4] rfl rfl (any_of HT_.out (by kernel_rfl)) (fun _ _ _ h => h) (Or.inr ⟨by rfl, rfl⟩) ?_ ?_
         rotate_left
         ·simp only [Act.put, List.setIfInBounds_toArray, List.set_cons_zero, List.set_cons_succ, i64_w, i32_w]
          rfl
         refine pure_ (i := 15) (N := some 31) (v := undef) (a' := ?_) #[Y4, Y4, Y4, Y4, Y4, Y4, Y4, Y4, Y4, Y4, Y4, Y4, Y4, Y4, Y4, Y4, Z4, Z4, Z4, Z4, Z4, Z4, Z4, Z4, Z4, Z4, Z4, Z4, Z4, Z4, Z4, Z4, Z4, Z4, Z4, Z4, Z4, Z4, Z4, Z4, Z4, Z4, Z4, Z4, Z4, Z4, Z4, Z4, Z4, Z4, Z4] rfl rfl (any_of HT_.out (by kernel_rfl)) (fun _ _ _ h => h) (Or.inr ⟨by rfl, rfl⟩) ?_ ?_
         rotate_left
         ·simp only [Act.put, List.setIfInBounds_toArray, List.set_cons_zero, List.set_cons_succ, i64_w, i32_w]
          rfl
         refine pure_ (i := 16) (N := some 32) (v := undef) (a' := ?_) #[Y4, Y4, Y4, Y4, Y4, Y4, Y4, Y4, Y4, Y4, Y4, Y4, Y4, Y4, Y4, Y4, Y4, Z4, Z4, Z4, Z4, Z4, Z4, Z4, Z4, Z4, Z4, Z4, Z4, Z4, Z4, Z4, Z4, Z4, Z4, Z4, Z4, Z4, Z4, Z4, Z4, Z4, Z4, Z4, Z4, Z4, Z4, Z4, Z4, Z4, Z4] rfl rfl (any_of HT_.out (by kernel_rfl)) (fun _ _ _ h => h) (Or.inr ⟨by rfl, rfl⟩) ?_ ?_
         rotate_left
         ·simp only [Act.put, List.setIfInBounds_toArray, List.set_cons_zero, List.set_cons_succ, i64_w, i32_w]
          rfl
         refine pure_ (i := 17) (N := some 33) (v := undef) (a' := ?_) #[Y4, Y4, Y4, Y4, Y4, Y4, Y4, Y4, Y4, Y4, Y4, Y4, Y4, Y4, Y4, Y4, Y4, Y4, Z4, Z4, Z4, Z4, Z4, Z4, Z4, Z4, Z4, Z4, Z4, Z4, Z4, Z4, Z4, Z4, Z4, Z4, Z4, Z4, Z4, Z4, Z4, Z4, Z4, Z4, Z4, Z4, Z4, Z4, Z4, Z4, Z4] rfl rfl (any_of HT_.out (by kernel_rfl)) (fun _ _ _ h => h) (Or.inr ⟨by rfl, rfl⟩) ?_ ?_
         rotate_left
         ·simp only [Act.put, List.setIfInBounds_toArray, List.set_cons_zero, List.set_cons_succ, i64_w, i32_w]
          rfl
         refine pure_ (i := 18) (N := some 34) (v := undef) (a' := ?_) #[Y4, Y4, Y4, Y4, Y4, Y4, Y4, Y4, Y4, Y4, Y4, Y4, Y4, Y4, Y4, Y4, Y4, Y4, Y4, Z4, Z4, Z4, Z4, Z4, Z4, Z4, Z4, Z4, Z4, Z4, Z4, Z4, Z4, Z4, Z4, Z4, Z4, Z4, Z4, Z4, Z4, Z4, Z4, Z4, Z4, Z4, Z4, Z4, Z4, Z4, Z4] rfl rfl (any_of HT_.out (by kernel_rfl)) (fun _ _ _ h => h) (Or.inr ⟨by rfl, rfl⟩) ?_ ?_
         rotate_left
         ·simp only [Act.put, List.setIfInBounds_toArray, List.set_cons_zero, List.set_cons_succ, i64_w, i32_w]
          rfl
         refine pure_ (i := 19) (N := some 35) (v := undef) (a' := ?_) #[Y4, Y4, Y4, Y4, Y4, Y4, Y4, Y4, Y4, Y4, Y4, Y4, Y4, Y4, Y4, Y4, Y4, Y4, Y4, Y4, Z4, Z4, Z4, Z4, Z4, Z4, Z4, Z4, Z4, Z4, Z4, Z4, Z4, Z4, Z4, Z4, Z4, Z4, Z4, Z4, Z4, Z4, Z4, Z4, Z4, Z4, Z4, Z4, Z4, Z4, Z4] rfl rfl (any_of HT_.out (by kernel_rfl)) (fun _ _ _ h => h) (Or.inr ⟨by rfl, rfl⟩) ?_ ?_
         rotate_left
         ·simp only [Act.put, List.setIfInBounds_toArray, List.set_cons_zero, List.set_cons_succ, i64_w, i32_w]
          rfl
         refine pure_ (i := 20) (N := some 36) (v := undef) (a' := ?_) #[Y4, Y4, Y4, Y4, Y4, Y4, Y4, Y4, Y4, Y4, Y4, Y4, Y4, Y4, Y4, Y4, Y4, Y4, Y4, Y4, Y4, Z4, Z4, Z4, Z4, Z4, Z4, Z4, Z4, Z4, Z4, Z4, Z4, Z4, Z4, Z4, Z4, Z4, Z4, Z4, Z4, Z4, Z4, Z4, Z4, Z4, Z4, Z4, Z4, Z4, Z4] rfl rfl (any_of HT_.out (by kernel_rfl)) (fun _ _ _ h => h) (Or.inr ⟨by rfl, rfl⟩) ?_ ?_
         rotate_left
         ·simp only [Act.put, List.setIfInBounds_toArray, List.set_cons_zero, List.set_cons_succ, i64_w, i32_w]
          rfl
         refine pure_ (i := 21) (N := some 37) (v := undef) (a' := ?_) #[Y4, Y4, Y4, Y4, Y4, Y4, Y4, Y4, Y4, Y4, Y4, Y4, Y4, Y4, Y4, Y4, Y4, Y4, Y4, Y4, Y4, Y4, Z4, Z4, Z4, Z4, Z4, Z4, Z4, Z4, Z4, Z4, Z4, Z4, Z4, Z4, Z4, Z4, Z4, Z4, Z4, Z4, Z4, Z4, Z4, Z4, Z4, Z4, Z4, Z4, Z4] rfl rfl (any_of HT_.out (by kernel_rfl)) (fun _ _ _ h => h) (Or.inr ⟨by rfl, rfl⟩) ?_ ?_
         rotate_left
         ·simp only [Act.put, List.setIfInBounds_toArray, List.set_cons_zero, List.set_cons_succ, i64_w, i32_w]
          rfl
         refine pure_ (i := 22) (N := some 38) (v := undef) (a' := ?_) #[Y4, Y4, Y4, Y4, Y4, Y4, Y4, Y4, Y4, Y4, Y4, Y4, Y4, Y4, Y4, Y4, Y4, Y4, Y4, Y4, Y4, Y4, Y4, Z4, Z4, Z4, Z4, Z4, Z4, Z4, Z4, Z4, Z4, Z4, Z4, Z4, Z4, Z4, Z4, Z4, Z4, Z4, Z4, Z4, Z4, Z4, Z4, Z4, Z4, Z4, Z4] rfl rfl (any_of HT_.out (by kernel_rfl)) (fun _ _ _ h => h) (Or.inr ⟨by rfl, rfl⟩) ?_ ?_
         rotate_left
         ·simp only [Act.put, List.setIfInBounds_toArray, List.set_cons_zero, List.set_cons_succ, i64_w, i32_w]
          rfl
         refine pure_ (i := 23) (N := some 39) (v := ?_) (a' := ?_) #[Y4, Y4, Y4, Y4, Y4, Y4, Y4, Y4, Y4, Y4, Y4, Y4, Y4, Y4, Y4, Y4, Y4, Y4, Y4, Y4, Y4, Y4, Y4, Y4, Z4, Z4, Z4, Z4, Z4, Z4, Z4, Z4, Z4, Z4, Z4, Z4, Z4, Z4, Z4, Z4, Z4, Z4, Z4, Z4, Z4, Z4, Z4, Z4, Z4, Z4, Z4] rfl rfl (any_of HT_.out (by kernel_rfl)) (fun _ _ _ h => h) (Or.inl ⟨by rfl, ?_⟩) ?_ ?_
         rotate_left
         ·intro w'
          go_simp
          with_reducible rfl
         rotate_left
         ·simp only [Act.put, List.setIfInBounds_toArray, List.set_cons_zero, List.set_cons_succ, i64_w, i32_w]
          rfl
         refine pure_ (i := 24) (N := some 40) (v := ?_) (a' := ?_) #[Y4, Y4, Y4, Y4, Y4, Y4, Y4, Y4, Y4, Y4, Y4, Y4, Y4, Y4, Y4, Y4, Y4, Y4, Y4, Y4, Y4, Y4, Y4, Y4, Y4, Z4, Z4, Z4, Z4, Z4, Z4, Z4, Z4, Z4, Z4, Z4, Z4, Z4, Z4, Z4, Z4, Z4, Z4, Z4, Z4, Z4, Z4, Z4, Z4, Z4, Z4] rfl rfl (any_of HT_.out (by kernel_rfl)) (fun _ _ _ h => h) (Or.inl ⟨by rfl, ?_⟩) ?_ ?_
         rotate_left
         ·intro w'
          go_simp
          with_reducible rfl
         rotate_left
         ·simp only [Act.put, List.setIfInBounds_toArray, List.set_cons_zero, List.set_cons_succ, i64_w, i32_w]
          rfl
         refine pure_ (i := 25) (N := some 41) (v := undef) (a' := ?_) #[Y4, Y4, Y4, Y4, Y4, Y4, Y4, Y4, Y4, Y4, Y4, Y4, Y4, Y4, Y4, Y4, Y4, Y4, Y4, Y4, Y4, Y4, Y4, Y4, Y4, Y4, Z4, Z4, Z4, Z4, Z4, Z4, Z4, Z4, Z4, Z4, Z4, Z4, Z4, Z4, Z4, Z4, Z4, Z4, Z4, Z4, Z4, Z4, Z4, Z4, Z4] rfl rfl (any_of HT_.out (by kernel_rfl)) (fun _ _ _ h => h) (Or.inr ⟨by rfl, rfl⟩) ?_ ?_
         rotate_left
         ·simp only [Act.put, List.setIfInBounds_toArray, List.set_cons_zero, List.set_cons_succ, i64_w, i32_w]
          rfl
         refine pure_ (i := 26) (N := some 42) (v := undef) (a' := ?_) #[Y4, Y4, Y4, Y4, Y4, Y4, Y4, Y4, Y4, Y4, Y4, Y4, Y4, Y4, Y4, Y4, Y4, Y4, Y4, Y4, Y4, Y4, Y4, Y4, Y4, Y4, Y4, Z4, Z4, Z4, Z4, Z4, Z4, Z4, Z4, Z4, Z4, Z4, Z4, Z4, Z4, Z4, Z4, Z4, Z4, Z4, Z4, Z4, Z4, Z4, Z4] rfl rfl (any_of HT_.out (by kernel_rfl)) (fun _ _ _ h => h) (Or.inr ⟨by rfl, rfl⟩) ?_ ?_
         rotate_left
         ·simp only [Act.put, List.setIfInBounds_toArray, List.set_cons_zero, List.set_cons_succ, i64_w, i32_w]
          rfl
         refine pure_ (i := 27) (N := some 43) (v := undef) (a' := ?_) #[Y4, Y4, Y4, Y4, Y4, Y4, Y4, Y4, Y4, Y4, Y4, Y4, Y4, Y4, Y4, Y4, Y4, Y4, Y4, Y4, Y4, Y4, Y4, Y4, Y4, Y4, Y4, Y4, Z4, Z4, Z4, Z4, Z4, Z4, Z4, Z4, Z4, Z4, Z4, Z4, Z4, Z4, Z4, Z4, Z4, Z4, Z4, Z4, Z4, Z4, Z4] rfl rfl (any_of HT_.out (by kernel_rfl)) (fun _ _ _ h => h) (Or.inr ⟨by rfl, rfl⟩) ?_ ?_
         rotate_left
         ·simp only [Act.put, List.setIfInBounds_toArray, List.set_cons_zero, List.set_cons_succ, i64_w, i32_w]
          rfl
         refine pure_ (i := 28) (N := some 44) (v := undef) (a' := ?_) #[Y4, Y4, Y4, Y4, Y4, Y4, Y4, Y4, Y4, Y4, Y4, Y4, Y4, Y4, Y4, Y4, Y4, Y4, Y4, Y4, Y4, Y4, Y4, Y4, Y4, Y4, Y4, Y4, Y4, Z4, Z4, Z4, Z4, Z4, Z4, Z4, Z4, Z4, Z4, Z4, Z4, Z4, Z4, Z4, Z4, Z4, Z4, Z4, Z4, Z4, Z4] rfl rfl (any_of HT_.out (by kernel_rfl)) (fun _ _ _ h => h) (Or.inr ⟨by rfl, rfl⟩) ?_ ?_
         rotate_left
         ·simp only [Act.put, List.setIfInBounds_toArray, List.set_cons_zero, List.set_cons_succ, i64_w, i32_w]
          rfl
         refine pure_ (i := 29) (N := some 45) (v := undef) (a' := ?_) #[Y4, Y4, Y4, Y4, Y4, Y4, Y4, Y4, Y4, Y4, Y4, Y4, Y4, Y4, Y4, Y4, Y4, Y4, Y4, Y4, Y4, Y4, Y4, Y4, Y4, Y4, Y4, Y4, Y4, Y4, Z4, Z4, Z4, Z4, Z4, Z4, Z4, Z4, Z4, Z4, Z4, Z4, Z4, Z4, Z4, Z4, Z4, Z4, Z4, Z4, Z4] rfl rfl (any_of HT_.out (by kernel_rfl)) (fun _ _ _ h => h) (Or.inr ⟨by rfl, rfl⟩) ?_ ?_
         rotate_left
         ·simp only [Act.put, List.setIfInBounds_toArray, List.set_cons_zero, List.set_cons_succ, i64_w, i32_w]
          rfl
         refine pure_ (i := 30) (N := some 46) (v := undef) (a' := ?_) #[Y4, Y4, Y4, Y4, Y4, Y4, Y4, Y4, Y4, Y4, Y4, Y4, Y4, Y4, Y4, Y4, Y4, Y4, Y4, Y4, Y4, Y4, Y4, Y4, Y4, Y4, Y4, Y4, Y4, Y4, Y4, Z4, Z4, Z4, Z4, Z4, Z4, Z4, Z4, Z4, Z4, Z4, Z4, Z4, Z4, Z4, Z4, Z4, Z4, Z4, Z4] rfl rfl (any_of HT_.out (by kernel_rfl)) (fun _ _ _ h => h) (Or.inr ⟨by rfl, rfl⟩) ?_ ?_
         rotate_left
         ·simp only [Act.put, List.setIfInBounds_toArray, List.set_cons_zero, List.set_cons_succ, i64_w, i32_w]
          rfl
         refine pure_ (i := 31) (N := some 47) (v := undef) (a' := ?_) #[Y4, Y4, Y4, Y4, Y4, Y4, Y4, Y4, Y4, Y4, Y4, Y4, Y4, Y4, Y4, Y4, Y4, Y4, Y4, Y4, Y4, Y4, Y4, Y4, Y4, Y4, Y4, Y4, Y4, Y4, Y4, Y4, Z4, Z4, Z4, Z4, Z4, Z4, Z4, Z4, Z4, Z4, Z4, Z4, Z4, Z4, Z4, Z4, Z4, Z4, Z4] rfl rfl (any_of HT_.out (by kernel_rfl)) (fun _ _ _ h => h) (Or.inr ⟨by rfl, rfl⟩) ?_ ?_
         rotate_left
         ·simp only [Act.put, List.setIfInBounds_toArray, List.set_cons_zero, List.set_cons_succ, i64_w, i32_w]
          rfl
         refine pure_ (i := 32) (N := some 48) (v := undef) (a' := ?_) #[Y4, Y4, Y4, Y4, Y4, Y4, Y4, Y4, Y4, Y4, Y4, Y4, Y4, Y4, Y4, Y4, Y4, Y4, Y4, Y4, Y4, Y4, Y4, Y4, Y4, Y4, Y4, Y4, Y4, Y4, Y4, Y4, Y4, Z4, Z4, Z4, Z4, Z4, Z4, Z4, Z4, Z4, Z4, Z4, Z4, Z4, Z4, Z4, Z4, Z4, Z4] rfl rfl (any_of HT_.out (by kernel_rfl)) (fun _ _ _ h => h) (Or.inr ⟨by rfl, rfl⟩) ?_ ?_
         rotate_left
         ·simp only [Act.put, List.setIfInBounds_toArray, List.set_cons_zero, List.set_cons_succ, i64_w, i32_w]
          rfl
         refine pure_ (i := 33) (N := some 49) (v := undef) (a' := ?_) #[Y4, Y4, Y4, Y4, Y4, Y4, Y4, Y4, Y4, Y4, Y4, Y4, Y4, Y4, Y4, Y4, Y4, Y4, Y4, Y4, Y4, Y4, Y4, Y4, Y4, Y4, Y4, Y4, Y4, Y4, Y4, Y4, Y4, Y4, Z4, Z4, Z4, Z4, Z4, Z4, Z4, Z4, Z4, Z4, Z4, Z4, Z4, Z4, Z4, Z4, Z4] rfl rfl (any_of HT_.out (by kernel_rfl)) (fun _ _ _ h => h) (Or.inr ⟨by rfl, rfl⟩) ?_ ?_
         rotate_left
         ·simp only [Act.put, List.setIfInBounds_toArray, List.set_cons_zero, List.set_cons_succ, i64_w, i32_w]
          rfl
         refine pure_ (i := 34) (N := some 50) (v := undef) (a' := ?_) #[Y4, Y4, Y4, Y4, Y4, Y4, Y4, Y4, Y4, Y4, Y4, Y4, Y4, Y4, Y4, Y4, Y4, Y4, Y4, Y4, Y4, Y4, Y4, Y4, Y4, Y4, Y4, Y4, Y4, Y4, Y4, Y4, Y4, Y4, Y4, Z4, Z4, Z4, Z4, Z4, Z4, Z4, Z4, Z4, Z4, Z4, Z4, Z4, Z4, Z4, Z4] rfl rfl (any_of HT_.out (by kernel_rfl)) (fun _ _ _ h => h) (Or.inr ⟨by rfl, rfl⟩) ?_ ?_
         rotate_left
         ·simp only [Act.put, List.setIfInBounds_toArray, List.set_cons_zero, List.set_cons_succ, i64_w, i32_w]
          rfl
         refine pure_ (i := 35) (N := some 51) (v := undef) (a' := ?_) #[Y4, Y4, Y4, Y4, Y4, Y4, Y4, Y4, Y4, Y4, Y4, Y4, Y4, Y4, Y4, Y4, Y4, Y4, Y4, Y4, Y4, Y4, Y4, Y4, Y4, Y4, Y4, Y4, Y4, Y4, Y4, Y4, Y4, Y4, Y4, Y4, Z4, Z4, Z4, Z4, Z4, Z4, Z4, Z4, Z4, Z4, Z4, Z4, Z4, Z4, Z4] rfl rfl (any_of HT_.out (by kernel_rfl)) (fun _ _ _ h => h) (Or.inr ⟨by rfl, rfl⟩) ?_ ?_
         rotate_left
         ·simp only [Act.put, List.setIfInBounds_toArray, List.set_cons_zero, List.set_cons_succ, i64_w, i32_w]
          rfl
         refine pure_ (i := 36) (N := some 52) (v := ?_) (a' := ?_) #[Y4, Y4, Y4, Y4, Y4, Y4, Y4, Y4, Y4, Y4, Y4, Y4, Y4, Y4, Y4, Y4, Y4, Y4, Y4, Y4, Y4, Y4, Y4, Y4, Y4, Y4, Y4, Y4, Y4, Y4, Y4, Y4, Y4, Y4, Y4, Y4, Y4, Z4, Z4, Z4, Z4, Z4, Z4, Z4, Z4, Z4, Z4, Z4, Z4, Z4, Z4] rfl rfl (any_of HT_.out (by kernel_rfl)) (fun _ _ _ h => h) (Or.inl ⟨by rfl, ?_⟩) ?_ ?_
         rotate_left
         ·intro w'
          go_simp
          with_reducible rfl
         rotate_left
         ·simp only [Act.put, List.setIfInBounds_toArray, List.set_cons_zero, List.set_cons_succ, i64_w, i32_w]
          rfl
         refine pure_ (i := 37) (N := some 53) (v := ?_) (a' := ?_) #[Y4, Y4, Y4, Y4, Y4, Y4, Y4, Y4, Y4, Y4, Y4, Y4, Y4, Y4, Y4, Y4, Y4, Y4, Y4, Y4, Y4, Y4, Y4, Y4, Y4, Y4, Y4, Y4, Y4, Y4, Y4, Y4, Y4, Y4, Y4, Y4, Y4, Y4, Z4, Z4, Z4, Z4, Z4, Z4, Z4, Z4, Z4, Z4, Z4, Z4, Z4] rfl rfl (any_of HT_.out (by kernel_rfl)) (fun _ _ _ h => h) (Or.inl ⟨by rfl, ?_⟩) ?_ ?_
         rotate_left
         ·intro w'
          go_simp
          with_reducible rfl
         rotate_left
         ·simp only [Act.put, List.setIfInBounds_toArray, List.set_cons_zero, List.set_cons_succ, i64_w, i32_w]
          rfl
         refine pure_ (i := 38) (N := some 54) (v := undef) (a' := ?_) #[Y4, Y4, Y4, Y4, Y4, Y4, Y4, Y4, Y4, Y4, Y4, Y4, Y4, Y4, Y4, Y4, Y4, Y4, Y4, Y4, Y4, Y4, Y4, Y4, Y4, Y4, Y4, Y4, Y4, Y4, Y4, Y4, Y4, Y4, Y4, Y4, Y4, Y4, Y4, Z4, Z4, Z4, Z4, Z4, Z4, Z4, Z4, Z4, Z4, Z4, Z4] rfl rfl (any_of HT_.out (by kernel_rfl)) (fun _ _ _ h => h) (Or.inr ⟨by rfl, rfl⟩) ?_ ?_
         rotate_left
         ·simp only [Act.put, List.setIfInBounds_toArray, List.set_cons_zero, List.set_cons_succ, i64_w, i32_w]
          rfl
         refine pure_ (i := 39) (N := some 55) (v := undef) (a' := ?_) #[Y4, Y4, Y4, Y4, Y4, Y4, Y4, Y4, Y4, Y4, Y4, Y4, Y4, Y4, Y4, Y4, Y4, Y4, Y4, Y4, Y4, Y4, Y4, Y4, Y4, Y4, Y4, Y4, Y4, Y4, Y4, Y4, Y4, Y4, Y4, Y4, Y4, Y4, Y4, Y4, Z4, Z4, Z4, Z4, Z4, Z4, Z4, Z4, Z4, Z4, Z4] rfl rfl (any_of HT_.out (by kernel_rfl)) (fun _ _ _ h => h) (Or.inr ⟨by rfl, rfl⟩) ?_ ?_
         rotate_left
         ·simp only [Act.put, List.setIfInBounds_toArray, List.set_cons_zero, List.set_cons_succ, i64_w, i32_w]
          rfl
         refine pure_ (i := 40) (N := some 56) (v := undef) (a' := ?_) #[Y4, Y4, Y4, Y4, Y4, Y4, Y4, Y4, Y4, Y4, Y4, Y4, Y4, Y4, Y4, Y4, Y4, Y4, Y4, Y4, Y4, Y4, Y4, Y4, Y4, Y4, Y4, Y4, Y4, Y4, Y4, Y4, Y4, Y4, Y4, Y4, Y4, Y4, Y4, Y4, Y4, Z4, Z4, Z4, Z4, Z4, Z4, Z4, Z4, Z4, Z4] rfl rfl (any_of HT_.out (by kernel_rfl)) (fun _ _ _ h => h) (Or.inr ⟨by rfl, rfl⟩) ?_ ?_
         rotate_left
         ·simp only [Act.put, List.setIfInBounds_toArray, List.set_cons_zero, List.set_cons_succ, i64_w, i32_w]
          rfl
         refine pure_ (i := 41) (N := some 57) (v := undef) (a' := ?_) #[Y4, Y4, Y4, Y4, Y4, Y4, Y4, Y4, Y4, Y4, Y4, Y4, Y4, Y4, Y4, Y4, Y4, Y4, Y4, Y4, Y4, Y4, Y4, Y4, Y4, Y4, Y4, Y4, Y4, Y4, Y4, Y4, Y4, Y4, Y4, Y4, Y4, Y4, Y4, Y4, Y4, Y4, Z4, Z4, Z4, Z4, Z4, Z4, Z4, Z4, Z4] rfl rfl (any_of HT_.out (by kernel_rfl)) (fun _ _ _ h => h) (Or.inr ⟨by rfl, rfl⟩) ?_ ?_
         rotate_left
         ·simp only [Act.put, List.setIfInBounds_toArray, List.set_cons_zero, List.set_cons_succ, i64_w, i32_w]
          rfl
         refine pure_ (i := 42) (N := some 58) (v := undef) (a' := ?_) #[Y4, Y4, Y4, Y4, Y4, Y4, Y4, Y4, Y4, Y4, Y4, Y4, Y4, Y4, Y4, Y4, Y4, Y4, Y4, Y4, Y4, Y4, Y4, Y4, Y4, Y4, Y4, Y4, Y4, Y4, Y4, Y4, Y4, Y4, Y4, Y4, Y4, Y4, Y4, Y4, Y4, Y4, Y4, Z4, Z4, Z4, Z4, Z4, Z4, Z4, Z4] rfl rfl (any_of HT_.out (by kernel_rfl)) (fun _ _ _ h => h) (Or.inr ⟨by rfl, rfl⟩) ?_ ?_
         rotate_left
         ·simp only [Act.put, List.setIfInBounds_toArray, List.set_cons_zero, List.set_cons_succ, i64_w, i32_w]
          rfl
         refine pure_ (i := 43) (N := some 59) (v := undef) (a' := ?_) #[Y4, Y4, Y4, Y4, Y4, Y4, Y4, Y4, Y4, Y4, Y4, Y4, Y4, Y4, Y4, Y4, Y4, Y4, Y4, Y4, Y4, Y4, Y4, Y4, Y4, Y4, Y4, Y4, Y4, Y4, Y4, Y4, Y4, Y4, Y4, Y4, Y4, Y4, Y4, Y4, Y4, Y4, Y4, Y4, Z4, Z4, Z4, Z4, Z4, Z4, Z4] rfl rfl (any_of HT_.out (by kernel_rfl)) (fun _ _ _ h => h) (Or.inr ⟨by rfl, rfl⟩) ?_ ?_
         rotate_left
         ·simp only [Act.put, List.setIfInBounds_toArray, List.set_cons_zero, List.set_cons_succ, i64_w, i32_w]
          rfl
         refine pure_ (i := 44) (N := some 60) (v := undef) (a' := ?_) #[Y4, Y4, Y4, Y4, Y4, Y4, Y4, Y4, Y4, Y4, Y4, Y4, Y4, Y4, Y4, Y4, Y4, Y4, Y4, Y4, Y4, Y4, Y4, Y4, Y4, Y4, Y4, Y4, Y4, Y4, Y4, Y4, Y4, Y4, Y4, Y4, Y4, Y4, Y4, Y4, Y4, Y4, Y4, Y4, Y4, Z4, Z4, Z4, Z4, Z4, Z4] rfl rfl (any_of HT_.out (by kernel_rfl)) (fun _ _ _ h => h) (Or.inr ⟨by rfl, rfl⟩) ?_ ?_
         rotate_left
         ·simp only [Act.put, List.setIfInBounds_toArray, List.set_cons_zero, List.set_cons_succ, i64_w, i32_w]
          rfl
         refine pure_ (i := 45) (N := some 61) (v := undef) (a' := ?_) #[Y4, Y4, Y4, Y4, Y4, Y4, Y4, Y4, Y4, Y4, Y4, Y4, Y4, Y4, Y4, Y4, Y4, Y4, Y4, Y4, Y4, Y4, Y4, Y4, Y4, Y4, Y4, Y4, Y4, Y4, Y4, Y4, Y4, Y4, Y4, Y4, Y4, Y4, Y4, Y4, Y4, Y4, Y4, Y4, Y4, Y4, Z4, Z4, Z4, Z4, Z4] rfl rfl (any_of HT_.out (by kernel_rfl)) (fun _ _ _ h => h) (Or.inr ⟨by rfl, rfl⟩) ?_ ?_
         rotate_left
         ·simp only [Act.put, List.setIfInBounds_toArray, List.set_cons_zero, List.set_cons_succ, i64_w, i32_w]
          rfl
         refine pure_ (i := 46) (N := some 62) (v := undef) (a' := ?_) #[Y4, Y4, Y4, Y4, Y4, Y4, Y4, Y4, Y4, Y4, Y4, Y4, Y4, Y4, Y4, Y4, Y4, Y4, Y4, Y4, Y4, Y4, Y4, Y4, Y4, Y4, Y4, Y4, Y4, Y4, Y4, Y4, Y4, Y4, Y4, Y4, Y4, Y4, Y4, Y4, Y4, Y4, Y4, Y4, Y4, Y4, Y4, Z4, Z4, Z4, Z4] rfl rfl (any_of HT_.out (by kernel_rfl)) (fun _ _ _ h => h) (Or.inr ⟨by rfl, rfl⟩) ?_ ?_
         rotate_left
         ·simp only [Act.put, List.setIfInBounds_toArray, List.set_cons_zero, List.set_cons_succ, i64_w, i32_w]
          rfl
         refine pure_ (i := 47) (N := some 63) (v := undef) (a' := ?_) #[Y4, Y4, Y4, Y4, Y4, Y4, Y4, Y4, Y4, Y4, Y4, Y4, Y4, Y4, Y4, Y4, Y4, Y4, Y4, Y4, Y4, Y4, Y4, Y4, Y4, Y4, Y4, Y4, Y4, Y4, Y4, Y4, Y4, Y4, Y4, Y4, Y4, Y4, Y4, Y4, Y4, Y4, Y4, Y4, Y4, Y4, Y4, Y4, Z4, Z4, Z4] rfl rfl (any_of HT_.out (by kernel_rfl)) (fun _ _ _ h => h) (Or.inr ⟨by rfl, rfl⟩) ?_ ?_
         rotate_left
         ·simp only [Act.put, List.setIfInBounds_toArray, List.set_cons_zero, List.set_cons_succ, i64_w, i32_w]
          rfl
         refine pure_ (i := 48) (N := some 64) (v := undef) (a' := ?_) #[Y4, Y4, Y4, Y4, Y4, Y4, Y4, Y4, Y4, Y4, Y4, Y4, Y4, Y4, Y4, Y4, Y4, Y4, Y4, Y4, Y4, Y4, Y4, Y4, Y4, Y4, Y4, Y4, Y4, Y4, Y4, Y4, Y4, Y4, Y4, Y4, Y4, Y4, Y4, Y4, Y4, Y4, Y4, Y4, Y4, Y4, Y4, Y4, Y4, Z4, Z4] rfl rfl (any_of HT_.out (by kernel_rfl)) (fun _ _ _ h => h) (Or.inr ⟨by rfl, rfl⟩) ?_ ?_
         rotate_left
         ·simp only [Act.put, List.setIfInBounds_toArray, List.set_cons_zero, List.set_cons_succ, i64_w, i32_w]
          rfl
         refine pure_ (i := 49) (N := some 65) (v := undef) (a' := ?_) #[Y4, Y4, Y4, Y4, Y4, Y4, Y4, Y4, Y4, Y4, Y4, Y4, Y4, Y4, Y4, Y4, Y4, Y4, Y4, Y4, Y4, Y4, Y4, Y4, Y4, Y4, Y4, Y4, Y4, Y4, Y4, Y4, Y4, Y4, Y4, Y4, Y4, Y4, Y4, Y4, Y4, Y4, Y4, Y4, Y4, Y4, Y4, Y4, Y4, Y4, Z4] rfl rfl (any_of HT_.out (by kernel_rfl)) (fun _ _ _ h => h) (Or.inr ⟨by rfl, rfl⟩) ?_ ?_
         rotate_left
         ·simp only [Act.put, List.setIfInBounds_toArray, List.set_cons_zero, List.set_cons_succ, i64_w, i32_w]
          rfl
         refine pure_ (i := 50) (N := some 66) (v := ?_) (a' := ?_) #[Y4, Y4, Y4, Y4, Y4, Y4, Y4, Y4, Y4, Y4, Y4, Y4, Y4, Y4, Y4, Y4, Y4, Y4, Y4, Y4, Y4, Y4, Y4, Y4, Y4, Y4, Y4, Y4, Y4, Y4, Y4, Y4, Y4, Y4, Y4, Y4, Y4, Y4, Y4, Y4, Y4, Y4, Y4, Y4, Y4, Y4, Y4, Y4, Y4, Y4, Y4] rfl rfl (any_of HT_.out (by kernel_rfl)) (fun _ _ _ h => h) (Or.inl ⟨by rfl, ?_⟩) ?_ ?_
         rotate_left
         ·intro w'
          go_simp
          with_reducible rfl
         rotate_left
         ·simp only [Act.put, List.setIfInBounds_toArray, List.set_cons_zero, List.set_cons_succ, i64_w, i32_w]
          rfl
         refine done_ (done_of HT_.out (by kernel_rfl)) ?_
         try go_wp2
         go_ret
         exact ⟨by first | rfl | (simp [errW_none, errW_some] <;> rfl) | (simp [*, errW_none, errW_some] <;> rfl), by repeat (first | (with_reducible first | exact HB.out | apply below_alloc | apply pw_below_drewN | apply below_drew1) | exact HB.out)⟩
       ·rw [if_neg c7] at H
        exact absurd H (by simp)
      ·rw [if_neg c6] at H
       exact absurd H (by simp)
     ·rw [if_neg c5] at H
      exact absurd H (by simp)
    ·rw [if_neg c4] at H
     have c4b0 : decide (x13_1 < (l0.length : Int)) = false := decide_eq_false c4
     clear c4
     obtain rfl := Option.some.inj H
     go_wp2
     go_ret
     exact ⟨by first | rfl | (simp [errW_none, errW_some] <;> rfl) | (simp [*, errW_none, errW_some] <;> rfl), by repeat (first | (with_reducible first | exact HB.out | apply below_alloc | apply pw_below_drewN | apply below_drew1) | exact HB.out)⟩
 ·rw [if_neg c3] at H
  have c3b0 : ((l0.length : Int) == (l1.length : Int)) = false := beq_eq_false_iff_ne.mpr c3
  have c3b1 : ((l0.length : Int) != (l1.length : Int)) = true := bne_iff_ne.mpr c3
  have c3b2 : (l0.length == l1.length) = false := by first | simpa using c3 | (simp at c3 ⊢; omega)
  obtain rfl := Option.some.inj H
  go_enter Try.func25, Try.ntmps25
  go_wp2
  go_ret
  exact ⟨by first | rfl | (simp [errW_none, errW_some] <;> rfl) | (simp [*, errW_none, errW_some] <;> rfl), by repeat (first | (with_reducible first | exact HB.out | apply below_alloc | apply pw_below_drewN | apply below_drew1) | exact HB.out)⟩

end Go.Proofs.Ytdhpldiahgajcaa.PUtfAll
