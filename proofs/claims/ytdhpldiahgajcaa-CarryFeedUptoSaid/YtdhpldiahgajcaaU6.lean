/- begins. Written by a program out of Lean's own print of the given functions (the walk and the Lean function of the same answers); no condition of its own. -/
import Derived.Test.YtdhpldiahgajcaaU0
import Derived.Test.YtdhpldiahgajcaaU5
namespace Go.Proofs.Ytdhpldiahgajcaa.PUtfAll
open Go.RowKit Go.Proofs.YtdhpldiahgajcaaW.PrintWords Go.Proofs.YtdhpldiahgajcaaW.PrintLast Go.Proofs.YtdhpldiahgajcaaW.PrintMore
attribute [local go_sem] max2_int min2_int max_two min_two max_three min_three max_four min_four   -- for this text's walks alone
set_option linter.unusedVariables false
set_option linter.unusedSimpArgs false
abbrev Y6 : Bool := true
abbrev Z6 : Bool := false

/-! ### lontarlaw01_begins: function 35 -/
mutual
def lontarlaw01_begins.l0 : Nat → List Int → List Int → Int → Int → Option (Bool)
 | 0, _, _, _, _ => none
 | k + 1, x0, x13, x14, x15 => if x15 < x14 then (if 0 ≤ x15 then (if x15 < (x13.length : Int) then (if (rd x13 x15) < 128 then (some false) else (if (rd x13 x15) > 191 then (some false) else (lontarlaw01_begins.l0 k x0 x13 x14 (wrap64 (x15 + 1))))) else (none)) else (none)) else (if 0 < (x0.length : Int) then (if (rd x0 0) ≥ 192 then (lontarlaw01_begins.j1 k x0 0 0 (decide ((rd x0 0) < 224))) else (lontarlaw01_begins.j1 k x0 0 0 false)) else (none))
def lontarlaw01_begins.j3 : Nat → List Int → Int → Int → Option (Bool)
 | 0, _, _, _ => none
 | k + 1, x0, x5, x6 => if (x0.length : Int) ≥ x5 then (some false) else (lontarlaw01_begins.l1 k x0 x5 x6 1)
def lontarlaw01_begins.l1 : Nat → List Int → Int → Int → Int → Option (Bool)
 | 0, _, _, _, _ => none
 | k + 1, x0, x5, x6, x7 => if x7 < x5 then (if x7 < (x0.length : Int) then (if 0 ≤ x7 then (lontarlaw01_begins.l1 k x0 x5 (wrap64 ((wrap64 (x6 * 64)) + (wrap64 ((wrap64 (rd x0 x7)) - 128)))) (wrap64 (x7 + 1))) else (none)) else (lontarlaw01_begins.l1 k x0 x5 (wrap64 (x6 * 64)) (wrap64 (x7 + 1)))) else (lontarlaw01_begins.l2 k x5 x6 1 (x0.length : Int))
def lontarlaw01_begins.l2 : Nat → Int → Int → Int → Int → Option (Bool)
 | 0, _, _, _, _ => none
 | k + 1, x5, x6, x8, x9 => if x9 < x5 then (lontarlaw01_begins.l2 k x5 x6 (wrap64 (x8 * 64)) (wrap64 (x9 + 1))) else ((some (([0, 0, 128, 2048, 65536] : List Int) : List Int)).bind fun y201 => (if 0 ≤ x5 then (if x5 < (y201.length : Int) then ((some (([x6, wrap64 ((wrap64 (x6 + x8)) - 1), mx x6 (rd y201 x5)] : List Int) : List Int)).bind fun y205 => (lontarlaw01_begins.l3 k x5 x6 x8 y205 (y205.length : Int) 0)) else (none)) else (none)))
def lontarlaw01_begins.l3 : Nat → Int → Int → Int → List Int → Int → Int → Option (Bool)
 | 0, _, _, _, _, _, _ => none
 | k + 1, x5, x6, x8, x117, x118, x119 => if x119 < x118 then (if 0 ≤ x119 then (if x119 < (x117.length : Int) then (if (rd x117 x119) ≥ x6 then (if (rd x117 x119) < (wrap64 (x6 + x8)) then ((lontarlaw01_scalar.f (rd x117 x119)).bind fun t209 => (if t209 = true then ((lontarlaw01_bytes.f (rd x117 x119)).bind fun t210 => (if (t210.size : Int) = x5 then (some true) else (lontarlaw01_begins.l3 k x5 x6 x8 x117 x118 (wrap64 (x119 + 1))))) else (lontarlaw01_begins.l3 k x5 x6 x8 x117 x118 (wrap64 (x119 + 1))))) else (lontarlaw01_begins.l3 k x5 x6 x8 x117 x118 (wrap64 (x119 + 1)))) else (lontarlaw01_begins.l3 k x5 x6 x8 x117 x118 (wrap64 (x119 + 1)))) else (none)) else (none)) else (some false)
def lontarlaw01_begins.j1 : Nat → List Int → Int → Int → Bool → Option (Bool)
 | 0, _, _, _, _ => none
 | k + 1, x0, x5, x6, x26 => if x26 = true then (if 0 < (x0.length : Int) then (lontarlaw01_begins.j3 k x0 2 (wrap64 ((wrap64 (rd x0 0)) - 192))) else (none)) else (if 0 < (x0.length : Int) then (if (rd x0 0) ≥ 224 then (lontarlaw01_begins.j2 k x0 x5 x6 (decide ((rd x0 0) < 240))) else (lontarlaw01_begins.j2 k x0 x5 x6 false)) else (none))
def lontarlaw01_begins.j2 : Nat → List Int → Int → Int → Bool → Option (Bool)
 | 0, _, _, _, _ => none
 | k + 1, x0, x5, x6, x42 => if x42 = true then (if 0 < (x0.length : Int) then (lontarlaw01_begins.j3 k x0 3 (wrap64 ((wrap64 (rd x0 0)) - 224))) else (none)) else (if 0 < (x0.length : Int) then (if (rd x0 0) ≥ 240 then (if (rd x0 0) < 248 then (lontarlaw01_begins.j3 k x0 4 (wrap64 ((wrap64 (rd x0 0)) - 240))) else (lontarlaw01_begins.j3 k x0 x5 x6)) else (lontarlaw01_begins.j3 k x0 x5 x6)) else (none))
end
def lontarlaw01_begins.f (k : Nat) (l0 : List Int) : Option (Bool) := if 1 ≤ (l0.length : Int) then (lontarlaw01_begins.l0 k l0 (l0.drop 1) ((l0.drop 1).length : Int) 0) else (none)
theorem lontarlaw01_begins.mono_l : ∀ k, (∀ y0 y1 y2 y3, LeO (lontarlaw01_begins.l0 k y0 y1 y2 y3) (lontarlaw01_begins.l0 (k + 1) y0 y1 y2 y3)) ∧ (∀ y0 y1 y2, LeO (lontarlaw01_begins.j3 k y0 y1 y2) (lontarlaw01_begins.j3 (k + 1) y0 y1 y2)) ∧ (∀ y0 y1 y2 y3, LeO (lontarlaw01_begins.l1 k y0 y1 y2 y3) (lontarlaw01_begins.l1 (k + 1) y0 y1 y2 y3)) ∧ (∀ y0 y1 y2 y3, LeO (lontarlaw01_begins.l2 k y0 y1 y2 y3) (lontarlaw01_begins.l2 (k + 1) y0 y1 y2 y3)) ∧ (∀ y0 y1 y2 y3 y4 y5, LeO (lontarlaw01_begins.l3 k y0 y1 y2 y3 y4 y5) (lontarlaw01_begins.l3 (k + 1) y0 y1 y2 y3 y4 y5)) ∧ (∀ y0 y1 y2 y3, LeO (lontarlaw01_begins.j1 k y0 y1 y2 y3) (lontarlaw01_begins.j1 (k + 1) y0 y1 y2 y3)) ∧ (∀ y0 y1 y2 y3, LeO (lontarlaw01_begins.j2 k y0 y1 y2 y3) (lontarlaw01_begins.j2 (k + 1) y0 y1 y2 y3))
 | 0 => ⟨fun _ _ _ _ r h => by simp [lontarlaw01_begins.l0] at h, fun _ _ _ r h => by simp [lontarlaw01_begins.j3] at h, fun _ _ _ _ r h => by simp [lontarlaw01_begins.l1] at h, fun _ _ _ _ r h => by simp [lontarlaw01_begins.l2] at h, fun _ _ _ _ _ _ r h => by simp [lontarlaw01_begins.l3] at h, fun _ _ _ _ r h => by simp [lontarlaw01_begins.j1] at h, fun _ _ _ _ r h => by simp [lontarlaw01_begins.j2] at h⟩
 | k + 1 => by
  obtain ⟨ih0, ih1, ih2, ih3, ih4, ih5, ih6⟩ := lontarlaw01_begins.mono_l k
  refine ⟨?_, ?_, ?_, ?_, ?_, ?_, ?_⟩
  ·intro y0 y1 y2 y3
   unfold lontarlaw01_begins.l0
   repeat' first
   | (with_reducible exact ih0 _ _ _ _)
   | (with_reducible exact ih1 _ _ _)
   | (with_reducible exact ih2 _ _ _ _)
   | (with_reducible exact ih3 _ _ _ _)
   | (with_reducible exact ih4 _ _ _ _ _ _)
   | (with_reducible exact ih5 _ _ _ _)
   | (with_reducible exact ih6 _ _ _ _)
   | (with_reducible exact LeO.refl _)
   | (with_reducible exact LeO.none _)
   | (with_reducible refine LeO.ite ?_ ?_)
   | (with_reducible refine LeO.bind ?_ (fun _ => ?_))
   | exact ih0 _ _ _ _
   | exact ih1 _ _ _
   | exact ih2 _ _ _ _
   | exact ih3 _ _ _ _
   | exact ih4 _ _ _ _ _ _
   | exact ih5 _ _ _ _
   | exact ih6 _ _ _ _
   | exact LeO.none _
   | refine LeO.ite ?_ ?_
   | refine LeO.bind ?_ (fun _ => ?_)
  ·intro y0 y1 y2
   unfold lontarlaw01_begins.j3
   repeat' first
   | (with_reducible exact ih0 _ _ _ _)
   | (with_reducible exact ih1 _ _ _)
   | (with_reducible exact ih2 _ _ _ _)
   | (with_reducible exact ih3 _ _ _ _)
   | (with_reducible exact ih4 _ _ _ _ _ _)
   | (with_reducible exact ih5 _ _ _ _)
   | (with_reducible exact ih6 _ _ _ _)
   | (with_reducible exact LeO.refl _)
   | (with_reducible exact LeO.none _)
   | (with_reducible refine LeO.ite ?_ ?_)
   | (with_reducible refine LeO.bind ?_ (fun _ => ?_))
   | exact ih0 _ _ _ _
   | exact ih1 _ _ _
   | exact ih2 _ _ _ _
   | exact ih3 _ _ _ _
   | exact ih4 _ _ _ _ _ _
   | exact ih5 _ _ _ _
   | exact ih6 _ _ _ _
   | exact LeO.none _
   | refine LeO.ite ?_ ?_
   | refine LeO.bind ?_ (fun _ => ?_)
  ·intro y0 y1 y2 y3
   unfold lontarlaw01_begins.l1
   repeat' first
   | (with_reducible exact ih0 _ _ _ _)
   | (with_reducible exact ih1 _ _ _)
   | (with_reducible exact ih2 _ _ _ _)
   | (with_reducible exact ih3 _ _ _ _)
   | (with_reducible exact ih4 _ _ _ _ _ _)
   | (with_reducible exact ih5 _ _ _ _)
   | (with_reducible exact ih6 _ _ _ _)
   | (with_reducible exact LeO.refl _)
   | (with_reducible exact LeO.none _)
   | (with_reducible refine LeO.ite ?_ ?_)
   | (with_reducible refine LeO.bind ?_ (fun _ => ?_))
   | exact ih0 _ _ _ _
   | exact ih1 _ _ _
   | exact ih2 _ _ _ _
   | exact ih3 _ _ _ _
   | exact ih4 _ _ _ _ _ _
   | exact ih5 _ _ _ _
   | exact ih6 _ _ _ _
   | exact LeO.none _
   | refine LeO.ite ?_ ?_
   | refine LeO.bind ?_ (fun _ => ?_)
  ·intro y0 y1 y2 y3
   unfold lontarlaw01_begins.l2
   repeat' first
   | (with_reducible exact ih0 _ _ _ _)
   | (with_reducible exact ih1 _ _ _)
   | (with_reducible exact ih2 _ _ _ _)
   | (with_reducible exact ih3 _ _ _ _)
   | (with_reducible exact ih4 _ _ _ _ _ _)
   | (with_reducible exact ih5 _ _ _ _)
   | (with_reducible exact ih6 _ _ _ _)
   | (with_reducible exact LeO.refl _)
   | (with_reducible exact LeO.none _)
   | (with_reducible refine LeO.ite ?_ ?_)
   | (with_reducible refine LeO.bind ?_ (fun _ => ?_))
   | exact ih0 _ _ _ _
   | exact ih1 _ _ _
   | exact ih2 _ _ _ _
   | exact ih3 _ _ _ _
   | exact ih4 _ _ _ _ _ _
   | exact ih5 _ _ _ _
   | exact ih6 _ _ _ _
   | exact LeO.none _
   | refine LeO.ite ?_ ?_
   | refine LeO.bind ?_ (fun _ => ?_)
  ·intro y0 y1 y2 y3 y4 y5
   unfold lontarlaw01_begins.l3
   repeat' first
   | (with_reducible exact ih0 _ _ _ _)
   | (with_reducible exact ih1 _ _ _)
   | (with_reducible exact ih2 _ _ _ _)
   | (with_reducible exact ih3 _ _ _ _)
   | (with_reducible exact ih4 _ _ _ _ _ _)
   | (with_reducible exact ih5 _ _ _ _)
   | (with_reducible exact ih6 _ _ _ _)
   | (with_reducible exact LeO.refl _)
   | (with_reducible exact LeO.none _)
   | (with_reducible refine LeO.ite ?_ ?_)
   | (with_reducible refine LeO.bind ?_ (fun _ => ?_))
   | exact ih0 _ _ _ _
   | exact ih1 _ _ _
   | exact ih2 _ _ _ _
   | exact ih3 _ _ _ _
   | exact ih4 _ _ _ _ _ _
   | exact ih5 _ _ _ _
   | exact ih6 _ _ _ _
   | exact LeO.none _
   | refine LeO.ite ?_ ?_
   | refine LeO.bind ?_ (fun _ => ?_)
  ·intro y0 y1 y2 y3
   unfold lontarlaw01_begins.j1
   repeat' first
   | (with_reducible exact ih0 _ _ _ _)
   | (with_reducible exact ih1 _ _ _)
   | (with_reducible exact ih2 _ _ _ _)
   | (with_reducible exact ih3 _ _ _ _)
   | (with_reducible exact ih4 _ _ _ _ _ _)
   | (with_reducible exact ih5 _ _ _ _)
   | (with_reducible exact ih6 _ _ _ _)
   | (with_reducible exact LeO.refl _)
   | (with_reducible exact LeO.none _)
   | (with_reducible refine LeO.ite ?_ ?_)
   | (with_reducible refine LeO.bind ?_ (fun _ => ?_))
   | exact ih0 _ _ _ _
   | exact ih1 _ _ _
   | exact ih2 _ _ _ _
   | exact ih3 _ _ _ _
   | exact ih4 _ _ _ _ _ _
   | exact ih5 _ _ _ _
   | exact ih6 _ _ _ _
   | exact LeO.none _
   | refine LeO.ite ?_ ?_
   | refine LeO.bind ?_ (fun _ => ?_)
  ·intro y0 y1 y2 y3
   unfold lontarlaw01_begins.j2
   repeat' first
   | (with_reducible exact ih0 _ _ _ _)
   | (with_reducible exact ih1 _ _ _)
   | (with_reducible exact ih2 _ _ _ _)
   | (with_reducible exact ih3 _ _ _ _)
   | (with_reducible exact ih4 _ _ _ _ _ _)
   | (with_reducible exact ih5 _ _ _ _)
   | (with_reducible exact ih6 _ _ _ _)
   | (with_reducible exact LeO.refl _)
   | (with_reducible exact LeO.none _)
   | (with_reducible refine LeO.ite ?_ ?_)
   | (with_reducible refine LeO.bind ?_ (fun _ => ?_))
   | exact ih0 _ _ _ _
   | exact ih1 _ _ _
   | exact ih2 _ _ _ _
   | exact ih3 _ _ _ _
   | exact ih4 _ _ _ _ _ _
   | exact ih5 _ _ _ _
   | exact ih6 _ _ _ _
   | exact LeO.none _
   | refine LeO.ite ?_ ?_
   | refine LeO.bind ?_ (fun _ => ?_)
theorem lontarlaw01_begins.mono : ∀ a0 k, LeO (lontarlaw01_begins.f k a0) (lontarlaw01_begins.f (k + 1) a0) := by
 intro a0 k
 obtain ⟨ih0, ih1, ih2, ih3, ih4, ih5, ih6⟩ := lontarlaw01_begins.mono_l k
 unfold lontarlaw01_begins.f
 repeat' first
   | (with_reducible exact ih0 _ _ _ _)
   | (with_reducible exact ih1 _ _ _)
   | (with_reducible exact ih2 _ _ _ _)
   | (with_reducible exact ih3 _ _ _ _)
   | (with_reducible exact ih4 _ _ _ _ _ _)
   | (with_reducible exact ih5 _ _ _ _)
   | (with_reducible exact ih6 _ _ _ _)
   | (with_reducible exact LeO.refl _)
   | (with_reducible exact LeO.none _)
   | (with_reducible refine LeO.ite ?_ ?_)
   | (with_reducible refine LeO.bind ?_ (fun _ => ?_))
   | exact ih0 _ _ _ _
   | exact ih1 _ _ _
   | exact ih2 _ _ _ _
   | exact ih3 _ _ _ _
   | exact ih4 _ _ _ _ _ _
   | exact ih5 _ _ _ _
   | exact ih6 _ _ _ _
   | exact LeO.none _
   | refine LeO.ite ?_ ?_
   | refine LeO.bind ?_ (fun _ => ?_)
set_option maxHeartbeats 8000000 in
set_option maxRecDepth 100000 in
theorem lontarlaw01_begins.calls (k : Nat) (A0 : Option Addr) (c0 : Nat) (l0 : List Int) (r : Bool) (w : World) (hr0 : Kd.C (Kd.int .u8) w A0 l0.length l0) (hc0 : l0.length ≤ c0) (h : lontarlaw01_begins.f k l0 = some r) :
  Calls Try.prog 35 #[.slice A0 l0.length c0] w fun e w' => e = .returned (.bool r) ∧ Below w.heap.size w w' := by
 have HR0 := Aside0.mk hr0
 have HC0 := Aside0.mk hc0
 clear hr0 hc0
 have HB := Aside0.mk (Below.refl w.heap.size w)
 have H : (if 1 ≤ (l0.length : Int) then (lontarlaw01_begins.l0 k l0 (l0.drop 1) ((l0.drop 1).length : Int) 0) else (none)) = some r := h
 clear h
 by_cases c2 : 1 ≤ (l0.length : Int)
 ·rw [if_pos c2] at H
  have c2b0 := eq_true c2
  have c2b1 : decide (1 ≤ (l0.length : Int)) = true := decide_eq_true c2
  clear c2
  have H' := Aside0.mk H
  clear H
  obtain ⟨i03, hi03, _, hsz3, _⟩ := info_parts info5
  obtain ⟨A3, hcut3, hA3, hC3⟩ := print_drop_of (P := Try.prog) (Value.int .u8) 0 22 5 .i64 Try.underlying22 hi03 hsz3 A0 c0 l0 1 (by omega) (of_decide_eq_true (by first | (with_reducible assumption) | assumption)) HC0.out
  have e1_ : l0.drop (Int.toNat 1) = l0.drop 1 := rfl
  rw [e1_] at hcut3 hA3 hC3
  clear e1_
  have HR189 := Aside0.mk (Kd.C_of_reads (h1 := fun _ => rfl) (hA3 _ (Kd.reads_of_C HR0.out)))
  have HC189 := Aside0.mk hC3
  clear hA3 hC3 hi03 hsz3
  generalize hld_ : l0.drop 1 = ld at *
  replace hld_ := Aside0.mk hld_
  go_enter Try.func35, Try.ntmps35
  go_wp2
  repeat (go_quiet (fail); try go_wp2)
  go_loopg [15] k (fun kq v15 w' => ∃ (x15_1 : Int), v15 = .int .i64 x15_1 ∧ Aside0 (lontarlaw01_begins.l0 kq l0 ld (ld.length : Int) x15_1 = some r) ∧ Aside0 (kq ≤ k) ∧ Aside0 (Below w.heap.size w w'))
  case atStart => exact ⟨(0), (by first | rfl | (simp; done) | (simp [*]; done)), H', ⟨Nat.le_refl _⟩, ⟨by repeat (first | (with_reducible first | exact HB.out | apply below_alloc | apply pw_below_drewN | apply below_drew1) | exact HB.out)⟩⟩
  case round =>
   clear H'
   try clear c2
   try clear c2b0
   try clear c2b1
   try clear p2
   try clear c3
   obtain ⟨x15_1, rfl, HA, HK1, HB⟩ := hrel
   cases gk with
   | zero => exact absurd HA.out (by simp [lontarlaw01_begins.l0])
   | succ k1 =>
    have H := HA.out
    clear HA
    simp only [lontarlaw01_begins.l0] at H
    by_cases c4 : x15_1 < (ld.length : Int)
    ·rw [if_pos c4] at H
     have c4b0 : decide (x15_1 < (ld.length : Int)) = true := decide_eq_true c4
     clear c4
     by_cases c5 : 0 ≤ x15_1
     ·rw [if_pos c5] at H
      have c5b0 : decide (0 ≤ x15_1) = true := decide_eq_true c5
      clear c5
      by_cases c6 : x15_1 < (ld.length : Int)
      ·rw [if_pos c6] at H
       have c6b0 : decide (x15_1 < (ld.length : Int)) = true := decide_eq_true c6
       clear c6
       by_cases c7 : (rd ld x15_1) < 128
       ·rw [if_pos c7] at H
        have c7b0 : decide ((rd ld x15_1) < 128) = true := decide_eq_true c7
        clear c7
        obtain rfl := Option.some.inj H
        have p190 : 0 ≤ (x15_1 : Int) := of_decide_eq_true (by first | (with_reducible assumption) | assumption)
        have q190 : x15_1 < (ld.length : Int) := of_decide_eq_true (by first | (with_reducible assumption) | assumption)
        obtain ⟨ad190, e190, hx190_0⟩ := Kd.at_int HR189.out x15_1 p190 q190
        cases e190
        replace hx190_0 := (HB.out.cell (World.block_lt_of_cell? w _ hx190_0)).trans hx190_0
        replace p190 := eq_true p190
        replace q190 := eq_true q190
        go_wp2
        repeat (go_quiet (fail); try go_wp2)
        go_ret
        exact ⟨by first | rfl | (simp [errW_none, errW_some] <;> rfl) | (simp [*, errW_none, errW_some] <;> rfl), by repeat (first | (with_reducible first | exact HB.out | apply below_alloc | apply pw_below_drewN | apply below_drew1) | exact HB.out)⟩
       ·rw [if_neg c7] at H
        have c7b0 : decide ((rd ld x15_1) < 128) = false := decide_eq_false c7
        clear c7
        by_cases c8 : (rd ld x15_1) > 191
        ·rw [if_pos c8] at H
         have c8b0 : decide (191 < (rd ld x15_1)) = true := decide_eq_true c8
         clear c8
         obtain rfl := Option.some.inj H
         have p190 : 0 ≤ (x15_1 : Int) := of_decide_eq_true (by first | (with_reducible assumption) | assumption)
         have q190 : x15_1 < (ld.length : Int) := of_decide_eq_true (by first | (with_reducible assumption) | assumption)
         obtain ⟨ad190, e190, hx190_0⟩ := Kd.at_int HR189.out x15_1 p190 q190
         cases e190
         replace hx190_0 := (HB.out.cell (World.block_lt_of_cell? w _ hx190_0)).trans hx190_0
         replace p190 := eq_true p190
         replace q190 := eq_true q190
         go_wp2
         repeat (go_quiet (fail); try go_wp2)
         go_ret
         exact ⟨by first | rfl | (simp [errW_none, errW_some] <;> rfl) | (simp [*, errW_none, errW_some] <;> rfl), by repeat (first | (with_reducible first | exact HB.out | apply below_alloc | apply pw_below_drewN | apply below_drew1) | exact HB.out)⟩
        ·rw [if_neg c8] at H
         have c8b0 : decide (191 < (rd ld x15_1)) = false := decide_eq_false c8
         clear c8
         have H' := Aside0.mk H
         clear H
         have p190 : 0 ≤ (x15_1 : Int) := of_decide_eq_true (by first | (with_reducible assumption) | assumption)
         have q190 : x15_1 < (ld.length : Int) := of_decide_eq_true (by first | (with_reducible assumption) | assumption)
         obtain ⟨ad190, e190, hx190_0⟩ := Kd.at_int HR189.out x15_1 p190 q190
         cases e190
         replace hx190_0 := (HB.out.cell (World.block_lt_of_cell? w _ hx190_0)).trans hx190_0
         replace p190 := eq_true p190
         replace q190 := eq_true q190
         go_wp2
         repeat (go_quiet (fail); try go_wp2)
         go_roundg k1
         case measure => have := HK1.out; omega
         case rel => exact ⟨(wrap64 (x15_1 + 1)), (by first | rfl | (simp; done) | (simp [*]; done)), H', ⟨by have := HK1.out; omega⟩, ⟨by repeat (first | (with_reducible first | exact HB.out | apply below_alloc | apply pw_below_drewN | apply below_drew1) | exact HB.out)⟩⟩
      ·rw [if_neg c6] at H
       exact absurd H (by simp)
     ·rw [if_neg c5] at H
      exact absurd H (by simp)
    ·rw [if_neg c4] at H
     have c4b0 : decide (x15_1 < (ld.length : Int)) = false := decide_eq_false c4
     clear c4
     have HC9 := Aside0.mk H
     clear H
     go_upto_block 2 with (fail)
     repeat (go_quiet (fail); go_upto_block 2 with (fail))
     go_cut [5, 6] (fun v5 v6 wc => ∃ (kq : Nat) (x5_8 : Int) (x6_8 : Int), v5 = .int .i64 x5_8 ∧ v6 = .int .i64 x6_8 ∧ Aside0 (lontarlaw01_begins.j3 kq l0 x5_8 x6_8 = some r) ∧ Aside0 (kq ≤ k1) ∧ Aside0 (Below w.heap.size w wc))
     case first =>
      have H := HC9.out
      clear HC9
      have HC10 := Aside0.mk H
      clear H
      go_upto_region 8 with (fail)
      repeat (go_quiet (fail); go_upto_region 8 with (fail))
      go_cut [26] (fun v26 wc => ∃ (kq : Nat) (x26_9 : Bool), v26 = .bool x26_9 ∧ Aside0 (lontarlaw01_begins.j1 kq l0 0 0 x26_9 = some r) ∧ Aside0 (kq ≤ k1) ∧ Aside0 (Below w.heap.size w wc))
      case first =>
       have H := HC10.out
       clear HC10
       by_cases c11 : 0 < (l0.length : Int)
       ·rw [if_pos c11] at H
        have c11b0 : decide (0 < (l0.length : Int)) = true := decide_eq_true c11
        have c11b1 : decide (0 < l0.length) = true := decide_eq_true (by omega)
        clear c11
        (first | rw [c11b0] | (simp only [i64_w, i32_w]; rw [c11b0]) | skip)
        by_cases c12 : (rd l0 0) ≥ 192
        ·rw [if_pos c12] at H
         have c12b0 : decide (192 ≤ (rd l0 0)) = true := decide_eq_true c12
         clear c12
         have H' := Aside0.mk H
         clear H
         have p191 : 0 ≤ (0 : Int) := (by omega)
         have q191 : 0 < (l0.length : Int) := of_decide_eq_true (by first | (with_reducible assumption) | assumption)
         obtain ⟨ad191, e191, hx191_0⟩ := Kd.at_int HR0.out 0 p191 q191
         cases e191
         have qi191 : (0 < l0.length) = True := eq_true (by omega)
         (try rw [show ((0 : Int)).toNat = 0 from rfl] at hx191_0)
         (try rw [Addr.add_zero'] at hx191_0)
         replace hx191_0 := (HB.out.cell (World.block_lt_of_cell? w _ hx191_0)).trans hx191_0
         replace p191 := eq_true p191
         replace q191 := eq_true q191
         have p192 : 0 ≤ (0 : Int) := (by omega)
         have q192 : 0 < (l0.length : Int) := of_decide_eq_true (by first | (with_reducible assumption) | assumption)
         obtain ⟨ad192, e192, hx192_0⟩ := Kd.at_int HR0.out 0 p192 q192
         obtain rfl : ad191 = ad192 := (by injection e192)
         have qi192 : (0 < l0.length) = True := eq_true (by omega)
         (try rw [show ((0 : Int)).toNat = 0 from rfl] at hx192_0)
         (try rw [Addr.add_zero'] at hx192_0)
         replace hx192_0 := (HB.out.cell (World.block_lt_of_cell? w _ hx192_0)).trans hx192_0
         replace p192 := eq_true p192
         replace q192 := eq_true q192
         go_wp2
         repeat (go_quiet (fail); try go_wp2)
         go_meet
         case rel => exact ⟨_, (decide ((rd l0 0) < 224)), (by first | rfl | (simp; done) | (simp [*]; done)), H', ⟨by have := HK1.out; first | omega | exact Nat.le_refl _⟩, ⟨by repeat (first | (with_reducible first | exact HB.out | apply below_alloc | apply pw_below_drewN | apply below_drew1) | exact HB.out)⟩⟩
        ·rw [if_neg c12] at H
         have c12b0 : decide (192 ≤ (rd l0 0)) = false := decide_eq_false c12
         clear c12
         have H' := Aside0.mk H
         clear H
         have p191 : 0 ≤ (0 : Int) := (by omega)
         have q191 : 0 < (l0.length : Int) := of_decide_eq_true (by first | (with_reducible assumption) | assumption)
         obtain ⟨ad191, e191, hx191_0⟩ := Kd.at_int HR0.out 0 p191 q191
         cases e191
         have qi191 : (0 < l0.length) = True := eq_true (by omega)
         (try rw [show ((0 : Int)).toNat = 0 from rfl] at hx191_0)
         (try rw [Addr.add_zero'] at hx191_0)
         replace hx191_0 := (HB.out.cell (World.block_lt_of_cell? w _ hx191_0)).trans hx191_0
         replace p191 := eq_true p191
         replace q191 := eq_true q191
         go_wp2
         repeat (go_quiet (fail); try go_wp2)
         go_meet
         case rel => exact ⟨_, (false), (by first | rfl | (simp; done) | (simp [*]; done)), H', ⟨by have := HK1.out; first | omega | exact Nat.le_refl _⟩, ⟨by repeat (first | (with_reducible first | exact HB.out | apply below_alloc | apply pw_below_drewN | apply below_drew1) | exact HB.out)⟩⟩
       ·rw [if_neg c11] at H
        exact absurd H (by simp)
      case rest =>
       clear HC10
       try clear c1
       try clear p1
       try clear q1
       try clear hx1
       try clear qi1
       try clear c2
       try clear c2b0
       try clear c2b1
       try clear p2
       try clear c3
       try clear c4
       try clear c4b0
       try clear c5
       try clear c5b0
       try clear c6
       try clear c6b0
       try clear p6
       try clear c7
       try clear c7b0
       try clear c8
       try clear c8b0
       try clear c11
       try clear c11b0
       try clear c11b1
       try clear c12
       try clear c12b0
       try clear hx190_0
       try clear hx191_0
       try clear hx192_0
       try clear p190
       try clear p191
       try clear p192
       try clear p2
       try clear q190
       try clear q191
       try clear q192
       obtain ⟨kq, x26_9, rfl, HA, HJ9, HB⟩ := hcut
       cases kq with
       | zero => exact absurd HA.out (by simp [lontarlaw01_begins.j1])
       | succ kj9 =>
        have H := HA.out
        clear HA
        simp only [lontarlaw01_begins.j1] at H
        by_cases c13 : x26_9 = true
        ·subst c13
         have H1 : (if 0 < (l0.length : Int) then (lontarlaw01_begins.j3 kj9 l0 2 (wrap64 ((wrap64 (rd l0 0)) - 192))) else (none)) = some r := by rw [if_pos rfl] at H; exact H
         clear H
         have H := H1
         clear H1
         by_cases c14 : 0 < (l0.length : Int)
         ·rw [if_pos c14] at H
          have c14b0 : decide (0 < (l0.length : Int)) = true := decide_eq_true c14
          have c14b1 : decide (0 < l0.length) = true := decide_eq_true (by omega)
          clear c14
          have H' := Aside0.mk H
          clear H
          have p193 : 0 ≤ (0 : Int) := (by omega)
          have q193 : 0 < (l0.length : Int) := of_decide_eq_true (by first | (with_reducible assumption) | assumption)
          obtain ⟨ad193, e193, hx193_0⟩ := Kd.at_int HR0.out 0 p193 q193
          cases e193
          have qi193 : (0 < l0.length) = True := eq_true (by omega)
          (try rw [show ((0 : Int)).toNat = 0 from rfl] at hx193_0)
          (try rw [Addr.add_zero'] at hx193_0)
          replace hx193_0 := (HB.out.cell (World.block_lt_of_cell? w _ hx193_0)).trans hx193_0
          replace p193 := eq_true p193
          replace q193 := eq_true q193
          go_wp2
          repeat (go_quiet (fail); try go_wp2)
          go_meet
          case rel => exact ⟨_, (2), (wrap64 ((wrap64 (rd l0 0)) - 192)), (by first | rfl | (simp; done) | (simp [*]; done)), (by first | rfl | (simp; done) | (simp [*]; done)), H', ⟨by have := HK1.out; have := HJ9.out; first | omega | exact Nat.le_refl _⟩, ⟨by repeat (first | (with_reducible first | exact HB.out | apply below_alloc | apply pw_below_drewN | apply below_drew1) | exact HB.out)⟩⟩
         ·rw [if_neg c14] at H
          exact absurd H (by simp)
        ·replace c13 := Bool.eq_false_iff.mpr c13
         subst c13
         have H1 : (if 0 < (l0.length : Int) then (if (rd l0 0) ≥ 224 then (lontarlaw01_begins.j2 kj9 l0 0 0 (decide ((rd l0 0) < 240))) else (lontarlaw01_begins.j2 kj9 l0 0 0 false)) else (none)) = some r := by rw [if_neg (show ¬ (false = true) by decide)] at H; exact H
         clear H
         have H := H1
         clear H1
         have HC15 := Aside0.mk H
         clear H
         go_upto_region 10 with (fail)
         repeat (go_quiet (fail); go_upto_region 10 with (fail))
         go_cut [42] (fun v42 wc => ∃ (kq : Nat) (x42_14 : Bool), v42 = .bool x42_14 ∧ Aside0 (lontarlaw01_begins.j2 kq l0 0 0 x42_14 = some r) ∧ Aside0 (kq ≤ kj9) ∧ Aside0 (Below w.heap.size w wc))
         case first =>
          have H := HC15.out
          clear HC15
          by_cases c16 : 0 < (l0.length : Int)
          ·rw [if_pos c16] at H
           have c16b0 : decide (0 < (l0.length : Int)) = true := decide_eq_true c16
           have c16b1 : decide (0 < l0.length) = true := decide_eq_true (by omega)
           clear c16
           (first | rw [c16b0] | (simp only [i64_w, i32_w]; rw [c16b0]) | skip)
           by_cases c17 : (rd l0 0) ≥ 224
           ·rw [if_pos c17] at H
            have c17b0 : decide (224 ≤ (rd l0 0)) = true := decide_eq_true c17
            clear c17
            have H' := Aside0.mk H
            clear H
            have p194 : 0 ≤ (0 : Int) := (by omega)
            have q194 : 0 < (l0.length : Int) := of_decide_eq_true (by first | (with_reducible assumption) | assumption)
            obtain ⟨ad194, e194, hx194_0⟩ := Kd.at_int HR0.out 0 p194 q194
            cases e194
            have qi194 : (0 < l0.length) = True := eq_true (by omega)
            (try rw [show ((0 : Int)).toNat = 0 from rfl] at hx194_0)
            (try rw [Addr.add_zero'] at hx194_0)
            replace hx194_0 := (HB.out.cell (World.block_lt_of_cell? w _ hx194_0)).trans hx194_0
            replace p194 := eq_true p194
            replace q194 := eq_true q194
            have p195 : 0 ≤ (0 : Int) := (by omega)
            have q195 : 0 < (l0.length : Int) := of_decide_eq_true (by first | (with_reducible assumption) | assumption)
            obtain ⟨ad195, e195, hx195_0⟩ := Kd.at_int HR0.out 0 p195 q195
            obtain rfl : ad194 = ad195 := (by injection e195)
            have qi195 : (0 < l0.length) = True := eq_true (by omega)
            (try rw [show ((0 : Int)).toNat = 0 from rfl] at hx195_0)
            (try rw [Addr.add_zero'] at hx195_0)
            replace hx195_0 := (HB.out.cell (World.block_lt_of_cell? w _ hx195_0)).trans hx195_0
            replace p195 := eq_true p195
            replace q195 := eq_true q195
            go_wp2
            repeat (go_quiet (fail); try go_wp2)
            go_meet
            case rel => exact ⟨_, (decide ((rd l0 0) < 240)), (by first | rfl | (simp; done) | (simp [*]; done)), H', ⟨by have := HK1.out; have := HJ9.out; first | omega | exact Nat.le_refl _⟩, ⟨by repeat (first | (with_reducible first | exact HB.out | apply below_alloc | apply pw_below_drewN | apply below_drew1) | exact HB.out)⟩⟩
           ·rw [if_neg c17] at H
            have c17b0 : decide (224 ≤ (rd l0 0)) = false := decide_eq_false c17
            clear c17
            have H' := Aside0.mk H
            clear H
            have p194 : 0 ≤ (0 : Int) := (by omega)
            have q194 : 0 < (l0.length : Int) := of_decide_eq_true (by first | (with_reducible assumption) | assumption)
            obtain ⟨ad194, e194, hx194_0⟩ := Kd.at_int HR0.out 0 p194 q194
            cases e194
            have qi194 : (0 < l0.length) = True := eq_true (by omega)
            (try rw [show ((0 : Int)).toNat = 0 from rfl] at hx194_0)
            (try rw [Addr.add_zero'] at hx194_0)
            replace hx194_0 := (HB.out.cell (World.block_lt_of_cell? w _ hx194_0)).trans hx194_0
            replace p194 := eq_true p194
            replace q194 := eq_true q194
            go_wp2
            repeat (go_quiet (fail); try go_wp2)
            go_meet
            case rel => exact ⟨_, (false), (by first | rfl | (simp; done) | (simp [*]; done)), H', ⟨by have := HK1.out; have := HJ9.out; first | omega | exact Nat.le_refl _⟩, ⟨by repeat (first | (with_reducible first | exact HB.out | apply below_alloc | apply pw_below_drewN | apply below_drew1) | exact HB.out)⟩⟩
          ·rw [if_neg c16] at H
           exact absurd H (by simp)
         case rest =>
          clear HC15
          try clear c1
          try clear p1
          try clear q1
          try clear hx1
          try clear qi1
          try clear c2
          try clear c2b0
          try clear c2b1
          try clear p2
          try clear c3
          try clear c4
          try clear c4b0
          try clear c5
          try clear c5b0
          try clear c6
          try clear c6b0
          try clear p6
          try clear c7
          try clear c7b0
          try clear c8
          try clear c8b0
          try clear c11
          try clear c11b0
          try clear c11b1
          try clear c12
          try clear c12b0
          try clear c13
          try clear c14
          try clear c14b0
          try clear c14b1
          try clear c16
          try clear c16b0
          try clear c16b1
          try clear c17
          try clear c17b0
          try clear hx190_0
          try clear hx191_0
          try clear hx192_0
          try clear hx193_0
          try clear hx194_0
          try clear hx195_0
          try clear p1
          try clear p190
          try clear p191
          try clear p192
          try clear p193
          try clear p194
          try clear p195
          try clear p2
          try clear p6
          try clear q1
          try clear q190
          try clear q191
          try clear q192
          try clear q193
          try clear q194
          try clear q195
          obtain ⟨kq, x42_14, rfl, HA, HJ14, HB⟩ := hcut
          cases kq with
          | zero => exact absurd HA.out (by simp [lontarlaw01_begins.j2])
          | succ kj14 =>
           have H := HA.out
           clear HA
           simp only [lontarlaw01_begins.j2] at H
           by_cases c18 : x42_14 = true
           ·subst c18
            have H1 : (if 0 < (l0.length : Int) then (lontarlaw01_begins.j3 kj14 l0 3 (wrap64 ((wrap64 (rd l0 0)) - 224))) else (none)) = some r := by rw [if_pos rfl] at H; exact H
            clear H
            have H := H1
            clear H1
            by_cases c19 : 0 < (l0.length : Int)
            ·rw [if_pos c19] at H
             have c19b0 : decide (0 < (l0.length : Int)) = true := decide_eq_true c19
             have c19b1 : decide (0 < l0.length) = true := decide_eq_true (by omega)
             clear c19
             have H' := Aside0.mk H
             clear H
             have p196 : 0 ≤ (0 : Int) := (by omega)
             have q196 : 0 < (l0.length : Int) := of_decide_eq_true (by first | (with_reducible assumption) | assumption)
             obtain ⟨ad196, e196, hx196_0⟩ := Kd.at_int HR0.out 0 p196 q196
             cases e196
             have qi196 : (0 < l0.length) = True := eq_true (by omega)
             (try rw [show ((0 : Int)).toNat = 0 from rfl] at hx196_0)
             (try rw [Addr.add_zero'] at hx196_0)
             replace hx196_0 := (HB.out.cell (World.block_lt_of_cell? w _ hx196_0)).trans hx196_0
             replace p196 := eq_true p196
             replace q196 := eq_true q196
             go_wp2
             repeat (go_quiet (fail); try go_wp2)
             go_meet
             case rel => exact ⟨_, (3), (wrap64 ((wrap64 (rd l0 0)) - 224)), (by first | rfl | (simp; done) | (simp [*]; done)), (by first | rfl | (simp; done) | (simp [*]; done)), H', ⟨by have := HK1.out; have := HJ9.out; have := HJ14.out; first | omega | exact Nat.le_refl _⟩, ⟨by repeat (first | (with_reducible first | exact HB.out | apply below_alloc | apply pw_below_drewN | apply below_drew1) | exact HB.out)⟩⟩
            ·rw [if_neg c19] at H
             exact absurd H (by simp)
           ·replace c18 := Bool.eq_false_iff.mpr c18
            subst c18
            have H1 : (if 0 < (l0.length : Int) then (if (rd l0 0) ≥ 240 then (if (rd l0 0) < 248 then (lontarlaw01_begins.j3 kj14 l0 4 (wrap64 ((wrap64 (rd l0 0)) - 240))) else (lontarlaw01_begins.j3 kj14 l0 0 0)) else (lontarlaw01_begins.j3 kj14 l0 0 0)) else (none)) = some r := by rw [if_neg (show ¬ (false = true) by decide)] at H; exact H
            clear H
            have H := H1
            clear H1
            by_cases c20 : 0 < (l0.length : Int)
            ·rw [if_pos c20] at H
             have c20b0 : decide (0 < (l0.length : Int)) = true := decide_eq_true c20
             have c20b1 : decide (0 < l0.length) = true := decide_eq_true (by omega)
             clear c20
             by_cases c21 : (rd l0 0) ≥ 240
             ·rw [if_pos c21] at H
              have c21b0 : decide (240 ≤ (rd l0 0)) = true := decide_eq_true c21
              clear c21
              by_cases c22 : (rd l0 0) < 248
              ·rw [if_pos c22] at H
               have c22b0 : decide ((rd l0 0) < 248) = true := decide_eq_true c22
               clear c22
               have H' := Aside0.mk H
               clear H
               have p197 : 0 ≤ (0 : Int) := (by omega)
               have q197 : 0 < (l0.length : Int) := of_decide_eq_true (by first | (with_reducible assumption) | assumption)
               obtain ⟨ad197, e197, hx197_0⟩ := Kd.at_int HR0.out 0 p197 q197
               cases e197
               have qi197 : (0 < l0.length) = True := eq_true (by omega)
               (try rw [show ((0 : Int)).toNat = 0 from rfl] at hx197_0)
               (try rw [Addr.add_zero'] at hx197_0)
               replace hx197_0 := (HB.out.cell (World.block_lt_of_cell? w _ hx197_0)).trans hx197_0
               replace p197 := eq_true p197
               replace q197 := eq_true q197
               have p198 : 0 ≤ (0 : Int) := (by omega)
               have q198 : 0 < (l0.length : Int) := of_decide_eq_true (by first | (with_reducible assumption) | assumption)
               obtain ⟨ad198, e198, hx198_0⟩ := Kd.at_int HR0.out 0 p198 q198
               obtain rfl : ad197 = ad198 := (by injection e198)
               have qi198 : (0 < l0.length) = True := eq_true (by omega)
               (try rw [show ((0 : Int)).toNat = 0 from rfl] at hx198_0)
               (try rw [Addr.add_zero'] at hx198_0)
               replace hx198_0 := (HB.out.cell (World.block_lt_of_cell? w _ hx198_0)).trans hx198_0
               replace p198 := eq_true p198
               replace q198 := eq_true q198
               have p199 : 0 ≤ (0 : Int) := (by omega)
               have q199 : 0 < (l0.length : Int) := of_decide_eq_true (by first | (with_reducible assumption) | assumption)
               obtain ⟨ad199, e199, hx199_0⟩ := Kd.at_int HR0.out 0 p199 q199
               obtain rfl : ad197 = ad199 := (by injection e199)
               have qi199 : (0 < l0.length) = True := eq_true (by omega)
               (try rw [show ((0 : Int)).toNat = 0 from rfl] at hx199_0)
               (try rw [Addr.add_zero'] at hx199_0)
               replace hx199_0 := (HB.out.cell (World.block_lt_of_cell? w _ hx199_0)).trans hx199_0
               replace p199 := eq_true p199
               replace q199 := eq_true q199
               go_wp2
               repeat (go_quiet (fail); try go_wp2)
               go_meet
               case rel => exact ⟨_, (4), (wrap64 ((wrap64 (rd l0 0)) - 240)), (by first | rfl | (simp; done) | (simp [*]; done)), (by first | rfl | (simp; done) | (simp [*]; done)), H', ⟨by have := HK1.out; have := HJ9.out; have := HJ14.out; first | omega | exact Nat.le_refl _⟩, ⟨by repeat (first | (with_reducible first | exact HB.out | apply below_alloc | apply pw_below_drewN | apply below_drew1) | exact HB.out)⟩⟩
              ·rw [if_neg c22] at H
               have c22b0 : decide ((rd l0 0) < 248) = false := decide_eq_false c22
               clear c22
               have H' := Aside0.mk H
               clear H
               have p197 : 0 ≤ (0 : Int) := (by omega)
               have q197 : 0 < (l0.length : Int) := of_decide_eq_true (by first | (with_reducible assumption) | assumption)
               obtain ⟨ad197, e197, hx197_0⟩ := Kd.at_int HR0.out 0 p197 q197
               cases e197
               have qi197 : (0 < l0.length) = True := eq_true (by omega)
               (try rw [show ((0 : Int)).toNat = 0 from rfl] at hx197_0)
               (try rw [Addr.add_zero'] at hx197_0)
               replace hx197_0 := (HB.out.cell (World.block_lt_of_cell? w _ hx197_0)).trans hx197_0
               replace p197 := eq_true p197
               replace q197 := eq_true q197
               have p198 : 0 ≤ (0 : Int) := (by omega)
               have q198 : 0 < (l0.length : Int) := of_decide_eq_true (by first | (with_reducible assumption) | assumption)
               obtain ⟨ad198, e198, hx198_0⟩ := Kd.at_int HR0.out 0 p198 q198
               obtain rfl : ad197 = ad198 := (by injection e198)
               have qi198 : (0 < l0.length) = True := eq_true (by omega)
               (try rw [show ((0 : Int)).toNat = 0 from rfl] at hx198_0)
               (try rw [Addr.add_zero'] at hx198_0)
               replace hx198_0 := (HB.out.cell (World.block_lt_of_cell? w _ hx198_0)).trans hx198_0
               replace p198 := eq_true p198
               replace q198 := eq_true q198
               go_wp2
               repeat (go_quiet (fail); try go_wp2)
               go_meet
               case rel => exact ⟨_, (0), (0), (by first | rfl | (simp; done) | (simp [*]; done)), (by first | rfl | (simp; done) | (simp [*]; done)), H', ⟨by have := HK1.out; have := HJ9.out; have := HJ14.out; first | omega | exact Nat.le_refl _⟩, ⟨by repeat (first | (with_reducible first | exact HB.out | apply below_alloc | apply pw_below_drewN | apply below_drew1) | exact HB.out)⟩⟩
             ·rw [if_neg c21] at H
              have c21b0 : decide (240 ≤ (rd l0 0)) = false := decide_eq_false c21
              clear c21
              have H' := Aside0.mk H
              clear H
              have p197 : 0 ≤ (0 : Int) := (by omega)
              have q197 : 0 < (l0.length : Int) := of_decide_eq_true (by first | (with_reducible assumption) | assumption)
              obtain ⟨ad197, e197, hx197_0⟩ := Kd.at_int HR0.out 0 p197 q197
              cases e197
              have qi197 : (0 < l0.length) = True := eq_true (by omega)
              (try rw [show ((0 : Int)).toNat = 0 from rfl] at hx197_0)
              (try rw [Addr.add_zero'] at hx197_0)
              replace hx197_0 := (HB.out.cell (World.block_lt_of_cell? w _ hx197_0)).trans hx197_0
              replace p197 := eq_true p197
              replace q197 := eq_true q197
              go_wp2
              repeat (go_quiet (fail); try go_wp2)
              go_meet
              case rel => exact ⟨_, (0), (0), (by first | rfl | (simp; done) | (simp [*]; done)), (by first | rfl | (simp; done) | (simp [*]; done)), H', ⟨by have := HK1.out; have := HJ9.out; have := HJ14.out; first | omega | exact Nat.le_refl _⟩, ⟨by repeat (first | (with_reducible first | exact HB.out | apply below_alloc | apply pw_below_drewN | apply below_drew1) | exact HB.out)⟩⟩
            ·rw [if_neg c20] at H
             exact absurd H (by simp)
     case rest =>
      clear HC9
      try clear c1
      try clear p1
      try clear q1
      try clear hx1
      try clear qi1
      try clear c2
      try clear c2b0
      try clear c2b1
      try clear p2
      try clear c3
      try clear c4
      try clear c4b0
      try clear c5
      try clear c5b0
      try clear c6
      try clear c6b0
      try clear p6
      try clear c7
      try clear c7b0
      try clear c8
      try clear c8b0
      try clear c11
      try clear c11b0
      try clear c11b1
      try clear c12
      try clear c12b0
      try clear c13
      try clear c14
      try clear c14b0
      try clear c14b1
      try clear c16
      try clear c16b0
      try clear c16b1
      try clear c17
      try clear c17b0
      try clear c18
      try clear c19
      try clear c19b0
      try clear c19b1
      try clear p19
      try clear q19
      try clear hx19
      try clear qi19
      try clear c20
      try clear c20b0
      try clear c20b1
      try clear c21
      try clear c21b0
      try clear c22
      try clear c22b0
      try clear hx190_0
      try clear hx191_0
      try clear hx192_0
      try clear hx193_0
      try clear hx194_0
      try clear hx195_0
      try clear hx196_0
      try clear hx197_0
      try clear hx198_0
      try clear hx199_0
      try clear p1
      try clear p190
      try clear p191
      try clear p192
      try clear p193
      try clear p194
      try clear p195
      try clear p196
      try clear p197
      try clear p198
      try clear p199
      try clear p2
      try clear p6
      try clear q1
      try clear q190
      try clear q191
      try clear q192
      try clear q193
      try clear q194
      try clear q195
      try clear q196
      try clear q197
      try clear q198
      try clear q199
      obtain ⟨kq, x5_8, x6_8, rfl, rfl, HA, HJ8, HB⟩ := hcut
      cases kq with
      | zero => exact absurd HA.out (by simp [lontarlaw01_begins.j3])
      | succ kj8 =>
       have H := HA.out
       clear HA
       simp only [lontarlaw01_begins.j3] at H
       by_cases c23 : (l0.length : Int) ≥ x5_8
       ·rw [if_pos c23] at H
        have c23b0 : decide (x5_8 ≤ (l0.length : Int)) = true := decide_eq_true c23
        clear c23
        obtain rfl := Option.some.inj H
        go_wp2
        repeat (go_quiet (fail); try go_wp2)
        go_ret
        exact ⟨by first | rfl | (simp [errW_none, errW_some] <;> rfl) | (simp [*, errW_none, errW_some] <;> rfl), by repeat (first | (with_reducible first | exact HB.out | apply below_alloc | apply pw_below_drewN | apply below_drew1) | exact HB.out)⟩
       ·rw [if_neg c23] at H
        have c23b0 : decide (x5_8 ≤ (l0.length : Int)) = false := decide_eq_false c23
        clear c23
        have H' := Aside0.mk H
        clear H
        go_wp2
        repeat (go_quiet (fail); try go_wp2)
        go_loopg [6, 7] kj8 (fun kq v6 v7 w' => ∃ (x6_3 : Int) (x7_3 : Int), v6 = .int .i64 x6_3 ∧ v7 = .int .i64 x7_3 ∧ Aside0 (lontarlaw01_begins.l1 kq l0 x5_8 x6_3 x7_3 = some r) ∧ Aside0 (kq ≤ kj8) ∧ Aside0 (Below w.heap.size w w'))
        case atStart => exact ⟨(x6_8), (1), (by first | rfl | (simp; done) | (simp [*]; done)), (by first | rfl | (simp; done) | (simp [*]; done)), H', ⟨Nat.le_refl _⟩, ⟨by repeat (first | (with_reducible first | exact HB.out | apply below_alloc | apply pw_below_drewN | apply below_drew1) | exact HB.out)⟩⟩
        case round =>
         clear H'
         try clear c1
         try clear p1
         try clear q1
         try clear hx1
         try clear qi1
         try clear c2
         try clear c2b0
         try clear c2b1
         try clear p2
         try clear c3
         try clear c4
         try clear c4b0
         try clear c5
         try clear c5b0
         try clear c6
         try clear c6b0
         try clear p6
         try clear c7
         try clear c7b0
         try clear c8
         try clear c8b0
         try clear c11
         try clear c11b0
         try clear c11b1
         try clear c12
         try clear c12b0
         try clear c13
         try clear c14
         try clear c14b0
         try clear c14b1
         try clear c16
         try clear c16b0
         try clear c16b1
         try clear c17
         try clear c17b0
         try clear c18
         try clear c19
         try clear c19b0
         try clear c19b1
         try clear p19
         try clear q19
         try clear hx19
         try clear qi19
         try clear c20
         try clear c20b0
         try clear c20b1
         try clear c21
         try clear c21b0
         try clear c22
         try clear c22b0
         try clear c23
         try clear c23b0
         try clear hx190_0
         try clear hx191_0
         try clear hx192_0
         try clear hx193_0
         try clear hx194_0
         try clear hx195_0
         try clear hx196_0
         try clear hx197_0
         try clear hx198_0
         try clear hx199_0
         try clear p1
         try clear p19
         try clear p190
         try clear p191
         try clear p192
         try clear p193
         try clear p194
         try clear p195
         try clear p196
         try clear p197
         try clear p198
         try clear p199
         try clear p2
         try clear p6
         try clear q1
         try clear q19
         try clear q190
         try clear q191
         try clear q192
         try clear q193
         try clear q194
         try clear q195
         try clear q196
         try clear q197
         try clear q198
         try clear q199
         obtain ⟨x6_3, x7_3, rfl, rfl, HA, HK3, HB⟩ := hrel
         cases gk with
         | zero => exact absurd HA.out (by simp [lontarlaw01_begins.l1])
         | succ k3 =>
          have H := HA.out
          clear HA
          simp only [lontarlaw01_begins.l1] at H
          by_cases c24 : x7_3 < x5_8
          ·rw [if_pos c24] at H
           have c24b0 : decide (x7_3 < x5_8) = true := decide_eq_true c24
           clear c24
           by_cases c25 : x7_3 < (l0.length : Int)
           ·rw [if_pos c25] at H
            have c25b0 : decide (x7_3 < (l0.length : Int)) = true := decide_eq_true c25
            clear c25
            by_cases c26 : 0 ≤ x7_3
            ·rw [if_pos c26] at H
             have c26b0 : decide (0 ≤ x7_3) = true := decide_eq_true c26
             clear c26
             have H' := Aside0.mk H
             clear H
             have p200 : 0 ≤ (x7_3 : Int) := of_decide_eq_true (by first | (with_reducible assumption) | assumption)
             have q200 : x7_3 < (l0.length : Int) := of_decide_eq_true (by first | (with_reducible assumption) | assumption)
             obtain ⟨ad200, e200, hx200_0⟩ := Kd.at_int HR0.out x7_3 p200 q200
             cases e200
             replace hx200_0 := (HB.out.cell (World.block_lt_of_cell? w _ hx200_0)).trans hx200_0
             replace p200 := eq_true p200
             replace q200 := eq_true q200
             go_wp2
             repeat (go_quiet (fail); try go_wp2)
             go_roundg k3
             case measure => have := HK1.out; have := HJ8.out; have := HK3.out; omega
             case rel => exact ⟨(wrap64 ((wrap64 (x6_3 * 64)) + (wrap64 ((wrap64 (rd l0 x7_3)) - 128)))), (wrap64 (x7_3 + 1)), (by first | rfl | (simp; done) | (simp [*]; done)), (by first | rfl | (simp; done) | (simp [*]; done)), H', ⟨by have := HK1.out; have := HJ8.out; have := HK3.out; omega⟩, ⟨by repeat (first | (with_reducible first | exact HB.out | apply below_alloc | apply pw_below_drewN | apply below_drew1) | exact HB.out)⟩⟩
            ·rw [if_neg c26] at H
             exact absurd H (by simp)
           ·rw [if_neg c25] at H
            have c25b0 : decide (x7_3 < (l0.length : Int)) = false := decide_eq_false c25
            clear c25
            have H' := Aside0.mk H
            clear H
            go_wp2
            repeat (go_quiet (fail); try go_wp2)
            go_roundg k3
            case measure => have := HK1.out; have := HJ8.out; have := HK3.out; omega
            case rel => exact ⟨(wrap64 (x6_3 * 64)), (wrap64 (x7_3 + 1)), (by first | rfl | (simp; done) | (simp [*]; done)), (by first | rfl | (simp; done) | (simp [*]; done)), H', ⟨by have := HK1.out; have := HJ8.out; have := HK3.out; omega⟩, ⟨by repeat (first | (with_reducible first | exact HB.out | apply below_alloc | apply pw_below_drewN | apply below_drew1) | exact HB.out)⟩⟩
          ·rw [if_neg c24] at H
           have c24b0 : decide (x7_3 < x5_8) = false := decide_eq_false c24
           clear c24
           have H' := Aside0.mk H
           clear H
           go_wp2
           repeat (go_quiet (fail); try go_wp2)
           go_loopg [8, 9] k3 (fun kq v8 v9 w' => ∃ (x8_4 : Int) (x9_4 : Int), v8 = .int .i64 x8_4 ∧ v9 = .int .i64 x9_4 ∧ Aside0 (lontarlaw01_begins.l2 kq x5_8 x6_3 x8_4 x9_4 = some r) ∧ Aside0 (kq ≤ k3) ∧ Aside0 (Below w.heap.size w w'))
           case atStart => exact ⟨(1), ((l0.length : Int)), (by first | rfl | (simp; done) | (simp [*]; done)), (by first | rfl | (simp; done) | (simp [*]; done)), H', ⟨Nat.le_refl _⟩, ⟨by repeat (first | (with_reducible first | exact HB.out | apply below_alloc | apply pw_below_drewN | apply below_drew1) | exact HB.out)⟩⟩
           case round =>
            clear H'
            try clear c1
            try clear p1
            try clear q1
            try clear hx1
            try clear qi1
            try clear c2
            try clear c2b0
            try clear c2b1
            try clear p2
            try clear q2
            try clear hx2
            try clear c3
            try clear c4
            try clear c4b0
            try clear c5
            try clear c5b0
            try clear c6
            try clear c6b0
            try clear p6
            try clear c7
            try clear c7b0
            try clear c8
            try clear c8b0
            try clear c11
            try clear c11b0
            try clear c11b1
            try clear c12
            try clear c12b0
            try clear c13
            try clear c14
            try clear c14b0
            try clear c14b1
            try clear c16
            try clear c16b0
            try clear c16b1
            try clear c17
            try clear c17b0
            try clear c18
            try clear c19
            try clear c19b0
            try clear c19b1
            try clear p19
            try clear q19
            try clear hx19
            try clear qi19
            try clear c20
            try clear c20b0
            try clear c20b1
            try clear p20
            try clear q20
            try clear hx20
            try clear c21
            try clear c21b0
            try clear c22
            try clear c22b0
            try clear c23
            try clear c23b0
            try clear c24
            try clear c24b0
            try clear c25
            try clear c25b0
            try clear c26
            try clear c26b0
            try clear hx190_0
            try clear hx191_0
            try clear hx192_0
            try clear hx193_0
            try clear hx194_0
            try clear hx195_0
            try clear hx196_0
            try clear hx197_0
            try clear hx198_0
            try clear hx199_0
            try clear hx200_0
            try clear p1
            try clear p19
            try clear p190
            try clear p191
            try clear p192
            try clear p193
            try clear p194
            try clear p195
            try clear p196
            try clear p197
            try clear p198
            try clear p199
            try clear p2
            try clear p200
            try clear p6
            try clear q1
            try clear q19
            try clear q190
            try clear q191
            try clear q192
            try clear q193
            try clear q194
            try clear q195
            try clear q196
            try clear q197
            try clear q198
            try clear q199
            try clear q200
            obtain ⟨x8_4, x9_4, rfl, rfl, HA, HK4, HB⟩ := hrel
            cases gk with
            | zero => exact absurd HA.out (by simp [lontarlaw01_begins.l2])
            | succ k4 =>
             have H := HA.out
             clear HA
             simp only [lontarlaw01_begins.l2] at H
             by_cases c27 : x9_4 < x5_8
             ·rw [if_pos c27] at H
              have c27b0 : decide (x9_4 < x5_8) = true := decide_eq_true c27
              clear c27
              have H' := Aside0.mk H
              clear H
              go_wp2
              repeat (go_quiet (fail); try go_wp2)
              go_roundg k4
              case measure => have := HK1.out; have := HJ8.out; have := HK3.out; have := HK4.out; omega
              case rel => exact ⟨(wrap64 (x8_4 * 64)), (wrap64 (x9_4 + 1)), (by first | rfl | (simp; done) | (simp [*]; done)), (by first | rfl | (simp; done) | (simp [*]; done)), H', ⟨by have := HK1.out; have := HJ8.out; have := HK3.out; have := HK4.out; omega⟩, ⟨by repeat (first | (with_reducible first | exact HB.out | apply below_alloc | apply pw_below_drewN | apply below_drew1) | exact HB.out)⟩⟩
             ·rw [if_neg c27] at H
              have c27b0 : decide (x9_4 < x5_8) = false := decide_eq_false c27
              clear c27
              obtain ⟨y201, hy201⟩ : ∃ y_ : List Int, y_ = (([0, 0, 128, 2048, 65536] : List Int)) := ⟨_, rfl⟩
              replace H : (if 0 ≤ x5_8 then (if x5_8 < (y201.length : Int) then ((some (([x6_3, wrap64 ((wrap64 (x6_3 + x8_4)) - 1), mx x6_3 (rd y201 x5_8)] : List Int) : List Int)).bind fun y205 => (lontarlaw01_begins.l3 k4 x5_8 x6_3 x8_4 y205 (y205.length : Int) 0)) else (none)) else (none)) = some r := by first | (rw [hy201]; with_reducible exact H) | (have H2_ := (Option.bind_some _ _).symm.trans H; rw [hy201]; with_reducible exact H2_) | (have H2_ := (Option.bind_some _ _).symm.trans H; with_reducible exact H2_) | with_reducible exact H | (rw [hy201]; exact H) | exact H
              have Ny201 := Aside0.mk hy201
              clear hy201
              by_cases c28 : 0 ≤ x5_8
              ·rw [if_pos c28] at H
               have c28b0 : decide (0 ≤ x5_8) = true := decide_eq_true c28
               clear c28
               by_cases c29 : x5_8 < (y201.length : Int)
               ·rw [if_pos c29] at H
                have c29b0 : decide (x5_8 < (y201.length : Int)) = true := decide_eq_true c29
                clear c29
                obtain ⟨ji30, hji30⟩ : ∃ j_ : Int, (mx x6_3 (rd y201 x5_8)) = j_ := ⟨_, rfl⟩
                replace H : ((some (([x6_3, wrap64 ((wrap64 (x6_3 + x8_4)) - 1), ji30] : List Int) : List Int)).bind fun y205 => (lontarlaw01_begins.l3 k4 x5_8 x6_3 x8_4 y205 (y205.length : Int) 0)) = some r := by first | (rw [hji30] at H; exact H) | (simp only [hji30] at H ⊢; exact H)
                have hji30_ : (if x6_3 < (rd y201 x5_8) then (rd y201 x5_8) else x6_3) = ji30 := hji30
                obtain ⟨y205, hy205⟩ : ∃ y_ : List Int, y_ = (([x6_3, wrap64 ((wrap64 (x6_3 + x8_4)) - 1), ji30] : List Int)) := ⟨_, rfl⟩
                replace H : (lontarlaw01_begins.l3 k4 x5_8 x6_3 x8_4 y205 (y205.length : Int) 0) = some r := by first | (rw [hy205]; with_reducible exact H) | (have H2_ := (Option.bind_some _ _).symm.trans H; rw [hy205]; with_reducible exact H2_) | (have H2_ := (Option.bind_some _ _).symm.trans H; with_reducible exact H2_) | with_reducible exact H | (rw [hy205]; exact H) | exact H
                have Ny205 := Aside0.mk hy205
                clear hy205
                have H' := Aside0.mk H
                clear H
                go_wp2_with (first | ((with_reducible refine gate_dst (N := 112) rfl ?_); (try (refine gate_guard (by rfl) ?_; dsimp only)); refine Kd.R_lit (Kd.int .i64) _ 3 ?hg (N := 112) ?hd (xs := ([0, 0, 128, 2048, 65536] : List Int)) (inner := [.int .i64 0, .int .i64 0, .int .i64 128, .int .i64 2048, .int .i64 65536]) (ok := fun _ => True) (okp := fun _ => True) ?hr ?hp (fun _ hk => hk) trivial (Below.refl _ _) (Nat.le_refl _) (by simp) ?_; (case hd => rfl); (case hg => rfl); (case hr => first | (go_simp; done) | (go_simp; rfl)); (case hp => exact (Reps.one (show Kd.M (Kd.int .i64) _ _ _ 0 [.int .i64 0] from rfl) (Reps.one (show Kd.M (Kd.int .i64) _ _ _ 0 [.int .i64 0] from rfl) (Reps.one (show Kd.M (Kd.int .i64) _ _ _ 128 [.int .i64 128] from rfl) (Reps.one (show Kd.M (Kd.int .i64) _ _ _ 2048 [.int .i64 2048] from rfl) (Reps.one (show Kd.M (Kd.int .i64) _ _ _ 65536 [.int .i64 65536] from rfl) (Reps.none _ _))))))); intro v202 w31 ho32 hb hg_ hnew_; clear hg_ hnew_; (first | rw [← Ny201.out] at ho32 | (simp only [Int.reduceToNat] at ho32; rw [← Ny201.out] at ho32)); have n0_ := Aside0.mk (Kd.R_lower ho32 (below_size (by repeat (first | (with_reducible first | exact HB.out | apply below_alloc | apply pw_below_drewN | apply below_drew1) | exact HB.out)))); have n1_ := Aside0.mk (below_step (by repeat (first | (with_reducible first | exact HB.out | apply below_alloc | apply pw_below_drewN | apply below_drew1) | exact HB.out)) hb); clear HB; have HO203 := n0_; have HB := n1_; clear n0_ n1_; clear hb ho32; obtain ⟨Ao33, co33, eo33⟩ := Kd.R_slice HO203.out; subst eo33; have p204 : 0 ≤ (x5_8 : Int) := of_decide_eq_true (by first | (with_reducible assumption) | assumption); have q204 : x5_8 < (y201.length : Int) := of_decide_eq_true (by first | (with_reducible assumption) | assumption); obtain ⟨ad204, e204, hx204_0⟩ := Kd.at_int (Kd.R_reads' HO203.out).2.2 x5_8 p204 q204; cases e204; replace p204 := eq_true p204; replace q204 := eq_true q204) | ((with_reducible refine gate_dst (N := 117) rfl ?_); (try (refine gate_guard (by rfl) ?_; dsimp only)); refine Kd.R_lit (Kd.int .i64) _ 3 ?hg (N := 117) ?hd (xs := ([x6_3, wrap64 ((wrap64 (x6_3 + x8_4)) - 1), ji30] : List Int)) (inner := [.int .i64 x6_3, .int .i64 (wrap64 ((wrap64 (x6_3 + x8_4)) - 1)), .int .i64 ji30]) (ok := fun _ => True) (okp := fun _ => True) ?hr ?hp (fun _ hk => hk) trivial (Below.refl _ _) (Nat.le_refl _) (by simp) ?_; (case hd => rfl); (case hg => rfl); (case hr => first | (go_simp; done) | (go_simp; rfl)); (case hp => exact (Reps.one (show Kd.M (Kd.int .i64) _ _ _ x6_3 [.int .i64 x6_3] from rfl) (Reps.one (show Kd.M (Kd.int .i64) _ _ _ (wrap64 ((wrap64 (x6_3 + x8_4)) - 1)) [.int .i64 (wrap64 ((wrap64 (x6_3 + x8_4)) - 1))] from rfl) (Reps.one (show Kd.M (Kd.int .i64) _ _ _ ji30 [.int .i64 ji30] from rfl) (Reps.none _ _))))); intro v206 w34 ho35 hb hg_ hnew_; clear hg_ hnew_; (first | rw [← Ny205.out] at ho35 | (simp only [Int.reduceToNat] at ho35; rw [← Ny205.out] at ho35)); have n0_ := Aside0.mk (Kd.R_elder' (by (with_reducible repeat (first | apply Kd.R_alloc | apply Kd.R_drewN | apply Kd.R_drew)); exact HO203.out) (Kd.R_base ho35) hb); have n1_ := Aside0.mk (Kd.R_lower (Kd.R_new' ho35 (Kd.R_lt (by (with_reducible repeat (first | apply Kd.R_alloc | apply Kd.R_drewN | apply Kd.R_drew)); exact HO203.out))) (below_size (by repeat (first | (with_reducible first | exact HB.out | apply below_alloc | apply pw_below_drewN | apply below_drew1) | exact HB.out)))); have n2_ := Aside0.mk (below_step (by repeat (first | (with_reducible first | exact HB.out | apply below_alloc | apply pw_below_drewN | apply below_drew1) | exact HB.out)) hb); clear HO203; clear HB; have HO203 := n0_; have HO207 := n1_; have HB := n2_; clear n0_ n1_ n2_; clear hb ho35; obtain ⟨Ao36, co36, eo36⟩ := Kd.R_slice HO207.out; subst eo36))
                repeat (go_quiet (first | ((with_reducible refine gate_dst (N := 112) rfl ?_); (try (refine gate_guard (by rfl) ?_; dsimp only)); refine Kd.R_lit (Kd.int .i64) _ 3 ?hg (N := 112) ?hd (xs := ([0, 0, 128, 2048, 65536] : List Int)) (inner := [.int .i64 0, .int .i64 0, .int .i64 128, .int .i64 2048, .int .i64 65536]) (ok := fun _ => True) (okp := fun _ => True) ?hr ?hp (fun _ hk => hk) trivial (Below.refl _ _) (Nat.le_refl _) (by simp) ?_; (case hd => rfl); (case hg => rfl); (case hr => first | (go_simp; done) | (go_simp; rfl)); (case hp => exact (Reps.one (show Kd.M (Kd.int .i64) _ _ _ 0 [.int .i64 0] from rfl) (Reps.one (show Kd.M (Kd.int .i64) _ _ _ 0 [.int .i64 0] from rfl) (Reps.one (show Kd.M (Kd.int .i64) _ _ _ 128 [.int .i64 128] from rfl) (Reps.one (show Kd.M (Kd.int .i64) _ _ _ 2048 [.int .i64 2048] from rfl) (Reps.one (show Kd.M (Kd.int .i64) _ _ _ 65536 [.int .i64 65536] from rfl) (Reps.none _ _))))))); intro v202 w31 ho32 hb hg_ hnew_; clear hg_ hnew_; (first | rw [← Ny201.out] at ho32 | (simp only [Int.reduceToNat] at ho32; rw [← Ny201.out] at ho32)); have n0_ := Aside0.mk (Kd.R_lower ho32 (below_size (by repeat (first | (with_reducible first | exact HB.out | apply below_alloc | apply pw_below_drewN | apply below_drew1) | exact HB.out)))); have n1_ := Aside0.mk (below_step (by repeat (first | (with_reducible first | exact HB.out | apply below_alloc | apply pw_below_drewN | apply below_drew1) | exact HB.out)) hb); clear HB; have HO203 := n0_; have HB := n1_; clear n0_ n1_; clear hb ho32; obtain ⟨Ao33, co33, eo33⟩ := Kd.R_slice HO203.out; subst eo33; have p204 : 0 ≤ (x5_8 : Int) := of_decide_eq_true (by first | (with_reducible assumption) | assumption); have q204 : x5_8 < (y201.length : Int) := of_decide_eq_true (by first | (with_reducible assumption) | assumption); obtain ⟨ad204, e204, hx204_0⟩ := Kd.at_int (Kd.R_reads' HO203.out).2.2 x5_8 p204 q204; cases e204; replace p204 := eq_true p204; replace q204 := eq_true q204) | ((with_reducible refine gate_dst (N := 117) rfl ?_); (try (refine gate_guard (by rfl) ?_; dsimp only)); refine Kd.R_lit (Kd.int .i64) _ 3 ?hg (N := 117) ?hd (xs := ([x6_3, wrap64 ((wrap64 (x6_3 + x8_4)) - 1), ji30] : List Int)) (inner := [.int .i64 x6_3, .int .i64 (wrap64 ((wrap64 (x6_3 + x8_4)) - 1)), .int .i64 ji30]) (ok := fun _ => True) (okp := fun _ => True) ?hr ?hp (fun _ hk => hk) trivial (Below.refl _ _) (Nat.le_refl _) (by simp) ?_; (case hd => rfl); (case hg => rfl); (case hr => first | (go_simp; done) | (go_simp; rfl)); (case hp => exact (Reps.one (show Kd.M (Kd.int .i64) _ _ _ x6_3 [.int .i64 x6_3] from rfl) (Reps.one (show Kd.M (Kd.int .i64) _ _ _ (wrap64 ((wrap64 (x6_3 + x8_4)) - 1)) [.int .i64 (wrap64 ((wrap64 (x6_3 + x8_4)) - 1))] from rfl) (Reps.one (show Kd.M (Kd.int .i64) _ _ _ ji30 [.int .i64 ji30] from rfl) (Reps.none _ _))))); intro v206 w34 ho35 hb hg_ hnew_; clear hg_ hnew_; (first | rw [← Ny205.out] at ho35 | (simp only [Int.reduceToNat] at ho35; rw [← Ny205.out] at ho35)); have n0_ := Aside0.mk (Kd.R_elder' (by (with_reducible repeat (first | apply Kd.R_alloc | apply Kd.R_drewN | apply Kd.R_drew)); exact HO203.out) (Kd.R_base ho35) hb); have n1_ := Aside0.mk (Kd.R_lower (Kd.R_new' ho35 (Kd.R_lt (by (with_reducible repeat (first | apply Kd.R_alloc | apply Kd.R_drewN | apply Kd.R_drew)); exact HO203.out))) (below_size (by repeat (first | (with_reducible first | exact HB.out | apply below_alloc | apply pw_below_drewN | apply below_drew1) | exact HB.out)))); have n2_ := Aside0.mk (below_step (by repeat (first | (with_reducible first | exact HB.out | apply below_alloc | apply pw_below_drewN | apply below_drew1) | exact HB.out)) hb); clear HO203; clear HB; have HO203 := n0_; have HO207 := n1_; have HB := n2_; clear n0_ n1_ n2_; clear hb ho35; obtain ⟨Ao36, co36, eo36⟩ := Kd.R_slice HO207.out; subst eo36)); try go_wp2_with (first | ((with_reducible refine gate_dst (N := 112) rfl ?_); (try (refine gate_guard (by rfl) ?_; dsimp only)); refine Kd.R_lit (Kd.int .i64) _ 3 ?hg (N := 112) ?hd (xs := ([0, 0, 128, 2048, 65536] : List Int)) (inner := [.int .i64 0, .int .i64 0, .int .i64 128, .int .i64 2048, .int .i64 65536]) (ok := fun _ => True) (okp := fun _ => True) ?hr ?hp (fun _ hk => hk) trivial (Below.refl _ _) (Nat.le_refl _) (by simp) ?_; (case hd => rfl); (case hg => rfl); (case hr => first | (go_simp; done) | (go_simp; rfl)); (case hp => exact (Reps.one (show Kd.M (Kd.int .i64) _ _ _ 0 [.int .i64 0] from rfl) (Reps.one (show Kd.M (Kd.int .i64) _ _ _ 0 [.int .i64 0] from rfl) (Reps.one (show Kd.M (Kd.int .i64) _ _ _ 128 [.int .i64 128] from rfl) (Reps.one (show Kd.M (Kd.int .i64) _ _ _ 2048 [.int .i64 2048] from rfl) (Reps.one (show Kd.M (Kd.int .i64) _ _ _ 65536 [.int .i64 65536] from rfl) (Reps.none _ _))))))); intro v202 w31 ho32 hb hg_ hnew_; clear hg_ hnew_; (first | rw [← Ny201.out] at ho32 | (simp only [Int.reduceToNat] at ho32; rw [← Ny201.out] at ho32)); have n0_ := Aside0.mk (Kd.R_lower ho32 (below_size (by repeat (first | (with_reducible first | exact HB.out | apply below_alloc | apply pw_below_drewN | apply below_drew1) | exact HB.out)))); have n1_ := Aside0.mk (below_step (by repeat (first | (with_reducible first | exact HB.out | apply below_alloc | apply pw_below_drewN | apply below_drew1) | exact HB.out)) hb); clear HB; have HO203 := n0_; have HB := n1_; clear n0_ n1_; clear hb ho32; obtain ⟨Ao33, co33, eo33⟩ := Kd.R_slice HO203.out; subst eo33; have p204 : 0 ≤ (x5_8 : Int) := of_decide_eq_true (by first | (with_reducible assumption) | assumption); have q204 : x5_8 < (y201.length : Int) := of_decide_eq_true (by first | (with_reducible assumption) | assumption); obtain ⟨ad204, e204, hx204_0⟩ := Kd.at_int (Kd.R_reads' HO203.out).2.2 x5_8 p204 q204; cases e204; replace p204 := eq_true p204; replace q204 := eq_true q204) | ((with_reducible refine gate_dst (N := 117) rfl ?_); (try (refine gate_guard (by rfl) ?_; dsimp only)); refine Kd.R_lit (Kd.int .i64) _ 3 ?hg (N := 117) ?hd (xs := ([x6_3, wrap64 ((wrap64 (x6_3 + x8_4)) - 1), ji30] : List Int)) (inner := [.int .i64 x6_3, .int .i64 (wrap64 ((wrap64 (x6_3 + x8_4)) - 1)), .int .i64 ji30]) (ok := fun _ => True) (okp := fun _ => True) ?hr ?hp (fun _ hk => hk) trivial (Below.refl _ _) (Nat.le_refl _) (by simp) ?_; (case hd => rfl); (case hg => rfl); (case hr => first | (go_simp; done) | (go_simp; rfl)); (case hp => exact (Reps.one (show Kd.M (Kd.int .i64) _ _ _ x6_3 [.int .i64 x6_3] from rfl) (Reps.one (show Kd.M (Kd.int .i64) _ _ _ (wrap64 ((wrap64 (x6_3 + x8_4)) - 1)) [.int .i64 (wrap64 ((wrap64 (x6_3 + x8_4)) - 1))] from rfl) (Reps.one (show Kd.M (Kd.int .i64) _ _ _ ji30 [.int .i64 ji30] from rfl) (Reps.none _ _))))); intro v206 w34 ho35 hb hg_ hnew_; clear hg_ hnew_; (first | rw [← Ny205.out] at ho35 | (simp only [Int.reduceToNat] at ho35; rw [← Ny205.out] at ho35)); have n0_ := Aside0.mk (Kd.R_elder' (by (with_reducible repeat (first | apply Kd.R_alloc | apply Kd.R_drewN | apply Kd.R_drew)); exact HO203.out) (Kd.R_base ho35) hb); have n1_ := Aside0.mk (Kd.R_lower (Kd.R_new' ho35 (Kd.R_lt (by (with_reducible repeat (first | apply Kd.R_alloc | apply Kd.R_drewN | apply Kd.R_drew)); exact HO203.out))) (below_size (by repeat (first | (with_reducible first | exact HB.out | apply below_alloc | apply pw_below_drewN | apply below_drew1) | exact HB.out)))); have n2_ := Aside0.mk (below_step (by repeat (first | (with_reducible first | exact HB.out | apply below_alloc | apply pw_below_drewN | apply below_drew1) | exact HB.out)) hb); clear HO203; clear HB; have HO203 := n0_; have HO207 := n1_; have HB := n2_; clear n0_ n1_ n2_; clear hb ho35; obtain ⟨Ao36, co36, eo36⟩ := Kd.R_slice HO207.out; subst eo36)))
                go_loopg [119] k4 (fun kq v119 w' => ∃ (x119_5 : Int), v119 = .int .i64 x119_5 ∧ Aside0 (lontarlaw01_begins.l3 kq x5_8 x6_3 x8_4 y205 (y205.length : Int) x119_5 = some r) ∧ Aside0 (kq ≤ k4) ∧ Aside0 (Kd.R (Kd.int .i64) 3 w' w.heap.size (fun _ => True) (.slice Ao36 y205.length co36) y205) ∧ Aside0 (Below w.heap.size w w'))
                case atStart => exact ⟨(0), (by first | rfl | (simp; done) | (simp [*]; done)), H', ⟨Nat.le_refl _⟩, ⟨by (with_reducible repeat (first | apply Kd.R_alloc | apply Kd.R_drewN | apply Kd.R_drew)); exact Kd.R_mono HO207.out (fun _ hk => trivial)⟩, ⟨by repeat (first | (with_reducible first | exact HB.out | apply below_alloc | apply pw_below_drewN | apply below_drew1) | exact HB.out)⟩⟩
                case round =>
                 clear H'
                 try clear c1
                 try clear p1
                 try clear q1
                 try clear hx1
                 try clear qi1
                 try clear c2
                 try clear c2b0
                 try clear c2b1
                 try clear p2
                 try clear q2
                 try clear hx2
                 try clear c3
                 try clear c4
                 try clear c4b0
                 try clear c5
                 try clear c5b0
                 try clear c6
                 try clear c6b0
                 try clear p6
                 try clear c7
                 try clear c7b0
                 try clear c8
                 try clear c8b0
                 try clear c11
                 try clear c11b0
                 try clear c11b1
                 try clear c12
                 try clear c12b0
                 try clear c13
                 try clear c14
                 try clear c14b0
                 try clear c14b1
                 try clear c16
                 try clear c16b0
                 try clear c16b1
                 try clear c17
                 try clear c17b0
                 try clear c18
                 try clear c19
                 try clear c19b0
                 try clear c19b1
                 try clear p19
                 try clear q19
                 try clear hx19
                 try clear qi19
                 try clear c20
                 try clear c20b0
                 try clear c20b1
                 try clear p20
                 try clear q20
                 try clear hx20
                 try clear c21
                 try clear c21b0
                 try clear c22
                 try clear c22b0
                 try clear c23
                 try clear c23b0
                 try clear c24
                 try clear c24b0
                 try clear c25
                 try clear c25b0
                 try clear c26
                 try clear c26b0
                 try clear c27
                 try clear c27b0
                 try clear c28
                 try clear c28b0
                 try clear c29
                 try clear c29b0
                 try clear hx190_0
                 try clear hx191_0
                 try clear hx192_0
                 try clear hx193_0
                 try clear hx194_0
                 try clear hx195_0
                 try clear hx196_0
                 try clear hx197_0
                 try clear hx198_0
                 try clear hx199_0
                 try clear hx200_0
                 try clear hx204_0
                 try clear p1
                 try clear p19
                 try clear p190
                 try clear p191
                 try clear p192
                 try clear p193
                 try clear p194
                 try clear p195
                 try clear p196
                 try clear p197
                 try clear p198
                 try clear p199
                 try clear p2
                 try clear p20
                 try clear p200
                 try clear p204
                 try clear p6
                 try clear q1
                 try clear q19
                 try clear q190
                 try clear q191
                 try clear q192
                 try clear q193
                 try clear q194
                 try clear q195
                 try clear q196
                 try clear q197
                 try clear q198
                 try clear q199
                 try clear q2
                 try clear q20
                 try clear q200
                 try clear q204
                 obtain ⟨x119_5, rfl, HA, HK5, HO_117, HB⟩ := hrel
                 cases gk with
                 | zero => exact absurd HA.out (by simp [lontarlaw01_begins.l3])
                 | succ k5 =>
                  have H := HA.out
                  clear HA
                  simp only [lontarlaw01_begins.l3] at H
                  by_cases c37 : x119_5 < (y205.length : Int)
                  ·rw [if_pos c37] at H
                   have c37b0 : decide (x119_5 < (y205.length : Int)) = true := decide_eq_true c37
                   clear c37
                   by_cases c38 : 0 ≤ x119_5
                   ·rw [if_pos c38] at H
                    have c38b0 : decide (0 ≤ x119_5) = true := decide_eq_true c38
                    clear c38
                    by_cases c39 : x119_5 < (y205.length : Int)
                    ·rw [if_pos c39] at H
                     have c39b0 : decide (x119_5 < (y205.length : Int)) = true := decide_eq_true c39
                     clear c39
                     by_cases c40 : (rd y205 x119_5) ≥ x6_3
                     ·rw [if_pos c40] at H
                      have c40b0 : decide (x6_3 ≤ (rd y205 x119_5)) = true := decide_eq_true c40
                      clear c40
                      by_cases c41 : (rd y205 x119_5) < (wrap64 (x6_3 + x8_4))
                      ·rw [if_pos c41] at H
                       have c41b0 : decide ((rd y205 x119_5) < (wrap64 (x6_3 + x8_4))) = true := decide_eq_true c41
                       clear c41
                       replace H := Option.bind_eq_some_iff.mp H
                       obtain ⟨t209, A420, H⟩ := H
                       replace H : (if t209 = true then ((lontarlaw01_bytes.f (rd y205 x119_5)).bind fun t210 => (if (t210.size : Int) = x5_8 then (some true) else (lontarlaw01_begins.l3 k5 x5_8 x6_3 x8_4 y205 (y205.length : Int) (wrap64 (x119_5 + 1))))) else (lontarlaw01_begins.l3 k5 x5_8 x6_3 x8_4 y205 (y205.length : Int) (wrap64 (x119_5 + 1)))) = some r := H
                       have A42 := Aside0.mk A420
                       clear A420
                       by_cases c43 : t209 = true
                       ·subst c43
                        have H1 : ((lontarlaw01_bytes.f (rd y205 x119_5)).bind fun t210 => (if (t210.size : Int) = x5_8 then (some true) else (lontarlaw01_begins.l3 k5 x5_8 x6_3 x8_4 y205 (y205.length : Int) (wrap64 (x119_5 + 1))))) = some r := by rw [if_pos rfl] at H; exact H
                        clear H
                        have H := H1
                        clear H1
                        replace H := Option.bind_eq_some_iff.mp H
                        obtain ⟨t210, A440, H⟩ := H
                        replace H : (if (t210.size : Int) = x5_8 then (some true) else (lontarlaw01_begins.l3 k5 x5_8 x6_3 x8_4 y205 (y205.length : Int) (wrap64 (x119_5 + 1)))) = some r := H
                        have A44 := Aside0.mk A440
                        clear A440
                        by_cases c45 : (t210.size : Int) = x5_8
                        ·rw [if_pos c45] at H
                         have c45b0 : ((t210.size : Int) == x5_8) = true := beq_iff_eq.mpr c45
                         have c45b1 : ((t210.size : Int) != x5_8) = false := bne_eq_false_iff_eq.mpr c45
                         clear c45
                         obtain rfl := Option.some.inj H
                         have p208 : 0 ≤ (x119_5 : Int) := of_decide_eq_true (by first | (with_reducible assumption) | assumption)
                         have q208 : x119_5 < (y205.length : Int) := of_decide_eq_true (by first | (with_reducible assumption) | assumption)
                         obtain ⟨ad208, e208, hx208_0⟩ := Kd.at_int (Kd.R_reads' HO_117.out).2.2 x119_5 p208 q208
                         cases e208
                         replace p208 := eq_true p208
                         replace q208 := eq_true q208
                         go_wp2_with (first | (go_at_call 33; (with_reducible refine (lontarlaw01_scalar.calls (rd y205 x119_5) true _ A42.out).mono ?_); rintro e w' ⟨rfl, ⟨nd, rfl⟩⟩; (try first | exact ⟨rfl, _, World.drewN_drewN _ _ _⟩ | exact ⟨rfl, _, Eq.trans (World.drewN_drewN _ _ _) (congrArg (World.drewN _) (Nat.add_assoc _ _ _))⟩)) | (go_at_call 34; (with_reducible refine (lontarlaw01_bytes.calls (rd y205 x119_5) t210 _ A44.out).mono ?_); rintro e w46 ⟨rfl, hb⟩; have n0_ := Aside0.mk (Kd.R_below (by (with_reducible repeat (first | apply Kd.R_alloc | apply Kd.R_drewN | apply Kd.R_drew)); exact HO_117.out) hb); have n1_ := Aside0.mk (below_step (by repeat (first | (with_reducible first | exact HB.out | apply below_alloc | apply pw_below_drewN | apply below_drew1) | exact HB.out)) hb); clear HO_117; clear HB; have HO_117 := n0_; have HB := n1_; clear n0_ n1_; (try clear hb); (try clear hb2); (try clear hk); (try clear hi)))
                         repeat (go_quiet (first | (go_at_call 33; (with_reducible refine (lontarlaw01_scalar.calls (rd y205 x119_5) true _ A42.out).mono ?_); rintro e w' ⟨rfl, ⟨nd, rfl⟩⟩; (try first | exact ⟨rfl, _, World.drewN_drewN _ _ _⟩ | exact ⟨rfl, _, Eq.trans (World.drewN_drewN _ _ _) (congrArg (World.drewN _) (Nat.add_assoc _ _ _))⟩)) | (go_at_call 34; (with_reducible refine (lontarlaw01_bytes.calls (rd y205 x119_5) t210 _ A44.out).mono ?_); rintro e w46 ⟨rfl, hb⟩; have n0_ := Aside0.mk (Kd.R_below (by (with_reducible repeat (first | apply Kd.R_alloc | apply Kd.R_drewN | apply Kd.R_drew)); exact HO_117.out) hb); have n1_ := Aside0.mk (below_step (by repeat (first | (with_reducible first | exact HB.out | apply below_alloc | apply pw_below_drewN | apply below_drew1) | exact HB.out)) hb); clear HO_117; clear HB; have HO_117 := n0_; have HB := n1_; clear n0_ n1_; (try clear hb); (try clear hb2); (try clear hk); (try clear hi))); try go_wp2_with (first | (go_at_call 33; (with_reducible refine (lontarlaw01_scalar.calls (rd y205 x119_5) true _ A42.out).mono ?_); rintro e w' ⟨rfl, ⟨nd, rfl⟩⟩; (try first | exact ⟨rfl, _, World.drewN_drewN _ _ _⟩ | exact ⟨rfl, _, Eq.trans (World.drewN_drewN _ _ _) (congrArg (World.drewN _) (Nat.add_assoc _ _ _))⟩)) | (go_at_call 34; (with_reducible refine (lontarlaw01_bytes.calls (rd y205 x119_5) t210 _ A44.out).mono ?_); rintro e w46 ⟨rfl, hb⟩; have n0_ := Aside0.mk (Kd.R_below (by (with_reducible repeat (first | apply Kd.R_alloc | apply Kd.R_drewN | apply Kd.R_drew)); exact HO_117.out) hb); have n1_ := Aside0.mk (below_step (by repeat (first | (with_reducible first | exact HB.out | apply below_alloc | apply pw_below_drewN | apply below_drew1) | exact HB.out)) hb); clear HO_117; clear HB; have HO_117 := n0_; have HB := n1_; clear n0_ n1_; (try clear hb); (try clear hb2); (try clear hk); (try clear hi))))
                         go_ret
                         exact ⟨by first | rfl | (simp [errW_none, errW_some] <;> rfl) | (simp only [← hji30]; first | rfl | (simp [errW_none, errW_some] <;> rfl)) | (simp [*, errW_none, errW_some] <;> rfl), by repeat (first | (with_reducible first | exact HB.out | apply below_alloc | apply pw_below_drewN | apply below_drew1) | exact HB.out)⟩
                        ·rw [if_neg c45] at H
                         have c45b0 : ((t210.size : Int) == x5_8) = false := beq_eq_false_iff_ne.mpr c45
                         have c45b1 : ((t210.size : Int) != x5_8) = true := bne_iff_ne.mpr c45
                         have H' := Aside0.mk H
                         clear H
                         have p208 : 0 ≤ (x119_5 : Int) := of_decide_eq_true (by first | (with_reducible assumption) | assumption)
                         have q208 : x119_5 < (y205.length : Int) := of_decide_eq_true (by first | (with_reducible assumption) | assumption)
                         obtain ⟨ad208, e208, hx208_0⟩ := Kd.at_int (Kd.R_reads' HO_117.out).2.2 x119_5 p208 q208
                         cases e208
                         replace p208 := eq_true p208
                         replace q208 := eq_true q208
                         go_wp2_with (first | (go_at_call 33; (with_reducible refine (lontarlaw01_scalar.calls (rd y205 x119_5) true _ A42.out).mono ?_); rintro e w' ⟨rfl, ⟨nd, rfl⟩⟩; (try first | exact ⟨rfl, _, World.drewN_drewN _ _ _⟩ | exact ⟨rfl, _, Eq.trans (World.drewN_drewN _ _ _) (congrArg (World.drewN _) (Nat.add_assoc _ _ _))⟩)) | (go_at_call 34; (with_reducible refine (lontarlaw01_bytes.calls (rd y205 x119_5) t210 _ A44.out).mono ?_); rintro e w47 ⟨rfl, hb⟩; have n0_ := Aside0.mk (Kd.R_below (by (with_reducible repeat (first | apply Kd.R_alloc | apply Kd.R_drewN | apply Kd.R_drew)); exact HO_117.out) hb); have n1_ := Aside0.mk (below_step (by repeat (first | (with_reducible first | exact HB.out | apply below_alloc | apply pw_below_drewN | apply below_drew1) | exact HB.out)) hb); clear HO_117; clear HB; have HO_117 := n0_; have HB := n1_; clear n0_ n1_; (try clear hb); (try clear hb2); (try clear hk); (try clear hi)))
                         repeat (go_quiet (first | (go_at_call 33; (with_reducible refine (lontarlaw01_scalar.calls (rd y205 x119_5) true _ A42.out).mono ?_); rintro e w' ⟨rfl, ⟨nd, rfl⟩⟩; (try first | exact ⟨rfl, _, World.drewN_drewN _ _ _⟩ | exact ⟨rfl, _, Eq.trans (World.drewN_drewN _ _ _) (congrArg (World.drewN _) (Nat.add_assoc _ _ _))⟩)) | (go_at_call 34; (with_reducible refine (lontarlaw01_bytes.calls (rd y205 x119_5) t210 _ A44.out).mono ?_); rintro e w47 ⟨rfl, hb⟩; have n0_ := Aside0.mk (Kd.R_below (by (with_reducible repeat (first | apply Kd.R_alloc | apply Kd.R_drewN | apply Kd.R_drew)); exact HO_117.out) hb); have n1_ := Aside0.mk (below_step (by repeat (first | (with_reducible first | exact HB.out | apply below_alloc | apply pw_below_drewN | apply below_drew1) | exact HB.out)) hb); clear HO_117; clear HB; have HO_117 := n0_; have HB := n1_; clear n0_ n1_; (try clear hb); (try clear hb2); (try clear hk); (try clear hi))); try go_wp2_with (first | (go_at_call 33; (with_reducible refine (lontarlaw01_scalar.calls (rd y205 x119_5) true _ A42.out).mono ?_); rintro e w' ⟨rfl, ⟨nd, rfl⟩⟩; (try first | exact ⟨rfl, _, World.drewN_drewN _ _ _⟩ | exact ⟨rfl, _, Eq.trans (World.drewN_drewN _ _ _) (congrArg (World.drewN _) (Nat.add_assoc _ _ _))⟩)) | (go_at_call 34; (with_reducible refine (lontarlaw01_bytes.calls (rd y205 x119_5) t210 _ A44.out).mono ?_); rintro e w47 ⟨rfl, hb⟩; have n0_ := Aside0.mk (Kd.R_below (by (with_reducible repeat (first | apply Kd.R_alloc | apply Kd.R_drewN | apply Kd.R_drew)); exact HO_117.out) hb); have n1_ := Aside0.mk (below_step (by repeat (first | (with_reducible first | exact HB.out | apply below_alloc | apply pw_below_drewN | apply below_drew1) | exact HB.out)) hb); clear HO_117; clear HB; have HO_117 := n0_; have HB := n1_; clear n0_ n1_; (try clear hb); (try clear hb2); (try clear hk); (try clear hi))))
                         go_roundg k5
                         case measure => have := HK1.out; have := HJ8.out; have := HK3.out; have := HK4.out; have := HK5.out; omega
                         case rel => exact ⟨(wrap64 (x119_5 + 1)), (by first | rfl | (simp; done) | (simp [*]; done)), H', ⟨by have := HK1.out; have := HJ8.out; have := HK3.out; have := HK4.out; have := HK5.out; omega⟩, ⟨by (with_reducible repeat (first | apply Kd.R_alloc | apply Kd.R_drewN | apply Kd.R_drew)); exact HO_117.out⟩, ⟨by repeat (first | (with_reducible first | exact HB.out | apply below_alloc | apply pw_below_drewN | apply below_drew1) | exact HB.out)⟩⟩
                       ·replace c43 := Bool.eq_false_iff.mpr c43
                        subst c43
                        have H1 : (lontarlaw01_begins.l3 k5 x5_8 x6_3 x8_4 y205 (y205.length : Int) (wrap64 (x119_5 + 1))) = some r := by rw [if_neg (show ¬ (false = true) by decide)] at H; exact H
                        clear H
                        have H := H1
                        clear H1
                        have H' := Aside0.mk H
                        clear H
                        have p208 : 0 ≤ (x119_5 : Int) := of_decide_eq_true (by first | (with_reducible assumption) | assumption)
                        have q208 : x119_5 < (y205.length : Int) := of_decide_eq_true (by first | (with_reducible assumption) | assumption)
                        obtain ⟨ad208, e208, hx208_0⟩ := Kd.at_int (Kd.R_reads' HO_117.out).2.2 x119_5 p208 q208
                        cases e208
                        replace p208 := eq_true p208
                        replace q208 := eq_true q208
                        go_wp2_with (first | (go_at_call 33; (with_reducible refine (lontarlaw01_scalar.calls (rd y205 x119_5) false _ A42.out).mono ?_); rintro e w' ⟨rfl, ⟨nd, rfl⟩⟩; (try first | exact ⟨rfl, _, World.drewN_drewN _ _ _⟩ | exact ⟨rfl, _, Eq.trans (World.drewN_drewN _ _ _) (congrArg (World.drewN _) (Nat.add_assoc _ _ _))⟩)))
                        repeat (go_quiet (first | (go_at_call 33; (with_reducible refine (lontarlaw01_scalar.calls (rd y205 x119_5) false _ A42.out).mono ?_); rintro e w' ⟨rfl, ⟨nd, rfl⟩⟩; (try first | exact ⟨rfl, _, World.drewN_drewN _ _ _⟩ | exact ⟨rfl, _, Eq.trans (World.drewN_drewN _ _ _) (congrArg (World.drewN _) (Nat.add_assoc _ _ _))⟩))); try go_wp2_with (first | (go_at_call 33; (with_reducible refine (lontarlaw01_scalar.calls (rd y205 x119_5) false _ A42.out).mono ?_); rintro e w' ⟨rfl, ⟨nd, rfl⟩⟩; (try first | exact ⟨rfl, _, World.drewN_drewN _ _ _⟩ | exact ⟨rfl, _, Eq.trans (World.drewN_drewN _ _ _) (congrArg (World.drewN _) (Nat.add_assoc _ _ _))⟩))))
                        go_roundg k5
                        case measure => have := HK1.out; have := HJ8.out; have := HK3.out; have := HK4.out; have := HK5.out; omega
                        case rel => exact ⟨(wrap64 (x119_5 + 1)), (by first | rfl | (simp; done) | (simp [*]; done)), H', ⟨by have := HK1.out; have := HJ8.out; have := HK3.out; have := HK4.out; have := HK5.out; omega⟩, ⟨by (with_reducible repeat (first | apply Kd.R_alloc | apply Kd.R_drewN | apply Kd.R_drew)); exact HO_117.out⟩, ⟨by repeat (first | (with_reducible first | exact HB.out | apply below_alloc | apply pw_below_drewN | apply below_drew1) | exact HB.out)⟩⟩
                      ·rw [if_neg c41] at H
                       have c41b0 : decide ((rd y205 x119_5) < (wrap64 (x6_3 + x8_4))) = false := decide_eq_false c41
                       clear c41
                       have H' := Aside0.mk H
                       clear H
                       have p208 : 0 ≤ (x119_5 : Int) := of_decide_eq_true (by first | (with_reducible assumption) | assumption)
                       have q208 : x119_5 < (y205.length : Int) := of_decide_eq_true (by first | (with_reducible assumption) | assumption)
                       obtain ⟨ad208, e208, hx208_0⟩ := Kd.at_int (Kd.R_reads' HO_117.out).2.2 x119_5 p208 q208
                       cases e208
                       replace p208 := eq_true p208
                       replace q208 := eq_true q208
                       go_wp2
                       repeat (go_quiet (fail); try go_wp2)
                       go_roundg k5
                       case measure => have := HK1.out; have := HJ8.out; have := HK3.out; have := HK4.out; have := HK5.out; omega
                       case rel => exact ⟨(wrap64 (x119_5 + 1)), (by first | rfl | (simp; done) | (simp [*]; done)), H', ⟨by have := HK1.out; have := HJ8.out; have := HK3.out; have := HK4.out; have := HK5.out; omega⟩, ⟨by (with_reducible repeat (first | apply Kd.R_alloc | apply Kd.R_drewN | apply Kd.R_drew)); exact HO_117.out⟩, ⟨by repeat (first | (with_reducible first | exact HB.out | apply below_alloc | apply pw_below_drewN | apply below_drew1) | exact HB.out)⟩⟩
                     ·rw [if_neg c40] at H
                      have c40b0 : decide (x6_3 ≤ (rd y205 x119_5)) = false := decide_eq_false c40
                      clear c40
                      have H' := Aside0.mk H
                      clear H
                      have p208 : 0 ≤ (x119_5 : Int) := of_decide_eq_true (by first | (with_reducible assumption) | assumption)
                      have q208 : x119_5 < (y205.length : Int) := of_decide_eq_true (by first | (with_reducible assumption) | assumption)
                      obtain ⟨ad208, e208, hx208_0⟩ := Kd.at_int (Kd.R_reads' HO_117.out).2.2 x119_5 p208 q208
                      cases e208
                      replace p208 := eq_true p208
                      replace q208 := eq_true q208
                      go_wp2
                      repeat (go_quiet (fail); try go_wp2)
                      go_roundg k5
                      case measure => have := HK1.out; have := HJ8.out; have := HK3.out; have := HK4.out; have := HK5.out; omega
                      case rel => exact ⟨(wrap64 (x119_5 + 1)), (by first | rfl | (simp; done) | (simp [*]; done)), H', ⟨by have := HK1.out; have := HJ8.out; have := HK3.out; have := HK4.out; have := HK5.out; omega⟩, ⟨by (with_reducible repeat (first | apply Kd.R_alloc | apply Kd.R_drewN | apply Kd.R_drew)); exact HO_117.out⟩, ⟨by repeat (first | (with_reducible first | exact HB.out | apply below_alloc | apply pw_below_drewN | apply below_drew1) | exact HB.out)⟩⟩
                    ·rw [if_neg c39] at H
                     exact absurd H (by simp)
                   ·rw [if_neg c38] at H
                    exact absurd H (by simp)
                  ·rw [if_neg c37] at H
                   have c37b0 : decide (x119_5 < (y205.length : Int)) = false := decide_eq_false c37
                   clear c37
                   obtain rfl := Option.some.inj H
                   go_wp2
                   repeat (go_quiet (fail); try go_wp2)
                   go_ret
                   exact ⟨by first | rfl | (simp [errW_none, errW_some] <;> rfl) | (simp only [← hji30]; first | rfl | (simp [errW_none, errW_some] <;> rfl)) | (simp [*, errW_none, errW_some] <;> rfl), by repeat (first | (with_reducible first | exact HB.out | apply below_alloc | apply pw_below_drewN | apply below_drew1) | exact HB.out)⟩
               ·rw [if_neg c29] at H
                exact absurd H (by simp)
              ·rw [if_neg c28] at H
               exact absurd H (by simp)
 ·rw [if_neg c2] at H
  exact absurd H (by simp)

end Go.Proofs.Ytdhpldiahgajcaa.PUtfAll
