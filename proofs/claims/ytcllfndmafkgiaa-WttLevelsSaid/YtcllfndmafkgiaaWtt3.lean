/- The checker of layer 8 by its contracts, and the examples of the law. No condition beyond the ranges of bytes. -/
import Derived.Test.YtcllfndmafkgiaaWtt2
namespace Go.Proofs.Ytcllfndmafkgiaa.Th
open Go.RowKit
/-- block b is a checker -/
def Chk (w : World) (b : Nat) (lv last at_ bd : Int) : Prop := w.heap[b]? = some (.cells #[.int .i64 lv, .int .u8 last, .int .i64 at_, .int .i64 bd] 59 (0, 0))
theorem Chk.lt {w : World} {b : Nat} {lv last at_ bd : Int} (h : Chk w b lv last at_ bd) : b < w.heap.size := by
  unfold Chk at h
  by_cases hb : b < w.heap.size
  · exact hb
  · rw [Array.getElem?_eq_none (by omega)] at h; cases h
theorem Chk.c0 {w : World} {b : Nat} {lv last at_ bd : Int} (h : Chk w b lv last at_ bd) : w.cell? ⟨b, 0, none⟩ = some (.int .i64 lv) := by rw [cell_of_row w b 0 _ _ _ h]; rfl
theorem Chk.c1 {w : World} {b : Nat} {lv last at_ bd : Int} (h : Chk w b lv last at_ bd) : w.cell? ⟨b, 1, none⟩ = some (.int .u8 last) := by rw [cell_of_row w b 1 _ _ _ h]; rfl
theorem Chk.c2 {w : World} {b : Nat} {lv last at_ bd : Int} (h : Chk w b lv last at_ bd) : w.cell? ⟨b, 2, none⟩ = some (.int .i64 at_) := by rw [cell_of_row w b 2 _ _ _ h]; rfl
theorem Chk.c3 {w : World} {b : Nat} {lv last at_ bd : Int} (h : Chk w b lv last at_ bd) : w.cell? ⟨b, 3, none⟩ = some (.int .i64 bd) := by rw [cell_of_row w b 3 _ _ _ h]; rfl
theorem Chk.free {w : World} {b : Nat} {lv last at_ bd : Int} (h : Chk w b lv last at_ bd) (i : Nat) : w.frozen? ⟨b, i, none⟩ = false := by simp [World.frozen?, show w.heap[b]? = _ from h]
theorem Chk.keep {w w' : World} {b : Nat} {lv last at_ bd : Int} (h : Chk w b lv last at_ bd) (hb : Below w.heap.size w w') : Chk w' b lv last at_ bd := by
  unfold Chk; rw [hb.block b h.lt]; exact h
theorem Chk.set1 {w : World} {b : Nat} {lv last at_ bd : Int} (h : Chk w b lv last at_ bd) (x : Int) : Chk (w.setCell ⟨b, 1, none⟩ (.int .u8 x)) b lv x at_ bd := by
  unfold Chk; rw [heap_setCell_same w b 1 _ _ _ h]; rfl
theorem Chk.set2 {w : World} {b : Nat} {lv last at_ bd : Int} (h : Chk w b lv last at_ bd) (x : Int) : Chk (w.setCell ⟨b, 2, none⟩ (.int .i64 x)) b lv last x bd := by
  unfold Chk; rw [heap_setCell_same w b 2 _ _ _ h]; rfl
theorem Chk.set3 {w : World} {b : Nat} {lv last at_ bd : Int} (h : Chk w b lv last at_ bd) (x : Int) : Chk (w.setCell ⟨b, 3, none⟩ (.int .i64 x)) b lv last at_ x := by
  unfold Chk; rw [heap_setCell_same w b 3 _ _ _ h]; rfl
theorem of28 (lv : Int) (w : World) : Calls Try.prog 28 #[.int .i64 lv] w fun e w' => e = .returned (.pointer (some ⟨w.heap.size, 0, none⟩)) ∧ Chk w' w.heap.size lv 0 0 (-1) ∧ Below w.heap.size w w' := by
  go_enter Try.func28, Try.ntmps28
  go_wp2
  go_ret
  exact ⟨rfl, by unfold Chk; rw [heap_alloc]; simp, (Below.refl _ _).alloc (Nat.le_refl _) _⟩
theorem bad29 (b : Nat) (lv last at_ bd : Int) (w : World) (h : Chk w b lv last at_ bd) : Calls Try.prog 29 #[.pointer (some ⟨b, 0, none⟩)] w fun e w' => e = .returned (.int .i64 bd) ∧ w = w' := by
  have c3 := h.c3
  have H := Lib.hid h
  clear h
  go_enter Try.func29, Try.ntmps29
  go_wp2
  go_ret
  exact ⟨rfl, rfl⟩
/-- the checker's first bad place behind a byte more -/
def next (lv last at_ bd x : Int) : Int := if bd < 0 ∧ 0 < at_ ∧ mayB last x lv = false then at_ else bd
theorem store3 {w0 w1 : World} {b : Nat} {lv last at_ bd : Int} (h1 : Chk w1 b lv last at_ bd) (hb : Below w0.heap.size w0 w1) (hlt : b < w0.heap.size) (x y z : Int) :
    Chk (((w1.setCell ⟨b, 3, none⟩ (.int .i64 z)).setCell ⟨b, 1, none⟩ (.int .u8 x)).setCell ⟨b, 2, none⟩ (.int .i64 y)) b lv x y z ∧ ∀ B, B ≤ b → Below B w0 (((w1.setCell ⟨b, 3, none⟩ (.int .i64 z)).setCell ⟨b, 1, none⟩ (.int .u8 x)).setCell ⟨b, 2, none⟩ (.int .i64 y)) :=
  ⟨((h1.set3 z).set1 x).set2 y, fun B hB => (((hb.mono (by omega)).setCell (p := ⟨b, 3, none⟩) hB _).setCell (p := ⟨b, 1, none⟩) hB _).setCell (p := ⟨b, 2, none⟩) hB _⟩
theorem Chk.drawn {w : World} {b : Nat} {lv last at_ bd : Int} (h : Chk w b lv last at_ bd) (n : Nat) : Chk (w.drewN n) b lv last at_ bd := h
theorem store2 {w0 w1 : World} {b : Nat} {lv last at_ bd : Int} (h1 : Chk w1 b lv last at_ bd) (hb : Below w0.heap.size w0 w1) (hlt : b < w0.heap.size) (x y : Int) :
    Chk ((w1.setCell ⟨b, 1, none⟩ (.int .u8 x)).setCell ⟨b, 2, none⟩ (.int .i64 y)) b lv x y bd ∧ ∀ B, B ≤ b → Below B w0 ((w1.setCell ⟨b, 1, none⟩ (.int .u8 x)).setCell ⟨b, 2, none⟩ (.int .i64 y)) :=
  ⟨(h1.set1 x).set2 y, fun B hB => ((hb.mono (by omega)).setCell (p := ⟨b, 1, none⟩) hB _).setCell (p := ⟨b, 2, none⟩) hB _⟩
def PutPost (w : World) (b : Nat) (lv at_ : Int) (x nb : Int) (w' : World) : Prop := Chk w' b lv x (at_ + 1) nb ∧ ∀ B, B ≤ b → Below B w w'
theorem post2 {w w1 : World} {b : Nat} {lv last at_ bd x y nb : Int} (hc : Chk w1 b lv last at_ bd) (hb : Below w.heap.size w w1) (hlt : b < w.heap.size) (hn : nb = bd) (hy : y = at_ + 1) :
    PutPost w b lv at_ x nb ((w1.setCell ⟨b, 1, none⟩ (.int .u8 x)).setCell ⟨b, 2, none⟩ (.int .i64 y)) := by
  subst hn hy; exact store2 hc hb hlt x _
theorem post3 {w w1 : World} {b : Nat} {lv last at_ bd x y z nb : Int} (hc : Chk w1 b lv last at_ bd) (hb : Below w.heap.size w w1) (hlt : b < w.heap.size) (hn : nb = z) (hy : y = at_ + 1) :
    PutPost w b lv at_ x nb (((w1.setCell ⟨b, 3, none⟩ (.int .i64 z)).setCell ⟨b, 1, none⟩ (.int .u8 x)).setCell ⟨b, 2, none⟩ (.int .i64 y)) := by
  subst hn hy; exact store3 hc hb hlt x _ _
theorem chk_start {w0 : World} {b : Nat} {p q r s : Value} (h0 : w0.cell? ⟨b, 0, none⟩ = some p) (h1 : w0.cell? ⟨b, 1, none⟩ = some q) (h2 : w0.cell? ⟨b, 2, none⟩ = some r) (h3 : w0.cell? ⟨b, 3, none⟩ = some s) :
    Below w0.heap.size w0 w0.drew ∧ w0.drew.cell? ⟨b, 0, none⟩ = some p ∧ w0.drew.cell? ⟨b, 1, none⟩ = some q ∧ w0.drew.cell? ⟨b, 2, none⟩ = some r ∧ w0.drew.cell? ⟨b, 3, none⟩ = some s := ⟨(Below.refl _ _).drew, h0, h1, h2, h3⟩
theorem chk_step {w0 w w' : World} {b : Nat} {p q r s : Value} (h : Below w0.heap.size w0 w ∧ w.cell? ⟨b, 0, none⟩ = some p ∧ w.cell? ⟨b, 1, none⟩ = some q ∧ w.cell? ⟨b, 2, none⟩ = some r ∧ w.cell? ⟨b, 3, none⟩ = some s) (hb : Below w.heap.size w w') :
    Below w0.heap.size w0 w' ∧ w'.cell? ⟨b, 0, none⟩ = some p ∧ w'.cell? ⟨b, 1, none⟩ = some q ∧ w'.cell? ⟨b, 2, none⟩ = some r ∧ w'.cell? ⟨b, 3, none⟩ = some s :=
  ⟨cat h.1 hb, by rw [hb.cell (cell_lt h.2.1)]; exact h.2.1, by rw [hb.cell (cell_lt h.2.2.1)]; exact h.2.2.1, by rw [hb.cell (cell_lt h.2.2.2.1)]; exact h.2.2.2.1, by rw [hb.cell (cell_lt h.2.2.2.2)]; exact h.2.2.2.2⟩
set_option maxRecDepth 100000 in
set_option maxHeartbeats 1000000 in
theorem put30 (b : Nat) (lv last : Int) (k : Nat) (bd x : Int) (w : World) (h : Chk w b lv last k bd) (l0 : 0 ≤ last) (l1 : last < 256) (x0 : 0 ≤ x) (x1 : x < 256) (hk : (k : Int) ≤ 140737488355328) :
    Calls Try.prog 30 #[.pointer (some ⟨b, 0, none⟩), .int .u8 x] w fun e w' => e = .returned (.bool (decide (next lv last k bd x < 0))) ∧ PutPost w b lv k x (next lv last k bd x) w' := by
  have hlt := h.lt
  have c0 := h.c0
  have c1 := h.c1
  have c2 := h.c2
  have c3 := h.c3
  have HC := Lib.hid h
  have f1 := h.free 1
  have f2 := h.free 2
  have f3 := h.free 3
  clear h
  by_cases hbd : bd < 0
  · rcases k with _ | j
    · have HN : Hid (next lv last (0 : Nat) bd x = bd) := by unfold Hid next; rw [if_neg (fun h => absurd h.2.1 (by simp))]
      go_enter Try.func30, Try.ntmps30
      go_wp2_with fail
      go_quiet (fail)
      go_wp2
      go_ret
      exact ⟨ret_b (by rw [HN.out]; symm; simpa using hbd), post2 (HC.out.drawn _) (dN (Below.refl _ _) _) hlt HN.out rfl⟩
    · have HM := Lib.hid (fun W => may24 last x lv W l0 l1 x0 x1)
      have n8 : (0 : Int) < (j : Int) + 1 := by omega
      rcases Bool.eq_false_or_eq_true (mayB last x lv) with hm | hm
      · have HN : Hid (next lv last (j + 1 : Nat) bd x = bd) := by unfold Hid next; rw [if_neg (fun h => by rw [hm] at h; cases h.2.2)]
        go_enter Try.func30, Try.ntmps30
        go_wp2_with fail
        go_region_held3 (fun w' => Below w.heap.size w w' ∧ w'.cell? ⟨b, 0, none⟩ = some (.int .i64 lv) ∧ w'.cell? ⟨b, 1, none⟩ = some (.int .u8 last) ∧ w'.cell? ⟨b, 2, none⟩ = some (.int .i64 (j + 1)) ∧ w'.cell? ⟨b, 3, none⟩ = some (.int .i64 bd)) (first | exact chk_start (by assumption) (by assumption) (by assumption) (by assumption) | exact chk_step (by assumption) (by assumption)) (first | (go_at_call 24; refine (HM.out _).mono ?_; rintro e w1 ⟨rfl, hb2⟩))
        rename_i hHeld
        obtain ⟨hB, d0, d1, d2, d3⟩ := hHeld
        have g1 : w1.frozen? ⟨b, 1, none⟩ = false := by rw [hB.frozen hlt]; exact f1
        have g2 : w1.frozen? ⟨b, 2, none⟩ = false := by rw [hB.frozen hlt]; exact f2
        go_wp2
        go_ret
        exact ⟨ret_b (by rw [HN.out]; symm; simpa using hbd), post2 (HC.out.keep hB) hB hlt HN.out (by simp)⟩
      · have HN : Hid (next lv last (j + 1 : Nat) bd x = (j + 1 : Nat)) := by unfold Hid next; rw [if_pos ⟨hbd, by omega, hm⟩]
        go_enter Try.func30, Try.ntmps30
        go_wp2_with fail
        go_region_held3 (fun w' => Below w.heap.size w w' ∧ w'.cell? ⟨b, 0, none⟩ = some (.int .i64 lv) ∧ w'.cell? ⟨b, 1, none⟩ = some (.int .u8 last) ∧ w'.cell? ⟨b, 2, none⟩ = some (.int .i64 (j + 1)) ∧ w'.cell? ⟨b, 3, none⟩ = some (.int .i64 bd)) (first | exact chk_start (by assumption) (by assumption) (by assumption) (by assumption) | exact chk_step (by assumption) (by assumption)) (first | (go_at_call 24; refine (HM.out _).mono ?_; rintro e w1 ⟨rfl, hb2⟩))
        rename_i hHeld
        obtain ⟨hB, d0, d1, d2, d3⟩ := hHeld
        have g1 : w1.frozen? ⟨b, 1, none⟩ = false := by rw [hB.frozen hlt]; exact f1
        have g2 : w1.frozen? ⟨b, 2, none⟩ = false := by rw [hB.frozen hlt]; exact f2
        have g3 : w1.frozen? ⟨b, 3, none⟩ = false := by rw [hB.frozen hlt]; exact f3
        go_wp2
        go_ret
        exact ⟨ret_b (by rw [HN.out]; rfl), post3 (HC.out.keep hB) hB hlt HN.out (by simp)⟩
  · have HN : Hid (next lv last k bd x = bd) := by unfold Hid next; rw [if_neg (fun h => hbd h.1)]
    have hd : decide (bd < 0) = false := by simpa using hbd
    go_enter Try.func30, Try.ntmps30
    go_wp2_with fail
    go_quiet (fail)
    go_wp2
    go_ret
    exact ⟨ret_b (by rw [HN.out, hd]), post2 (HC.out.drawn _) (dN (Below.refl _ _) _) hlt HN.out rfl⟩
theorem PutPost.chk {w w' : World} {b : Nat} {lv at_ x nb : Int} (h : PutPost w b lv at_ x nb w') : Chk w' b lv x (at_ + 1) nb := h.1
theorem PutPost.below {w w' : World} {b : Nat} {lv at_ x nb : Int} (h : PutPost w b lv at_ x nb w') {B : Nat} (hB : B ≤ b) : Below B w w' := h.2 B hB
attribute [irreducible] next
theorem may_a : mayB 161 232 1 = true := by unfold mayB; decide +kernel
theorem may_b : mayB 232 232 1 = false := by unfold mayB; decide +kernel
theorem may_0 (a b : Int) : mayB a b 0 = true := by unfold mayB; (repeat' split) <;> rfl
theorem bad_pass (l : List Int) : badOf l 0 = -1 := by
  unfold badOf
  generalize l.length - 1 = n
  generalize 1 = k
  induction n generalizing k with
  | zero => exact bad_stop
  | succ n ih => rw [bad_go (may_0 _ _)]; exact ih _
theorem next_a : next 1 0 (0 : Nat) (-1) 161 = -1 := by unfold next; rw [if_neg]; simp
theorem next_b : next 1 161 (1 : Nat) (-1) 232 = -1 := by unfold next; rw [if_neg]; rw [may_a]; simp
theorem next_c : next 1 232 (2 : Nat) (-1) 232 = 2 := by unfold next; rw [if_pos]; rfl; rw [may_b]; simp
theorem putA (b : Nat) (w : World) (h : Chk w b 1 0 0 (-1)) : Calls Try.prog 30 #[.pointer (some ⟨b, 0, none⟩), .int .u8 161] w fun e w' => e = .returned (.bool true) ∧ Chk w' b 1 161 1 (-1) ∧ Below b w w' :=
  (put30 b 1 0 0 (-1) 161 w h (by omega) (by omega) (by omega) (by omega) (by omega)).mono fun _ _ ⟨he, hp⟩ => by
    rw [next_a] at he hp
    exact ⟨he, hp.chk, hp.below (Nat.le_refl _)⟩
theorem putB (b : Nat) (w : World) (h : Chk w b 1 161 1 (-1)) : Calls Try.prog 30 #[.pointer (some ⟨b, 0, none⟩), .int .u8 232] w fun e w' => e = .returned (.bool true) ∧ Chk w' b 1 232 2 (-1) ∧ Below b w w' :=
  (put30 b 1 161 1 (-1) 232 w h (by omega) (by omega) (by omega) (by omega) (by omega)).mono fun _ _ ⟨he, hp⟩ => by
    rw [next_b] at he hp
    exact ⟨he, hp.chk, hp.below (Nat.le_refl _)⟩
theorem putC (b : Nat) (w : World) (h : Chk w b 1 232 2 (-1)) : Calls Try.prog 30 #[.pointer (some ⟨b, 0, none⟩), .int .u8 232] w fun e w' => e = .returned (.bool false) ∧ Chk w' b 1 232 3 2 ∧ Below b w w' :=
  (put30 b 1 232 2 (-1) 232 w h (by omega) (by omega) (by omega) (by omega) (by omega)).mono fun _ _ ⟨he, hp⟩ => by
    rw [next_c] at he hp
    exact ⟨he, hp.chk, hp.below (Nat.le_refl _)⟩
theorem rowAt_new (w : World) (l : List Int) (t : TypeId) : RowAt .u8 (w.alloc (.cells (l.map (Value.int .u8)).toArray t)) (some ⟨w.heap.size, 0, none⟩) l := by
  refine .inr ⟨_, _, rfl, fun i hi => ?_⟩
  rw [Nat.zero_add]
  exact cell_new w _ t i _ (by simp [hi])
theorem pass3 (w : World) : Calls Try.prog 26 #[.slice (some ⟨w.heap.size, 0, none⟩) 3 3, .int .i64 0] (w.alloc (.cells #[.int .u8 161, .int .u8 232, .int .u8 232] 5)) fun e w' => e = .returned (.int .i64 (-1)) ∧ Below w.heap.size w w' :=
  (check26 _ 3 [161, 232, 232] 0 _ (rowAt_new w [161, 232, 232] 5) (by intro n hn; simp at hn; omega) (by simp)).mono fun _ _ ⟨he, hb⟩ => by
    rw [bad_pass] at he
    exact ⟨he, ((Below.refl _ _).alloc (Nat.le_refl _) _).trans (hb.mono (by simp))⟩
theorem kind_e : kind 2 10 = 67 := by unfold kind kindT rowsT; decide +kernel
set_option maxRecDepth 100000 in
set_option maxHeartbeats 1000000 in
theorem awake21 (w : World) : Calls Try.prog 21 #[] w fun e w' => e = .returned (.bool true) ∧ Below w.heap.size w w' := by
  have ke := kind_e
  go_enter Try.func21, Try.ntmps21
  go_wp2_with fail
  refine (of28 1 w).mono ?_
  rintro e w1 ⟨rfl, hc, hb⟩
  have HC := Lib.hid hc
  clear hc
  go_wp2_with fail
  refine (putA _ _ HC.out).mono ?_
  rintro e w2 ⟨rfl, hc, hb2⟩
  have HC2 := Lib.hid hc
  clear hc HC
  go_wp2_with fail
  refine (putB _ _ HC2.out).mono ?_
  rintro e w3 ⟨rfl, hc, hb3⟩
  have HC := Lib.hid hc
  clear hc HC2
  go_wp2_with fail
  refine (putC _ _ HC.out).mono ?_
  rintro e w4 ⟨rfl, hc, hb4⟩
  have HC2 := Lib.hid hc
  clear hc HC
  have HB := Lib.hid (hb.trans (hb2.trans (hb3.trans hb4)))
  clear hb hb2 hb3 hb4
  go_wp2_with fail
  refine (bad29 _ _ _ _ _ _ HC2.out).mono ?_
  rintro e w' ⟨rfl, rfl⟩
  go_wp2_with fail
  refine (kind22 _ _ _).mono ?_
  rintro e w5 ⟨rfl, hb5⟩
  go_wp2_with fail
  refine (pass3 w5).mono ?_
  rintro e w6 ⟨rfl, hb6⟩
  go_wp2
  go_ret
  exact ⟨rfl, cat HB.out (cat hb5 hb6)⟩
end Go.Proofs.Ytcllfndmafkgiaa.Th
