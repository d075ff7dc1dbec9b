/- Texts of this claim, one behind the other (merged by a program): TS1, TS2, TS3, TS4, TS5. No condition of their own. -/
import Derived.Test.YtnfjgopcenpblaaGreatDoorM07
/- The walks of Table's Joins and Join. No condition beyond the ranges. -/
namespace Go.Proofs.YtnfjgopcenpblaaGreatDoor.T
open Go.RowKit Go.Proofs.YtnfjgopcenpblaaGreatDoorW.PrintWords Go.Proofs.YtnfjgopcenpblaaGreatDoorW.PrintLast Go.Proofs.YtnfjgopcenpblaaGreatDoorW.PrintMore Go.Proofs.YtnfjgopcenpblaaGreatDoor
set_option linter.unusedVariables false
set_option linter.unusedSimpArgs false
def joins.T3 : Bool × List (List Nat × List Nat) := (true, [([], []), ([0], [0]), ([1], [1]), ([2], [2]), ([], []), ([4], [4]), ([], []), ([5, 6, 5], [5, 6]), ([3, 7, 7], [3, 7]), ([8], [8]), ([9], [9]), ([9], [9]), ([9], [9]), ([10, 8, 0, 1, 2, 3, 4, 5, 6, 7, 8, 9, 10], [10]), ([11, 13, 0, 1, 2, 3, 4, 5, 6, 7, 8, 9, 10, 11, 13], [11]), ([12, 14, 0, 1, 2, 3, 4, 5, 6, 7, 8, 9, 10, 11, 12, 13, 14], [12])])
def joins.B3 : List Nat := [0, 1, 3, 7, 0, 16, 0, 112, 255, 511, 1023, 1023, 1023, 2047, 12287, 32767]
theorem joins.tab3 : rtab .any (opsOf Tryz.f155 3) = joins.T3 := by kernel_rfl
theorem joins.bits3 : waitsOk joins.T3.2 joins.B3 = true := by kernel_rfl
/-- what is asked of a table's rules -/
structure Okay (rs : List S150) : Prop where
  good : Good rs
  fr : Fit (nodesF rs) (rs.map outOf)
  fw : Fit (nodesF (turnF rs)) ((turnF rs).map outOf)
  pr : 0 < (rs.map outOf).length
  pw : 0 < ((turnF rs).map outOf).length
def joinsF (rs : List S150) (ah us : List Int) : Bool := if ah = [] then false else decide ((ah.length : Int) < (longF (nodesF rs) (ah ++ us)).2.1)
def JS (w : World) (a : Addr) (v : Value) (w' : World) : Prop := Below w.heap.size w w' ∧ w'.cell? a = some v
theorem js_of {w w' : World} {a : Addr} {v : Value} (h : w.cell? a = some v) (hb : Below w.heap.size w w') : JS w a v w' := ⟨hb, cell_b h hb⟩
set_option maxRecDepth 100000 in
theorem Joins_calls (w : World) (ok : Nat → Prop) (b : Nat) (rs : List S150) (A B : Option Addr) (c d : Nat) (ah us : List Int) (h : Tab w ok b rs) (hk : Okay rs) (hA : (Kd.int .i64).C w A ah.length ah) (hB : (Kd.int .i64).C w B us.length us) (ha : ah.length ≤ 8) (hu : us.length ≤ 8) (r : Bool) (hr : joinsF rs ah us = r) :
    Calls Tryz.prog 155 #[.pointer (some ⟨b, 0, none⟩), .slice A ah.length c, .slice B us.length d] w fun e w' => e = .returned (.bool r) ∧ Below w.heap.size w w' := by
  unfold joinsF at hr
  by_cases h0 : ah = []
  · rw [if_pos h0] at hr
    subst hr h0
    clear h hA hB
    go_enter Tryz.func155, Tryz.ntmps155
    go_wp2
    go_ret
    exact ⟨rfl, Below.refl _ _⟩
  · rw [if_neg h0] at hr
    have hl : 0 < ah.length := List.length_pos_iff.2 h0
    have d0 : ((ah.length : Int) == 0) = false := beq_eq_false_iff_ne.mpr (by omega)
    obtain ⟨i, o, rb, wb, hb, htr, _⟩ := h.blk
    have cb : w.cell? ⟨b, 2, none⟩ = some (.pointer (some ⟨rb, 0, none⟩)) := (blk_cell hb 2).trans rfl
    have hll : (ah ++ us).length ≤ 1000 := by rw [List.length_append]; omega
    rcases hlf : longF (nodesF rs) (ah ++ us) with ⟨k, n, op⟩
    rw [hlf] at hr
    have hr2 : decide ((ah.length : Int) < n) = r := hr
    replace hr := ()
    have hwf := hk.fr.wf
    have hps := hk.fr.pos
    have hlf := Lib.hid hlf
    have hA := Lib.hid hA
    have hB := Lib.hid hB
    have htr := Lib.hid htr
    have hH : JS w ⟨b, 2, none⟩ (.pointer (some ⟨rb, 0, none⟩)) w.drew := js_of cb (below_drew (Below.refl _ _))
    have cb' := Lib.hid cb
    clear h0 h hb
    generalize nodesF rs = ns at *
    have hwf := Lib.hid hwf
    have hps := Lib.hid hps
    go_enter Tryz.func155, Tryz.ntmps155
    go_wp2
    refine start_ (n := 16) (S := JS w ⟨b, 2, none⟩ (.pointer (some ⟨rb, 0, none⟩))) (ds := []) #[Z, Z, Z, Z, Z, Z, Z, Z, Z, Z, Z, Z, Z, Z, Z, Z] (by kernel_rfl) rfl rfl hH (fun hHeld => ?_)
    refine with_tabW joins.tab3 joins.bits3 (fun HT_ HW_ => ?_)
    refine pure_ (i := 0) (N := some 14) (v := ?_) (a' := ?_) #[Y, Z, Z, Z, Z, Z, Z, Z, Z, Z, Z, Z, Z, Z, Z, Z] rfl rfl (any_of HT_.out (by kernel_rfl)) (fun _ _ _ h => h) (Or.inl ⟨by rfl, ?_⟩) ?_ ?_
    rotate_left
    · intro w'
      go_simp
      with_reducible rfl
    rotate_left
    · simp only [Act.put, List.setIfInBounds_toArray, List.set_cons_zero, List.set_cons_succ, i64_w, i32_w]
      rfl
    refine pure_ (i := 1) (N := some 15) (v := ?_) (a' := ?_) #[Y, Y, Z, Z, Z, Z, Z, Z, Z, Z, Z, Z, Z, Z, Z, Z] rfl rfl (any_of HT_.out (by kernel_rfl)) (fun _ _ _ h => h) (Or.inl ⟨by rfl, ?_⟩) ?_ ?_
    rotate_left
    · intro w'
      go_simp
      with_reducible rfl
    rotate_left
    · simp only [Act.put, List.setIfInBounds_toArray, List.set_cons_zero, List.set_cons_succ, i64_w, i32_w]
      rfl
    refine pure_ (i := 2) (N := some 16) (v := ?_) (a' := ?_) #[Y, Y, Y, Z, Z, Z, Z, Z, Z, Z, Z, Z, Z, Z, Z, Z] rfl rfl (any_of HT_.out (by kernel_rfl)) (fun _ _ _ h => h) (Or.inl ⟨by rfl, ?_⟩) ?_ ?_
    rotate_left
    · intro w'
      go_simp
      with_reducible rfl
    rotate_left
    · simp only [Act.put, List.setIfInBounds_toArray, List.set_cons_zero, List.set_cons_succ, i64_w, i32_w]
      rfl
    refine take_ (i := 3) (N := some 17) (v := ?_) (a' := ?_) #[Y, Y, Y, Y, Z, Z, Z, Z, Z, Z, Z, Z, Z, Z, Z, Z] rfl rfl (take_ofW HT_.out HW_.out (by kernel_rfl)) (fun _ _ _ h => h) (Or.inl ⟨by rfl, ?_⟩) hHeld ?_ ?_
    rotate_left
    · rintro w' ⟨s0, s1⟩
      go_simp
      with_reducible rfl
    rotate_left
    · simp only [Act.put, List.setIfInBounds_toArray, List.set_cons_zero, List.set_cons_succ, i64_w, i32_w]
      rfl
    refine pure_ (i := 4) (N := some 18) (v := ?_) (a' := ?_) #[Y, Y, Y, Y, Y, Z, Z, Z, Z, Z, Z, Z, Z, Z, Z, Z] rfl rfl (any_of HT_.out (by kernel_rfl)) (fun _ _ _ h => h) (Or.inl ⟨by rfl, ?_⟩) ?_ ?_
    rotate_left
    · intro w'
      go_simp
      with_reducible rfl
    rotate_left
    · simp only [Act.put, List.setIfInBounds_toArray, List.set_cons_zero, List.set_cons_succ, i64_w, i32_w]
      rfl
    refine pure_ (i := 6) (N := some 20) (v := ?_) (a' := ?_) #[Y, Y, Y, Y, Y, Z, Y, Z, Z, Z, Z, Z, Z, Z, Z, Z] rfl rfl (any_of HT_.out (by kernel_rfl)) (fun _ _ _ h => h) (Or.inl ⟨by rfl, ?_⟩) ?_ ?_
    rotate_left
    · intro w'
      go_simp
      with_reducible rfl
    rotate_left
    · simp only [Act.put, List.setIfInBounds_toArray, List.set_cons_zero, List.set_cons_succ, i64_w, i32_w]
      rfl
    refine one_ (i := 5) (N := some 19) #[Y, Y, Y, Y, Y, Y, Y, Z, Z, Z, Z, Z, Z, Z, Z, Z] rfl rfl (one_of HT_.out (by kernel_rfl)) (by decide) (fun K hK => ?_)
    refine goes_ Tryz.func92 (by kernel_rfl) rfl #[.slice A ah.length c] (by rfl) rfl rfl (by (try simp only [List.map_toArray, List.map_cons, List.map_nil]); first | done | rfl) ?_
    refine (Clone_calls _ A c ah (Kd.C_below hA.out hHeld.1) hl (by omega)).mono ?_
    rintro e w5 ⟨v5, rfl, hR5, hb5⟩
    obtain ⟨A5, c5, rfl⟩ := Kd.R_slice hR5
    have hR6 := Kd.R_mono hR5 (ok' := fun k => w.heap.size ≤ k) (fun k hk => Nat.le_trans hHeld.1.size hk)
    refine ⟨_, rfl, ?_⟩
    refine hK.out _ _ (js_of cb'.out (below_step hHeld.1 hb5)) (fun hHeld => ?_)
    clear hK K
    refine norm_ (a' := ?_) ?_ ?_
    rotate_left
    · show Act.put _ (some 19) _ = _
      simp only [Act.put, List.setIfInBounds_toArray, List.set_cons_zero, List.set_cons_succ, i64_w, i32_w]
      rfl
    refine one_ (i := 7) (N := some 21) #[Y, Y, Y, Y, Y, Y, Y, Y, Z, Z, Z, Z, Z, Z, Z, Z] rfl rfl (one_of HT_.out (by kernel_rfl)) (by decide) (fun K hK => ?_)
    refine Kd.R_append_rows_step (Kd.int .i64) (w0 := w5) 0 (by rfl) (.tmp 19) (.tmp 20) 25 3 (.int .i64 0) 8 (by rfl) Tryz.underlying25 info3 rfl (by decide) (by omega) (.slice A5 ah.length c5) ah us B us.length d (fun k => w.heap.size ≤ k) (fun _ => False) (by rfl) (by rfl) hR6 ?aR (fun _ _ h => h) (fun _ h => h.elim) (fun k hk => Nat.le_trans hHeld.1.size hk) (Below.refl _ _) (Nat.zero_le _) (by omega) ?_
    case aR => exact Kd.C_below hB.out hHeld.1
    intro v7 w7 ho7 hb7 hg7 hat7
    have hb8 : Below w.heap.size w w7 := hHeld.1.grown hg7 hHeld.1.size (fun k hk => hR6.1 k hk)
    obtain ⟨A7, c7, rfl⟩ := Kd.R_slice ho7
    have hC7 := (Kd.R_reads' ho7).2.2
    refine hK.out _ _ (js_of cb'.out hb8) (fun hHeld => ?_)
    clear hK K
    refine norm_ (a' := ?_) ?_ ?_
    rotate_left
    · show Act.put _ (some 21) _ = _
      simp only [Act.put, List.setIfInBounds_toArray, List.set_cons_zero, List.set_cons_succ, i64_w, i32_w]
      rfl
    refine one_ (i := 8) (N := some 22) #[Y, Y, Y, Y, Y, Y, Y, Y, Y, Z, Z, Z, Z, Z, Z, Z] rfl rfl (one_of HT_.out (by kernel_rfl)) (by decide) (fun K hK => ?_)
    refine goes_ Tryz.func156 (by kernel_rfl) rfl #[.pointer (some ⟨rb, 0, none⟩), .slice A7 (ah ++ us).length c7] (by rfl) rfl rfl (by (try simp only [List.map_toArray, List.map_cons, List.map_nil]); first | done | rfl) ?_
    refine (Longest_calls _ ok rb ns (rs.map outOf) A7 c7 (ah ++ us) (htr.out.below hHeld.1) hwf.out hps.out hC7 hll k n op hlf.out).mono ?_
    rintro e w9 ⟨rfl, rfl⟩
    refine ⟨_, rfl, ?_⟩
    refine hK.out _ _ hHeld (fun hHeld => ?_)
    clear hK K
    refine norm_ (a' := ?_) ?_ ?_
    rotate_left
    · show Act.put _ (some 22) _ = _
      simp only [Act.put, List.setIfInBounds_toArray, List.set_cons_zero, List.set_cons_succ, i64_w, i32_w]
      rfl
    refine pure_ (i := 9) (N := some 13) (v := ?_) (a' := ?_) #[Y, Y, Y, Y, Y, Y, Y, Y, Y, Y, Z, Z, Z, Z, Z, Z] rfl rfl (any_of HT_.out (by kernel_rfl)) (fun _ _ _ h => h) (Or.inl ⟨by rfl, ?_⟩) ?_ ?_
    rotate_left
    · intro w'
      go_simp
      with_reducible rfl
    rotate_left
    · simp only [Act.put, List.setIfInBounds_toArray, List.set_cons_zero, List.set_cons_succ, i64_w, i32_w]
      rfl
    refine pure_ (i := 10) (N := some 23) (v := ?_) (a' := ?_) #[Y, Y, Y, Y, Y, Y, Y, Y, Y, Y, Y, Z, Z, Z, Z, Z] rfl rfl (any_of HT_.out (by kernel_rfl)) (fun _ _ _ h => h) (Or.inl ⟨by rfl, ?_⟩) ?_ ?_
    rotate_left
    · intro w'
      go_simp
      with_reducible rfl
    rotate_left
    · simp only [Act.put, List.setIfInBounds_toArray, List.set_cons_zero, List.set_cons_succ, i64_w, i32_w]
      rfl
    refine pure_ (i := 11) (N := some 24) (v := ?_) (a' := ?_) #[Y, Y, Y, Y, Y, Y, Y, Y, Y, Y, Y, Y, Z, Z, Z, Z] rfl rfl (any_of HT_.out (by kernel_rfl)) (fun _ _ _ h => h) (Or.inl ⟨by rfl, ?_⟩) ?_ ?_
    rotate_left
    · intro w'
      go_simp
      with_reducible rfl
    rotate_left
    · simp only [Act.put, List.setIfInBounds_toArray, List.set_cons_zero, List.set_cons_succ, i64_w, i32_w]
      rfl
    refine pure_ (i := 12) (N := some 25) (v := ?_) (a' := ?_) #[Y, Y, Y, Y, Y, Y, Y, Y, Y, Y, Y, Y, Y, Z, Z, Z] rfl rfl (any_of HT_.out (by kernel_rfl)) (fun _ _ _ h => h) (Or.inl ⟨by rfl, ?_⟩) ?_ ?_
    rotate_left
    · intro w'
      go_simp
      with_reducible rfl
    rotate_left
    · simp only [Act.put, List.setIfInBounds_toArray, List.set_cons_zero, List.set_cons_succ, i64_w, i32_w]
      rfl
    refine pure_ (i := 13) (N := some 7) (v := ?_) (a' := ?_) #[Y, Y, Y, Y, Y, Y, Y, Y, Y, Y, Y, Y, Y, Y, Z, Z] rfl rfl (any_of HT_.out (by kernel_rfl)) (fun _ _ _ h => h) (Or.inl ⟨by rfl, ?_⟩) ?_ ?_
    rotate_left
    · intro w'
      go_simp
      with_reducible rfl
    rotate_left
    · simp only [Act.put, List.setIfInBounds_toArray, List.set_cons_zero, List.set_cons_succ, i64_w, i32_w]
      rfl
    refine pure_ (i := 14) (N := some 8) (v := ?_) (a' := ?_) #[Y, Y, Y, Y, Y, Y, Y, Y, Y, Y, Y, Y, Y, Y, Y, Z] rfl rfl (any_of HT_.out (by kernel_rfl)) (fun _ _ _ h => h) (Or.inl ⟨by rfl, ?_⟩) ?_ ?_
    rotate_left
    · intro w'
      go_simp
      with_reducible rfl
    rotate_left
    · simp only [Act.put, List.setIfInBounds_toArray, List.set_cons_zero, List.set_cons_succ, i64_w, i32_w]
      rfl
    refine pure_ (i := 15) (N := some 9) (v := ?_) (a' := ?_) #[Y, Y, Y, Y, Y, Y, Y, Y, Y, Y, Y, Y, Y, Y, Y, Y] rfl rfl (any_of HT_.out (by kernel_rfl)) (fun _ _ _ h => h) (Or.inl ⟨by rfl, ?_⟩) ?_ ?_
    rotate_left
    · intro w'
      go_simp
      with_reducible rfl
    rotate_left
    · simp only [Act.put, List.setIfInBounds_toArray, List.set_cons_zero, List.set_cons_succ, i64_w, i32_w]
      rfl
    refine done_ (done_of HT_.out (by kernel_rfl)) ?_
    have hbw := hHeld.1
    clear hHeld hR5 hR6 ho7 hb7 hg7 hat7 hC7 hb5 hb8
    go_wp2
    go_ret
    exact ⟨rfl, hbw⟩
end Go.Proofs.YtnfjgopcenpblaaGreatDoor.T

/- The walk of Table's Join. No condition beyond the ranges. -/
namespace Go.Proofs.YtnfjgopcenpblaaGreatDoor.T
open Go.RowKit Go.Proofs.YtnfjgopcenpblaaGreatDoorW.PrintWords Go.Proofs.YtnfjgopcenpblaaGreatDoorW.PrintLast Go.Proofs.YtnfjgopcenpblaaGreatDoorW.PrintMore Go.Proofs.YtnfjgopcenpblaaGreatDoor
set_option linter.unusedVariables false
set_option linter.unusedSimpArgs false
def joinV (q : Bool) (a n : Int) (vo : Value) (er : Int) : Value := if q = true then .agg #[.int .i64 a, .int .i64 n, .slice none 0 0, .int .i64 3] else .agg #[.int .i64 a, .int .i64 n, vo, .int .i64 er]
def joinQ (rs : List S150) (ah : List Int) (x : S66) : Bool := decide (x.f3 = 0) && joinsF rs ah x.f2
theorem Join_calls (w : World) (ok : Nat → Prop) (b : Nat) (rs : List S150) (A B : Option Addr) (c d : Nat) (ah o : List Int) (a n er : Int) (h : Tab w ok b rs) (hk : Okay rs) (hA : (Kd.int .i64).C w A ah.length ah) (hB : (Kd.int .i64).C w B o.length o) (ha : ah.length ≤ 8) (hu : o.length ≤ 8) (q : Bool) (hq : joinQ rs ah ⟨a, n, o, er⟩ = q) :
    Calls Tryz.prog 153 #[.pointer (some ⟨b, 0, none⟩), .slice A ah.length c, .agg #[.int .i64 a, .int .i64 n, .slice B o.length d, .int .i64 er]] w fun e w' => e = .returned (joinV q a n (.slice B o.length d) er) ∧ Below w.heap.size w w' := by
  have hb1 : Below w.heap.size w ((w.alloc (.cells #[.int .i64 a, .int .i64 n, .slice B o.length d, .int .i64 er] 66)).alloc (.cells #[.int .i64 0, .int .i64 0, .slice none 0 0, .int .i64 0] 66)) := below_alloc (below_alloc (Below.refl _ _) _) _
  unfold joinQ at hq
  by_cases he : er = 0
  · subst he
    have HJ := fun r hr => Lib.hid (Joins_calls _ ok b rs A B c d ah o (h.same (Same.of_below hb1)) hk (Kd.C_below hA hb1) (Kd.C_below hB hb1) ha hu r hr)
    clear h hA hB
    rw [show decide ((⟨a, n, o, 0⟩ : S66).f3 = 0) = true from rfl, Bool.true_and] at hq
    replace HJ := HJ q hq
    clear hq
    generalize hw0 : (w.alloc (.cells #[.int .i64 a, .int .i64 n, .slice B o.length d, .int .i64 0] 66)).alloc (.cells #[.int .i64 0, .int .i64 0, .slice none 0 0, .int .i64 0] 66) = w0 at HJ
    have k5 := Lib.hid (blk_alloc (blk_new w (.cells #[.int .i64 a, .int .i64 n, .slice B o.length d, .int .i64 0] 66)) (.cells #[.int .i64 0, .int .i64 0, .slice none 0 0, .int .i64 0] 66))
    have k6 := Lib.hid (blk_new (w.alloc (.cells #[.int .i64 a, .int .i64 n, .slice B o.length d, .int .i64 0] 66)) (.cells #[.int .i64 0, .int .i64 0, .slice none 0 0, .int .i64 0] 66))
    rw [hw0] at k5 k6 hb1
    have hsz : (w.alloc (.cells #[.int .i64 a, .int .i64 n, .slice B o.length d, .int .i64 0] 66)).heap.size = w.heap.size + 1 := by simp
    rw [hsz] at k6
    replace hsz := ()
    replace hb1 := Lib.hid hb1
    have x2 : w0.cell? ⟨w.heap.size, 2, none⟩ = some (.slice B o.length d) := (blk_cell k5.out 2).trans rfl
    have x3 : w0.cell? ⟨w.heap.size, 3, none⟩ = some (.int .i64 0) := (blk_cell k5.out 3).trans rfl
    cases q with
    | true =>
        go_enter Tryz.func153, Tryz.ntmps153
        go_wp2_with (first
          | (go_at_call 155; refine HJ.out.mono ?_; rintro e w3 ⟨rfl, hb3⟩; clear x2 x3; have n5 := Lib.hid (blk_below k5.out hb3); have n6 := Lib.hid (blk_below k6.out hb3); have x0 : w3.cell? ⟨w.heap.size, 0, none⟩ = some (.int .i64 a) := (blk_cell n5.out 0).trans rfl; have x1 : w3.cell? ⟨w.heap.size, 1, none⟩ = some (.int .i64 n) := (blk_cell n5.out 1).trans rfl; have x2 : w3.cell? ⟨w.heap.size, 2, none⟩ = some (.slice B o.length d) := (blk_cell n5.out 2).trans rfl; have x3 : w3.cell? ⟨w.heap.size, 3, none⟩ = some (.int .i64 0) := (blk_cell n5.out 3).trans rfl; have y0 : w3.cell? ⟨w.heap.size + 1, 0, none⟩ = some (.int .i64 0) := (blk_cell n6.out 0).trans rfl; have y1 : w3.cell? ⟨w.heap.size + 1, 1, none⟩ = some (.int .i64 0) := (blk_cell n6.out 1).trans rfl; have y2 : w3.cell? ⟨w.heap.size + 1, 2, none⟩ = some (.slice none 0 0) := (blk_cell n6.out 2).trans rfl; have y3 : w3.cell? ⟨w.heap.size + 1, 3, none⟩ = some (.int .i64 0) := (blk_cell n6.out 3).trans rfl; have z0 := blk_frozen n6.out 0; have z1 := blk_frozen n6.out 1; have z2 := blk_frozen n6.out 2; have z3 := blk_frozen n6.out 3; replace hb3 := Lib.hid (below_step hb1.out hb3); clear k5 k6 hb1))
        refine bodyPost_ret (v := .agg #[.int .i64 a, .int .i64 n, .slice none 0 0, .int .i64 3]) ?_ rfl ⟨rfl, ?_⟩
        · simp only [results, show Tryz.f153.results = #[ResultVar.cell 6 66] from rfl]
          go_simp
        · exact below_set (below_set (below_set (below_set hb3.out (by omega)) (by omega)) (by omega)) (by omega)
    | false =>
        go_enter Tryz.func153, Tryz.ntmps153
        go_wp2_with (first
          | (go_at_call 155; refine HJ.out.mono ?_; rintro e w3 ⟨rfl, hb3⟩; clear x2 x3; have n5 := Lib.hid (blk_below k5.out hb3); have n6 := Lib.hid (blk_below k6.out hb3); have x0 : w3.cell? ⟨w.heap.size, 0, none⟩ = some (.int .i64 a) := (blk_cell n5.out 0).trans rfl; have x1 : w3.cell? ⟨w.heap.size, 1, none⟩ = some (.int .i64 n) := (blk_cell n5.out 1).trans rfl; have x2 : w3.cell? ⟨w.heap.size, 2, none⟩ = some (.slice B o.length d) := (blk_cell n5.out 2).trans rfl; have x3 : w3.cell? ⟨w.heap.size, 3, none⟩ = some (.int .i64 0) := (blk_cell n5.out 3).trans rfl; have y0 : w3.cell? ⟨w.heap.size + 1, 0, none⟩ = some (.int .i64 0) := (blk_cell n6.out 0).trans rfl; have y1 : w3.cell? ⟨w.heap.size + 1, 1, none⟩ = some (.int .i64 0) := (blk_cell n6.out 1).trans rfl; have y2 : w3.cell? ⟨w.heap.size + 1, 2, none⟩ = some (.slice none 0 0) := (blk_cell n6.out 2).trans rfl; have y3 : w3.cell? ⟨w.heap.size + 1, 3, none⟩ = some (.int .i64 0) := (blk_cell n6.out 3).trans rfl; have z0 := blk_frozen n6.out 0; have z1 := blk_frozen n6.out 1; have z2 := blk_frozen n6.out 2; have z3 := blk_frozen n6.out 3; replace hb3 := Lib.hid (below_step hb1.out hb3); clear k5 k6 hb1))
        refine bodyPost_ret (v := .agg #[.int .i64 a, .int .i64 n, .slice B o.length d, .int .i64 0]) ?_ rfl ⟨rfl, ?_⟩
        · simp only [results, show Tryz.f153.results = #[ResultVar.cell 6 66] from rfl]
          go_simp
        · exact below_set (below_set (below_set (below_set hb3.out (by omega)) (by omega)) (by omega)) (by omega)
  · rw [show decide ((⟨a, n, o, er⟩ : S66).f3 = 0) = false from decide_eq_false he, Bool.false_and] at hq
    subst hq
    have hee : (er == 0) = false := beq_eq_false_iff_ne.mpr he
    have hbx := Lib.hid (below_alloc (below_alloc (Below.refl w.heap.size w) (.cells #[.int .i64 a, .int .i64 n, .slice B o.length d, .int .i64 er] 66)) (.cells #[.int .i64 a, .int .i64 n, .slice B o.length d, .int .i64 er] 66))
    clear h hA hB hb1
    go_enter Tryz.func153, Tryz.ntmps153
    go_wp2
    refine bodyPost_ret (v := .agg #[.int .i64 a, .int .i64 n, .slice B o.length d, .int .i64 er]) ?_ rfl ⟨rfl, ?_⟩
    · simp only [results, show Tryz.f153.results = #[ResultVar.cell 6 66] from rfl]
      go_simp
    · exact hbx.out
end Go.Proofs.YtnfjgopcenpblaaGreatDoor.T

/- An encoder by marks; what a token's store leaves. No condition beyond the ranges. -/
namespace Go.Proofs.YtnfjgopcenpblaaGreatDoor.T
open Go.RowKit Go.Proofs.YtnfjgopcenpblaaGreatDoorW.PrintWords Go.Proofs.YtnfjgopcenpblaaGreatDoorW.PrintLast Go.Proofs.YtnfjgopcenpblaaGreatDoorW.PrintMore Go.Proofs.YtnfjgopcenpblaaGreatDoor
set_option linter.unusedVariables false
set_option linter.unusedSimpArgs false
/-- an encoder at block e: what waits in its match, its table, what stands ahead -/
structure En (w : World) (f : Nat → Nat) (te tm e : Nat) (us : List Int) (a : Int) (rs : List S150) (ah : List Int) : Prop where
  blk : ∃ (m b : Nat) (va : Value), w.heap[e]? = some (.cells #[.pointer (some ⟨m, 0, none⟩), .pointer (some ⟨b, 0, none⟩), va] 134 (0, 0)) ∧ IntZ w f va ah ∧
    Mt w f tm m us a (nodesF (turnF rs)) ((turnF rs).map outOf) ∧ TabZ w f b rs
  fe : f e = te
theorem En.ext {T : Nat → Prop} {w w' : World} {f f' : Nat → Nat} {te tm e : Nat} {us : List Int} {a : Int} {rs : List S150} {ah : List Int} (h : En w f te tm e us a rs ah) (x : Ext T w w' f f') (h0 : ¬ T 0) (h1 : ¬ T te) (h2 : ¬ T tm) : En w' f' te tm e us a rs ah := by
  obtain ⟨⟨m, b, va, g1, g2, g3, g4⟩, g5⟩ := h
  exact ⟨⟨m, b, va, x.blk g1 (by rw [g5]; exact h1), g2.ext x h0, g3.ext x h0 h2, g4.ext x h0⟩, (x.tg g1).trans g5⟩
/-- a store into the encoder's block: another row stands ahead -/
theorem En.put {w : World} {f : Nat → Nat} {te tm e m b : Nat} {us : List Int} {a : Int} {rs : List S150} {va v2 : Value} {ah2 : List Int} (h0 : te ≠ 0) (h2 : tm ≠ te)
    (g1 : w.heap[e]? = some (.cells #[.pointer (some ⟨m, 0, none⟩), .pointer (some ⟨b, 0, none⟩), va] 134 (0, 0))) (g2 : IntZ w f v2 ah2) (g3 : Mt w f tm m us a (nodesF (turnF rs)) ((turnF rs).map outOf)) (g4 : TabZ w f b rs) (g5 : f e = te) :
    En (w.setCell ⟨e, 2, none⟩ v2) f te tm e us a rs ah2 ∧ Ext (fun z => z = te) w (w.setCell ⟨e, 2, none⟩ v2) f f := by
  have hE : Ext (fun z => z = te) w (w.setCell ⟨e, 2, none⟩ v2) f f := ⟨by simp [World.setCell], fun _ _ => rfl, fun k hk hn => Below.heap_setCell w ⟨e, 2, none⟩ v2 k (fun he => hn (by rw [show k = e from he]; exact g5)), rfl, rfl, rfl⟩
  exact ⟨⟨⟨m, b, v2, blk_put g1 2 _ rfl, g2.ext hE (fun e => h0 e.symm), g3.ext hE (fun e => h0 e.symm) h2, g4.ext hE (fun e => h0 e.symm)⟩, g5⟩, hE⟩
/-- a token's store -/
theorem store_tok {W W2 : World} {f : Nat → Nat} {y g cap i : Nat} {vs : List S66} {x' : S66} {c0 c1 c2 c3 : Value} (h : Toks W f y (.slice (some ⟨g, 0, none⟩) vs.length cap) vs) (hy : y ≠ 0) (hi : i < vs.length)
    (hM : k66.M W 0 (fun k => f k = 0) x' [c0, c1, c2, c3]) (hw : W2 = (((W.setCell ⟨g, i * 4, none⟩ c0).setCell ⟨g, i * 4 + 1, none⟩ c1).setCell ⟨g, i * 4 + 2, none⟩ c2).setCell ⟨g, i * 4 + 3, none⟩ c3) :
    Toks W2 f y (.slice (some ⟨g, 0, none⟩) vs.length cap) (vs.set i x') ∧ Ext (fun z => z = y) W W2 f f := by
  have hR := h.R hy
  have hfg : f g = y := h.own g (by simp [Value.ownBlock])
  obtain ⟨c, hcl, _, hcc, _⟩ := Kd.R_elem hR z66 (i : Int) (Int.natCast_nonneg i) (Int.ofNat_lt.mpr hi)
  have hseg := Kd.R_seg hR (i : Int) (Int.natCast_nonneg i) (Int.ofNat_lt.mpr hi) hcl hcc (seg := [c0, c1, c2, c3]) (j := 0) (x' := x') (okp := fun k => f k = 0) (by exact Nat.le_refl 4)
    (by
      have h4 : c.length = 4 := hcl
      have : c.take 0 ++ [c0, c1, c2, c3] ++ c.drop (0 + [c0, c1, c2, c3].length) = [c0, c1, c2, c3] := by
        rw [List.take_zero, List.nil_append, List.drop_eq_nil_of_le (by rw [h4]; exact Nat.le_refl 4), List.append_nil]
      rw [this]; exact hM) (fun k hk => ⟨.inl hk, fun e => hy (by rw [← hfg, ← e]; exact hk)⟩)
  obtain ⟨h1, h2⟩ := hseg
  rw [Int.toNat_natCast] at h1 h2
  have hw2 : W2 = W.setCells g (i * k66.sz + 0) [c0, c1, c2, c3] := hw
  rw [← hw2] at h1 h2
  have hE : Ext (fun z => z = y) W W2 f f := ⟨h2.size, fun _ _ => rfl, fun k hk hn => h2.block k hk (fun e => hn (by injection e with e; rw [e]; exact hfg)), h2.os, h2.tape, h2.output⟩
  exact ⟨Toks.of_R h1 (fun k hk => by have : g = k := by simpa [Value.ownBlock] using hk
                                      rw [← this]; exact hfg) (fun k hk hne _ => hk.resolve_right hne), hE⟩
def joinTok (rs : List S150) (ah : List Int) (x : S66) : S66 := if joinQ rs ah x = true then ⟨x.f0, x.f1, [], 3⟩ else x
/-- tokens looked at by what stands ahead -/
def joinGo (rs : List S150) : List Int → List S66 → List S66 × List Int
  | ah, [] => ([], ah)
  | ah, x :: xs => (joinTok rs ah x :: (joinGo rs (if (joinTok rs ah x).f3 = 0 then x.f2 else ah) xs).1, (joinGo rs (if (joinTok rs ah x).f3 = 0 then x.f2 else ah) xs).2)
theorem joinGo_len (rs : List S150) : ∀ (ts : List S66) (ah : List Int), (joinGo rs ah ts).1.length = ts.length
  | [], _ => rfl
  | x :: xs, ah => by rw [joinGo]; simp [joinGo_len rs xs]
/-- one token, as it is stored -/
theorem join_one {W : World} {f : Nat → Nat} {rs : List S150} {ah : List Int} {x : S66} {v2 : Value} {q : Bool} (hq : joinQ rs ah x = q) (hv : IntZ W f v2 x.f2) :
    ∃ (vo : Value) (er : Int), joinV q x.f0 x.f1 v2 x.f3 = .agg #[.int .i64 x.f0, .int .i64 x.f1, vo, .int .i64 er] ∧ er = (joinTok rs ah x).f3 ∧ k66.M W 0 (fun k => f k = 0) (joinTok rs ah x) [.int .i64 x.f0, .int .i64 x.f1, vo, .int .i64 er] ∧ (er = 0 → vo = v2) ∧ (∃ A c, vo = .slice A (joinTok rs ah x).f2.length c) := by
  cases q with
  | true =>
    refine ⟨.slice none 0 0, 3, rfl, by unfold joinTok; rw [if_pos hq], ?_, fun h => by omega, none, 0, by unfold joinTok; rw [if_pos hq]; rfl⟩
    unfold joinTok
    rw [if_pos hq]
    exact k66_mkM _ _ _ ⟨x.f0, x.f1, [], 3⟩ (Kd.R_nil _ _ _ _ _)
  | false =>
    have h : ¬ joinQ rs ah x = true := by rw [hq]; simp
    obtain ⟨A, c, hv2⟩ := Kd.R_slice hv
    refine ⟨v2, x.f3, rfl, by unfold joinTok; rw [if_neg h], ?_, fun _ => rfl, A, c, by unfold joinTok; rw [if_neg h]; exact hv2⟩
    unfold joinTok
    rw [if_neg h]
    exact k66_mkM _ _ _ x hv
structure JoinN (rs : List S150) (ts : List S66) (q : List S66 × List Int) (kq i : Nat) (vs : List S66) (ah : List Int) : Prop where
  le : i ≤ ts.length
  fuel : ts.length + 1 = kq + i
  len : vs.length = ts.length
  rest : vs.drop i = ts.drop i
  al : ah.length ≤ 8
  ans : q = (vs.take i ++ (joinGo rs ah (ts.drop i)).1, (joinGo rs ah (ts.drop i)).2)
theorem JoinN.next {rs : List S150} {ts vs : List S66} {q : List S66 × List Int} {kq i : Nat} {ah : List Int} {x : S66} (h : JoinN rs ts q (kq + 1) i vs ah) (hi : i < ts.length) (hx : ts.drop i = x :: ts.drop (i + 1)) (h8 : x.f2.length ≤ 8) :
    JoinN rs ts q kq (i + 1) (vs.set i (joinTok rs ah x)) (if (joinTok rs ah x).f3 = 0 then x.f2 else ah) := by
  obtain ⟨a, b, c, d, e, g⟩ := h
  rw [hx, joinGo] at g
  have hiv : i < vs.length := by omega
  refine ⟨hi, by omega, by rw [List.length_set]; exact c, ?_, by split <;> assumption, ?_⟩
  · rw [List.drop_set_of_lt (by omega)]
    have h1 := congrArg (List.drop 1) d
    rwa [List.drop_drop, List.drop_drop] at h1
  · have h2 : (vs.set i (joinTok rs ah x)).take (i + 1) = vs.take i ++ [joinTok rs ah x] := by
      rw [List.take_add_one, List.getElem?_set_self hiv, List.take_set_of_le (by omega)]; rfl
    rw [g, h2]
    simp
def rdTok (ts : List S66) (i : Nat) : S66 := rd_T66 ts i
theorem tok_drop {ts : List S66} {i : Nat} (hi : i < ts.length) : ts.drop i = rd_T66 ts i :: ts.drop (i + 1) := by
  unfold rd_T66
  rw [Int.toNat_natCast, List.drop_eq_getElem_cons hi, List.getD_eq_getElem?_getD, List.getElem?_eq_getElem hi]; rfl
theorem tok_mem {ts : List S66} {i : Nat} (hi : i < ts.length) : rd_T66 ts i ∈ ts := by
  unfold rd_T66
  rw [Int.toNat_natCast, List.getD_eq_getElem?_getD, List.getElem?_eq_getElem hi]
  exact List.getElem_mem hi
end Go.Proofs.YtnfjgopcenpblaaGreatDoor.T

/- The walk of machine.Encoder's join. No condition beyond the ranges. -/
namespace Go.Proofs.YtnfjgopcenpblaaGreatDoor.T
open Go.RowKit Go.Proofs.YtnfjgopcenpblaaGreatDoorW.PrintWords Go.Proofs.YtnfjgopcenpblaaGreatDoorW.PrintLast Go.Proofs.YtnfjgopcenpblaaGreatDoorW.PrintMore Go.Proofs.YtnfjgopcenpblaaGreatDoor
set_option linter.unusedVariables false
set_option linter.unusedSimpArgs false
def ejoin.T4 : Bool × List (List Nat × List Nat) := (true, [([], []), ([], []), ([], []), ([2], [2]), ([3], [3]), ([4], [4]), ([], []), ([6], [6]), ([7], [7]), ([8], [8]), ([], []), ([5, 9, 10], [5, 9, 10]), ([0, 1, 0, 1, 2, 3, 4, 5, 6, 7, 8, 9, 10, 11], [0, 1]), ([12, 11, 11, 0, 1, 2, 3, 4, 5, 6, 7, 8, 9, 10, 11], [11, 12])])
def ejoin.B4 : List Nat := [0, 0, 0, 4, 12, 28, 0, 64, 192, 448, 0, 2044, 4095, 8191]
theorem ejoin.tab4 : rtab .any (opsOf Tryz.f150 4) = ejoin.T4 := by kernel_rfl
theorem ejoin.bits4 : waitsOk ejoin.T4.2 ejoin.B4 = true := by kernel_rfl
def EJoinP (w : World) (f : Nat → Nat) (te tm y e : Nat) (us : List Int) (a : Int) (rs : List S150) (u : Value) (q : List S66 × List Int) (en : Ending) (w' : World) : Prop := ∃ f', en = .returned u ∧ Ext (fun z => z = te ∨ z = y) w w' f f' ∧ Toks w' f' y u q.1 ∧ En w' f' te tm e us a rs q.2
/-- cells that join's region reads -/
def JR (w5 : World) (e gb : Nat) (pb va c0 c1 c2 c3 : Value) (w' : World) : Prop := Below w5.heap.size w5 w' ∧ w'.cell? ⟨e, 1, none⟩ = some pb ∧ w'.cell? ⟨e, 2, none⟩ = some va ∧ w'.cell? ⟨gb, 0, none⟩ = some c0 ∧ w'.cell? ⟨gb, 1, none⟩ = some c1 ∧ w'.cell? ⟨gb, 2, none⟩ = some c2 ∧ w'.cell? ⟨gb, 3, none⟩ = some c3
theorem JR.step {w5 w w' : World} {e gb : Nat} {pb va c0 c1 c2 c3 : Value} (h : JR w5 e gb pb va c0 c1 c2 c3 w) (hb : Below w.heap.size w w') : JR w5 e gb pb va c0 c1 c2 c3 w' := by
  obtain ⟨h0, h1, h2, h3, h4, h5, h6⟩ := h
  exact ⟨below_step h0 hb, cell_b h1 hb, cell_b h2 hb, cell_b h3 hb, cell_b h4 hb, cell_b h5 hb, cell_b h6 hb⟩
theorem own_is {k g n c : Nat} (e : some k = (Value.slice (some ⟨g, 0, none⟩) n c).ownBlock) : k = g := by simpa [Value.ownBlock] using e
theorem frozen_b {w w' : World} {a : Addr} (h : w.frozen? a = false) (hl : a.block < w.heap.size) (hb : Below w.heap.size w w') : w'.frozen? a = false := (hb.frozen hl).trans h
/-- a token is stored: what is known then -/
structure JNx (w w7 : World) (f f2 : Nat → Nat) (te tm y e m b g cap i : Nat) (us : List Int) (a : Int) (rs : List S150) (vs : List S66) (va vv : Value) (ah l3 : List Int) (er : Int) : Prop where
  ext : Ext (fun z => z = te ∨ z = y) w w7 f f2
  toks : Toks w7 f2 y (.slice (some ⟨g, 0, none⟩) vs.length cap) vs
  blk : w7.heap[e]? = some (.cells #[.pointer (some ⟨m, 0, none⟩), .pointer (some ⟨b, 0, none⟩), va] 134 (0, 0))
  ahd : IntZ w7 f2 va ah
  mt : Mt w7 f2 tm m us a (nodesF (turnF rs)) ((turnF rs).map outOf)
  tab : TabZ w7 f2 b rs
  fe : f2 e = te
  out : IntZ w7 f2 vv l3
  err : w7.cell? ⟨g, i * 4 + 3, none⟩ = some (.int .i64 er)
theorem join_next {w wr w6 w7 : World} {f f1 : Nat → Nat} {te tm y e m b g cap i : Nat} {us : List Int} {a : Int} {rs : List S150} {vs : List S66} {x' : S66} {va vv c0 c1 c2 : Value} {ah l3 : List Int}
    (E1 : Ext (fun z => z = te ∨ z = y) w wr f f1) (T1 : Toks wr f1 y (.slice (some ⟨g, 0, none⟩) vs.length cap) vs) (b1 : wr.heap[e]? = some (.cells #[.pointer (some ⟨m, 0, none⟩), .pointer (some ⟨b, 0, none⟩), va] 134 (0, 0)))
    (b2 : IntZ wr f1 va ah) (b3 : Mt wr f1 tm m us a (nodesF (turnF rs)) ((turnF rs).map outOf)) (b4 : TabZ wr f1 b rs) (b5 : f1 e = te) (b6 : IntZ wr f1 vv l3) (n3 : y ≠ 0) (n5 : te ≠ y) (n6 : tm ≠ y) (hi : i < vs.length)
    (hb : Below wr.heap.size wr w6) (hM : k66.M wr 0 (fun k => f1 k = 0) x' [c0, c1, c2, .int .i64 x'.f3]) (hw : w7 = (((w6.setCell ⟨g, i * 4, none⟩ c0).setCell ⟨g, i * 4 + 1, none⟩ c1).setCell ⟨g, i * 4 + 2, none⟩ c2).setCell ⟨g, i * 4 + 3, none⟩ (.int .i64 x'.f3)) :
    ∃ f2, JNx w w7 f f2 te tm y e m b g cap i us a rs (vs.set i x') va vv ah l3 x'.f3 := by
  have hE := Ext.new (T := fun _ => False) (f := f1) 0 hb
  have hM6 : k66.M w6 0 (fun k => newF f1 wr.heap.size 0 k = 0) x' [c0, c1, c2, .int .i64 x'.f3] := k66.M_mono (fun k hk => by rw [newF_old hk.2.2.1]; exact hk.1) (Kd.M_below (k66.M_bound hM) hb)
  have hF : ¬ (fun _ : Nat => False) 0 := fun h => h
  obtain ⟨t1, e2⟩ := store_tok (T1.ext hE (fun h => h) (fun h => h)) n3 hi hM6 hw
  have hy0 : ¬ ((0 : Nat) = y) := fun h => n3 h.symm
  have hlen : (vs.set i x').length = vs.length := List.length_set
  refine ⟨newF f1 wr.heap.size 0, E1.trans ((hE.mono (fun _ h => h.elim)).trans (e2.mono (fun z h => .inr h))), by rw [hlen]; exact t1, e2.blk (hE.blk b1 (fun h => h)) ?_, (b2.ext hE (fun h => h)).ext e2 hy0, (b3.ext hE (fun h => h) (fun h => h)).ext e2 hy0 n6, (b4.ext hE (fun h => h)).ext e2 hy0, (hE.tg b1).trans b5, (b6.ext hE (fun h => h)).ext e2 hy0, ?_⟩
  · rw [hE.tg b1, b5]; exact n5
  · obtain ⟨cs, hcl, hcM, hcc, _⟩ := Kd.R_elem (t1.R n3) z66 (i : Int) (Int.natCast_nonneg i) (Int.ofNat_lt.mpr hi)
    have hel : (vs.set i x').getD (i : Int).toNat z66 = x' := by rw [Int.toNat_natCast, List.getD_eq_getElem?_getD, List.getElem?_set_self hi]; rfl
    rw [hel] at hcM
    obtain ⟨v2, rfl, _⟩ := k66_openM hcM
    have := hcc 3 _ rfl
    rw [Int.toNat_natCast] at this
    exact this
set_option maxRecDepth 100000 in
set_option maxHeartbeats 1000000 in
theorem EJoin_calls (w : World) (f : Nat → Nat) (te tm y e : Nat) (us : List Int) (a : Int) (rs : List S150) (ah : List Int) (u : Value) (ts : List S66) (h : En w f te tm e us a rs ah) (ht : Toks w f y u ts) (hk : Okay rs) (n0 : te ≠ 0 ∧ tm ≠ 0 ∧ y ≠ 0 ∧ tm ≠ te ∧ te ≠ y ∧ tm ≠ y) (ha : ah.length ≤ 8) (h8 : ∀ x ∈ ts, x.f2.length ≤ 8) (hn : ts.length ≤ 1000) :
    Calls Tryz.prog 150 #[.pointer (some ⟨e, 0, none⟩), u] w (EJoinP w f te tm y e us a rs u (joinGo rs ah ts)) := by
  obtain ⟨n1, n2, n3, n4, n5, n6⟩ := n0
  by_cases hts : ts = []
  · subst hts
    obtain ⟨A, c, rfl, _, _⟩ := ht.rd
    have HE := Lib.hid (show EJoinP w f te tm y e us a rs (.slice A ([] : List S66).length c) (joinGo rs ah []) (.returned (.slice A ([] : List S66).length c)) w from ⟨f, rfl, Ext.refl _ _ _, ht, h⟩)
    clear h ht
    go_enter Tryz.func150, Tryz.ntmps150
    go_wp2
    go_loopg [9] 1 (fun kq v w' => v = .int .i64 0 ∧ w' = w)
    case atStart => exact ⟨rfl, rfl⟩
    case round =>
      obtain ⟨rfl, rfl⟩ := hrel
      go_wp2
      go_ret
      exact HE.out
  · have hpos : 0 < ts.length := List.length_pos_iff.2 hts
    obtain ⟨g, cap, rfl, _, _⟩ := Kd.R_form (ht.R n3) hpos
    have N := Lib.hid (show JoinN rs ts (joinGo rs ah ts) (ts.length + 1) 0 ts ah from ⟨by omega, by omega, rfl, rfl, ha, by simp⟩)
    have W := Lib.hid (show ∃ f', Ext (fun z => z = te ∨ z = y) w w f f' ∧ Toks w f' y (.slice (some ⟨g, 0, none⟩) ts.length cap) ts ∧ En w f' te tm e us a rs ah from ⟨f, Ext.refl _ _ _, ht, h⟩)
    replace hk := Lib.hid hk
    replace h8 := Lib.hid h8
    generalize joinGo rs ah ts = q at *
    clear h ht ha
    go_enter Tryz.func150, Tryz.ntmps150
    go_wp2
    go_loopg [9] (ts.length + 1) (fun kq v9 w' => ∃ (i : Nat) (vs : List S66) (ah : List Int), v9 = .int .i64 i ∧ Hid (∃ f', Ext (fun z => z = te ∨ z = y) w w' f f' ∧ Toks w' f' y (.slice (some ⟨g, 0, none⟩) ts.length cap) vs ∧ En w' f' te tm e us a rs ah) ∧ Hid (JoinN rs ts q kq i vs ah))
    case atStart => exact ⟨0, ts, ah, rfl, W, N⟩
    case round =>
      clear W N ah
      obtain ⟨i, vs, ah, rfl, W, N⟩ := hrel
      have hvl := N.out.len
      have i1 := N.out.fuel
      cases gk with
      | zero => exact absurd i1 (by have := N.out.le; omega)
      | succ gk =>
        by_cases hi : i < ts.length
        · have di := lt_dec hi
          have p0 := nat_tr i
          have p1 := lt_tr hi
          have hiv : i < vs.length := by omega
          obtain ⟨f1, E1, T1, H1⟩ := W.out
          obtain ⟨⟨m, b, va, b1, b2, b3, b4⟩, b5⟩ := H1
          have hdr : vs.drop i = ts.drop i := N.out.rest
          have hx : rd_T66 vs i = rd_T66 ts i := by rw [tok_drop hiv, tok_drop hi] at hdr; exact (List.cons.inj hdr).1
          have hx8 := h8.out _ (tok_mem hi)
          have hT1 : Toks wr f1 y (.slice (some ⟨g, 0, none⟩) vs.length cap) vs := by rw [hvl]; exact T1
          obtain ⟨cs, hcl, hcM, hcc, hcf⟩ := Kd.R_elem (hT1.R n3) z66 (i : Int) (Int.natCast_nonneg i) (Int.ofNat_lt.mpr hiv)
          change k66.M wr 0 _ (rd_T66 vs i) cs at hcM
          rw [hx] at hcM
          have hdt := tok_drop hi
          have hN := Lib.hid (N.out.next hi hdt hx8)
          generalize rd_T66 ts i = x at *
          obtain ⟨v0, v2, v3, v4⟩ := x
          dsimp only at *
          obtain ⟨vv, rfl, hvv⟩ := k66_openM hcM
          dsimp only at hvv
          have b6 : IntZ wr f1 vv v3 := Kd.R_mono hvv (fun k hk => hk.1.resolve_right (fun e => hk.2 (own_is e)))
          obtain ⟨vo, er, hJV, her, hM, hvo, hform⟩ := join_one (q := joinQ rs ah ⟨v0, v2, v3, v4⟩) rfl b6
          obtain ⟨Ao, co, rfl⟩ := Kd.R_slice hvv
          obtain ⟨Aa, ca, rfl⟩ := Kd.R_slice b2
          have hcc2 : ∀ j u, [Value.int .i64 v0, .int .i64 v2, .slice Ao v3.length co, .int .i64 v4][j]? = some u → wr.cell? ⟨g, i * 4 + j, none⟩ = some u := fun j u hj => by
            have := hcc j u hj
            rw [Int.toNat_natCast] at this
            exact this
          have hcf2 : ∀ j, wr.frozen? ⟨g, i * 4 + j, none⟩ = false := fun j => by
            have := hcf j
            rw [Int.toNat_natCast] at this
            exact this
          have z0 : wr.cell? ⟨g, i * 4, none⟩ = some (.int .i64 v0) := hcc2 0 _ rfl
          have z1 : wr.cell? ⟨g, i * 4 + 1, none⟩ = some (.int .i64 v2) := hcc2 1 _ rfl
          have z2 : wr.cell? ⟨g, i * 4 + 2, none⟩ = some (.slice Ao v3.length co) := hcc2 2 _ rfl
          have z3 : wr.cell? ⟨g, i * 4 + 3, none⟩ = some (.int .i64 v4) := hcc2 3 _ rfl
          have hgl : g < wr.heap.size := T1.lt g (by simp [Value.ownBlock])
          have e1 : wr.cell? ⟨e, 1, none⟩ = some (.pointer (some ⟨b, 0, none⟩)) := (blk_cell b1 1).trans rfl
          have e2 : wr.cell? ⟨e, 2, none⟩ = some (.slice Aa ah.length ca) := (blk_cell b1 2).trans rfl
          have hal := N.out.al
          rw [← her] at hN
          have hJX := Lib.hid (fun w6 w7 hb (hw : w7 = _) => join_next (w6 := w6) (w7 := w7) (x' := joinTok rs ah ⟨v0, v2, v3, v4⟩) E1 hT1 b1 b2 b3 b4 b5 b6 n3 n5 n6 hiv hb (by rw [← her]; exact hM) hw)
          rw [← her] at hJX
          have hJ := Lib.hid (fun W (hW : Below wr.heap.size wr W) => Lib.hid (Join_calls W (fun k => f1 k = 0) b rs Aa Ao ca co ah v3 v0 v2 v4 (b4.same (Same.of_below hW)) hk.out (Kd.C_below (Kd.R_reads' b2).2.2 hW) (Kd.C_below (Kd.R_reads' b6).2.2 hW) hal hx8 _ rfl))
          rw [hJV] at hJ
          generalize hjt : joinTok rs ah ⟨v0, v2, v3, v4⟩ = x' at *
          generalize joinQ rs ah ⟨v0, v2, v3, v4⟩ = qq at *
          replace hvo := Lib.hid hvo
          have hform := Lib.hid (show ∃ (A : Option Addr) (n c : Nat), vo = .slice A n c from by obtain ⟨A, c, h⟩ := hform; exact ⟨A, _, c, h⟩)
          have hbe := Lib.hid b1
          replace hcc2 := Lib.hid hcc2
          replace hcf2 := Lib.hid hcf2
          clear hJV her hM hvv b1 b2 b3 b4 b5 b6 hcM hcc hcf hcl hx hdr hdt hT1 T1 E1 W N hjt
          go_wp2
          have hb5 : Below wr.heap.size wr (wr.alloc (.cells #[.int .i64 v0, .int .i64 v2, .slice Ao v3.length co, .int .i64 v4] 66)) := below_alloc (Below.refl _ _) _
          have kb := blk_new wr (.cells #[.int .i64 v0, .int .i64 v2, .slice Ao v3.length co, .int .i64 v4] 66)
          generalize wr.alloc (.cells #[.int .i64 v0, .int .i64 v2, .slice Ao v3.length co, .int .i64 v4] 66) = w5 at hb5 kb ⊢
          obtain ⟨gb, hgb⟩ : ∃ gb, gb = wr.heap.size := ⟨_, rfl⟩
          rw [← hgb] at kb ⊢
          have hdw : Below w5.heap.size w5 w5.drew := below_drew (Below.refl _ _)
          have HH : JR w5 e gb (.pointer (some ⟨b, 0, none⟩)) (.slice Aa ah.length ca) (.int .i64 v0) (.int .i64 v2) (.slice Ao v3.length co) (.int .i64 v4) w5.drew :=
            JR.step (w := w5) ⟨Below.refl _ _, cell_b e1 hb5, cell_b e2 hb5, (blk_cell kb 0).trans rfl, (blk_cell kb 1).trans rfl, (blk_cell kb 2).trans rfl, (blk_cell kb 3).trans rfl⟩ hdw
          clear e1 e2 hdw
          replace hb5 := Lib.hid hb5
          replace hgb := Lib.hid hgb
          refine start_ (n := 14) (S := JR w5 e gb (.pointer (some ⟨b, 0, none⟩)) (.slice Aa ah.length ca) (.int .i64 v0) (.int .i64 v2) (.slice Ao v3.length co) (.int .i64 v4)) (ds := [13]) #[Z, Z, Z, Z, Z, Z, Z, Z, Z, Z, Z, Z, Z, Z] (by kernel_rfl) rfl rfl HH (fun hHeld => ?_)
          refine with_tabW ejoin.tab4 ejoin.bits4 (fun HT_ HW_ => ?_)
          refine pure_ (i := 0) (N := some 14) (v := ?_) (a' := ?_) #[Y, Z, Z, Z, Z, Z, Z, Z, Z, Z, Z, Z, Z, Z] rfl rfl (any_of HT_.out (by kernel_rfl)) (fun _ _ _ h => h) (Or.inl ⟨by rfl, ?_⟩) ?_ ?_
          rotate_left
          · intro w'
            go_simp
            with_reducible rfl
          rotate_left
          · simp only [Act.put, List.setIfInBounds_toArray, List.set_cons_zero, List.set_cons_succ, i64_w, i32_w]
            rfl
          refine pure_ (i := 1) (N := some 15) (v := ?_) (a' := ?_) #[Y, Y, Z, Z, Z, Z, Z, Z, Z, Z, Z, Z, Z, Z] rfl rfl (any_of HT_.out (by kernel_rfl)) (fun _ _ _ h => h) (Or.inl ⟨by rfl, ?_⟩) ?_ ?_
          rotate_left
          · intro w'
            go_simp
            with_reducible rfl
          rotate_left
          · simp only [Act.put, List.setIfInBounds_toArray, List.set_cons_zero, List.set_cons_succ, i64_w, i32_w]
            rfl
          refine pure_ (i := 2) (N := some 16) (v := ?_) (a' := ?_) #[Y, Y, Y, Z, Z, Z, Z, Z, Z, Z, Z, Z, Z, Z] rfl rfl (any_of HT_.out (by kernel_rfl)) (fun _ _ _ h => h) (Or.inl ⟨by rfl, ?_⟩) ?_ ?_
          rotate_left
          · intro w'
            go_simp
            with_reducible rfl
          rotate_left
          · simp only [Act.put, List.setIfInBounds_toArray, List.set_cons_zero, List.set_cons_succ, i64_w, i32_w]
            rfl
          refine pure_ (i := 3) (N := some 17) (v := ?_) (a' := ?_) #[Y, Y, Y, Y, Z, Z, Z, Z, Z, Z, Z, Z, Z, Z] rfl rfl (any_of HT_.out (by kernel_rfl)) (fun _ _ _ h => h) (Or.inl ⟨by rfl, ?_⟩) ?_ ?_
          rotate_left
          · intro w'
            go_simp
            with_reducible rfl
          rotate_left
          · simp only [Act.put, List.setIfInBounds_toArray, List.set_cons_zero, List.set_cons_succ, i64_w, i32_w]
            rfl
          refine pure_ (i := 4) (N := some 18) (v := ?_) (a' := ?_) #[Y, Y, Y, Y, Y, Z, Z, Z, Z, Z, Z, Z, Z, Z] rfl rfl (any_of HT_.out (by kernel_rfl)) (fun _ _ _ h => h) (Or.inl ⟨by rfl, ?_⟩) ?_ ?_
          rotate_left
          · intro w'
            go_simp
            with_reducible rfl
          rotate_left
          · simp only [Act.put, List.setIfInBounds_toArray, List.set_cons_zero, List.set_cons_succ, i64_w, i32_w]
            rfl
          refine take_ (i := 5) (N := some 19) (v := ?_) (a' := ?_) #[Y, Y, Y, Y, Y, Y, Z, Z, Z, Z, Z, Z, Z, Z] rfl rfl (take_ofW HT_.out HW_.out (by kernel_rfl)) (fun _ _ _ h => h) (Or.inl ⟨by rfl, ?_⟩) hHeld ?_ ?_
          rotate_left
          · rintro w' ⟨s0, s1, s2, s3, s4, s5, s6⟩
            go_simp
            with_reducible rfl
          rotate_left
          · simp only [Act.put, List.setIfInBounds_toArray, List.set_cons_zero, List.set_cons_succ, i64_w, i32_w]
            rfl
          refine pure_ (i := 6) (N := some 20) (v := ?_) (a' := ?_) #[Y, Y, Y, Y, Y, Y, Y, Z, Z, Z, Z, Z, Z, Z] rfl rfl (any_of HT_.out (by kernel_rfl)) (fun _ _ _ h => h) (Or.inl ⟨by rfl, ?_⟩) ?_ ?_
          rotate_left
          · intro w'
            go_simp
            with_reducible rfl
          rotate_left
          · simp only [Act.put, List.setIfInBounds_toArray, List.set_cons_zero, List.set_cons_succ, i64_w, i32_w]
            rfl
          refine pure_ (i := 7) (N := some 21) (v := ?_) (a' := ?_) #[Y, Y, Y, Y, Y, Y, Y, Y, Z, Z, Z, Z, Z, Z] rfl rfl (any_of HT_.out (by kernel_rfl)) (fun _ _ _ h => h) (Or.inl ⟨by rfl, ?_⟩) ?_ ?_
          rotate_left
          · intro w'
            go_simp
            with_reducible rfl
          rotate_left
          · simp only [Act.put, List.setIfInBounds_toArray, List.set_cons_zero, List.set_cons_succ, i64_w, i32_w]
            rfl
          refine pure_ (i := 8) (N := some 22) (v := ?_) (a' := ?_) #[Y, Y, Y, Y, Y, Y, Y, Y, Y, Z, Z, Z, Z, Z] rfl rfl (any_of HT_.out (by kernel_rfl)) (fun _ _ _ h => h) (Or.inl ⟨by rfl, ?_⟩) ?_ ?_
          rotate_left
          · intro w'
            go_simp
            with_reducible rfl
          rotate_left
          · simp only [Act.put, List.setIfInBounds_toArray, List.set_cons_zero, List.set_cons_succ, i64_w, i32_w]
            rfl
          refine take_ (i := 9) (N := some 23) (v := ?_) (a' := ?_) #[Y, Y, Y, Y, Y, Y, Y, Y, Y, Y, Z, Z, Z, Z] rfl rfl (take_ofW HT_.out HW_.out (by kernel_rfl)) (fun _ _ _ h => h) (Or.inl ⟨by rfl, ?_⟩) hHeld ?_ ?_
          rotate_left
          · rintro w' ⟨s0, s1, s2, s3, s4, s5, s6⟩
            go_simp
            with_reducible rfl
          rotate_left
          · simp only [Act.put, List.setIfInBounds_toArray, List.set_cons_zero, List.set_cons_succ, i64_w, i32_w]
            rfl
          refine take_ (i := 10) (N := some 24) (v := ?_) (a' := ?_) #[Y, Y, Y, Y, Y, Y, Y, Y, Y, Y, Y, Z, Z, Z] rfl rfl (take_ofW HT_.out HW_.out (by kernel_rfl)) (fun _ _ _ h => h) (Or.inl ⟨by rfl, ?_⟩) hHeld ?_ ?_
          rotate_left
          · rintro w' ⟨s0, s1, s2, s3, s4, s5, s6⟩
            go_simp
            with_reducible rfl
          rotate_left
          · simp only [Act.put, List.setIfInBounds_toArray, List.set_cons_zero, List.set_cons_succ, i64_w, i32_w]
            rfl
          refine one_ (i := 11) (N := some 25) #[Y, Y, Y, Y, Y, Y, Y, Y, Y, Y, Y, Y, Z, Z] rfl rfl (one_of HT_.out (by kernel_rfl)) (by decide) (fun K hK => ?_)
          refine goes_ Tryz.func153 (by kernel_rfl) rfl #[.pointer (some ⟨b, 0, none⟩), .slice Aa ah.length ca, .agg #[.int .i64 v0, .int .i64 v2, .slice Ao v3.length co, .int .i64 v4]] (by rfl) rfl rfl (by (try simp only [List.map_toArray, List.map_cons, List.map_nil]); first | done | rfl) ?_
          refine (hJ.out _ (below_step hb5.out hHeld.1)).out.mono ?_
          rintro en w6 ⟨rfl, hb6⟩
          refine ⟨_, rfl, ?_⟩
          refine hK.out _ _ (hHeld.step hb6) (fun hHeld => ?_)
          clear hK K
          refine norm_ (a' := ?_) ?_ ?_
          rotate_left
          · show Act.put _ (some 25) _ = _
            simp only [Act.put, List.setIfInBounds_toArray, List.set_cons_zero, List.set_cons_succ, i64_w, i32_w]
            rfl
          refine pure_ (i := 12) (N := some 26) (v := ?_) (a' := ?_) #[Y, Y, Y, Y, Y, Y, Y, Y, Y, Y, Y, Y, Y, Z] rfl rfl (any_of HT_.out (by kernel_rfl)) (fun _ _ _ h => h) (Or.inl ⟨by rfl, ?_⟩) ?_ ?_
          rotate_left
          · intro w'
            go_simp
            with_reducible rfl
          rotate_left
          · simp only [Act.put, List.setIfInBounds_toArray, List.set_cons_zero, List.set_cons_succ, i64_w, i32_w]
            rfl
          refine last_ (i := 13) (N := none) #[Y, Y, Y, Y, Y, Y, Y, Y, Y, Y, Y, Y, Y, Y] rfl rfl (one_of HT_.out (by kernel_rfl)) (by decide) (fun K hK => ?_)
          have hb56 := below_step hb5.out hHeld.1
          have x0 := cell_b z0 hb56
          have x1 := cell_b z1 hb56
          have x2 := cell_b z2 hb56
          have x3 := cell_b z3 hb56
          have y0 := frozen_b (hcf2.out 0) hgl hb56
          have y1 := frozen_b (hcf2.out 1) hgl hb56
          have y2 := frozen_b (hcf2.out 2) hgl hb56
          have y3 := frozen_b (hcf2.out 3) hgl hb56
          rw [Nat.add_zero] at y0
          obtain ⟨Av, nv, cv, hvs⟩ := hform.out
          refine skip_ (w1 := (((w6.setCell ⟨g, i * 4, none⟩ (.int .i64 v0)).setCell ⟨g, i * 4 + 1, none⟩ (.int .i64 v2)).setCell ⟨g, i * 4 + 2, none⟩ vo).setCell ⟨g, i * 4 + 3, none⟩ (.int .i64 er)) (by rfl) rfl ?_ ?_
          · subst hvs
            go_simp
          refine hK.out _ _ ?_
          clear hK K
          refine done_ (done_of HT_.out (by kernel_rfl)) ?_
          obtain ⟨f2, X⟩ := hJX.out w6 _ hb56 rfl
          have xe := X.err
          have hgn : gb ≠ g := by rw [hgb.out]; omega
          have ko : ∀ (W : World) (o : Nat) (v : Value), (W.setCell ⟨g, o, none⟩ v).cell? ⟨gb, 2, none⟩ = W.cell? ⟨gb, 2, none⟩ := fun W o v => World.cell?_of_block (Below.heap_setCell W ⟨g, o, none⟩ v gb hgn)
          have kx : ((((w6.setCell ⟨g, i * 4, none⟩ (.int .i64 v0)).setCell ⟨g, i * 4 + 1, none⟩ (.int .i64 v2)).setCell ⟨g, i * 4 + 2, none⟩ vo).setCell ⟨g, i * 4 + 3, none⟩ (.int .i64 er)).cell? ⟨gb, 2, none⟩ = some (.slice Ao v3.length co) := by rw [ko, ko, ko, ko]; exact hHeld.2.2.2.2.2.1
          clear ko hgn x0 x1 x2 x3 y0 y1 y2 y3 hHeld HT_ HW_ HH z0 z1 z2 z3 hcf2 hcc2 hJX hJ hb56
          generalize (((w6.setCell ⟨g, i * 4, none⟩ (.int .i64 v0)).setCell ⟨g, i * 4 + 1, none⟩ (.int .i64 v2)).setCell ⟨g, i * 4 + 2, none⟩ vo).setCell ⟨g, i * 4 + 3, none⟩ (.int .i64 er) = w7 at X xe kx ⊢
          have xb := X.blk
          have xb2 : w7.cell? ⟨e, 2, none⟩ = some (.slice Aa ah.length ca) := (blk_cell xb 2).trans rfl
          have xf2 := blk_frozen xb 2
          replace X := Lib.hid X
          replace xb := ()
          by_cases h0 : er = 0
          · have P := En.put (va := .slice Aa ah.length ca) n1 n4 X.out.blk X.out.out X.out.mt X.out.tab X.out.fe
            have d0 : (er == 0) = true := beq_iff_eq.mpr h0
            rw [if_pos h0] at hN
            replace P := Lib.hid P
            go_wp2
            go_roundg gk
            case measure => exact Nat.lt_succ_self _
            case rel => exact ⟨i + 1, _, _, rfl, Lib.hid ⟨f2, X.out.ext.trans (P.out.2.mono (fun z h => .inl h)), by have h := (X.out.toks.ext P.out.2 (fun h => n1 h.symm) (fun h => n5 h.symm)); rw [List.length_set, hvl] at h; exact h, P.out.1⟩, hN⟩
          · have d0 : (er == 0) = false := beq_eq_false_iff_ne.mpr h0
            rw [if_neg h0] at hN
            go_wp2
            go_roundg gk
            case measure => exact Nat.lt_succ_self _
            case rel => exact ⟨i + 1, _, _, rfl, Lib.hid ⟨f2, X.out.ext, by have h := X.out.toks; rw [List.length_set, hvl] at h; exact h, ⟨⟨m, b, _, X.out.blk, X.out.ahd, X.out.mt, X.out.tab⟩, X.out.fe⟩⟩, hN⟩
        · have di := nlt_dec hi
          have hq := N.out.ans
          have hvi : vs.take i = vs := List.take_of_length_le (by omega)
          rw [List.drop_eq_nil_of_le (by omega), joinGo, List.append_nil, hvi] at hq
          replace hq := Lib.hid hq
          clear hvi
          go_wp2
          go_ret
          obtain ⟨f1, E1, T1, H1⟩ := W.out
          rw [hq.out]
          exact ⟨f1, rfl, E1, T1, H1⟩
end Go.Proofs.YtnfjgopcenpblaaGreatDoor.T

/- The walks of machine.Encoder's Put, End and Apart, and of Decode and Encode. No condition beyond the ranges. -/
namespace Go.Proofs.YtnfjgopcenpblaaGreatDoor.T
open Go.RowKit Go.Proofs.YtnfjgopcenpblaaGreatDoorW.PrintWords Go.Proofs.YtnfjgopcenpblaaGreatDoorW.PrintLast Go.Proofs.YtnfjgopcenpblaaGreatDoorW.PrintMore Go.Proofs.YtnfjgopcenpblaaGreatDoor
set_option linter.unusedVariables false
set_option linter.unusedSimpArgs false
theorem rd_small {rs : List S150} (h : ∀ r ∈ rs, r.f1.length ≤ 8) (k : Int) : (rd_T150 rs k).f1.length ≤ 8 := by
  unfold rd_T150
  rw [List.getD_eq_getElem?_getD]
  by_cases hk : k.toNat < rs.length
  · rw [List.getElem?_eq_getElem hk]; exact h _ (List.getElem_mem hk)
  · rw [List.getElem?_eq_none (by omega)]; exact Nat.zero_le _
theorem take_outs {ns : List S183} {rs : List S150} (hf : Fit ns rs) (fin : Bool) : ∀ (n : Nat) (us : List Int) (a : Int), ∀ x ∈ (takeF ns rs fin n us a).1, x.f2.length ≤ 8
  | 0, us, a, x, hx => by rw [takeF] at hx; simp at hx
  | n + 1, us, a, x, hx => by
    rw [takeF] at hx
    split at hx
    · simp at hx
    · split at hx
      · simp at hx
      · rcases List.mem_cons.1 hx with rfl | hx
        · unfold takeTok
          split
          · exact Nat.zero_le _
          · exact rd_small hf.outs _
        · exact take_outs hf fin n _ _ x hx
theorem take_few (ns : List S183) (rs : List S150) (fin : Bool) : ∀ (n : Nat) (us : List Int) (a : Int), (takeF ns rs fin n us a).1.length ≤ n ∧ (takeF ns rs fin n us a).2.1.length ≤ us.length
  | 0, us, a => by rw [takeF]; simp
  | n + 1, us, a => by
    rw [takeF]
    split
    · simp
    · split
      · simp
      · have h := take_few ns rs fin n (us.drop (tokLen (longF ns us).2.1).toNat) (wrap64 (a + tokLen (longF ns us).2.1))
        exact ⟨by simp; exact h.1, Nat.le_trans h.2 (by rw [List.length_drop]; omega)⟩
theorem join_al (rs : List S150) : ∀ (ts : List S66) (ah : List Int), ah.length ≤ 8 → (∀ x ∈ ts, x.f2.length ≤ 8) → (joinGo rs ah ts).2.length ≤ 8
  | [], ah, h, _ => h
  | x :: xs, ah, h, hx => by
    rw [joinGo]
    refine join_al rs xs _ ?_ (fun y hy => hx y (List.mem_cons_of_mem _ hy))
    split
    · exact hx x (List.mem_cons_self ..)
    · exact h
abbrev wn (rs : List S150) : List S183 := nodesF (turnF rs)
abbrev wo (rs : List S150) : List S150 := (turnF rs).map outOf
def ePut (rs : List S150) (ah us : List Int) (a u : Int) : List S66 × List Int := joinGo rs ah (putF (wn rs) (wo rs) us a u).1
def eEnd (rs : List S150) (ah us : List Int) (a : Int) : List S66 × List Int := joinGo rs ah (endF (wn rs) (wo rs) us a).1
/-- behind the match's call -/
theorem en_mid {w w1 : World} {f f1 : Nat → Nat} {te tm e m b : Nat} {us1 : List Int} {a1 : Int} {rs : List S150} {va : Value} {ah : List Int} (n2 : tm ≠ 0) (n4 : tm ≠ te) (g1 : w.heap[e]? = some (.cells #[.pointer (some ⟨m, 0, none⟩), .pointer (some ⟨b, 0, none⟩), va] 134 (0, 0)))
    (g2 : IntZ w f va ah) (g4 : TabZ w f b rs) (g5 : f e = te) (x : Ext (fun z => z = tm) w w1 f f1) (hm : Mt w1 f1 tm m us1 a1 (wn rs) (wo rs)) : En w1 f1 te tm e us1 a1 rs ah :=
  ⟨⟨m, b, va, x.blk g1 (by rw [g5]; exact fun h => n4 h.symm), g2.ext x (fun h => n2 h.symm), hm, g4.ext x (fun h => n2 h.symm)⟩, (x.tg g1).trans g5⟩
set_option maxRecDepth 100000 in
theorem EPut_calls (w : World) (f : Nat → Nat) (te tm y e : Nat) (us : List Int) (a u : Int) (rs : List S150) (ah : List Int) (h : En w f te tm e us a rs ah) (hk : Okay rs) (n0 : te ≠ 0 ∧ tm ≠ 0 ∧ y ≠ 0 ∧ tm ≠ te ∧ te ≠ y ∧ tm ≠ y) (ha : ah.length ≤ 8) (hl : us.length ≤ 99) :
    Calls Tryz.prog 149 #[.pointer (some ⟨e, 0, none⟩), .int .i64 u] w (Gives (fun z => z = te ∨ z = tm ∨ z = y) y w f (ePut rs ah us a u).1 (fun w' f' => En w' f' te tm e (putF (wn rs) (wo rs) us a u).2.1 (putF (wn rs) (wo rs) us a u).2.2 rs (ePut rs ah us a u).2)) := by
  obtain ⟨⟨m, b, va, g1, g2, g3, g4⟩, g5⟩ := h
  have HT := Lib.hid (MPut_calls w f tm y m us a u _ _ g3 n0.2.1 n0.2.2.1 hk.fw hk.pw hl)
  have H8 := take_outs hk.fw false (us.length + 2) (us ++ [u]) a
  have Hn := (take_few (wn rs) (wo rs) false (us.length + 2) (us ++ [u]) a).1
  unfold ePut
  change Hid (Calls Tryz.prog 152 _ w (Gives _ y w f (putF (wn rs) (wo rs) us a u).1 (fun w' f' => Mt w' f' tm m (putF (wn rs) (wo rs) us a u).2.1 (putF (wn rs) (wo rs) us a u).2.2 (wn rs) (wo rs)))) at HT
  change ∀ x ∈ (putF (wn rs) (wo rs) us a u).1, _ at H8
  change (putF (wn rs) (wo rs) us a u).1.length ≤ _ at Hn
  generalize putF (wn rs) (wo rs) us a u = q at *
  have e0 : w.cell? ⟨e, 0, none⟩ = some (.pointer (some ⟨m, 0, none⟩)) := (blk_cell g1 0).trans rfl
  have HM := Lib.hid (fun w1 f1 us1 a1 x hm => en_mid (w1 := w1) (f1 := f1) (us1 := us1) (a1 := a1) n0.2.1 n0.2.2.2.1 g1 g2 g4 g5 x hm)
  have HN := Lib.hid (show q.1.length ≤ 1000 by omega)
  replace H8 := Lib.hid H8
  clear g1 g2 g3 g4 g5 Hn
  replace n0 := Lib.hid n0
  replace hk := Lib.hid hk
  go_enter Tryz.func149, Tryz.ntmps149
  go_wp2_with (first
    | (go_at_call 152; refine HT.out.mono ?_; rintro en w1 ⟨v1, f1, rfl, x1, t1, m1⟩; have H1 := Lib.hid (HM.out w1 f1 _ _ x1 m1); have HJ := Lib.hid (EJoin_calls w1 f1 te tm y e _ _ rs ah v1 q.1 H1.out t1 hk.out n0.out ha H8.out HN.out); replace x1 := Lib.hid x1; clear t1 m1)
    | (go_at_call 150; refine HJ.out.mono ?_; rintro en w2 ⟨f2, rfl, x2, t2, h2⟩; replace x2 := Lib.hid x2; replace t2 := Lib.hid t2; replace h2 := Lib.hid h2))
  go_ret
  exact ⟨v1, f2, rfl, (x1.out.mono (fun z h => .inr (.inl h))).trans (x2.out.mono (fun z h => h.elim .inl (fun h => .inr (.inr h)))), t2.out, h2.out⟩
set_option maxRecDepth 100000 in
theorem EEnd_calls (w : World) (f : Nat → Nat) (te tm y e : Nat) (us : List Int) (a : Int) (rs : List S150) (ah : List Int) (h : En w f te tm e us a rs ah) (hk : Okay rs) (n0 : te ≠ 0 ∧ tm ≠ 0 ∧ y ≠ 0 ∧ tm ≠ te ∧ te ≠ y ∧ tm ≠ y) (ha : ah.length ≤ 8) (hl : us.length ≤ 100) :
    Calls Tryz.prog 145 #[.pointer (some ⟨e, 0, none⟩)] w (Gives (fun z => z = te ∨ z = tm ∨ z = y) y w f (eEnd rs ah us a).1 (fun w' f' => En w' f' te tm e (endF (wn rs) (wo rs) us a).2.1 (endF (wn rs) (wo rs) us a).2.2 rs (eEnd rs ah us a).2)) := by
  obtain ⟨⟨m, b, va, g1, g2, g3, g4⟩, g5⟩ := h
  have HT := Lib.hid (MEnd_calls w f tm y m us a _ _ g3 n0.2.1 n0.2.2.1 hk.fw hk.pw hl)
  have H8 := take_outs hk.fw true (us.length + 1) us a
  have Hn := (take_few (wn rs) (wo rs) true (us.length + 1) us a).1
  unfold eEnd
  change Hid (Calls Tryz.prog 151 _ w (Gives _ y w f (endF (wn rs) (wo rs) us a).1 (fun w' f' => Mt w' f' tm m (endF (wn rs) (wo rs) us a).2.1 (endF (wn rs) (wo rs) us a).2.2 (wn rs) (wo rs)))) at HT
  change ∀ x ∈ (endF (wn rs) (wo rs) us a).1, _ at H8
  change (endF (wn rs) (wo rs) us a).1.length ≤ _ at Hn
  generalize endF (wn rs) (wo rs) us a = q at *
  have e0 : w.cell? ⟨e, 0, none⟩ = some (.pointer (some ⟨m, 0, none⟩)) := (blk_cell g1 0).trans rfl
  have HM := Lib.hid (fun w1 f1 us1 a1 x hm => en_mid (w1 := w1) (f1 := f1) (us1 := us1) (a1 := a1) n0.2.1 n0.2.2.2.1 g1 g2 g4 g5 x hm)
  have HN := Lib.hid (show q.1.length ≤ 1000 by omega)
  replace H8 := Lib.hid H8
  clear g1 g2 g3 g4 g5 Hn
  replace n0 := Lib.hid n0
  replace hk := Lib.hid hk
  go_enter Tryz.func145, Tryz.ntmps145
  go_wp2_with (first
    | (go_at_call 151; refine HT.out.mono ?_; rintro en w1 ⟨v1, f1, rfl, x1, t1, m1⟩; have H1 := Lib.hid (HM.out w1 f1 _ _ x1 m1); have HJ := Lib.hid (EJoin_calls w1 f1 te tm y e _ _ rs ah v1 q.1 H1.out t1 hk.out n0.out ha H8.out HN.out); replace x1 := Lib.hid x1; clear t1 m1)
    | (go_at_call 150; refine HJ.out.mono ?_; rintro en w2 ⟨f2, rfl, x2, t2, h2⟩; replace x2 := Lib.hid x2; replace t2 := Lib.hid t2; replace h2 := Lib.hid h2))
  go_ret
  exact ⟨v1, f2, rfl, (x1.out.mono (fun z h => .inr (.inl h))).trans (x2.out.mono (fun z h => h.elim .inl (fun h => .inr (.inr h)))), t2.out, h2.out⟩
theorem Apart_calls (w : World) (f : Nat → Nat) (te tm e : Nat) (us : List Int) (a : Int) (rs : List S150) (ah : List Int) (h : En w f te tm e us a rs ah) (n1 : te ≠ 0) (n4 : tm ≠ te) :
    Calls Tryz.prog 148 #[.pointer (some ⟨e, 0, none⟩)] w (fun en w' => en = .returned (.tuple #[]) ∧ Ext (fun z => z = te) w w' f f ∧ En w' f te tm e us a rs []) := by
  obtain ⟨⟨m, b, va, g1, g2, g3, g4⟩, g5⟩ := h
  obtain ⟨Aa, ca, rfl⟩ := Kd.R_slice g2
  have e2 : w.cell? ⟨e, 2, none⟩ = some (.slice Aa ah.length ca) := (blk_cell g1 2).trans rfl
  have f2 := blk_frozen g1 2
  have P := Lib.hid (En.put (v2 := .slice none 0 0) (ah2 := []) n1 n4 g1 (Kd.R_nil _ _ _ _ _) g3 g4 g5)
  clear g1 g2 g3 g4 g5
  go_enter Tryz.func148, Tryz.ntmps148
  go_wp2
  go_end0
  exact ⟨rfl, P.out.2, P.out.1⟩
end Go.Proofs.YtnfjgopcenpblaaGreatDoor.T
