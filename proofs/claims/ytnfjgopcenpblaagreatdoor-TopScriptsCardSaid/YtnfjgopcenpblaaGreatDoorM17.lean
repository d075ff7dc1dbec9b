/- Texts of this claim, one behind the other (merged by a program): TY5. No condition of their own. -/
import Derived.Test.YtnfjgopcenpblaaGreatDoorM16
/- The walk of TopScripts. No condition beyond the ranges. -/
namespace Go.Proofs.YtnfjgopcenpblaaGreatDoor.T
open Go.RowKit Go.Proofs.YtnfjgopcenpblaaGreatDoorW.PrintWords Go.Proofs.YtnfjgopcenpblaaGreatDoorW.PrintLast Go.Proofs.YtnfjgopcenpblaaGreatDoorW.PrintMore Go.Proofs.YtnfjgopcenpblaaGreatDoor
set_option linter.unusedVariables false
set_option linter.unusedSimpArgs false
theorem R_any {α : Type} {d : Kd α} {e base : Nat} {w : World} {ok : Nat → Prop} {v : Value} {xs : List α} (h : d.R e w base ok v xs) : ∃ A c, v = .slice A xs.length c ∧ xs.length ≤ c ∧ d.C w A xs.length xs := Kd.R_reads h
/-- what the law sees of the two conversions, y read back -/
structure Nice (x : List Int) (q : List Int × Stp) (y : List Int) : Prop where
  scan : scn (q.2.2.2 == 0) q.1 66
  last : ∀ l, q.1.getLast? = some l → l ≠ 239
  whole : q.2.2.2 = 0 → y = x
  pre : y <+: x
  side : q.2.2.2 ≠ 0 → q.2.1 = 2
  back : ∀ W A c, (Kd.int .u8).C W A q.1.length q.1 → Calls Tryz.prog 8 #[.string nmI, .string nmU, .int .i64 0, .slice A q.1.length c] W (AllP W (y, st0))
theorem flat_pre {a b : List Int} (h : a <+: b) : a.flatMap encS <+: b.flatMap encS := by
  obtain ⟨t, rfl⟩ := h
  rw [List.flatMap_append]
  exact List.prefix_append _ _
theorem nice_all {S : List Int} (hS : ∀ u ∈ S, scalB u = true) (hl : S.length ≤ 1000) (W : World) (A : Option Addr) (c : Nat) (hC : (Kd.int .u8).C W A (S.flatMap encS).length (S.flatMap encS)) :
    ∃ b sd fa er y, Nice (S.flatMap encS) (b, sd, fa, er) y ∧ Calls Tryz.prog 8 #[.string nmU, .string nmI, .int .i64 0, .slice A (S.flatMap encS).length c] W (AllP W (b, sd, fa, er)) := by
  obtain ⟨q, hq, hcall⟩ := utf_to_isc irR_isc irR_tab W A c S hS hl hC
  obtain ⟨R, T⟩ := ui_two hS hq
  refine ⟨q.1, q.2.1, q.2.2.1, q.2.2.2, (meanRow 0 (R.flatMap (·.f1))).1.flatMap encS, ⟨T.scan, T.last, fun e => by rw [T.whole e], ?_, T.side, fun W' A' c' h' => ?_⟩, hcall⟩
  · refine flat_pre ?_
    have := mean_pre T.pre 0
    rwa [mean_unU S 0 (by omega) hS] at this
  · have h2 := isc_to_utf irR_isc irR_tab W' A' c' S hS hl R T.mem T.ap T.pre
    rw [← T.out] at h2
    exact h2 h'
set_option maxRecDepth 100000 in
set_option maxHeartbeats 1600000 in
theorem TopScripts_calls (w : World) (A : Option Addr) (c : Nat) (l : List Int) (hC : (Kd.int .u8).C w A l.length l) (hc : l.length ≤ c) (hB : Bytes l) :
    Calls Tryz.prog 3 #[.slice A l.length c] w fun e w' => e = .returned (.bool true) ∧ Below w.heap.size w w' := by
  have hS : ∀ u ∈ (l.take 60).map sc1, scalB u = true := fun u hu => by
    obtain ⟨n, hn, rfl⟩ := List.mem_map.1 hu
    have := hB n (List.mem_of_mem_take hn)
    exact sc1_scal this.1 this.2
  have hSl : ((l.take 60).map sc1).length ≤ 60 := by rw [List.length_map, List.length_take]; omega
  have H7 : ∀ W, (Kd.int .u8).C W A l.length l → Calls Tryz.prog 7 #[.slice A l.length c] W fun e w' => ∃ u, e = .returned u ∧ MadeI W w' u ((l.take 60).map sc1) := fun W h => Scalars_calls W A c l h hc hB
  generalize (l.take 60).map sc1 = S at *
  have H6 : ∀ (W : World) (A2 : Option Addr) (c2 : Nat), S.length ≤ c2 → (Kd.int .i64).C W A2 S.length S → Calls Tryz.prog 6 #[.slice A2 S.length c2] W fun e w' => ∃ v0_ : Value, e = .returned v0_ ∧ Kd.R (Kd.int .u8) 5 w' W.heap.size (fun _ => True) v0_ (S.flatMap encS) ∧ Below W.heap.size W w' := fun W A2 c2 h1 h2 => utf_Bytes.calls (S.length + 4) A2 c2 S _ W h2 h1 (bytes_is hS (Nat.le_trans hSl (by decide)))
  have H8 := fun W A c h => nice_all hS (Nat.le_trans hSl (by decide)) W A c h
  generalize S.flatMap encS = x at *
  replace H6 := Lib.hid H6
  replace H8 := Lib.hid H8
  generalize hln : l.length = ln at *
  replace hC := Lib.hid hC
  replace hS := Lib.hid hS
  replace hSl := Lib.hid hSl
  replace H7 := Lib.hid H7
  have HA := Lib.hid Awake_calls
  clear hc hB hln
  go_enter Tryz.func3, Tryz.ntmps3
  go_wp2_with (first
    | (go_at_call 5; refine (HA.out w).mono ?_; rintro e w1 ⟨rfl, hb1⟩; have HB1 := Lib.hid hb1; clear hb1 HA)
    | (go_at_call 7; refine (H7.out w1 (Kd.C_below hC.out HB1.out)).mono ?_; rintro e w2 ⟨u2, rfl, hb2, hR2⟩; obtain ⟨A2, c2, rfl, hc2, hC2⟩ := R_any hR2; have HB2 := Lib.hid (below_step HB1.out hb2); replace hC2 := Lib.hid hC2; replace hc2 := Lib.hid hc2; clear hb2 hR2 H7 hC HB1)
    | (go_at_call 6; refine (H6.out w2 A2 c2 hc2.out hC2.out).mono ?_; rintro e w3 ⟨u3, rfl, hR3, hb3⟩; obtain ⟨A3, c3, rfl, hc3, hC3⟩ := R_any hR3; have HB3 := Lib.hid (below_step HB2.out hb3); replace hC3 := Lib.hid hC3; replace hc3 := Lib.hid hc3; clear hb3 hR3 hC2 hc2 HB2 H6)
    | (go_at_call 8; obtain ⟨b, sd, fa, er, y, hN, hcall⟩ := H8.out w3 A3 c3 hC3.out; refine hcall.mono ?_; clear hcall; rintro e w4 ⟨v4, rfl, hb4, hR4⟩; obtain ⟨A4, c4, rfl, hc4, hC4⟩ := R_any hR4; have HB4 := Lib.hid (below_step HB3.out hb4); replace hC3 := Lib.hid (Kd.C_below hC3.out hb4); replace hC4 := Lib.hid hC4; replace hc4 := Lib.hid hc4; clear hb4 hR4 HB3; replace hN := Lib.hid hN; clear H8; dsimp only at hc4 hC4 ⊢)
    | ((with_reducible refine gate_store (t := 30) (p := 5) rfl ?_); refine store_ft rfl (.tmp 5) (.tmp 21) rfl rfl sd fa er rfl rfl info30 ?_; intro w5 hb5 F5; have HB5 := Lib.hid (below_step HB4.out hb5.out); replace hC3 := Lib.hid (Kd.C_below hC3.out hb5.out); replace hC4 := Lib.hid (Kd.C_below hC4.out hb5.out); clear hb5 HB4; generalize w4.heap.size = g5 at F5 ⊢)
    | (go_at_call 8; refine (hN.out.back w5 A4 c4 hC4.out).mono ?_; rintro e w6 ⟨v6, rfl, hb6, hR6⟩; obtain ⟨A6, c6, rfl, hc6, hC6⟩ := R_any hR6; have HB6 := Lib.hid (below_step HB5.out hb6); replace hC3 := Lib.hid (Kd.C_below hC3.out hb6); replace hC4 := Lib.hid (Kd.C_below hC4.out hb6); replace hC6 := Lib.hid hC6; replace F5 := Lib.hid (F5.out.step hb6); clear hb6 hR6 HB5 hc6; dsimp only at hC6 ⊢)
    | ((with_reducible refine gate_store (t := 30) (p := 8) rfl ?_); refine store_ft rfl (.tmp 8) (.tmp 27) rfl rfl 0 0 0 rfl rfl info30 ?_; intro w7 hb7 F8; have HB7 := Lib.hid (below_step HB6.out hb7.out); replace hC3 := Lib.hid (Kd.C_below hC3.out hb7.out); replace hC4 := Lib.hid (Kd.C_below hC4.out hb7.out); replace hC6 := Lib.hid (Kd.C_below hC6.out hb7.out); replace F5 := Lib.hid (F5.out.step hb7.out); clear hb7 HB6; generalize w6.heap.size = g8 at F8 ⊢))
  have z50 : w7.cell? ⟨g5, 0, none⟩ = some (.int .i64 sd) := (blk_cell F5.out 0).trans rfl
  have z52 : w7.cell? ⟨g5, 2, none⟩ = some (.int .i64 er) := (blk_cell F5.out 2).trans rfl
  have z82 : w7.cell? ⟨g8, 2, none⟩ = some (.int .i64 0) := (blk_cell F8.out 2).trans rfl
  have cx : ∀ n, (convert 22 9 (.slice A3 x.length c3)).run Tryz.prog (w7.drewN n) = .ok (.string (strOfNums x)) (w7.drewN n) := fun n => Kd.C_string Tryz.underlying22 Tryz.underlying5 Tryz.underlying9 (Kd.C_below hC3.out (pw_below_drewN (Below.refl _ _) n))
  have cy : ∀ n, (convert 22 9 (.slice A6 y.length c6)).run Tryz.prog (w7.drewN n) = .ok (.string (strOfNums y)) (w7.drewN n) := fun n => Kd.C_string Tryz.underlying22 Tryz.underlying5 Tryz.underlying9 (Kd.C_below hC6.out (pw_below_drewN (Below.refl _ _) n))
  obtain ⟨hpl, hpe⟩ := (show y.length ≤ x.length ∧ x.take y.length = y from ⟨hN.out.pre.length_le, (List.prefix_iff_eq_take.1 hN.out.pre).symm⟩)
  obtain ⟨i05, hi05, hsz5⟩ := Option.map_eq_some_iff.1 info5
  obtain ⟨hcut, -, -⟩ := print_take_of (P := Tryz.prog) (Value.int .u8) 0 22 5 .i64 Tryz.underlying22 hi05 (by simp only [Prod.mk.injEq] at hsz5; exact hsz5.2.1) A3 c3 x ((y.length : Nat) : Int) (by omega) (by omega) hc3.out
  rw [Int.toNat_natCast, hpe] at hcut
  have cxy : ∀ n, (convert 22 9 (.slice A3 y.length c3)).run Tryz.prog (w7.drewN n) = .ok (.string (strOfNums y)) (w7.drewN n) := fun n => by
    have h1 : (Kd.int .u8).C w7 A3 y.length y := by
      have h0 := hC3.out
      refine ⟨rfl, by have := h0.2.1; omega, fun h => ?_⟩
      obtain ⟨ad, e, hh⟩ := h0.2.2 (by omega)
      refine ⟨ad, e, fun j p hj => hh j p ?_⟩
      rw [← hpe, List.getElem?_take] at hj
      split at hj
      · exact hj
      · exact absurd hj (by simp)
    exact Kd.C_string Tryz.underlying22 Tryz.underlying5 Tryz.underlying9 (Kd.C_below h1 (pw_below_drewN (Below.refl _ _) n))
  have hlx : 0 ≤ (y.length : Int) ∧ (y.length : Int) ≤ (x.length : Int) := ⟨by omega, by omega⟩
  clear hi05 hsz5 hpe hpl F5 F8 hC3 hC6
  by_cases he : er = 0
  · have hyx : y = x := hN.out.whole he
    subst he
    subst hyx
    go_quiet (fail)
    have hd := pw_below_drewN (Below.refl w7.heap.size w7) nq
    have HB8 := Lib.hid (below_step HB7.out hd)
    have hC8 := Lib.hid (Kd.C_below hC4.out hd)
    have z58 : (w7.drewN nq).cell? ⟨g5, 2, none⟩ = some (.int .i64 0) := z52
    have hsc := Lib.hid (show scn true (b.drop 0) 66 from hN.out.scan)
    have hla := Lib.hid hN.out.last
    clear hd z50 z52 z82 cx cy cxy hcut hlx hN HB7 hC4 hc3
    generalize w7.drewN nq = w8 at *
    go_wp2
    go_loopg [10, 11] (b.length + 1) (fun kq u v w' => ∃ (i : Nat) (la : Int), u = .int .u8 la ∧ v = .int .i64 i ∧ w8 = w' ∧ Hid (scn true (b.drop i) la ∧ i ≤ b.length - 1 ∧ b.length + 1 = kq + i))
    case atStart => exact ⟨0, 66, rfl, rfl, rfl, Lib.hid ⟨hsc.out, by omega, by omega⟩⟩
    case round =>
      clear hsc
      obtain ⟨i, la, rfl, rfl, rfl, H⟩ := hrel
      obtain ⟨i2, i0, i1⟩ := H.out
      clear H
      have hbl : b.length ≤ 9223372036854775807 := hC8.out.2.1
      cases gk with
      | zero => exact absurd i1 (by omega)
      | succ gk =>
        by_cases hi : i + 1 < b.length
        · obtain ⟨ad, rfl, hx⟩ := (Kd.reads_of_C (d := (0 : Int)) (enc := Value.int .u8) (h1 := fun _ => rfl) hC8.out).2.2 (by omega)
          have x0 := hx i (by omega)
          have x1 := hx (i + 1) hi
          have g0 : b.getD i 0 = b[i] := by rw [List.getD_eq_getElem?_getD, List.getElem?_eq_getElem]; rfl
          have g1 : b.getD (i + 1) 0 = b[i + 1] := by rw [List.getD_eq_getElem?_getD, List.getElem?_eq_getElem hi]; rfl
          rw [g0] at x0
          rw [g1] at x1
          have x1' : w8.cell? ⟨ad.block, ad.off + (i + 1), none⟩ = some (.int .u8 b[i + 1]) := by simpa [Addr.add] using x1
          clear x1
          rw [List.drop_eq_getElem_cons (by omega : i < b.length), List.drop_eq_getElem_cons hi] at i2
          obtain ⟨j1, j2⟩ := i2
          rw [← List.drop_eq_getElem_cons hi] at j2
          have j3 : b.drop (i + 1 + 1) ≠ [] → i + 2 < b.length := fun h => by
            rcases Nat.lt_or_ge (i + 2) b.length with h' | h'
            · exact h'
            · exact absurd (List.drop_eq_nil_of_le (by omega)) h
          generalize b[i] = a at *
          generalize b[i + 1] = cc at *
          have hw : wrap64 ((i : Int) + 1) = (i : Int) + 1 := by unfold wrap64; omega
          have hw2 : wrap64 ((i : Int) + 2) = (i : Int) + 2 := by unfold wrap64; omega
          have p0 : (0 ≤ (i : Int)) = True := eq_true (by omega)
          have p1 : ((i : Int) < (b.length : Int)) = True := eq_true (by omega)
          have p2 : (0 ≤ (i : Int) + 1) = True := eq_true (by omega)
          have p3 : ((i : Int) + 1 < (b.length : Int)) = True := eq_true (by omega)
          have p4 : ((i : Int) + 1).toNat = i + 1 := by omega
          have di : decide ((i : Int) + 1 < (b.length : Int)) = true := decide_eq_true (by omega)
          replace i1 := Lib.hid (And.intro i1 hi)
          replace hbl := Lib.hid hbl
          replace j2 := Lib.hid j2
          clear hx g0 g1 i0 hi
          by_cases ha : a = 239
          · obtain ⟨k1, k2⟩ := j1 ha
            have da : (a == 239) = true := by rw [ha]; rfl
            have dc : (cc == la) = false := beq_false_of_ne k1
            have dd : decide ((b.length : Int) ≤ (i : Int) + 2) = false := decide_eq_false (by have := j3 (k2 rfl); omega)
            rw [if_pos ha] at j2
            clear j1 j3 k1 k2
            replace ha := Lib.hid ha
            go_wp2
            go_roundg gk
            case measure => omega
            case rel => exact ⟨i + 1, cc, rfl, congrArg (Value.int .i64) hw, rfl, Lib.hid ⟨j2.out, by have := i1.out; omega, by have := i1.out; omega⟩⟩
          · have da : (a == 239) = false := beq_false_of_ne ha
            rw [if_neg ha] at j2
            clear j1 j3
            replace ha := Lib.hid ha
            go_wp2
            go_roundg gk
            case measure => omega
            case rel => exact ⟨i + 1, la, rfl, congrArg (Value.int .i64) hw, rfl, Lib.hid ⟨j2.out, by have := i1.out; omega, by have := i1.out; omega⟩⟩
        · have di : decide ((i : Int) + 1 < (b.length : Int)) = false := decide_eq_false (by omega)
          have hw : wrap64 ((i : Int) + 1) = (i : Int) + 1 := by unfold wrap64; omega
          clear i2 i1
          by_cases hz : b.length = 0
          · have e1 : (b.length : Int) = 0 := by omega
            have e2 : ((b.length : Int) == 0) = true := by rw [e1]; rfl
            clear hz hi i0 e1
            go_wp2
            go_ret
            exact ⟨rfl, HB8.out⟩
          · obtain ⟨ad, rfl, hx⟩ := (Kd.reads_of_C (d := (0 : Int)) (enc := Value.int .u8) (h1 := fun _ => rfl) hC8.out).2.2 (by omega)
            have x0 := hx (b.length - 1) (by omega)
            have g0 : b.getD (b.length - 1) 0 = b[b.length - 1]'(by omega) := by rw [List.getD_eq_getElem?_getD, List.getElem?_eq_getElem]; rfl
            rw [g0] at x0
            have hl9 := hla.out _ (by rw [List.getLast?_eq_getElem?, List.getElem?_eq_getElem (by omega : b.length - 1 < b.length)])
            generalize b[b.length - 1] = a at *
            have e2 : ((b.length : Int) == 0) = false := beq_false_of_ne (by omega)
            have e3 : wrap64 ((b.length : Int) - 1) = (b.length : Int) - 1 := by unfold wrap64; omega
            have p0 : (0 ≤ (b.length : Int) - 1) = True := eq_true (by omega)
            have p1 : ((b.length : Int) - 1 < (b.length : Int)) = True := eq_true (by omega)
            have p4 : ((b.length : Int) - 1).toNat = b.length - 1 := by omega
            have da : (a != 239) = true := by simpa using hl9
            have p5 : (1 ≤ (b.length : Int)) = True := eq_true (by omega)
            clear hx g0 hz hi i0 hl9
            go_wp2
            go_ret
            exact ⟨rfl, HB8.out⟩
  · have hsd : sd = 2 := hN.out.side he
    subst hsd
    have he1 : (er == 0) = false := beq_false_of_ne he
    go_quiet (fail)
    replace he1 := he1
    have hd := pw_below_drewN (Below.refl w7.heap.size w7) nq
    have HB8 := Lib.hid (below_step HB7.out hd)
    have hC8 := Lib.hid (Kd.C_below hC4.out hd)
    have z58 : (w7.drewN nq).cell? ⟨g5, 2, none⟩ = some (.int .i64 er) := z52
    have hsc := Lib.hid (show scn false (b.drop 0) 66 from he1 ▸ hN.out.scan)
    have hla := Lib.hid hN.out.last
    clear hd z50 z52 z82 cx cy cxy hcut hlx hN HB7 hC4 hc3
    generalize w7.drewN nq = w8 at *
    go_wp2
    go_loopg [10, 11] (b.length + 1) (fun kq u v w' => ∃ (i : Nat) (la : Int), u = .int .u8 la ∧ v = .int .i64 i ∧ w8 = w' ∧ Hid (scn false (b.drop i) la ∧ i ≤ b.length - 1 ∧ b.length + 1 = kq + i))
    case atStart => exact ⟨0, 66, rfl, rfl, rfl, Lib.hid ⟨hsc.out, by omega, by omega⟩⟩
    case round =>
      clear hsc
      obtain ⟨i, la, rfl, rfl, rfl, H⟩ := hrel
      obtain ⟨i2, i0, i1⟩ := H.out
      clear H
      have hbl : b.length ≤ 9223372036854775807 := hC8.out.2.1
      cases gk with
      | zero => exact absurd i1 (by omega)
      | succ gk =>
        by_cases hi : i + 1 < b.length
        · obtain ⟨ad, rfl, hx⟩ := (Kd.reads_of_C (d := (0 : Int)) (enc := Value.int .u8) (h1 := fun _ => rfl) hC8.out).2.2 (by omega)
          have x0 := hx i (by omega)
          have x1 := hx (i + 1) hi
          have g0 : b.getD i 0 = b[i] := by rw [List.getD_eq_getElem?_getD, List.getElem?_eq_getElem]; rfl
          have g1 : b.getD (i + 1) 0 = b[i + 1] := by rw [List.getD_eq_getElem?_getD, List.getElem?_eq_getElem hi]; rfl
          rw [g0] at x0
          rw [g1] at x1
          have x1' : w8.cell? ⟨ad.block, ad.off + (i + 1), none⟩ = some (.int .u8 b[i + 1]) := by simpa [Addr.add] using x1
          clear x1
          rw [List.drop_eq_getElem_cons (by omega : i < b.length), List.drop_eq_getElem_cons hi] at i2
          obtain ⟨j1, j2⟩ := i2
          rw [← List.drop_eq_getElem_cons hi] at j2
          have j3 : b.drop (i + 1 + 1) ≠ [] → i + 2 < b.length := fun h => by
            rcases Nat.lt_or_ge (i + 2) b.length with h' | h'
            · exact h'
            · exact absurd (List.drop_eq_nil_of_le (by omega)) h
          generalize b[i] = a at *
          generalize b[i + 1] = cc at *
          have hw : wrap64 ((i : Int) + 1) = (i : Int) + 1 := by unfold wrap64; omega
          have hw2 : wrap64 ((i : Int) + 2) = (i : Int) + 2 := by unfold wrap64; omega
          have p0 : (0 ≤ (i : Int)) = True := eq_true (by omega)
          have p1 : ((i : Int) < (b.length : Int)) = True := eq_true (by omega)
          have p2 : (0 ≤ (i : Int) + 1) = True := eq_true (by omega)
          have p3 : ((i : Int) + 1 < (b.length : Int)) = True := eq_true (by omega)
          have p4 : ((i : Int) + 1).toNat = i + 1 := by omega
          have di : decide ((i : Int) + 1 < (b.length : Int)) = true := decide_eq_true (by omega)
          replace i1 := Lib.hid (And.intro i1 hi)
          replace hbl := Lib.hid hbl
          replace j2 := Lib.hid j2
          clear hx g0 g1 i0 hi
          by_cases ha : a = 239
          · obtain ⟨k1, k2⟩ := j1 ha
            have da : (a == 239) = true := by rw [ha]; rfl
            have dc : (cc == la) = false := beq_false_of_ne k1
            rw [if_pos ha] at j2
            clear j1 j3 k1 k2
            replace ha := Lib.hid ha
            go_wp2
            go_roundg gk
            case measure => omega
            case rel => exact ⟨i + 1, cc, rfl, congrArg (Value.int .i64) hw, rfl, Lib.hid ⟨j2.out, by have := i1.out; omega, by have := i1.out; omega⟩⟩
          · have da : (a == 239) = false := beq_false_of_ne ha
            rw [if_neg ha] at j2
            clear j1 j3
            replace ha := Lib.hid ha
            go_wp2
            go_roundg gk
            case measure => omega
            case rel => exact ⟨i + 1, la, rfl, congrArg (Value.int .i64) hw, rfl, Lib.hid ⟨j2.out, by have := i1.out; omega, by have := i1.out; omega⟩⟩
        · have di : decide ((i : Int) + 1 < (b.length : Int)) = false := decide_eq_false (by omega)
          have hw : wrap64 ((i : Int) + 1) = (i : Int) + 1 := by unfold wrap64; omega
          clear i2 i1
          by_cases hz : b.length = 0
          · have e1 : (b.length : Int) = 0 := by omega
            have e2 : ((b.length : Int) == 0) = true := by rw [e1]; rfl
            clear hz hi i0 e1
            go_wp2
            go_ret
            exact ⟨rfl, HB8.out⟩
          · obtain ⟨ad, rfl, hx⟩ := (Kd.reads_of_C (d := (0 : Int)) (enc := Value.int .u8) (h1 := fun _ => rfl) hC8.out).2.2 (by omega)
            have x0 := hx (b.length - 1) (by omega)
            have g0 : b.getD (b.length - 1) 0 = b[b.length - 1]'(by omega) := by rw [List.getD_eq_getElem?_getD, List.getElem?_eq_getElem]; rfl
            rw [g0] at x0
            have hl9 := hla.out _ (by rw [List.getLast?_eq_getElem?, List.getElem?_eq_getElem (by omega : b.length - 1 < b.length)])
            generalize b[b.length - 1] = a at *
            have e2 : ((b.length : Int) == 0) = false := beq_false_of_ne (by omega)
            have e3 : wrap64 ((b.length : Int) - 1) = (b.length : Int) - 1 := by unfold wrap64; omega
            have p0 : (0 ≤ (b.length : Int) - 1) = True := eq_true (by omega)
            have p1 : ((b.length : Int) - 1 < (b.length : Int)) = True := eq_true (by omega)
            have p4 : ((b.length : Int) - 1).toNat = b.length - 1 := by omega
            have da : (a != 239) = true := by simpa using hl9
            have p5 : (1 ≤ (b.length : Int)) = True := eq_true (by omega)
            clear hx g0 hz hi i0 hl9
            go_wp2
            go_ret
            exact ⟨rfl, HB8.out⟩
end Go.Proofs.YtnfjgopcenpblaaGreatDoor.T
