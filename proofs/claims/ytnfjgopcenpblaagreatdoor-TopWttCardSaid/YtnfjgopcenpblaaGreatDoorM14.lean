/- Texts of this claim, one behind the other (merged by a program): TW6, TX2, TX3, TX4. No condition of their own. -/
import Derived.Test.YtnfjgopcenpblaaGreatDoorM13
/- indic.Rules: iscii's table, walked. No condition beyond the ranges. -/
namespace Go.Proofs.YtnfjgopcenpblaaGreatDoor.T
open Go.RowKit Go.Proofs.YtnfjgopcenpblaaGreatDoorW.PrintWords Go.Proofs.YtnfjgopcenpblaaGreatDoorW.PrintLast Go.Proofs.YtnfjgopcenpblaaGreatDoorW.PrintMore Go.Proofs.YtnfjgopcenpblaaGreatDoor
set_option linter.unusedVariables false
set_option linter.unusedSimpArgs false
theorem snoc_app {α : Type} (a b : List α) (x : α) : a ++ (b ++ [x]) = (a ++ b) ++ [x] := (List.append_assoc a b [x]).symm
set_option maxRecDepth 100000 in
set_option maxHeartbeats 1600000 in
theorem IRules_calls : RulesS 64 #[] irR := by
  intro w
  have HM := Lib.hid (show Made w w (.slice none 0 0) (ascR 0) from ⟨Below.refl _ _, Kd.R_nil _ _ _ _ _⟩)
  go_enter Tryz.func64, Tryz.ntmps64
  go_wp2
  go_loopg [1, 9] 129 (fun kq u v w' => ∃ (i : Nat), v = .int .i64 i ∧ Hid (Made w w' u (ascR i)) ∧ Hid (i ≤ 128 ∧ 129 = kq + i))
  case atStart => exact ⟨0, rfl, HM, Lib.hid ⟨by omega, by omega⟩⟩
  case round =>
    clear HM
    obtain ⟨i, rfl, HM, H⟩ := hrel
    obtain ⟨i0, i1⟩ := H.out
    clear H
    cases gk with
    | zero => exact absurd i1 (by omega)
    | succ gk =>
      by_cases hi : i < 128
      · have di : decide ((i : Int) < 128) = true := decide_eq_true (by omega)
        have hn : (ascR i).length ≤ 1000000 := by rw [ascR_len]; omega
        have hw := Lib.hid (wrap_nat (j := i) (by omega))
        have hv : wrap64 (8192 + (i : Int)) = 8192 + i := by unfold wrap64; omega
        replace i1 := Lib.hid i1
        have HB := Lib.hid (Below.refl wr.heap.size wr)
        clear i0
        go_wp2_with (first
          | ((with_reducible refine gate_dst (N := 14) rfl ?_); refine rlit (wr := wr) [(i : Int)] rfl (N := 14) rfl ?hr HB (by simp) ?_; (case hr => first | (go_simp; done) | (go_simp; rfl)); intro Ag1 cg1 w1 g1 HB1 hbx; clear hbx)
          | ((with_reducible refine gate_dst (N := 17) rfl ?_); refine rlit (wr := wr) [8192 + (i : Int)] rfl (N := 17) rfl ?hr HB1 (by simp) ?_; (case hr => first | (go_simp; done) | (go_simp; rfl)); intro Ag3 cg3 w3 g3 HB3 hbx; replace g1 := Lib.hid (Kd.R_below g1.out hbx.out); clear hbx HB1)
          | ((with_reducible refine gate_builtin (b := .append) (xs := #[.tmp 12, .tmp 19]) rfl ?_); at_builtin; refine rule_app (⟨[(i : Int)], [8192 + (i : Int)]⟩ : S150) (.tmp 12) (.tmp 19) rfl rfl HM HB3 g1 g3 hn rfl rfl ?_; intro u4 w4 HM4; clear HM HB3 g1 g3))
        go_roundg gk
        case measure => omega
        case rel => exact ⟨i + 1, by first | exact congrArg (Value.int .i64) hw.out | rfl, by rw [ascR_succ]; exact HM4, Lib.hid ⟨by omega, by have := i1.out; omega⟩⟩
      · obtain rfl : i = 128 := by omega
        have di : decide (((128 : Nat) : Int) < 128) = false := by decide
        clear i0 i1 hi
        replace HM := Lib.hid (show Made w wr _ (ascR 128 ++ plR 0) by rw [show plR 0 = [] from rfl, List.append_nil]; exact HM.out)
        have hP : (ascR 128).length = 128 := ascR_len 128
        have hfin : irR = ascR 128 ++ plR 90 ++ nkR 14 ++ swR 9 ++ laR := rfl
        generalize ascR 128 = P at HM hP hfin
        go_wp2
        clear di
        go_loopg [1, 3] 91 (fun kq u v w' => ∃ (i : Nat), v = .int .i64 (161 + i) ∧ Hid (Made w w' u (P ++ plR i)) ∧ Hid (i ≤ 90 ∧ 91 = kq + i))
        case atStart => exact ⟨0, rfl, HM, Lib.hid ⟨by omega, by omega⟩⟩
        case round =>
          clear HM
          obtain ⟨i, rfl, HM, H⟩ := hrel
          obtain ⟨i0, i1⟩ := H.out
          clear H
          cases gk with
          | zero => exact absurd i1 (by omega)
          | succ gk =>
            by_cases hi : i < 90
            · have hu : IntKind.u8.wrap (161 + (i : Int)) = 161 + i := by rw [IntKind.wrap_u8]; omega
              have hc := fun W => Lib.hid (Place_calls W (161 + i) (by omega) (by omega))
              have hn : (P ++ plR i).length ≤ 1000000 := by have := plR_len i; rw [List.length_append, hP]; omega
              have hw := Lib.hid (show wrap64 (161 + (i : Int) + 1) = 161 + ((i + 1 : Nat) : Int) by unfold wrap64; omega)
              have di : decide (161 + (i : Int) ≤ 250) = true := decide_eq_true (by omega)
              replace i1 := Lib.hid (And.intro i1 hi)
              have HB := Lib.hid (Below.refl wr.heap.size wr)
              replace hc := Lib.hid hc
              have hyes := Lib.hid (@plR_yes i)
              have hno := Lib.hid (@plR_no i)
              generalize hcc : (161 + (i : Int)) = c at hu hc hw di hyes hno ⊢
              generalize plF c = pf at *
              generalize plB c = pb at *
              replace hP := Lib.hid hP
              replace hfin := Lib.hid hfin
              replace hcc := Lib.hid hcc
              clear i0 hi
              cases pb
              · have ht := hno.out rfl
                clear hyes hno
                have ht := Lib.hid ht
                go_wp2_with (go_at_call 77; refine ((hc.out wr).out).mono ?_; rintro e w2 ⟨rfl, hb⟩; have hb2 := Lib.hid hb; clear hb)
                go_roundg gk
                case measure => omega
                case rel => exact ⟨i + 1, congrArg (Value.int .i64) hw.out, by rw [ht.out]; exact Lib.hid (HM.out.step hb2.out), Lib.hid ⟨by have := i1.out; omega, by have := i1.out; omega⟩⟩
              · have ht := hyes.out rfl
                clear hyes hno
                have ht := Lib.hid ht
                go_wp2_with (first
                  | (go_at_call 77; refine ((hc.out wr).out).mono ?_; rintro e w2 ⟨rfl, hb⟩; have HB2 := Lib.hid hb; clear hb)
                  | ((with_reducible refine gate_dst (N := 35) rfl ?_); refine rlit (wr := wr) [c] rfl (N := 35) rfl ?hr HB2 (by simp) ?_; (case hr => first | (go_simp; done) | (go_simp; rfl)); intro Ag1 cg1 w3 g1 HB3 hbx; clear hbx HB2)
                  | ((with_reducible refine gate_dst (N := 37) rfl ?_); refine rlit (wr := wr) [pf] rfl (N := 37) rfl ?hr HB3 (by simp) ?_; (case hr => first | (go_simp; done) | (go_simp; rfl)); intro Ag3 cg3 w4 g3 HB4 hbx; replace g1 := Lib.hid (Kd.R_below g1.out hbx.out); clear hbx HB3)
                  | ((with_reducible refine gate_builtin (b := .append) (xs := #[.tmp 33, .tmp 39]) rfl ?_); at_builtin; refine rule_app (⟨[c], [pf]⟩ : S150) (.tmp 33) (.tmp 39) rfl rfl HM HB4 g1 g3 hn rfl rfl ?_; intro u4 w5 HM4; clear HM HB4 g1 g3))
                go_roundg gk
                case measure => omega
                case rel => exact ⟨i + 1, congrArg (Value.int .i64) hw.out, by rw [ht.out, snoc_app]; exact HM4, Lib.hid ⟨by have := i1.out; omega, by have := i1.out; omega⟩⟩
            · obtain rfl : i = 90 := by omega
              have di : decide (161 + ((90 : Nat) : Int) ≤ 250) = false := by decide
              clear i0 i1 hi
              replace HM := Lib.hid (show Made w wr _ (P ++ plR 90 ++ nkR 0) by rw [show nkR 0 = [] by unfold nkR; rfl, List.append_nil]; exact HM.out)
              have hP2 : (P ++ plR 90).length ≤ 218 := by have := plR_len 90; rw [List.length_append, hP]; omega
              generalize P ++ plR 90 = P2 at HM hP2 hfin
              clear hP
              go_wp2_with (go_at_call 78; refine (Nukta_calls wr).mono ?_; rintro e w2 ⟨rfl, e2⟩; have hblk := Lib.hid (show w2.heap[wr.heap.size]? = some (Obj.cells nkArr 166 (0, 0)) by rw [← e2]; exact blk_new _ _); have hb2 := Lib.hid (show Below wr.heap.size wr w2 by rw [← e2]; exact below_alloc (Below.refl _ _) _); clear e2)
              clear di
              replace HM := Lib.hid (HM.out.step hb2.out)
              clear hb2
              generalize wr.heap.size = nb at hblk ⊢
              go_loopg [1, 43] 15 (fun kq u v w' => ∃ (i : Nat), v = .int .i64 i ∧ Hid (Made w w' u (P2 ++ nkR i)) ∧ Hid (w'.heap[nb]? = some (Obj.cells nkArr 166 (0, 0))) ∧ Hid (i ≤ 14 ∧ 15 = kq + i))
              case atStart => exact ⟨0, rfl, HM, hblk, Lib.hid ⟨by omega, by omega⟩⟩
              case round =>
                clear HM hblk
                obtain ⟨i, rfl, HM, hblk, H⟩ := hrel
                obtain ⟨i0, i1⟩ := H.out
                clear H
                cases gk with
                | zero => exact absurd i1 (by omega)
                | succ gk =>
                  by_cases hi : i < 14
                  · have di : decide ((i : Int) < 14) = true := decide_eq_true (by omega)
                    have hlt : (i : Int) < 14 := by omega
                    have hn : (P2 ++ nkR i).length ≤ 1000000 := by have := nkR_len i; rw [List.length_append]; omega
                    have hw := Lib.hid (wrap_nat (j := i) (by omega))
                    obtain ⟨n0, n1⟩ := nk_get i hi
                    have y0 : wr.cell? ⟨nb, i * 2, none⟩ = some (.int .i64 (nk0 i)) := (blk_cell hblk.out _).trans n0
                    have y1 : wr.cell? ⟨nb, i * 2 + 1, none⟩ = some (.int .i64 (nk1 i)) := (blk_cell hblk.out _).trans n1
                    have ht := Lib.hid (nkR_succ i hi)
                    replace i1 := Lib.hid (And.intro i1 hi)
                    replace hP2 := Lib.hid hP2
                    replace hfin := Lib.hid hfin
                    clear i0 hi n0 n1
                    generalize nk0 i = a at *
                    generalize nk1 i = b at *
                    go_wp2_with (first
                      | ((with_reducible refine gate_dst (N := 7) rfl ?_); refine box_event ?hg (N := 7) ?hd (cs := #[.int .i64 0, .int .i64 0]) (t := 166) ?hr ?_; (case hd => rfl); (case hg => rfl); (case hr => first | (go_simp; done) | (go_simp; rfl)); intro gb hg w6 hbox hb; have hcz0 : w6.cell? ⟨gb, 0, none⟩ = some (.int .i64 0) := (blk_cell hbox 0).trans rfl; have hcz1 : w6.cell? ⟨gb, 1, none⟩ = some (.int .i64 0) := (blk_cell hbox 1).trans rfl; have hfz0 := blk_frozen hbox 0; have hfz1 := blk_frozen hbox 1; replace hbox := Lib.hid hbox; replace hb := Lib.hid hb; replace hg := Lib.hid hg)
                      | ((with_reducible refine gate_store (t := 166) (p := 7) rfl ?_); refine store_event (t := 166) (p := 7) (v := ?vo) (w1 := (w6.setCell ⟨gb, 0, none⟩ (.int .i64 a)).setCell ⟨gb, 1, none⟩ (.int .i64 b)) ?hg ?ho ?hn ?hr ?_; (case ho => rfl); (case hg => rfl); (case hn => rfl); (case hr => first | (go_simp; done) | (go_simp; rfl)); intro w7 hw7; obtain ⟨BK, HB7, z0, z1⟩ := copy2 hg.out hbox.out hb.out hw7; clear hw7 hcz0 hcz1 hfz0 hfz1 hbox hb hg y0 y1; replace HB7 := Lib.hid HB7; replace BK := Lib.hid BK)
                      | ((with_reducible refine gate_dst (N := 50) rfl ?_); refine rlit (wr := wr) [a, 233] rfl (N := 50) rfl ?hr HB7 (by simp) ?_; (case hr => first | (go_simp; done) | (go_simp; rfl)); intro Ag1 cg1 w3 g1 HB3 hbx; clear z0 z1; have z1 : w3.cell? ⟨gb, 1, none⟩ = some (.int .i64 b) := (blk_cell (blk_below BK.out hbx.out) 1).trans rfl; clear BK hbx HB7)
                      | ((with_reducible refine gate_dst (N := 53) rfl ?_); refine rlit (wr := wr) [b] rfl (N := 53) rfl ?hr HB3 (by simp) ?_; (case hr => first | (go_simp; done) | (go_simp; rfl)); intro Ag3 cg3 w4 g3 HB4 hbx; replace g1 := Lib.hid (Kd.R_below g1.out hbx.out); clear hbx HB3)
                      | ((with_reducible refine gate_builtin (b := .append) (xs := #[.tmp 47, .tmp 55]) rfl ?_); at_builtin; refine rule_appk (⟨[a, 233], [b]⟩ : S150) (.tmp 47) (.tmp 55) rfl rfl HM HB4 g1 g3 hn rfl rfl ?_; intro u4 w5 HM4 hk; clear HM HB4 g1 g3))
                    go_roundg gk
                    case measure => omega
                    case rel => exact ⟨i + 1, by first | exact congrArg (Value.int .i64) hw.out | rfl, by rw [ht.out, snoc_app]; exact HM4, Lib.hid (hk.out _ _ _ hblk.out (by decide)), Lib.hid ⟨by have := i1.out; omega, by have := i1.out; omega⟩⟩
                  · obtain rfl : i = 14 := by omega
                    have di : decide (((14 : Nat) : Int) < 14) = false := by decide
                    clear i0 i1 hi hblk
                    replace HM := Lib.hid (show Made w wr _ (P2 ++ nkR 14 ++ swR 0) by rw [show swR 0 = [] from rfl, List.append_nil]; exact HM.out)
                    have hP3 : (P2 ++ nkR 14).length ≤ 232 := by have := nkR_len 14; rw [List.length_append]; omega
                    generalize P2 ++ nkR 14 = P3 at HM hP3 hfin
                    clear hP2
                    go_wp2
                    clear di
                    go_loopg [1, 58] 10 (fun kq u v w' => ∃ (i : Nat), v = .int .i64 i ∧ Hid (Made w w' u (P3 ++ swR i)) ∧ Hid (i ≤ 9 ∧ 10 = kq + i))
                    case atStart => exact ⟨0, rfl, HM, Lib.hid ⟨by omega, by omega⟩⟩
                    case round =>
                      clear HM
                      obtain ⟨i, rfl, HM, H⟩ := hrel
                      obtain ⟨i0, i1⟩ := H.out
                      clear H
                      cases gk with
                      | zero => exact absurd i1 (by omega)
                      | succ gk =>
                        by_cases hi : i < 9
                        · have di : decide ((i : Int) < 9) = true := decide_eq_true (by omega)
                          have hn : (P3 ++ swR i).length ≤ 1000000 := by rw [List.length_append, swR_len]; omega
                          have hw := Lib.hid (wrap_nat (j := i) (by omega))
                          have hv : wrap64 (4096 + (i : Int)) = 4096 + i := by unfold wrap64; omega
                          have hc := fun W => Lib.hid (code_calls W i hi)
                          replace hc := Lib.hid hc
                          have ht := Lib.hid (swR_succ i)
                          replace i1 := Lib.hid (And.intro i1 hi)
                          have HB := Lib.hid (Below.refl wr.heap.size wr)
                          replace hP3 := Lib.hid hP3
                          replace hfin := Lib.hid hfin
                          clear i0 hi
                          generalize cdT.getD i 0 = v at *
                          go_wp2_with (first
                            | (go_at_call 79; refine ((hc.out wr).out).mono ?_; rintro e w2 ⟨rfl, rfl⟩)
                            | ((with_reducible refine gate_dst (N := 64) rfl ?_); refine rlit (wr := wr) [239, v] rfl (N := 64) rfl ?hr HB (by simp) ?_; (case hr => first | (go_simp; done) | (go_simp; rfl)); intro Ag1 cg1 w3 g1 HB3 hbx; clear hbx)
                            | ((with_reducible refine gate_dst (N := 67) rfl ?_); refine rlit (wr := wr) [4096 + (i : Int)] rfl (N := 67) rfl ?hr HB3 (by simp) ?_; (case hr => first | (go_simp; done) | (go_simp; rfl)); intro Ag3 cg3 w4 g3 HB4 hbx; replace g1 := Lib.hid (Kd.R_below g1.out hbx.out); clear hbx HB3)
                            | ((with_reducible refine gate_builtin (b := .append) (xs := #[.tmp 61, .tmp 69]) rfl ?_); at_builtin; refine rule_app (⟨[239, v], [4096 + (i : Int)]⟩ : S150) (.tmp 61) (.tmp 69) rfl rfl HM HB4 g1 g3 hn rfl rfl ?_; intro u4 w5 HM4; clear HM HB4 g1 g3))
                          go_roundg gk
                          case measure => omega
                          case rel => exact ⟨i + 1, by first | exact congrArg (Value.int .i64) hw.out | rfl, by rw [ht.out, snoc_app]; exact HM4, Lib.hid ⟨by have := i1.out; omega, by have := i1.out; omega⟩⟩
                        · obtain rfl : i = 9 := by omega
                          have di : decide (((9 : Nat) : Int) < 9) = false := by decide
                          clear i0 i1 hi
                          have hP4 : (P3 ++ swR 9).length ≤ 241 := by rw [List.length_append, swR_len]; omega
                          generalize P3 ++ swR 9 = P4 at HM hP4 hfin
                          clear hP3
                          have HB := Lib.hid (Below.refl wr.heap.size wr)
                          replace hfin := Lib.hid hfin
                          replace hP4 := Lib.hid hP4
                          have hn : P4.length ≤ 1000000 := by have := hP4.out; omega
                          go_wp2_with (first
                            | ((with_reducible refine gate_dst (N := 73) rfl ?_); refine rlit (wr := wr) [217] rfl (N := 73) rfl ?hr HB (by simp) ?_; (case hr => first | (go_simp; done) | (go_simp; rfl)); intro Ah1 ch1 v1 h1 HC1 hbx; clear hbx)
                            | ((with_reducible refine gate_dst (N := 74) rfl ?_); refine rlit (wr := wr) [16397] rfl (N := 74) rfl ?hr HC1 (by simp) ?_; (case hr => first | (go_simp; done) | (go_simp; rfl)); intro Ah2 ch2 v2 h2 HC2 hbx; replace h1 := Lib.hid (Kd.R_below h1.out hbx.out); clear hbx HC1)
                            | ((with_reducible refine gate_dst (N := 76) rfl ?_); refine rlit (wr := wr) [234] rfl (N := 76) rfl ?hr HC2 (by simp) ?_; (case hr => first | (go_simp; done) | (go_simp; rfl)); intro Ah3 ch3 v3 h3 HC3 hbx; replace h1 := Lib.hid (Kd.R_below h1.out hbx.out); replace h2 := Lib.hid (Kd.R_below h2.out hbx.out); clear hbx HC2)
                            | ((with_reducible refine gate_dst (N := 77) rfl ?_); refine rlit (wr := wr) [10596] rfl (N := 77) rfl ?hr HC3 (by simp) ?_; (case hr => first | (go_simp; done) | (go_simp; rfl)); intro Ah4 ch4 v4 h4 HC4 hbx; replace h1 := Lib.hid (Kd.R_below h1.out hbx.out); replace h2 := Lib.hid (Kd.R_below h2.out hbx.out); replace h3 := Lib.hid (Kd.R_below h3.out hbx.out); clear hbx HC3)
                            | ((with_reducible refine gate_dst (N := 79) rfl ?_); refine rlit (wr := wr) [234, 233] rfl (N := 79) rfl ?hr HC4 (by simp) ?_; (case hr => first | (go_simp; done) | (go_simp; rfl)); intro Ah5 ch5 v5 h5 HC5 hbx; replace h1 := Lib.hid (Kd.R_below h1.out hbx.out); replace h2 := Lib.hid (Kd.R_below h2.out hbx.out); replace h3 := Lib.hid (Kd.R_below h3.out hbx.out); replace h4 := Lib.hid (Kd.R_below h4.out hbx.out); clear hbx HC4)
                            | ((with_reducible refine gate_dst (N := 80) rfl ?_); refine rlit (wr := wr) [61] rfl (N := 80) rfl ?hr HC5 (by simp) ?_; (case hr => first | (go_simp; done) | (go_simp; rfl)); intro Ah6 ch6 v6 h6 HC6 hbx; replace h1 := Lib.hid (Kd.R_below h1.out hbx.out); replace h2 := Lib.hid (Kd.R_below h2.out hbx.out); replace h3 := Lib.hid (Kd.R_below h3.out hbx.out); replace h4 := Lib.hid (Kd.R_below h4.out hbx.out); replace h5 := Lib.hid (Kd.R_below h5.out hbx.out); clear hbx HC5)
                            | ((with_reducible refine gate_dst (N := 82) rfl ?_); refine rlit (wr := wr) [232, 232] rfl (N := 82) rfl ?hr HC6 (by simp) ?_; (case hr => first | (go_simp; done) | (go_simp; rfl)); intro Ah7 ch7 v7 h7 HC7 hbx; replace h1 := Lib.hid (Kd.R_below h1.out hbx.out); replace h2 := Lib.hid (Kd.R_below h2.out hbx.out); replace h3 := Lib.hid (Kd.R_below h3.out hbx.out); replace h4 := Lib.hid (Kd.R_below h4.out hbx.out); replace h5 := Lib.hid (Kd.R_below h5.out hbx.out); replace h6 := Lib.hid (Kd.R_below h6.out hbx.out); clear hbx HC6)
                            | ((with_reducible refine gate_dst (N := 83) rfl ?_); refine rlit (wr := wr) [77, 16396] rfl (N := 83) rfl ?hr HC7 (by simp) ?_; (case hr => first | (go_simp; done) | (go_simp; rfl)); intro Ah8 ch8 v8 h8 HC8 hbx; replace h1 := Lib.hid (Kd.R_below h1.out hbx.out); replace h2 := Lib.hid (Kd.R_below h2.out hbx.out); replace h3 := Lib.hid (Kd.R_below h3.out hbx.out); replace h4 := Lib.hid (Kd.R_below h4.out hbx.out); replace h5 := Lib.hid (Kd.R_below h5.out hbx.out); replace h6 := Lib.hid (Kd.R_below h6.out hbx.out); replace h7 := Lib.hid (Kd.R_below h7.out hbx.out); clear hbx HC7)
                            | ((with_reducible refine gate_dst (N := 85) rfl ?_); refine rlit (wr := wr) [232, 233] rfl (N := 85) rfl ?hr HC8 (by simp) ?_; (case hr => first | (go_simp; done) | (go_simp; rfl)); intro Ah9 ch9 v9 h9 HC9 hbx; replace h1 := Lib.hid (Kd.R_below h1.out hbx.out); replace h2 := Lib.hid (Kd.R_below h2.out hbx.out); replace h3 := Lib.hid (Kd.R_below h3.out hbx.out); replace h4 := Lib.hid (Kd.R_below h4.out hbx.out); replace h5 := Lib.hid (Kd.R_below h5.out hbx.out); replace h6 := Lib.hid (Kd.R_below h6.out hbx.out); replace h7 := Lib.hid (Kd.R_below h7.out hbx.out); replace h8 := Lib.hid (Kd.R_below h8.out hbx.out); clear hbx HC8)
                            | ((with_reducible refine gate_dst (N := 86) rfl ?_); refine rlit (wr := wr) [77, 16397] rfl (N := 86) rfl ?hr HC9 (by simp) ?_; (case hr => first | (go_simp; done) | (go_simp; rfl)); intro Ah10 ch10 v10 h10 HC10 hbx; replace h1 := Lib.hid (Kd.R_below h1.out hbx.out); replace h2 := Lib.hid (Kd.R_below h2.out hbx.out); replace h3 := Lib.hid (Kd.R_below h3.out hbx.out); replace h4 := Lib.hid (Kd.R_below h4.out hbx.out); replace h5 := Lib.hid (Kd.R_below h5.out hbx.out); replace h6 := Lib.hid (Kd.R_below h6.out hbx.out); replace h7 := Lib.hid (Kd.R_below h7.out hbx.out); replace h8 := Lib.hid (Kd.R_below h8.out hbx.out); replace h9 := Lib.hid (Kd.R_below h9.out hbx.out); clear hbx HC9)
                            | ((with_reducible refine gate_dst (N := 88) rfl ?_); refine rlit (wr := wr) [240, 184] rfl (N := 88) rfl ?hr HC10 (by simp) ?_; (case hr => first | (go_simp; done) | (go_simp; rfl)); intro Ah11 ch11 v11 h11 HC11 hbx; replace h1 := Lib.hid (Kd.R_below h1.out hbx.out); replace h2 := Lib.hid (Kd.R_below h2.out hbx.out); replace h3 := Lib.hid (Kd.R_below h3.out hbx.out); replace h4 := Lib.hid (Kd.R_below h4.out hbx.out); replace h5 := Lib.hid (Kd.R_below h5.out hbx.out); replace h6 := Lib.hid (Kd.R_below h6.out hbx.out); replace h7 := Lib.hid (Kd.R_below h7.out hbx.out); replace h8 := Lib.hid (Kd.R_below h8.out hbx.out); replace h9 := Lib.hid (Kd.R_below h9.out hbx.out); replace h10 := Lib.hid (Kd.R_below h10.out hbx.out); clear hbx HC10)
                            | ((with_reducible refine gate_dst (N := 89) rfl ?_); refine rlit (wr := wr) [82] rfl (N := 89) rfl ?hr HC11 (by simp) ?_; (case hr => first | (go_simp; done) | (go_simp; rfl)); intro Ah12 ch12 v12 h12 HC12 hbx; replace h1 := Lib.hid (Kd.R_below h1.out hbx.out); replace h2 := Lib.hid (Kd.R_below h2.out hbx.out); replace h3 := Lib.hid (Kd.R_below h3.out hbx.out); replace h4 := Lib.hid (Kd.R_below h4.out hbx.out); replace h5 := Lib.hid (Kd.R_below h5.out hbx.out); replace h6 := Lib.hid (Kd.R_below h6.out hbx.out); replace h7 := Lib.hid (Kd.R_below h7.out hbx.out); replace h8 := Lib.hid (Kd.R_below h8.out hbx.out); replace h9 := Lib.hid (Kd.R_below h9.out hbx.out); replace h10 := Lib.hid (Kd.R_below h10.out hbx.out); replace h11 := Lib.hid (Kd.R_below h11.out hbx.out); clear hbx HC11)
                            | ((with_reducible refine gate_dst (N := 91) rfl ?_); refine rlit (wr := wr) [240, 191] rfl (N := 91) rfl ?hr HC12 (by simp) ?_; (case hr => first | (go_simp; done) | (go_simp; rfl)); intro Ah13 ch13 v13 h13 HC13 hbx; replace h1 := Lib.hid (Kd.R_below h1.out hbx.out); replace h2 := Lib.hid (Kd.R_below h2.out hbx.out); replace h3 := Lib.hid (Kd.R_below h3.out hbx.out); replace h4 := Lib.hid (Kd.R_below h4.out hbx.out); replace h5 := Lib.hid (Kd.R_below h5.out hbx.out); replace h6 := Lib.hid (Kd.R_below h6.out hbx.out); replace h7 := Lib.hid (Kd.R_below h7.out hbx.out); replace h8 := Lib.hid (Kd.R_below h8.out hbx.out); replace h9 := Lib.hid (Kd.R_below h9.out hbx.out); replace h10 := Lib.hid (Kd.R_below h10.out hbx.out); replace h11 := Lib.hid (Kd.R_below h11.out hbx.out); replace h12 := Lib.hid (Kd.R_below h12.out hbx.out); clear hbx HC12)
                            | ((with_reducible refine gate_dst (N := 92) rfl ?_); refine rlit (wr := wr) [112] rfl (N := 92) rfl ?hr HC13 (by simp) ?_; (case hr => first | (go_simp; done) | (go_simp; rfl)); intro Ah14 ch14 v14 h14 HC14 hbx; replace h1 := Lib.hid (Kd.R_below h1.out hbx.out); replace h2 := Lib.hid (Kd.R_below h2.out hbx.out); replace h3 := Lib.hid (Kd.R_below h3.out hbx.out); replace h4 := Lib.hid (Kd.R_below h4.out hbx.out); replace h5 := Lib.hid (Kd.R_below h5.out hbx.out); replace h6 := Lib.hid (Kd.R_below h6.out hbx.out); replace h7 := Lib.hid (Kd.R_below h7.out hbx.out); replace h8 := Lib.hid (Kd.R_below h8.out hbx.out); replace h9 := Lib.hid (Kd.R_below h9.out hbx.out); replace h10 := Lib.hid (Kd.R_below h10.out hbx.out); replace h11 := Lib.hid (Kd.R_below h11.out hbx.out); replace h12 := Lib.hid (Kd.R_below h12.out hbx.out); replace h13 := Lib.hid (Kd.R_below h13.out hbx.out); clear hbx HC13)
                            | ((with_reducible refine gate_dst (N := 94) rfl ?_); refine Kd.R_lit k150 (w0 := v14) 0 150 ?hg (N := 94) ?hd (xs := laR) (inner := [.slice Ah1 1 ch1, .slice Ah2 1 ch2, .slice Ah3 1 ch3, .slice Ah4 1 ch4, .slice Ah5 2 ch5, .slice Ah6 1 ch6, .slice Ah7 2 ch7, .slice Ah8 2 ch8, .slice Ah9 2 ch9, .slice Ah10 2 ch10, .slice Ah11 2 ch11, .slice Ah12 1 ch12, .slice Ah13 2 ch13, .slice Ah14 1 ch14]) (ok := fun k => wr.heap.size ≤ k) (okp := fun k => wr.heap.size ≤ k) ?hr ?hp (fun _ hk => hk) HC14.out.size (Below.refl _ _) (Nat.zero_le _) (by decide) ?_; (case hd => rfl); (case hg => rfl); (case hr => first | (go_simp; done) | (go_simp; rfl)); (case hp => exact Reps.c2 (k150_mkM _ _ _ (⟨[217], [16397]⟩ : S150) h1.out h2.out) (Reps.c2 (k150_mkM _ _ _ (⟨[234], [10596]⟩ : S150) h3.out h4.out) (Reps.c2 (k150_mkM _ _ _ (⟨[234, 233], [61]⟩ : S150) h5.out h6.out) (Reps.c2 (k150_mkM _ _ _ (⟨[232, 232], [77, 16396]⟩ : S150) h7.out h8.out) (Reps.c2 (k150_mkM _ _ _ (⟨[232, 233], [77, 16397]⟩ : S150) h9.out h10.out) (Reps.c2 (k150_mkM _ _ _ (⟨[240, 184], [82]⟩ : S150) h11.out h12.out) (Reps.c2 (k150_mkM _ _ _ (⟨[240, 191], [112]⟩ : S150) h13.out h14.out) (Reps.none _ _)))))))); intro v94 v15 hla _ hgr _; obtain ⟨A94, c94, rfl⟩ := Kd.R_slice hla; have HF := Lib.hid (HC14.out.grown hgr HC14.out.size (fun k hk => by cases hk)); replace hla := Lib.hid hla; clear hgr HC14 h1 h2 h3 h4 h5 h6 h7 h8 h9 h10 h11 h12 h13 h14)
                            | ((with_reducible refine gate_builtin (b := .append) (xs := #[.tmp 72, .tmp 94]) rfl ?_); at_builtin; refine rules_app (.tmp 72) (.tmp 94) rfl rfl HM.out HF.out hla.out hn (by decide) rfl rfl ?_; intro uF vF HMF; clear HM HF hla))
                          go_ret
                          obtain ⟨ad, c, rfl, hc, hC, hb⟩ := made_rules HMF.out
                          obtain ⟨x, rfl⟩ := mk_ad hC (by rw [List.length_append]; exact Nat.lt_of_lt_of_le (by decide : 0 < 7) (Nat.le_add_left 7 _))
                          rw [hfin.out]
                          exact ⟨x, c, rfl, hc, hC, hb⟩
end Go.Proofs.YtnfjgopcenpblaaGreatDoor.T

/- Tables of rules that are right; the three tables. Plain; no condition. -/
namespace Go.Proofs.YtnfjgopcenpblaaGreatDoor.T
open Go.RowKit Go.Proofs.YtnfjgopcenpblaaGreatDoor
set_option linter.unusedVariables false
set_option linter.unusedSimpArgs false
def nodB : List (List Int) → Bool
  | [] => true
  | x :: xs => !(xs.any (fun y => y == x)) && nodB xs
theorem nodB_nodup : ∀ {l : List (List Int)}, nodB l = true → l.Nodup
  | [], _ => List.nodup_nil
  | x :: xs, h => by
    rw [nodB, Bool.and_eq_true, Bool.not_eq_true'] at h
    refine List.nodup_cons.2 ⟨fun hm => ?_, nodB_nodup h.2⟩
    have := List.any_eq_false.1 h.1 x hm
    simp at this
def swp (r : S150) : S150 := ⟨r.f1, r.f0⟩
theorem turnGo_map : ∀ (rs out : List S150), (∀ r ∈ rs, r.f1 ∉ out.map (·.f0)) → (rs.map (·.f1)).Nodup → turnGo rs out = out ++ rs.map swp
  | [], out, _, _ => by simp [turnGo]
  | r :: rs, out, h, hd => by
    rw [List.map_cons, List.nodup_cons] at hd
    have h1 : findF out r.f1 = -1 := findGo_none (h r (List.mem_cons_self ..))
    rw [turnGo, if_pos (by rw [h1]; omega), turnGo_map rs _ (fun q hq => ?_) hd.2]
    · simp [swp]
    · rw [List.map_append, List.mem_append]
      rintro (e | e)
      · exact h q (List.mem_cons_of_mem _ hq) e
      · have : q.f1 = r.f1 := by simpa using e
        exact hd.1 (this ▸ List.mem_map_of_mem hq)
theorem findGo_lt {l : List Int} : ∀ (rs : List S150) (i : Nat), findGo l rs i < i + rs.length ∨ findGo l rs i = -1
  | [], _ => .inr rfl
  | r :: rs, i => by
    rw [findGo]
    split
    · left; simp; omega
    · rcases findGo_lt (l := l) rs (i + 1) with h | h
      · left; rw [List.length_cons]; omega
      · exact .inr h
theorem once_of {rs : List S150} (hd : (rs.map (·.f0)).Nodup) (i : Nat) (hi : i < rs.length) : findF (rs.take i) (rd_T150 rs i).f0 = -1 := by
  refine findGo_none (fun hm => ?_)
  have hg : rd_T150 rs i = rs[i] := by unfold rd_T150; rw [Int.toNat_natCast, List.getD_eq_getElem?_getD, List.getElem?_eq_getElem hi]; rfl
  rw [hg] at hm
  obtain ⟨r, hr, he⟩ := List.mem_map.1 hm
  obtain ⟨j, hj, rfl⟩ := List.getElem_of_mem hr
  rw [List.length_take] at hj
  rw [List.getElem_take] at he
  have hp := List.pairwise_iff_getElem.1 hd j i (by rw [List.length_map]; omega) (by rw [List.length_map]; exact hi) (by omega)
  rw [List.getElem_map, List.getElem_map] at hp
  exact hp he
/-- what is to be looked at -/
structure Fine (rs : List S150) : Prop where
  pos : 0 < rs.length
  len : rs.length ≤ 512
  ins : ∀ r ∈ rs, sideF r.f0 = true
  outs : ∀ r ∈ rs, sideF r.f1 = true
  nin : (rs.map (·.f0)).Nodup
  nout : (rs.map (·.f1)).Nodup
  closed : ∀ r ∈ rs, clB rs r.f0 = true
namespace Fine
variable {rs : List S150}
theorem turn (h : Fine rs) : turnF rs = rs.map swp := by
  unfold turnF
  rw [turnGo_map rs [] (by simp) h.nout, List.nil_append]
theorem right (h : Fine rs) : Right rs := ⟨h.len, h.ins, h.outs, once_of h.nin⟩
theorem swap_nin (h : Fine rs) : ((turnF rs).map (·.f0)).Nodup := by rw [h.turn, List.map_map]; exact h.nout
theorem rightT (h : Fine rs) : Right (turnF rs) := by
  refine ⟨by rw [h.turn, List.length_map]; exact h.len, ?_, ?_, once_of h.swap_nin⟩
  · rw [h.turn]; intro r hr
    obtain ⟨q, hq, rfl⟩ := List.mem_map.1 hr
    exact h.outs q hq
  · rw [h.turn]; intro r hr
    obtain ⟨q, hq, rfl⟩ := List.mem_map.1 hr
    exact h.ins q hq
theorem good (h : Fine rs) : Good rs := ⟨h.right, h.rightT, h.closed⟩
end Fine
theorem fit_of {rs : List S150} (h : Right rs) (hp : 0 < rs.length) (hd : (rs.map (·.f0)).Nodup) : Fit (nodesF rs) (rs.map outOf) := by
  obtain ⟨ps, hs⟩ := nodesF_says hd
  refine ⟨hs.sem.wf, ?_, fun i i0 i1 => ?_, fun r hr => ?_⟩
  · rw [← hs.sem.len]
    exact (List.getElem?_eq_some_iff.1 hs.sem.root).1
  · obtain ⟨n, rfl⟩ := Int.eq_ofNat_of_zero_le i0
    have hn : n < ps.length := by rw [hs.sem.len]; omega
    rw [hs.sem.rule n _ (List.getElem?_eq_getElem hn), List.length_map]
    rcases findGo_lt (l := ps[n]) rs 0 with e | e
    · unfold findF; omega
    · unfold findF; rw [e]; omega
  · obtain ⟨q, hq, rfl⟩ := List.mem_map.1 hr
    have := h.outs q hq
    unfold sideF at this
    simp only [Bool.and_eq_true, decide_eq_true_eq] at this
    exact this.1.2
namespace Fine
variable {rs : List S150}
theorem okay (h : Fine rs) : Okay rs := by
  refine ⟨h.good, fit_of h.right h.pos h.nin, fit_of h.rightT (by rw [h.turn, List.length_map]; exact h.pos) h.swap_nin, by rw [List.length_map]; exact h.pos, by rw [h.turn, List.length_map, List.length_map]; exact h.pos⟩
theorem readL (h : Fine rs) (us : List Int) : longF (nodesF rs) us = longS rs us := longF_says h.nin us
theorem writeL (h : Fine rs) (us : List Int) : longF (wn rs) us = longS (rs.map swp) us := by
  unfold wn
  rw [longF_says h.swap_nin us, h.turn]
end Fine
def sidesB (rs : List S150) : Bool := rs.all (fun r => sideF r.f0 && sideF r.f1 && clB rs r.f0)
theorem fine_of {rs : List S150} (h0 : 0 < rs.length) (h1 : rs.length ≤ 512) (h2 : sidesB rs = true) (h3 : nodB (rs.map (·.f0)) = true) (h4 : nodB (rs.map (·.f1)) = true) : Fine rs := by
  unfold sidesB at h2
  rw [List.all_eq_true] at h2
  have h2' : ∀ r ∈ rs, (sideF r.f0 = true ∧ sideF r.f1 = true) ∧ clB rs r.f0 = true := fun r hr => by
    have := h2 r hr
    simpa only [Bool.and_eq_true] using this
  exact ⟨h0, h1, fun r hr => (h2' r hr).1.1, fun r hr => (h2' r hr).1.2, nodB_nodup h3, nodB_nodup h4, fun r hr => (h2' r hr).2⟩
theorem irR_len : irR.length = 240 := by kernel_rfl
theorem visR_fine : Fine (visR 256) := fine_of (by rw [visR_len]; omega) (by rw [visR_len]; omega) (by kernel_rfl) (by kernel_rfl) (by kernel_rfl)
theorem tisR_fine : Fine (tisR 256) := fine_of (Nat.lt_of_lt_of_eq (by decide : 0 < 215) (by kernel_rfl)) (Nat.le_trans (tisR_len 256) (by omega)) (by kernel_rfl) (by kernel_rfl) (by kernel_rfl)
theorem irR_fine : Fine irR := fine_of (by rw [irR_len]; omega) (by rw [irR_len]; omega) (by kernel_rfl) (by kernel_rfl) (by kernel_rfl)
end Go.Proofs.YtnfjgopcenpblaaGreatDoor.T

/- A match over rules of one or two units: what a put and an end give. Plain; no condition. -/
namespace Go.Proofs.YtnfjgopcenpblaaGreatDoor.T
open Go.RowKit Go.Proofs.YtnfjgopcenpblaaGreatDoor
set_option linter.unusedVariables false
set_option linter.unusedSimpArgs false
/-- rules of one or two units -/
structure Sh (rs : List S150) : Prop where
  len : ∀ r ∈ rs, r.f0.length = 1 ∨ r.f0.length = 2
  nin : (rs.map (·.f0)).Nodup
def out1 (rs : List S150) (q : List Int) : Option (List Int) := if 0 ≤ findF rs q then some (rd_T150 (rs.map outOf) (findF rs q)).f1 else none
theorem findGo_at {l : List Int} : ∀ (rs : List S150) (i : Nat), 0 ≤ findGo l rs i → ∃ (j : Nat) (h : j < rs.length), findGo l rs i = ((i + j : Nat) : Int) ∧ rs[j].f0 = l
  | [], i, h => by simp [findGo] at h
  | r :: rs, i, h => by
    rw [findGo] at h ⊢
    split
    · rename_i e
      exact ⟨0, by simp, by simp, e⟩
    · rename_i e
      rw [if_neg e] at h
      obtain ⟨j, hj, h1, h2⟩ := findGo_at rs (i + 1) h
      exact ⟨j + 1, by simpa using hj, by rw [h1]; omega, by simpa using h2⟩
theorem out1_some {rs : List S150} {q l : List Int} (h : out1 rs q = some l) : ∃ r ∈ rs, r.f0 = q ∧ r.f1 = l := by
  unfold out1 at h
  split at h
  · rename_i e
    obtain ⟨j, hj, h1, h2⟩ := findGo_at rs 0 e
    refine ⟨rs[j], List.getElem_mem hj, h2, ?_⟩
    have h1' : findF rs q = (j : Int) := by unfold findF; rw [h1, Nat.zero_add]
    rw [h1'] at h
    unfold rd_T150 at h
    rw [Int.toNat_natCast, List.getD_eq_getElem?_getD, List.getElem?_map, List.getElem?_eq_getElem hj] at h
    simpa [outOf] using h
  · exact absurd h (by simp)
theorem f0_inj : ∀ {rs : List S150}, (rs.map (·.f0)).Nodup → ∀ {r r' : S150}, r ∈ rs → r' ∈ rs → r.f0 = r'.f0 → r = r'
  | [], _, _, _, h, _, _ => by simp at h
  | q :: rs, hd, r, r', h, h', e => by
    rw [List.map_cons, List.nodup_cons] at hd
    rcases List.mem_cons.1 h with h1 | h1 <;> rcases List.mem_cons.1 h' with h2 | h2
    · rw [h1, h2]
    · rw [← h1, e] at hd; exact absurd (List.mem_map_of_mem h2) hd.1
    · rw [← h2, ← e] at hd; exact absurd (List.mem_map_of_mem h1) hd.1
    · exact f0_inj hd.2 h1 h2 e
theorem out1_rule {rs : List S150} (hd : (rs.map (·.f0)).Nodup) {r : S150} (hr : r ∈ rs) : out1 rs r.f0 = some r.f1 := by
  have h0 : 0 ≤ findF rs r.f0 := findGo_some (i := 0) (List.mem_map_of_mem hr)
  have h1 : out1 rs r.f0 = some (rd_T150 (rs.map outOf) (findF rs r.f0)).f1 := by unfold out1; rw [if_pos h0]
  obtain ⟨r', hr', e0, e1⟩ := out1_some h1
  rw [h1, ← e1, f0_inj hd hr' hr e0]
theorem pre_iff {rs : List S150} {q : List Int} : preB rs q = true ↔ ∃ r ∈ rs, q <+: r.f0 := by
  unfold preB
  simp [List.any_eq_true]
theorem kid_iff {rs : List S150} {q : List Int} : kidB rs q = true ↔ ∃ r ∈ rs, q <+: r.f0 ∧ q.length < r.f0.length := by
  unfold kidB
  simp [List.any_eq_true]
theorem pre_of_out1 {rs : List S150} {q l : List Int} (h : out1 rs q = some l) : preB rs q = true := by
  obtain ⟨r, hr, rfl, _⟩ := out1_some h
  exact pre_iff.2 ⟨r, hr, List.prefix_refl _⟩
theorem longS1 (rs : List S150) (c : Int) : longS rs [c] = (if 0 ≤ findF rs [c] then findF rs [c] else -1, if 0 ≤ findF rs [c] then 1 else 0, kidB rs [c]) := by
  unfold longS
  rw [longSGo, List.nil_append]
  cases hp : preB rs [c] with
  | false =>
    have hk : kidB rs [c] = false := Bool.eq_false_iff.2 (fun e => by
      obtain ⟨r, hr, h, _⟩ := kid_iff.1 e
      rw [pre_iff.2 ⟨r, hr, h⟩] at hp; exact absurd hp (by simp))
    have hf : ¬ 0 ≤ findF rs [c] := fun e => by
      have : out1 rs [c] = some (rd_T150 (rs.map outOf) (findF rs [c])).f1 := by unfold out1; rw [if_pos e]
      rw [pre_of_out1 this] at hp; exact absurd hp (by simp)
    rw [if_pos rfl, if_neg hf, if_neg hf, hk]
  | true =>
    rw [if_neg (by simp)]
    split <;> rw [longSGo] <;> rfl
theorem two_rule {rs : List S150} (h : Sh rs) {c d : Int} (hp : preB rs [c, d] = true) : ∃ r ∈ rs, r.f0 = [c, d] := by
  obtain ⟨r, hr, hq⟩ := pre_iff.1 hp
  refine ⟨r, hr, ?_⟩
  obtain ⟨t, ht⟩ := hq
  have hl := h.len r hr
  rw [← ht] at hl
  simp at hl
  rw [← ht, hl]; rfl
theorem longS2 {rs : List S150} (h : Sh rs) (c d : Int) : longS rs [c, d] = if 0 ≤ findF rs [c, d] then (findF rs [c, d], 2, false) else (if 0 ≤ findF rs [c] then findF rs [c] else -1, if 0 ≤ findF rs [c] then 1 else 0, false) := by
  have hsome : ∀ q, 0 ≤ findF rs q → preB rs q = true := fun q e => by
    have : out1 rs q = some (rd_T150 (rs.map outOf) (findF rs q)).f1 := by unfold out1; rw [if_pos e]
    exact pre_of_out1 this
  have hup : preB rs [c, d] = true → preB rs [c] = true := fun e => by
    obtain ⟨r, hr, hq⟩ := pre_iff.1 e
    exact pre_iff.2 ⟨r, hr, List.IsPrefix.trans (by simp) hq⟩
  have hstep : ∀ (k n : Int), longSGo rs [d] [c] k n 1 = if 0 ≤ findF rs [c, d] then (findF rs [c, d], 2, false) else (k, n, false) := fun k n => by
    rw [longSGo]
    show (if preB rs [c, d] = false then _ else _) = _
    cases hp : preB rs [c, d] with
    | false =>
      rw [if_pos rfl, if_neg (fun e => by rw [hsome _ e] at hp; exact absurd hp (by simp))]
    | true =>
      obtain ⟨r, hr, e⟩ := two_rule h hp
      have h0 : 0 ≤ findF rs [c, d] := e ▸ findGo_some (i := 0) (List.mem_map_of_mem hr)
      have hk : kidB rs [c, d] = false := Bool.eq_false_iff.2 (fun e => by
        obtain ⟨r, hr, _, hl⟩ := kid_iff.1 e
        have := h.len r hr
        simp at hl; omega)
      rw [if_neg (by simp), if_pos h0, if_pos (show 0 ≤ findF rs ([c] ++ [d]) from h0), longSGo]
      show (_, _, kidB rs [c, d]) = _
      rw [hk]; rfl
  unfold longS
  rw [longSGo, List.nil_append]
  cases hp : preB rs [c] with
  | false =>
    have hf : ¬ 0 ≤ findF rs [c] := fun e => by rw [hsome _ e] at hp; exact absurd hp (by simp)
    have hf2 : ¬ 0 ≤ findF rs [c, d] := fun e => by rw [hup (hsome _ e)] at hp; exact absurd hp (by simp)
    rw [if_pos rfl, if_neg hf, if_neg hf, if_neg hf2]
  | true =>
    rw [if_neg (by simp)]
    by_cases hf : 0 ≤ findF rs [c]
    · rw [if_pos hf, if_pos hf, if_pos hf]
      exact hstep _ _
    · rw [if_neg hf, if_neg hf, if_neg hf]
      exact hstep _ _
def tkO (a n : Int) : Option (List Int) → S66
  | none => ⟨a, n, [], 3⟩
  | some l => ⟨a, n, l, 0⟩
theorem tk_take (rs : List S150) (q : List Int) (a n : Int) : takeTok (rs.map outOf) a (if 0 ≤ findF rs q then findF rs q else -1) n = tkO a n (out1 rs q) := by
  unfold takeTok out1
  by_cases h : 0 ≤ findF rs q
  · rw [if_pos h, if_pos h, if_neg (by omega)]; rfl
  · rw [if_neg h, if_neg h, if_pos (by omega)]; rfl
theorem take_nil (ns : List S183) (os : List S150) (fin : Bool) (f : Nat) (a : Int) : takeF ns os fin f [] a = ([], [], a) := by
  cases f <;> rfl
def sngF (rs : List S150) (fin : Bool) (c a : Int) : List S66 × List Int × Int := if (kidB rs [c] && !fin) = true then ([], [c], a) else ([tkO a 1 (out1 rs [c])], [], wrap64 (a + 1))
section
variable {rs : List S150} {ns : List S183} (hL : ∀ us, longF ns us = longS rs us)
include hL
theorem take1 (fin : Bool) (f : Nat) (c a : Int) : takeF ns (rs.map outOf) fin (f + 1) [c] a = sngF rs fin c a := by
  have hk : tokLen (if 0 ≤ findF rs [c] then 1 else 0) = 1 := by split <;> rfl
  unfold sngF
  rw [takeF, if_neg (by simp), hL, longS1]
  simp only
  split
  · rfl
  · rw [hk, tk_take]
    show (_ :: (takeF ns _ fin f [] _).1, (takeF ns _ fin f [] _).2) = _
    rw [take_nil]
theorem take2 (h : Sh rs) (f : Nat) (c d a : Int) : takeF ns (rs.map outOf) false (f + 2) [c, d] a = match out1 rs [c, d] with
    | some l => ([⟨a, 2, l, 0⟩], [], wrap64 (a + 2))
    | none => (tkO a 1 (out1 rs [c]) :: (sngF rs false d (wrap64 (a + 1))).1, (sngF rs false d (wrap64 (a + 1))).2) := by
  have hk : tokLen (if 0 ≤ findF rs [c] then 1 else 0) = 1 := by split <;> rfl
  rw [takeF, if_neg (by simp), hL, longS2 h]
  by_cases h2 : 0 ≤ findF rs [c, d]
  · have ho : out1 rs [c, d] = some (rd_T150 (rs.map outOf) (findF rs [c, d])).f1 := by unfold out1; rw [if_pos h2]
    rw [if_pos h2, ho, if_neg (by simp)]
    simp only
    show (takeTok _ a _ 2 :: (takeF ns _ false (f + 1) [] _).1, (takeF ns _ false (f + 1) [] _).2) = _
    rw [take_nil]
    unfold takeTok
    rw [if_neg (by omega)]
    rfl
  · have ho : out1 rs [c, d] = none := by unfold out1; rw [if_neg h2]
    rw [if_neg h2, ho, if_neg (by simp)]
    simp only
    rw [hk, tk_take]
    show (_ :: (takeF ns _ false (f + 1) [d] _).1, (takeF ns _ false (f + 1) [d] _).2) = _
    rw [take1 hL]
theorem put_nil (a u : Int) : putF ns (rs.map outOf) [] a u = sngF rs false u a := take1 hL false 1 u a
theorem put_one (h : Sh rs) (c a u : Int) : putF ns (rs.map outOf) [c] a u = match out1 rs [c, u] with
    | some l => ([⟨a, 2, l, 0⟩], [], wrap64 (a + 2))
    | none => (tkO a 1 (out1 rs [c]) :: (sngF rs false u (wrap64 (a + 1))).1, (sngF rs false u (wrap64 (a + 1))).2) := take2 hL h 1 c u a
omit hL in
theorem end_nil (a : Int) : endF ns (rs.map outOf) [] a = ([], [], a) := rfl
theorem end_one (c a : Int) : endF ns (rs.map outOf) [c] a = sngF rs true c a := take1 hL true 1 c a
end
/-- tokens, each of a row of units -/
inductive MT (rs : List S150) : List S66 → List (List Int) → Prop where
  | nil : MT rs [] []
  | cons (a n : Int) (q : List Int) {ts : List S66} {qs : List (List Int)} : MT rs ts qs → MT rs (tkO a n (out1 rs q) :: ts) (q :: qs)
def Pend (rs : List S150) (us : List Int) : Prop := us = [] ∨ ∃ c, us = [c] ∧ kidB rs [c] = true
theorem one_mt (rs : List S150) (fin : Bool) (c a : Int) : ∃ qs, MT rs (sngF rs fin c a).1 qs ∧ qs.flatten ++ (sngF rs fin c a).2.1 = [c] ∧ Pend rs (sngF rs fin c a).2.1 ∧ qs.length ≤ 1 ∧ (fin = true → (sngF rs fin c a).2.1 = []) := by
  unfold sngF
  split
  · rename_i h
    rw [Bool.and_eq_true] at h
    exact ⟨[], .nil, rfl, .inr ⟨c, rfl, h.1⟩, by simp, fun e => by rw [e] at h; exact absurd h.2 (by simp)⟩
  · exact ⟨[[c]], .cons a 1 [c] .nil, rfl, .inl rfl, by simp, fun _ => rfl⟩
section
variable {rs : List S150} {ns : List S183} (hL : ∀ us, longF ns us = longS rs us)
include hL
theorem put_mt (h : Sh rs) {us : List Int} (hp : Pend rs us) (a u : Int) : ∃ qs, MT rs (putF ns (rs.map outOf) us a u).1 qs ∧ qs.flatten ++ (putF ns (rs.map outOf) us a u).2.1 = us ++ [u] ∧ Pend rs (putF ns (rs.map outOf) us a u).2.1 ∧ qs.length ≤ 2 := by
  rcases hp with rfl | ⟨c, rfl, hk⟩
  · rw [put_nil hL]
    obtain ⟨qs, h1, h2, h3, h4, _⟩ := one_mt rs false u a
    exact ⟨qs, h1, h2, h3, by omega⟩
  · rw [put_one hL h]
    cases ho : out1 rs [c, u] with
    | some l =>
      refine ⟨[[c, u]], ?_, rfl, .inl rfl, by simp⟩
      have : (⟨a, 2, l, 0⟩ : S66) = tkO a 2 (out1 rs [c, u]) := by rw [ho]; rfl
      show MT rs [(⟨a, 2, l, 0⟩ : S66)] [[c, u]]
      rw [this]
      exact .cons a 2 [c, u] .nil
    | none =>
      obtain ⟨qs, h1, h2, h3, h4, _⟩ := one_mt rs false u (wrap64 (a + 1))
      refine ⟨[c] :: qs, .cons a 1 [c] h1, ?_, h3, by simpa using h4⟩
      show ([c] ++ qs.flatten) ++ _ = [c] ++ [u]
      rw [List.append_assoc, h2]
theorem end_mt {us : List Int} (hp : Pend rs us) (a : Int) : ∃ qs, MT rs (endF ns (rs.map outOf) us a).1 qs ∧ qs.flatten = us ∧ (endF ns (rs.map outOf) us a).2.1 = [] ∧ qs.length ≤ 1 := by
  rcases hp with rfl | ⟨c, rfl, hk⟩
  · exact ⟨[], .nil, rfl, rfl, by simp⟩
  · rw [end_one hL]
    obtain ⟨qs, h1, h2, h3, h4, h5⟩ := one_mt rs true c a
    refine ⟨qs, h1, ?_, h5 rfl, h4⟩
    rw [h5 rfl, List.append_nil] at h2
    exact h2
end
end Go.Proofs.YtnfjgopcenpblaaGreatDoor.T

/- The stream over a reader that reads units: All is the writer over those units. Rows of a table are read as written. Plain; no condition. -/
namespace Go.Proofs.YtnfjgopcenpblaaGreatDoor.T
open Go.RowKit Go.Proofs.YtnfjgopcenpblaaGreatDoor
set_option linter.unusedVariables false
set_option linter.unusedSimpArgs false
/-- good tokens and their rows -/
inductive GL : List S66 → List (List Int) → Prop where
  | nil : GL [] []
  | cons (a n : Int) (l : List Int) {ts : List S66} {ls : List (List Int)} : GL ts ls → GL (⟨a, n, l, 0⟩ :: ts) (l :: ls)
theorem GL.app {ts ts' : List S66} {ls ls' : List (List Int)} (h : GL ts ls) (h' : GL ts' ls') : GL (ts ++ ts') (ls ++ ls') := by
  induction h with
  | nil => exact h'
  | cons a n l _ ih => exact .cons a n l ih
section
variable {R : Mach T10 19} {M : Mach T20 29}
/-- what the reader reads of bytes, its end behind them -/
def Rds (R : Mach T10 19) : R.σ → List Int → List Int → Prop
  | r, [], us => R.okE r ∧ (R.fin r).1.length ≤ 1000000 ∧ ∃ ls, GL (R.fin r).1 ls ∧ ls.flatten = us
  | r, c :: cs, us => R.ok r c ∧ (R.put r c).1.length ≤ 1000000 ∧ ∃ ls us', GL (R.put r c).1 ls ∧ us = ls.flatten ++ us' ∧ Rds R (R.put r c).2 cs us'
theorem tkPuts_app (us vs : List Int) : ∀ q : SSt M.σ, tkPuts M q (us ++ vs) = tkPuts M (tkPuts M q us) vs := by
  induction us with
  | nil => exact fun q => rfl
  | cons u us ih => exact fun q => ih _
theorem okPuts_app (us vs : List Int) : ∀ q : SSt M.σ, okPuts M q (us ++ vs) ↔ okPuts M q us ∧ okPuts M (tkPuts M q us) vs := by
  induction us with
  | nil => exact fun q => by simp [okPuts, tkPuts]
  | cons u us ih =>
      intro q
      show (_ ∧ okPuts M _ (us ++ vs)) ↔ (_ ∧ okPuts M _ us) ∧ okPuts M (tkPuts M _ us) vs
      rw [ih, and_assoc]
theorem tkPuts_off (us : List Int) : ∀ {q : SSt M.σ}, q.st.2.2 ≠ 0 → tkPuts M q us = q := by
  induction us with
  | nil => exact fun _ => rfl
  | cons u us ih => exact fun {q} h => by rw [tkPuts, if_neg h]; exact ih h
theorem tkF_good {ts : List S66} {ls : List (List Int)} (h : GL ts ls) : ∀ q : SSt M.σ, tkF M q ts = tkPuts M q ls.flatten := by
  induction h with
  | nil => exact fun q => rfl
  | cons a n l _ ih => exact fun q => by rw [tkF, if_pos rfl, ih, List.flatten_cons, tkPuts_app]
theorem okTk_good {ts : List S66} {ls : List (List Int)} (h : GL ts ls) : ∀ q : SSt M.σ, okPuts M q ls.flatten → okTk M q ts := by
  induction h with
  | nil => exact fun q _ => trivial
  | cons a n l _ ih =>
      intro q hq
      rw [List.flatten_cons, okPuts_app] at hq
      rw [okTk, if_pos rfl]
      exact ⟨hq.1, ih _ hq.2⟩
/-- the writer over units, and its end -/
def wAll (M : Mach T20 29) (q : SSt M.σ) (us : List Int) : SSt M.σ := if (tkPuts M q us).st.2.2 = 0 then end1 M (tkPuts M q us) else tkPuts M q us
def okW (M : Mach T20 29) (q : SSt M.σ) (us : List Int) : Prop := okPuts M q us ∧ ((tkPuts M q us).st.2.2 = 0 → okEnd1 M (tkPuts M q us))
theorem all_rds : ∀ (bs us : List Int) (r : R.σ) (q : SSt M.σ), Rds R r bs us → okW M q us → allF (⟨r, q⟩ : ASt R M) bs = wAll M q us ∧ okAll (⟨r, q⟩ : ASt R M) bs
  | [], us, r, q, h, hk => by
    obtain ⟨h1, h2, ls, h3, rfl⟩ := h
    have e : (rdE (⟨r, q⟩ : ASt R M)).q = tkPuts M q ls.flatten := tkF_good h3 q
    refine ⟨?_, ⟨h1, h2, okTk_good h3 q hk.1⟩, fun h0 => ?_⟩
    · show allE _ = _
      unfold allE wAll
      rw [e]
    · rw [e] at h0 ⊢
      exact hk.2 h0
  | c :: cs, us, r, q, h, hk => by
    obtain ⟨h1, h2, ls, us', h3, rfl, h4⟩ := h
    have e : (rd1 (⟨r, q⟩ : ASt R M) c) = ⟨(R.put r c).2, tkPuts M q ls.flatten⟩ := by unfold rd1; rw [tkF_good h3 q]
    have hk1 := (okPuts_app ls.flatten us' q).1 hk.1
    rw [allF, okAll]
    by_cases h0 : (tkPuts M q ls.flatten).st.2.2 = 0
    · have hk' : okW M (tkPuts M q ls.flatten) us' := ⟨hk1.2, by rw [← tkPuts_app]; exact hk.2⟩
      obtain ⟨e1, e2⟩ := all_rds cs us' _ _ h4 hk'
      refine ⟨?_, ⟨h1, h2, okTk_good h3 q hk1.1⟩, fun _ => by rw [e]; exact e2⟩
      rw [e, if_neg (by simpa using h0), e1]
      unfold wAll
      rw [tkPuts_app]
    · refine ⟨?_, ⟨h1, h2, okTk_good h3 q hk1.1⟩, fun h0' => absurd (by rw [e] at h0'; exact h0') h0⟩
      rw [e, if_pos h0]
      unfold wAll
      rw [tkPuts_app, tkPuts_off us' h0, if_neg h0]
end
/-- what a match reads of bytes, its end behind them -/
def Ur (ns : List S183) (os : List S150) : List Int → Int → List Int → List Int → Prop
  | us, a, [], w => us.length ≤ 99 ∧ (endF ns os us a).1.length ≤ 1000000 ∧ ∃ ls, GL (endF ns os us a).1 ls ∧ ls.flatten = w
  | us, a, c :: cs, w => us.length ≤ 99 ∧ (putF ns os us a c).1.length ≤ 1000000 ∧ ∃ ls w', GL (putF ns os us a c).1 ls ∧ w = ls.flatten ++ w' ∧ Ur ns os (putF ns os us a c).2.1 (putF ns os us a c).2.2 cs w'
theorem ur_dec {ns : List S183} {os : List S150} (hf : Fit ns os) (hp : 0 < os.length) : ∀ (bs : List Int) (us : List Int) (a : Int) (w : List Int), Ur ns os us a bs w → Rds (mDec ns os hf hp) (us, a) bs w
  | [], us, a, w, h => by
    obtain ⟨h1, h2, h3⟩ := h
    exact ⟨by show us.length ≤ 100; omega, h2, h3⟩
  | c :: cs, us, a, w, h => by
    obtain ⟨h1, h2, ls, w', h3, h4, h5⟩ := h
    exact ⟨h1, h2, ls, w', h3, h4, ur_dec hf hp cs _ _ w' h5⟩
theorem meanRow_app (us vs : List Int) : ∀ s : Int, meanRow s (us ++ vs) = ((meanRow s us).1 ++ (meanRow (meanRow s us).2 vs).1, (meanRow (meanRow s us).2 vs).2) := by
  induction us with
  | nil => exact fun s => rfl
  | cons u us ih =>
      intro s
      show (_ ++ (meanRow _ (us ++ vs)).1, (meanRow _ (us ++ vs)).2) = _
      rw [ih]
      simp [meanRow]
theorem meanGo_good {ts : List S66} {ls : List (List Int)} (h : GL ts ls) : ∀ s : Int, (meanGo s ts).2 = (meanRow s ls.flatten).2 ∧ ∃ ks, GL (meanGo s ts).1 ks ∧ ks.flatten = (meanRow s ls.flatten).1 := by
  induction h with
  | nil => exact fun s => ⟨rfl, [], .nil, rfl⟩
  | cons a n l _ ih =>
      intro s
      obtain ⟨h1, ks, h2, h3⟩ := ih (meanRow s l).2
      rw [meanGo, List.flatten_cons, meanRow_app]
      refine ⟨h1, (meanRow s l).1 :: ks, .cons a n _ h2, ?_⟩
      rw [List.flatten_cons, h3]
theorem meanGo_len (ts : List S66) : ∀ s : Int, (meanGo s ts).1.length = ts.length := by
  induction ts with
  | nil => exact fun _ => rfl
  | cons t ts ih => exact fun s => by rw [meanGo, List.length_cons, ih, List.length_cons]
theorem ur_idec {ns : List S183} {os : List S150} (hf : Fit ns os) (hp : 0 < os.length) : ∀ (bs : List Int) (s : Int) (us : List Int) (a : Int) (w : List Int), Ur ns os us a bs w → Rds (mIdec ns os hf hp) (s, us, a) bs (meanRow s w).1
  | [], s, us, a, w, h => by
    obtain ⟨h1, h2, ls, h3, rfl⟩ := h
    obtain ⟨_, ks, k2, k3⟩ := meanGo_good h3 s
    exact ⟨by show us.length ≤ 100; omega, by show (meanGo s _).1.length ≤ _; rw [meanGo_len]; exact h2, ks, k2, k3⟩
  | c :: cs, s, us, a, w, h => by
    obtain ⟨h1, h2, ls, w', h3, rfl, h5⟩ := h
    obtain ⟨k1, ks, k2, k3⟩ := meanGo_good h3 s
    refine ⟨h1, by show (meanGo s _).1.length ≤ _; rw [meanGo_len]; exact h2, ks, (meanRow (meanRow s ls.flatten).2 w').1, k2, ?_, ?_⟩
    · rw [meanRow_app, k3]
    · have := ur_idec hf hp cs (meanRow s ls.flatten).2 _ _ w' h5
      rw [← k1] at this ⊢
      exact this
/-- two rows that stand one behind the other are not one -/
def Apart (rs : List S150) (r1 r2 : S150) : Prop := ∀ c d, r1.f0 = [c] → r2.f0.head? = some d → out1 rs [c, d] = none
def Ap (rs : List S150) : List S150 → Prop
  | [] => True
  | [_] => True
  | a :: b :: l => Apart rs a b ∧ Ap rs (b :: l)
theorem Ap.tail {rs : List S150} {a : S150} {l : List S150} (h : Ap rs (a :: l)) : Ap rs l := by
  cases l with
  | nil => trivial
  | cons b l => exact h.2
theorem ap_snoc {rs : List S150} {r : S150} : ∀ {R : List S150}, Ap rs R → (∀ l, R.getLast? = some l → Apart rs l r) → Ap rs (R ++ [r])
  | [], _, _ => trivial
  | [a], _, h => ⟨h a rfl, trivial⟩
  | a :: b :: l, h, h1 => ⟨h.1, ap_snoc (R := b :: l) h.2 (fun x hx => h1 x (by simpa [List.getLast?] using hx))⟩
section
variable {rs : List S150} {ns : List S183} (hL : ∀ us, longF ns us = longS rs us) (h : Sh rs)
include hL h
theorem row_tail {r : S150} {R : List S150} (hr : r ∈ rs) (hA : Ap rs (r :: R)) (ih : ∀ (P : Option S150) (us : List Int) (a : Int), (∀ p, P = some p → p ∈ rs ∧ us = p.f0 ∧ ∃ c, us = [c] ∧ kidB rs [c] = true) → (P = none → us = []) → Ap rs (P.toList ++ R) → Ur ns (rs.map outOf) us a (R.flatMap (·.f0)) (P.toList.flatMap (·.f1) ++ R.flatMap (·.f1)))
    {d : Int} {e : List Int} (hd : r.f0 = d :: e) (a : Int) : (sngF rs false d a).1.length ≤ 1 ∧ ∃ ls w', GL (sngF rs false d a).1 ls ∧ r.f1 ++ R.flatMap (·.f1) = ls.flatten ++ w' ∧ Ur ns (rs.map outOf) (sngF rs false d a).2.1 (sngF rs false d a).2.2 (e ++ R.flatMap (·.f0)) w' := by
  have hl := h.len r hr
  rw [hd] at hl
  cases e with
  | nil =>
    have ho : out1 rs [d] = some r.f1 := hd ▸ out1_rule h.nin hr
    unfold sngF
    rw [ho]
    split
    · rename_i hk
      rw [Bool.and_eq_true] at hk
      refine ⟨by simp, [], r.f1 ++ R.flatMap (·.f1), .nil, rfl, ?_⟩
      have := ih (some r) [d] a (fun p hp => by cases hp; exact ⟨hr, hd.symm, d, rfl, hk.1⟩) (fun e => by cases e) hA
      simpa using this
    · refine ⟨by simp, [r.f1], R.flatMap (·.f1), .cons a 1 _ .nil, by simp, ?_⟩
      have := ih none [] (wrap64 (a + 1)) (fun p hp => by cases hp) (fun _ => rfl) hA.tail
      simpa using this
  | cons e0 e1 =>
    have he : e1 = [] := by
      cases e1 with
      | nil => rfl
      | cons _ _ => simp at hl
    subst he
    have hk : kidB rs [d] = true := kid_iff.2 ⟨r, hr, by rw [hd]; simp, by rw [hd]; simp⟩
    have ho : out1 rs [d, e0] = some r.f1 := hd ▸ out1_rule h.nin hr
    have hs : sngF rs false d a = ([], [d], a) := by unfold sngF; rw [hk]; rfl
    rw [hs]
    refine ⟨by simp, [], r.f1 ++ R.flatMap (·.f1), .nil, rfl, ?_⟩
    have hpo := put_one hL h d a e0
    rw [ho] at hpo
    simp only at hpo
    have := ih none [] (wrap64 (a + 2)) (fun p hp => by cases hp) (fun _ => rfl) hA.tail
    refine ⟨by simp, ?_, [r.f1], R.flatMap (·.f1), ?_, by simp, ?_⟩
    · rw [hpo]; simp
    · rw [hpo]; exact .cons a 2 _ .nil
    · rw [hpo]; simpa using this
theorem ur_rows : ∀ (R : List S150) (P : Option S150) (us : List Int) (a : Int), (∀ r ∈ R, r ∈ rs) → (∀ p, P = some p → p ∈ rs ∧ us = p.f0 ∧ ∃ c, us = [c] ∧ kidB rs [c] = true) → (P = none → us = []) → Ap rs (P.toList ++ R) → Ur ns (rs.map outOf) us a (R.flatMap (·.f0)) (P.toList.flatMap (·.f1) ++ R.flatMap (·.f1))
  | [], P, us, a, _, hP, hN, _ => by
    cases P with
    | none =>
      rw [hN rfl]
      exact ⟨by simp, by rw [end_nil]; simp, [], by rw [end_nil]; exact .nil, rfl⟩
    | some p =>
      obtain ⟨hp, e, c, rfl, hk⟩ := hP p rfl
      have ho : out1 rs [c] = some p.f1 := e ▸ out1_rule h.nin hp
      have hs : endF ns (rs.map outOf) [c] a = ([⟨a, 1, p.f1, 0⟩], [], wrap64 (a + 1)) := by
        rw [end_one hL]; unfold sngF; rw [ho, hk]; rfl
      exact ⟨by simp, by rw [hs]; simp, [p.f1], by rw [hs]; exact .cons a 1 _ .nil, by simp⟩
  | r :: R, P, us, a, hR, hP, hN, hA => by
    have hr := hR r (List.mem_cons_self ..)
    have ih := fun P us a => ur_rows R P us a (fun q hq => hR q (List.mem_cons_of_mem _ hq))
    obtain ⟨d, e, hd⟩ : ∃ d e, r.f0 = d :: e := by
      cases hf : r.f0 with
      | nil => have := h.len r hr; rw [hf] at this; simp at this
      | cons d e => exact ⟨d, e, rfl⟩
    have hb : (r :: R).flatMap (·.f0) = d :: (e ++ R.flatMap (·.f0)) := by simp [hd]
    rw [hb]
    cases P with
    | none =>
      rw [hN rfl]
      obtain ⟨h1, ls, w', h2, h3, h4⟩ := row_tail hL h hr hA ih hd a
      refine ⟨by simp, ?_, ls, w', ?_, by simpa using h3, ?_⟩
      · rw [put_nil hL]; omega
      · rw [put_nil hL]; exact h2
      · rw [put_nil hL]; exact h4
    | some p =>
      obtain ⟨hp, e0, c, rfl, hk⟩ := hP p rfl
      have ho : out1 rs [c] = some p.f1 := e0 ▸ out1_rule h.nin hp
      have hap : Apart rs p r := hA.1
      have hn : out1 rs [c, d] = none := hap c d e0.symm (by rw [hd]; rfl)
      obtain ⟨h1, ls, w', h2, h3, h4⟩ := row_tail hL h hr hA.tail ih hd (wrap64 (a + 1))
      have hpo := put_one hL h c a d
      rw [hn, ho] at hpo
      simp only at hpo
      refine ⟨by simp, ?_, p.f1 :: ls, w', ?_, ?_, ?_⟩
      · rw [hpo, List.length_cons]; omega
      · rw [hpo]; exact .cons a 1 _ h2
      · rw [List.flatten_cons, List.append_assoc, ← h3]; simp
      · rw [hpo]; exact h4
end
end Go.Proofs.YtnfjgopcenpblaaGreatDoor.T
