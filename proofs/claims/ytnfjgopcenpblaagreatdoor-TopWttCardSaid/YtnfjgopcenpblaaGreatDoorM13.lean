/- Texts of this claim, one behind the other (merged by a program): TV4, TV5, TW1, TW2, TW3, TW4, TW5. No condition of their own. -/
import Derived.Test.YtnfjgopcenpblaaGreatDoorM12
/- codec.Table, Decode and Encode by name. No condition beyond the ranges. -/
namespace Go.Proofs.YtnfjgopcenpblaaGreatDoor.T
open Go.RowKit Go.Proofs.YtnfjgopcenpblaaGreatDoorW.PrintWords Go.Proofs.YtnfjgopcenpblaaGreatDoorW.PrintLast Go.Proofs.YtnfjgopcenpblaaGreatDoorW.PrintMore Go.Proofs.YtnfjgopcenpblaaGreatDoor
set_option linter.unusedVariables false
set_option linter.unusedSimpArgs false
set_option maxRecDepth 100000 in
theorem Table_calls {nm : ByteArray} {rs : List S150} (hr : RulesS 56 #[.string nm] rs) (hg : Good rs) : TabS 43 #[.string nm] rs := by
  intro w
  have hr1 := Lib.hid hr
  replace hr := Lib.hid hr
  replace hg := Lib.hid hg
  go_enter Tryz.func43, Tryz.ntmps43
  go_wp2_with (first
    | (go_at_call 56; refine (hr1.out w).mono ?_; rintro e w1 ⟨ad, c, rfl, -, -, hb1⟩; replace hb1 := Lib.hid hb1; clear hr1)
    | (go_at_call 56; refine (hr.out w1).mono ?_; rintro e w2 ⟨ad2, c2, rfl, hc2, hC2, hb2⟩; replace hC2 := Lib.hid hC2; replace hc2 := Lib.hid hc2; replace hb2 := Lib.hid (below_step hb1.out hb2); clear hr)
    | with_reducible refine Go.Great.wpList_runTo (o := ⟨some 7, .binOp .eql 127 _ _ _, _, _, _, _⟩) rfl (some 7) rfl (.bool false) w1 (by kernel_rfl) ?_
    | (go_at_call 57; refine (TabOf_calls w2 (some ad2) c2 rs hC2.out hc2.out hg.out).mono ?_; intro e w3 hP; obtain ⟨b, rfl, ht, hb3⟩ := TabP.up hb2.out hP; replace ht := Lib.hid ht; replace hb3 := Lib.hid hb3; clear hP))
  go_ret
  exact ⟨_, rfl, ht.out, hb3.out⟩
end Go.Proofs.YtnfjgopcenpblaaGreatDoor.T

/- Decode and Encode by name. No condition beyond the ranges. -/
namespace Go.Proofs.YtnfjgopcenpblaaGreatDoor.T
open Go.RowKit Go.Proofs.YtnfjgopcenpblaaGreatDoorW.PrintWords Go.Proofs.YtnfjgopcenpblaaGreatDoorW.PrintLast Go.Proofs.YtnfjgopcenpblaaGreatDoorW.PrintMore Go.Proofs.YtnfjgopcenpblaaGreatDoor
set_option linter.unusedVariables false
set_option linter.unusedSimpArgs false
set_option maxRecDepth 100000 in
theorem dec_table {nm : ByteArray} {rs : List S150} (hn : NameS nm) (h1 : (nm.toList == [117, 116, 102, 45, 56]) = false) (h2 : (nm.toList == [105, 115, 99, 105, 105]) = false) (hT : TabS 43 #[.string nm] rs) (hf : Fit (nodesF rs) (rs.map outOf)) (hp : 0 < (rs.map outOf).length) : DecS (mDec (nodesF rs) (rs.map outOf) hf hp) nm ([], 0) := by
  intro w f
  replace hn := Lib.hid hn
  replace hT := Lib.hid hT
  go_enter Tryz.func32, Tryz.ntmps32
  go_wp2_with (first
    | (go_at_call 21; refine (hn.out w).mono ?_; rintro e w1 ⟨rfl, hb1⟩; replace hb1 := Lib.hid hb1)
    | (go_at_call 43; refine (hT.out w1).mono ?_; rintro e w2 ⟨tb, rfl, ht, hb2⟩; have hE := Lib.hid (Ext.new (T := fun _ => False) (f := f) 0 (below_step hb1.out hb2)); have hZ := Lib.hid (show TabZ w2 (newF f w.heap.size 0) tb rs from ht.mono (fun k hk => newF_new (Nat.le_trans hb1.out.size hk))); clear ht hb2)
    | (go_at_call 42; refine (MDecode_calls w2 _ tb rs hZ.out).mono ?_; rintro e w3 ⟨d, rfl, H⟩; obtain ⟨f3, E3, M3⟩ := H 10; replace E3 := Lib.hid (hE.out.trans E3); replace M3 := Lib.hid M3; clear H))
  go_ret2
  exact ⟨120, _, f3, rfl, E3.out, d, rfl, M3.out⟩
set_option maxRecDepth 100000 in
theorem enc_table {nm : ByteArray} {rs : List S150} (hn : NameS nm) (h1 : (nm.toList == [117, 116, 102, 45, 56]) = false) (h2 : (nm.toList == [105, 115, 99, 105, 105]) = false) (hT : TabS 43 #[.string nm] rs) (hk : Okay rs) : EncS (mEnc rs hk) nm ([], 0, []) := by
  intro w f
  replace hn := Lib.hid hn
  replace hT := Lib.hid hT
  go_enter Tryz.func33, Tryz.ntmps33
  go_wp2_with (first
    | (go_at_call 21; refine (hn.out w).mono ?_; rintro e w1 ⟨rfl, hb1⟩; replace hb1 := Lib.hid hb1)
    | (go_at_call 43; refine (hT.out w1).mono ?_; rintro e w2 ⟨tb, rfl, ht, hb2⟩; have hE := Lib.hid (Ext.new (T := fun _ => False) (f := f) 0 (below_step hb1.out hb2)); have hZ := Lib.hid (show TabZ w2 (newF f w.heap.size 0) tb rs from ht.mono (fun k hk => newF_new (Nat.le_trans hb1.out.size hk))); clear ht hb2)
    | (go_at_call 45; refine (MEncode_calls w2 _ tb rs hZ.out).mono ?_; rintro e w3 ⟨d, rfl, f3, E3, M3⟩; replace E3 := Lib.hid (hE.out.trans E3); replace M3 := Lib.hid M3))
  go_ret2
  exact ⟨108, _, f3, rfl, E3.out, d, rfl, M3.out⟩
end Go.Proofs.YtnfjgopcenpblaaGreatDoor.T

/- viscii's Decode. No condition beyond the ranges. -/
namespace Go.Proofs.YtnfjgopcenpblaaGreatDoor.T
open Go.RowKit Go.Proofs.YtnfjgopcenpblaaGreatDoorW.PrintWords Go.Proofs.YtnfjgopcenpblaaGreatDoorW.PrintLast Go.Proofs.YtnfjgopcenpblaaGreatDoorW.PrintMore Go.Proofs.YtnfjgopcenpblaaGreatDoor
set_option linter.unusedVariables false
set_option linter.unusedSimpArgs false
theorem runTo_ {P : Program} {ops : Array Oper} {rest : List Oper} {o : Oper} {a : Act} {w : World} {Q : Exit → Act → World → Prop} (hg : o.guard = none) (d : Option Tmp) (hd : o.dst = d)
    (v : Value) (w' : World) (hrun : (execOp a.eval o).run P w = .ok (.value v) w')
    (h : wpList P ops Q rest (a.put d v) w') : wpList P ops Q (o :: rest) a w := by
  subst hd
  refine wpList_plain hg fun K hK => ?_
  unfold Oper.wp
  rw [hrun, Oper.upon_value]
  exact hK _ _ h
theorem setRow_fresh (w : World) (cs ds : Array Value) (t : TypeId) : (w.alloc (.cells cs t)).setRow w.heap.size ds = w.alloc (.cells ds t) := by
  simp only [World.setRow, World.alloc]
  congr 1
  apply Array.ext
  · simp
  · intro i h1 h2
    simp [Array.getElem_modify, Array.getElem_push]
    split <;> split <;> simp_all <;> omega
theorem wpList_store_fresh {P : Program} {ops : Array Oper} {rest : List Oper} {o : Oper} {a : Act} {w : World} {Q : Exit → Act → World → Prop} (hgd : o.guard = none) (ty : TypeId) (x y : Operand) (ho : o.op = .store ty x y)
    (hd : o.dst = none) (cells : Array Value) (old : Array Value) (t : TypeId) (hx : a.eval x = .pointer (some ⟨w.heap.size, 0, none⟩)) (hy : a.eval y = .agg cells)
    (hi : (P.info? ty).map (·.size) = some cells.size)
    (hold : old.size = cells.size) (h1 : cells.all (·.oneCell') = true)
    (h : wpList P ops Q rest a (w.alloc (.cells cells t))) : wpList P ops Q (o :: rest) a (w.alloc (.cells old t)) := by
  refine wpList_store_row hgd ty x y ho w.heap.size cells hx hy t old ?_ hi hold h1 ?_
  · show (w.heap.push _)[_]? = _; simp
  · rw [hd, setRow_fresh]; exact h
theorem run_index_arr {P : Program} (t e : TypeId) (n : Nat) (cs : Array Value) (k : IntKind) (h : P.underlying t = some (.array n e)) (hs : ∀ w, Sem.run P (sizeOf e) w = .ok 1 w) (ha : ∀ w, Sem.run P (isAgg e) w = .ok false w) (w : World) (i : Nat) (v : Value) (ho : i < n) (hv : cs[i]? = some v) :
    (Instr.index t (.agg cs) (.int k i)).run P w = .ok v w := by
  simp [Instr.index, run_underlying h, asIntOf, ho, go_sem, hs, ha, hv]
def hiT : List Int := [7840, 7854, 7856, 7862, 7844, 7846, 7848, 7852, 7868, 7864, 7870, 7872, 7874, 7876, 7878, 7888, 7890, 7892, 7894, 7896, 7906, 7898, 7900, 7902, 7882, 7886, 7884, 7880, 7910, 360, 7908, 7922, 213, 7855, 7857, 7863, 7845, 7847, 7849, 7853, 7869, 7865, 7871, 7873, 7875, 7877, 7879, 7889, 7891, 7893, 7895, 7904, 416, 7897, 7901, 7903, 7883, 7920, 7912, 7914, 7916, 417, 7899, 431, 192, 193, 194, 195, 7842, 258, 7859, 7861, 200, 201, 202, 7866, 204, 205, 296, 7923, 272, 7913, 210, 211, 212, 7841, 7927, 7915, 7917, 217, 218, 7929, 7925, 221, 7905, 432, 224, 225, 226, 227, 7843, 259, 7919, 7851, 232, 233, 234, 7867, 236, 237, 297, 7881, 273, 7921, 242, 243, 244, 245, 7887, 7885, 7909, 249, 250, 361, 7911, 253, 7907, 7918]
def hiVal : Array Value := (hiT.map (Value.int .i64)).toArray
def zHi : Array Value := (List.replicate 128 (Value.int .i64 0)).toArray
def vis (c : Int) : Int := if c = 2 then 7858 else if c = 5 then 7860 else if c = 6 then 7850 else if c = 20 then 7926 else if c = 25 then 7928 else if c = 30 then 7924 else if c < 128 then c else hiT.getD (c.toNat - 128) 0
theorem hiVal_get (n : Nat) (h : n < 128) : hiVal[n]? = some (.int .i64 (hiT.getD n 0)) := by
  have h' : n < hiT.length := h
  simp [hiVal, h']
theorem hi_index (n : Nat) (h : n < 128) (w : World) : (Instr.index 198 (.agg hiVal) (.int .u8 n)).run Tryz.prog w = .ok (.int .i64 (hiT.getD n 0)) w :=
  run_index_arr 198 3 128 _ _ Tryz.underlying198 (fun _ => by kernel_rfl) (fun _ => by kernel_rfl) w n _ h (hiVal_get n h)
attribute [irreducible] hiT hiVal zHi
set_option maxRecDepth 100000 in
theorem high_calls (w : World) : Calls Tryz.prog 94 #[] w fun e w' => e = .returned (.agg hiVal) ∧ Below w.heap.size w w' := by
  go_enter Tryz.func94, Tryz.ntmps94
  go_wp2_with (first
    | with_reducible refine runTo_ (o := ⟨some 1, .build 198 _, _, _, _, _⟩) rfl (some 1) rfl (.agg hiVal) (w.alloc (.cells zHi 198)) (by kernel_rfl) ?_
    | with_reducible refine runTo_ (o := ⟨some 0, .alloc 198, _, _, _, _⟩) rfl (some 0) rfl (.pointer (some ⟨w.heap.size, 0, none⟩)) (w.alloc (.cells zHi 198)) (by kernel_rfl) ?_
    | with_reducible refine wpList_store_fresh (o := ⟨none, .store 198 _ _, _, _, _, _⟩) rfl 198 _ _ rfl rfl hiVal zHi 198 (by kernel_rfl) (by kernel_rfl) (by kernel_rfl) (by kernel_rfl) (by kernel_rfl) ?_)
  refine bodyPost_ret (v := .agg hiVal) (results_cell_row rfl _ _ w.heap.size 198 hiVal (0, 0) _ rfl (by show (w.heap.push _)[_]? = _; simp) Tryz.underlying198 rfl (by kernel_rfl)) rfl ⟨rfl, (Below.refl _ _).alloc (Nat.le_refl _) _⟩
set_option maxRecDepth 100000 in
theorem VisDec_calls (w : World) (c : Int) (h0 : 0 ≤ c) (h1 : c < 256) : Calls Tryz.prog 80 #[.int .u8 c] w fun e w' => e = .returned (.int .i64 (vis c)) ∧ Below w.heap.size w w' := by
  by_cases e2 : c = 2
  · subst e2; clear h0 h1
    go_enter Tryz.func80, Tryz.ntmps80
    go_wp2
    go_ret
    exact ⟨rfl, Below.refl _ _⟩
  by_cases e5 : c = 5
  · subst e5; clear h0 h1
    go_enter Tryz.func80, Tryz.ntmps80
    go_wp2
    go_ret
    exact ⟨rfl, Below.refl _ _⟩
  by_cases e6 : c = 6
  · subst e6; clear h0 h1
    go_enter Tryz.func80, Tryz.ntmps80
    go_wp2
    go_ret
    exact ⟨rfl, Below.refl _ _⟩
  by_cases e20 : c = 20
  · subst e20; clear h0 h1
    go_enter Tryz.func80, Tryz.ntmps80
    go_wp2
    go_ret
    exact ⟨rfl, Below.refl _ _⟩
  by_cases e25 : c = 25
  · subst e25; clear h0 h1
    go_enter Tryz.func80, Tryz.ntmps80
    go_wp2
    go_ret
    exact ⟨rfl, Below.refl _ _⟩
  by_cases e30 : c = 30
  · subst e30; clear h0 h1
    go_enter Tryz.func80, Tryz.ntmps80
    go_wp2
    go_ret
    exact ⟨rfl, Below.refl _ _⟩
  by_cases h2 : c < 128
  · have hw6 : wrap64 c = c := by unfold wrap64; omega
    have hv : wrap64 c = vis c := by rw [hw6]; unfold vis; rw [if_neg e2, if_neg e5, if_neg e6, if_neg e20, if_neg e25, if_neg e30, if_pos h2]
    replace hv := Lib.hid hv
    have d2 := beq_false_of_ne e2
    have d5 := beq_false_of_ne e5
    have d6 := beq_false_of_ne e6
    have d20 := beq_false_of_ne e20
    have d25 := beq_false_of_ne e25
    have d30 := beq_false_of_ne e30
    clear e2 e5 e6 e20 e25 e30
    have dc := decide_eq_true h2
    clear h0 h1 h2 hw6
    go_enter Tryz.func80, Tryz.ntmps80
    go_wp2
    go_ret
    exact ⟨congrArg (fun x => Ending.returned (.int .i64 x)) hv.out, Below.refl _ _⟩
  · have hn : c.toNat - 128 < 128 := by omega
    have hv : hiT.getD (c.toNat - 128) 0 = vis c := by
      unfold vis; rw [if_neg e2, if_neg e5, if_neg e6, if_neg e20, if_neg e25, if_neg e30, if_neg h2]
    have hg := hi_index _ hn
    have ew : ((c.toNat - 128 : Nat) : Int) = c - 128 := by omega
    rw [ew] at hg
    have hw : IntKind.u8.wrap (c - 128) = c - 128 := by rw [IntKind.wrap_u8]; omega
    replace hv := Lib.hid hv
    have d2 := beq_false_of_ne e2
    have d5 := beq_false_of_ne e5
    have d6 := beq_false_of_ne e6
    have d20 := beq_false_of_ne e20
    have d25 := beq_false_of_ne e25
    have d30 := beq_false_of_ne e30
    clear e2 e5 e6 e20 e25 e30
    have dc := decide_eq_false h2
    clear h0 h1 h2 ew hn
    generalize hiT.getD (c.toNat - 128) 0 = v at *
    have hc := Lib.hid high_calls
    generalize hiVal = V at *
    go_enter Tryz.func80, Tryz.ntmps80
    go_wp2_with (go_at_call 94; refine (hc.out w).mono ?_; rintro e w' ⟨rfl, hb⟩)
    go_ret
    exact ⟨congrArg (fun x => Ending.returned (.int .i64 x)) hv.out, ‹_›⟩
end Go.Proofs.YtnfjgopcenpblaaGreatDoor.T

/- Rows of rules: a row of whole numbers as written, a rule appended; viscii's rules. No condition beyond the ranges. -/
namespace Go.Proofs.YtnfjgopcenpblaaGreatDoor.T
open Go.RowKit Go.Proofs.YtnfjgopcenpblaaGreatDoorW.PrintWords Go.Proofs.YtnfjgopcenpblaaGreatDoorW.PrintLast Go.Proofs.YtnfjgopcenpblaaGreatDoorW.PrintMore Go.Proofs.YtnfjgopcenpblaaGreatDoor
set_option linter.unusedVariables false
set_option linter.unusedSimpArgs false
section
variable {P : Program} {ops : Array Oper} {rest : List Oper} {o : Oper} {a : Act} {Q : Exit → Act → World → Prop}
theorem reps_ints {w : World} {ok : Nat → Prop} : ∀ xs : List Int, Reps ((Kd.int .i64).M w 0 ok) 1 xs (xs.map (Value.int .i64))
  | [] => Reps.none _ _
  | x :: xs => Reps.one (show (Kd.int .i64).M w 0 ok x [.int .i64 x] from rfl) (reps_ints xs)
theorem rlit {wr W : World} (xs : List Int) (hgd : o.guard = none) {N : Tmp} (hd : o.dst = some N)
    (hrun : (execOp a.eval o).run P W = .ok (.value (.slice (some ⟨W.heap.size, 0, none⟩) xs.length xs.length)) (W.alloc (.cells (xs.map (Value.int .i64)).toArray 3)))
    (HB : Hid (Below wr.heap.size wr W)) (hm : xs.length ≤ 1000000)
    (h : ∀ A c w1, Hid ((Kd.int .i64).R 3 w1 0 (fun k => wr.heap.size ≤ k) (.slice A xs.length c) xs) → Hid (Below wr.heap.size wr w1) → Hid (Below W.heap.size W w1) → wpList P ops Q rest (a.put o.dst (.slice A xs.length c)) w1) : wpList P ops Q (o :: rest) a W := by
  have HB := HB.out
  refine Kd.R_lit (Kd.int .i64) (w0 := W) 0 3 hgd (N := N) hd (xs := xs) (inner := xs.map (Value.int .i64)) (ok := fun k => wr.heap.size ≤ k) (okp := fun _ => False) hrun (reps_ints xs) (fun _ hk => hk.elim) HB.size (Below.refl _ _) (Nat.zero_le _) (by omega) ?_
  intro v1 w1 ho _ hg _
  obtain ⟨A, c, rfl⟩ := Kd.R_slice ho
  exact h A c w1 (Lib.hid ho) (Lib.hid (HB.grown hg HB.size (fun k hk => by cases hk))) (Lib.hid ((Below.refl _ _).grown hg (Nat.le_refl _) (fun k hk => by cases hk)))
theorem rule_app {w wr W : World} {u v0 v1 : Value} {out : List S150} (x : S150) (s y : Operand) (hgd : o.guard = none) (ho : o.op = .call { callee := .builtin .append, args := #[s, y], argTypes := #[127, 127] })
    (HM : Hid (Made w wr u out)) (HB : Hid (Below wr.heap.size wr W)) (g0 : Hid ((Kd.int .i64).R 3 W 0 (fun k => wr.heap.size ≤ k) v0 x.f0)) (g1 : Hid ((Kd.int .i64).R 3 W 0 (fun k => wr.heap.size ≤ k) v1 x.f1))
    (hl : out.length ≤ 1000000) (hs : a.eval s = u) (hx : a.eval y = .slice (some ⟨W.heap.size, 0, none⟩) 1 1)
    (h : ∀ u' w1, Hid (Made w w1 u' (out ++ [x])) → wpList Tryz.prog ops Q rest (a.put o.dst u') w1) : wpList Tryz.prog ops Q (o :: rest) a (W.alloc (.cells #[v0, v1] 150)) := by
  have HM := HM.out
  have HB := HB.out
  have hM := k150_mkM _ _ _ x g0.out g1.out
  refine Kd.R_append k150 (w0 := W) 0 hgd s y 127 150 (.agg #[.slice none 0 0, .slice none 0 0]) 48 ho Tryz.underlying127 info150 rfl (by decide) (by omega) u out x [v0, v1] (fun k => w.heap.size ≤ k) (fun k => wr.heap.size ≤ k) hs hx hM (fun k hk => ⟨Nat.le_trans HM.1.size hk, fun he => absurd (Kd.R_lt HM.2 k he.symm) (by omega)⟩) (fun k hk => Nat.le_trans (below_step HM.1 HB).size hk) (Kd.R_below HM.2 HB) (Below.refl _ _) (Nat.zero_le _) (by omega) ?_
  intro u' w1 ho _ hg _
  exact h u' w1 (Lib.hid ⟨(below_step HM.1 HB).grown hg (below_step HM.1 HB).size (fun k hk => HM.2.1 k hk), ho⟩)
end
theorem made_rules {w w' : World} {u : Value} {out : List S150} (h : Made w w' u out) : ∃ ad c, u = .slice ad out.length c ∧ out.length ≤ c ∧ k150.C w' ad out.length out ∧ Below w.heap.size w w' := by
  obtain ⟨ad, c, rfl, hc, hC⟩ := Kd.R_reads h.2
  exact ⟨ad, c, rfl, hc, hC, h.1⟩
def visR (n : Nat) : List S150 := (List.range n).map fun (c : Nat) => ⟨[(c : Int)], [vis c]⟩
theorem visR_succ (n : Nat) : visR (n + 1) = visR n ++ [⟨[(n : Int)], [vis n]⟩] := by simp [visR, List.range_succ]
theorem visR_len (n : Nat) : (visR n).length = n := by simp [visR]
theorem visU8 {i : Nat} (h : i < 256) : IntKind.u8.wrap (i : Int) = i := by rw [IntKind.wrap_u8]; omega
theorem mk_ad {w : World} {ad : Option Addr} {n : Nat} {xs : List S150} (h : k150.C w ad n xs) (hn : 0 < n) : ∃ x, ad = some x := by
  obtain ⟨_, _, h3⟩ := h
  obtain ⟨x, h4, _⟩ := h3 hn
  exact ⟨x, h4⟩
set_option maxRecDepth 100000 in
theorem VisRules_calls : RulesS 65 #[] (visR 256) := by
  intro w
  have HM := Lib.hid (show Made w w (.slice none 0 0) (visR 0) from ⟨Below.refl _ _, Kd.R_nil _ _ _ _ _⟩)
  go_enter Tryz.func65, Tryz.ntmps65
  go_wp2
  go_loopg [1, 3] 257 (fun kq u v w' => ∃ (i : Nat), v = .int .i64 i ∧ Hid (Made w w' u (visR i)) ∧ Hid (i ≤ 256 ∧ 257 = kq + i))
  case atStart => exact ⟨0, rfl, HM, Lib.hid ⟨by omega, by omega⟩⟩
  case round =>
    clear HM
    obtain ⟨i, rfl, HM, H⟩ := hrel
    obtain ⟨i0, i1⟩ := H.out
    clear H
    cases gk with
    | zero => exact absurd i1 (by omega)
    | succ gk =>
      by_cases hi : i < 256
      · have di : decide ((i : Int) < 256) = true := decide_eq_true (by omega)
        have hu := visU8 hi
        have hc := fun W => Lib.hid (VisDec_calls W i (by omega) (by omega))
        have hn : (visR i).length ≤ 1000000 := by rw [visR_len]; omega
        have hw := Lib.hid (wrap_nat (j := i) (by omega))
        have i1 := Lib.hid i1
        have HB := Lib.hid (Below.refl wr.heap.size wr)
        replace hc := Lib.hid hc
        clear i0
        go_wp2_with (first
          | ((with_reducible refine gate_dst (N := 8) rfl ?_); refine rlit (wr := wr) [(i : Int)] rfl (N := 8) rfl ?hr HB (by simp) ?_; (case hr => first | (go_simp; done) | (go_simp; rfl)); intro A1 c1 w1 g1 HB1 _)
          | (go_at_call 80; refine ((hc.out w1).out).mono ?_; rintro e w2 ⟨rfl, hb⟩; replace HB1 := Lib.hid (below_step HB1.out hb); replace g1 := Lib.hid (Kd.R_below g1.out hb); clear hb)
          | ((with_reducible refine gate_dst (N := 12) rfl ?_); refine rlit (wr := wr) [vis i] rfl (N := 12) rfl ?hr HB1 (by simp) ?_; (case hr => first | (go_simp; done) | (go_simp; rfl)); intro A3 c3 w3 g3 HB3 hb; replace g1 := Lib.hid (Kd.R_below g1.out hb.out); clear hb HB1)
          | ((with_reducible refine gate_builtin (b := .append) (xs := #[.tmp 6, .tmp 14]) rfl ?_); at_builtin; refine rule_app (⟨[(i : Int)], [vis i]⟩ : S150) (.tmp 6) (.tmp 14) rfl rfl HM HB3 g1 g3 hn rfl rfl ?_; intro u4 w4 HM4; clear HM HB3 g1 g3 hc))
        go_roundg gk
        case measure => omega
        case rel => exact ⟨i + 1, by first | exact congrArg (Value.int .i64) hw.out | rfl, by rw [visR_succ]; exact HM4, Lib.hid ⟨by omega, by have := i1.out; omega⟩⟩
      · obtain rfl : i = 256 := by omega
        have di : decide (((256 : Nat) : Int) < 256) = false := by decide
        go_wp2
        go_ret
        obtain ⟨ad, c, rfl, hc, hC, hb⟩ := made_rules HM.out
        obtain ⟨x, rfl⟩ := mk_ad hC (by rw [visR_len]; omega)
        exact ⟨x, c, rfl, hc, hC, hb⟩
end Go.Proofs.YtnfjgopcenpblaaGreatDoor.T

/- codec.rules of viscii and of tis-620; thai.Decode. No condition beyond the ranges. -/
namespace Go.Proofs.YtnfjgopcenpblaaGreatDoor.T
open Go.RowKit Go.Proofs.YtnfjgopcenpblaaGreatDoorW.PrintWords Go.Proofs.YtnfjgopcenpblaaGreatDoorW.PrintLast Go.Proofs.YtnfjgopcenpblaaGreatDoorW.PrintMore Go.Proofs.YtnfjgopcenpblaaGreatDoor
set_option linter.unusedVariables false
set_option linter.unusedSimpArgs false
def dec (c : Int) : Int := if c < 128 then c else if 161 ≤ c ∧ c ≤ 218 ∨ 223 ≤ c ∧ c ≤ 251 then c + 3424 else 0
def decB (c : Int) : Bool := decide (c < 128 ∨ 161 ≤ c ∧ c ≤ 218 ∨ 223 ≤ c ∧ c ≤ 251)
theorem ret_ib {k : IntKind} {a b : Int} {x y : Bool} (h1 : a = b) (h2 : x = y) : Ending.returned (.tuple #[.int k a, .bool x]) = .returned (.tuple #[.int k b, .bool y]) := by rw [h1, h2]
theorem ThaiDec_calls (c : Int) (w : World) (h0 : 0 ≤ c) (h1 : c < 256) :
    Calls Tryz.prog 69 #[.int .u8 c] w fun e w' => e = .returned (.tuple #[.int .i64 (dec c), .bool (decB c)]) ∧ w = w' := by
  go_enter Tryz.func69, Tryz.ntmps69
  go_wp2
  all_goals
    go_ret2
    refine ⟨ret_ib ?_ ?_, rfl⟩
    · unfold dec; (repeat' split) <;> omega
    · unfold decB; symm; simp; omega
def tisR (n : Nat) : List S150 := ((List.range n).filter fun (c : Nat) => decB c).map fun (c : Nat) => ⟨[(c : Int)], [dec c]⟩
theorem tisR_yes {n : Nat} (h : decB n = true) : tisR (n + 1) = tisR n ++ [⟨[(n : Int)], [dec n]⟩] := by simp [tisR, List.range_succ, h]
theorem tisR_no {n : Nat} (h : decB n = false) : tisR (n + 1) = tisR n := by simp [tisR, List.range_succ, h]
theorem tisR_len (n : Nat) : (tisR n).length ≤ n := by
  unfold tisR
  rw [List.length_map]
  exact Nat.le_trans (List.length_filter_le _ _) (by simp)
theorem codec_vis : RulesS 56 #[.string nmV] (visR 256) := by
  intro w
  have h1 : (nmV.toList == [118, 105, 115, 99, 105, 105]) = true := by kernel_rfl
  generalize nmV = nm at *
  have hr := Lib.hid VisRules_calls
  generalize visR 256 = rs at *
  go_enter Tryz.func56, Tryz.ntmps56
  go_wp2_with (first
    | (go_at_call 65; refine (hr.out w).mono ?_; rintro e w1 ⟨ad, c, rfl, hc, hC, hb1⟩; replace hC := Lib.hid hC; replace hb1 := Lib.hid hb1))
  go_ret
  exact ⟨_, _, rfl, hc, hC.out, hb1.out⟩
set_option maxRecDepth 100000 in
theorem codec_tis : RulesS 56 #[.string nmT] (tisR 256) := by
  intro w
  have h1 : (nmT.toList == [118, 105, 115, 99, 105, 105]) = false := by kernel_rfl
  have h2 : (nmT.toList == [116, 99, 118, 110, 51]) = false := by kernel_rfl
  have h3 : (nmT.toList == [118, 110, 105]) = false := by kernel_rfl
  have h4 : (nmT.toList == [116, 115, 99, 105, 105]) = false := by kernel_rfl
  have h5 : (nmT.toList == [116, 105, 115, 45, 54, 50, 48]) = true := by kernel_rfl
  generalize nmT = nm at *
  have HM := Lib.hid (show Made w w (.slice none 0 0) (tisR 0) from ⟨Below.refl _ _, Kd.R_nil _ _ _ _ _⟩)
  go_enter Tryz.func56, Tryz.ntmps56
  go_wp2
  clear h1 h2 h3 h4 h5
  go_loopg [3, 23] 257 (fun kq u v w' => ∃ (i : Nat), v = .int .i64 i ∧ Hid (Made w w' u (tisR i)) ∧ Hid (i ≤ 256 ∧ 257 = kq + i))
  case atStart => exact ⟨0, rfl, HM, Lib.hid ⟨by omega, by omega⟩⟩
  case round =>
    clear HM
    obtain ⟨i, rfl, HM, H⟩ := hrel
    obtain ⟨i0, i1⟩ := H.out
    clear H
    cases gk with
    | zero => exact absurd i1 (by omega)
    | succ gk =>
      by_cases hi : i < 256
      · have di : decide ((i : Int) < 256) = true := decide_eq_true (by omega)
        have hu := visU8 hi
        have hc := fun W => Lib.hid (ThaiDec_calls i W (by omega) (by omega))
        have hn : (tisR i).length ≤ 1000000 := Nat.le_trans (tisR_len i) (by omega)
        have hw := Lib.hid (wrap_nat (j := i) (by omega))
        have i1 := Lib.hid i1
        have HB := Lib.hid (Below.refl wr.heap.size wr)
        replace hc := Lib.hid hc
        clear i0
        by_cases hd : decB i = true
        · have ht := Lib.hid (tisR_yes hd)
          rw [hd] at hc
          clear hd
          go_wp2_with (first
          | (go_at_call 69; refine ((hc.out wr).out).mono ?_; rintro e w2 ⟨rfl, rfl⟩)
          | ((with_reducible refine gate_dst (N := 35) rfl ?_); refine rlit (wr := wr) [(i : Int)] rfl (N := 35) rfl ?hr HB (by simp) ?_; (case hr => first | (go_simp; done) | (go_simp; rfl)); intro A1 c1 w1 g1 HB1 _)
          | ((with_reducible refine gate_dst (N := 37) rfl ?_); refine rlit (wr := wr) [dec i] rfl (N := 37) rfl ?hr HB1 (by simp) ?_; (case hr => first | (go_simp; done) | (go_simp; rfl)); intro A3 c3 w3 g3 HB3 hb; replace g1 := Lib.hid (Kd.R_below g1.out hb.out); clear hb HB1)
          | ((with_reducible refine gate_builtin (b := .append) (xs := #[.tmp 33, .tmp 39]) rfl ?_); at_builtin; refine rule_app (⟨[(i : Int)], [dec i]⟩ : S150) (.tmp 33) (.tmp 39) rfl rfl HM HB3 g1 g3 hn rfl rfl ?_; intro u4 w4 HM4; clear HM HB3 g1 g3 hc))
          go_roundg gk
          case measure => omega
          case rel => exact ⟨i + 1, by first | exact congrArg (Value.int .i64) hw.out | rfl, by rw [ht.out]; exact HM4, Lib.hid ⟨by omega, by have := i1.out; omega⟩⟩
        · have hd : decB i = false := by simpa using hd
          have ht := Lib.hid (tisR_no hd)
          rw [hd] at hc
          clear hd
          go_wp2_with (first
          | (go_at_call 69; refine ((hc.out wr).out).mono ?_; rintro e w2 ⟨rfl, rfl⟩))
          go_roundg gk
          case measure => omega
          case rel => exact ⟨i + 1, by first | exact congrArg (Value.int .i64) hw.out | rfl, by rw [ht.out]; exact HM, Lib.hid ⟨by omega, by have := i1.out; omega⟩⟩
      · obtain rfl : i = 256 := by omega
        have di : decide (((256 : Nat) : Int) < 256) = false := by decide
        go_wp2
        go_ret
        obtain ⟨ad, c, rfl, hc, hC, hb⟩ := made_rules HM.out
        obtain ⟨x, rfl⟩ := mk_ad hC (Nat.lt_of_lt_of_eq (by decide : 0 < 215) (by kernel_rfl))
        exact ⟨x, c, rfl, hc, hC, hb⟩
end Go.Proofs.YtnfjgopcenpblaaGreatDoor.T

/- indic: places, Place, code. No condition beyond the ranges. -/
namespace Go.Proofs.YtnfjgopcenpblaaGreatDoor.T
open Go.RowKit Go.Proofs.YtnfjgopcenpblaaGreatDoorW.PrintWords Go.Proofs.YtnfjgopcenpblaaGreatDoorW.PrintLast Go.Proofs.YtnfjgopcenpblaaGreatDoorW.PrintMore Go.Proofs.YtnfjgopcenpblaaGreatDoor
set_option linter.unusedVariables false
set_option linter.unusedSimpArgs false
def plT : List Int := [1, 2, 3, 5, 6, 7, 8, 9, 10, 11, 14, 15, 16, 13, 18, 19, 20, 17, 21, 22, 23, 24, 25, 26, 27, 28, 29, 30, 31, 32, 33, 34, 35, 36, 37, 38, 39, 40, 41, 42, 43, 44, 45, 46, 47, 95, 48, 49, 50, 51, 52, 53, 54, 55, 56, 57, -1, 62, 63, 64, 65, 66, 67, 70, 71, 72, 69, 74, 75, 76, 73, 77, 60, -1]
def plVal : Array Value := (plT.map (Value.int .i64)).toArray
def zPl : Array Value := (List.replicate 74 (Value.int .i64 0)).toArray
def plB (c : Int) : Bool := decide (161 ≤ c ∧ c ≤ 234 ∧ 0 ≤ plT.getD (c.toNat - 161) 0 ∨ 241 ≤ c ∧ c ≤ 250)
def plF (c : Int) : Int := if 161 ≤ c ∧ c ≤ 234 then max 0 (plT.getD (c.toNat - 161) 0) else if 241 ≤ c ∧ c ≤ 250 then c - 139 else 0
theorem plVal_get (n : Nat) (h : n < 74) : plVal[n]? = some (.int .i64 (plT.getD n 0)) := by
  have h' : n < plT.length := h
  simp [plVal, h']
theorem pl_index (n : Nat) (h : n < 74) (w : World) : (Instr.index 195 (.agg plVal) (.int .u8 n)).run Tryz.prog w = .ok (.int .i64 (plT.getD n 0)) w :=
  run_index_arr 195 3 74 _ _ Tryz.underlying195 (fun _ => by kernel_rfl) (fun _ => by kernel_rfl) w n _ h (plVal_get n h)
attribute [irreducible] plT plVal zPl
set_option maxRecDepth 100000 in
theorem places_calls (w : World) : Calls Tryz.prog 93 #[] w fun e w' => e = .returned (.agg plVal) ∧ Below w.heap.size w w' := by
  go_enter Tryz.func93, Tryz.ntmps93
  go_wp2_with (first
    | with_reducible refine runTo_ (o := ⟨some 1, .build 195 _, _, _, _, _⟩) rfl (some 1) rfl (.agg plVal) (w.alloc (.cells zPl 195)) (by kernel_rfl) ?_
    | with_reducible refine runTo_ (o := ⟨some 0, .alloc 195, _, _, _, _⟩) rfl (some 0) rfl (.pointer (some ⟨w.heap.size, 0, none⟩)) (w.alloc (.cells zPl 195)) (by kernel_rfl) ?_
    | with_reducible refine wpList_store_fresh (o := ⟨none, .store 195 _ _, _, _, _, _⟩) rfl 195 _ _ rfl rfl plVal zPl 195 (by kernel_rfl) (by kernel_rfl) (by kernel_rfl) (by kernel_rfl) (by kernel_rfl) ?_)
  refine bodyPost_ret (v := .agg plVal) (results_cell_row rfl _ _ w.heap.size 195 plVal (0, 0) _ rfl (by show (w.heap.push _)[_]? = _; simp) Tryz.underlying195 rfl (by kernel_rfl)) rfl ⟨rfl, (Below.refl _ _).alloc (Nat.le_refl _) _⟩
set_option maxRecDepth 100000 in
theorem Place_calls (w : World) (c : Int) (h0 : 0 ≤ c) (h1 : c < 256) : Calls Tryz.prog 77 #[.int .u8 c] w fun e w' => e = .returned (.tuple #[.int .i64 (plF c), .bool (plB c)]) ∧ Below w.heap.size w w' := by
  by_cases h : 161 ≤ c ∧ c ≤ 234
  · have hn : c.toNat - 161 < 74 := by omega
    have hf : max 0 (plT.getD (c.toNat - 161) 0) = plF c := by unfold plF; rw [if_pos h]
    have hb : decide (0 ≤ plT.getD (c.toNat - 161) 0) = plB c := by unfold plB; rw [decide_eq_decide]; omega
    have hg := pl_index _ hn
    have ew : ((c.toNat - 161 : Nat) : Int) = c - 161 := by omega
    rw [ew] at hg
    have hw : IntKind.u8.wrap (c - 161) = c - 161 := by rw [IntKind.wrap_u8]; omega
    replace hf := Lib.hid hf
    replace hb := Lib.hid hb
    have d1 : decide (161 ≤ c) = true := decide_eq_true h.1
    have d2 : decide (c ≤ 234) = true := decide_eq_true h.2
    clear h0 h1 h ew hn
    generalize plT.getD (c.toNat - 161) 0 = v at *
    have hc := Lib.hid places_calls
    generalize plVal = V at *
    go_enter Tryz.func77, Tryz.ntmps77
    go_wp2_with (go_at_call 93; refine (hc.out w).mono ?_; rintro e w' ⟨rfl, hbb⟩; replace hbb := Lib.hid hbb)
    go_ret2
    exact ⟨ret_ib hf.out hb.out, hbb.out⟩
  · go_enter Tryz.func77, Tryz.ntmps77
    go_wp2
    all_goals
      go_ret2
      refine ⟨ret_ib ?_ ?_, Below.refl _ _⟩
      · unfold plF; rw [if_neg h]; (repeat' split) <;> omega
      · unfold plB; symm; simp; omega
def cdT : List Int := [66, 67, 75, 74, 71, 68, 69, 72, 73]
theorem code_calls (w : World) (s : Nat) (h : s < 9) : Calls Tryz.prog 79 #[.int .i64 s] w fun e w' => e = .returned (.int .i64 (cdT.getD s 0)) ∧ w = w' := by
  have hg : ∀ w, (Instr.index 197 (.agg (cdT.map (Value.int .i64)).toArray) (.int .i64 s)).run Tryz.prog w = .ok (.int .i64 (cdT.getD s 0)) w := fun w =>
    run_index_arr 197 3 9 _ _ Tryz.underlying197 (fun _ => by kernel_rfl) (fun _ => by kernel_rfl) w s _ h (by
      have h' : s < cdT.length := h
      simp [h'])
  go_enter Tryz.func79, Tryz.ntmps79
  generalize cdT.getD s 0 = v at *
  generalize hV : (cdT.map (Value.int .i64)).toArray = V at *
  go_wp2_with (with_reducible refine runTo_ (o := ⟨some 3, .build 197 _, _, _, _, _⟩) rfl (some 3) rfl (.agg V) w (by subst hV; kernel_rfl) ?_)
  go_ret
  exact ⟨rfl, rfl⟩
end Go.Proofs.YtnfjgopcenpblaaGreatDoor.T

/- indic: Nukta and Rules, iscii's table. No condition beyond the ranges. -/
namespace Go.Proofs.YtnfjgopcenpblaaGreatDoor.T
open Go.RowKit Go.Proofs.YtnfjgopcenpblaaGreatDoorW.PrintWords Go.Proofs.YtnfjgopcenpblaaGreatDoorW.PrintLast Go.Proofs.YtnfjgopcenpblaaGreatDoorW.PrintMore Go.Proofs.YtnfjgopcenpblaaGreatDoor
set_option linter.unusedVariables false
set_option linter.unusedSimpArgs false
section
variable {ops : Array Oper} {rest : List Oper} {o : Oper} {a : Act} {Q : Exit → Act → World → Prop}
/-- blocks of other types stay -/
def Keeps (W w1 : World) : Prop := ∀ (b : Nat) (cs : Array Value) (t : TypeId), W.heap[b]? = some (Obj.cells cs t (0, 0)) → t ≠ 150 → w1.heap[b]? = some (Obj.cells cs t (0, 0))
theorem rule_appk {w wr W : World} {u v0 v1 : Value} {out : List S150} (x : S150) (s y : Operand) (hgd : o.guard = none) (ho : o.op = .call { callee := .builtin .append, args := #[s, y], argTypes := #[127, 127] })
    (HM : Hid (Made w wr u out)) (HB : Hid (Below wr.heap.size wr W)) (g0 : Hid ((Kd.int .i64).R 3 W 0 (fun k => wr.heap.size ≤ k) v0 x.f0)) (g1 : Hid ((Kd.int .i64).R 3 W 0 (fun k => wr.heap.size ≤ k) v1 x.f1))
    (hl : out.length ≤ 1000000) (hs : a.eval s = u) (hx : a.eval y = .slice (some ⟨W.heap.size, 0, none⟩) 1 1)
    (h : ∀ u' w1, Hid (Made w w1 u' (out ++ [x])) → Hid (Keeps wr w1) → wpList Tryz.prog ops Q rest (a.put o.dst u') w1) : wpList Tryz.prog ops Q (o :: rest) a (W.alloc (.cells #[v0, v1] 150)) := by
  have HM := HM.out
  have HB := HB.out
  have hM := k150_mkM _ _ _ x g0.out g1.out
  refine Kd.R_append k150 (w0 := W) 0 hgd s y 127 150 (.agg #[.slice none 0 0, .slice none 0 0]) 48 ho Tryz.underlying127 info150 rfl (by decide) (by omega) u out x [v0, v1] (fun k => w.heap.size ≤ k) (fun k => wr.heap.size ≤ k) hs hx hM (fun k hk => ⟨Nat.le_trans HM.1.size hk, fun he => absurd (Kd.R_lt HM.2 k he.symm) (by omega)⟩) (fun k hk => Nat.le_trans (below_step HM.1 HB).size hk) (Kd.R_below HM.2 HB) (Below.refl _ _) (Nat.zero_le _) (by omega) ?_
  intro u' w1 ho _ hg _
  exact h u' w1 (Lib.hid ⟨(below_step HM.1 HB).grown hg (below_step HM.1 HB).size (fun k hk => HM.2.1 k hk), ho⟩) (Lib.hid (fun b cs t hb ht => blk_grown (blk_below hb HB) hg (Kd.R_ne HM.2 hb ht.symm)))
/-- several rules at once, as a row that was written -/
theorem rules_app {w wr W : World} {u v : Value} {out xs : List S150} (s y : Operand) (hgd : o.guard = none) (ho : o.op = .call { callee := .builtin .append, args := #[s, y], argTypes := #[127, 127] })
    (HM : Made w wr u out) (HB : Below wr.heap.size wr W) (g : k150.R 150 W 0 (fun k => wr.heap.size ≤ k) v xs) (hl : out.length ≤ 1000000) (hx1 : xs.length ≤ 1000000) (hs : a.eval s = u) (hx : a.eval y = v)
    (h : ∀ u' w1, Hid (Made w w1 u' (out ++ xs)) → wpList Tryz.prog ops Q rest (a.put o.dst u') w1) : wpList Tryz.prog ops Q (o :: rest) a W := by
  obtain ⟨A, c, rfl, hc, hR⟩ := OwnRow.reads g.2
  refine Kd.R_append_rows k150 (w0 := W) 0 hgd s y 127 150 (.agg #[.slice none 0 0, .slice none 0 0]) 48 ho Tryz.underlying127 info150 rfl (by decide) (by omega) u out xs A _ c (fun k => w.heap.size ≤ k) (fun k => wr.heap.size ≤ k) hs hx (Kd.R_below HM.2 HB) hR (fun x cs hp => k150.M_mono (fun k hk => hk.1) hp) (fun k hk => ⟨Nat.le_trans HM.1.size hk, fun he => absurd (Kd.R_lt HM.2 k he.symm) (by omega)⟩) (fun k hk => Nat.le_trans (below_step HM.1 HB).size hk) (Below.refl _ _) (Nat.zero_le _) (by omega) ?_
  intro u' w1 ho _ hg _
  exact h u' w1 (Lib.hid ⟨(below_step HM.1 HB).grown hg (below_step HM.1 HB).size (fun k hk => HM.2.1 k hk), ho⟩)
end
def nkT : List (Int × Int) := [(161, 80), (166, 12), (167, 97), (170, 96), (179, 88), (180, 89), (181, 90), (186, 91), (191, 92), (192, 93), (201, 94), (219, 98), (220, 99), (223, 68)]
def nkArr : Array Value := (nkT.flatMap fun x => [.int .i64 x.1, .int .i64 x.2]).toArray
def nkR (n : Nat) : List S150 := (nkT.take n).map fun x => ⟨[x.1, 233], [x.2]⟩
def nk0 (i : Nat) : Int := (nkT.getD i (0, 0)).1
def nk1 (i : Nat) : Int := (nkT.getD i (0, 0)).2
theorem nk_get (k : Nat) (h : k < 14) : nkArr[k * 2]? = some (.int .i64 (nk0 k)) ∧ nkArr[k * 2 + 1]? = some (.int .i64 (nk1 k)) := by
  rcases k with _ | _ | _ | _ | _ | _ | _ | _ | _ | _ | _ | _ | _ | _ | k <;> first | exact ⟨rfl, rfl⟩ | omega
theorem nkR_succ (k : Nat) (h : k < 14) : nkR (k + 1) = nkR k ++ [⟨[nk0 k, 233], [nk1 k]⟩] := by
  rcases k with _ | _ | _ | _ | _ | _ | _ | _ | _ | _ | _ | _ | _ | _ | k <;> first | rfl | omega
theorem nkR_len (n : Nat) : (nkR n).length ≤ 14 := by unfold nkR; rw [List.length_map]; exact Nat.le_trans (List.length_take_le' _ _) (Nat.le_refl 14)
attribute [irreducible] nkArr nk0 nk1 nkT
theorem Nukta_calls (w : World) : Calls Tryz.prog 78 #[] w fun e w' => e = .returned (.slice (some ⟨w.heap.size, 0, none⟩) 14 14) ∧ w.alloc (.cells nkArr 166) = w' := by
  go_enter Tryz.func78, Tryz.ntmps78
  go_wp2_with (with_reducible refine runTo_ (o := ⟨some 15, .buildSlice 164 14 _, _, _, _, _⟩) rfl (some 15) rfl (.slice (some ⟨w.heap.size, 0, none⟩) 14 14) (w.alloc (.cells nkArr 166)) (by kernel_rfl) ?_)
  go_ret
  exact ⟨rfl, rfl⟩
def ascR (n : Nat) : List S150 := (List.range n).map fun (c : Nat) => ⟨[(c : Int)], [8192 + (c : Int)]⟩
theorem ascR_succ (n : Nat) : ascR (n + 1) = ascR n ++ [⟨[(n : Int)], [8192 + (n : Int)]⟩] := by simp [ascR, List.range_succ]
theorem ascR_len (n : Nat) : (ascR n).length = n := by simp [ascR]
def plR (n : Nat) : List S150 := ((List.range n).filter fun (c : Nat) => plB (161 + c)).map fun (c : Nat) => ⟨[161 + (c : Int)], [plF (161 + c)]⟩
theorem plR_yes {n : Nat} (h : plB (161 + n) = true) : plR (n + 1) = plR n ++ [⟨[161 + (n : Int)], [plF (161 + n)]⟩] := by simp [plR, List.range_succ, h]
theorem plR_no {n : Nat} (h : plB (161 + n) = false) : plR (n + 1) = plR n := by simp [plR, List.range_succ, h]
theorem plR_len (n : Nat) : (plR n).length ≤ n := by
  unfold plR
  rw [List.length_map]
  exact Nat.le_trans (List.length_filter_le _ _) (by simp)
def swR (n : Nat) : List S150 := (List.range n).map fun (s : Nat) => ⟨[239, cdT.getD s 0], [4096 + (s : Int)]⟩
theorem swR_succ (n : Nat) : swR (n + 1) = swR n ++ [⟨[239, cdT.getD n 0], [4096 + (n : Int)]⟩] := by simp [swR, List.range_succ]
theorem swR_len (n : Nat) : (swR n).length = n := by simp [swR]
def laR : List S150 := [⟨[217], [16397]⟩, ⟨[234], [10596]⟩, ⟨[234, 233], [61]⟩, ⟨[232, 232], [77, 16396]⟩, ⟨[232, 233], [77, 16397]⟩, ⟨[240, 184], [82]⟩, ⟨[240, 191], [112]⟩]
def irR : List S150 := ascR 128 ++ plR 90 ++ nkR 14 ++ swR 9 ++ laR
end Go.Proofs.YtnfjgopcenpblaaGreatDoor.T
