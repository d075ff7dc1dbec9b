/- Texts of this claim, one behind the other (merged by a program): TT5, TT6, TT7, TT8, TT9. No condition of their own. -/
import Derived.Test.YtnfjgopcenpblaaGreatDoorM09
import Derived.Great.Walk
/- Rows of tokens by marks: append and literal; the indic places. No condition beyond the ranges. -/
namespace Go.Proofs.YtnfjgopcenpblaaGreatDoor.T
open Go.RowKit Go.Proofs.YtnfjgopcenpblaaGreatDoorW.PrintWords Go.Proofs.YtnfjgopcenpblaaGreatDoorW.PrintLast Go.Proofs.YtnfjgopcenpblaaGreatDoorW.PrintMore Go.Proofs.YtnfjgopcenpblaaGreatDoor
set_option linter.unusedVariables false
set_option linter.unusedSimpArgs false
section
variable {ops : Array Oper} {rest : List Oper} {o : Oper} {a : Act} {Q : Exit → Act → World → Prop}
theorem run_toks_app {W : World} {f : Nat → Nat} {y y2 : Nat} {ty : TypeId} {v u : Value} {xs ys : List S66} (hy : y ≠ 0) (T1 : Toks W f y v xs) (T2 : Toks W f y2 u ys) (hl : xs.length + ys.length ≤ 1000000) :
    ∃ v1 w1 f1, (Builtin.append_ #[49, 49] ty #[v, u]).run Tryz.prog W = .ok v1 w1 ∧ Toks w1 f1 y v1 (xs ++ ys) ∧ Ext (fun z => z = y) W w1 f f1 := by
  obtain ⟨i0, hi, hzz⟩ := Option.map_eq_some_iff.1 info66
  simp only [Prod.mk.injEq] at hzz
  obtain ⟨hz0, hz1, hz2⟩ := hzz
  obtain ⟨inner, hown, hr⟩ := T1.row
  obtain ⟨A, c, rfl, hlc, hrd⟩ := T2.row.reads
  rcases A with _ | ad
  · have h0 : ys.length = 0 := by
      rcases Nat.eq_zero_or_pos ys.length with h0 | h0
      · exact h0
      · obtain ⟨ad, h, _⟩ := hrd.2.2 h0
        cases h
    obtain rfl : ys = [] := List.eq_nil_of_length_eq_zero h0
    refine ⟨v, W, f, ?_, by rw [List.append_nil]; exact T1, Ext.refl _ _ _⟩
    rcases hown.2 with ⟨rfl, hn⟩ | ⟨g, cap, cur, rfl, _, _, hnc, _⟩
    · simp [Builtin.append_, run_underlying Tryz.underlying49, sizeOf, typeInfo, hi, Builtin.lenOf, Builtin.firstCells]
    · simp [Builtin.append_, run_underlying Tryz.underlying49, sizeOf, typeInfo, hi, Builtin.lenOf, Builtin.firstCells, hnc, storeCells]
  · obtain ⟨news, hnr, hnc⟩ := ReadsRow.inner_ hrd
    have hone : ∀ u ∈ news, u.oneCell' = true := by
      intro u hu
      obtain ⟨q, hq, rfl⟩ := List.mem_iff_getElem.1 hu
      have hql : q / 4 < ys.length := by
        rw [Nat.div_lt_iff_lt_mul (by decide), ← hnr.1]
        exact hq
      have hc := hnr.2 (q / 4) _ (List.getElem?_eq_getElem hql)
      refine k66.K_one (k66.K_of_M hc) _ ?_
      rw [List.mem_iff_getElem?]
      refine ⟨q % 4, ?_⟩
      rw [List.getElem?_take, if_pos (Nat.mod_lt _ (by decide)), List.getElem?_drop, Nat.mul_comm, Nat.div_add_mod, List.getElem?_eq_getElem hq]
    obtain ⟨v1, w1, hrun, h2, hg, _, hat⟩ := run_append_own_at (P := Tryz.prog) W 0 49 ty 66 i0 (.agg #[.int .i64 0, .int .i64 0, .slice none 0 0, .int .i64 0]) 4 48 Tryz.underlying49 hi hz0 hz1 hz2 (by decide) (by decide) v xs.length inner hown ad ys.length c news hnr.1 hnc hone (by simp only [maxLen]; omega) (by omega) (Nat.zero_le _)
    have hvy : ∀ k, v.ownBlock = some k → f k = y := T1.own
    have hE : Ext (fun z => z = y) W w1 f (markF f W.heap.size y v1) := ⟨hg.size, fun k hk => if_pos hk, fun k hk hn => hg.block k hk (fun e => hn (hvy k e.symm)), hg.os, hg.tape, hg.output⟩
    have step : ∀ {q : S66} {cs : List Value}, k66.M W 0 (fun k => f k = 0) q cs → k66.M w1 0 (fun k => markF f W.heap.size y v1 k = 0) q cs := by
      intro q cs hq
      have h1 := k66.M_move (w1 := w1) (fun k hk => hg.block k hk.2.2.1 (fun e => hy (by rw [← hvy k e.symm]; exact hk.1))) (k66.M_bound hq)
      exact k66.M_mono (fun k hk => by unfold markF; rw [if_pos hk.2.2.1]; exact hk.1) h1
    refine ⟨v1, w1, _, hrun, ⟨fun k hk => ?_, inner ++ news, by rw [List.length_append]; exact h2, Kd.reps_append (hr.imp_ (fun _ _ hq => step hq)) (hnr.imp_ (fun _ _ hq => step hq))⟩, hE⟩
    unfold markF
    rcases hat with hat | hat
    · have hkl := own_lt hown k (hat ▸ hk)
      rw [if_pos hkl]; exact hvy k (hat ▸ hk)
    · rw [hat] at hk
      have hk2 := Option.some.inj hk
      rw [if_neg (by omega), if_pos (by rw [hat, hk2])]
theorem toks_app {W : World} {f : Nat → Nat} {y y2 : Nat} {v u : Value} {xs ys : List S66} (hy : y ≠ 0) (hgd : o.guard = none) (s x : Operand)
    (ho : o.op = .call { callee := .builtin .append, args := #[s, x], argTypes := #[49, 49] }) (T1 : Toks W f y v xs) (T2 : Toks W f y2 u ys) (hs : a.eval s = v) (hx : a.eval x = u) (hl : xs.length + ys.length ≤ 1000000)
    (h : ∀ v1 w1 f1, Toks w1 f1 y v1 (xs ++ ys) → Ext (fun z => z = y) W w1 f f1 → wpList Tryz.prog ops Q rest (a.put o.dst v1) w1) : wpList Tryz.prog ops Q (o :: rest) a W := by
  obtain ⟨v1, w1, f1, hr1, h1, h2⟩ := run_toks_app (ty := o.type) hy T1 T2 hl
  refine wpList_plain hgd fun K hK => ?_
  unfold Oper.wp execOp
  simp only [ho, resolve, invoke, builtin, Sem.run_bind, Sem.run_pure, Result.andThen_ok, List.map_toArray, List.map_cons, List.map_nil, hs, hx, hr1]
  exact hK _ _ (h v1 w1 f1 h1 h2)
/-- a row of one token -/
theorem toks_lit {W : World} {f : Nat → Nat} {y : Nat} {c0 c1 c2 c3 : Value} {tok : S66} (hgd : o.guard = none)
    (hrun : (execOp a.eval o).run Tryz.prog W = .ok (.value (.slice (some ⟨W.heap.size, 0, none⟩) 1 1)) (W.alloc (.cells #[c0, c1, c2, c3] 66)))
    (hM : k66.M W 0 (fun k => f k = 0) tok [c0, c1, c2, c3])
    (h : ∀ v1 w1 f1, Toks w1 f1 y v1 [tok] → Ext (fun _ => False) W w1 f f1 → wpList Tryz.prog ops Q rest (a.put o.dst v1) w1) : wpList Tryz.prog ops Q (o :: rest) a W := by
  have hb : Below W.heap.size W (W.alloc (.cells #[c0, c1, c2, c3] 66)) := below_alloc (Below.refl _ _) _
  have hM2 : k66.M (W.alloc (.cells #[c0, c1, c2, c3] 66)) 0 (fun k => markF f W.heap.size y (.slice (some ⟨W.heap.size, 0, none⟩) 1 1) k = 0) tok [c0, c1, c2, c3] :=
    k66.M_mono (fun k hk => by unfold markF; rw [if_pos hk.2.2.1]; exact hk.1) (Kd.M_below (k66.M_bound hM) hb)
  refine Kd.event_run hgd hrun (h _ _ (markF f W.heap.size y (.slice (some ⟨W.heap.size, 0, none⟩) 1 1)) ⟨fun k hk => ?_, [c0, c1, c2, c3], ?_, Reps.c4 hM2 (Reps.none _ _)⟩ ⟨hb.size, fun k hk => if_pos hk, fun k hk _ => hb.block k hk, hb.os, hb.tape, hb.output⟩)
  · have hk2 : W.heap.size = k := by simpa [Value.ownBlock] using hk
    unfold markF
    rw [if_neg (by omega), if_pos (by simp [Value.ownBlock, hk2])]
  · exact World.ownsRow_lit (base := 0) (e := 66) (size := 4) W #[c0, c1, c2, c3] 1 (Nat.zero_le _) (by simp [maxLen]) (by simp)
end
def ofI (u : Int) : Int × Int × Bool := if u < 2304 ∨ 3456 ≤ u ∨ u = 2404 then (0, 0, false) else ((u - 2304) / 128, (u - 2304) % 128, true)
theorem Of2_calls (w : World) (u : Int) : Calls Tryz.prog 146 #[.int .i64 u] w fun e w' => e = .returned (.tuple #[.int .i64 (ofI u).1, .int .i64 (ofI u).2.1, .bool (ofI u).2.2]) ∧ w = w' := by
  by_cases h : u < 2304 ∨ 3456 ≤ u ∨ u = 2404
  · have e : ofI u = (0, 0, false) := if_pos h
    rw [e]
    dsimp only
    clear e
    go_enter Tryz.func146, Tryz.ntmps146
    rcases h with h | h | h
    · have d : decide (u < 2304) = true := decide_eq_true h
      go_wp2
      go_ret3
      exact ⟨rfl, rfl⟩
    · have d0 : decide (u < 2304) = false := decide_eq_false (by omega)
      have d : decide (3456 ≤ u) = true := decide_eq_true h
      go_wp2
      go_ret3
      exact ⟨rfl, rfl⟩
    · subst h
      go_wp2
      go_ret3
      exact ⟨rfl, rfl⟩
  · have e : ofI u = ((u - 2304) / 128, (u - 2304) % 128, true) := if_neg h
    rw [e]
    dsimp only
    clear e
    have d0 : decide (u < 2304) = false := decide_eq_false (by omega)
    have d1 : decide (3456 ≤ u) = false := decide_eq_false (by omega)
    have d2 : (u == 2404) = false := beq_eq_false_iff_ne.mpr (by omega)
    have h0 : 2304 ≤ u := by omega
    have h1 : u < 3456 := by omega
    clear h
    go_enter Tryz.func146, Tryz.ntmps146
    go_wp2
    go_ret3
    exact ⟨rfl, rfl⟩
def codeI : Int → Int
  | 0 => 66 | 1 => 67 | 2 => 75 | 3 => 74 | 4 => 71 | 5 => 68 | 6 => 69 | 7 => 72 | 8 => 73 | _ => 0
theorem ofI_sc {u : Int} (h : (ofI u).2.2 = true) : 0 ≤ (ofI u).1 ∧ (ofI u).1 < 9 := by
  unfold ofI at h ⊢
  split at h
  · cases h
  · rename_i hn
    rw [if_neg hn]
    exact ⟨by omega, by omega⟩
theorem nine {s : Int} (h0 : 0 ≤ s) (h9 : s < 9) : s = 0 ∨ s = 1 ∨ s = 2 ∨ s = 3 ∨ s = 4 ∨ s = 5 ∨ s = 6 ∨ s = 7 ∨ s = 8 := by omega
@[irreducible] def codesArr : Array Value := #[.int .i64 66, .int .i64 67, .int .i64 75, .int .i64 74, .int .i64 71, .int .i64 68, .int .i64 69, .int .i64 72, .int .i64 73]
theorem Cd_calls (w : World) (s : Int) (h0 : 0 ≤ s) (h9 : s < 9) : Calls Tryz.prog 79 #[.int .i64 s] w fun e w' => e = .returned (.int .i64 (codeI s)) ∧ w = w' := by
  go_enter Tryz.func79, Tryz.ntmps79
  go_wp2_with (first
    | with_reducible refine Go.Great.wpList_runTo (o := ⟨some 3, .build 197 _, _, _, _, _⟩) rfl (some 3) rfl (.agg codesArr) w (by kernel_rfl) ?_
    | with_reducible refine Go.Great.wpList_runTo (o := ⟨some 5, .index 197 _ _, _, _, _, _⟩) rfl (some 5) rfl (.int .i64 (codeI s)) w (by rcases nine h0 h9 with rfl | rfl | rfl | rfl | rfl | rfl | rfl | rfl | rfl <;> kernel_rfl) ?_)
  go_ret
  exact ⟨rfl, rfl⟩
theorem Code_calls (w : World) (s : Int) (h0 : 0 ≤ s) (h9 : s < 9) : Calls Tryz.prog 147 #[.int .i64 s] w fun e w' => e = .returned (.tuple #[.int .i64 (codeI s), .bool true]) ∧ w = w' := by
  have hc := Lib.hid (Cd_calls w s h0 h9)
  have d0 : decide (s < 0) = false := decide_eq_false (by omega)
  have d1 : decide (9 ≤ s) = false := decide_eq_false (by omega)
  go_enter Tryz.func147, Tryz.ntmps147
  go_wp2_with (first
    | (go_at_call 79; refine hc.out.mono ?_; rintro e w' ⟨rfl, rfl⟩))
  go_ret2
  exact ⟨rfl, rfl⟩
end Go.Proofs.YtnfjgopcenpblaaGreatDoor.T

/- iscii's writer: Put and End. No condition beyond the ranges. -/
namespace Go.Proofs.YtnfjgopcenpblaaGreatDoor.T
open Go.RowKit Go.Proofs.YtnfjgopcenpblaaGreatDoorW.PrintWords Go.Proofs.YtnfjgopcenpblaaGreatDoorW.PrintLast Go.Proofs.YtnfjgopcenpblaaGreatDoorW.PrintMore Go.Proofs.YtnfjgopcenpblaaGreatDoor
set_option linter.unusedVariables false
set_option linter.unusedSimpArgs false
def T20 (z : Nat) : Prop := 20 ≤ z ∧ z < 30
/-- iscii's writer, by marks: 20 its block, 22 its encoder, 21 that one's match; rows of tokens 29 and 28 -/
structure IE (w : World) (f : Nat → Nat) (b e : Nat) (bs : Value) (rs : List S150) (s a : Int) (us : List Int) (ea : Int) (ah : List Int) : Prop where
  blk : w.heap[b]? = some (.cells #[.pointer (some ⟨e, 0, none⟩), .int .i64 s, .int .i64 a, bs] 132 (0, 0))
  en : En w f 22 21 e us ea rs ah
  fb : f b = 20
theorem IE.ext {T : Nat → Prop} {w w' : World} {f f' : Nat → Nat} {b e : Nat} {bs : Value} {rs : List S150} {s a ea : Int} {us ah : List Int} (h : IE w f b e bs rs s a us ea ah) (x : Ext T w w' f f') (h0 : ¬ T 0) (h1 : ¬ T 20) (h2 : ¬ T 21) (h3 : ¬ T 22) : IE w' f' b e bs rs s a us ea ah :=
  ⟨x.blk h.blk (by rw [h.fb]; exact h1), h.en.ext x h0 h3 h2, (x.tg h.blk).trans h.fb⟩
def PSt (w : World) (f : Nat → Nat) (b e : Nat) (bs : Value) (rs : List S150) (v : Value) (ts : List S66) (s a : Int) (us : List Int) (ea : Int) (ah : List Int) (W : World) : Prop :=
  ∃ f1, Ext T20 w W f f1 ∧ Toks W f1 29 v ts ∧ IE W f1 b e bs rs s a us ea ah
section
variable {w W W2 : World} {f : Nat → Nat} {b e : Nat} {bs : Value} {rs : List S150} {v : Value} {ts : List S66} {s a ea : Int} {us ah : List Int}
theorem PSt.below (h : PSt w f b e bs rs v ts s a us ea ah W) (hb : Below W.heap.size W W2) : PSt w f b e bs rs v ts s a us ea ah W2 := by
  obtain ⟨f1, E, T, I⟩ := h
  have hE := Ext.new (T := fun _ => False) (f := f1) 0 hb
  exact ⟨_, E.trans (hE.mono (fun _ h => h.elim)), T.ext hE (fun h => h) (fun h => h), I.ext hE (fun h => h) (fun h => h) (fun h => h) (fun h => h)⟩
theorem PSt.facts (h : PSt w f b e bs rs v ts s a us ea ah W) : W.cell? ⟨b, 0, none⟩ = some (.pointer (some ⟨e, 0, none⟩)) ∧ W.cell? ⟨b, 1, none⟩ = some (.int .i64 s) ∧ W.cell? ⟨b, 2, none⟩ = some (.int .i64 a) ∧ W.frozen? ⟨b, 1, none⟩ = false ∧ W.frozen? ⟨b, 2, none⟩ = false := by
  obtain ⟨f1, E, T, I⟩ := h
  exact ⟨(blk_cell I.blk 0).trans rfl, (blk_cell I.blk 1).trans rfl, (blk_cell I.blk 2).trans rfl, blk_frozen I.blk 1, blk_frozen I.blk 2⟩
theorem p_end (hk : Okay rs) (h : PSt w f b e bs rs v ts s a us ea ah W) (ha : ah.length ≤ 8) (hl : us.length ≤ 100) :
    Calls Tryz.prog 145 #[.pointer (some ⟨e, 0, none⟩)] W (fun en W2 => ∃ u, en = .returned u ∧ PSt w f b e bs rs u (eEnd rs ah us ea).1 s a (endF (wn rs) (wo rs) us ea).2.1 (endF (wn rs) (wo rs) us ea).2.2 (eEnd rs ah us ea).2 W2) := by
  obtain ⟨f1, E, T, I⟩ := h
  refine (EEnd_calls W f1 22 21 29 e us ea rs ah I.en hk (by decide) ha hl).mono ?_
  rintro en W2 ⟨u, f2, rfl, E2, T2, M2⟩
  exact ⟨u, rfl, f2, E.trans (E2.mono (by rintro z (h | h | h) <;> (unfold T20; omega))), T2, E2.blk I.blk (by rw [I.fb]; decide), M2, (E2.tg I.blk).trans I.fb⟩
theorem p_put (hk : Okay rs) (h : PSt w f b e bs rs v ts s a us ea ah W) (ha : ah.length ≤ 8) (hl : us.length ≤ 99) (u : Int) :
    Calls Tryz.prog 149 #[.pointer (some ⟨e, 0, none⟩), .int .i64 u] W (fun en W2 => ∃ u1 f2, en = .returned u1 ∧ Ext T20 w W2 f f2 ∧ Toks W2 f2 29 v ts ∧ Toks W2 f2 28 u1 (ePut rs ah us ea u).1 ∧ IE W2 f2 b e bs rs s a (putF (wn rs) (wo rs) us ea u).2.1 (putF (wn rs) (wo rs) us ea u).2.2 (ePut rs ah us ea u).2) := by
  obtain ⟨f1, E, T, I⟩ := h
  refine (EPut_calls W f1 22 21 28 e us ea u rs ah I.en hk (by decide) ha hl).mono ?_
  rintro en W2 ⟨u1, f2, rfl, E2, T2, M2⟩
  exact ⟨u1, f2, rfl, E.trans (E2.mono (by rintro z (h | h | h) <;> (unfold T20; omega))), T.ext E2 (by decide) (by decide), T2, E2.blk I.blk (by rw [I.fb]; decide), M2, (E2.tg I.blk).trans I.fb⟩
theorem p_apart (h : PSt w f b e bs rs v ts s a us ea ah W) :
    Calls Tryz.prog 148 #[.pointer (some ⟨e, 0, none⟩)] W (fun en W2 => en = .returned (.tuple #[]) ∧ PSt w f b e bs rs v ts s a us ea [] W2) := by
  obtain ⟨f1, E, T, I⟩ := h
  refine (Apart_calls W f1 22 21 e us ea rs ah I.en (by decide) (by decide)).mono ?_
  rintro en W2 ⟨rfl, E2, M2⟩
  exact ⟨rfl, f1, E.trans (E2.mono (by rintro z h; unfold T20; omega)), T.ext E2 (by decide) (by decide), E2.blk I.blk (by rw [I.fb]; decide), M2, I.fb⟩
theorem p_store (h : PSt w f b e bs rs v ts s a us ea ah W) (i : Nat) (x : Value) (s2 a2 : Int) (hi : (#[Value.pointer (some ⟨e, 0, none⟩), .int .i64 s, .int .i64 a, bs].set! i x) = #[.pointer (some ⟨e, 0, none⟩), .int .i64 s2, .int .i64 a2, bs]) :
    PSt w f b e bs rs v ts s2 a2 us ea ah (W.setCell ⟨b, i, none⟩ x) := by
  obtain ⟨f1, E, T, I⟩ := h
  have hE : Ext (fun z => z = 20) W (W.setCell ⟨b, i, none⟩ x) f1 f1 := ⟨by simp [World.setCell], fun _ _ => rfl, fun k hk hn => Below.heap_setCell W ⟨b, i, none⟩ x k (fun he => hn (by rw [show k = b from he]; exact I.fb)), rfl, rfl, rfl⟩
  exact ⟨f1, E.trans (hE.mono (by rintro z h; unfold T20; omega)), T.ext hE (by decide) (by decide), ⟨blk_put I.blk i x hi, I.en.ext hE (by decide) (by decide) (by decide), I.fb⟩⟩
/-- a row of numbers, made; a row of one token, made -/
theorem p_row (h : PSt w f b e bs rs v ts s a us ea ah W) {vi : Value} {l : List Int} (hb : W.grownBy W2 none) (hR : (Kd.int .i64).R 3 W2 0 (fun k => W.heap.size ≤ k) vi l) :
    ∃ f1, Ext T20 w W2 f f1 ∧ Toks W2 f1 29 v ts ∧ IE W2 f1 b e bs rs s a us ea ah ∧ IntZ W2 f1 vi l := by
  obtain ⟨f1, E, T, I⟩ := h
  have hE := Ext.new (T := fun _ => False) (f := f1) 0 (below_grown hb)
  exact ⟨_, E.trans (hE.mono (fun _ h => h.elim)), T.ext hE (fun h => h) (fun h => h), I.ext hE (fun h => h) (fun h => h) (fun h => h) (fun h => h), Kd.R_mono hR (fun k hk => newF_new hk)⟩
theorem p_last {v2 : Value} {f1 f2 : Nat → Nat} {ts2 : List S66} {s1 a1 ea1 : Int} {us1 ah1 : List Int} (E : Ext T20 w W f f1) (I : IE W f1 b e bs rs s1 a1 us1 ea1 ah1) (T : Toks W2 f2 29 v2 ts2) (E2 : Ext (fun z => z = 29) W W2 f1 f2) :
    PSt w f b e bs rs v2 ts2 s1 a1 us1 ea1 ah1 W2 :=
  ⟨f2, E.trans (E2.mono (by rintro z h; unfold T20; omega)), T, I.ext E2 (by decide) (by decide) (by decide) (by decide)⟩
end
def iVal (u : Int) : Int := if scalB u = false then -1 else if (ofI u).2.2 = false then wrap64 (8192 + u) else (ofI u).2.1
def iSw (s u : Int) : Bool := (ofI u).2.2 && ((ofI u).1 != s)
structure ISt where
  s : Int
  a : Int
  us : List Int
  ea : Int
  ah : List Int
def iSwitch (rs : List S150) (q : ISt) (sc : Int) : List S66 × ISt := ((eEnd rs q.ah q.us q.ea).1 ++ [⟨q.a, 0, [239, codeI sc], 0⟩], ⟨sc, q.a, (endF (wn rs) (wo rs) q.us q.ea).2.1, (endF (wn rs) (wo rs) q.us q.ea).2.2, []⟩)
def iAfter (rs : List S150) (q : ISt) (v : Int) : ISt := ⟨q.s, wrap64 (q.a + 1), (putF (wn rs) (wo rs) q.us q.ea v).2.1, (putF (wn rs) (wo rs) q.us q.ea v).2.2, (ePut rs q.ah q.us q.ea v).2⟩
def iBefore (rs : List S150) (q : ISt) (u : Int) : List S66 × ISt := if iSw q.s u = true then iSwitch rs q (ofI u).1 else ([], q)
def iPut (rs : List S150) (q : ISt) (u : Int) : List S66 × ISt := ((iBefore rs q u).1 ++ (ePut rs (iBefore rs q u).2.ah (iBefore rs q u).2.us (iBefore rs q u).2.ea (iVal u)).1, iAfter rs (iBefore rs q u).2 (iVal u))
def iEnd (rs : List S150) (q : ISt) : List S66 × ISt := ((eEnd rs q.ah q.us q.ea).1, ⟨q.s, q.a, (endF (wn rs) (wo rs) q.us q.ea).2.1, (endF (wn rs) (wo rs) q.us q.ea).2.2, (eEnd rs q.ah q.us q.ea).2⟩)
abbrev IEq (w : World) (f : Nat → Nat) (b e : Nat) (bs : Value) (rs : List S150) (q : ISt) : Prop := IE w f b e bs rs q.s q.a q.us q.ea q.ah
theorem WEnd_calls (w : World) (f : Nat → Nat) (b e : Nat) (bs : Value) (rs : List S150) (q : ISt) (h : IEq w f b e bs rs q) (hk : Okay rs) (ha : q.ah.length ≤ 8) (hl : q.us.length ≤ 100) :
    Calls Tryz.prog 142 #[.pointer (some ⟨b, 0, none⟩)] w (Gives T20 29 w f (iEnd rs q).1 (fun w' f' => IEq w' f' b e bs rs (iEnd rs q).2)) := by
  have P : PSt w f b e bs rs (.slice none 0 0) [] q.s q.a q.us q.ea q.ah w := ⟨f, Ext.refl _ _ _, Toks.nil _ _ _, h⟩
  have hP := Lib.hid (p_end hk P ha hl)
  obtain ⟨c0, c1, c2, -, -⟩ := P.facts
  clear h P
  unfold iEnd
  go_enter Tryz.func142, Tryz.ntmps142
  go_wp2_with (first
    | (go_at_call 145; refine hP.out.mono ?_; rintro en w' ⟨u, rfl, P2⟩; replace P2 := Lib.hid P2))
  go_ret
  obtain ⟨f1, E, T, I⟩ := P2.out
  exact ⟨_, f1, rfl, E, T, I⟩
end Go.Proofs.YtnfjgopcenpblaaGreatDoor.T

/- The walk of iscii's writer: Put. No condition beyond the ranges. -/
namespace Go.Proofs.YtnfjgopcenpblaaGreatDoor.T
open Go.RowKit Go.Proofs.YtnfjgopcenpblaaGreatDoorW.PrintWords Go.Proofs.YtnfjgopcenpblaaGreatDoorW.PrintLast Go.Proofs.YtnfjgopcenpblaaGreatDoorW.PrintMore Go.Proofs.YtnfjgopcenpblaaGreatDoor
set_option linter.unusedVariables false
set_option linter.unusedSimpArgs false
theorem ofI_scal (u : Int) (h : (ofI u).2.2 = true) : scalB u = true := by
  unfold ofI at h
  split at h
  · cases h
  · unfold scalB; simp; omega
theorem e_few (rs : List S150) (ah us : List Int) (a u : Int) : (ePut rs ah us a u).1.length ≤ us.length + 2 := by
  unfold ePut
  rw [joinGo_len]
  exact (take_few _ _ _ _ _ _).1
theorem eend_few (rs : List S150) (ah us : List Int) (a : Int) : (eEnd rs ah us a).1.length ≤ us.length + 1 := by
  unfold eEnd
  rw [joinGo_len]
  exact (take_few _ _ _ _ _ _).1
set_option maxRecDepth 100000 in
set_option maxHeartbeats 1000000 in
/-- no new script: the value that is put is v -/
theorem wput_same (w : World) (f : Nat → Nat) (b e : Nat) (bs : Value) (rs : List S150) (s a ea u : Int) (us ah : List Int) (h : IE w f b e bs rs s a us ea ah) (hk : Okay rs) (ha : ah.length ≤ 8) (hl : us.length ≤ 99) (hs : iSw s u = false) (v : Int) (hv : iVal u = v) :
    Calls Tryz.prog 144 #[.pointer (some ⟨b, 0, none⟩), .int .i64 u] w (fun en W => ∃ v9, en = .returned v9 ∧ PSt w f b e bs rs v9 ([] ++ (ePut rs ah us ea v).1) s (wrap64 (a + 1)) (putF (wn rs) (wo rs) us ea v).2.1 (putF (wn rs) (wo rs) us ea v).2.2 (ePut rs ah us ea v).2 W) := by
  have P := Lib.hid (show PSt w f b e bs rs (.slice none 0 0) [] s a us ea ah w from ⟨f, Ext.refl _ _ _, Toks.nil _ _ _, h⟩)
  have hsc := Lib.hid (scal_is u)
  have hfew : ([] : List S66).length + (ePut rs ah us ea v).1.length ≤ 1000000 := by have := e_few rs ah us ea v; simp only [List.length_nil]; omega
  replace hk := Lib.hid hk
  clear h
  unfold iVal at hv
  unfold iSw at hs
  rcases hof : ofI u with ⟨sc, pl, ok⟩
  have HO := Of2_calls w u
  rw [hof] at hv hs HO
  dsimp only at HO
  replace HO := Lib.hid HO
  replace hof := Lib.hid hof
  dsimp only at hv hs
  by_cases hu : scalB u = false
  · have hok : ok = false := by
      cases ok with
      | false => rfl
      | true =>
        have h := hof.out
        unfold ofI at h
        split at h
        · cases h
        · unfold scalB at hu; simp at hu; omega
    subst hok
    rw [if_pos hu] at hv
    subst hv
    rw [hu] at hsc
    replace hu := ()
    clear hs
    go_enter Tryz.func144, Tryz.ntmps144
    go_wp2_with (first
      | (go_at_call 146; refine HO.out.mono ?_; rintro en w' ⟨rfl, rfl⟩)
      | (go_at_call 27; refine (utf_Scalar.calls u false _ hsc.out).mono ?_; rintro en w' ⟨rfl, ⟨nd, rfl⟩⟩; replace P := Lib.hid (P.out.below (pw_below_drewN (Below.refl _ _) nd)); generalize w.drewN nd = w1 at P ⊢; obtain ⟨c0, c1, c2, f1, f2⟩ := P.out.facts)
      | ((with_reducible refine gate_store (t := 3) (p := 72) rfl ?_); refine store_event (t := 3) (p := 72) (v := .tmp 70) (w1 := w1.setCell ⟨b, 2, none⟩ (.int .i64 (wrap64 (a + 1)))) ?hg ?ho ?hn ?hr ?_; (case ho => rfl); (case hg => rfl); (case hn => rfl); (case hr => first | (go_simp; done) | (go_simp; rfl)); intro w8 hw8; replace P := Lib.hid (show PSt w f b e bs rs (.slice none 0 0) [] s (wrap64 (a + 1)) us ea ah w8 by rw [hw8]; exact p_store P.out 2 _ _ _ rfl); clear hw8 c0 c1 c2 f1 f2; obtain ⟨c0, c1, c2, f1, f2⟩ := P.out.facts)
      | (go_at_call 149; refine (p_put hk.out P.out ha hl (-1)).mono ?_; rintro en w9 ⟨u1, f3, rfl, E, T, U, I⟩; replace E := Lib.hid E; replace T := Lib.hid T; replace U := Lib.hid U; replace I := Lib.hid I)
      | ((with_reducible refine gate_builtin (b := .append) (xs := #[.tmp 73, .tmp 79]) rfl ?_); at_builtin; refine toks_app (by decide) rfl (.tmp 73) (.tmp 79) rfl T.out U.out rfl rfl hfew ?_; intro v9 w10 f4 T2 E2; replace P := Lib.hid (p_last E.out I.out T2 E2); clear T2 E2))
    go_ret
    exact ⟨_, rfl, P.out⟩
  · rw [if_neg hu] at hv
    rw [Bool.not_eq_false] at hu
    rw [hu] at hsc
    replace hu := ()
    cases ok with
    | false =>
      rw [if_pos rfl] at hv
      clear hs
      have hw : 8192 + u = 8192 + u := rfl
      subst hv
      go_enter Tryz.func144, Tryz.ntmps144
      go_wp2_with (first
        | (go_at_call 146; refine HO.out.mono ?_; rintro en w' ⟨rfl, rfl⟩)
        | (go_at_call 27; refine (utf_Scalar.calls u true _ hsc.out).mono ?_; rintro en w' ⟨rfl, ⟨nd, rfl⟩⟩; replace P := Lib.hid (P.out.below (pw_below_drewN (Below.refl _ _) nd)); generalize w.drewN nd = w1 at P ⊢; obtain ⟨c0, c1, c2, f1, f2⟩ := P.out.facts)
        | ((with_reducible refine gate_store (t := 3) (p := 72) rfl ?_); refine store_event (t := 3) (p := 72) (v := .tmp 70) (w1 := w1.setCell ⟨b, 2, none⟩ (.int .i64 (wrap64 (a + 1)))) ?hg ?ho ?hn ?hr ?_; (case ho => rfl); (case hg => rfl); (case hn => rfl); (case hr => first | (go_simp; done) | (go_simp; rfl)); intro w8 hw8; replace P := Lib.hid (show PSt w f b e bs rs (.slice none 0 0) [] s (wrap64 (a + 1)) us ea ah w8 by rw [hw8]; exact p_store P.out 2 _ _ _ rfl); clear hw8 c0 c1 c2 f1 f2; obtain ⟨c0, c1, c2, f1, f2⟩ := P.out.facts)
        | (go_at_call 149; refine (p_put hk.out P.out ha hl (wrap64 (8192 + u))).mono ?_; rintro en w9 ⟨u1, f3, rfl, E, T, U, I⟩; replace E := Lib.hid E; replace T := Lib.hid T; replace U := Lib.hid U; replace I := Lib.hid I)
        | ((with_reducible refine gate_builtin (b := .append) (xs := #[.tmp 73, .tmp 79]) rfl ?_); at_builtin; refine toks_app (by decide) rfl (.tmp 73) (.tmp 79) rfl T.out U.out rfl rfl hfew ?_; intro v9 w10 f4 T2 E2; replace P := Lib.hid (p_last E.out I.out T2 E2); clear T2 E2))
      go_ret
      exact ⟨_, rfl, P.out⟩
    | true =>
      rw [if_neg (by simp)] at hv
      subst hv
      have hsc2 : (sc == s) = true := by simpa using hs
      clear hs
      go_enter Tryz.func144, Tryz.ntmps144
      go_wp2_with (first
        | (go_at_call 146; refine HO.out.mono ?_; rintro en w' ⟨rfl, rfl⟩)
        | (go_at_call 27; refine (utf_Scalar.calls u true _ hsc.out).mono ?_; rintro en w' ⟨rfl, ⟨nd, rfl⟩⟩; replace P := Lib.hid (P.out.below (pw_below_drewN (Below.refl _ _) nd)); generalize w.drewN nd = w1 at P ⊢; obtain ⟨c0, c1, c2, f1, f2⟩ := P.out.facts)
        | ((with_reducible refine gate_store (t := 3) (p := 72) rfl ?_); refine store_event (t := 3) (p := 72) (v := .tmp 70) (w1 := w1.setCell ⟨b, 2, none⟩ (.int .i64 (wrap64 (a + 1)))) ?hg ?ho ?hn ?hr ?_; (case ho => rfl); (case hg => rfl); (case hn => rfl); (case hr => first | (go_simp; done) | (go_simp; rfl)); intro w8 hw8; replace P := Lib.hid (show PSt w f b e bs rs (.slice none 0 0) [] s (wrap64 (a + 1)) us ea ah w8 by rw [hw8]; exact p_store P.out 2 _ _ _ rfl); clear hw8 c0 c1 c2 f1 f2; obtain ⟨c0, c1, c2, f1, f2⟩ := P.out.facts)
        | (go_at_call 149; refine (p_put hk.out P.out ha hl pl).mono ?_; rintro en w9 ⟨u1, f3, rfl, E, T, U, I⟩; replace E := Lib.hid E; replace T := Lib.hid T; replace U := Lib.hid U; replace I := Lib.hid I)
        | ((with_reducible refine gate_builtin (b := .append) (xs := #[.tmp 73, .tmp 79]) rfl ?_); at_builtin; refine toks_app (by decide) rfl (.tmp 73) (.tmp 79) rfl T.out U.out rfl rfl hfew ?_; intro v9 w10 f4 T2 E2; replace P := Lib.hid (p_last E.out I.out T2 E2); clear T2 E2))
      go_ret
      exact ⟨_, rfl, P.out⟩
set_option maxRecDepth 100000 in
set_option maxHeartbeats 1000000 in
/-- another script -/
theorem wput_switch (w : World) (f : Nat → Nat) (b e : Nat) (bs : Value) (rs : List S150) (s a ea u : Int) (us ah : List Int) (h : IE w f b e bs rs s a us ea ah) (hk : Okay rs) (ha : ah.length ≤ 8) (hl : us.length ≤ 99) (hs : iSw s u = true) (v : Int) (hv : iVal u = v) (te : List S66) (ah2 us2 : List Int) (tf : List S66) (ea2 : Int) (he : eEnd rs ah us ea = (te, ah2)) (hf : endF (wn rs) (wo rs) us ea = (tf, us2, ea2)) :
    Calls Tryz.prog 144 #[.pointer (some ⟨b, 0, none⟩), .int .i64 u] w (fun en W => ∃ v9, en = .returned v9 ∧ PSt w f b e bs rs v9 ((te ++ [⟨a, 0, [239, codeI (ofI u).1], 0⟩]) ++ (ePut rs [] us2 ea2 v).1) (ofI u).1 (wrap64 (a + 1)) (putF (wn rs) (wo rs) us2 ea2 v).2.1 (putF (wn rs) (wo rs) us2 ea2 v).2.2 (ePut rs [] us2 ea2 v).2 W) := by
  have P := Lib.hid (show PSt w f b e bs rs (.slice none 0 0) [] s a us ea ah w from ⟨f, Ext.refl _ _ _, Toks.nil _ _ _, h⟩)
  have hsc := Lib.hid (scal_is u)
  have hte : te.length ≤ us.length + 1 := by have := eend_few rs ah us ea; rw [he] at this; exact this
  have hl2 : us2.length ≤ 99 := by have := (take_few (wn rs) (wo rs) true (us.length + 1) us ea).2; change (endF (wn rs) (wo rs) us ea).2.1.length ≤ us.length at this; rw [hf] at this; exact Nat.le_trans this hl
  have HE := fun (W : World) (h : PSt w f b e bs rs (.slice none 0 0) [] s a us ea ah W) => p_end hk h ha (show us.length ≤ 100 by omega)
  rw [he, hf] at HE
  dsimp only at HE
  replace HE := Lib.hid HE
  replace hk := Lib.hid hk
  clear h he hf
  unfold iVal at hv
  unfold iSw at hs
  have h9 := fun h => ofI_sc (u := u) h
  have HO := Of2_calls w u
  have hfu := ofI_scal u
  rcases hof : ofI u with ⟨sc, pl, ok⟩
  rw [hof] at hv hs HO h9 hfu
  dsimp only at hv hs HO h9 hfu ⊢
  replace HO := Lib.hid HO
  replace hof := Lib.hid hof
  have hok : ok = true := by cases ok with | true => rfl | false => simp at hs
  subst hok
  have hu : scalB u = true := hfu rfl
  rw [hu] at hsc hv
  rw [if_neg (by simp), if_neg (by simp)] at hv
  subst hv
  have hsc2 : (sc == s) = false := by simpa using hs
  obtain ⟨h0, h9⟩ := h9 rfl
  have hfew1 : te.length + [(⟨a, 0, [239, codeI sc], 0⟩ : S66)].length ≤ 1000000 := by simp only [List.length_cons, List.length_nil]; omega
  have hfew2 : (te ++ [(⟨a, 0, [239, codeI sc], 0⟩ : S66)]).length + (ePut rs [] us2 ea2 pl).1.length ≤ 1000000 := by have := e_few rs [] us2 ea2 pl; rw [List.length_append]; simp only [List.length_cons, List.length_nil]; omega
  have HC := Lib.hid (fun w => Code_calls w sc h0 h9)
  generalize codeI sc = cd at *
  clear hs hu hfu
  replace hte := ()
  replace h0 := ()
  replace h9 := ()
  go_enter Tryz.func144, Tryz.ntmps144
  go_wp2_with (first
    | (go_at_call 146; refine HO.out.mono ?_; rintro en w' ⟨rfl, rfl⟩)
    | (go_at_call 27; refine (utf_Scalar.calls u true _ hsc.out).mono ?_; rintro en w' ⟨rfl, ⟨nd, rfl⟩⟩; replace P := Lib.hid (P.out.below (pw_below_drewN (Below.refl _ _) nd)); generalize w.drewN nd = w1 at P ⊢; obtain ⟨c0, c1, c2, f1, f2⟩ := P.out.facts)
    | (go_at_call 145; refine (HE.out w1 P.out).mono ?_; rintro en w2 ⟨v2, rfl, P2⟩; replace P := Lib.hid P2; clear P2; clear c0 c1 c2 f1 f2; obtain ⟨c0, c1, c2, f1, f2⟩ := P.out.facts)
    | (go_at_call 147; refine (HC.out w2).mono ?_; rintro en w' ⟨rfl, rfl⟩)
    | ((with_reducible refine gate_store (t := 117) (p := 50) rfl ?_); refine store_event (t := 117) (p := 50) (v := .tmp 48) (w1 := w2.setCell ⟨b, 1, none⟩ (.int .i64 sc)) ?hg ?ho ?hn ?hr ?_; (case ho => rfl); (case hg => rfl); (case hn => rfl); (case hr => first | (go_simp; done) | (go_simp; rfl)); intro w3 hw3; replace P := Lib.hid (show PSt w f b e bs rs v2 te sc a us2 ea2 ah2 w3 by rw [hw3]; exact p_store P.out 1 _ _ _ rfl); clear hw3; clear c0 c1 c2 f1 f2; obtain ⟨c0, c1, c2, f1, f2⟩ := P.out.facts)
    | (go_at_call 148; refine (p_apart P.out).mono ?_; rintro en w4 ⟨rfl, P2⟩; replace P := Lib.hid P2; clear P2; clear c0 c1 c2 f1 f2; obtain ⟨c0, c1, c2, f1, f2⟩ := P.out.facts)
    | ((with_reducible refine gate_dst (N := 62) rfl ?_); refine Kd.R_lit (Kd.int .i64) (w0 := w4) 0 3 ?hg (N := 62) ?hd (xs := ([239, cd] : List Int)) (inner := [.int .i64 239, .int .i64 cd]) (ok := fun k => w4.heap.size ≤ k) (okp := fun _ => False) ?hr ?hp (fun _ hk => hk.elim) (Nat.le_refl _) (Below.refl _ _) (Nat.zero_le _) (by simp) ?_; (case hd => rfl); (case hg => rfl); (case hr => first | (go_simp; done) | (go_simp; rfl)); (case hp => exact (Reps.one (show Kd.M (Kd.int .i64) _ _ _ 239 [.int .i64 239] from rfl) (Reps.one (show Kd.M (Kd.int .i64) _ _ _ cd [.int .i64 cd] from rfl) (Reps.none _ _)))); intro v5 w5 ho hb hg hn; obtain ⟨f5, E5, T5, I5, Z5⟩ := p_row P.out hg ho; obtain ⟨A5, d5, hv5⟩ := Kd.R_slice ho; replace hv5 : v5 = .slice A5 2 d5 := hv5; subst hv5; replace E5 := Lib.hid E5; replace T5 := Lib.hid T5; replace I5 := Lib.hid I5; replace Z5 := Lib.hid Z5; clear ho hb hg hn P c0 c1 c2 f1 f2)
    | ((with_reducible refine gate_dst (N := 64) rfl ?_); refine toks_lit (W := w5) (f := f5) (y := 28) (tok := ⟨a, 0, [239, cd], 0⟩) (c0 := .int .i64 a) (c1 := .int .i64 0) (c2 := .slice A5 2 d5) (c3 := .int .i64 0) ?hg ?hr (k66_mkM _ _ _ ⟨a, 0, [239, cd], 0⟩ Z5.out) ?_; (case hg => rfl); (case hr => first | (go_simp; done) | (go_simp; rfl)); intro v6 w6 f6 T6 E6; replace T6 := Lib.hid T6; replace E6 := Lib.hid E6)
    | ((with_reducible refine gate_builtin (b := .append) (xs := #[.tmp 56, .tmp 64]) rfl ?_); at_builtin; refine toks_app (by decide) rfl (.tmp 56) (.tmp 64) rfl (T5.out.ext E6.out (fun h => h) (fun h => h)) T6.out rfl rfl hfew1 ?_; intro v7 w7 f7 T7 E7; have P := Lib.hid (p_last (E5.out.trans (E6.out.mono (fun _ h => h.elim))) (I5.out.ext E6.out (fun h => h) (fun h => h) (fun h => h) (fun h => h)) T7 E7); clear T7 E7 T6 E6 T5 I5 E5 Z5; obtain ⟨c0, c1, c2, f1, f2⟩ := P.out.facts)
    | ((with_reducible refine gate_store (t := 3) (p := 72) rfl ?_); refine store_event (t := 3) (p := 72) (v := .tmp 70) (w1 := w7.setCell ⟨b, 2, none⟩ (.int .i64 (wrap64 (a + 1)))) ?hg ?ho ?hn ?hr ?_; (case ho => rfl); (case hg => rfl); (case hn => rfl); (case hr => first | (go_simp; done) | (go_simp; rfl)); intro w8 hw8; replace P := Lib.hid (show PSt w f b e bs rs v7 (te ++ [⟨a, 0, [239, cd], 0⟩]) sc (wrap64 (a + 1)) us2 ea2 [] w8 by rw [hw8]; exact p_store P.out 2 _ _ _ rfl); clear hw8 c0 c1 c2 f1 f2; obtain ⟨c0, c1, c2, f1, f2⟩ := P.out.facts)
    | (go_at_call 149; refine (p_put hk.out P.out (Nat.zero_le 8) hl2 pl).mono ?_; rintro en w9 ⟨u1, f3, rfl, E, T, U, I⟩; replace E := Lib.hid E; replace T := Lib.hid T; replace U := Lib.hid U; replace I := Lib.hid I)
    | ((with_reducible refine gate_builtin (b := .append) (xs := #[.tmp 73, .tmp 79]) rfl ?_); at_builtin; refine toks_app (by decide) rfl (.tmp 73) (.tmp 79) rfl T.out U.out rfl rfl hfew2 ?_; intro v9 w10 f4 T2 E2; replace P := Lib.hid (p_last E.out I.out T2 E2); clear T2 E2))
  go_ret
  exact ⟨_, rfl, P.out⟩
theorem WPut_calls (w : World) (f : Nat → Nat) (b e : Nat) (bs : Value) (rs : List S150) (q : ISt) (u : Int) (h : IEq w f b e bs rs q) (hk : Okay rs) (ha : q.ah.length ≤ 8) (hl : q.us.length ≤ 99) :
    Calls Tryz.prog 144 #[.pointer (some ⟨b, 0, none⟩), .int .i64 u] w (Gives T20 29 w f (iPut rs q u).1 (fun w' f' => IEq w' f' b e bs rs (iPut rs q u).2)) := by
  obtain ⟨s, a, us, ea, ah⟩ := q
  unfold iPut iBefore
  dsimp only
  by_cases hs : iSw s u = true
  · rw [if_pos hs]
    rcases he : eEnd rs ah us ea with ⟨te, ah2⟩
    rcases hf : endF (wn rs) (wo rs) us ea with ⟨tf, us2, ea2⟩
    refine (wput_switch w f b e bs rs s a ea u us ah h hk ha hl hs _ rfl te ah2 us2 tf ea2 he hf).mono ?_
    rintro en W ⟨v9, rfl, f1, E, T, I⟩
    unfold iSwitch iAfter
    dsimp only
    rw [he, hf]
    exact ⟨v9, f1, rfl, E, T, I⟩
  · rw [if_neg hs]
    rw [Bool.not_eq_true] at hs
    refine (wput_same w f b e bs rs s a ea u us ah h hk ha hl hs _ rfl).mono ?_
    rintro en W ⟨v9, rfl, f1, E, T, I⟩
    unfold iAfter
    exact ⟨v9, f1, rfl, E, T, I⟩
end Go.Proofs.YtnfjgopcenpblaaGreatDoor.T

/- The stream, by marks: its states, wrong. No condition beyond the ranges. -/
namespace Go.Proofs.YtnfjgopcenpblaaGreatDoor.T
open Go.RowKit Go.Proofs.YtnfjgopcenpblaaGreatDoorW.PrintWords Go.Proofs.YtnfjgopcenpblaaGreatDoorW.PrintLast Go.Proofs.YtnfjgopcenpblaaGreatDoorW.PrintMore Go.Proofs.YtnfjgopcenpblaaGreatDoor
set_option linter.unusedVariables false
set_option linter.unusedSimpArgs false
def T30 (z : Nat) : Prop := z = 30 ∨ z = 31
abbrev Stp := Int × Int × Int
/-- a stream's block (mode strict), its row of bytes -/
structure SB (w : World) (f : Nat → Nat) (b : Nat) (c0 c1 vr vw vo b1 b2 : Value) (st : Stp) (out : List Int) : Prop where
  blk : w.heap[b]? = some (.cells #[c0, c1, .int .i64 0, vr, vw, vo, .int .i64 st.1, .int .i64 st.2.1, .int .i64 st.2.2, b1, b2] 53 (0, 0))
  fb : f b = 30
  out : w.ownsRow 0 5 1 vo out.length (nums .u8 out)
  tag : ∀ k, vo.ownBlock = some k → f k = 31
section
variable {w W W2 W3 : World} {f f1 f2 : Nat → Nat} {b : Nat} {c0 c1 vr vw vo b1 b2 : Value} {st : Stp} {out : List Int}
theorem SB.ext {T : Nat → Prop} (h : SB W f1 b c0 c1 vr vw vo b1 b2 st out) (e : Ext T W W2 f1 f2) (h1 : ¬ T 30) (h2 : ¬ T 31) : SB W2 f2 b c0 c1 vr vw vo b1 b2 st out :=
  ⟨e.blk h.blk (by rw [h.fb]; exact h1), (e.tg h.blk).trans h.fb, own_move h.out (fun k hk => e.keep k (own_lt h.out k hk) (by rw [h.tag k hk]; exact h2)), fun k hk => (e.tag k (own_lt h.out k hk)).trans (h.tag k hk)⟩
theorem SB.cells (h : SB W f1 b c0 c1 vr vw vo b1 b2 st out) : W.cell? ⟨b, 2, none⟩ = some (.int .i64 0) ∧ W.cell? ⟨b, 3, none⟩ = some vr ∧ W.cell? ⟨b, 4, none⟩ = some vw ∧ W.cell? ⟨b, 5, none⟩ = some vo ∧ W.cell? ⟨b, 6, none⟩ = some (.int .i64 st.1) ∧ W.cell? ⟨b, 7, none⟩ = some (.int .i64 st.2.1) ∧ W.cell? ⟨b, 8, none⟩ = some (.int .i64 st.2.2) :=
  ⟨(blk_cell h.blk 2).trans rfl, (blk_cell h.blk 3).trans rfl, (blk_cell h.blk 4).trans rfl, (blk_cell h.blk 5).trans rfl, (blk_cell h.blk 6).trans rfl, (blk_cell h.blk 7).trans rfl, (blk_cell h.blk 8).trans rfl⟩
theorem SB.frozen (h : SB W f1 b c0 c1 vr vw vo b1 b2 st out) (i : Nat) : W.frozen? ⟨b, i, none⟩ = false := blk_frozen h.blk i
/-- the stop is stored -/
theorem SB.stop (h : SB W f1 b c0 c1 vr vw vo b1 b2 st out) (s2 : Stp) (hw : W2 = ((W.setCell ⟨b, 6, none⟩ (.int .i64 s2.1)).setCell ⟨b, 7, none⟩ (.int .i64 s2.2.1)).setCell ⟨b, 8, none⟩ (.int .i64 s2.2.2)) :
    SB W2 f1 b c0 c1 vr vw vo b1 b2 s2 out ∧ Ext (fun z => z = 30) W W2 f1 f1 := by
  subst hw
  have k1 := blk_put h.blk 6 (.int .i64 s2.1) rfl
  have k2 := blk_put k1 7 (.int .i64 s2.2.1) rfl
  have k3 := blk_put k2 8 (.int .i64 s2.2.2) rfl
  have hE : Ext (fun z => z = 30) W (((W.setCell ⟨b, 6, none⟩ (.int .i64 s2.1)).setCell ⟨b, 7, none⟩ (.int .i64 s2.2.1)).setCell ⟨b, 8, none⟩ (.int .i64 s2.2.2)) f1 f1 :=
    ⟨by simp [World.setCell], fun _ _ => rfl, fun k hk hn => by
      have hkb : k ≠ b := fun e => hn (by rw [e]; exact h.fb)
      exact ((Below.heap_setCell _ ⟨b, 8, none⟩ _ k hkb).trans (Below.heap_setCell _ ⟨b, 7, none⟩ _ k hkb)).trans (Below.heap_setCell _ ⟨b, 6, none⟩ _ k hkb), rfl, rfl, rfl⟩
  exact ⟨⟨k3, h.fb, own_setCell (own_setCell (own_setCell h.out (own_ne h.out h.blk (by decide)) _) (own_ne (own_setCell h.out (own_ne h.out h.blk (by decide)) _) k1 (by decide)) _) (own_ne (own_setCell (own_setCell h.out (own_ne h.out h.blk (by decide)) _) (own_ne (own_setCell h.out (own_ne h.out h.blk (by decide)) _) k1 (by decide)) _) k2 (by decide)) _, h.tag⟩, hE⟩
/-- a byte is appended and the row stored -/
theorem SB.app {v2 : Value} {c : Int} {l : List Int} (h : SB W f1 b c0 c1 vr vw vo b1 b2 st out) (ho : W2.ownsRow 0 5 1 v2 (out ++ [c]).length (nums .u8 (out ++ [c]))) (hg : W.grownBy W2 vo.ownBlock) (hat : v2.ownBlock = vo.ownBlock ∨ ∃ b, v2.ownBlock = some b ∧ W.heap.size ≤ b) (hl : out ++ [c] = l) (hw : W3 = W2.setCell ⟨b, 5, none⟩ v2) :
    SB W3 (markF f1 W.heap.size 31 v2) b c0 c1 vr vw v2 b1 b2 st l ∧ Ext T30 W W3 f1 (markF f1 W.heap.size 31 v2) := by
  subst hw hl
  have hbk := blk_grown h.blk hg (own_ne h.out h.blk (by decide))
  have hbl := blk_lt h.blk
  refine ⟨⟨blk_put hbk 5 _ rfl, (if_pos hbl).trans h.fb, own_setCell ho (own_ne ho hbk (by decide)) _, fun k hk => ?_⟩, by simpa using hg.size, fun k hk => if_pos hk, fun k hk hn => ?_, hg.os, hg.tape, hg.output⟩
  · unfold markF
    rcases hat with hat | ⟨q, hq, hle⟩
    · have hkl := own_lt h.out k (hat ▸ hk)
      rw [if_pos hkl]; exact h.tag k (hat ▸ hk)
    · have hk2 : q = k := Option.some.inj (hq.symm.trans hk)
      rw [if_neg (by omega), if_pos hk.symm]
  · have hkb : k ≠ b := fun e => hn (by rw [e]; exact .inl h.fb)
    exact (Below.heap_setCell W2 ⟨b, 5, none⟩ v2 k hkb).trans (hg.block k hk (fun e => hn (.inr (h.tag k e.symm))))
end
def outsLen (ts : List S66) : Nat := (ts.map (fun t => t.f2.length)).sum
def by8 (l : List Int) : List Int := l.map (· % 256)
/-- what written does (mode strict) -/
def wrF : List Int → Stp → List S66 → List Int × Stp
  | out, st, [] => (out, st)
  | out, st, t :: ts => if st.2.2 ≠ 0 then (out, st) else if t.f3 = 0 then wrF (out ++ by8 t.f2) st ts else wrF out (2, t.f0, t.f3) ts
def SOut (w : World) (f : Nat → Nat) (b : Nat) (c0 c1 vr vw b1 b2 : Value) (q : List Int × Stp) (w' : World) : Prop := ∃ f' vo, Ext T30 w w' f f' ∧ SB w' f' b c0 c1 vr vw vo b1 b2 q.2 q.1
theorem Wrong_calls (w : World) (f : Nat → Nat) (b : Nat) (c0 c1 vr vw vo b1 b2 : Value) (st : Stp) (out : List Int) (side a0 a1 a3 : Int) (A : Option Addr) (n c : Nat) (h : SB w f b c0 c1 vr vw vo b1 b2 st out) :
    Calls Tryz.prog 23 #[.pointer (some ⟨b, 0, none⟩), .int .i64 side, .agg #[.int .i64 a0, .int .i64 a1, .slice A n c, .int .i64 a3]] w (fun e w' => e = .returned (.bool true) ∧ ∃ f', Ext (fun z => z = 30) w w' f f' ∧ SB w' f' b c0 c1 vr vw vo b1 b2 (side, a0, a3) out) := by
  have hb : Below w.heap.size w (w.alloc (.cells #[.int .i64 a0, .int .i64 a1, .slice A n c, .int .i64 a3] 66)) := below_alloc (Below.refl _ _) _
  have kb := blk_new w (.cells #[.int .i64 a0, .int .i64 a1, .slice A n c, .int .i64 a3] 66)
  have hE := Ext.new (T := fun _ => False) (f := f) 0 hb
  have S := h.ext hE (fun h => h) (fun h => h)
  have d0 : (w.alloc (.cells #[.int .i64 a0, .int .i64 a1, .slice A n c, .int .i64 a3] 66)).cell? ⟨w.heap.size, 0, none⟩ = some (.int .i64 a0) := (blk_cell kb 0).trans rfl
  have d3 : (w.alloc (.cells #[.int .i64 a0, .int .i64 a1, .slice A n c, .int .i64 a3] 66)).cell? ⟨w.heap.size, 3, none⟩ = some (.int .i64 a3) := (blk_cell kb 3).trans rfl
  obtain ⟨m, -, -, -, e6, e7, e8⟩ := S.cells
  have f6 := S.frozen 6
  have f7 := S.frozen 7
  have f8 := S.frozen 8
  have HS := Lib.hid (S.stop (side, a0, a3) rfl)
  replace hE := Lib.hid hE
  clear S h kb hb
  go_enter Tryz.func23, Tryz.ntmps23
  go_wp2
  go_ret
  exact ⟨rfl, _, (hE.out.mono (fun _ h => h.elim)).trans HS.out.2, HS.out.1⟩
end Go.Proofs.YtnfjgopcenpblaaGreatDoor.T

/- The stream's written. No condition beyond the ranges. -/
namespace Go.Proofs.YtnfjgopcenpblaaGreatDoor.T
open Go.RowKit Go.Proofs.YtnfjgopcenpblaaGreatDoorW.PrintWords Go.Proofs.YtnfjgopcenpblaaGreatDoorW.PrintLast Go.Proofs.YtnfjgopcenpblaaGreatDoorW.PrintMore Go.Proofs.YtnfjgopcenpblaaGreatDoor
set_option linter.unusedVariables false
set_option linter.unusedSimpArgs false
/-- a token of a row, as it is read -/
theorem tok_read {W : World} {f : Nat → Nat} {y n c i : Nat} {A : Option Addr} {ts : List S66} (T : Toks W f y (.slice A n c) ts) (hy : y ≠ 0) (hi : i < ts.length) :
    ∃ g Ao co, A = some ⟨g, 0, none⟩ ∧ W.cell? ⟨g, i * 4, none⟩ = some (.int .i64 (rd_T66 ts i).f0) ∧ W.cell? ⟨g, i * 4 + 1, none⟩ = some (.int .i64 (rd_T66 ts i).f1) ∧
      W.cell? ⟨g, i * 4 + 2, none⟩ = some (.slice Ao (rd_T66 ts i).f2.length co) ∧ W.cell? ⟨g, i * 4 + 3, none⟩ = some (.int .i64 (rd_T66 ts i).f3) ∧ IntZ W f (.slice Ao (rd_T66 ts i).f2.length co) (rd_T66 ts i).f2 := by
  obtain ⟨g, cap, hv, _, _⟩ := Kd.R_form (T.R hy) (by omega)
  injection hv with h1 h2 h3
  subst h1 h2 h3
  obtain ⟨cs, hcl, hcM, hcc, hcf⟩ := Kd.R_elem (T.R hy) z66 (i : Int) (Int.natCast_nonneg i) (Int.ofNat_lt.mpr hi)
  change k66.M W 0 _ (rd_T66 ts i) cs at hcM
  generalize rd_T66 ts i = x at *
  obtain ⟨vv, rfl, hvv⟩ := k66_openM hcM
  have hvb : IntZ W f vv x.f2 := Kd.R_mono hvv (fun k hk => hk.1.resolve_right (fun e => hk.2 (own_is e)))
  obtain ⟨Ao, co, rfl⟩ := Kd.R_slice hvv
  have hcc2 : ∀ j u, [Value.int .i64 x.f0, .int .i64 x.f1, .slice Ao x.f2.length co, .int .i64 x.f3][j]? = some u → W.cell? ⟨g, i * 4 + j, none⟩ = some u := fun j u hj => by
    have := hcc j u hj
    rw [Int.toNat_natCast] at this
    exact this
  exact ⟨g, Ao, co, rfl, hcc2 0 _ rfl, hcc2 1 _ rfl, hcc2 2 _ rfl, hcc2 3 _ rfl, hvb⟩
def InW (w : World) (f : Nat → Nat) (b : Nat) (c0 c1 vr vw b1 b2 : Value) (st : Stp) (out : List Int) (vi : Value) (is : List Int) (W : World) : Prop :=
  ∃ f2 vo, Ext T30 w W f f2 ∧ SB W f2 b c0 c1 vr vw vo b1 b2 st out ∧ IntZ W f2 vi is
structure WrN (ts : List S66) (z : List Int × Stp) (kq i : Nat) (q : List Int × Stp) : Prop where
  le : i ≤ ts.length
  fuel : ts.length + 1 = kq + i
  ans : wrF q.1 q.2 (ts.drop i) = z
  few : q.1.length + outsLen (ts.drop i) ≤ 1000000
theorem WrN.stop {ts : List S66} {z q : List Int × Stp} {kq i : Nat} (h : WrN ts z kq i q) (h0 : q.2.2.2 ≠ 0) : z = q := by
  have := h.ans
  cases hd : ts.drop i with
  | nil => rw [hd, wrF] at this; exact this.symm
  | cons t l => rw [hd, wrF, if_pos h0] at this; exact this.symm
theorem WrN.next {ts : List S66} {z q : List Int × Stp} {kq i : Nat} {x : S66} (h : WrN ts z (kq + 1) i q) (hi : i < ts.length) (hx : rd_T66 ts i = x) (h0 : q.2.2.2 = 0) (h1 : x.f3 = 0) : WrN ts z kq (i + 1) (q.1 ++ by8 x.f2, q.2) ∧ q.1.length + x.f2.length ≤ 1000000 := by
  obtain ⟨a, b, c, d⟩ := h
  rw [tok_drop hi, hx] at c d
  rw [wrF, if_neg (by simpa using h0), if_pos h1] at c
  have e : outsLen (x :: ts.drop (i + 1)) = x.f2.length + outsLen (ts.drop (i + 1)) := by simp [outsLen]
  rw [e] at d
  exact ⟨⟨hi, by omega, c, by simp only [List.length_append, by8, List.length_map]; omega⟩, by omega⟩
theorem WrN.bad {ts : List S66} {z q : List Int × Stp} {kq i : Nat} {x : S66} (h : WrN ts z (kq + 1) i q) (hi : i < ts.length) (hx : rd_T66 ts i = x) (h0 : q.2.2.2 = 0) (h1 : x.f3 ≠ 0) : WrN ts z kq (i + 1) (q.1, (2, x.f0, x.f3)) := by
  obtain ⟨a, b, c, d⟩ := h
  rw [tok_drop hi, hx] at c d
  rw [wrF, if_neg (by simpa using h0), if_neg h1] at c
  have e : outsLen (x :: ts.drop (i + 1)) = x.f2.length + outsLen (ts.drop (i + 1)) := by simp [outsLen]
  rw [e] at d
  exact ⟨hi, by omega, c, by dsimp only; omega⟩
set_option maxRecDepth 100000 in
set_option maxHeartbeats 1000000 in
theorem Written_calls (w : World) (f : Nat → Nat) (b y : Nat) (c0 c1 vr vw vo b1 b2 u : Value) (st : Stp) (out : List Int) (ts : List S66) (h : SB w f b c0 c1 vr vw vo b1 b2 st out) (ht : Toks w f y u ts) (hy : y ≠ 0 ∧ y ≠ 30 ∧ y ≠ 31) (hf : out.length + outsLen ts ≤ 1000000) :
    Calls Tryz.prog 17 #[.pointer (some ⟨b, 0, none⟩), u] w (fun e w' => e = .returned (.tuple #[]) ∧ SOut w f b c0 c1 vr vw b1 b2 (wrF out st ts) w') := by
  obtain ⟨y0, y1, y2⟩ := hy
  obtain ⟨A, c, rfl, _, hrd⟩ := ht.rd
  have hn63 : ts.length ≤ 9223372036854775807 := hrd.2.1
  replace hn63 := Lib.hid hn63
  clear hrd
  have N := Lib.hid (show WrN ts (wrF out st ts) (ts.length + 1) 0 (out, st) from ⟨Nat.zero_le _, rfl, rfl, hf⟩)
  have S := Lib.hid (show SOut w f b c0 c1 vr vw b1 b2 (out, st) w from ⟨f, vo, Ext.refl _ _ _, h⟩)
  replace ht := Lib.hid ht
  generalize wrF out st ts = z at *
  clear h hf
  go_enter Tryz.func17, Tryz.ntmps17
  go_wp2
  go_loopg [10] (ts.length + 1) (fun kq v w' => ∃ (i : Nat) (q : List Int × Stp), v = .int .i64 i ∧ Hid (SOut w f b c0 c1 vr vw b1 b2 q w') ∧ Hid (WrN ts z kq i q))
  case atStart => exact ⟨0, _, rfl, S, N⟩
  case round =>
    clear S N
    obtain ⟨i, q, rfl, S, N⟩ := hrel
    have i1 := N.out.fuel
    cases gk with
    | zero => exact absurd i1 (by have := N.out.le; omega)
    | succ gk =>
      by_cases hi : i < ts.length
      · have di := lt_dec hi
        have p0 := nat_tr i
        have p1 := lt_tr hi
        have hi63 : (i : Int) < 9223372036854775807 := by have := hn63.out; omega
        obtain ⟨f1, vo, E1, S1⟩ := S.out
        have T1 := ht.out.ext E1 (by unfold T30; omega) (by unfold T30; omega)
        obtain ⟨g, Ao, co, rfl, z0, z1, z2, z3, hv⟩ := tok_read T1 y0 hi
        obtain ⟨x, hx⟩ : ∃ x, rd_T66 ts i = x := ⟨_, rfl⟩
        rw [hx] at z0 z1 z2 z3 hv
        obtain ⟨x0, x1, x2, x3⟩ := x
        dsimp only at z0 z1 z2 z3 hv
        have hb5 : Below wr.heap.size wr (wr.alloc (.cells #[.int .i64 x0, .int .i64 x1, .slice Ao x2.length co, .int .i64 x3] 66)) := below_alloc (Below.refl _ _) _
        have kb := blk_new wr (.cells #[.int .i64 x0, .int .i64 x1, .slice Ao x2.length co, .int .i64 x3] 66)
        have hE := Ext.new (T := T30) (f := f1) 0 hb5
        have S5 := S1.ext (Ext.new (T := fun _ => False) (f := f1) 0 hb5) (fun h => h) (fun h => h)
        have V5 := IntZ.ext hv (Ext.new (T := fun _ => False) (f := f1) 0 hb5) (fun h => h)
        have P5 := Lib.hid (show InW w f b c0 c1 vr vw b1 b2 q.2 q.1 (.slice Ao x2.length co) x2 (wr.alloc (.cells #[.int .i64 x0, .int .i64 x1, .slice Ao x2.length co, .int .i64 x3] 66)) from ⟨_, vo, E1.trans hE, S5, V5⟩)
        obtain ⟨m2, -, -, -, -, -, m8⟩ := S5.cells
        have k0 := (blk_cell kb 0).trans rfl
        have k1 := (blk_cell kb 1).trans rfl
        have k2 := (blk_cell kb 2).trans rfl
        have k3 := (blk_cell kb 3).trans rfl
        obtain ⟨out, st, a, e⟩ := q
        dsimp only at P5 m8 S5
        by_cases h0 : e = 0
        · subst h0
          by_cases h1 : x3 = 0
          · subst h1
            obtain ⟨NX, hfew⟩ := N.out.next hi hx rfl rfl
            replace NX := Lib.hid NX
            dsimp only at NX hfew
            clear hE S5 V5 hb5 hv T1 E1 S1 S N kb k0 k1 m2
            go_wp2
            generalize wr.alloc (.cells #[.int .i64 x0, .int .i64 x1, .slice Ao x2.length co, .int .i64 0] 66) = w5 at P5 ⊢
            clear k2 k3 m8 z0 z1 z2 z3
            obtain ⟨ko, rfl⟩ : ∃ ko, ko = gk := ⟨_, rfl⟩
            have hb0 := Lib.hid (show out ++ by8 (x2.take 0) = out by simp [by8])
            go_loopg [28] (x2.length + 1) (fun kq v w' => ∃ (j : Nat), v = .int .i64 j ∧ Hid (InW w f b c0 c1 vr vw b1 b2 (st, a, 0) (out ++ by8 (x2.take j)) (.slice Ao x2.length co) x2 w') ∧ Hid (j ≤ x2.length ∧ x2.length + 1 = kq + j))
            case atStart => exact ⟨0, rfl, by rw [hb0.out]; exact P5, Lib.hid ⟨Nat.zero_le _, rfl⟩⟩
            case round =>
              clear P5
              obtain ⟨j, rfl, P, J⟩ := hrel
              have i2 := J.out.2
              cases gk with
              | zero => exact absurd i2 (by have := J.out.1; omega)
              | succ gk =>
                by_cases hj : j < x2.length
                · have dj := lt_dec hj
                  have q0 := nat_tr j
                  have q1 := lt_tr hj
                  have hj9 : (j : Int) < 1000001 := by omega
                  obtain ⟨f2, vo, E2, S2, V2⟩ := P.out
                  have hrd := Kd.reads_of_C (d := (0 : Int)) (enc := Value.int .i64) (h1 := fun _ => rfl) (Kd.R_reads' V2).2.2
                  obtain ⟨ad, rfl, hc⟩ := hrd.2.2 (by omega)
                  have hxx := hc j hj
                  have hg : x2.getD j 0 = x2[j] := by rw [List.getD_eq_getElem?_getD, List.getElem?_eq_getElem hj]; rfl
                  have hl : (out ++ by8 (x2.take j)) ++ [x2[j] % 256] = out ++ by8 (x2.take (j + 1)) := by
                    rw [List.append_assoc, List.take_add_one, List.getElem?_eq_getElem hj]; unfold by8; rw [List.map_append]; rfl
                  rw [hg] at hxx
                  clear hc hg hrd
                  generalize x2[j] = u at *
                  have hn8 : ((out ++ by8 (x2.take j)).length + 1) * 1 ≤ 140737488355328 := by simp only [List.length_append, by8, List.length_map, List.length_take]; omega
                  obtain ⟨-, -, -, m5, -, -, -⟩ := S2.cells
                  have hbk := S2.blk
                  have HA := Lib.hid (fun W2 v2 W3 ho hg hat (hw : W3 = _) => SB.app (W3 := W3) (v2 := v2) (W2 := W2) S2 ho hg hat hl hw)
                  have E2' := Lib.hid E2
                  have V2' := Lib.hid V2
                  have HG := Lib.hid (fun W2 (hg : wr.grownBy W2 vo.ownBlock) => blk_grown hbk hg (own_ne S2.out hbk (by decide)))
                  replace S2 := Lib.hid S2.out
                  clear P hbk hl E2 V2 hb0
                  go_wp2_with (first
                    | ((with_reducible refine gate_builtin (b := .append) (xs := #[.tmp 36, .tmp 39]) rfl ?_); at_builtin; refine print_append_num (w0 := wr) 0 rfl (.tmp 36) (.tmp 39) 22 5 .u8 1 rfl Tryz.underlying22 info5 (by omega) vo (out ++ by8 (x2.take j)) (u % 256) rfl rfl S2.out (Below.refl _ _) (Nat.zero_le _) hn8 ?_; intro v1 w3 ho hb hg hat; obtain ⟨A1, d1, hv1⟩ := own_slice ho; rw [snoc_len] at hv1; generalize (out ++ by8 (x2.take j)).length + 1 = nn at hv1; have hbk3 := HG.out w3 hg; have n5 : w3.cell? ⟨b, 5, none⟩ = some vo := (blk_cell hbk3 5).trans rfl; have f5 := blk_frozen hbk3 5; have MA := Lib.hid (HA.out w3 v1 _ ho hg hat rfl); subst hv1; clear ho hb hg hat hbk3 HA HG hxx m5))
                  go_roundg gk
                  case measure => omega
                  case rel => exact ⟨j + 1, rfl, Lib.hid ⟨_, _, E2'.out.trans MA.out.2, MA.out.1, IntZ.ext V2'.out MA.out.2 (by unfold T30; omega)⟩, Lib.hid ⟨by omega, by omega⟩⟩
                · have dj := nlt_dec hj
                  have hjj : j = x2.length := by have := J.out.1; omega
                  have PE := Lib.hid (show SOut w f b c0 c1 vr vw b1 b2 (out ++ by8 x2, st, a, 0) wr by
                    obtain ⟨f2, vo, E2, S2, V2⟩ := P.out
                    rw [hjj, List.take_length] at S2
                    exact ⟨f2, vo, E2, S2⟩)
                  clear P hjj hb0
                  go_wp2
                  go_roundg ko
                  case measure => omega
                  case rel => exact ⟨i + 1, _, rfl, PE, NX⟩
          · have NX := Lib.hid (N.out.bad hi hx rfl h1)
            have dn : (x3 == 0) = false := beq_eq_false_iff_ne.mpr h1
            have HW := Wrong_calls _ _ b c0 c1 vr vw vo b1 b2 (st, a, 0) out 2 x0 x1 x3 Ao x2.length co S5
            have HQ := Lib.hid (show ∀ e w', (e = Ending.returned (.bool true) ∧ ∃ f', Ext (fun z => z = 30) (wr.alloc (.cells #[.int .i64 x0, .int .i64 x1, .slice Ao x2.length co, .int .i64 x3] 66)) w' (newF f1 wr.heap.size 0) f' ∧ SB w' f' b c0 c1 vr vw vo b1 b2 (2, x0, x3) out) → e = .returned (.bool true) ∧ SOut w f b c0 c1 vr vw b1 b2 (out, (2, x0, x3)) w' from
              fun e w' ⟨h1, f', h2, h3⟩ => ⟨h1, f', vo, (E1.trans hE).trans (h2.mono (fun z h => .inl h)), h3⟩)
            replace HW := Lib.hid HW
            clear hE S5 V5 P5 hb5 hv T1 E1 S1 S N kb
            go_wp2_with (first
              | (go_at_call 23; refine HW.out.mono ?_; intro e w' hq; obtain ⟨rfl, PE⟩ := HQ.out _ _ hq; replace PE := Lib.hid PE; clear hq k0 k1 k2 k3 m2 m8 z0 z1 z2 z3))
            go_roundg gk
            case measure => omega
            case rel => exact ⟨i + 1, _, rfl, PE, NX⟩
        · have hz := N.out.stop h0
          subst hz
          have dn : (e == 0) = false := beq_eq_false_iff_ne.mpr h0
          have PE := Lib.hid (show SOut w f b c0 c1 vr vw b1 b2 (out, st, a, e) (wr.alloc (.cells #[.int .i64 x0, .int .i64 x1, .slice Ao x2.length co, .int .i64 x3] 66)) from ⟨_, vo, E1.trans hE, S5⟩)
          clear hE S5 V5 P5 kb hb5 hv T1 E1 S1 S N m2 hi63
          go_wp2
          ((try simp only [Exit.inBlock, Exit.then]); refine bodyPost_ret (results_none rfl _ _ _) rfl ?_)
          exact ⟨rfl, PE.out⟩
      · have di := nlt_dec hi
        have hz : z = q := by
          have h := N.out.ans
          rw [List.drop_eq_nil_of_le (by omega), wrF] at h
          exact h.symm
        subst hz
        clear N
        go_wp2
        go_end0
        exact ⟨rfl, S.out⟩
end Go.Proofs.YtnfjgopcenpblaaGreatDoor.T
