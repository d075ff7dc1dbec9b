/- Texts of this claim, one behind the other (merged by a program): TR2, TR3, TR4. No condition of their own. -/
import Derived.Test.YtnfjgopcenpblaaGreatDoorM06
/- The walk of match.Match's take. No condition beyond the ranges. -/
namespace Go.Proofs.YtnfjgopcenpblaaGreatDoor.T
open Go.RowKit Go.Proofs.YtnfjgopcenpblaaGreatDoorW.PrintWords Go.Proofs.YtnfjgopcenpblaaGreatDoorW.PrintLast Go.Proofs.YtnfjgopcenpblaaGreatDoorW.PrintMore Go.Proofs.YtnfjgopcenpblaaGreatDoor
set_option linter.unusedVariables false
set_option linter.unusedSimpArgs false
attribute [local go_sem] max2_int min2_int max_two min_two
def mtake.T11 : Bool × List (List Nat × List Nat) := (true, [([], []), ([], []), ([1], [1]), ([2], [2]), ([3], [3]), ([], []), ([5], [5]), ([4, 6], [4, 6]), ([7], [7]), ([0, 0, 1, 2, 3, 4, 5, 6, 7, 8], [0]), ([9, 0, 1, 2, 3, 4, 5, 6, 7, 8], [9]), ([10, 8, 8, 0, 1, 2, 3, 4, 5, 6, 7, 8], [8, 10])])
def mtake.B11 : List Nat := [0, 0, 2, 6, 14, 0, 32, 126, 254, 511, 1023, 2047]
theorem mtake.tab11 : rtab .any (opsOf Tryz.f154 11) = mtake.T11 := by kernel_rfl
theorem mtake.bits11 : waitsOk mtake.T11.2 mtake.B11 = true := by kernel_rfl
def TakeM (w : World) (m tb : Nat) (v : Value) (q : List S66 × List Int × Int) (e : Ending) (w' : World) : Prop := ∃ u v', e = .returned u ∧ MInv w m tb v w' v' u q.2.1 q.2.2 q.1
structure TakeN (ns : List S183) (rs : List S150) (fin : Bool) (q : List S66 × List Int × Int) (L kq : Nat) (us : List Int) (a : Int) (xs : List S66) : Prop where
  ans : q = (xs ++ (takeF ns rs fin kq us a).1, (takeF ns rs fin kq us a).2)
  fuel : us.length < kq
  few : xs.length + us.length ≤ L
theorem TakeN.done {ns : List S183} {rs : List S150} {fin : Bool} {q : List S66 × List Int × Int} {L kq : Nat} {us : List Int} {a : Int} {xs : List S66} (h : TakeN ns rs fin q L kq us a xs) (h0 : us = [] ∨ ((longF ns us).2.2 && !fin) = true) : q = (xs, us, a) := by
  have := h.ans
  cases kq with
  | zero => rw [this, takeF, List.append_nil]
  | succ kq =>
    rw [this, takeF]
    rcases h0 with h0 | h0
    · rw [if_pos h0, List.append_nil]
    · by_cases h1 : us = []
      · rw [if_pos h1, List.append_nil]
      · rw [if_neg h1, if_pos h0, List.append_nil]
theorem TakeN.next {ns : List S183} {rs : List S150} {fin op : Bool} {q : List S66 × List Int × Int} {L kq : Nat} {us : List Int} {a k n n1 : Int} {xs : List S66} (h : TakeN ns rs fin q L (kq + 1) us a xs) (h0 : us ≠ []) (hl : longF ns us = (k, n, op)) (h1 : (op && !fin) ≠ true) (hn : tokLen n = n1) (h2 : 1 ≤ n1) (h3 : n1 ≤ us.length) :
    TakeN ns rs fin q L kq (us.drop n1.toNat) (wrap64 (a + n1)) (xs ++ [takeTok rs a k n1]) := by
  obtain ⟨e, f, g⟩ := h
  rw [takeF, if_neg h0, hl, if_neg h1, hn] at e
  exact ⟨by rw [e]; simp, by rw [List.length_drop]; omega, by rw [List.length_append, List.length_drop]; simp; omega⟩
theorem tok_len {n : Int} {l : Nat} (h0 : 0 ≤ n) (h1 : n ≤ l) (h2 : 0 < l) : 1 ≤ tokLen n ∧ tokLen n ≤ l := by unfold tokLen; split <;> omega
theorem tokb_new (w : World) (c0 c1 c2 c3 : Value) : TokB w w.heap.size c0 c1 c2 c3 (w.alloc (.cells #[c0, c1, c2, c3] 66)) := ⟨below_alloc (Below.refl _ _) _, Nat.le_refl _, blk_new _ _⟩
theorem tokb_size (w : World) (c0 c1 c2 c3 : Value) : Value.slice (some ⟨w.heap.size + 1, 0, none⟩) 1 1 = .slice (some ⟨(w.alloc (.cells #[c0, c1, c2, c3] 66)).heap.size, 0, none⟩) 1 1 := by simp
theorem brk_yes {op fin : Bool} (h : (op && !fin) = true) : op = true ∧ fin = false := by cases op <;> cases fin <;> simp_all
theorem brk_no {op fin : Bool} (h : ¬ (op && !fin) = true) : (op = true ∧ fin = true) ∨ op = false := by cases op <;> cases fin <;> simp_all
theorem take_apart {w W : World} {m tb : Nat} {v vi u : Value} {us : List Int} {a : Int} {xs : List S66} (h : MInv w m tb v W vi u us a xs) : ∀ k, W.heap.size ≤ k → (w.heap.size ≤ k ∧ some k ≠ vi.ownBlock) ∧ some k ≠ u.ownBlock := fun k hk =>
  ⟨⟨Nat.le_trans h.kept.1 hk, fun e => by have := own_lt h.own k e.symm; omega⟩, fun e => by have := Kd.R_lt h.toks k e.symm; omega⟩
theorem take_fresh {w W : World} {m tb : Nat} {v vi u : Value} {us : List Int} {a : Int} {xs : List S66} (h : MInv w m tb v W vi u us a xs) : ∀ k, W.heap.size ≤ k → (w.heap.size ≤ k ∧ some k ≠ vi.ownBlock) := fun k hk => (take_apart h k hk).1
theorem take_ne {w W : World} {m tb : Nat} {v vi u : Value} {us : List Int} {a : Int} {xs : List S66} (h : MInv w m tb v W vi u us a xs) : some m ≠ u.ownBlock := fun e => by have := (h.toks.1 m e.symm).1; have := h.mlt; omega
theorem take_gt {w W W2 : World} {m tb g : Nat} {v vi u c0 c1 c2 c3 : Value} {us : List Int} {a : Int} {xs : List S66} (h : MInv w m tb v W vi u us a xs) (t : TokB W g c0 c1 c2 c3 W2) : some g ≠ u.ownBlock := fun e => by have := Kd.R_lt h.toks g e.symm; have := t.2.1; omega
theorem take_mg {w W W2 : World} {m tb g : Nat} {v vi u c0 c1 c2 c3 : Value} {us : List Int} {a : Int} {xs : List S66} (h : MInv w m tb v W vi u us a xs) (t : TokB W g c0 c1 c2 c3 W2) : g ≠ m := by have := h.mlt; have := h.kept.1; have := t.2.1; omega
set_option maxRecDepth 100000 in
set_option maxHeartbeats 1000000 in
theorem Take_calls (w : World) (ok : Nat → Prop) (m tb : Nat) (v : Value) (us : List Int) (a st : Int) (ns : List S183) (rs : List S150) (fin : Bool) (hs : w.heap[m]? = some (.cells #[.pointer (some ⟨tb, 0, none⟩), v, .int .i64 a, .int .i64 st] 144 (0, 0)))
    (ho : w.ownsRow 0 3 1 v us.length (nums .i64 us)) (ht : Tr w ok tb ns rs) (hok : ∀ k, ok k → k ≠ m ∧ some k ≠ v.ownBlock) (hf : Fit ns rs) (hp : 0 < rs.length) (hl : us.length ≤ 100) :
    Calls Tryz.prog 154 #[.pointer (some ⟨m, 0, none⟩), .bool fin] w (TakeM w m tb v (takeF ns rs fin (us.length + 1) us a)) := by
  have I := Lib.hid (minv_start hs ho)
  have N := Lib.hid (show TakeN ns rs fin (takeF ns rs fin (us.length + 1) us a) us.length (us.length + 1) us a [] from ⟨by simp, by omega, by simp⟩)
  have HT := Lib.hid ht
  have hok := Lib.hid hok
  have hf := Lib.hid hf
  have hp := Lib.hid hp
  generalize takeF ns rs fin (us.length + 1) us a = q at *
  generalize hL : us.length = L at *
  replace hL := ()
  clear hs ho ht
  go_enter Tryz.func154, Tryz.ntmps154
  go_wp2
  go_loopg [5] (L + 1) (fun kq v5 w' => ∃ (xs : List S66) (us : List Int) (a : Int) (vi : Value), Hid (MInv w m tb v w' vi v5 us a xs) ∧ Hid (TakeN ns rs fin q L kq us a xs))
  case atStart => exact ⟨[], us, a, v, I, N⟩
  case round =>
    clear I N us a
    obtain ⟨xs, us, a, vi, I, N⟩ := hrel
    obtain ⟨Ai, ci, hvi⟩ := I.out.form
    subst hvi
    obtain ⟨st, hs⟩ := I.out.blk
    have d0 : wr.cell? ⟨m, 0, none⟩ = some (.pointer (some ⟨tb, 0, none⟩)) := (blk_cell hs 0).trans rfl
    have d1 : wr.cell? ⟨m, 1, none⟩ = some (.slice Ai us.length ci) := (blk_cell hs 1).trans rfl
    have d3 : wr.cell? ⟨m, 3, none⟩ = some (.int .i64 st) := (blk_cell hs 3).trans rfl
    have f3 := blk_frozen hs 3
    cases gk with
    | zero => exact absurd N.out.fuel (by omega)
    | succ gk =>
      by_cases hus : us = []
      · have hq := Lib.hid (N.out.done (.inl hus))
        subst hus
        clear N
        go_wp2
        go_ret
        exact ⟨_, _, rfl, by rw [hq.out]; exact I.out⟩
      · have hlen : 0 < us.length := List.length_pos_iff.2 hus
        have dl : decide ((0 : Int) < (us.length : Int)) = true := decide_eq_true (Int.ofNat_lt.mpr hlen)
        have hus := Lib.hid hus
        have hul : us.length ≤ 100 := by have := N.out.few; omega
        have hful := Lib.hid (longF_fit hf.out hp.out us)
        rcases hlf : longF ns us with ⟨k, n, op⟩
        rw [hlf] at hful
        have HL : ∀ j, Hid (Calls Tryz.prog 156 #[.pointer (some ⟨tb, 0, none⟩), .slice Ai us.length ci] (wr.drewN j) fun e w' => e = .returned (.tuple #[.int .i64 k, .int .i64 n, .bool op]) ∧ w' = wr.drewN j) := fun j => Lib.hid
          ((Longest_calls (wr.drewN j) ok tb ns rs Ai ci us ((I.out.keep (pw_below_drewN (Below.refl _ _) j)).trie HT.out hok.out) hf.out.wf hf.out.pos (I.out.keep (pw_below_drewN (Below.refl _ _) j)).rd (by omega) k n op hlf).mono fun e w' h => ⟨h.1, h.2.symm⟩)
        replace HL := Lib.hid HL
        replace hlf := Lib.hid hlf
        replace hs := Lib.hid hs
        go_wp2
        go_quiet ((go_at_call 156; exact Calls.quiet_of_same (HL.out _).out))
        go_wp2
        have hb3 : Below wr.heap.size wr (wr.drewN nq) := pw_below_drewN (Below.refl _ _) nq
        generalize wr.drewN nq = w3 at hb3 ⊢
        have I3 := Lib.hid (I.out.keep hb3)
        have hs3 := Lib.hid (blk_below hs.out hb3)
        clear I d0 d1 d3 f3 HL hs hb3
        have d1 : w3.cell? ⟨m, 1, none⟩ = some (.slice Ai us.length ci) := (blk_cell hs3.out 1).trans rfl
        have d3 : w3.cell? ⟨m, 3, none⟩ = some (.int .i64 st) := (blk_cell hs3.out 3).trans rfl
        go_still_tail 12, (by kernel_rfl)
        change wpList _ _ _ _ _ w3.drew
        have hb4 : Below w3.heap.size w3 w3.drew := below_drew (Below.refl _ _)
        generalize w3.drew = w4 at hb4 ⊢
        have I4 := Lib.hid (I3.out.keep hb4)
        have hs4 := Lib.hid (blk_below hs3.out hb4)
        have f4 := blk_frozen hs4.out 3
        have d4 : w4.cell? ⟨m, 3, none⟩ = some (.int .i64 st) := (blk_cell hs4.out 3).trans rfl
        clear I3 d1 d3 hs3 hb4
        generalize IntKind.i64.wrap (st + (us.length : Int)) = st2
        by_cases hbrk : (op && !fin) = true
        · have hq := Lib.hid (N.out.done (.inr (by rw [hlf.out]; exact hbrk)))
          obtain ⟨rfl, rfl⟩ := brk_yes hbrk
          replace hbrk := ()
          go_wp2_with (first
            | ((with_reducible refine gate_store (t := 3) (p := 40) rfl ?_); refine store_event (t := 3) (p := 40) (v := .tmp 38) (w1 := w4.setCell ⟨m, 3, none⟩ (.int .i64 st2)) ?hg ?ho ?hn ?hr ?_; (case ho => rfl); (case hg => rfl); (case hn => rfl); (case hr => first | (go_simp; done) | (go_simp; rfl)); intro w5 hw5; have I5 := Lib.hid (show MInv w m tb v w5 _ u5 us a xs by rw [hw5]; exact I4.out.put_st hs4.out); clear hw5 f4 d4))
          go_ret
          exact ⟨_, _, rfl, by rw [hq.out]; exact I5.out⟩
        · obtain ⟨n1, hn1⟩ : ∃ n1, (if (1 : Int) < n then n else 1) = n1 := ⟨_, rfl⟩
          have hn2 := Lib.hid (show tokLen n = n1 from hn1)
          have htl := tok_len hful.out.2.1 hful.out.2.2 hlen
          rw [hn2.out] at htl
          obtain ⟨t1, t2⟩ := htl
          have hbrk := Lib.hid hbrk
          have hN := fun h1 => Lib.hid (N.out.next hus.out hlf.out h1 hn2.out t1 t2)
          replace hN := Lib.hid (hN hbrk.out)
          obtain ⟨i3, hi3, _, hsz3, _⟩ := info_parts info3
          obtain ⟨A8, hcut8, hA8, hC8⟩ := print_drop_of (P := Tryz.prog) (Value.int .i64) 0 25 3 .i64 Tryz.underlying25 hi3 hsz3 Ai ci us n1 (by omega) t2 (own_le I4.out.own)
          have hdl : (us.drop n1.toNat).length ≤ 100 := by rw [List.length_drop]; omega
          generalize us.drop n1.toNat = us2 at *
          have hA8 := Lib.hid hA8
          have hfew := Lib.hid (show (xs.length + 1) * 48 ≤ 140737488355328 by have := N.out.few; omega)
          have hkl := hful.out.1
          have hcombo := brk_no hbrk.out
          replace N := ()
          replace hi3 := ()
          replace hsz3 := ()
          clear hbrk hful
          generalize hci8 : ci - n1.toNat = ci8 at *
          replace hci8 := ()
          rcases hcombo with ⟨rfl, rfl⟩ | rfl
          all_goals
            by_cases hk : k < 0
            · have dk : decide (k < 0) = true := decide_eq_true hk
              have htk := Lib.hid (show takeTok rs a k n1 = ⟨a, n1, [], 3⟩ by unfold takeTok; rw [if_pos hk])
              go_wp2_with (first
                | ((with_reducible refine gate_store (t := 3) (p := 40) rfl ?_); refine store_event (t := 3) (p := 40) (v := .tmp 38) (w1 := w4.setCell ⟨m, 3, none⟩ (.int .i64 st2)) ?hg ?ho ?hn ?hr ?_; (case ho => rfl); (case hg => rfl); (case hn => rfl); (case hr => first | (go_simp; done) | (go_simp; rfl)); intro w5 hw5; have I5 := Lib.hid (show MInv w m tb v w5 (.slice Ai us.length ci) u5 us a xs by rw [hw5]; exact I4.out.put_st hs4.out); obtain ⟨st5, hs5⟩ := I5.out.blk; have e0 : w5.cell? ⟨m, 0, none⟩ = some (.pointer (some ⟨tb, 0, none⟩)) := (blk_cell hs5 0).trans rfl; have e2 : w5.cell? ⟨m, 2, none⟩ = some (.int .i64 a) := (blk_cell hs5 2).trans rfl; replace hs5 := Lib.hid hs5; have e0a := cell_b e0 (below_alloc (Below.refl _ _) (.cells #[.int .i64 a, .int .i64 n1, .slice none 0 0, .int .i64 0] 66)); clear hw5 f4 d4)
                | ((with_reducible refine gate_builtin (b := .append) (xs := #[.tmp 63, .tmp 65]) rfl ?_); at_builtin; have T9 := Lib.hid (tokb_new w5 (.int .i64 a) (.int .i64 n1) (.slice none 0 0) (.int .i64 3)); have hM := Lib.hid (k66_mkM (w5.alloc (.cells #[.int .i64 a, .int .i64 n1, .slice none 0 0, .int .i64 3] 66)) 0 (fun k => w5.heap.size ≤ k) ⟨a, n1, [], 3⟩ (v2 := .slice none 0 0) (Kd.R_nil _ _ _ _ _)); obtain ⟨z0, z1, z2, z3⟩ := T9.out.cells; have hwx := tokb_size w5 (.int .i64 a) (.int .i64 n1) (.slice none 0 0) (.int .i64 3); have I9 := I5.out.keep T9.out.1; refine Kd.R_append k66 (w0 := (w5.alloc (.cells #[.int .i64 a, .int .i64 n1, .slice none 0 0, .int .i64 3] 66))) 0 rfl (.tmp 63) (.tmp 65) 49 66 (.agg #[.int .i64 0, .int .i64 0, .slice none 0 0, .int .i64 0]) 48 rfl Tryz.underlying49 info66 rfl (by decide) (by omega) u5 xs (⟨a, n1, [], 3⟩ : S66) [.int .i64 a, .int .i64 n1, .slice none 0 0, .int .i64 3] (fun k => w.heap.size ≤ k ∧ some k ≠ (Value.slice Ai us.length ci).ownBlock) (fun k => w5.heap.size ≤ k) rfl hwx hM.out ?aK ?aF I9.toks (Below.refl _ _) (Nat.zero_le _) hfew.out ?_; (case aK => exact take_apart I5.out); (case aF => exact take_fresh I9); intro v11 w11 ho hb hg hat; have I11 := Lib.hid (I9.app hg ho); (try clear hwx); have hs9 := blk_below hs5.out T9.out.1; have hs11 := blk_grown hs9 hg (take_ne I9); have T11 := Lib.hid (blk_grown T9.out.2.2 hg (take_gt I5.out T9.out)); have q1 : w11.cell? ⟨m, 1, none⟩ = some (.slice Ai us.length ci) := (blk_cell hs11 1).trans rfl; have q2 : w11.cell? ⟨w5.heap.size, 1, none⟩ = some (.int .i64 n1) := (blk_cell T11.out 1).trans rfl; have hmg := Lib.hid (take_mg I5.out T9.out); replace hs11 := Lib.hid hs11; (try clear e0a); clear I9 ho hb hg hat hs9 hM z0 z1 z2 z3 e0 e2 I5 hs5 T9; generalize w5.heap.size = gt at T11 q2 hmg ⊢))
              have HH := two2_start q1 q2
              refine start_ (n := 12) (S := Two2 w11 ⟨m, 1, none⟩ ⟨gt, 1, none⟩ (.slice Ai us.length ci) (.int .i64 n1)) (ds := [11]) #[Z, Z, Z, Z, Z, Z, Z, Z, Z, Z, Z, Z] (by kernel_rfl) rfl rfl HH (fun hHeld => ?_)
              refine with_tabW mtake.tab11 mtake.bits11 (fun HT_ HW_ => ?_)
              refine pure_ (i := 0) (N := some 67) (v := ?_) (a' := ?_) #[Y, Z, Z, Z, Z, Z, Z, Z, Z, Z, Z, Z] rfl rfl (any_of HT_.out (by kernel_rfl)) (fun _ _ _ h => h) (Or.inl ⟨by rfl, ?_⟩) ?_ ?_
              rotate_left
              · intro w'
                go_simp
                with_reducible rfl
              rotate_left
              · simp only [Act.put, List.setIfInBounds_toArray, List.set_cons_zero, List.set_cons_succ, i64_w, i32_w]
                rfl
              refine pure_ (i := 1) (N := some 68) (v := ?_) (a' := ?_) #[Y, Y, Z, Z, Z, Z, Z, Z, Z, Z, Z, Z] rfl rfl (any_of HT_.out (by kernel_rfl)) (fun _ _ _ h => h) (Or.inl ⟨by rfl, ?_⟩) ?_ ?_
              rotate_left
              · intro w'
                go_simp
                with_reducible rfl
              rotate_left
              · simp only [Act.put, List.setIfInBounds_toArray, List.set_cons_zero, List.set_cons_succ, i64_w, i32_w]
                rfl
              refine pure_ (i := 2) (N := some 69) (v := ?_) (a' := ?_) #[Y, Y, Y, Z, Z, Z, Z, Z, Z, Z, Z, Z] rfl rfl (any_of HT_.out (by kernel_rfl)) (fun _ _ _ h => h) (Or.inl ⟨by rfl, ?_⟩) ?_ ?_
              rotate_left
              · intro w'
                go_simp
                with_reducible rfl
              rotate_left
              · simp only [Act.put, List.setIfInBounds_toArray, List.set_cons_zero, List.set_cons_succ, i64_w, i32_w]
                rfl
              refine pure_ (i := 3) (N := some 70) (v := ?_) (a' := ?_) #[Y, Y, Y, Y, Z, Z, Z, Z, Z, Z, Z, Z] rfl rfl (any_of HT_.out (by kernel_rfl)) (fun _ _ _ h => h) (Or.inl ⟨by rfl, ?_⟩) ?_ ?_
              rotate_left
              · intro w'
                go_simp
                with_reducible rfl
              rotate_left
              · simp only [Act.put, List.setIfInBounds_toArray, List.set_cons_zero, List.set_cons_succ, i64_w, i32_w]
                rfl
              refine take_ (i := 4) (N := some 71) (v := ?_) (a' := ?_) #[Y, Y, Y, Y, Y, Z, Z, Z, Z, Z, Z, Z] rfl rfl (take_ofW HT_.out HW_.out (by kernel_rfl)) (fun _ _ _ h => h) (Or.inl ⟨by rfl, ?_⟩) hHeld ?_ ?_
              rotate_left
              · rintro w' ⟨s0, s1, s2⟩
                go_simp
                with_reducible rfl
              rotate_left
              · simp only [Act.put, List.setIfInBounds_toArray, List.set_cons_zero, List.set_cons_succ, i64_w, i32_w]
                rfl
              refine pure_ (i := 5) (N := some 72) (v := ?_) (a' := ?_) #[Y, Y, Y, Y, Y, Y, Z, Z, Z, Z, Z, Z] rfl rfl (any_of HT_.out (by kernel_rfl)) (fun _ _ _ h => h) (Or.inl ⟨by rfl, ?_⟩) ?_ ?_
              rotate_left
              · intro w'
                go_simp
                with_reducible rfl
              rotate_left
              · simp only [Act.put, List.setIfInBounds_toArray, List.set_cons_zero, List.set_cons_succ, i64_w, i32_w]
                rfl
              refine take_ (i := 6) (N := some 73) (v := ?_) (a' := ?_) #[Y, Y, Y, Y, Y, Y, Y, Z, Z, Z, Z, Z] rfl rfl (take_ofW HT_.out HW_.out (by kernel_rfl)) (fun _ _ _ h => h) (Or.inl ⟨by rfl, ?_⟩) hHeld ?_ ?_
              rotate_left
              · rintro w' ⟨s0, s1, s2⟩
                go_simp
                with_reducible rfl
              rotate_left
              · simp only [Act.put, List.setIfInBounds_toArray, List.set_cons_zero, List.set_cons_succ, i64_w, i32_w]
                rfl
              refine pure_ (i := 7) (N := some 74) (v := ?_) (a' := ?_) #[Y, Y, Y, Y, Y, Y, Y, Y, Z, Z, Z, Z] rfl rfl (any_of HT_.out (by kernel_rfl)) (fun _ _ _ h => h) (Or.inl ⟨by rfl, ?_⟩) ?_ ?_
              rotate_left
              · intro w'
                go_simp
                with_reducible rfl
              rotate_left
              · simp only [Act.put, List.setIfInBounds_toArray, List.set_cons_zero, List.set_cons_succ, i64_w, i32_w]
                rfl
              refine one_ (i := 8) (N := some 75) #[Y, Y, Y, Y, Y, Y, Y, Y, Y, Z, Z, Z] rfl rfl (one_of HT_.out (by kernel_rfl)) (by decide) (fun K hK => ?_)
              refine Kd.R_append_rows_step (Kd.int .i64) (w0 := w11.drew) 0 (by rfl) (.const (.slice none 0 0)) (.tmp 74) 25 3 (.int .i64 0) 8 (by rfl) Tryz.underlying25 info3 rfl (by decide) (by omega) (.slice none 0 0) [] us2 A8 us2.length ci8 (fun k => w11.heap.size ≤ k) (fun _ => False) (by rfl) (by rfl) (Kd.R_nil _ _ _ _ _) ?aR (fun _ _ h => h) (fun _ h => h.elim) (fun k hk => hk) (Below.refl _ _) (Nat.zero_le _) (by simp; omega) ?_
              case aR => exact Kd.C_of_reads (h1 := fun _ => rfl) (hA8.out _ (Kd.reads_of_C (d := (0 : Int)) (I11.out.keep hHeld.1).rd))
              intro v12 w12 ho hb hg hat
              replace hg := below_grown hg
              obtain ⟨A12, c12, rfl⟩ := Kd.R_slice ho
              simp only [List.nil_append] at ho
              refine hK.out _ _ (hHeld.step hg) (fun hHeld => ?_)
              clear hK K
              refine norm_ (a' := ?_) ?_ ?_
              rotate_left
              · show Act.put _ (some 75) _ = _
                simp only [Act.put, List.setIfInBounds_toArray, List.set_cons_zero, List.set_cons_succ, i64_w, i32_w]
                rfl
              refine pure_ (i := 9) (N := some 76) (v := ?_) (a' := ?_) #[Y, Y, Y, Y, Y, Y, Y, Y, Y, Y, Z, Z] rfl rfl (any_of HT_.out (by kernel_rfl)) (fun _ _ _ h => h) (Or.inl ⟨by rfl, ?_⟩) ?_ ?_
              rotate_left
              · intro w'
                go_simp
                with_reducible rfl
              rotate_left
              · simp only [Act.put, List.setIfInBounds_toArray, List.set_cons_zero, List.set_cons_succ, i64_w, i32_w]
                rfl
              refine pure_ (i := 10) (N := some 77) (v := ?_) (a' := ?_) #[Y, Y, Y, Y, Y, Y, Y, Y, Y, Y, Y, Z] rfl rfl (any_of HT_.out (by kernel_rfl)) (fun _ _ _ h => h) (Or.inl ⟨by rfl, ?_⟩) ?_ ?_
              rotate_left
              · intro w'
                go_simp
                with_reducible rfl
              rotate_left
              · simp only [Act.put, List.setIfInBounds_toArray, List.set_cons_zero, List.set_cons_succ, i64_w, i32_w]
                rfl
              refine last_ (i := 11) (N := none) #[Y, Y, Y, Y, Y, Y, Y, Y, Y, Y, Y, Y] rfl rfl (one_of HT_.out (by kernel_rfl)) (by decide) (fun K hK => ?_)
              have hs12 := blk_below hs11.out hHeld.1
              have k1 := hHeld.2.1
              have kf := blk_frozen hs12 1
              refine skip_ (w1 := w12.setCell ⟨m, 1, none⟩ (.slice A12 us2.length c12)) (by rfl) rfl ?_ ?_
              · go_simp
              refine hK.out _ _ ?_
              clear hK K
              refine done_ (done_of HT_.out (by kernel_rfl)) ?_
              have I13 := Lib.hid (I11.out.put_wait hHeld.1 (Kd.own_raise (Kd.own_of_R ho) (fun k hk => ho.1 k hk)) hs12)
              have r1 : (w12.setCell ⟨m, 1, none⟩ (.slice A12 us2.length c12)).cell? ⟨gt, 1, none⟩ = some (.int .i64 n1) := (World.cell?_of_block (Below.heap_setCell w12 ⟨m, 1, none⟩ _ gt hmg.out)).trans hHeld.2.2
              clear hs12 k1 kf ho hb hg hat hHeld q1 q2 HH HT_ HW_ I11 hs11
              generalize w12.setCell ⟨m, 1, none⟩ (.slice A12 us2.length c12) = w13 at I13 r1 ⊢
              obtain ⟨st13, hs13⟩ := I13.out.blk
              have r2 : w13.cell? ⟨m, 2, none⟩ = some (.int .i64 a) := (blk_cell hs13 2).trans rfl
              replace hs13 := Lib.hid hs13
              go_wp2
              go_still_tail 9, (by kernel_rfl)
              change wpList _ _ _ _ _ w13.drew
              have hb14 : Below w13.heap.size w13 w13.drew := below_drew (Below.refl _ _)
              generalize w13.drew = w14 at hb14 ⊢
              have I14 := Lib.hid (I13.out.keep hb14)
              have hs14 := Lib.hid (blk_below hs13.out hb14)
              have s2 : w14.cell? ⟨m, 2, none⟩ = some (.int .i64 a) := (blk_cell hs14.out 2).trans rfl
              have sf := blk_frozen hs14.out 2
              clear I13 hs13 r1 r2 hb14
              generalize hwr : IntKind.i64.wrap (a + n1) = a2 at *
              replace hwr := Lib.hid hwr
              go_wp2_with (first
                | ((with_reducible refine gate_store (t := 3) (p := 86) rfl ?_); refine store_event (t := 3) (p := 86) (v := .tmp 84) (w1 := w14.setCell ⟨m, 2, none⟩ (.int .i64 a2)) ?hg ?ho ?hn ?hr ?_; (case ho => rfl); (case hg => rfl); (case hn => rfl); (case hr => first | (go_simp; done) | (go_simp; rfl)); intro w15 hw15; have I15 := Lib.hid (show MInv w m tb v w15 (.slice A12 us2.length c12) _ us2 a2 _ by rw [hw15]; exact I14.out.put_at hs14.out); clear hw15 s2 sf I14 hs14))
              go_roundg gk
              case measure => exact Nat.lt_succ_self _
              case rel => exact ⟨_, us2, a2, _, I15, by have h := hN.out; rw [htk.out, ← i64_w, hwr.out] at h; exact Lib.hid h⟩
            · have dk : decide (k < 0) = false := decide_eq_false hk
              have hko : Hid ((rd_T150 rs k).f1.length ≤ 8) := Lib.hid (hf.out.outs _ (by have := rd_mem (rs := rs) (i := k.toNat) (by omega); rwa [show ((k.toNat : Nat) : Int) = k by omega] at this))
              have htk := Lib.hid (show takeTok rs a k n1 = ⟨a, n1, (rd_T150 rs k).f1, 0⟩ by unfold takeTok; rw [if_neg hk])
              generalize hro : (rd_T150 rs k).f1 = o at *
              replace hro := Lib.hid hro
              go_wp2_with (first
                | ((with_reducible refine gate_store (t := 3) (p := 40) rfl ?_); refine store_event (t := 3) (p := 40) (v := .tmp 38) (w1 := w4.setCell ⟨m, 3, none⟩ (.int .i64 st2)) ?hg ?ho ?hn ?hr ?_; (case ho => rfl); (case hg => rfl); (case hn => rfl); (case hr => first | (go_simp; done) | (go_simp; rfl)); intro w5 hw5; have I5 := Lib.hid (show MInv w m tb v w5 (.slice Ai us.length ci) u5 us a xs by rw [hw5]; exact I4.out.put_st hs4.out); obtain ⟨st5, hs5⟩ := I5.out.blk; have e0 : w5.cell? ⟨m, 0, none⟩ = some (.pointer (some ⟨tb, 0, none⟩)) := (blk_cell hs5 0).trans rfl; have e2 : w5.cell? ⟨m, 2, none⟩ = some (.int .i64 a) := (blk_cell hs5 2).trans rfl; replace hs5 := Lib.hid hs5; have e0a := cell_b e0 (below_alloc (Below.refl _ _) (.cells #[.int .i64 a, .int .i64 n1, .slice none 0 0, .int .i64 0] 66)); clear hw5 f4 d4)
                | (go_at_call 157; have T7 := Lib.hid (tokb_new w5 (.int .i64 a) (.int .i64 n1) (.slice none 0 0) (.int .i64 0)); generalize w5.alloc (.cells #[.int .i64 a, .int .i64 n1, .slice none 0 0, .int .i64 0] 66) = w7 at T7 ⊢; clear e0a; have hC9 := Out_calls w7 ok tb ns rs k ((I5.out.keep T7.out.1).trie HT.out hok.out) (by omega) hkl o hro.out (by have := hko.out; omega); (with_reducible refine hC9.mono ?_); clear hC9; rintro e w8 ⟨v8, rfl, hR8, hb8⟩; obtain ⟨Ao, co, rfl⟩ := Kd.R_slice hR8; have T8 := Lib.hid (T7.out.step hb8); have z2 := T8.out.cells.2.2.1; have hz8 := T7.out.1.size; replace hR8 := Lib.hid (Kd.R_mono hR8 (ok' := fun k => w5.heap.size ≤ k) (fun k hk => Nat.le_trans hz8 hk)); have y2 := T8.out.frozen 2; clear hb8 hz8)
                | ((with_reducible refine gate_store (t := 25) (p := 62) rfl ?_); refine store_event (t := 25) (p := 62) (v := .tmp 61) (w1 := w8.setCell ⟨w5.heap.size, 2, none⟩ (.slice Ao o.length co)) ?hg ?ho ?hn ?hr ?_; (case ho => rfl); (case hg => rfl); (case hn => rfl); (case hr => first | (go_simp; done) | (go_simp; rfl)); intro w9 hw9; have T9 := Lib.hid (show TokB w5 w5.heap.size (.int .i64 a) (.int .i64 n1) (.slice Ao o.length co) (.int .i64 0) w9 by rw [hw9]; exact T8.out.put2 _); obtain ⟨z0, z1, z2, z3⟩ := T9.out.cells; have hM := Lib.hid (k66_mkM w9 0 (fun k => w5.heap.size ≤ k) ⟨a, n1, o, 0⟩ (v2 := .slice Ao o.length co) (by rw [hw9]; exact Kd.R_set hR8.out T8.out.2.2 (by decide) _ _)); clear hw9 y2 T7 T8 hR8)
                | ((with_reducible refine gate_builtin (b := .append) (xs := #[.tmp 63, .tmp 65]) rfl ?_); at_builtin; have I9 := I5.out.keep T9.out.1; refine Kd.R_append k66 (w0 := w9) 0 rfl (.tmp 63) (.tmp 65) 49 66 (.agg #[.int .i64 0, .int .i64 0, .slice none 0 0, .int .i64 0]) 48 rfl Tryz.underlying49 info66 rfl (by decide) (by omega) u5 xs (⟨a, n1, o, 0⟩ : S66) [.int .i64 a, .int .i64 n1, .slice Ao o.length co, .int .i64 0] (fun k => w.heap.size ≤ k ∧ some k ≠ (Value.slice Ai us.length ci).ownBlock) (fun k => w5.heap.size ≤ k) rfl rfl hM.out ?aK ?aF I9.toks (Below.refl _ _) (Nat.zero_le _) hfew.out ?_; (case aK => exact take_apart I5.out); (case aF => exact take_fresh I9); intro v11 w11 ho hb hg hat; have I11 := Lib.hid (I9.app hg ho); (try clear hwx); have hs9 := blk_below hs5.out T9.out.1; have hs11 := blk_grown hs9 hg (take_ne I9); have T11 := Lib.hid (blk_grown T9.out.2.2 hg (take_gt I5.out T9.out)); have q1 : w11.cell? ⟨m, 1, none⟩ = some (.slice Ai us.length ci) := (blk_cell hs11 1).trans rfl; have q2 : w11.cell? ⟨w5.heap.size, 1, none⟩ = some (.int .i64 n1) := (blk_cell T11.out 1).trans rfl; have hmg := Lib.hid (take_mg I5.out T9.out); replace hs11 := Lib.hid hs11; (try clear e0a); clear I9 ho hb hg hat hs9 hM z0 z1 z2 z3 e0 e2 I5 hs5 T9; generalize w5.heap.size = gt at T11 q2 hmg ⊢))
              have HH := two2_start q1 q2
              refine start_ (n := 12) (S := Two2 w11 ⟨m, 1, none⟩ ⟨gt, 1, none⟩ (.slice Ai us.length ci) (.int .i64 n1)) (ds := [11]) #[Z, Z, Z, Z, Z, Z, Z, Z, Z, Z, Z, Z] (by kernel_rfl) rfl rfl HH (fun hHeld => ?_)
              refine with_tabW mtake.tab11 mtake.bits11 (fun HT_ HW_ => ?_)
              refine pure_ (i := 0) (N := some 67) (v := ?_) (a' := ?_) #[Y, Z, Z, Z, Z, Z, Z, Z, Z, Z, Z, Z] rfl rfl (any_of HT_.out (by kernel_rfl)) (fun _ _ _ h => h) (Or.inl ⟨by rfl, ?_⟩) ?_ ?_
              rotate_left
              · intro w'
                go_simp
                with_reducible rfl
              rotate_left
              · simp only [Act.put, List.setIfInBounds_toArray, List.set_cons_zero, List.set_cons_succ, i64_w, i32_w]
                rfl
              refine pure_ (i := 1) (N := some 68) (v := ?_) (a' := ?_) #[Y, Y, Z, Z, Z, Z, Z, Z, Z, Z, Z, Z] rfl rfl (any_of HT_.out (by kernel_rfl)) (fun _ _ _ h => h) (Or.inl ⟨by rfl, ?_⟩) ?_ ?_
              rotate_left
              · intro w'
                go_simp
                with_reducible rfl
              rotate_left
              · simp only [Act.put, List.setIfInBounds_toArray, List.set_cons_zero, List.set_cons_succ, i64_w, i32_w]
                rfl
              refine pure_ (i := 2) (N := some 69) (v := ?_) (a' := ?_) #[Y, Y, Y, Z, Z, Z, Z, Z, Z, Z, Z, Z] rfl rfl (any_of HT_.out (by kernel_rfl)) (fun _ _ _ h => h) (Or.inl ⟨by rfl, ?_⟩) ?_ ?_
              rotate_left
              · intro w'
                go_simp
                with_reducible rfl
              rotate_left
              · simp only [Act.put, List.setIfInBounds_toArray, List.set_cons_zero, List.set_cons_succ, i64_w, i32_w]
                rfl
              refine pure_ (i := 3) (N := some 70) (v := ?_) (a' := ?_) #[Y, Y, Y, Y, Z, Z, Z, Z, Z, Z, Z, Z] rfl rfl (any_of HT_.out (by kernel_rfl)) (fun _ _ _ h => h) (Or.inl ⟨by rfl, ?_⟩) ?_ ?_
              rotate_left
              · intro w'
                go_simp
                with_reducible rfl
              rotate_left
              · simp only [Act.put, List.setIfInBounds_toArray, List.set_cons_zero, List.set_cons_succ, i64_w, i32_w]
                rfl
              refine take_ (i := 4) (N := some 71) (v := ?_) (a' := ?_) #[Y, Y, Y, Y, Y, Z, Z, Z, Z, Z, Z, Z] rfl rfl (take_ofW HT_.out HW_.out (by kernel_rfl)) (fun _ _ _ h => h) (Or.inl ⟨by rfl, ?_⟩) hHeld ?_ ?_
              rotate_left
              · rintro w' ⟨s0, s1, s2⟩
                go_simp
                with_reducible rfl
              rotate_left
              · simp only [Act.put, List.setIfInBounds_toArray, List.set_cons_zero, List.set_cons_succ, i64_w, i32_w]
                rfl
              refine pure_ (i := 5) (N := some 72) (v := ?_) (a' := ?_) #[Y, Y, Y, Y, Y, Y, Z, Z, Z, Z, Z, Z] rfl rfl (any_of HT_.out (by kernel_rfl)) (fun _ _ _ h => h) (Or.inl ⟨by rfl, ?_⟩) ?_ ?_
              rotate_left
              · intro w'
                go_simp
                with_reducible rfl
              rotate_left
              · simp only [Act.put, List.setIfInBounds_toArray, List.set_cons_zero, List.set_cons_succ, i64_w, i32_w]
                rfl
              refine take_ (i := 6) (N := some 73) (v := ?_) (a' := ?_) #[Y, Y, Y, Y, Y, Y, Y, Z, Z, Z, Z, Z] rfl rfl (take_ofW HT_.out HW_.out (by kernel_rfl)) (fun _ _ _ h => h) (Or.inl ⟨by rfl, ?_⟩) hHeld ?_ ?_
              rotate_left
              · rintro w' ⟨s0, s1, s2⟩
                go_simp
                with_reducible rfl
              rotate_left
              · simp only [Act.put, List.setIfInBounds_toArray, List.set_cons_zero, List.set_cons_succ, i64_w, i32_w]
                rfl
              refine pure_ (i := 7) (N := some 74) (v := ?_) (a' := ?_) #[Y, Y, Y, Y, Y, Y, Y, Y, Z, Z, Z, Z] rfl rfl (any_of HT_.out (by kernel_rfl)) (fun _ _ _ h => h) (Or.inl ⟨by rfl, ?_⟩) ?_ ?_
              rotate_left
              · intro w'
                go_simp
                with_reducible rfl
              rotate_left
              · simp only [Act.put, List.setIfInBounds_toArray, List.set_cons_zero, List.set_cons_succ, i64_w, i32_w]
                rfl
              refine one_ (i := 8) (N := some 75) #[Y, Y, Y, Y, Y, Y, Y, Y, Y, Z, Z, Z] rfl rfl (one_of HT_.out (by kernel_rfl)) (by decide) (fun K hK => ?_)
              refine Kd.R_append_rows_step (Kd.int .i64) (w0 := w11.drew) 0 (by rfl) (.const (.slice none 0 0)) (.tmp 74) 25 3 (.int .i64 0) 8 (by rfl) Tryz.underlying25 info3 rfl (by decide) (by omega) (.slice none 0 0) [] us2 A8 us2.length ci8 (fun k => w11.heap.size ≤ k) (fun _ => False) (by rfl) (by rfl) (Kd.R_nil _ _ _ _ _) ?aR (fun _ _ h => h) (fun _ h => h.elim) (fun k hk => hk) (Below.refl _ _) (Nat.zero_le _) (by simp; omega) ?_
              case aR => exact Kd.C_of_reads (h1 := fun _ => rfl) (hA8.out _ (Kd.reads_of_C (d := (0 : Int)) (I11.out.keep hHeld.1).rd))
              intro v12 w12 ho hb hg hat
              replace hg := below_grown hg
              obtain ⟨A12, c12, rfl⟩ := Kd.R_slice ho
              simp only [List.nil_append] at ho
              refine hK.out _ _ (hHeld.step hg) (fun hHeld => ?_)
              clear hK K
              refine norm_ (a' := ?_) ?_ ?_
              rotate_left
              · show Act.put _ (some 75) _ = _
                simp only [Act.put, List.setIfInBounds_toArray, List.set_cons_zero, List.set_cons_succ, i64_w, i32_w]
                rfl
              refine pure_ (i := 9) (N := some 76) (v := ?_) (a' := ?_) #[Y, Y, Y, Y, Y, Y, Y, Y, Y, Y, Z, Z] rfl rfl (any_of HT_.out (by kernel_rfl)) (fun _ _ _ h => h) (Or.inl ⟨by rfl, ?_⟩) ?_ ?_
              rotate_left
              · intro w'
                go_simp
                with_reducible rfl
              rotate_left
              · simp only [Act.put, List.setIfInBounds_toArray, List.set_cons_zero, List.set_cons_succ, i64_w, i32_w]
                rfl
              refine pure_ (i := 10) (N := some 77) (v := ?_) (a' := ?_) #[Y, Y, Y, Y, Y, Y, Y, Y, Y, Y, Y, Z] rfl rfl (any_of HT_.out (by kernel_rfl)) (fun _ _ _ h => h) (Or.inl ⟨by rfl, ?_⟩) ?_ ?_
              rotate_left
              · intro w'
                go_simp
                with_reducible rfl
              rotate_left
              · simp only [Act.put, List.setIfInBounds_toArray, List.set_cons_zero, List.set_cons_succ, i64_w, i32_w]
                rfl
              refine last_ (i := 11) (N := none) #[Y, Y, Y, Y, Y, Y, Y, Y, Y, Y, Y, Y] rfl rfl (one_of HT_.out (by kernel_rfl)) (by decide) (fun K hK => ?_)
              have hs12 := blk_below hs11.out hHeld.1
              have k1 := hHeld.2.1
              have kf := blk_frozen hs12 1
              refine skip_ (w1 := w12.setCell ⟨m, 1, none⟩ (.slice A12 us2.length c12)) (by rfl) rfl ?_ ?_
              · go_simp
              refine hK.out _ _ ?_
              clear hK K
              refine done_ (done_of HT_.out (by kernel_rfl)) ?_
              have I13 := Lib.hid (I11.out.put_wait hHeld.1 (Kd.own_raise (Kd.own_of_R ho) (fun k hk => ho.1 k hk)) hs12)
              have r1 : (w12.setCell ⟨m, 1, none⟩ (.slice A12 us2.length c12)).cell? ⟨gt, 1, none⟩ = some (.int .i64 n1) := (World.cell?_of_block (Below.heap_setCell w12 ⟨m, 1, none⟩ _ gt hmg.out)).trans hHeld.2.2
              clear hs12 k1 kf ho hb hg hat hHeld q1 q2 HH HT_ HW_ I11 hs11
              generalize w12.setCell ⟨m, 1, none⟩ (.slice A12 us2.length c12) = w13 at I13 r1 ⊢
              obtain ⟨st13, hs13⟩ := I13.out.blk
              have r2 : w13.cell? ⟨m, 2, none⟩ = some (.int .i64 a) := (blk_cell hs13 2).trans rfl
              replace hs13 := Lib.hid hs13
              go_wp2
              go_still_tail 9, (by kernel_rfl)
              change wpList _ _ _ _ _ w13.drew
              have hb14 : Below w13.heap.size w13 w13.drew := below_drew (Below.refl _ _)
              generalize w13.drew = w14 at hb14 ⊢
              have I14 := Lib.hid (I13.out.keep hb14)
              have hs14 := Lib.hid (blk_below hs13.out hb14)
              have s2 : w14.cell? ⟨m, 2, none⟩ = some (.int .i64 a) := (blk_cell hs14.out 2).trans rfl
              have sf := blk_frozen hs14.out 2
              clear I13 hs13 r1 r2 hb14
              generalize hwr : IntKind.i64.wrap (a + n1) = a2 at *
              replace hwr := Lib.hid hwr
              go_wp2_with (first
                | ((with_reducible refine gate_store (t := 3) (p := 86) rfl ?_); refine store_event (t := 3) (p := 86) (v := .tmp 84) (w1 := w14.setCell ⟨m, 2, none⟩ (.int .i64 a2)) ?hg ?ho ?hn ?hr ?_; (case ho => rfl); (case hg => rfl); (case hn => rfl); (case hr => first | (go_simp; done) | (go_simp; rfl)); intro w15 hw15; have I15 := Lib.hid (show MInv w m tb v w15 (.slice A12 us2.length c12) _ us2 a2 _ by rw [hw15]; exact I14.out.put_at hs14.out); clear hw15 s2 sf I14 hs14))
              go_roundg gk
              case measure => exact Nat.lt_succ_self _
              case rel => exact ⟨_, us2, a2, _, I15, by have h := hN.out; rw [htk.out, ← i64_w, hwr.out] at h; exact Lib.hid h⟩
end Go.Proofs.YtnfjgopcenpblaaGreatDoor.T

/- Marks of blocks: who may write a block; what becomes of them; tokens and matches by marks. No condition beyond the ranges. -/
namespace Go.Proofs.YtnfjgopcenpblaaGreatDoor.T
open Go.RowKit Go.Proofs.YtnfjgopcenpblaaGreatDoorW.PrintWords Go.Proofs.YtnfjgopcenpblaaGreatDoorW.PrintLast Go.Proofs.YtnfjgopcenpblaaGreatDoorW.PrintMore Go.Proofs.YtnfjgopcenpblaaGreatDoor
set_option linter.unusedVariables false
set_option linter.unusedSimpArgs false
/-- w' is w but for blocks whose mark T has, and for new ones; the marks f' of what was there are those of f -/
structure Ext (T : Nat → Prop) (w w' : World) (f f' : Nat → Nat) : Prop where
  size : w.heap.size ≤ w'.heap.size
  tag : ∀ k, k < w.heap.size → f' k = f k
  keep : ∀ k, k < w.heap.size → ¬ T (f k) → w'.heap[k]? = w.heap[k]?
  os : w'.os = w.os
  tape : w'.tape = w.tape
  output : w'.output = w.output
namespace Ext
variable {T T' : Nat → Prop} {w w' w2 : World} {f f' f2 : Nat → Nat}
theorem refl (T : Nat → Prop) (w : World) (f : Nat → Nat) : Ext T w w f f := ⟨Nat.le_refl _, fun _ _ => rfl, fun _ _ _ => rfl, rfl, rfl, rfl⟩
theorem trans (h : Ext T w w' f f') (g : Ext T w' w2 f' f2) : Ext T w w2 f f2 :=
  ⟨Nat.le_trans h.size g.size, fun k hk => (g.tag k (Nat.lt_of_lt_of_le hk h.size)).trans (h.tag k hk),
    fun k hk hn => (g.keep k (Nat.lt_of_lt_of_le hk h.size) (by rw [h.tag k hk]; exact hn)).trans (h.keep k hk hn), g.os.trans h.os, g.tape.trans h.tape, g.output.trans h.output⟩
theorem mono (h : Ext T w w' f f') (ht : ∀ x, T x → T' x) : Ext T' w w' f f' := ⟨h.size, h.tag, fun k hk hn => h.keep k hk (fun x => hn (ht _ x)), h.os, h.tape, h.output⟩
theorem of_below (h : Below w.heap.size w w') (ht : ∀ k, k < w.heap.size → f' k = f k) : Ext T w w' f f' := ⟨h.size, ht, fun k hk _ => h.block k hk, h.os, h.tape, h.output⟩
theorem below (h : Ext T w w' f f') {B : Nat} (hB : B ≤ w.heap.size) (hn : ∀ k, k < B → ¬ T (f k)) : Below B w w' := ⟨h.os, h.tape, h.output, h.size, fun k hk => h.keep k (Nat.lt_of_lt_of_le hk hB) (hn k hk)⟩
theorem blk (h : Ext T w w' f f') {b : Nat} {o : Obj} (hb : w.heap[b]? = some o) (hn : ¬ T (f b)) : w'.heap[b]? = some o := (h.keep b (blk_lt hb) hn).trans hb
theorem tg (h : Ext T w w' f f') {b : Nat} {o : Obj} (hb : w.heap[b]? = some o) : f' b = f b := h.tag b (blk_lt hb)
theorem same (h : Ext T w w' f f') (F : Nat → Prop) (hn : ∀ k, F k → ¬ T (f k)) : Same F w w' := ⟨h.size, fun k hk hl => h.keep k hl (hn k hk)⟩
end Ext
/-- the marks f of old blocks, x for new ones -/
def newF (f : Nat → Nat) (n x : Nat) (k : Nat) : Nat := if k < n then f k else x
theorem newF_old {f : Nat → Nat} {n x k : Nat} (h : k < n) : newF f n x k = f k := if_pos h
theorem newF_new {f : Nat → Nat} {n x k : Nat} (h : n ≤ k) : newF f n x k = x := if_neg (by omega)
theorem Ext.new {T : Nat → Prop} {w w' : World} {f : Nat → Nat} (x : Nat) (h : Below w.heap.size w w') : Ext T w w' f (newF f w.heap.size x) := Ext.of_below h (fun _ hk => newF_old hk)
/-- a trie, its blocks marked 0 -/
def TrZ (w : World) (f : Nat → Nat) (b : Nat) (ns : List S183) (rs : List S150) : Prop := Tr w (fun k => f k = 0) b ns rs
theorem TrZ.ext {T : Nat → Prop} {w w' : World} {f f' : Nat → Nat} {b : Nat} {ns : List S183} {rs : List S150} (h : TrZ w f b ns rs) (e : Ext T w w' f f') (h0 : ¬ T 0) : TrZ w' f' b ns rs :=
  (h.bound.same (e.same _ (fun k hk => by rw [hk.1]; exact h0))).mono (fun k hk => by rw [e.tag k hk.2]; exact hk.1)
theorem Tab.bound {w : World} {ok : Nat → Prop} {b : Nat} {rs : List S150} (h : Tab w ok b rs) : Tab w (fun k => ok k ∧ k < w.heap.size) b rs := by
  obtain ⟨⟨i, o, rb, wb, h1, h2, h3⟩, h4⟩ := h
  exact ⟨⟨i, o, rb, wb, h1, h2.bound, h3.bound⟩, h4, blk_lt h1⟩
def TabZ (w : World) (f : Nat → Nat) (b : Nat) (rs : List S150) : Prop := Tab w (fun k => f k = 0) b rs
theorem TabZ.ext {T : Nat → Prop} {w w' : World} {f f' : Nat → Nat} {b : Nat} {rs : List S150} (h : TabZ w f b rs) (e : Ext T w w' f f') (h0 : ¬ T 0) : TabZ w' f' b rs :=
  (h.bound.same (e.same _ (fun k hk => by rw [hk.1]; exact h0))).mono (fun k hk => by rw [e.tag k hk.2]; exact hk.1)
/-- numbers that are read, their blocks marked 0 -/
def IntZ (w : World) (f : Nat → Nat) (v : Value) (xs : List Int) : Prop := (Kd.int .i64).R 3 w 0 (fun k => f k = 0) v xs
theorem IntZ.ext {T : Nat → Prop} {w w' : World} {f f' : Nat → Nat} {v : Value} {xs : List Int} (h : IntZ w f v xs) (e : Ext T w w' f f') (h0 : ¬ T 0) : IntZ w' f' v xs :=
  Kd.R_mono (Kd.R_step (Kd.R_bound h) (fun k hk hl => e.keep k hl (by rw [hk.1]; exact h0))) (fun k hk => by rw [e.tag k hk.2.2.1]; exact hk.1)
/-- tokens in a row that is marked y, all else of them is marked 0 -/
structure Toks (w : World) (f : Nat → Nat) (y : Nat) (u : Value) (ts : List S66) : Prop where
  own : ∀ k, u.ownBlock = some k → f k = y
  row : OwnRow (k66.M w 0 (fun k => f k = 0)) 66 4 w 0 u ts
theorem Toks.ext {T : Nat → Prop} {w w' : World} {f f' : Nat → Nat} {y : Nat} {u : Value} {ts : List S66} (h : Toks w f y u ts) (e : Ext T w w' f f') (h0 : ¬ T 0) (hy : ¬ T y) : Toks w' f' y u ts := by
  obtain ⟨inner, ho, hr⟩ := h.row
  refine ⟨fun k hk => (e.tag k (own_lt ho k hk)).trans (h.own k hk), inner, own_move ho (fun k hk => e.keep k (own_lt ho k hk) (by rw [h.own k hk]; exact hy)), hr.imp_ (fun x cs hp => ?_)⟩
  exact k66.M_mono (fun k hk => by rw [e.tag k hk.2.2.1]; exact hk.1) (Kd.M_step (k66.M_bound hp) (fun k hk hl => e.keep k hl (by rw [hk.1]; exact h0)))
theorem Toks.R {w : World} {f : Nat → Nat} {y : Nat} {u : Value} {ts : List S66} (h : Toks w f y u ts) (hy : y ≠ 0) : k66.R 66 w 0 (fun k => f k = 0 ∨ some k = u.ownBlock) u ts :=
  ⟨fun k hk => .inr hk.symm, h.row.imp_ (fun x cs hp => k66.M_mono (fun k hk => ⟨.inl hk, fun e => hy ((h.own k e.symm).symm.trans hk)⟩) hp)⟩
theorem Toks.of_R {w : World} {f : Nat → Nat} {y : Nat} {u : Value} {ts : List S66} {ok : Nat → Prop} (h : k66.R 66 w 0 ok u ts) (ho : ∀ k, u.ownBlock = some k → f k = y) (hz : ∀ k, ok k → some k ≠ u.ownBlock → k < w.heap.size → f k = 0) : Toks w f y u ts :=
  ⟨ho, h.2.imp_ (fun x cs hp => k66.M_mono (fun k hk => hz k hk.1.1 hk.1.2 hk.2.2.1) (k66.M_bound hp))⟩
theorem Toks.nil (w : World) (f : Nat → Nat) (y : Nat) : Toks w f y (.slice none 0 0) [] := ⟨fun k hk => by simp [Value.ownBlock] at hk, OwnRow.none_ _ _ _ _ _⟩
theorem Toks.lt {w : World} {f : Nat → Nat} {y : Nat} {u : Value} {ts : List S66} (h : Toks w f y u ts) : ∀ k, u.ownBlock = some k → k < w.heap.size := by
  obtain ⟨inner, ho, hr⟩ := h.row
  exact fun k hk => own_lt ho k hk
theorem Toks.rd {w : World} {f : Nat → Nat} {y : Nat} {u : Value} {ts : List S66} (h : Toks w f y u ts) : ∃ A c, u = .slice A ts.length c ∧ ts.length ≤ c ∧ k66.C w A ts.length ts := by
  obtain ⟨A, c, e, l, r⟩ := h.row.reads
  exact ⟨A, c, e, l, ReadsRow.imp_ r (Below.refl _ _) (fun x cs hp => k66.K_of_M hp)⟩
/-- a match of marks x: what waits, where it begins, by a trie -/
structure Mt (w : World) (f : Nat → Nat) (x m : Nat) (us : List Int) (a : Int) (ns : List S183) (rs : List S150) : Prop where
  blk : ∃ (tb : Nat) (v : Value) (st : Int), w.heap[m]? = some (.cells #[.pointer (some ⟨tb, 0, none⟩), v, .int .i64 a, .int .i64 st] 144 (0, 0)) ∧ w.ownsRow 0 3 1 v us.length (nums .i64 us) ∧ (∀ k, v.ownBlock = some k → f k = x) ∧ TrZ w f tb ns rs
  fm : f m = x
theorem Mt.ext {T : Nat → Prop} {w w' : World} {f f' : Nat → Nat} {x m : Nat} {us : List Int} {a : Int} {ns : List S183} {rs : List S150} (h : Mt w f x m us a ns rs) (e : Ext T w w' f f') (h0 : ¬ T 0) (hx : ¬ T x) : Mt w' f' x m us a ns rs := by
  obtain ⟨⟨tb, v, st, h1, h2, h3, h4⟩, h5⟩ := h
  exact ⟨⟨tb, v, st, e.blk h1 (by rw [h5]; exact hx), own_move h2 (fun k hk => e.keep k (own_lt h2 k hk) (by rw [h3 k hk]; exact hx)), fun k hk => (e.tag k (own_lt h2 k hk)).trans (h3 k hk), h4.ext e h0⟩, (e.tg h1).trans h5⟩
/-- what a call leaves: tokens (marks y), another state of its own (marks T) -/
def Gives (T : Nat → Prop) (y : Nat) (w : World) (f : Nat → Nat) (ts : List S66) (M : World → (Nat → Nat) → Prop) (e : Ending) (w' : World) : Prop := ∃ u f', e = .returned u ∧ Ext T w w' f f' ∧ Toks w' f' y u ts ∧ M w' f'
/-- the marks behind take -/
def takeMark (f : Nat → Nat) (n x y : Nat) (vi u : Value) (k : Nat) : Nat := if k < n then f k else if some k = vi.ownBlock then x else if some k = u.ownBlock then y else 0
theorem take_marks {w w' W0 : World} {m tb x y : Nat} {v v' u : Value} {us : List Int} {a : Int} {xs : List S66} {f : Nat → Nat} {ns : List S183} {rs : List S150} (hw0 : W0.heap.size ≤ w.heap.size) (hy : y ≠ 0)
    (h : MInv w m tb v w' v' u us a xs) (hv : ∀ k, v.ownBlock = some k → f k = x ∨ W0.heap.size ≤ k) (hm : f m = x) (hm0 : m < W0.heap.size) (ht : TrZ W0 f tb ns rs)
    (hx : x ≠ 0) (he : ∀ k, k < W0.heap.size → f k ≠ x → w.heap[k]? = W0.heap[k]?) (henv : w.os = W0.os ∧ w.tape = W0.tape ∧ w.output = W0.output) :
    ∃ f', Ext (fun z => z = x) W0 w' f f' ∧ Toks w' f' y u xs ∧ Mt w' f' x m us a ns rs := by
  have hk := h.kept
  have hE : Ext (fun z => z = x) W0 w' f (takeMark f W0.heap.size x y v' u) := by
    refine ⟨Nat.le_trans hw0 hk.1, fun k hl => if_pos hl, fun k hl hn => (hk.2 k (Nat.lt_of_lt_of_le hl hw0) (fun hc => ?_)).trans (he k hl hn), h.env.1.trans henv.1, h.env.2.1.trans henv.2.1, h.env.2.2.trans henv.2.2⟩
    rcases hc with hc | hc
    · subst hc; exact hn hm
    · rcases hv k hc.symm with h1 | h1
      · exact hn h1
      · omega
  have hv' : ∀ k, v'.ownBlock = some k → takeMark f W0.heap.size x y v' u k = x := by
    intro k hk2
    unfold takeMark
    by_cases hl : k < W0.heap.size
    · rw [if_pos hl]
      rcases h.new with hn | hn
      · rcases hv k (hn ▸ hk2) with h1 | h1
        · exact h1
        · omega
      · have := hn k hk2; omega
    · rw [if_neg hl, if_pos hk2.symm]
  refine ⟨takeMark f W0.heap.size x y v' u, hE, ?_, ?_⟩
  · refine Toks.of_R h.toks (fun k hk2 => ?_) (fun k hk2 hne hl => ?_)
    · obtain ⟨h1, h2⟩ := h.toks.1 k hk2
      unfold takeMark
      rw [if_neg (by omega), if_neg h2, if_pos hk2.symm]
    · unfold takeMark
      rw [if_neg (by omega), if_neg hk2.2, if_neg hne]
  · obtain ⟨st, hs⟩ := h.blk
    exact ⟨⟨tb, v', st, hs, h.own, hv', ht.ext hE (fun e => hx e.symm)⟩, (if_pos hm0 : takeMark f W0.heap.size x y v' u m = f m).trans hm⟩
end Go.Proofs.YtnfjgopcenpblaaGreatDoor.T

/- The walks of match.Match's Put, End and Of, of Table's Read and Write, by marks. No condition beyond the ranges. -/
namespace Go.Proofs.YtnfjgopcenpblaaGreatDoor.T
open Go.RowKit Go.Proofs.YtnfjgopcenpblaaGreatDoorW.PrintWords Go.Proofs.YtnfjgopcenpblaaGreatDoorW.PrintLast Go.Proofs.YtnfjgopcenpblaaGreatDoorW.PrintMore Go.Proofs.YtnfjgopcenpblaaGreatDoor
set_option linter.unusedVariables false
set_option linter.unusedSimpArgs false
def putF (ns : List S183) (rs : List S150) (us : List Int) (a u : Int) : List S66 × List Int × Int := takeF ns rs false (us.length + 2) (us ++ [u]) a
def endF (ns : List S183) (rs : List S150) (us : List Int) (a : Int) : List S66 × List Int × Int := takeF ns rs true (us.length + 1) us a
theorem MEnd_calls (w : World) (f : Nat → Nat) (x y m : Nat) (us : List Int) (a : Int) (ns : List S183) (rs : List S150) (h : Mt w f x m us a ns rs) (hx : x ≠ 0) (hy : y ≠ 0) (hf : Fit ns rs) (hp : 0 < rs.length) (hl : us.length ≤ 100) :
    Calls Tryz.prog 151 #[.pointer (some ⟨m, 0, none⟩)] w (Gives (fun z => z = x) y w f (endF ns rs us a).1 (fun w' f' => Mt w' f' x m (endF ns rs us a).2.1 (endF ns rs us a).2.2 ns rs)) := by
  obtain ⟨⟨tb, v, st, h1, h2, h3, h4⟩, h5⟩ := h
  have HT := Lib.hid (Take_calls w (fun k => f k = 0) m tb v us a st ns rs true h1 h2 h4 (fun k hk => ⟨fun e => hx (by rw [← h5, ← e]; exact hk), fun e => hx (by rw [← h3 k e.symm]; exact hk)⟩) hf hp hl)
  have HM := Lib.hid (fun w' v' u us' a' xs (h : MInv w m tb v w' v' u us' a' xs) => take_marks (y := y) (Nat.le_refl _) hy h (fun k hk => .inl (h3 k hk)) h5 (blk_lt h1) h4 hx (fun _ _ _ => rfl) ⟨rfl, rfl, rfl⟩)
  clear h1 h2 h3 h4 h5
  unfold endF
  generalize takeF ns rs true (us.length + 1) us a = q at *
  go_enter Tryz.func151, Tryz.ntmps151
  go_wp2_with (first
    | (go_at_call 154; refine HT.out.mono ?_; rintro e w' ⟨u, v', rfl, hI⟩; replace HM := Lib.hid (HM.out w' v' u _ _ _ hI); clear hI))
  go_ret
  obtain ⟨f', e1, e2, e3⟩ := HM.out
  exact ⟨u, f', rfl, e1, e2, e3⟩
theorem put_pre {w w1 w2 : World} {f : Nat → Nat} {x m tb : Nat} {v v1 : Value} {us l1 : List Int} {a st : Int} {ns : List S183} {rs : List S150} (h1 : w.heap[m]? = some (.cells #[.pointer (some ⟨tb, 0, none⟩), v, .int .i64 a, .int .i64 st] 144 (0, 0)))
    (h2 : w.ownsRow 0 3 1 v us.length (nums .i64 us)) (h3 : ∀ k, v.ownBlock = some k → f k = x) (h4 : TrZ w f tb ns rs) (h5 : f m = x) (hx : x ≠ 0) (ho : w1.ownsRow 0 3 1 v1 l1.length (nums .i64 l1)) (hg : w.grownBy w1 v.ownBlock)
    (hat : v1.ownBlock = v.ownBlock ∨ ∃ b, v1.ownBlock = some b ∧ w.heap.size ≤ b) (hw : w2 = w1.setCell ⟨m, 1, none⟩ v1) :
    w2.heap[m]? = some (.cells #[.pointer (some ⟨tb, 0, none⟩), v1, .int .i64 a, .int .i64 st] 144 (0, 0)) ∧ w2.ownsRow 0 3 1 v1 l1.length (nums .i64 l1) ∧ Tr w2 (fun k => f k = 0 ∧ k < w.heap.size) tb ns rs ∧ (∀ k, f k = 0 ∧ k < w.heap.size → k ≠ m ∧ some k ≠ v1.ownBlock) ∧
    (∀ k, v1.ownBlock = some k → f k = x ∨ w.heap.size ≤ k) ∧ w.heap.size ≤ w2.heap.size ∧ (∀ k, k < w.heap.size → f k ≠ x → w2.heap[k]? = w.heap[k]?) ∧ (w2.os = w.os ∧ w2.tape = w.tape ∧ w2.output = w.output) := by
  subst hw
  have hm1 := blk_grown h1 hg (own_ne h2 h1 (by decide))
  have hv1 : ∀ k, v1.ownBlock = some k → f k = x ∨ w.heap.size ≤ k := fun k hk => by
    rcases hat with h | ⟨b, hb, hle⟩
    · exact .inl (h3 k (h ▸ hk))
    · rw [hb] at hk; injection hk with hk; exact .inr (by omega)
  have hkp : ∀ k, k < w.heap.size → f k ≠ x → (w1.setCell ⟨m, 1, none⟩ v1).heap[k]? = w.heap[k]? := fun k hk hn =>
    (Below.heap_setCell w1 ⟨m, 1, none⟩ v1 k (fun e => hn (by rw [show k = m from e]; exact h5))).trans (hg.block k hk (fun e => hn (h3 k e.symm)))
  have hsz : w.heap.size ≤ (w1.setCell ⟨m, 1, none⟩ v1).heap.size := by simp [World.setCell]; exact hg.size
  refine ⟨blk_put hm1 1 _ rfl, own_setCell ho (own_ne ho hm1 (by decide)) _, h4.bound.same ⟨hsz, fun k hk hl => hkp k hl (by rw [hk.1]; exact fun e => hx e.symm)⟩, fun k hk => ⟨fun e => hx (by rw [← h5, ← e]; exact hk.1), fun e => ?_⟩, hv1, hsz, hkp, hg.os, hg.tape, hg.output⟩
  rcases hv1 k e.symm with h | h
  · exact hx (by rw [← h]; exact hk.1)
  · omega
set_option maxRecDepth 100000 in
theorem MPut_calls (w : World) (f : Nat → Nat) (x y m : Nat) (us : List Int) (a u : Int) (ns : List S183) (rs : List S150) (h : Mt w f x m us a ns rs) (hx : x ≠ 0) (hy : y ≠ 0) (hf : Fit ns rs) (hp : 0 < rs.length) (hl : us.length ≤ 99) :
    Calls Tryz.prog 152 #[.pointer (some ⟨m, 0, none⟩), .int .i64 u] w (Gives (fun z => z = x) y w f (putF ns rs us a u).1 (fun w' f' => Mt w' f' x m (putF ns rs us a u).2.1 (putF ns rs us a u).2.2 ns rs)) := by
  obtain ⟨⟨tb, v, st, h1, h2, h3, h4⟩, h5⟩ := h
  obtain ⟨A, c, rfl⟩ := own_slice h2
  have c1 : w.cell? ⟨m, 1, none⟩ = some (.slice A us.length c) := (blk_cell h1 1).trans rfl
  have hm0 := blk_lt h1
  have h2' := Lib.hid h2
  have hll : (us ++ [u]).length = us.length + 1 := by simp
  have HP := Lib.hid (fun w1 w2 v1 (ho : w1.ownsRow 0 3 1 v1 (us ++ [u]).length (nums .i64 (us ++ [u]))) hg hat hw => put_pre (w1 := w1) (w2 := w2) h1 h2 h3 h4 h5 hx ho hg hat hw)
  have HB := Lib.hid (fun w1 (hg : w.grownBy w1 (Value.slice A us.length c).ownBlock) => blk_grown h1 hg (own_ne h2 h1 (by decide)))
  replace h1 := ()
  replace h2 := ()
  replace h3 := ()
  have h4 := Lib.hid h4
  have h5 := Lib.hid h5
  unfold putF
  rw [show us.length + 2 = (us ++ [u]).length + 1 by rw [hll]]
  have hl1 : (us ++ [u]).length ≤ 100 := by omega
  have hl0 : (us.length + 1) * 8 ≤ 140737488355328 := by omega
  replace hll := ()
  generalize hgl : us ++ [u] = l1 at *
  replace hgl := Lib.hid hgl
  replace hl := Lib.hid hl
  go_enter Tryz.func152, Tryz.ntmps152
  go_wp2_with (first
    | ((with_reducible refine gate_builtin (b := .append) (xs := #[.tmp 9, .tmp 11]) rfl ?_); at_builtin; refine print_append_num (w0 := w) 0 rfl (.tmp 9) (.tmp 11) 25 3 .i64 8 rfl Tryz.underlying25 info3 (by omega) (.slice A us.length c) us u rfl rfl h2'.out (Below.refl _ _) (Nat.zero_le _) (by omega) ?_; intro v1 w1 ho hb hg hat; rw [hgl.out] at ho; obtain ⟨A1, d1, rfl⟩ := own_slice ho; have hbk := HB.out w1 hg; have f1 := blk_frozen hbk 1; have e1 : w1.cell? ⟨m, 1, none⟩ = some (.slice A us.length c) := (blk_cell hbk 1).trans rfl; have ho := Lib.hid ho; have hg := Lib.hid hg; have hat := Lib.hid hat; clear hb hbk c1)
    | (go_at_call 154; obtain ⟨p1, p2, p3, p4, p5, p6, p7, p8⟩ := HP.out w1 _ _ ho.out hg.out hat.out rfl; generalize w1.setCell ⟨m, 1, none⟩ (.slice A1 l1.length d1) = w2 at p1 p2 p3 p6 p7 p8 ⊢; refine (Take_calls w2 (fun k => f k = 0 ∧ k < w.heap.size) m tb _ l1 a st ns rs false p1 p2 p3 p4 hf hp hl1).mono ?_; rintro e w' ⟨u', v', rfl, hI⟩; have HM := Lib.hid (take_marks (y := y) p6 hy hI p5 h5.out hm0 h4.out hx p7 p8); clear p1 p2 p3 p4 p5 p6 p7 p8 hI ho hg hat f1 e1))
  go_ret
  obtain ⟨f', e1, e2, e3⟩ := HM.out
  exact ⟨u', f', rfl, e1, e2, e3⟩
theorem Read_calls (w : World) (b rb wb : Nat) (i o : Int) (h : w.heap[b]? = some (.cells #[.int .i64 i, .int .i64 o, .pointer (some ⟨rb, 0, none⟩), .pointer (some ⟨wb, 0, none⟩)] 146 (0, 0))) :
    Calls Tryz.prog 55 #[.pointer (some ⟨b, 0, none⟩)] w fun e w' => e = .returned (.pointer (some ⟨rb, 0, none⟩)) ∧ w = w' := by
  have c2 : w.cell? ⟨b, 2, none⟩ = some (.pointer (some ⟨rb, 0, none⟩)) := (blk_cell h 2).trans rfl
  clear h
  go_enter Tryz.func55, Tryz.ntmps55
  go_wp2
  go_ret
  exact ⟨rfl, rfl⟩
theorem Write_calls (w : World) (b rb wb : Nat) (i o : Int) (h : w.heap[b]? = some (.cells #[.int .i64 i, .int .i64 o, .pointer (some ⟨rb, 0, none⟩), .pointer (some ⟨wb, 0, none⟩)] 146 (0, 0))) :
    Calls Tryz.prog 58 #[.pointer (some ⟨b, 0, none⟩)] w fun e w' => e = .returned (.pointer (some ⟨wb, 0, none⟩)) ∧ w = w' := by
  have c2 : w.cell? ⟨b, 3, none⟩ = some (.pointer (some ⟨wb, 0, none⟩)) := (blk_cell h 3).trans rfl
  clear h
  go_enter Tryz.func58, Tryz.ntmps58
  go_wp2
  go_ret
  exact ⟨rfl, rfl⟩
theorem MOf_calls (w : World) (tb : Nat) :
    Calls Tryz.prog 54 #[.pointer (some ⟨tb, 0, none⟩)] w fun e w' => e = .returned (.pointer (some ⟨w.heap.size, 0, none⟩)) ∧ w' = w.alloc (.cells #[.pointer (some ⟨tb, 0, none⟩), .slice none 0 0, .int .i64 0, .int .i64 0] 144) := by
  go_enter Tryz.func54, Tryz.ntmps54
  go_wp2
  go_ret
  exact ⟨rfl, rfl⟩
end Go.Proofs.YtnfjgopcenpblaaGreatDoor.T
