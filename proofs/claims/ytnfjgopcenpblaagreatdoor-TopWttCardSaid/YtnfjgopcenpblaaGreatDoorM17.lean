/- Texts of this claim, one behind the other (merged by a program): TZ3. No condition of their own. -/
import Derived.Test.YtnfjgopcenpblaaGreatDoorM16
/- The walk of TopWtt. No condition beyond the ranges. -/
namespace Go.Proofs.YtnfjgopcenpblaaGreatDoor.T
open Go.RowKit Go.Proofs.YtnfjgopcenpblaaGreatDoorW.PrintWords Go.Proofs.YtnfjgopcenpblaaGreatDoorW.PrintLast Go.Proofs.YtnfjgopcenpblaaGreatDoorW.PrintMore Go.Proofs.YtnfjgopcenpblaaGreatDoor
set_option linter.unusedVariables false
set_option linter.unusedSimpArgs false
attribute [local go_sem] max2_int min2_int max_two min_two
open Th
def twtt.T17 : Bool × List (List Nat × List Nat) := (true, [([], []), ([0], [0]), ([1], [1]), ([2], [2]), ([3, 2], [2, 3]), ([2, 4], [2, 4]), ([5, 2], [5]), ([6], [6]), ([6], [6]), ([8, 6], [6, 8]), ([7, 9, 6], [6, 7, 9]), ([10, 6], [6, 10]), ([6], [6]), ([6], [6]), ([12, 13, 6], [6, 12, 13]), ([14, 6], [6, 14]), ([6], [6]), ([11, 15, 16, 6, 6], [6, 11, 15, 16]), ([17, 6], [6, 17]), ([6, 18], [6, 18])])
def twtt.B17 : List Nat := [0, 1, 3, 7, 15, 31, 63, 127, 127, 383, 1023, 2047, 127, 127, 12415, 28799, 127, 131071, 262143, 524287]
theorem twtt.tab17 : rtab .any (opsOf Tryz.f4 17) = twtt.T17 := by kernel_rfl
theorem twtt.bits17 : waitsOk twtt.T17.2 twtt.B17 = true := by kernel_rfl
theorem R_any {α : Type} {d : Kd α} {e base : Nat} {w : World} {ok : Nat → Prop} {v : Value} {xs : List α} (h : d.R e w base ok v xs) : ∃ A c, v = .slice A xs.length c ∧ xs.length ≤ c ∧ d.C w A xs.length xs := Kd.R_reads h
theorem new_blk {w w1 : World} {v : Value} (h : v.ownBlock = (Value.slice none 0 0).ownBlock ∨ ∃ b, v.ownBlock = some b ∧ w1.heap.size ≤ b) (hs : w.heap.size ≤ w1.heap.size) : ∀ k, v.ownBlock = some k → w.heap.size ≤ k := fun k hk => by
  rcases h with e | ⟨b, e, hb⟩
  · rw [e] at hk; simp [Value.ownBlock] at hk
  · rw [e] at hk; cases hk; omega
/-- two bytes of the row, in a world on the way -/
def WS (wr : World) (g j : Nat) (la x : Int) (w' : World) : Prop := Below wr.heap.size wr w' ∧ w'.cell? ⟨g, j, none⟩ = some (.int .u8 la) ∧ w'.cell? ⟨g, j + 1, none⟩ = some (.int .u8 x)
theorem WS.step {wr w w' : World} {g j : Nat} {la x : Int} (h : WS wr g j la x w) (hb : Below w.heap.size w w') : WS wr g j la x w' := ⟨below_step h.1 hb, cell_b h.2.1 hb, cell_b h.2.2 hb⟩
theorem ws_start {wr : World} {g j : Nat} {la x : Int} (h1 : wr.cell? ⟨g, j, none⟩ = some (.int .u8 la)) (h2 : wr.cell? ⟨g, j + 1, none⟩ = some (.int .u8 x)) : WS wr g j la x wr.drew := by
  have hb : Below wr.heap.size wr wr.drew := below_drew (Below.refl _ _)
  exact ⟨hb, cell_b h1 hb, cell_b h2 hb⟩
set_option maxRecDepth 100000 in
set_option maxHeartbeats 4000000 in
theorem TopWtt_calls (w : World) (A : Option Addr) (c : Nat) (l : List Int) (lv : Int) (hC : (Kd.int .u8).C w A l.length l) (hc : l.length ≤ c) (hB : Bytes l) (h0 : -128 ≤ lv) (h1 : lv ≤ 127) :
    Calls Tryz.prog 4 #[.slice A l.length c, .int .i8 lv] w fun e w' => e = .returned (.bool true) ∧ Below w.heap.size w w' := by
  obtain ⟨i05, hi05, hsz5⟩ := Option.map_eq_some_iff.1 info5
  have ht : l.take (((l.take 80).length : Nat) : Int).toNat = l.take 80 := by
    rw [Int.toNat_natCast, List.length_take]
    rw [List.take_eq_take_iff]; omega
  have hm : (if 80 < (l.length : Int) then 80 else (l.length : Int)) = (((l.take 80).length : Nat) : Int) := by
    rw [List.length_take]; split <;> omega
  have h80 : (l.take 80).length ≤ 80 := by rw [List.length_take]; omega
  obtain ⟨hcut, hA, hC2⟩ := print_take_of (P := Tryz.prog) (Value.int .u8) 0 22 5 .i64 Tryz.underlying22 hi05 (by simp only [Prod.mk.injEq] at hsz5; exact hsz5.2.1) A c l (((l.take 80).length : Nat) : Int) (by omega) (by rw [List.length_take]; omega) hc
  rw [ht] at hcut hA hC2
  have hBt : Bytes (l.take 80) := fun x hx => hB x (List.mem_of_mem_take hx)
  generalize l.take 80 = t at *
  have hl1 : IntKind.i8.wrap (Int.tmod lv 3) = Int.tmod lv 3 := IntWalk.i8_in _ (by have := Int.tmod_lt_of_pos lv (by decide : (0:Int) < 3); have : -3 < Int.tmod lv 3 := Int.lt_tmod_of_pos lv (by decide); omega)
  replace hC := Lib.hid hC
  replace hA := Lib.hid hA
  replace hBt := Lib.hid hBt
  have HA := Lib.hid Awake_calls
  generalize hln : l.length = ln at *
  clear ht hi05 hsz5 hB hc hln h0 h1
  go_enter Tryz.func4, Tryz.ntmps4
  go_wp2_with (first
    | (go_at_call 5; refine (HA.out w).mono ?_; rintro e w1 ⟨rfl, hb1⟩; have HB1 := Lib.hid hb1; clear hb1 HA)
    | ((with_reducible refine gate_builtin (b := .append) (xs := #[.const (.slice none 0 0), .tmp 26]) rfl ?_); at_builtin; refine print_append_row_of (w0 := w1) (Value.int .u8) 0 0 rfl (.const (.slice none 0 0)) (.tmp 26) 22 5 (.int .u8 0) 1 rfl Tryz.underlying22 info5 rfl (by omega) (fun _ => rfl) (.slice none 0 0) [] t A _ _ rfl rfl (own_nil _ _ _ _) ?aR (Below.refl _ _) (Nat.zero_le _) (by simp; omega) ?_; (case aR => exact hA.out w1 (Kd.reads_of_C (d := (0 : Int)) (enc := Value.int .u8) (h1 := fun _ => rfl) (Kd.C_below hC.out HB1.out))); intro v4 w2 ho hb4 hg4 hat4; clear hb4; obtain ⟨A2, c2, rfl⟩ := own_slice ho; replace ho : w2.ownsRow 0 5 1 (.slice A2 t.length c2) t.length (nums .u8 t) := ho; have HB2 := Lib.hid (below_step HB1.out ((Below.refl _ _).grown hg4 (Nat.le_refl _) (fun k hk => by cases hk))); have HN := Lib.hid (new_blk (v := .slice A2 t.length c2) hat4 HB1.out.size); replace ho := Lib.hid ho; clear hg4 hat4 HB1))
  clear hcut hm hC hA
  generalize wrap64 (Int.tmod lv 3) = v at *
  clear hl1
  go_loopg [30] (t.length + 1) (fun kq x w' => ∃ (i : Nat), x = .int .i64 i ∧ Hid (w'.ownsRow 0 5 1 (.slice A2 t.length c2) t.length (nums .u8 ((t.take i).map tf ++ t.drop i))) ∧ Hid (Below w.heap.size w w') ∧ Hid (i ≤ t.length ∧ t.length + 1 = kq + i))
  case atStart => exact ⟨0, rfl, by simpa using ho, HB2, Lib.hid ⟨by omega, by omega⟩⟩
  case round =>
    clear ho HB2
    obtain ⟨i, rfl, ho, HB2, H⟩ := hrel
    obtain ⟨i0, i1⟩ := H.out
    clear H
    cases gk with
    | zero => exact absurd i1 (by omega)
    | succ gk =>
      by_cases hi : i < t.length
      · have di := lt_dec hi
        have hx0 := hBt.out _ (List.getElem_mem hi)
        have hset := Lib.hid (set_map hi)
        have hgx : ((t.take i).map tf ++ t.drop i)[i]? = some t[i] := by
          rw [List.getElem?_append_right (by rw [List.length_map, List.length_take]; omega), List.length_map, List.length_take, Nat.min_eq_left (by omega), Nat.sub_self, List.getElem?_drop]
          simp
        have hlen : ((t.take i).map tf ++ t.drop i).length = t.length := by rw [List.length_append, List.length_map, List.length_take, List.length_drop]; omega
        generalize hX : (t.take i).map tf ++ t.drop i = X at *
        rcases ho.out.2 with ⟨he, hn⟩ | ⟨g, cap, cur, he, _, hh, _⟩
        · exfalso
          simp at he
          omega
        · obtain ⟨rfl, rfl⟩ : A2 = some ⟨g, 0, none⟩ ∧ c2 = cap := by simpa using he
          have y0 : wr.cell? ⟨g, i, none⟩ = some (.int .u8 t[i]) := by
            have := ho.out.cells (g := g) rfl i (.int .u8 t[i]) (by simp [nums, hgx])
            rw [← this]; congr 1; cases i <;> simp [Addr.add]
          have f0 := blk_frozen hh i
          have hst := own_store ho.out (i : Int) (tf t[i])
          rw [Int.toNat_natCast] at hst
          have hgw := HN.out g rfl
          have hB3 := Lib.hid (HB2.out.grown hst.2 HB2.out.size (fun k hk => by cases hk; exact hgw))
          have ho3 := Lib.hid (hset.out ▸ hst.1)
          have p0 := nat_tr i
          have p1 := lt_tr hi
          have e1 : Int.tmod t[i] 58 = t[i] % 58 := Int.tmod_eq_emod_of_nonneg hx0.1
          have e2 : IntKind.u8.wrap (t[i] % 58) = t[i] % 58 := by rw [IntKind.wrap_u8]; omega
          have e3 : IntKind.u8.wrap (161 + t[i] % 58) = 161 + t[i] % 58 := by rw [IntKind.wrap_u8]; omega
          have e4 : tf t[i] = 161 + t[i] % 58 := rfl
          have hw := Lib.hid (wrap_nat (j := i) (by omega))
          rw [e4] at hB3 ho3
          replace i1 := Lib.hid (And.intro i1 hi)
          clear hst hgw hset hgx hlen hX hh he ho HB2 e4 i0
          generalize t[i] = b at *
          clear hx0 hi
          go_wp2
          go_roundg gk
          case measure => omega
          case rel => exact ⟨i + 1, by first | exact congrArg (Value.int .i64) hw.out | rfl, ho3, hB3, Lib.hid ⟨by have := i1.out; omega, by have := i1.out; omega⟩⟩
      · obtain rfl : i = t.length := by omega
        have di := nlt_dec hi
        rw [List.take_length, List.drop_length, List.append_nil] at ho
        have hX : ∀ x ∈ t.map tf, 161 ≤ x ∧ x ≤ 218 := fun x hx => by obtain ⟨y, _, rfl⟩ := List.mem_map.1 hx; exact tf_rng y
        have hXl : (t.map tf).length = t.length := List.length_map ..
        generalize t.map tf = X at *
        replace hX := Lib.hid hX
        have hrw := Lib.hid (rw_own ho.out hXl)
        have hcb := Lib.hid (show w.heap.size ≤ wr.heap.size from HB2.out.size)
        clear i0 i1 hi hBt HN ho
        have H9 := Lib.hid (fun W => of28 v W)
        go_wp2_with (go_at_call 9; refine (H9.out wr).mono ?_; rintro e w3 ⟨rfl, hk3, hb3⟩; have HB3 := Lib.hid (below_step HB2.out hb3); replace hrw := Lib.hid (hrw.out.step hb3); replace hk3 := Lib.hid hk3; clear hb3 HB2 H9; generalize wr.heap.size = cb at hk3 hrw hcb ⊢)
        clear di
        go_loopg [9, 49] (X.length + 1) (fun kq u9 u49 w' => ∃ (i : Nat) (la bd : Int), u9 = .int .i64 bd ∧ u49 = .int .i64 i ∧ Hid (bd = badOf (X.take i) v) ∧ Chk w' cb v la i bd ∧ Hid ((0 ≤ la ∧ la < 256) ∧ (i = 0 ∨ la = X.getD (i - 1) 0)) ∧ Hid (RW w' cb A2 X) ∧ Hid (Below w.heap.size w w') ∧ Hid (i ≤ X.length ∧ X.length + 1 = kq + i))
        case atStart => exact ⟨0, 0, -1, rfl, rfl, Lib.hid (badOf_nil v).symm, hk3.out, Lib.hid ⟨by omega, .inl rfl⟩, hrw, HB3, Lib.hid ⟨by omega, by omega⟩⟩
        case round =>
          clear hk3 hrw HB3
          obtain ⟨i, la, bd, rfl, rfl, hbd, hk, hla, hrw, HB3, H⟩ := hrel
          obtain ⟨i0, i1⟩ := H.out
          clear H
          cases gk with
          | zero => exact absurd i1 (by omega)
          | succ gk =>
            by_cases hi : i < X.length
            · have hi2 : i < t.length := hXl ▸ hi
              have di := lt_dec hi2
              have hx := hX.out (X.getD i 0) (by rw [List.getD_eq_getElem?_getD, List.getElem?_eq_getElem hi]; exact List.getElem_mem hi)
              have hx8 : 0 ≤ X.getD i 0 ∧ X.getD i 0 < 256 := by omega
              have hnxt : next v la i bd (X.getD i 0) = badOf (X.take (i + 1)) v := by
                have h1 := next_is (X.take i) (X.getD i 0) v la (by
                  rcases hla.out.2 with h | h
                  · left; rw [h]; rfl
                  · by_cases h0 : i = 0
                    · left; rw [h0]; rfl
                    · right
                      rw [h, List.length_take, Nat.min_eq_left (by omega)]
                      simp only [List.getD_eq_getElem?_getD, List.getElem?_take]
                      rw [if_pos (by omega)])
                rw [List.length_take, Nat.min_eq_left (by omega), ← hbd.out] at h1
                rw [h1, List.take_succ_eq_append_getElem hi, List.getD_eq_getElem?_getD, List.getElem?_eq_getElem hi]; rfl
              obtain ⟨g, rfl, hgc, hcell⟩ : ∃ g, A2 = some ⟨g, 0, none⟩ ∧ g < cb ∧ ∀ j, j < X.length → wr.cell? ⟨g, j, none⟩ = some (.int .u8 (X.getD j 0)) := by
                rcases hrw.out with h | h
                · rw [h] at hi; simp at hi
                · exact h
              have y0 := hcell i hi
              have HP := Lib.hid (fun W (h : Chk W cb v la i bd) => Lib.hid (put30 cb v la i bd (X.getD i 0) W h hla.out.1.1 hla.out.1.2 hx8.1 hx8.2 (by omega)))
              have hw := Lib.hid (wrap_nat (j := i) (by omega))
              have p0 := nat_tr i
              have p1 := lt_tr hi2
              have hlc := hk.lt
              obtain ⟨x, hxe⟩ : ∃ x, X.getD i 0 = x := ⟨_, rfl⟩
              rw [hxe] at hx hx8 hnxt y0 HP
              replace hxe := Lib.hid hxe
              replace hx := Lib.hid hx
              replace hx8 := Lib.hid hx8
              replace i1 := Lib.hid (And.intro i1 hi)
              replace hk := Lib.hid hk
              by_cases hz : i = 0
              · subst hz
                have hn : next v la (0 : Nat) bd x = bd := by rw [next_if, if_neg]; intro h; simp at h
                have hnx := Lib.hid (hn.symm.trans hnxt)
                rw [hn] at HP
                clear hn hnxt
                go_wp2
                go_quiet (fail)
                have hd := pw_below_drewN (Below.refl wr.heap.size wr) nq
                have KCH := Lib.hid (hk.out.drawn nq)
                have HB4 := Lib.hid (below_step HB3.out hd)
                have hrw4 := Lib.hid (hrw.out.step (hd.mono (Nat.le_of_lt hlc)))
                have y4 : (wr.drewN nq).cell? ⟨g, 0, none⟩ = some (.int .u8 x) := y0
                clear hd y0 hcell hrw HB3 hk
                generalize wr.drewN nq = w4 at *
                go_wp2_with (go_at_call 11; refine ((HP.out _ KCH.out).out).mono ?_; rintro e w5 ⟨rfl, hpp⟩; replace hpp := Lib.hid hpp)
                go_roundg gk
                case measure => omega
                case rel => exact ⟨0 + 1, x, _, rfl, by first | exact congrArg (Value.int .i64) hw.out | rfl, hnx, hpp.out.chk, Lib.hid ⟨hx8.out, .inr hxe.out.symm⟩, Lib.hid (hrw4.out.step (hpp.out.below (Nat.le_refl _))), Lib.hid (HB4.out.trans (hpp.out.below hcb.out)), Lib.hid ⟨by have := i1.out; omega, by have := i1.out; omega⟩⟩
              · have hz1 : 0 < i := Nat.pos_of_ne_zero hz
                have hla1 : la = X.getD (i - 1) 0 := hla.out.2.resolve_left hz
                by_cases hb : bd < 0
                · obtain ⟨j, rfl⟩ : ∃ j, i = j + 1 := ⟨i - 1, by omega⟩
                  have ym := hcell j (by omega)
                  rw [show j + 1 - 1 = j from rfl] at hla1
                  rw [← hla1] at ym
                  clear hla1
                  have HM := Lib.hid (fun W => may24 la x v W hla.out.1.1 hla.out.1.2 hx8.out.1 hx8.out.2)
                  have db : decide (bd < 0) = true := decide_eq_true hb
                  have n0 : (0 : Int) < (j : Int) + 1 := by omega
                  have n1 : (j : Int) < (t.length : Int) := by omega
                  have n2 : (0 : Int) ≤ (j : Int) := by omega
                  have n3 : (j : Int) + 1 < (t.length : Int) := by omega
                  have n8 : (0 : Int) ≤ (j : Int) + 1 := by omega
                  have n4 : IntKind.i64.wrap ((j : Int) + 1 - 1) = (j : Int) := by rw [show (j : Int) + 1 - 1 = j by omega]; exact IntWalk.i64_in _ (by omega)
                  have n7 : IntKind.i64.wrap (j : Int) = (j : Int) := IntWalk.i64_in _ (by omega)
                  have n5 : ((j : Int) + 1).toNat = j + 1 := by omega
                  have n6 : ((j : Int)).toNat = j := by omega
                  have hbr : Below wr.heap.size wr wr := Below.refl _ _
                  rcases Bool.eq_false_or_eq_true (mayB la x v) with hm | hm
                  · have hn : next v la (j + 1 : Nat) bd x = bd := by rw [next_if, if_neg]; intro h; rw [hm] at h; exact absurd h.2.2 (by simp)
                    have hnx := Lib.hid (hn.symm.trans hnxt)
                    rw [hn] at HP
                    rw [hm] at HM
                    clear hn hnxt hcell
                    go_wp2_with fail
                    have HWS := Lib.hid (ws_start ym y0)
                    clear ym y0 hbr
                    refine start_ (n := 20) (S := WS wr g j la x) (ds := []) #[Z, Z, Z, Z, Z, Z, Z, Z, Z, Z, Z, Z, Z, Z, Z, Z, Z, Z, Z, Z] (by kernel_rfl) rfl rfl HWS.out (fun hHeld => ?_)
                    refine with_tabW twtt.tab17 twtt.bits17 (fun HT_ HW_ => ?_)
                    refine pure_ (i := 0) (N := some 52) (v := ?_) (a' := ?_) #[Y, Z, Z, Z, Z, Z, Z, Z, Z, Z, Z, Z, Z, Z, Z, Z, Z, Z, Z, Z] rfl rfl (any_of HT_.out (by kernel_rfl)) (fun _ _ _ h => h) (Or.inl ⟨by rfl, ?_⟩) ?_ ?_
                    rotate_left
                    · intro w'
                      go_simp
                      with_reducible rfl
                    rotate_left
                    · simp only [Act.put, List.setIfInBounds_toArray, List.set_cons_zero, List.set_cons_succ, i64_w, i32_w]
                      rfl
                    refine pure_ (i := 1) (N := some 53) (v := ?_) (a' := ?_) #[Y, Y, Z, Z, Z, Z, Z, Z, Z, Z, Z, Z, Z, Z, Z, Z, Z, Z, Z, Z] rfl rfl (any_of HT_.out (by kernel_rfl)) (fun _ _ _ h => h) (Or.inl ⟨by rfl, ?_⟩) ?_ ?_
                    rotate_left
                    · intro w'
                      go_simp
                      with_reducible rfl
                    rotate_left
                    · simp only [Act.put, List.setIfInBounds_toArray, List.set_cons_zero, List.set_cons_succ, i64_w, i32_w]
                      rfl
                    refine pure_ (i := 2) (N := some 54) (v := ?_) (a' := ?_) #[Y, Y, Y, Z, Z, Z, Z, Z, Z, Z, Z, Z, Z, Z, Z, Z, Z, Z, Z, Z] rfl rfl (any_of HT_.out (by kernel_rfl)) (fun _ _ _ h => h) (Or.inl ⟨by rfl, ?_⟩) ?_ ?_
                    rotate_left
                    · intro w'
                      go_simp
                      with_reducible rfl
                    rotate_left
                    · simp only [Act.put, List.setIfInBounds_toArray, List.set_cons_zero, List.set_cons_succ, i64_w, i32_w]
                      rfl
                    refine pure_ (i := 3) (N := some 55) (v := ?_) (a' := ?_) #[Y, Y, Y, Y, Z, Z, Z, Z, Z, Z, Z, Z, Z, Z, Z, Z, Z, Z, Z, Z] rfl rfl (any_of HT_.out (by kernel_rfl)) (fun _ _ _ h => h) (Or.inl ⟨by rfl, ?_⟩) ?_ ?_
                    rotate_left
                    · intro w'
                      go_simp
                      with_reducible rfl
                    rotate_left
                    · simp only [Act.put, List.setIfInBounds_toArray, List.set_cons_zero, List.set_cons_succ, i64_w, i32_w]
                      rfl
                    refine pure_ (i := 4) (N := some 56) (v := ?_) (a' := ?_) #[Y, Y, Y, Y, Y, Z, Z, Z, Z, Z, Z, Z, Z, Z, Z, Z, Z, Z, Z, Z] rfl rfl (any_of HT_.out (by kernel_rfl)) (fun _ _ _ h => h) (Or.inl ⟨by rfl, ?_⟩) ?_ ?_
                    rotate_left
                    · intro w'
                      go_simp
                      with_reducible rfl
                    rotate_left
                    · simp only [Act.put, List.setIfInBounds_toArray, List.set_cons_zero, List.set_cons_succ, i64_w, i32_w]
                      rfl
                    refine pure_ (i := 5) (N := some 57) (v := ?_) (a' := ?_) #[Y, Y, Y, Y, Y, Y, Z, Z, Z, Z, Z, Z, Z, Z, Z, Z, Z, Z, Z, Z] rfl rfl (any_of HT_.out (by kernel_rfl)) (fun _ _ _ h => h) (Or.inl ⟨by rfl, ?_⟩) ?_ ?_
                    rotate_left
                    · intro w'
                      go_simp
                      with_reducible rfl
                    rotate_left
                    · simp only [Act.put, List.setIfInBounds_toArray, List.set_cons_zero, List.set_cons_succ, i64_w, i32_w]
                      rfl
                    refine pure_ (i := 6) (N := some 58) (v := ?_) (a' := ?_) #[Y, Y, Y, Y, Y, Y, Y, Z, Z, Z, Z, Z, Z, Z, Z, Z, Z, Z, Z, Z] rfl rfl (any_of HT_.out (by kernel_rfl)) (fun _ _ _ h => h) (Or.inl ⟨by rfl, ?_⟩) ?_ ?_
                    rotate_left
                    · intro w'
                      go_simp
                      with_reducible rfl
                    rotate_left
                    · simp only [Act.put, List.setIfInBounds_toArray, List.set_cons_zero, List.set_cons_succ, i64_w, i32_w]
                      rfl
                    refine pure_ (i := 7) (N := some 59) (v := ?_) (a' := ?_) #[Y, Y, Y, Y, Y, Y, Y, Y, Z, Z, Z, Z, Z, Z, Z, Z, Z, Z, Z, Z] rfl rfl (any_of HT_.out (by kernel_rfl)) (fun _ _ _ h => h) (Or.inl ⟨by rfl, ?_⟩) ?_ ?_
                    rotate_left
                    · intro w'
                      go_simp
                      with_reducible rfl
                    rotate_left
                    · simp only [Act.put, List.setIfInBounds_toArray, List.set_cons_zero, List.set_cons_succ, i64_w, i32_w]
                      rfl
                    refine pure_ (i := 8) (N := some 60) (v := ?_) (a' := ?_) #[Y, Y, Y, Y, Y, Y, Y, Y, Y, Z, Z, Z, Z, Z, Z, Z, Z, Z, Z, Z] rfl rfl (any_of HT_.out (by kernel_rfl)) (fun _ _ _ h => h) (Or.inl ⟨by rfl, ?_⟩) ?_ ?_
                    rotate_left
                    · intro w'
                      go_simp
                      with_reducible rfl
                    rotate_left
                    · simp only [Act.put, List.setIfInBounds_toArray, List.set_cons_zero, List.set_cons_succ, i64_w, i32_w]
                      rfl
                    refine pure_ (i := 9) (N := some 61) (v := ?_) (a' := ?_) #[Y, Y, Y, Y, Y, Y, Y, Y, Y, Y, Z, Z, Z, Z, Z, Z, Z, Z, Z, Z] rfl rfl (any_of HT_.out (by kernel_rfl)) (fun _ _ _ h => h) (Or.inl ⟨by rfl, ?_⟩) ?_ ?_
                    rotate_left
                    · intro w'
                      go_simp
                      with_reducible rfl
                    rotate_left
                    · simp only [Act.put, List.setIfInBounds_toArray, List.set_cons_zero, List.set_cons_succ, i64_w, i32_w]
                      rfl
                    refine pure_ (i := 10) (N := some 62) (v := ?_) (a' := ?_) #[Y, Y, Y, Y, Y, Y, Y, Y, Y, Y, Y, Z, Z, Z, Z, Z, Z, Z, Z, Z] rfl rfl (any_of HT_.out (by kernel_rfl)) (fun _ _ _ h => h) (Or.inl ⟨by rfl, ?_⟩) ?_ ?_
                    rotate_left
                    · intro w'
                      go_simp
                      with_reducible rfl
                    rotate_left
                    · simp only [Act.put, List.setIfInBounds_toArray, List.set_cons_zero, List.set_cons_succ, i64_w, i32_w]
                      rfl
                    refine take_ (i := 11) (N := some 63) (v := ?_) (a' := ?_) #[Y, Y, Y, Y, Y, Y, Y, Y, Y, Y, Y, Y, Z, Z, Z, Z, Z, Z, Z, Z] rfl rfl (take_ofW HT_.out HW_.out (by kernel_rfl)) (fun _ _ _ h => h) (Or.inl ⟨by rfl, ?_⟩) hHeld ?_ ?_
                    rotate_left
                    · rintro w' ⟨s0, s1, s2⟩
                      go_simp
                      with_reducible rfl
                    rotate_left
                    · simp only [Act.put, List.setIfInBounds_toArray, List.set_cons_zero, List.set_cons_succ, i64_w, i32_w]
                      rfl
                    refine pure_ (i := 12) (N := some 64) (v := ?_) (a' := ?_) #[Y, Y, Y, Y, Y, Y, Y, Y, Y, Y, Y, Y, Y, Z, Z, Z, Z, Z, Z, Z] rfl rfl (any_of HT_.out (by kernel_rfl)) (fun _ _ _ h => h) (Or.inl ⟨by rfl, ?_⟩) ?_ ?_
                    rotate_left
                    · intro w'
                      go_simp
                      with_reducible rfl
                    rotate_left
                    · simp only [Act.put, List.setIfInBounds_toArray, List.set_cons_zero, List.set_cons_succ, i64_w, i32_w]
                      rfl
                    refine pure_ (i := 13) (N := some 65) (v := ?_) (a' := ?_) #[Y, Y, Y, Y, Y, Y, Y, Y, Y, Y, Y, Y, Y, Y, Z, Z, Z, Z, Z, Z] rfl rfl (any_of HT_.out (by kernel_rfl)) (fun _ _ _ h => h) (Or.inl ⟨by rfl, ?_⟩) ?_ ?_
                    rotate_left
                    · intro w'
                      go_simp
                      with_reducible rfl
                    rotate_left
                    · simp only [Act.put, List.setIfInBounds_toArray, List.set_cons_zero, List.set_cons_succ, i64_w, i32_w]
                      rfl
                    refine pure_ (i := 14) (N := some 66) (v := ?_) (a' := ?_) #[Y, Y, Y, Y, Y, Y, Y, Y, Y, Y, Y, Y, Y, Y, Y, Z, Z, Z, Z, Z] rfl rfl (any_of HT_.out (by kernel_rfl)) (fun _ _ _ h => h) (Or.inl ⟨by rfl, ?_⟩) ?_ ?_
                    rotate_left
                    · intro w'
                      go_simp
                      with_reducible rfl
                    rotate_left
                    · simp only [Act.put, List.setIfInBounds_toArray, List.set_cons_zero, List.set_cons_succ, i64_w, i32_w]
                      rfl
                    refine take_ (i := 15) (N := some 67) (v := ?_) (a' := ?_) #[Y, Y, Y, Y, Y, Y, Y, Y, Y, Y, Y, Y, Y, Y, Y, Y, Z, Z, Z, Z] rfl rfl (take_ofW HT_.out HW_.out (by kernel_rfl)) (fun _ _ _ h => h) (Or.inl ⟨by rfl, ?_⟩) hHeld ?_ ?_
                    rotate_left
                    · rintro w' ⟨s0, s1, s2⟩
                      go_simp
                      with_reducible rfl
                    rotate_left
                    · simp only [Act.put, List.setIfInBounds_toArray, List.set_cons_zero, List.set_cons_succ, i64_w, i32_w]
                      rfl
                    refine pure_ (i := 16) (N := some 68) (v := ?_) (a' := ?_) #[Y, Y, Y, Y, Y, Y, Y, Y, Y, Y, Y, Y, Y, Y, Y, Y, Y, Z, Z, Z] rfl rfl (any_of HT_.out (by kernel_rfl)) (fun _ _ _ h => h) (Or.inl ⟨by rfl, ?_⟩) ?_ ?_
                    rotate_left
                    · intro w'
                      go_simp
                      with_reducible rfl
                    rotate_left
                    · simp only [Act.put, List.setIfInBounds_toArray, List.set_cons_zero, List.set_cons_succ, i64_w, i32_w]
                      rfl
                    refine one_ (i := 17) (N := some 69) #[Y, Y, Y, Y, Y, Y, Y, Y, Y, Y, Y, Y, Y, Y, Y, Y, Y, Y, Z, Z] rfl rfl (one_of HT_.out (by kernel_rfl)) (by decide) (fun K hK => ?_)
                    refine goes_ Tryz.func10 (by kernel_rfl) rfl #[.int .u8 la, .int .u8 x, .int .i64 v] (by rfl) rfl rfl (by (try simp only [List.map_toArray, List.map_cons, List.map_nil]); first | done | rfl) ?_
                    refine (HM.out _).mono ?_
                    rintro e w9 ⟨rfl, hb9⟩
                    refine ⟨_, rfl, ?_⟩
                    refine hK.out _ _ (hHeld.step hb9) (fun hHeld => ?_)
                    clear hK K
                    refine norm_ (a' := ?_) ?_ ?_
                    rotate_left
                    · show Act.put _ (some 69) _ = _
                      simp only [Act.put, List.setIfInBounds_toArray, List.set_cons_zero, List.set_cons_succ, i64_w, i32_w]
                      rfl
                    refine pure_ (i := 18) (N := some 70) (v := ?_) (a' := ?_) #[Y, Y, Y, Y, Y, Y, Y, Y, Y, Y, Y, Y, Y, Y, Y, Y, Y, Y, Y, Z] rfl rfl (any_of HT_.out (by kernel_rfl)) (fun _ _ _ h => h) (Or.inl ⟨by rfl, ?_⟩) ?_ ?_
                    rotate_left
                    · intro w'
                      go_simp
                      with_reducible rfl
                    rotate_left
                    · simp only [Act.put, List.setIfInBounds_toArray, List.set_cons_zero, List.set_cons_succ, i64_w, i32_w]
                      rfl
                    refine pure_ (i := 19) (N := some 71) (v := ?_) (a' := ?_) #[Y, Y, Y, Y, Y, Y, Y, Y, Y, Y, Y, Y, Y, Y, Y, Y, Y, Y, Y, Y] rfl rfl (any_of HT_.out (by kernel_rfl)) (fun _ _ _ h => h) (Or.inl ⟨by rfl, ?_⟩) ?_ ?_
                    rotate_left
                    · intro w'
                      go_simp
                      with_reducible rfl
                    rotate_left
                    · simp only [Act.put, List.setIfInBounds_toArray, List.set_cons_zero, List.set_cons_succ, i64_w, i32_w]
                      rfl
                    refine done_ (done_of HT_.out (by kernel_rfl)) ?_
                    have hd := Lib.hid hHeld.1
                    have y4 := hHeld.2.2
                    clear hHeld HWS HM
                    have KCH := Lib.hid (hk.out.keep hd.out)
                    have HB4 := Lib.hid (below_step HB3.out hd.out)
                    have hrw4 := Lib.hid (hrw.out.step (hd.out.mono (Nat.le_of_lt hlc)))
                    clear hd hrw HB3 hk hm hb9 hz hz1 n0 n1 n2 n3 n8 n4 n7 n5 n6 hb
                    go_wp2_with (go_at_call 11; refine ((HP.out _ KCH.out).out).mono ?_; rintro e w5 ⟨rfl, hpp⟩; replace hpp := Lib.hid hpp)
                    go_roundg gk
                    case measure => omega
                    case rel => exact ⟨j + 1 + 1, x, _, rfl, by first | exact congrArg (Value.int .i64) hw.out | rfl, hnx, hpp.out.chk, Lib.hid ⟨hx8.out, .inr hxe.out.symm⟩, Lib.hid (hrw4.out.step (hpp.out.below (Nat.le_refl _))), Lib.hid (HB4.out.trans (hpp.out.below hcb.out)), Lib.hid ⟨by have := i1.out; omega, by have := i1.out; omega⟩⟩
                  · have hn : next v la (j + 1 : Nat) bd x = ((j + 1 : Nat) : Int) := by rw [next_if, if_pos ⟨hb, by omega, hm⟩]
                    have hnx := Lib.hid (hn.symm.trans hnxt)
                    rw [hn] at HP
                    rw [hm] at HM
                    clear hn hnxt hcell
                    go_wp2_with fail
                    have HWS := Lib.hid (ws_start ym y0)
                    clear ym y0 hbr
                    refine start_ (n := 20) (S := WS wr g j la x) (ds := []) #[Z, Z, Z, Z, Z, Z, Z, Z, Z, Z, Z, Z, Z, Z, Z, Z, Z, Z, Z, Z] (by kernel_rfl) rfl rfl HWS.out (fun hHeld => ?_)
                    refine with_tabW twtt.tab17 twtt.bits17 (fun HT_ HW_ => ?_)
                    refine pure_ (i := 0) (N := some 52) (v := ?_) (a' := ?_) #[Y, Z, Z, Z, Z, Z, Z, Z, Z, Z, Z, Z, Z, Z, Z, Z, Z, Z, Z, Z] rfl rfl (any_of HT_.out (by kernel_rfl)) (fun _ _ _ h => h) (Or.inl ⟨by rfl, ?_⟩) ?_ ?_
                    rotate_left
                    · intro w'
                      go_simp
                      with_reducible rfl
                    rotate_left
                    · simp only [Act.put, List.setIfInBounds_toArray, List.set_cons_zero, List.set_cons_succ, i64_w, i32_w]
                      rfl
                    refine pure_ (i := 1) (N := some 53) (v := ?_) (a' := ?_) #[Y, Y, Z, Z, Z, Z, Z, Z, Z, Z, Z, Z, Z, Z, Z, Z, Z, Z, Z, Z] rfl rfl (any_of HT_.out (by kernel_rfl)) (fun _ _ _ h => h) (Or.inl ⟨by rfl, ?_⟩) ?_ ?_
                    rotate_left
                    · intro w'
                      go_simp
                      with_reducible rfl
                    rotate_left
                    · simp only [Act.put, List.setIfInBounds_toArray, List.set_cons_zero, List.set_cons_succ, i64_w, i32_w]
                      rfl
                    refine pure_ (i := 2) (N := some 54) (v := ?_) (a' := ?_) #[Y, Y, Y, Z, Z, Z, Z, Z, Z, Z, Z, Z, Z, Z, Z, Z, Z, Z, Z, Z] rfl rfl (any_of HT_.out (by kernel_rfl)) (fun _ _ _ h => h) (Or.inl ⟨by rfl, ?_⟩) ?_ ?_
                    rotate_left
                    · intro w'
                      go_simp
                      with_reducible rfl
                    rotate_left
                    · simp only [Act.put, List.setIfInBounds_toArray, List.set_cons_zero, List.set_cons_succ, i64_w, i32_w]
                      rfl
                    refine pure_ (i := 3) (N := some 55) (v := ?_) (a' := ?_) #[Y, Y, Y, Y, Z, Z, Z, Z, Z, Z, Z, Z, Z, Z, Z, Z, Z, Z, Z, Z] rfl rfl (any_of HT_.out (by kernel_rfl)) (fun _ _ _ h => h) (Or.inl ⟨by rfl, ?_⟩) ?_ ?_
                    rotate_left
                    · intro w'
                      go_simp
                      with_reducible rfl
                    rotate_left
                    · simp only [Act.put, List.setIfInBounds_toArray, List.set_cons_zero, List.set_cons_succ, i64_w, i32_w]
                      rfl
                    refine pure_ (i := 4) (N := some 56) (v := ?_) (a' := ?_) #[Y, Y, Y, Y, Y, Z, Z, Z, Z, Z, Z, Z, Z, Z, Z, Z, Z, Z, Z, Z] rfl rfl (any_of HT_.out (by kernel_rfl)) (fun _ _ _ h => h) (Or.inl ⟨by rfl, ?_⟩) ?_ ?_
                    rotate_left
                    · intro w'
                      go_simp
                      with_reducible rfl
                    rotate_left
                    · simp only [Act.put, List.setIfInBounds_toArray, List.set_cons_zero, List.set_cons_succ, i64_w, i32_w]
                      rfl
                    refine pure_ (i := 5) (N := some 57) (v := ?_) (a' := ?_) #[Y, Y, Y, Y, Y, Y, Z, Z, Z, Z, Z, Z, Z, Z, Z, Z, Z, Z, Z, Z] rfl rfl (any_of HT_.out (by kernel_rfl)) (fun _ _ _ h => h) (Or.inl ⟨by rfl, ?_⟩) ?_ ?_
                    rotate_left
                    · intro w'
                      go_simp
                      with_reducible rfl
                    rotate_left
                    · simp only [Act.put, List.setIfInBounds_toArray, List.set_cons_zero, List.set_cons_succ, i64_w, i32_w]
                      rfl
                    refine pure_ (i := 6) (N := some 58) (v := ?_) (a' := ?_) #[Y, Y, Y, Y, Y, Y, Y, Z, Z, Z, Z, Z, Z, Z, Z, Z, Z, Z, Z, Z] rfl rfl (any_of HT_.out (by kernel_rfl)) (fun _ _ _ h => h) (Or.inl ⟨by rfl, ?_⟩) ?_ ?_
                    rotate_left
                    · intro w'
                      go_simp
                      with_reducible rfl
                    rotate_left
                    · simp only [Act.put, List.setIfInBounds_toArray, List.set_cons_zero, List.set_cons_succ, i64_w, i32_w]
                      rfl
                    refine pure_ (i := 7) (N := some 59) (v := ?_) (a' := ?_) #[Y, Y, Y, Y, Y, Y, Y, Y, Z, Z, Z, Z, Z, Z, Z, Z, Z, Z, Z, Z] rfl rfl (any_of HT_.out (by kernel_rfl)) (fun _ _ _ h => h) (Or.inl ⟨by rfl, ?_⟩) ?_ ?_
                    rotate_left
                    · intro w'
                      go_simp
                      with_reducible rfl
                    rotate_left
                    · simp only [Act.put, List.setIfInBounds_toArray, List.set_cons_zero, List.set_cons_succ, i64_w, i32_w]
                      rfl
                    refine pure_ (i := 8) (N := some 60) (v := ?_) (a' := ?_) #[Y, Y, Y, Y, Y, Y, Y, Y, Y, Z, Z, Z, Z, Z, Z, Z, Z, Z, Z, Z] rfl rfl (any_of HT_.out (by kernel_rfl)) (fun _ _ _ h => h) (Or.inl ⟨by rfl, ?_⟩) ?_ ?_
                    rotate_left
                    · intro w'
                      go_simp
                      with_reducible rfl
                    rotate_left
                    · simp only [Act.put, List.setIfInBounds_toArray, List.set_cons_zero, List.set_cons_succ, i64_w, i32_w]
                      rfl
                    refine pure_ (i := 9) (N := some 61) (v := ?_) (a' := ?_) #[Y, Y, Y, Y, Y, Y, Y, Y, Y, Y, Z, Z, Z, Z, Z, Z, Z, Z, Z, Z] rfl rfl (any_of HT_.out (by kernel_rfl)) (fun _ _ _ h => h) (Or.inl ⟨by rfl, ?_⟩) ?_ ?_
                    rotate_left
                    · intro w'
                      go_simp
                      with_reducible rfl
                    rotate_left
                    · simp only [Act.put, List.setIfInBounds_toArray, List.set_cons_zero, List.set_cons_succ, i64_w, i32_w]
                      rfl
                    refine pure_ (i := 10) (N := some 62) (v := ?_) (a' := ?_) #[Y, Y, Y, Y, Y, Y, Y, Y, Y, Y, Y, Z, Z, Z, Z, Z, Z, Z, Z, Z] rfl rfl (any_of HT_.out (by kernel_rfl)) (fun _ _ _ h => h) (Or.inl ⟨by rfl, ?_⟩) ?_ ?_
                    rotate_left
                    · intro w'
                      go_simp
                      with_reducible rfl
                    rotate_left
                    · simp only [Act.put, List.setIfInBounds_toArray, List.set_cons_zero, List.set_cons_succ, i64_w, i32_w]
                      rfl
                    refine take_ (i := 11) (N := some 63) (v := ?_) (a' := ?_) #[Y, Y, Y, Y, Y, Y, Y, Y, Y, Y, Y, Y, Z, Z, Z, Z, Z, Z, Z, Z] rfl rfl (take_ofW HT_.out HW_.out (by kernel_rfl)) (fun _ _ _ h => h) (Or.inl ⟨by rfl, ?_⟩) hHeld ?_ ?_
                    rotate_left
                    · rintro w' ⟨s0, s1, s2⟩
                      go_simp
                      with_reducible rfl
                    rotate_left
                    · simp only [Act.put, List.setIfInBounds_toArray, List.set_cons_zero, List.set_cons_succ, i64_w, i32_w]
                      rfl
                    refine pure_ (i := 12) (N := some 64) (v := ?_) (a' := ?_) #[Y, Y, Y, Y, Y, Y, Y, Y, Y, Y, Y, Y, Y, Z, Z, Z, Z, Z, Z, Z] rfl rfl (any_of HT_.out (by kernel_rfl)) (fun _ _ _ h => h) (Or.inl ⟨by rfl, ?_⟩) ?_ ?_
                    rotate_left
                    · intro w'
                      go_simp
                      with_reducible rfl
                    rotate_left
                    · simp only [Act.put, List.setIfInBounds_toArray, List.set_cons_zero, List.set_cons_succ, i64_w, i32_w]
                      rfl
                    refine pure_ (i := 13) (N := some 65) (v := ?_) (a' := ?_) #[Y, Y, Y, Y, Y, Y, Y, Y, Y, Y, Y, Y, Y, Y, Z, Z, Z, Z, Z, Z] rfl rfl (any_of HT_.out (by kernel_rfl)) (fun _ _ _ h => h) (Or.inl ⟨by rfl, ?_⟩) ?_ ?_
                    rotate_left
                    · intro w'
                      go_simp
                      with_reducible rfl
                    rotate_left
                    · simp only [Act.put, List.setIfInBounds_toArray, List.set_cons_zero, List.set_cons_succ, i64_w, i32_w]
                      rfl
                    refine pure_ (i := 14) (N := some 66) (v := ?_) (a' := ?_) #[Y, Y, Y, Y, Y, Y, Y, Y, Y, Y, Y, Y, Y, Y, Y, Z, Z, Z, Z, Z] rfl rfl (any_of HT_.out (by kernel_rfl)) (fun _ _ _ h => h) (Or.inl ⟨by rfl, ?_⟩) ?_ ?_
                    rotate_left
                    · intro w'
                      go_simp
                      with_reducible rfl
                    rotate_left
                    · simp only [Act.put, List.setIfInBounds_toArray, List.set_cons_zero, List.set_cons_succ, i64_w, i32_w]
                      rfl
                    refine take_ (i := 15) (N := some 67) (v := ?_) (a' := ?_) #[Y, Y, Y, Y, Y, Y, Y, Y, Y, Y, Y, Y, Y, Y, Y, Y, Z, Z, Z, Z] rfl rfl (take_ofW HT_.out HW_.out (by kernel_rfl)) (fun _ _ _ h => h) (Or.inl ⟨by rfl, ?_⟩) hHeld ?_ ?_
                    rotate_left
                    · rintro w' ⟨s0, s1, s2⟩
                      go_simp
                      with_reducible rfl
                    rotate_left
                    · simp only [Act.put, List.setIfInBounds_toArray, List.set_cons_zero, List.set_cons_succ, i64_w, i32_w]
                      rfl
                    refine pure_ (i := 16) (N := some 68) (v := ?_) (a' := ?_) #[Y, Y, Y, Y, Y, Y, Y, Y, Y, Y, Y, Y, Y, Y, Y, Y, Y, Z, Z, Z] rfl rfl (any_of HT_.out (by kernel_rfl)) (fun _ _ _ h => h) (Or.inl ⟨by rfl, ?_⟩) ?_ ?_
                    rotate_left
                    · intro w'
                      go_simp
                      with_reducible rfl
                    rotate_left
                    · simp only [Act.put, List.setIfInBounds_toArray, List.set_cons_zero, List.set_cons_succ, i64_w, i32_w]
                      rfl
                    refine one_ (i := 17) (N := some 69) #[Y, Y, Y, Y, Y, Y, Y, Y, Y, Y, Y, Y, Y, Y, Y, Y, Y, Y, Z, Z] rfl rfl (one_of HT_.out (by kernel_rfl)) (by decide) (fun K hK => ?_)
                    refine goes_ Tryz.func10 (by kernel_rfl) rfl #[.int .u8 la, .int .u8 x, .int .i64 v] (by rfl) rfl rfl (by (try simp only [List.map_toArray, List.map_cons, List.map_nil]); first | done | rfl) ?_
                    refine (HM.out _).mono ?_
                    rintro e w9 ⟨rfl, hb9⟩
                    refine ⟨_, rfl, ?_⟩
                    refine hK.out _ _ (hHeld.step hb9) (fun hHeld => ?_)
                    clear hK K
                    refine norm_ (a' := ?_) ?_ ?_
                    rotate_left
                    · show Act.put _ (some 69) _ = _
                      simp only [Act.put, List.setIfInBounds_toArray, List.set_cons_zero, List.set_cons_succ, i64_w, i32_w]
                      rfl
                    refine pure_ (i := 18) (N := some 70) (v := ?_) (a' := ?_) #[Y, Y, Y, Y, Y, Y, Y, Y, Y, Y, Y, Y, Y, Y, Y, Y, Y, Y, Y, Z] rfl rfl (any_of HT_.out (by kernel_rfl)) (fun _ _ _ h => h) (Or.inl ⟨by rfl, ?_⟩) ?_ ?_
                    rotate_left
                    · intro w'
                      go_simp
                      with_reducible rfl
                    rotate_left
                    · simp only [Act.put, List.setIfInBounds_toArray, List.set_cons_zero, List.set_cons_succ, i64_w, i32_w]
                      rfl
                    refine pure_ (i := 19) (N := some 71) (v := ?_) (a' := ?_) #[Y, Y, Y, Y, Y, Y, Y, Y, Y, Y, Y, Y, Y, Y, Y, Y, Y, Y, Y, Y] rfl rfl (any_of HT_.out (by kernel_rfl)) (fun _ _ _ h => h) (Or.inl ⟨by rfl, ?_⟩) ?_ ?_
                    rotate_left
                    · intro w'
                      go_simp
                      with_reducible rfl
                    rotate_left
                    · simp only [Act.put, List.setIfInBounds_toArray, List.set_cons_zero, List.set_cons_succ, i64_w, i32_w]
                      rfl
                    refine done_ (done_of HT_.out (by kernel_rfl)) ?_
                    have hd := Lib.hid hHeld.1
                    have y4 := hHeld.2.2
                    clear hHeld HWS HM
                    have KCH := Lib.hid (hk.out.keep hd.out)
                    have HB4 := Lib.hid (below_step HB3.out hd.out)
                    have hrw4 := Lib.hid (hrw.out.step (hd.out.mono (Nat.le_of_lt hlc)))
                    clear hd hrw HB3 hk hm hb9 hz hz1 n0 n1 n2 n3 n8 n4 n7 n5 n6 hb
                    go_wp2_with (go_at_call 11; refine ((HP.out _ KCH.out).out).mono ?_; rintro e w5 ⟨rfl, hpp⟩; replace hpp := Lib.hid hpp)
                    go_roundg gk
                    case measure => omega
                    case rel => exact ⟨j + 1 + 1, x, _, rfl, by first | exact congrArg (Value.int .i64) hw.out | rfl, hnx, hpp.out.chk, Lib.hid ⟨hx8.out, .inr hxe.out.symm⟩, Lib.hid (hrw4.out.step (hpp.out.below (Nat.le_refl _))), Lib.hid (HB4.out.trans (hpp.out.below hcb.out)), Lib.hid ⟨by have := i1.out; omega, by have := i1.out; omega⟩⟩
                · have db : decide (bd < 0) = false := decide_eq_false hb
                  have d0 : decide ((0 : Int) < (i : Int)) = true := decide_eq_true (by omega)
                  have hn : next v la i bd x = bd := by rw [next_if, if_neg]; intro h; exact hb h.1
                  have hnx := Lib.hid (hn.symm.trans hnxt)
                  rw [hn] at HP
                  clear hn hnxt hz hla1 hb
                  go_wp2
                  go_quiet (fail)
                  have hd := pw_below_drewN (Below.refl wr.heap.size wr) nq
                  have KCH := Lib.hid (hk.out.drawn nq)
                  have HB4 := Lib.hid (below_step HB3.out hd)
                  have hrw4 := Lib.hid (hrw.out.step (hd.mono (Nat.le_of_lt hlc)))
                  have y4 : (wr.drewN nq).cell? ⟨g, i, none⟩ = some (.int .u8 x) := y0
                  clear hd y0 hcell hrw HB3 hk
                  generalize wr.drewN nq = w4 at *
                  go_wp2_with (go_at_call 11; refine ((HP.out _ KCH.out).out).mono ?_; rintro e w5 ⟨rfl, hpp⟩; replace hpp := Lib.hid hpp)
                  go_roundg gk
                  case measure => omega
                  case rel => exact ⟨i + 1, x, _, rfl, by first | exact congrArg (Value.int .i64) hw.out | rfl, hnx, hpp.out.chk, Lib.hid ⟨hx8.out, .inr hxe.out.symm⟩, Lib.hid (hrw4.out.step (hpp.out.below (Nat.le_refl _))), Lib.hid (HB4.out.trans (hpp.out.below hcb.out)), Lib.hid ⟨by have := i1.out; omega, by have := i1.out; omega⟩⟩
            · obtain rfl : i = X.length := by omega
              have di : decide (((X.length : Nat) : Int) < (t.length : Int)) = false := decide_eq_false (by omega)
              rw [List.take_length] at hbd
              obtain ⟨y, T1, T2⟩ := tis_both hX.out (by omega)
              simp only [hXl] at T1
              have HW := Lib.hid (show ∀ W, RW W cb A2 X → (Kd.int .u8).C W A2 t.length X from fun W h => by rw [← hXl]; exact C_of_row h.row (by omega))
              have HC := Lib.hid (show ∀ W, RW W cb A2 X → Calls Tryz.prog 12 #[.slice A2 t.length c2, .int .i64 v] W fun e w' => e = .returned (.int .i64 (badOf X v)) ∧ Below W.heap.size W w' from fun W h => by
                have := check26 A2 c2 X v W h.row (fun n hn => by have := hX.out n hn; omega) (by omega)
                rwa [hXl] at this)
              replace T1 := Lib.hid T1
              replace T2 := Lib.hid T2
              obtain rfl : bd = badOf X v := hbd.out
              generalize badOf X v = bd at *
              replace hk := Lib.hid hk
              replace hrw := Lib.hid (hrw.out)
              have hlc := Lib.hid hk.out.lt
              clear hbd hla i0 i1 hi hX
              go_wp2_with (first
                | (go_at_call 8; refine (T1.out wr A2 c2 (HW.out _ hrw.out)).mono ?_; rintro e w5 ⟨v5, rfl, hb5, hR5⟩; obtain ⟨A5, c5, rfl, hc5, hC5⟩ := R_any hR5; have HB5 := Lib.hid (below_step HB3.out hb5); replace hC5 := Lib.hid hC5; replace hrw := Lib.hid (hrw.out.step (hb5.mono (Nat.le_of_lt hlc.out))); have hk5 := Lib.hid (hk.out.keep hb5); have hz5 := Lib.hid (Nat.lt_of_lt_of_le hlc.out hb5.size); clear hb5 hR5 hc5 HB3 T1 hk hlc; dsimp only at hC5 ⊢)
                | ((with_reducible refine gate_store (t := 30) (p := 12) rfl ?_); refine store_ft rfl (.tmp 12) (.tmp 87) rfl rfl 0 0 0 rfl rfl info30 ?_; intro w6 hb6 F6; have HB6 := Lib.hid (below_step HB5.out hb6.out); replace hC5 := Lib.hid (Kd.C_below hC5.out hb6.out); replace hrw := Lib.hid (hrw.out.step (hb6.out.mono (Nat.le_of_lt hz5.out))); have hk6 := Lib.hid (hk5.out.keep hb6.out); have hz6 := Lib.hid (Nat.lt_of_lt_of_le hz5.out hb6.out.size); clear hb6 HB5 hk5 hz5; generalize w5.heap.size = g6 at F6 ⊢)
                | (go_at_call 8; refine (T2.out w6 A5 c5 hC5.out).mono ?_; rintro e w7 ⟨v7, rfl, hb7, hR7⟩; obtain ⟨A7, c7, rfl, hc7, hC7⟩ := R_any hR7; have HB7 := Lib.hid (below_step HB6.out hb7); replace hC7 := Lib.hid hC7; replace hrw := Lib.hid (hrw.out.step (hb7.mono (Nat.le_of_lt hz6.out))); have hk7 := Lib.hid (hk6.out.keep hb7); have hz7 := Lib.hid (Nat.lt_of_lt_of_le hz6.out hb7.size); replace F6 := Lib.hid (F6.out.step hb7); clear hb7 hR7 hc7 HB6 T2 hk6 hz6 hC5; dsimp only at hC7 ⊢)
                | ((with_reducible refine gate_store (t := 30) (p := 15) rfl ?_); refine store_ft rfl (.tmp 15) (.tmp 93) rfl rfl 0 0 0 rfl rfl info30 ?_; intro w8 hb8 F8; have HB8 := Lib.hid (below_step HB7.out hb8.out); replace hC7 := Lib.hid (Kd.C_below hC7.out hb8.out); replace hrw := Lib.hid (hrw.out.step (hb8.out.mono (Nat.le_of_lt hz7.out))); have hk8 := Lib.hid (hk7.out.keep hb8.out); have hz8 := Lib.hid (Nat.lt_of_lt_of_le hz7.out hb8.out.size); replace F6 := Lib.hid (F6.out.step hb8.out); clear hb8 HB7 hk7 hz7; generalize w7.heap.size = g8 at F8 ⊢)
                | (go_at_call 12; refine (HC.out w8 hrw.out).mono ?_; rintro e w9 ⟨rfl, hb9⟩; have HB9 := Lib.hid (below_step HB8.out hb9); have hk9 := Lib.hid (hk8.out.keep hb9); have z6 : w9.cell? ⟨g6, 2, none⟩ = some (.int .i64 0) := (blk_cell (F6.out.step hb9) 2).trans rfl; have z8 : w9.cell? ⟨g8, 2, none⟩ = some (.int .i64 0) := (blk_cell (F8.out.step hb9) 2).trans rfl; have e1 : (convert 22 9 (.slice A7 t.length c7)).run Tryz.prog w9 = .ok (.string (strOfNums X)) w9 := (by rw [← hXl]; exact Kd.C_string Tryz.underlying22 Tryz.underlying5 Tryz.underlying9 (Kd.C_below hC7.out hb9)); have e2 : (convert 22 9 (.slice A2 t.length c2)).run Tryz.prog w9 = .ok (.string (strOfNums X)) w9 := Kd.C_string Tryz.underlying22 Tryz.underlying5 Tryz.underlying9 (HW.out _ (hrw.out.step (hb9.mono (Nat.le_of_lt hz8.out)))); clear hb9 HB8 hk8 hz8 F6 F8 hC7 HC HW hrw)
                | (go_at_call 13; refine (bad29 cb v la _ bd w9 hk9.out).mono ?_; rintro e w10 ⟨rfl, rfl⟩; clear hk9))
              go_ret
              exact ⟨rfl, HB9.out⟩
end Go.Proofs.YtnfjgopcenpblaaGreatDoor.T
