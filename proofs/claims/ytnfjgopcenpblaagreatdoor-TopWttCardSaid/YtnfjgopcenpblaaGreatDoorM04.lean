/- Texts of this claim, one behind the other (merged by a program): TL, TM, TN, TO. No condition of their own. -/
import Derived.Test.YtnfjgopcenpblaaGreatDoorM03
import Derived.StillTailTactics
/- The walks of table.used and rule.side, by their closures. No condition beyond the ranges. -/
namespace Go.Proofs.YtnfjgopcenpblaaGreatDoor.T
open Go.RowKit Go.Proofs.YtnfjgopcenpblaaGreatDoorW.PrintWords Go.Proofs.YtnfjgopcenpblaaGreatDoorW.PrintLast Go.Proofs.YtnfjgopcenpblaaGreatDoorW.PrintMore Go.Proofs.YtnfjgopcenpblaaGreatDoor
set_option linter.unusedVariables false
set_option linter.unusedSimpArgs false
theorem lt_dec {i n : Nat} (h : i < n) : decide ((i : Int) < (n : Int)) = true := decide_eq_true (Int.ofNat_lt.mpr h)
theorem nlt_dec {i n : Nat} (h : ¬ i < n) : decide ((i : Int) < (n : Int)) = false := decide_eq_false (fun g => h (Int.ofNat_lt.mp g))
theorem nat_tr (i : Nat) : (0 ≤ (i : Int)) = True := eq_true (Int.natCast_nonneg i)
theorem lt_tr {i n : Nat} (h : i < n) : ((i : Int) < (n : Int)) = True := eq_true (Int.ofNat_lt.mpr h)
def lastI (l : List Int) : Int := l.getD (l.length - 1) 0
def anyGo {α : Type} (p : α → Bool) : List α → Nat → Int
  | [], _ => -1
  | r :: rs, i => if p r = true then (i : Int) else anyGo p rs (i + 1)
theorem anyGo_any {α : Type} (p : α → Bool) : ∀ (l : List α) (i : Nat), decide (0 ≤ anyGo p l i) = l.any p
  | [], i => rfl
  | a :: l, i => by
    rw [anyGo, List.any_cons]
    by_cases h : p a = true
    · rw [if_pos h, h]; exact decide_eq_true (Int.natCast_nonneg i)
    · rw [if_neg h, anyGo_any p l (i + 1)]; rw [Bool.not_eq_true] at h; rw [h]; rfl
theorem Used1_calls (w : World) (g : Nat) (A D : Option Addr) (c e : Nat) (a o : List Int) (u : Int) (hA : (Kd.int .i64).C w A a.length a) (hg : w.cell? ⟨g, 0, none⟩ = some (.int .i64 u)) (hl : 0 < a.length ∧ a.length ≤ 1000000) (r : Bool) (hr : decide (lastI a = u) = r) :
    Calls Tryz.prog 105 #[.agg #[.slice A a.length c, .slice D o.length e], .pointer (some ⟨g, 0, none⟩)] w fun e w' => e = .returned (.bool r) ∧ Below w.heap.size w w' := by
  have hb : Below w.heap.size w (w.alloc (.cells #[.slice A a.length c, .slice D o.length e] 150)) := below_alloc (Below.refl _ _) _
  have hg' := (hb.cell (World.block_lt_of_cell? w _ hg)).trans hg
  obtain ⟨ad, rfl, x0⟩ := C_at (Kd.C_below hA hb) (show a.length - 1 < a.length by omega)
  have hw1 : wrap64 ((a.length : Int) - 1) = ((a.length - 1 : Nat) : Int) := by unfold wrap64; omega
  have hw2 : IntKind.i64.wrap ((a.length : Int) - 1) = ((a.length - 1 : Nat) : Int) := (IntWalk.i64_left _).trans hw1
  have p1 : (((a.length - 1 : Nat) : Int) < (a.length : Int)) = True := lt_tr (by omega)
  have p0 := nat_tr (a.length - 1)
  have hr2 : (lastI a == u) = r := by rw [← hr]; by_cases h : lastI a = u <;> simp [h]
  change _ = some (Value.int .i64 (lastI a)) at x0
  generalize lastI a = q at *
  replace hb := Lib.hid hb
  generalize hm : a.length - 1 = m at *
  clear hA hg hr hm
  go_enter Tryz.func105, Tryz.ntmps105
  go_wp2
  go_quiet (fail)
  go_wp2
  go_ret
  exact ⟨rfl, by first | exact hb.out | exact pw_below_drewN hb.out _⟩
set_option maxRecDepth 100000 in
theorem IndexU_calls (w : World) (g : Nat) (A : Option Addr) (c : Nat) (rs : List S150) (u : Int) (hA : k150.C w A rs.length rs) (hg : w.cell? ⟨g, 0, none⟩ = some (.int .i64 u)) (hl : ∀ r ∈ rs, 0 < r.f0.length ∧ r.f0.length ≤ 1000000) (hn : rs.length ≤ 1000000) (r : Int) (hr : anyGo (fun q : S150 => decide (lastI q.f0 = u)) rs 0 = r) :
    Calls Tryz.prog 101 #[.slice A rs.length c, .func (.func 105) #[] #[.pointer (some ⟨g, 0, none⟩)]] w fun e w' => e = .returned (.int .i64 r) ∧ Below w.heap.size w w' := by
  have hr := Lib.hid (show anyGo (fun q : S150 => decide (lastI q.f0 = u)) (rs.drop 0) 0 = r from hr)
  have hA := Lib.hid hA
  have hg := Lib.hid hg
  have HB := Lib.hid (Below.refl w.heap.size w)
  go_enter Tryz.func101, Tryz.ntmps101
  go_wp2
  go_loopg [8] (rs.length + 1) (fun kq v w' => ∃ i : Nat, v = .int .i64 i ∧ Hid (Below w.heap.size w w') ∧ Hid (i ≤ rs.length ∧ rs.length + 1 = kq + i ∧ anyGo (fun q : S150 => decide (lastI q.f0 = u)) (rs.drop i) i = r))
  case atStart => exact ⟨0, rfl, HB, Lib.hid ⟨by omega, by omega, hr.out⟩⟩
  case round =>
    clear HB
    obtain ⟨i, rfl, HB, H⟩ := hrel
    obtain ⟨i0, i1, e⟩ := H.out
    clear hr
    cases gk with
    | zero => exact absurd i1 (by omega)
    | succ gk =>
      by_cases hi : i < rs.length
      · have di : decide ((i : Int) < (rs.length : Int)) = true := decide_eq_true (Int.ofNat_lt.mpr hi)
        obtain ⟨ad, A1, c1, A2, c2, rfl, x0, x1, l1, g1, l2, g2⟩ := at_T150 (Kd.C_below hA.out HB.out) (i : Int) (Int.natCast_nonneg i) (Int.ofNat_lt.mpr hi)
        have hmem : rd_T150 rs i ∈ rs := by
          unfold rd_T150
          rw [Int.toNat_natCast, List.getD_eq_getElem?_getD, List.getElem?_eq_getElem hi]
          exact List.getElem_mem hi
        have hl1 := hl _ hmem
        have hdr : rs.drop i = rd_T150 rs i :: rs.drop (i + 1) := by
          unfold rd_T150
          rw [Int.toNat_natCast, List.drop_eq_getElem_cons hi, List.getD_eq_getElem?_getD, List.getElem?_eq_getElem hi]; rfl
        rw [hdr, anyGo] at e
        have hw1 : wrap64 ((i : Int) + 1) = ((i + 1 : Nat) : Int) := w1 hi hn
        have p0 : (0 ≤ (i : Int)) = True := eq_true (Int.natCast_nonneg i)
        have p1 : ((i : Int) < (rs.length : Int)) = True := eq_true (Int.ofNat_lt.mpr hi)
        rw [Int.toNat_natCast] at x0 x1
        clear hdr hmem
        generalize rd_T150 rs i = q at *
        obtain ⟨qa, qo⟩ := q
        dsimp only at *
        have hgr : wr.cell? ⟨g, 0, none⟩ = some (.int .i64 u) := (HB.out.cell (World.block_lt_of_cell? w _ hg.out)).trans hg.out
        have HH : ∀ b : Bool, decide (lastI qa = u) = b → Hid (Calls Tryz.prog 105 #[.agg #[.slice A1 qa.length c1, .slice A2 qo.length c2], .pointer (some ⟨g, 0, none⟩)] wr fun e w' => e = .returned (.bool b) ∧ Below wr.heap.size wr w') := fun b hb => Lib.hid (Used1_calls wr g A1 A2 c1 c2 qa qo u g1 hgr hl1 b hb)
        clear g1 g2 hgr
        by_cases hq : decide (lastI qa = u) = true
        · rw [if_pos hq] at e
          subst e
          replace HH := HH true hq
          replace hq := Lib.hid hq
          go_wp2_with (first | (go_at_call 105; refine HH.out.mono ?_; rintro e w' ⟨rfl, hb2⟩; replace hb2 := Lib.hid hb2))
          go_ret
          exact ⟨rfl, below_step HB.out hb2.out⟩
        · rw [if_neg hq] at e
          replace HH := HH false (Bool.eq_false_iff.mpr hq)
          replace hq := Lib.hid hq
          replace e := Lib.hid e
          go_wp2_with (first | (go_at_call 105; refine HH.out.mono ?_; rintro e w' ⟨rfl, hb2⟩; replace hb2 := Lib.hid hb2))
          go_roundg gk
          case measure => omega
          case rel => exact ⟨i + 1, rfl, Lib.hid (below_step HB.out hb2.out), Lib.hid ⟨by omega, by omega, e.out⟩⟩
      · have di : decide ((i : Int) < (rs.length : Int)) = false := decide_eq_false (by omega)
        rw [List.drop_eq_nil_of_le (by omega), anyGo] at e
        subst e
        go_wp2
        go_ret
        exact ⟨rfl, HB.out⟩
theorem ContU_calls (w : World) (g : Nat) (A : Option Addr) (c : Nat) (rs : List S150) (u : Int) (hA : k150.C w A rs.length rs) (hg : w.cell? ⟨g, 0, none⟩ = some (.int .i64 u)) (hl : ∀ r ∈ rs, 0 < r.f0.length ∧ r.f0.length ≤ 1000000) (hn : rs.length ≤ 1000000) (r : Bool) (hr : rs.any (fun q : S150 => decide (lastI q.f0 = u)) = r) :
    Calls Tryz.prog 104 #[.slice A rs.length c, .func (.func 105) #[] #[.pointer (some ⟨g, 0, none⟩)]] w fun e w' => e = .returned (.bool r) ∧ Below w.heap.size w w' := by
  have HH := fun z hz => Lib.hid (IndexU_calls w g A c rs u hA hg hl hn z hz)
  rw [← anyGo_any _ rs 0] at hr
  generalize anyGo (fun q : S150 => decide (lastI q.f0 = u)) rs 0 = z at *
  replace HH := HH z rfl
  clear hA hg hl
  go_enter Tryz.func104, Tryz.ntmps104
  go_wp2_with (first | (go_at_call 101; refine HH.out.mono ?_; rintro e w' ⟨rfl, hb2⟩; replace hb2 := Lib.hid hb2))
  go_ret
  exact ⟨rfl, hb2.out⟩
theorem used_calls (w : World) (A : Option Addr) (c : Nat) (rs : List S150) (u : Int) (hA : k150.C w A rs.length rs) (hl : ∀ r ∈ rs, 0 < r.f0.length ∧ r.f0.length ≤ 1000000) (hn : rs.length ≤ 1000000) (r : Bool) (hr : rs.any (fun q : S150 => decide (lastI q.f0 = u)) = r) :
    Calls Tryz.prog 91 #[.slice A rs.length c, .int .i64 u] w fun e w' => e = .returned (.bool r) ∧ Below w.heap.size w w' := by
  have hb : Below w.heap.size w (w.alloc (.cells #[.int .i64 u] 3)) := below_alloc (Below.refl _ _) _
  have hg' : (w.alloc (.cells #[.int .i64 u] 3)).cell? ⟨w.heap.size, 0, none⟩ = some (.int .i64 u) := (blk_cell (blk_new w (.cells #[.int .i64 u] 3)) 0).trans rfl
  have HH := Lib.hid (ContU_calls _ _ A c rs u (Kd.C_below hA hb) hg' hl hn r hr)
  replace hb := Lib.hid hb
  clear hA hg' hr hl
  have hmf : ∀ (fn : Fn) (first cap : Array Value) (w : World), (Instr.makeFunc fn first cap).run Tryz.prog w = .ok (.func fn first cap) w := fun _ _ _ _ => rfl
  go_enter Tryz.func91, Tryz.ntmps91
  go_wp2_with (first | (go_at_call 104; refine HH.out.mono ?_; rintro e w' ⟨rfl, hb2⟩; replace hb2 := Lib.hid hb2))
  go_ret
  exact ⟨rfl, below_step hb.out hb2.out⟩
theorem Side1_calls (w : World) (u : Int) (r : Bool) (hr : (decide (u < 0) || decide (1114111 < u)) = r) :
    Calls Tryz.prog 107 #[.int .i64 u] w fun e w' => e = .returned (.bool r) ∧ Below w.heap.size w w' := by
  by_cases h : u < 0
  · have d : decide (u < 0) = true := decide_eq_true h
    rw [d] at hr
    subst hr
    go_enter Tryz.func107, Tryz.ntmps107
    go_wp2
    go_ret
    exact ⟨rfl, Below.refl _ _⟩
  · have d : decide (u < 0) = false := decide_eq_false h
    rw [d, Bool.false_or] at hr
    go_enter Tryz.func107, Tryz.ntmps107
    go_wp2
    go_ret
    exact ⟨rfl, Below.refl _ _⟩
def badU (u : Int) : Bool := decide (u < 0) || decide (1114111 < u)
set_option maxRecDepth 100000 in
theorem IndexS_calls (w : World) (A : Option Addr) (c : Nat) (us : List Int) (hA : (Kd.int .i64).C w A us.length us) (hn : us.length ≤ 1000000) (r : Int) (hr : anyGo badU us 0 = r) :
    Calls Tryz.prog 108 #[.slice A us.length c, .func (.func 107) #[] #[]] w fun e w' => e = .returned (.int .i64 r) ∧ Below w.heap.size w w' := by
  have hr := Lib.hid (show anyGo badU (us.drop 0) 0 = r from hr)
  have hA := Lib.hid hA
  have HB := Lib.hid (Below.refl w.heap.size w)
  go_enter Tryz.func108, Tryz.ntmps108
  go_wp2
  go_loopg [8] (us.length + 1) (fun kq v w' => ∃ i : Nat, v = .int .i64 i ∧ Hid (Below w.heap.size w w') ∧ Hid (i ≤ us.length ∧ us.length + 1 = kq + i ∧ anyGo badU (us.drop i) i = r))
  case atStart => exact ⟨0, rfl, HB, Lib.hid ⟨by omega, by omega, hr.out⟩⟩
  case round =>
    clear HB
    obtain ⟨i, rfl, HB, H⟩ := hrel
    obtain ⟨i0, i1, e⟩ := H.out
    clear hr
    cases gk with
    | zero => exact absurd i1 (by omega)
    | succ gk =>
      by_cases hi : i < us.length
      · have di := lt_dec hi
        obtain ⟨ad, rfl, x0⟩ := C_at (Kd.C_below hA.out HB.out) hi
        rw [drop_at hi, anyGo] at e
        have hw1 := w1 hi hn
        have p0 := nat_tr i
        have p1 := lt_tr hi
        generalize us.getD i 0 = q at *
        have HH := fun b hb => Lib.hid (Side1_calls wr q b hb)
        by_cases hq : badU q = true
        · rw [if_pos hq] at e
          subst e
          replace HH := HH true hq
          replace hq := Lib.hid hq
          go_wp2_with (first | (go_at_call 107; refine HH.out.mono ?_; rintro e w' ⟨rfl, hb2⟩; replace hb2 := Lib.hid hb2))
          go_ret
          exact ⟨rfl, below_step HB.out hb2.out⟩
        · rw [if_neg hq] at e
          replace HH := HH false (Bool.eq_false_iff.mpr hq)
          replace hq := Lib.hid hq
          replace e := Lib.hid e
          go_wp2_with (first | (go_at_call 107; refine HH.out.mono ?_; rintro e w' ⟨rfl, hb2⟩; replace hb2 := Lib.hid hb2))
          go_roundg gk
          case measure => omega
          case rel => exact ⟨i + 1, rfl, Lib.hid (below_step HB.out hb2.out), Lib.hid ⟨by omega, by omega, e.out⟩⟩
      · have di := nlt_dec hi
        rw [List.drop_eq_nil_of_le (by omega), anyGo] at e
        subst e
        go_wp2
        go_ret
        exact ⟨rfl, HB.out⟩
theorem ContS_calls (w : World) (A : Option Addr) (c : Nat) (us : List Int) (hA : (Kd.int .i64).C w A us.length us) (hn : us.length ≤ 1000000) (r : Bool) (hr : us.any badU = r) :
    Calls Tryz.prog 106 #[.slice A us.length c, .func (.func 107) #[] #[]] w fun e w' => e = .returned (.bool r) ∧ Below w.heap.size w w' := by
  have HH := fun z hz => Lib.hid (IndexS_calls w A c us hA hn z hz)
  rw [← anyGo_any _ us 0] at hr
  generalize anyGo badU us 0 = z at *
  replace HH := HH z rfl
  clear hA
  go_enter Tryz.func106, Tryz.ntmps106
  go_wp2_with (first | (go_at_call 108; refine HH.out.mono ?_; rintro e w' ⟨rfl, hb2⟩; replace hb2 := Lib.hid hb2))
  go_ret
  exact ⟨rfl, hb2.out⟩
/-- a side of 1 to 8 units that may be -/
def sideF (us : List Int) : Bool := decide (0 < us.length) && decide (us.length ≤ 8) && !us.any badU
theorem side_calls (w : World) (A : Option Addr) (c : Nat) (us : List Int) (hA : (Kd.int .i64).C w A us.length us) (hs : sideF us = true) :
    Calls Tryz.prog 100 #[.slice A us.length c] w fun e w' => e = .returned (.bool true) ∧ Below w.heap.size w w' := by
  unfold sideF at hs
  simp only [Bool.and_eq_true, decide_eq_true_eq, Bool.not_eq_true'] at hs
  obtain ⟨⟨h0, h1⟩, h2⟩ := hs
  have HH := Lib.hid (ContS_calls w A c us hA (by omega) false h2)
  have d0 : decide ((0 : Int) < (us.length : Int)) = true := decide_eq_true (Int.ofNat_lt.mpr h0)
  have d1 : decide ((us.length : Int) ≤ 8) = true := decide_eq_true (Int.ofNat_le.mpr h1)
  clear hA h2
  go_enter Tryz.func100, Tryz.ntmps100
  go_wp2_with (first | (go_at_call 106; refine HH.out.mono ?_; rintro e w' ⟨rfl, hb2⟩; replace hb2 := Lib.hid hb2))
  go_ret
  exact ⟨rfl, hb2.out⟩
end Go.Proofs.YtnfjgopcenpblaaGreatDoor.T

/- The walk of rule.Check over rules that are right. No condition beyond that. -/
namespace Go.Proofs.YtnfjgopcenpblaaGreatDoor.T
open Go.RowKit Go.Proofs.YtnfjgopcenpblaaGreatDoorW.PrintWords Go.Proofs.YtnfjgopcenpblaaGreatDoorW.PrintLast Go.Proofs.YtnfjgopcenpblaaGreatDoorW.PrintMore Go.Proofs.YtnfjgopcenpblaaGreatDoor
set_option linter.unusedVariables false
set_option linter.unusedSimpArgs false
theorem copy2 {wr w6 w2 : World} {gb t : Nat} {a b v0 v1 : Value} (hg : gb = wr.heap.size) (hbox : w6.heap[gb]? = some (.cells #[a, b] t (0, 0))) (hb : Below wr.heap.size wr w6) (hw2 : w2 = (w6.setCell ⟨gb, 0, none⟩ v0).setCell ⟨gb, 1, none⟩ v1) :
    w2.heap[gb]? = some (.cells #[v0, v1] t (0, 0)) ∧ Below wr.heap.size wr w2 ∧ w2.cell? ⟨gb, 0, none⟩ = some v0 ∧ w2.cell? ⟨gb, 1, none⟩ = some v1 := by
  subst hw2
  have h := blk_put (blk_put hbox 0 v0 rfl) 1 v1 (rfl : _ = #[v0, v1])
  exact ⟨h, below_set (below_set hb (by omega)) (by omega), (blk_cell h 0).trans rfl, (blk_cell h 1).trans rfl⟩
/-- rules that Check finds right -/
structure Right (rs : List S150) : Prop where
  len : rs.length ≤ 512
  ins : ∀ r ∈ rs, sideF r.f0 = true
  outs : ∀ r ∈ rs, sideF r.f1 = true
  once : ∀ i, i < rs.length → findF (rs.take i) (rd_T150 rs i).f0 = -1
theorem Right.small {rs : List S150} (h : Right rs) : ∀ r ∈ rs, 0 < r.f0.length ∧ r.f0.length ≤ 8 := fun r hr => by
  have := h.ins r hr
  unfold sideF at this
  simp only [Bool.and_eq_true, decide_eq_true_eq, Bool.not_eq_true'] at this
  exact this.1
theorem rd_mem {rs : List S150} {i : Nat} (hi : i < rs.length) : rd_T150 rs i ∈ rs := by
  unfold rd_T150
  rw [Int.toNat_natCast, List.getD_eq_getElem?_getD, List.getElem?_eq_getElem hi]
  exact List.getElem_mem hi
theorem info150 : (Tryz.prog.info? 150).map (fun i => (i.zero, i.size, i.bytes)) = some (some (.agg #[.slice none 0 0, .slice none 0 0]), 2, 48) := by kernel_rfl
theorem info183 : (Tryz.prog.info? 183).map (fun i => (i.zero, i.size, i.bytes)) = some (some (.agg #[.int .i64 0, .int .i64 0, .int .i64 0, .int .i64 0]), 4, 32) := by kernel_rfl
set_option maxRecDepth 100000 in
theorem Check_calls (w : World) (A : Option Addr) (c : Nat) (rs : List S150) (hA : k150.C w A rs.length rs) (hc : rs.length ≤ c) (hR : Right rs) :
    Calls Tryz.prog 88 #[.slice A rs.length c] w fun e w' => e = .returned (.tuple #[.int .i64 (-1), .int .i64 0]) ∧ Below w.heap.size w w' := by
  have hlen := hR.len
  have hA := Lib.hid hA
  have hR := Lib.hid hR
  have HB := Lib.hid (Below.refl w.heap.size w)
  go_enter Tryz.func88, Tryz.ntmps88
  go_wp2
  go_loopg [8] (rs.length + 1) (fun kq v w' => ∃ i : Nat, v = .int .i64 i ∧ Hid (Below w.heap.size w w') ∧ Hid (i ≤ rs.length ∧ rs.length + 1 = kq + i))
  case atStart => exact ⟨0, rfl, HB, Lib.hid ⟨by omega, by omega⟩⟩
  case round =>
    clear HB
    obtain ⟨i, rfl, HB, H⟩ := hrel
    obtain ⟨i0, i1⟩ := H.out
    cases gk with
    | zero => exact absurd i1 (by omega)
    | succ gk =>
      by_cases hi : i < rs.length
      · have di := lt_dec hi
        obtain ⟨ad, A1, c1, A2, c2, rfl, x0, x1, l1, g1, l2, g2⟩ := at_T150 (Kd.C_below hA.out HB.out) (i : Int) (Int.natCast_nonneg i) (Int.ofNat_lt.mpr hi)
        have s0 := hR.out.ins _ (rd_mem hi)
        have s1 := hR.out.outs _ (rd_mem hi)
        have s2 := hR.out.once i hi
        rw [Int.toNat_natCast] at x0 x1
        have hw1 := w1 hi (Nat.le_trans hlen (by decide))
        have p0 := nat_tr i
        have p1 := lt_tr hi
        have d5 : decide ((512 : Int) ≤ (i : Int)) = false := decide_eq_false (by omega)
        have ht : (rs.take i).length = i := by rw [List.length_take]; omega
        generalize rd_T150 rs i = q at *
        obtain ⟨qa, qo⟩ := q
        dsimp only at *
        have H0 : ∀ W, Below wr.heap.size wr W → Hid (Calls Tryz.prog 100 #[.slice A1 qa.length c1] W fun e w' => e = .returned (.bool true) ∧ Below W.heap.size W w') := fun W hW => Lib.hid (side_calls W A1 c1 qa (Kd.C_below g1 hW) s0)
        have H1 : ∀ W, Below wr.heap.size wr W → Hid (Calls Tryz.prog 100 #[.slice A2 qo.length c2] W fun e w' => e = .returned (.bool true) ∧ Below W.heap.size W w') := fun W hW => Lib.hid (side_calls W A2 c2 qo (Kd.C_below g2 hW) s1)
        replace H0 := Lib.hid H0
        replace H1 := Lib.hid H1
        have hC2 := Kd.C_take (Kd.C_below hA.out HB.out) (show i ≤ rs.length by omega)
        rw [ht] at hC2
        obtain ⟨i15, hi15, _, _, _⟩ := info_parts info150
        have hcut := cut_to (P := Tryz.prog) 127 150 .i64 Tryz.underlying127 hi15 (some ad) rs.length c i (Int.natCast_nonneg i) (by omega) hc
        rw [Int.toNat_natCast] at hcut
        have hsm : ∀ r ∈ rs.take i, r.f0.length ≤ 1000000 := fun r hr => Nat.le_trans (hR.out.small r (List.mem_of_mem_take hr)).2 (by decide)
        have H2 : ∀ W, Below wr.heap.size wr W → Hid (Calls Tryz.prog 90 #[.slice (some ad) i c, .slice A1 qa.length c1] W fun e w' => e = .returned (.int .i64 (-1)) ∧ Below W.heap.size W w') := fun W hW => Lib.hid (by
          have := Find_calls W (some ad) A1 c c1 (rs.take i) qa (by rw [ht]; exact Kd.C_below hC2 hW) (Kd.C_below g1 hW) hsm (by rw [ht]; omega) (-1) s2
          rw [ht] at this
          exact this)
        replace H2 := Lib.hid H2
        clear s0 s1 g2 g1 s2 hC2 hsm ht hi15
        go_wp2_with (first
          | ((with_reducible refine gate_dst (N := 5) rfl ?_); refine box_event ?hg (N := 5) ?hd (cs := #[.slice none 0 0, .slice none 0 0]) (t := 150) ?hr ?_; (case hd => rfl); (case hg => rfl); (case hr => first | (go_simp; done) | (go_simp; rfl)); intro gb hg w6 hbox hb; have hcz0 : w6.cell? ⟨gb, 0, none⟩ = some (.slice none 0 0) := (blk_cell hbox 0).trans rfl; have hcz1 : w6.cell? ⟨gb, 1, none⟩ = some (.slice none 0 0) := (blk_cell hbox 1).trans rfl; have hfz0 := blk_frozen hbox 0; have hfz1 := blk_frozen hbox 1; replace hbox := Lib.hid hbox; replace hb := Lib.hid hb; replace hg := Lib.hid hg)
          | ((with_reducible refine gate_store (t := 150) (p := 5) rfl ?_); refine store_event (t := 150) (p := 5) (v := ?vo) (w1 := (w6.setCell ⟨gb, 0, none⟩ (.slice A1 qa.length c1)).setCell ⟨gb, 1, none⟩ (.slice A2 qo.length c2)) ?hg ?ho ?hn ?hr ?_; (case ho => rfl); (case hg => rfl); (case hn => rfl); (case hr => first | (go_simp; done) | (go_simp; rfl)); intro w7 hw7; obtain ⟨BK, HB7, y0, y1⟩ := copy2 hg.out hbox.out hb.out hw7; clear hw7 hcz0 hcz1 hfz0 hfz1 hbox hb hg; replace BK := Lib.hid BK; replace HB7 := Lib.hid HB7;)
          | (go_at_call 100; refine (H0.out w7 HB7.out).out.mono ?_; rintro e w8 ⟨rfl, hb8⟩; replace y0 := (hb8.cell (World.block_lt_of_cell? w7 _ y0)).trans y0; replace y1 := (hb8.cell (World.block_lt_of_cell? w7 _ y1)).trans y1; replace HB7 := Lib.hid (below_step HB7.out hb8); clear hb8 H0 BK)
          | (go_at_call 100; refine (H1.out w8 HB7.out).out.mono ?_; rintro e w9 ⟨rfl, hb9⟩; replace y0 := (hb9.cell (World.block_lt_of_cell? w8 _ y0)).trans y0; replace y1 := (hb9.cell (World.block_lt_of_cell? w8 _ y1)).trans y1; replace HB7 := Lib.hid (below_step HB7.out hb9); clear hb9 H1))
        go_still_tail 5, (by kernel_rfl)
        change wpList _ _ _ _ _ w9.drew
        have hb10 : Below w9.heap.size w9 w9.drew := pw_below_drewN (Below.refl _ _) 1
        generalize w9.drew = w10 at *
        replace HB7 := Lib.hid (below_step HB7.out hb10)
        clear hb10
        go_wp2_with (first
          | (go_at_call 90; refine (H2.out w10 HB7.out).out.mono ?_; rintro e w11 ⟨rfl, hb11⟩; replace HB7 := Lib.hid (below_step HB7.out hb11); clear hb11 H2))
        go_roundg gk
        case measure => omega
        case rel => exact ⟨i + 1, rfl, Lib.hid (below_step HB.out HB7.out), Lib.hid ⟨by omega, by omega⟩⟩
      · have di := nlt_dec hi
        go_wp2
        go_ret2
        exact ⟨rfl, HB.out⟩
end Go.Proofs.YtnfjgopcenpblaaGreatDoor.T

/- The walks of slices.Clone and rule.Turn. No condition beyond the ranges. -/
namespace Go.Proofs.YtnfjgopcenpblaaGreatDoor.T
open Go.RowKit Go.Proofs.YtnfjgopcenpblaaGreatDoorW.PrintWords Go.Proofs.YtnfjgopcenpblaaGreatDoorW.PrintLast Go.Proofs.YtnfjgopcenpblaaGreatDoorW.PrintMore Go.Proofs.YtnfjgopcenpblaaGreatDoor
set_option linter.unusedVariables false
set_option linter.unusedSimpArgs false
theorem slice_nil (n c : Nat) (ad : Addr) (w : World) : Sem.run Tryz.prog (binOp BinOp.eql 25 (Value.slice (some ad) n c) (Value.slice none 0 0)) w = .ok (.bool false) w := by kernel_rfl
set_option maxRecDepth 100000 in
theorem Clone_calls (w : World) (A : Option Addr) (c : Nat) (us : List Int) (hA : (Kd.int .i64).C w A us.length us) (h0 : 0 < us.length) (hl : us.length ≤ 140737488355) :
    Calls Tryz.prog 92 #[.slice A us.length c] w fun e w' => ∃ v, e = .returned v ∧ (Kd.int .i64).R 3 w' 0 (fun k => w.heap.size ≤ k) v us ∧ Below w.heap.size w w' := by
  obtain ⟨ad, rfl, _⟩ := C_at hA h0
  have hb : Below w.heap.size w (w.alloc (.cells #[] 3)) := below_alloc (Below.refl _ _) _
  have hrd := Kd.reads_of_C (d := (0 : Int)) (enc := Value.int .i64) (h1 := fun _ => rfl) (Kd.C_below hA hb)
  have hown : (w.alloc (.cells #[] 3)).ownsRow w.heap.size 3 1 (.slice (some ⟨w.heap.size, 0, none⟩) 0 0) ([] : List Int).length (encs (Value.int .i64) []) := own_lit w w.heap.size 3 .i64 [] (Nat.le_refl _) (by simp)
  replace hb := Lib.hid hb
  have hnil := slice_nil us.length c ad
  go_enter Tryz.func92, Tryz.ntmps92
  go_wp2_with (first
    | ((with_reducible refine gate_builtin (b := .append) (xs := #[.tmp 5, .tmp 6]) rfl ?_); at_builtin; refine print_append_row_of (w0 := w) (Value.int .i64) 0 w.heap.size rfl (.tmp 5) (.tmp 6) 25 3 (.int .i64 0) 8 rfl Tryz.underlying25 info3 rfl (by omega) (fun _ => rfl) (.slice (some ⟨w.heap.size, 0, none⟩) 0 0) [] us (some ad) _ _ rfl rfl hown ?aR ?aB ?aS ?aL ?_; (case aR => exact hrd); (case aB => exact hb.out); (case aS => exact hb.out.size); (case aL => simp; omega); intro v4 w4 ho hb4 hg4 hat4; have ho := Lib.hid ho; have hb4 := Lib.hid hb4; clear hg4 hat4))
  go_ret
  exact ⟨v4, rfl, Kd.R_lower (Kd.R_of_own (ok := fun k => w.heap.size ≤ k) (enc := Value.int .i64) ho.out (fun k hk => own_base ho.out k hk)) (Nat.zero_le _), hb4.out⟩
def turnGo : List S150 → List S150 → List S150
  | [], out => out
  | r :: rs, out => if findF out r.f1 < 0 then turnGo rs (out ++ [⟨r.f1, r.f0⟩]) else turnGo rs out
def turnF (rs : List S150) : List S150 := turnGo rs []
def turn.T6 : Bool × List (List Nat × List Nat) := (true, [([], []), ([], []), ([1], [1]), ([2], [2]), ([], []), ([4], [4]), ([5, 3], [5]), ([3, 6], [3, 6]), ([7], [7]), ([0, 8, 6], [0, 8]), ([9, 9, 0, 1, 2, 3, 4, 5, 6, 7, 8, 9], [0, 9])])
def turn.B6 : List Nat := [0, 0, 2, 6, 0, 16, 62, 126, 254, 511, 1023]
theorem turn.tab6 : rtab .any (opsOf Tryz.f72 6) = turn.T6 := by kernel_rfl
theorem turn.bits6 : waitsOk turn.T6.2 turn.B6 = true := by kernel_rfl
abbrev Y : Bool := true
abbrev Z : Bool := false
theorem cell_b {w w' : World} {a : Addr} {v : Value} (h : w.cell? a = some v) (hb : Below w.heap.size w w') : w'.cell? a = some v := (hb.cell (World.block_lt_of_cell? w _ h)).trans h
/-- a rule's cells that were read into a block of the call's own -/
def Two (w9 : World) (g : Nat) (v0 v1 : Value) (w' : World) : Prop := Below w9.heap.size w9 w' ∧ w'.cell? ⟨g, 0, none⟩ = some v0 ∧ w'.cell? ⟨g, 1, none⟩ = some v1
theorem Two.step {w9 w w' : World} {g : Nat} {v0 v1 : Value} (h : Two w9 g v0 v1 w) (hb : Below w.heap.size w w') : Two w9 g v0 v1 w' := ⟨below_step h.1 hb, cell_b h.2.1 hb, cell_b h.2.2 hb⟩
theorem Right.sides {rs : List S150} (h : Right rs) : ∀ r ∈ rs, (0 < r.f0.length ∧ r.f0.length ≤ 8) ∧ 0 < r.f1.length ∧ r.f1.length ≤ 8 := fun r hr => by
  have h0 := h.ins r hr
  have h1 := h.outs r hr
  unfold sideF at h0 h1
  simp only [Bool.and_eq_true, decide_eq_true_eq, Bool.not_eq_true'] at h0 h1
  exact ⟨h0.1, h1.1⟩
theorem small_snoc {rs : List S150} {r : S150} (h : ∀ q ∈ rs, q.f0.length ≤ 1000000) (hr : r.f0.length ≤ 8) : ∀ q ∈ rs ++ [r], q.f0.length ≤ 1000000 := fun q hq => by
  rcases List.mem_append.1 hq with hq | hq
  · exact h q hq
  · rw [List.mem_singleton.1 hq]; exact Nat.le_trans hr (by decide)
/-- a row that was made since w, in a world on the way -/
def Made (w W : World) (u : Value) (out : List S150) : Prop := Below w.heap.size w W ∧ k150.R 150 W 0 (fun k => w.heap.size ≤ k) u out
theorem Made.step {w W W' : World} {u : Value} {out : List S150} (h : Made w W u out) (hb : Below W.heap.size W W') : Made w W' u out := ⟨below_step h.1 hb, Kd.R_below h.2 hb⟩
theorem two_start {w : World} {g : Nat} {v0 v1 : Value} (h0 : w.cell? ⟨g, 0, none⟩ = some v0) (h1 : w.cell? ⟨g, 1, none⟩ = some v1) : Two w g v0 v1 w.drew := by
  have hb : Below w.heap.size w w.drew := below_drew (Below.refl _ _)
  exact ⟨hb, cell_b h0 hb, cell_b h1 hb⟩
theorem turn_new {w8 w9 w10 : World} {n9 n10 : Nat} {v9 v10 : Value} {qo qa : List Int} (h9 : w8.heap.size ≤ n9) (h10 : w8.heap.size ≤ n10) (r9 : (Kd.int .i64).R 3 w9 0 (fun k => n9 ≤ k) v9 qo) (r10 : (Kd.int .i64).R 3 w10 0 (fun k => n10 ≤ k) v10 qa) (hb : Below w9.heap.size w9 w10) : k150.M w10 0 (fun k => w8.heap.size ≤ k) ⟨qo, qa⟩ [v9, v10] :=
  k150_mkM _ _ _ ⟨qo, qa⟩ (Kd.R_mono (Kd.R_below r9 hb) (fun _ hk => Nat.le_trans h9 hk)) (Kd.R_mono r10 (fun _ hk => Nat.le_trans h10 hk))
theorem turn_next {w wr w8 w10 w11 : World} {u v11 : Value} {out : List S150} {r : S150} (hM : Made w wr u out) (h8 : Below wr.heap.size wr w8) (h10 : Below w8.heap.size w8 w10) (hg : w10.grownBy w11 u.ownBlock) (ho : k150.R 150 w11 0 (fun k => w.heap.size ≤ k) v11 (out ++ [r])) : Made w w11 v11 (out ++ [r]) :=
  ⟨(below_step hM.1 (below_step h8 h10)).grown hg (Nat.le_trans hM.1.size (below_step h8 h10).size) (fun k hk => hM.2.1 k hk), ho⟩
set_option maxRecDepth 100000 in
set_option maxHeartbeats 1000000 in
theorem Turn_calls (w : World) (A : Option Addr) (c : Nat) (rs : List S150) (hA : k150.C w A rs.length rs) (hs : ∀ r ∈ rs, (0 < r.f0.length ∧ r.f0.length ≤ 8) ∧ 0 < r.f1.length ∧ r.f1.length ≤ 8) (hn : rs.length ≤ 512) (z : List S150) (hz : turnF rs = z) :
    Calls Tryz.prog 72 #[.slice A rs.length c] w fun e w' => ∃ u, e = .returned u ∧ Made w w' u z := by
  have hA := Lib.hid hA
  have hs := Lib.hid hs
  have hz := Lib.hid (show turnGo (rs.drop 0) [] = z from hz)
  have HM := Lib.hid (show Made w w (.slice none 0 0) [] from ⟨Below.refl _ _, Kd.R_nil _ _ _ _ _⟩)
  go_enter Tryz.func72, Tryz.ntmps72
  go_wp2
  go_loopg [3, 8] (rs.length + 1) (fun kq u v w' => ∃ (i : Nat) (out : List S150), v = .int .i64 i ∧ Hid (Made w w' u out) ∧ Hid (i ≤ rs.length ∧ rs.length + 1 = kq + i ∧ turnGo (rs.drop i) out = z ∧ out.length ≤ i ∧ ∀ q ∈ out, q.f0.length ≤ 1000000))
  case atStart => exact ⟨0, [], rfl, HM, Lib.hid ⟨by omega, by omega, hz.out, by simp, by simp⟩⟩
  case round =>
    clear HM hz
    obtain ⟨i, out, rfl, HM, H⟩ := hrel
    obtain ⟨i0, i1, e, o0, o1⟩ := H.out
    obtain ⟨Au, cu, rfl, hcu, hCu⟩ := Kd.R_reads HM.out.2
    clear H
    cases gk with
    | zero => exact absurd i1 (by omega)
    | succ gk =>
      by_cases hi : i < rs.length
      · have di := lt_dec hi
        obtain ⟨ad, A1, c1, A2, c2, rfl, x0, x1, l1, g1, l2, g2⟩ := at_T150 (Kd.C_below hA.out HM.out.1) (i : Int) (Int.natCast_nonneg i) (Int.ofNat_lt.mpr hi)
        have s0 := hs.out _ (rd_mem hi)
        rw [Int.toNat_natCast] at x0 x1
        have hdr : rs.drop i = rd_T150 rs i :: rs.drop (i + 1) := by
          unfold rd_T150
          rw [Int.toNat_natCast, List.drop_eq_getElem_cons hi, List.getD_eq_getElem?_getD, List.getElem?_eq_getElem hi]; rfl
        rw [hdr, turnGo] at e
        have hw1 := w1 hi (Nat.le_trans hn (by decide))
        have p0 := nat_tr i
        have p1 := lt_tr hi
        clear hdr
        generalize rd_T150 rs i = q at *
        obtain ⟨qa, qo⟩ := q
        dsimp only at *
        have hF : ∀ r, findF out qo = r → ∀ W, Below wr.heap.size wr W → Hid (Calls Tryz.prog 90 #[.slice Au out.length cu, .slice A2 qo.length c2] W fun e w' => e = .returned (.int .i64 r) ∧ Below W.heap.size W w') := fun r hr W hW => Lib.hid (Find_calls W Au A2 cu c2 out qo (Kd.C_below hCu hW) (Kd.C_below g2 hW) o1 (by omega) r hr)
        have H1 : ∀ W, Below wr.heap.size wr W → Hid (Calls Tryz.prog 92 #[.slice A2 qo.length c2] W fun e w' => ∃ v, e = .returned v ∧ (Kd.int .i64).R 3 w' 0 (fun k => W.heap.size ≤ k) v qo ∧ Below W.heap.size W w') := fun W hW => Lib.hid (Clone_calls W A2 c2 qo (Kd.C_below g2 hW) s0.2.1 (by omega))
        have H2 : ∀ W, Below wr.heap.size wr W → Hid (Calls Tryz.prog 92 #[.slice A1 qa.length c1] W fun e w' => ∃ v, e = .returned v ∧ (Kd.int .i64).R 3 w' 0 (fun k => W.heap.size ≤ k) v qa ∧ Below W.heap.size W w') := fun W hW => Lib.hid (Clone_calls W A1 c1 qa (Kd.C_below g1 hW) s0.1.1 (by omega))
        replace H1 := Lib.hid H1
        replace H2 := Lib.hid H2
        have s9 := s0.2.2
        replace s0 := Lib.hid s0
        replace o1 := Lib.hid o1
        have hol : (out.length + 1) * 48 ≤ 140737488355328 := by omega
        replace hol := Lib.hid hol
        clear g1 g2 hCu
        have hF := Lib.hid (hF _ rfl)
        by_cases hr : findF out qo < 0
        · rw [if_pos hr] at e
          have dr : decide (findF out qo < 0) = true := decide_eq_true hr
          generalize findF out qo = r at *
          replace e := Lib.hid e
          go_wp2_with (first
          | ((with_reducible refine gate_dst (N := 5) rfl ?_); refine box_event ?hg (N := 5) ?hd (cs := #[.slice none 0 0, .slice none 0 0]) (t := 150) ?hr ?_; (case hd => rfl); (case hg => rfl); (case hr => first | (go_simp; done) | (go_simp; rfl)); intro gb hg w6 hbox hb; have hcz0 : w6.cell? ⟨gb, 0, none⟩ = some (.slice none 0 0) := (blk_cell hbox 0).trans rfl; have hcz1 : w6.cell? ⟨gb, 1, none⟩ = some (.slice none 0 0) := (blk_cell hbox 1).trans rfl; have hfz0 := blk_frozen hbox 0; have hfz1 := blk_frozen hbox 1; replace hbox := Lib.hid hbox; replace hb := Lib.hid hb; replace hg := Lib.hid hg)
          | ((with_reducible refine gate_store (t := 150) (p := 5) rfl ?_); refine store_event (t := 150) (p := 5) (v := ?vo) (w1 := (w6.setCell ⟨gb, 0, none⟩ (.slice A1 qa.length c1)).setCell ⟨gb, 1, none⟩ (.slice A2 qo.length c2)) ?hg ?ho ?hn ?hr ?_; (case ho => rfl); (case hg => rfl); (case hn => rfl); (case hr => first | (go_simp; done) | (go_simp; rfl)); intro w7 hw7; obtain ⟨BK, HB7, y0, y1⟩ := copy2 hg.out hbox.out hb.out hw7; clear hw7 hcz0 hcz1 hfz0 hfz1 hbox hb hg BK; replace HB7 := Lib.hid HB7)
          | (go_at_call 90; refine (hF.out w7 HB7.out).out.mono ?_; rintro e w8 ⟨rfl, hb8⟩; replace y0 := cell_b y0 hb8; replace y1 := cell_b y1 hb8; replace HB7 := Lib.hid (below_step HB7.out hb8); clear hb8 hF))
          have HH8 := two_start y0 y1
          refine start_ (n := 11) (S := Two w8 gb (.slice A1 qa.length c1) (.slice A2 qo.length c2)) (ds := [9]) #[Z, Z, Z, Z, Z, Z, Z, Z, Z, Z, Z] (by kernel_rfl) rfl rfl HH8 (fun hHeld => ?_)
          refine with_tabW turn.tab6 turn.bits6 (fun HT_ HW_ => ?_)
          refine pure_ (i := 0) (N := some 17) (v := ?_) (a' := ?_) #[Y, Z, Z, Z, Z, Z, Z, Z, Z, Z, Z] rfl rfl (any_of HT_.out (by kernel_rfl)) (fun _ _ _ h => h) (Or.inl ⟨by rfl, ?_⟩) ?_ ?_
          rotate_left
          · intro w'
            go_simp
            with_reducible rfl
          rotate_left
          · simp only [Act.put, List.setIfInBounds_toArray, List.set_cons_zero, List.set_cons_succ, i64_w, i32_w]
            rfl
          refine pure_ (i := 1) (N := some 18) (v := ?_) (a' := ?_) #[Y, Y, Z, Z, Z, Z, Z, Z, Z, Z, Z] rfl rfl (any_of HT_.out (by kernel_rfl)) (fun _ _ _ h => h) (Or.inl ⟨by rfl, ?_⟩) ?_ ?_
          rotate_left
          · intro w'
            go_simp
            with_reducible rfl
          rotate_left
          · simp only [Act.put, List.setIfInBounds_toArray, List.set_cons_zero, List.set_cons_succ, i64_w, i32_w]
            rfl
          refine take_ (i := 2) (N := some 19) (v := ?_) (a' := ?_) #[Y, Y, Y, Z, Z, Z, Z, Z, Z, Z, Z] rfl rfl (take_ofW HT_.out HW_.out (by kernel_rfl)) (fun _ _ _ h => h) (Or.inl ⟨by rfl, ?_⟩) hHeld ?_ ?_
          rotate_left
          · rintro w' ⟨s0, s1, s2⟩
            go_simp
            with_reducible rfl
          rotate_left
          · simp only [Act.put, List.setIfInBounds_toArray, List.set_cons_zero, List.set_cons_succ, i64_w, i32_w]
            rfl
          refine pure_ (i := 4) (N := some 21) (v := ?_) (a' := ?_) #[Y, Y, Y, Z, Y, Z, Z, Z, Z, Z, Z] rfl rfl (any_of HT_.out (by kernel_rfl)) (fun _ _ _ h => h) (Or.inl ⟨by rfl, ?_⟩) ?_ ?_
          rotate_left
          · intro w'
            go_simp
            with_reducible rfl
          rotate_left
          · simp only [Act.put, List.setIfInBounds_toArray, List.set_cons_zero, List.set_cons_succ, i64_w, i32_w]
            rfl
          refine take_ (i := 5) (N := some 22) (v := ?_) (a' := ?_) #[Y, Y, Y, Z, Y, Y, Z, Z, Z, Z, Z] rfl rfl (take_ofW HT_.out HW_.out (by kernel_rfl)) (fun _ _ _ h => h) (Or.inl ⟨by rfl, ?_⟩) hHeld ?_ ?_
          rotate_left
          · rintro w' ⟨s0, s1, s2⟩
            go_simp
            with_reducible rfl
          rotate_left
          · simp only [Act.put, List.setIfInBounds_toArray, List.set_cons_zero, List.set_cons_succ, i64_w, i32_w]
            rfl
          refine one_ (i := 3) (N := some 20) #[Y, Y, Y, Y, Y, Y, Z, Z, Z, Z, Z] rfl rfl (one_of HT_.out (by kernel_rfl)) (by decide) (fun K hK => ?_)
          refine goes_ Tryz.func92 (by kernel_rfl) rfl #[.slice A2 qo.length c2] (by rfl) rfl rfl (by (try simp only [List.map_toArray, List.map_cons, List.map_nil]); first | done | rfl) ?_
          have hz9 := hHeld.1.size
          refine (H1.out _ (below_step HB7.out hHeld.1)).out.mono ?_
          rintro e w9 ⟨v9, rfl, hR9, hb9⟩
          obtain ⟨A9, d9, rfl⟩ := Kd.R_slice hR9
          refine ⟨_, rfl, ?_⟩
          refine hK.out _ _ (hHeld.step hb9) (fun hHeld => ?_)
          clear hK K
          refine norm_ (a' := ?_) ?_ ?_
          rotate_left
          · show Act.put _ (some 20) _ = _
            simp only [Act.put, List.setIfInBounds_toArray, List.set_cons_zero, List.set_cons_succ, i64_w, i32_w]
            rfl
          refine one_ (i := 6) (N := some 23) #[Y, Y, Y, Y, Y, Y, Y, Z, Z, Z, Z] rfl rfl (one_of HT_.out (by kernel_rfl)) (by decide) (fun K hK => ?_)
          refine goes_ Tryz.func92 (by kernel_rfl) rfl #[.slice A1 qa.length c1] (by rfl) rfl rfl (by (try simp only [List.map_toArray, List.map_cons, List.map_nil]); first | done | rfl) ?_
          have hz10 := hHeld.1.size
          refine (H2.out _ (below_step HB7.out hHeld.1)).out.mono ?_
          rintro e w10 ⟨v10, rfl, hR10, hb10⟩
          obtain ⟨A10, d10, rfl⟩ := Kd.R_slice hR10
          refine ⟨_, rfl, ?_⟩
          refine hK.out _ _ (hHeld.step hb10) (fun hHeld => ?_)
          clear hK K
          refine norm_ (a' := ?_) ?_ ?_
          rotate_left
          · show Act.put _ (some 23) _ = _
            simp only [Act.put, List.setIfInBounds_toArray, List.set_cons_zero, List.set_cons_succ, i64_w, i32_w]
            rfl
          refine pure_ (i := 7) (N := some 24) (v := ?_) (a' := ?_) #[Y, Y, Y, Y, Y, Y, Y, Y, Z, Z, Z] rfl rfl (any_of HT_.out (by kernel_rfl)) (fun _ _ _ h => h) (Or.inl ⟨by rfl, ?_⟩) ?_ ?_
          rotate_left
          · intro w'
            go_simp
            with_reducible rfl
          rotate_left
          · simp only [Act.put, List.setIfInBounds_toArray, List.set_cons_zero, List.set_cons_succ, i64_w, i32_w]
            rfl
          refine one_ (i := 8) (N := some 25) #[Y, Y, Y, Y, Y, Y, Y, Y, Y, Z, Z] rfl rfl (one_of HT_.out (by kernel_rfl)) (by decide) (fun K hK => ?_)
          have hHeld0 := hHeld
          refine value_ (w1 := w10.alloc (.cells #[.slice A9 qo.length d9, .slice A10 qa.length d10] 150)) (v := ?_) (by rfl) rfl ?_ ?_
          rotate_left
          · go_simp
            rfl
          refine hK.out _ _ (hHeld.step (below_alloc (Below.refl _ _) _)) (fun hHeld => ?_)
          clear hK K
          refine norm_ (a' := ?_) ?_ ?_
          rotate_left
          · show Act.put _ (some 25) _ = _
            simp only [Act.put, List.setIfInBounds_toArray, List.set_cons_zero, List.set_cons_succ, i64_w, i32_w]
            rfl
          refine last_ (i := 9) (N := some 26) #[Y, Y, Y, Y, Y, Y, Y, Y, Y, Y, Z] rfl rfl (one_of HT_.out (by kernel_rfl)) (by decide) (fun K hK => ?_)
          refine Kd.R_append_step k150 (w0 := w10) 0 (by rfl) (.tmp 17) (.tmp 25) 127 150 (.agg #[.slice none 0 0, .slice none 0 0]) 48 (by rfl) Tryz.underlying127 info150 rfl (by decide) (by omega) (.slice Au out.length cu) out ⟨qo, qa⟩ [.slice A9 qo.length d9, .slice A10 qa.length d10] (fun k => w.heap.size ≤ k) (fun k => w8.heap.size ≤ k) (by rfl) (by rfl) ?aP ?aK ?aF ?aO ?aB ?aZ hol.out ?_
          case aP => exact turn_new hz9 hz10 hR9 hR10 hb10
          case aK => exact fun k hk => ⟨Nat.le_trans HM.out.1.size (Nat.le_trans HB7.out.size hk), fun he => absurd (Kd.R_lt HM.out.2 k he.symm) (by have := HB7.out.size; omega)⟩
          case aF => exact fun k hk => Nat.le_trans (below_step HM.out.1 (below_step HB7.out hHeld0.1)).size hk
          case aO => exact Kd.R_below HM.out.2 (below_step HB7.out hHeld0.1)
          case aB => exact Below.refl _ _
          case aZ => exact Nat.zero_le _
          intro v11 w11 ho hb hg hat
          refine hK.out _ _ ?_
          clear hK K
          refine norm_ (a' := ?_) ?_ ?_
          rotate_left
          · show Act.put _ (some 26) _ = _
            simp only [Act.put, List.setIfInBounds_toArray, List.set_cons_zero, List.set_cons_succ, i64_w, i32_w]
            rfl
          refine pure_ (i := 10) (N := some 3) (v := ?_) (a' := ?_) #[Y, Y, Y, Y, Y, Y, Y, Y, Y, Y, Y] rfl rfl (any_of HT_.out (by kernel_rfl)) (fun _ _ _ h => h) (Or.inl ⟨by rfl, ?_⟩) ?_ ?_
          rotate_left
          · intro w'
            go_simp
            with_reducible rfl
          rotate_left
          · simp only [Act.put, List.setIfInBounds_toArray, List.set_cons_zero, List.set_cons_succ, i64_w, i32_w]
            rfl
          refine done_ (done_of HT_.out (by kernel_rfl)) ?_
          have HMn := Lib.hid (turn_next HM.out HB7.out hHeld0.1 hg ho)
          clear hg ho hb hat hHeld hHeld0 hR9 hR10 hb9 hb10 y0 y1
          go_wp2
          go_roundg gk
          case measure => omega
          case rel => exact ⟨i + 1, _, rfl, HMn, Lib.hid ⟨by omega, by omega, e.out, by rw [List.length_append]; exact Nat.succ_le_succ o0, small_snoc o1.out s9⟩⟩
        · rw [if_neg hr] at e
          have dr : decide (findF out qo < 0) = false := decide_eq_false hr
          generalize findF out qo = r at *
          replace e := Lib.hid e
          go_wp2_with (first
          | ((with_reducible refine gate_dst (N := 5) rfl ?_); refine box_event ?hg (N := 5) ?hd (cs := #[.slice none 0 0, .slice none 0 0]) (t := 150) ?hr ?_; (case hd => rfl); (case hg => rfl); (case hr => first | (go_simp; done) | (go_simp; rfl)); intro gb hg w6 hbox hb; have hcz0 : w6.cell? ⟨gb, 0, none⟩ = some (.slice none 0 0) := (blk_cell hbox 0).trans rfl; have hcz1 : w6.cell? ⟨gb, 1, none⟩ = some (.slice none 0 0) := (blk_cell hbox 1).trans rfl; have hfz0 := blk_frozen hbox 0; have hfz1 := blk_frozen hbox 1; replace hbox := Lib.hid hbox; replace hb := Lib.hid hb; replace hg := Lib.hid hg)
          | ((with_reducible refine gate_store (t := 150) (p := 5) rfl ?_); refine store_event (t := 150) (p := 5) (v := ?vo) (w1 := (w6.setCell ⟨gb, 0, none⟩ (.slice A1 qa.length c1)).setCell ⟨gb, 1, none⟩ (.slice A2 qo.length c2)) ?hg ?ho ?hn ?hr ?_; (case ho => rfl); (case hg => rfl); (case hn => rfl); (case hr => first | (go_simp; done) | (go_simp; rfl)); intro w7 hw7; obtain ⟨BK, HB7, y0, y1⟩ := copy2 hg.out hbox.out hb.out hw7; clear hw7 hcz0 hcz1 hfz0 hfz1 hbox hb hg BK; replace HB7 := Lib.hid HB7)
          | (go_at_call 90; refine (hF.out w7 HB7.out).out.mono ?_; rintro e w8 ⟨rfl, hb8⟩; replace y0 := cell_b y0 hb8; replace y1 := cell_b y1 hb8; replace HB7 := Lib.hid (below_step HB7.out hb8); clear hb8 hF))
          go_roundg gk
          case measure => omega
          case rel => exact ⟨i + 1, out, rfl, HM.step HB7, Lib.hid ⟨by omega, by omega, e.out, by omega, o1.out⟩⟩
      · have di := nlt_dec hi
        rw [List.drop_eq_nil_of_le (by omega), turnGo] at e
        subst e
        go_wp2
        go_ret
        exact ⟨_, rfl, HM.out⟩
end Go.Proofs.YtnfjgopcenpblaaGreatDoor.T

/- The walks of rule.Longest and table.closed. No condition beyond the ranges. -/
namespace Go.Proofs.YtnfjgopcenpblaaGreatDoor.T
open Go.RowKit Go.Proofs.YtnfjgopcenpblaaGreatDoorW.PrintWords Go.Proofs.YtnfjgopcenpblaaGreatDoorW.PrintLast Go.Proofs.YtnfjgopcenpblaaGreatDoorW.PrintMore Go.Proofs.YtnfjgopcenpblaaGreatDoor
set_option linter.unusedVariables false
set_option linter.unusedSimpArgs false
attribute [local go_sem] max2_int min2_int max_two min_two
def rlGo : List S150 → Int → Int
  | [], n => n
  | r :: rs, n => rlGo rs (if n < (r.f0.length : Int) then (r.f0.length : Int) else n)
def rlF (rs : List S150) : Int := rlGo rs 0
theorem rd_drop {rs : List S150} {i : Nat} (hi : i < rs.length) : rs.drop i = rd_T150 rs i :: rs.drop (i + 1) := by
  unfold rd_T150
  rw [Int.toNat_natCast, List.drop_eq_getElem_cons hi, List.getD_eq_getElem?_getD, List.getElem?_eq_getElem hi]; rfl
set_option maxRecDepth 100000 in
theorem RLong_calls (w : World) (A : Option Addr) (c : Nat) (rs : List S150) (hA : k150.C w A rs.length rs) (hn : rs.length ≤ 512) (z : Int) (hz : rlF rs = z) :
    Calls Tryz.prog 73 #[.slice A rs.length c] w fun e w' => e = .returned (.int .i64 z) ∧ Below w.heap.size w w' := by
  have hA := Lib.hid hA
  have hz := Lib.hid (show rlGo (rs.drop 0) 0 = z from hz)
  have HB := Lib.hid (Below.refl w.heap.size w)
  go_enter Tryz.func73, Tryz.ntmps73
  go_wp2
  go_loopg [3, 8] (rs.length + 1) (fun kq u v w' => ∃ (i : Nat) (n : Int), v = .int .i64 i ∧ u = .int .i64 n ∧ Hid (Below w.heap.size w w') ∧ Hid (i ≤ rs.length ∧ rs.length + 1 = kq + i ∧ rlGo (rs.drop i) n = z))
  case atStart => exact ⟨0, 0, rfl, rfl, HB, Lib.hid ⟨by omega, by omega, hz.out⟩⟩
  case round =>
    clear HB hz
    obtain ⟨i, n, rfl, rfl, HB, H⟩ := hrel
    obtain ⟨i0, i1, e⟩ := H.out
    clear H
    cases gk with
    | zero => exact absurd i1 (by omega)
    | succ gk =>
      by_cases hi : i < rs.length
      · have di := lt_dec hi
        obtain ⟨ad, A1, c1, A2, c2, rfl, x0, x1, l1, g1, l2, g2⟩ := at_T150 (Kd.C_below hA.out HB.out) (i : Int) (Int.natCast_nonneg i) (Int.ofNat_lt.mpr hi)
        rw [Int.toNat_natCast] at x0 x1
        rw [rd_drop hi, rlGo] at e
        have hw1 := w1 hi (Nat.le_trans hn (by decide))
        have p0 := nat_tr i
        have p1 := lt_tr hi
        generalize rd_T150 rs i = q at *
        obtain ⟨qa, qo⟩ := q
        dsimp only at *
        clear g1 g2
        generalize hnn : (if n < (qa.length : Int) then (qa.length : Int) else n) = n1 at e
        replace e := Lib.hid e
        go_wp2_with (first
          | ((with_reducible refine gate_dst (N := 5) rfl ?_); refine box_event ?hg (N := 5) ?hd (cs := #[.slice none 0 0, .slice none 0 0]) (t := 150) ?hr ?_; (case hd => rfl); (case hg => rfl); (case hr => first | (go_simp; done) | (go_simp; rfl)); intro gb hg w6 hbox hb; have hcz0 : w6.cell? ⟨gb, 0, none⟩ = some (.slice none 0 0) := (blk_cell hbox 0).trans rfl; have hcz1 : w6.cell? ⟨gb, 1, none⟩ = some (.slice none 0 0) := (blk_cell hbox 1).trans rfl; have hfz0 := blk_frozen hbox 0; have hfz1 := blk_frozen hbox 1; replace hbox := Lib.hid hbox; replace hb := Lib.hid hb; replace hg := Lib.hid hg)
          | ((with_reducible refine gate_store (t := 150) (p := 5) rfl ?_); refine store_event (t := 150) (p := 5) (v := ?vo) (w1 := (w6.setCell ⟨gb, 0, none⟩ (.slice A1 qa.length c1)).setCell ⟨gb, 1, none⟩ (.slice A2 qo.length c2)) ?hg ?ho ?hn ?hr ?_; (case ho => rfl); (case hg => rfl); (case hn => rfl); (case hr => first | (go_simp; done) | (go_simp; rfl)); intro w7 hw7; obtain ⟨BK, HB7, y0, y1⟩ := copy2 hg.out hbox.out hb.out hw7; clear hw7 hcz0 hcz1 hfz0 hfz1 hbox hb hg BK; replace HB7 := Lib.hid HB7))
        go_roundg gk
        case measure => omega
        case rel => exact ⟨i + 1, n1, rfl, rfl, Lib.hid (below_step HB.out HB7.out), Lib.hid ⟨by omega, by omega, e.out⟩⟩
      · have di := nlt_dec hi
        rw [List.drop_eq_nil_of_le (by omega), rlGo] at e
        subst e
        go_wp2
        go_ret
        exact ⟨rfl, HB.out⟩
/-- a rule's In that table.closed lets by: one unit, or two of which the first is an In, or ends none -/
def clB (rs : List S150) (l : List Int) : Bool := decide (0 < l.length) && decide (l.length ≤ 2) && (decide (l.length ≤ 1) || decide (0 ≤ findF rs (l.take 1)) || !rs.any (fun q : S150 => decide (lastI q.f0 = l.getD 0 0)))
theorem add_none (a : Addr) : a.add 0 = a := by
  rcases a with ⟨b, o, e⟩
  cases e <;> simp [Addr.add]
theorem info3' : ∃ i, Tryz.prog.info? 3 = some i := by obtain ⟨i, hi, _⟩ := info_parts info3; exact ⟨i, hi⟩
set_option maxRecDepth 100000 in
theorem closed_calls (w : World) (A : Option Addr) (c : Nat) (rs : List S150) (hA : k150.C w A rs.length rs) (hn : rs.length ≤ 512) (hC : ∀ r ∈ rs, clB rs r.f0 = true) :
    Calls Tryz.prog 71 #[.slice A rs.length c] w fun e w' => e = .returned (.bool true) ∧ Below w.heap.size w w' := by
  have hl : ∀ r ∈ rs, 0 < r.f0.length ∧ r.f0.length ≤ 1000000 := fun r hr => by
    have := hC r hr
    unfold clB at this
    simp only [Bool.and_eq_true, decide_eq_true_eq] at this
    omega
  have hA := Lib.hid hA
  have hC := Lib.hid hC
  have hl := Lib.hid hl
  have HB := Lib.hid (Below.refl w.heap.size w)
  go_enter Tryz.func71, Tryz.ntmps71
  go_wp2
  go_loopg [8] (rs.length + 1) (fun kq v w' => ∃ i : Nat, v = .int .i64 i ∧ Hid (Below w.heap.size w w') ∧ Hid (i ≤ rs.length ∧ rs.length + 1 = kq + i))
  case atStart => exact ⟨0, rfl, HB, Lib.hid ⟨by omega, by omega⟩⟩
  case round =>
    clear HB
    obtain ⟨i, rfl, HB, H⟩ := hrel
    obtain ⟨i0, i1⟩ := H.out
    clear H
    cases gk with
    | zero => exact absurd i1 (by omega)
    | succ gko =>
      by_cases hi : i < rs.length
      · have di := lt_dec hi
        obtain ⟨ad, A1, c1, A2, c2, rfl, x0, x1, l1, g1, l2, g2⟩ := at_T150 (Kd.C_below hA.out HB.out) (i : Int) (Int.natCast_nonneg i) (Int.ofNat_lt.mpr hi)
        have s0 := hC.out _ (rd_mem hi)
        have s1 := hl.out _ (rd_mem hi)
        rw [Int.toNat_natCast] at x0 x1
        have hw1 := w1 hi (Nat.le_trans hn (by decide))
        have p0 := nat_tr i
        have p1 := lt_tr hi
        generalize rd_T150 rs i = q at *
        obtain ⟨qa, qo⟩ := q
        dsimp only at *
        clear g2
        have hq2 : qa.length ≤ 2 := by unfold clB at s0; simp only [Bool.and_eq_true, decide_eq_true_eq] at s0; omega
        have hq0 := s1.1
        replace s0 := Lib.hid s0
        clear s1
        have hqw : wrap64 ((qa.length : Int) - 1) = ((qa.length - 1 : Nat) : Int) := by unfold wrap64; omega
        have g1 := Lib.hid g1
        go_wp2_with (first
          | ((with_reducible refine gate_dst (N := 4) rfl ?_); refine box_event ?hg (N := 4) ?hd (cs := #[.slice none 0 0, .slice none 0 0]) (t := 150) ?hr ?_; (case hd => rfl); (case hg => rfl); (case hr => first | (go_simp; done) | (go_simp; rfl)); intro gb hg w6 hbox hb; have hcz0 : w6.cell? ⟨gb, 0, none⟩ = some (.slice none 0 0) := (blk_cell hbox 0).trans rfl; have hcz1 : w6.cell? ⟨gb, 1, none⟩ = some (.slice none 0 0) := (blk_cell hbox 1).trans rfl; have hfz0 := blk_frozen hbox 0; have hfz1 := blk_frozen hbox 1; replace hbox := Lib.hid hbox; replace hb := Lib.hid hb; replace hg := Lib.hid hg)
          | ((with_reducible refine gate_store (t := 150) (p := 4) rfl ?_); refine store_event (t := 150) (p := 4) (v := ?vo) (w1 := (w6.setCell ⟨gb, 0, none⟩ (.slice A1 qa.length c1)).setCell ⟨gb, 1, none⟩ (.slice A2 qo.length c2)) ?hg ?ho ?hn ?hr ?_; (case ho => rfl); (case hg => rfl); (case hn => rfl); (case hr => first | (go_simp; done) | (go_simp; rfl)); intro w7 hw7; obtain ⟨BK, HB7, y0, y1⟩ := copy2 hg.out hbox.out hb.out hw7; clear hw7 hcz0 hcz1 hfz0 hfz1 hbox hb hg BK; replace HB7 := Lib.hid HB7))
        obtain ⟨wo, hwo⟩ : ∃ wo : World, wo = wr := ⟨_, rfl⟩
        subst hwo
        clear x0 x1
        have Y := Lib.hid (show Below wo.heap.size wo w7 ∧ w7.cell? ⟨gb, 0, none⟩ = some (.slice A1 qa.length c1) from ⟨HB7.out, y0⟩)
        clear y0 y1 HB7
        go_loopg [5] 2 (fun kq v w' => ∃ n : Nat, v = .int .i64 n ∧ Hid (Below wo.heap.size wo w' ∧ w'.cell? ⟨gb, 0, none⟩ = some (.slice A1 qa.length c1)) ∧ Hid (n < kq ∧ (n = 0 ∨ n = 1 ∧ qa.length = 2)))
        case atStart => exact ⟨qa.length - 1, congrArg (Value.int .i64) (by omega), Y, Lib.hid ⟨by omega, by omega⟩⟩
        case round =>
          clear Y
          obtain ⟨n, rfl, Y, N⟩ := hrel
          obtain ⟨n0, n1⟩ := N.out
          clear N
          obtain ⟨HB7, y0⟩ := Y.out
          replace HB7 := Lib.hid HB7
          cases gk with
          | zero => exact absurd n0 (by omega)
          | succ gk2 =>
            rcases n1 with rfl | ⟨rfl, hq⟩
            · go_wp2
              go_roundg gko
              case measure => omega
              case rel => exact ⟨i + 1, rfl, Lib.hid (below_step HB.out HB7.out), Lib.hid ⟨by omega, by omega⟩⟩
            · have ht : (qa.take 1).length = 1 := by rw [List.length_take]; omega
              obtain ⟨i3, hi3⟩ := info3'
              have hcut := cut_to (P := Tryz.prog) 25 3 .i64 Tryz.underlying25 hi3 A1 qa.length c1 1 (by omega) (by omega) l1
              have hcut : ∀ W : World, (Instr.slice 25 (.slice A1 qa.length c1) none (some (.int .i64 1)) none).run Tryz.prog W = .ok (.slice A1 1 c1) W := hcut
              have hF : ∀ r, findF rs (qa.take 1) = r → Hid (Calls Tryz.prog 90 #[.slice (some ad) rs.length c, .slice A1 1 c1] wr fun e w' => e = .returned (.int .i64 r) ∧ Below wr.heap.size wr w') := fun r hr => Lib.hid (by
                have hC1 := Kd.C_take g1.out (show 1 ≤ qa.length by omega)
                rw [ht] at hC1
                have := Find_calls wr (some ad) A1 c c1 rs (qa.take 1) (Kd.C_below (Kd.C_below hA.out HB.out) HB7.out) (by rw [ht]; exact Kd.C_below hC1 HB7.out) (fun r hr => (hl.out r hr).2) (by omega) r hr
                rw [ht] at this
                exact this)
              obtain ⟨ad1, e1, u0⟩ := C_at (Kd.C_below g1.out HB7.out) hq0
              subst e1
              rw [add_none] at u0
              have q0 : ((0 : Int) < (qa.length : Int)) = True := eq_true (by omega)
              have hU : ∀ W, Below wr.heap.size wr W → Hid (Calls Tryz.prog 91 #[.slice (some ad) rs.length c, .int .i64 (qa.getD 0 0)] W fun e w' => e = .returned (.bool (rs.any (fun q : S150 => decide (lastI q.f0 = qa.getD 0 0)))) ∧ Below W.heap.size W w') := fun W hW => Lib.hid (used_calls W (some ad) c rs (qa.getD 0 0) (Kd.C_below (Kd.C_below (Kd.C_below hA.out HB.out) HB7.out) hW) hl.out (by omega) _ rfl)
              replace hU := Lib.hid hU
              replace hq := Lib.hid hq
              have s1 := s0.out
              unfold clB at s1
              generalize findF rs (qa.take 1) = r at *
              generalize qa.getD 0 0 = u at *
              replace hF := hF r rfl
              by_cases hr : 0 ≤ r
              · have dr : decide (r < 0) = false := decide_eq_false (by omega)
                clear s1
                go_wp2_with (first
                  | (go_at_call 90; refine hF.out.mono ?_; rintro e w8 ⟨rfl, hb8⟩; replace y0 := cell_b y0 hb8; replace HB7 := Lib.hid (below_step HB7.out hb8)))
                go_roundg gk2
                case measure => omega
                case rel => exact ⟨0, rfl, Lib.hid ⟨HB7.out, y0⟩, Lib.hid ⟨by omega, .inl rfl⟩⟩
              · have dr : decide (r < 0) = true := decide_eq_true (by omega)
                have hu : rs.any (fun q : S150 => decide (lastI q.f0 = u)) = false := by
                  have h1 : decide (qa.length ≤ 1) = false := decide_eq_false (by have := hq.out; omega)
                  have h2 : decide (0 ≤ r) = false := decide_eq_false hr
                  rw [h1, h2] at s1
                  simp only [Bool.and_eq_true, Bool.or_eq_true, Bool.not_eq_true', Bool.false_or] at s1
                  exact s1.2
                rw [hu] at hU
                clear s1 hu
                go_wp2_with (first
                  | (go_at_call 90; refine hF.out.mono ?_; rintro e w8 ⟨rfl, hb8⟩; replace y0 := cell_b y0 hb8; replace u0 := cell_b u0 hb8; replace hU := Lib.hid (hU.out w8 hb8); replace HB7 := Lib.hid (below_step HB7.out hb8))
                  | (go_at_call 91; refine hU.out.out.mono ?_; rintro e w9 ⟨rfl, hb9⟩; replace y0 := cell_b y0 hb9; replace HB7 := Lib.hid (below_step HB7.out hb9)))
                go_roundg gk2
                case measure => omega
                case rel => exact ⟨0, rfl, Lib.hid ⟨HB7.out, y0⟩, Lib.hid ⟨by omega, .inl rfl⟩⟩
      · have di := nlt_dec hi
        go_wp2
        go_ret
        exact ⟨rfl, HB.out⟩
end Go.Proofs.YtnfjgopcenpblaaGreatDoor.T
