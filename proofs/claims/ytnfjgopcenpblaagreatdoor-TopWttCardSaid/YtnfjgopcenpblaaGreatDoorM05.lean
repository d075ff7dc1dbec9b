/- Texts of this claim, one behind the other (merged by a program): TP1, TP2, TQ. No condition of their own. -/
import Derived.Test.YtnfjgopcenpblaaGreatDoorM04
/- A trie on its way: what trie.Of has made so far; plain laws of its nodes. No condition beyond the ranges. -/
namespace Go.Proofs.YtnfjgopcenpblaaGreatDoor.T
open Go.RowKit Go.Proofs.YtnfjgopcenpblaaGreatDoorW.PrintWords Go.Proofs.YtnfjgopcenpblaaGreatDoorW.PrintLast Go.Proofs.YtnfjgopcenpblaaGreatDoorW.PrintMore Go.Proofs.YtnfjgopcenpblaaGreatDoor
set_option linter.unusedVariables false
set_option linter.unusedSimpArgs false
/-- a trie of the call's own, at block tb -/
structure TI (w W : World) (tb : Nat) (nv rv : Value) (ns : List S183) (rs : List S150) : Prop where
  blk : W.heap[tb]? = some (.cells #[nv, rv] 186 (0, 0))
  nds : k183.R 183 W 0 (fun k => w.heap.size ≤ k) nv ns
  rls : k150.R 150 W 0 (fun k => w.heap.size ≤ k) rv rs
  below : Below w.heap.size w W
  le : w.heap.size ≤ tb
namespace TI
variable {w W W2 : World} {tb : Nat} {nv rv v2 : Value} {ns ns2 : List S183} {rs rs2 : List S150}
theorem c0 (h : TI w W tb nv rv ns rs) : W.cell? ⟨tb, 0, none⟩ = some nv := (blk_cell h.blk 0).trans rfl
theorem c1 (h : TI w W tb nv rv ns rs) : W.cell? ⟨tb, 1, none⟩ = some rv := (blk_cell h.blk 1).trans rfl
theorem f0 (h : TI w W tb nv rv ns rs) : W.frozen? ⟨tb, 0, none⟩ = false := blk_frozen h.blk 0
theorem f1 (h : TI w W tb nv rv ns rs) : W.frozen? ⟨tb, 1, none⟩ = false := blk_frozen h.blk 1
theorem step (h : TI w W tb nv rv ns rs) (hb : Below W.heap.size W W2) : TI w W2 tb nv rv ns rs := ⟨blk_below h.blk hb, Kd.R_below h.nds hb, Kd.R_below h.rls hb, below_step h.below hb, h.le⟩
theorem tr (h : TI w W tb nv rv ns rs) : Tr W (fun k => w.heap.size ≤ k) tb ns rs := ⟨⟨nv, rv, h.blk, h.nds, h.rls⟩, h.le⟩
theorem grown_rule (h : TI w W tb nv rv ns rs) (hg : W.grownBy W2 rv.ownBlock) (ho : k150.R 150 W2 0 (fun k => w.heap.size ≤ k) v2 rs2) : TI w (W2.setCell ⟨tb, 1, none⟩ v2) tb nv v2 ns rs2 := by
  have hb := blk_grown h.blk hg (Kd.R_ne h.rls h.blk (by decide))
  exact ⟨blk_put hb 1 _ rfl, Kd.R_set (Kd.R_over' h.nds (Kd.R_typed h.rls) (by decide) hg) hb (by decide) _ _, Kd.R_set ho hb (by decide) _ _,
    below_set (h.below.grown hg h.below.size (fun k hk => h.rls.1 k hk)) h.le, h.le⟩
theorem grown_node (h : TI w W tb nv rv ns rs) (hg : W.grownBy W2 nv.ownBlock) (ho : k183.R 183 W2 0 (fun k => w.heap.size ≤ k) v2 ns2) : TI w (W2.setCell ⟨tb, 0, none⟩ v2) tb v2 rv ns2 rs := by
  have hb := blk_grown h.blk hg (Kd.R_ne h.nds h.blk (by decide))
  exact ⟨blk_put hb 0 _ rfl, Kd.R_set ho hb (by decide) _ _, Kd.R_set (Kd.R_over' h.rls (Kd.R_typed h.nds) (by decide) hg) hb (by decide) _ _,
    below_set (h.below.grown hg h.below.size (fun k hk => h.nds.1 k hk)) h.le, h.le⟩
theorem set_node (h : TI w W tb nv rv ns rs) (hg : W.grownBy W2 nv.ownBlock) (ho : k183.R 183 W2 0 (fun k => w.heap.size ≤ k) nv ns2) : TI w W2 tb nv rv ns2 rs :=
  ⟨blk_grown h.blk hg (Kd.R_ne h.nds h.blk (by decide)), ho, Kd.R_over' h.rls (Kd.R_typed h.nds) (by decide) hg, h.below.grown hg h.below.size (fun k hk => h.nds.1 k hk), h.le⟩
end TI
theorem ti_start {w W W2 : World} {v1 : Value} {g : Nat} {ns : List S183} (hg : g = W.heap.size) (hW : Below w.heap.size w W) (ho : k183.R 183 W 0 (fun k => w.heap.size ≤ k) v1 ns)
    (hb : Below W.heap.size W W2) (hblk : W2.heap[g]? = some (.cells #[v1, .slice none 0 0] 186 (0, 0))) : TI w W2 g v1 (.slice none 0 0) ns [] :=
  ⟨hblk, Kd.R_below ho hb, Kd.R_nil _ _ _ _ _, below_step hW hb, by rw [hg]; exact hW.size⟩
def newN (ns : List S183) (a u : Int) : S183 := ⟨u, 0, (rd_T183 ns a).f1, -1⟩
def kidN (ns : List S183) (a : Int) : S183 := ⟨(rd_T183 ns a).f0, ns.length, (rd_T183 ns a).f2, (rd_T183 ns a).f3⟩
def ruleN (ns : List S183) (a k : Int) : S183 := ⟨(rd_T183 ns a).f0, (rd_T183 ns a).f1, (rd_T183 ns a).f2, k⟩
/-- one rule's units, from a node on -/
def addGo (k : Int) : List S183 → Int → List Int → List S183
  | ns, a, [] => ns.set a.toNat (ruleN ns a k)
  | ns, a, u :: us => if (stepF ns a u).2 = true then addGo k ns (stepF ns a u).1 us else
      addGo k ((ns ++ [newN ns a u]).set a.toNat (kidN ns a)) ns.length us
def nodesGo : List S150 → Int → List S183 → List S183
  | [], _, ns => ns
  | r :: rs, k, ns => nodesGo rs (k + 1) (addGo k ns 0 r.f0)
def nodesF (rs : List S150) : List S183 := nodesGo rs 0 [⟨0, 0, 0, -1⟩]
def outOf (r : S150) : S150 := ⟨[], r.f1⟩
theorem rd_set {ns : List S183} {a i : Int} {x : S183} (h0 : 0 ≤ a) (h1 : a < ns.length) (i0 : 0 ≤ i) : rd_T183 (ns.set a.toNat x) i = if i = a then x else rd_T183 ns i := by
  unfold rd_T183
  rw [List.getD_eq_getElem?_getD, List.getD_eq_getElem?_getD, List.getElem?_set]
  by_cases h : i = a
  · subst h
    rw [if_pos rfl, if_pos rfl, if_pos (by omega)]; rfl
  · rw [if_neg (by omega), if_neg h]
theorem rd_app {ns : List S183} {i : Int} {x : S183} (i0 : 0 ≤ i) : rd_T183 (ns ++ [x]) i = if i < ns.length then rd_T183 ns i else if i = ns.length then x else z183 := by
  unfold rd_T183
  rw [List.getD_eq_getElem?_getD, List.getD_eq_getElem?_getD]
  by_cases h : i < ns.length
  · rw [if_pos h, List.getElem?_append_left (by omega)]
  · rw [if_neg h]
    by_cases h2 : i = ns.length
    · rw [if_pos h2, h2, Int.toNat_natCast, List.getElem?_append_right (Nat.le_refl _)]; simp
    · rw [if_neg h2, List.getElem?_eq_none (by simp; omega)]; rfl
theorem nwf_rule {ns : List S183} {a k : Int} (hw : NWF ns) (h0 : 0 ≤ a) (h1 : a < ns.length) : NWF (ns.set a.toNat (ruleN ns a k)) := by
  intro i i0 i1
  rw [List.length_set] at i1
  rw [rd_set h0 h1 i0, List.length_set]
  by_cases h : i = a
  · rw [if_pos h]; subst h; exact hw i i0 i1
  · rw [if_neg h]; exact hw i i0 i1
theorem nwf_node {ns : List S183} {a u : Int} (hw : NWF ns) (h0 : 0 ≤ a) (h1 : a < ns.length) : NWF ((ns ++ [newN ns a u]).set a.toNat (kidN ns a)) := by
  intro i i0 i1
  have hl : (ns ++ [newN ns a u]).length = ns.length + 1 := by simp
  rw [List.length_set, hl] at i1
  rw [List.length_set, rd_set h0 (by rw [hl]; omega) i0, hl]
  by_cases h : i = a
  · rw [if_pos h]
    subst h
    have := hw i i0 h1
    exact ⟨show (0 : Int) ≤ (ns.length : Int) by omega, show (ns.length : Int) < _ by omega, this.2.2⟩
  · rw [if_neg h, rd_app i0]
    by_cases hi : i < ns.length
    · rw [if_pos hi]
      have := hw i i0 hi
      exact ⟨this.1, by omega, this.2.2⟩
    · rw [if_neg hi]
      have hi2 : i = ns.length := by omega
      rw [if_pos hi2]
      have := hw a h0 h1
      exact ⟨show (0 : Int) ≤ 0 by omega, show (0 : Int) < _ by omega, this.1, .inr (show (rd_T183 ns a).f1 < i by omega)⟩
/-- with what add goes on -/
structure Add (k : Int) (ns : List S183) (a : Int) (us : List Int) (z : List S183) (m : Nat) : Prop where
  ans : addGo k ns a us = z
  wf : NWF ns
  a0 : 0 ≤ a
  a1 : a < ns.length
  len : ns.length + us.length ≤ m
theorem Add.old {k a u nx : Int} {ns z : List S183} {us : List Int} {m : Nat} (h : Add k ns a (u :: us) z m) (hs : stepF ns a u = (nx, true)) : Add k ns nx us z m := by
  have := h.ans
  rw [addGo, hs, if_pos rfl] at this
  exact ⟨this, h.wf, by have := stepF_lt h.wf hs; omega, (stepF_lt h.wf hs).2, by have := h.len; simp at this; omega⟩
theorem Add.new {k a u nx : Int} {ns z : List S183} {us : List Int} {m : Nat} (h : Add k ns a (u :: us) z m) (hs : stepF ns a u = (nx, false)) :
    Add k ((ns ++ [newN ns a u]).set a.toNat (kidN ns a)) ns.length us z m := by
  have := h.ans
  rw [addGo, hs, if_neg (by simp)] at this
  exact ⟨this, nwf_node h.wf h.a0 h.a1, by omega, by simp; omega, by have := h.len; simp at this ⊢; omega⟩
theorem addGo_wf {k : Int} {z : List S183} {m : Nat} : ∀ (us : List Int) (ns : List S183) (a : Int), Add k ns a us z m → NWF z ∧ 0 < z.length ∧ z.length ≤ m
  | [], ns, a, h => by
    have e := h.ans
    rw [addGo] at e
    subst e
    exact ⟨nwf_rule h.wf h.a0 h.a1, by have := h.a0; have := h.a1; rw [List.length_set]; omega, by have := h.len; simpa using this⟩
  | u :: us, ns, a, h => by
    rcases hs : stepF ns a u with ⟨nx, b⟩
    cases b with
    | true => exact addGo_wf us _ _ (h.old hs)
    | false => exact addGo_wf us _ _ (h.new hs)
end Go.Proofs.YtnfjgopcenpblaaGreatDoor.T

/- The walk of trie.Of. No condition beyond the ranges. -/
namespace Go.Proofs.YtnfjgopcenpblaaGreatDoor.T
open Go.RowKit Go.Proofs.YtnfjgopcenpblaaGreatDoorW.PrintWords Go.Proofs.YtnfjgopcenpblaaGreatDoorW.PrintLast Go.Proofs.YtnfjgopcenpblaaGreatDoorW.PrintMore Go.Proofs.YtnfjgopcenpblaaGreatDoor
set_option linter.unusedVariables false
set_option linter.unusedSimpArgs false
def tof.T9 : Bool × List (List Nat × List Nat) := (true, [([], []), ([], []), ([1], [1]), ([2], [2]), ([3], [3]), ([], []), ([5], [5]), ([6], [6]), ([7], [7]), ([8], [8]), ([4, 9, 7], [4, 9]), ([0, 0, 1, 2, 3, 4, 5, 6, 7, 8, 9, 10], [0]), ([11, 0, 1, 2, 3, 4, 5, 6, 7, 8, 9, 10], [11]), ([12, 10, 10, 0, 1, 2, 3, 4, 5, 6, 7, 8, 9, 10], [10, 12])])
def tof.B9 : List Nat := [0, 0, 2, 6, 14, 0, 32, 96, 224, 480, 1022, 2047, 4095, 8191]
theorem tof.tab9 : rtab .any (opsOf Tryz.f70 9) = tof.T9 := by kernel_rfl
theorem tof.bits9 : waitsOk tof.T9.2 tof.B9 = true := by kernel_rfl
def tof.T16 : Bool × List (List Nat × List Nat) := (true, [([], []), ([], []), ([1], [1]), ([2], [2]), ([3], [3]), ([], []), ([], []), ([6], [6]), ([7], [7]), ([8], [8]), ([], []), ([9, 10], [9, 10]), ([11], [11]), ([12], [12]), ([5, 13], [5, 13]), ([14], [14]), ([4, 15], [4, 15]), ([0, 0, 1, 2, 3, 4, 5, 6, 7, 8, 9, 10, 11, 12, 13, 14, 15, 16], [0]), ([17, 0, 1, 2, 3, 4, 5, 6, 7, 8, 9, 10, 11, 12, 13, 14, 15, 16], [17]), ([18, 16, 16, 0, 1, 2, 3, 4, 5, 6, 7, 8, 9, 10, 11, 12, 13, 14, 15, 16], [16, 18])])
def tof.B16 : List Nat := [0, 0, 2, 6, 14, 0, 0, 64, 192, 448, 0, 1984, 4032, 8128, 16352, 32736, 65534, 131071, 262143, 524287]
theorem tof.tab16 : rtab .any (opsOf Tryz.f70 16) = tof.T16 := by kernel_rfl
theorem tof.bits16 : waitsOk tof.T16.2 tof.B16 = true := by kernel_rfl
theorem below_grown {W W2 : World} (hg : W.grownBy W2 none) : Below W.heap.size W W2 := ⟨hg.os, hg.tape, hg.output, hg.size, fun k hk => hg.block k hk (by simp)⟩
theorem take_map {rs : List S150} {i : Nat} (hi : i < rs.length) : (rs.take (i + 1)).map outOf = (rs.take i).map outOf ++ [outOf (rd_T150 rs i)] := by
  have : rs[i]? = some (rd_T150 rs i) := by unfold rd_T150; rw [Int.toNat_natCast, List.getD_eq_getElem?_getD, List.getElem?_eq_getElem hi]; rfl
  rw [List.take_add_one, this, List.map_append]; rfl
/-- two cells are held -/
def Two2 (w9 : World) (a b : Addr) (va vb : Value) (w' : World) : Prop := Below w9.heap.size w9 w' ∧ w'.cell? a = some va ∧ w'.cell? b = some vb
theorem Two2.step {w9 w w' : World} {a b : Addr} {va vb : Value} (h : Two2 w9 a b va vb w) (hb : Below w.heap.size w w') : Two2 w9 a b va vb w' := ⟨below_step h.1 hb, cell_b h.2.1 hb, cell_b h.2.2 hb⟩
theorem two2_start {w : World} {a b : Addr} {va vb : Value} (h0 : w.cell? a = some va) (h1 : w.cell? b = some vb) : Two2 w a b va vb w.drew := by
  have hb : Below w.heap.size w w.drew := below_drew (Below.refl _ _)
  exact ⟨hb, cell_b h0 hb, cell_b h1 hb⟩
theorem store3 : (Tryz.prog.info? 3).map (·.size) = some 1 := by kernel_rfl
structure OfN (rs : List S150) (z : List S183) (kq i : Nat) (ns : List S183) : Prop where
  le : i ≤ rs.length
  fuel : rs.length + 1 = kq + i
  ans : nodesGo (rs.drop i) i ns = z
  wf : NWF ns
  pos : 0 < ns.length
  len : ns.length ≤ 1 + 8 * i
def OfP (w : World) (z : List S183) (rs : List S150) (e : Ending) (w' : World) : Prop := ∃ b, e = .returned (.tuple #[.pointer (some ⟨b, 0, none⟩), .int .i64 0]) ∧ Tr w' (fun k => w.heap.size ≤ k) b z (rs.map outOf) ∧ Below w.heap.size w w'
theorem nwf_root : NWF [⟨0, 0, 0, -1⟩] := by
  intro i i0 i1
  have : i = 0 := by simp at i1; omega
  subst this
  decide
theorem tof_y0 {w wr w7 w9 w11 : World} {tb gb : Nat} {nv rv v u : Value} {ns : List S183} {rs : List S150} (hg : gb = wr.heap.size) (T : TI w wr tb nv rv ns rs) (y : w7.cell? ⟨gb, 0, none⟩ = some v) (hb : Below w7.heap.size w7 w9) (hgr : w9.grownBy w11 rv.ownBlock) :
    (w11.setCell ⟨tb, 1, none⟩ u).cell? ⟨gb, 0, none⟩ = some v := by
  have h1 := cell_b y hb
  have hne : some gb ≠ rv.ownBlock := fun e => by have := Kd.R_lt T.rls gb e.symm; omega
  have htb : gb ≠ tb := by have := blk_lt T.blk; omega
  exact (World.cell?_of_block (Below.heap_setCell w11 ⟨tb, 1, none⟩ u gb htb)).trans (cell_grown hgr h1 hne)
set_option maxRecDepth 100000 in
set_option maxHeartbeats 1000000 in
theorem Of_calls (w : World) (A : Option Addr) (c : Nat) (rs : List S150) (hA : k150.C w A rs.length rs) (hc : rs.length ≤ c) (hR : Right rs) (z : List S183) (hz : nodesF rs = z) :
    Calls Tryz.prog 70 #[.slice A rs.length c] w (OfP w z rs) := by
  have hlen := hR.len
  have HK := Lib.hid (Check_calls w A c rs hA hc hR)
  have sm := Lib.hid hR.sides
  have hz := Lib.hid (show nodesGo (rs.drop 0) ((0 : Nat) : Int) [⟨0, 0, 0, -1⟩] = z from hz)
  have hA := Lib.hid hA
  replace hR := ()
  go_enter Tryz.func70, Tryz.ntmps70
  go_wp2_with (first
    | (go_at_call 88; refine HK.out.mono ?_; rintro e w8 ⟨rfl, hb8⟩; replace hb8 := Lib.hid hb8)
    | ((with_reducible refine gate_dst (N := 23) rfl ?_); refine Kd.R_lit k183 (w0 := w8) 0 183 ?hg (N := 23) ?hd (xs := [(⟨0, 0, 0, -1⟩ : S183)]) (inner := [.int .i64 0, .int .i64 0, .int .i64 0, .int .i64 (-1)]) (ok := fun k => w.heap.size ≤ k) (okp := fun _ => False) ?hr ?hp (fun _ hk => hk.elim) hb8.out.size (Below.refl _ _) (Nat.zero_le _) (by simp) ?_; (case hd => rfl); (case hg => rfl); (case hr => first | (go_simp; done) | (go_simp; rfl)); (case hp => exact Reps.c4 (k183_mkM _ _ _ ⟨0, 0, 0, -1⟩) (Reps.none _ _)); intro v9 w9 ho9 hb9 hg9 hn9; obtain ⟨A9, d9, hs⟩ := Kd.R_slice ho9; replace hs : v9 = .slice A9 1 d9 := hs; subst hs; have hbb9 := Lib.hid (below_step hb8.out (below_grown hg9)); replace ho9 := Lib.hid ho9; clear hb9 hg9 hn9)
    | ((with_reducible refine gate_dst (N := 25) rfl ?_); refine box_event ?hg (N := 25) ?hd (cs := #[.slice A9 1 d9, .slice none 0 0]) (t := 186) ?hr ?_; (case hd => rfl); (case hg => rfl); (case hr => first | (go_simp; done) | (go_simp; rfl)); intro tb htb w10 hbox hb10; have T := Lib.hid (ti_start htb hbb9.out ho9.out hb10 hbox); clear hbox hb10 htb hbb9 ho9))
  go_loopg [28] (rs.length + 1) (fun kq v w' => ∃ (i : Nat) (ns : List S183) (nv rv : Value), v = .int .i64 i ∧ Hid (TI w w' tb nv rv ns ((rs.take i).map outOf)) ∧ Hid (OfN rs z kq i ns))
  case atStart => exact ⟨0, _, _, _, rfl, T, Lib.hid ⟨by omega, by omega, hz.out, nwf_root, by simp, by simp⟩⟩
  case round =>
    clear T hz HK hb8
    obtain ⟨i, ns, nv, rv, rfl, T, H⟩ := hrel
    have i0 := H.out.le
    have i1 := H.out.fuel
    cases gk with
    | zero => exact absurd i1 (by omega)
    | succ gko =>
      by_cases hi : i < rs.length
      · have di := lt_dec hi
        obtain ⟨ad, A1, c1, A2, c2, rfl, x0, x1, l1, g1, l2, g2⟩ := at_T150 hA.out (i : Int) (Int.natCast_nonneg i) (Int.ofNat_lt.mpr hi)
        rw [Int.toNat_natCast] at x0 x1
        replace x0 := cell_b x0 T.out.below
        replace x1 := cell_b x1 T.out.below
        have s0 := sm.out _ (rd_mem hi)
        have e := H.out.ans
        rw [rd_drop hi, nodesGo] at e
        have hmap : (rs.take (i + 1)).map outOf = (rs.take i).map outOf ++ [outOf (rd_T150 rs i)] := take_map hi
        have p0 := nat_tr i
        have p1 := lt_tr hi
        generalize rd_T150 rs i = q at *
        obtain ⟨qa, qo⟩ := q
        dsimp only at *
        have hmap := Lib.hid hmap
        have g1 := Lib.hid g1
        have g2 := Lib.hid g2
        have q1 := s0.1.2
        have q2 := s0.2.2
        clear s0
        have e := Lib.hid e
        go_wp2_with (first
          | ((with_reducible refine gate_dst (N := 8) rfl ?_); refine box_event ?hg (N := 8) ?hd (cs := #[.slice none 0 0, .slice none 0 0]) (t := 150) ?hr ?_; (case hd => rfl); (case hg => rfl); (case hr => first | (go_simp; done) | (go_simp; rfl)); intro gb hg w6 hbox hb; have hcz0 : w6.cell? ⟨gb, 0, none⟩ = some (.slice none 0 0) := (blk_cell hbox 0).trans rfl; have hcz1 : w6.cell? ⟨gb, 1, none⟩ = some (.slice none 0 0) := (blk_cell hbox 1).trans rfl; have hfz0 := blk_frozen hbox 0; have hfz1 := blk_frozen hbox 1; replace hbox := Lib.hid hbox; replace hb := Lib.hid hb; replace hg := Lib.hid hg)
          | ((with_reducible refine gate_store (t := 150) (p := 8) rfl ?_); refine store_event (t := 150) (p := 8) (v := ?vo) (w1 := (w6.setCell ⟨gb, 0, none⟩ (.slice A1 qa.length c1)).setCell ⟨gb, 1, none⟩ (.slice A2 qo.length c2)) ?hg ?ho ?hn ?hr ?_; (case ho => rfl); (case hg => rfl); (case hn => rfl); (case hr => first | (go_simp; done) | (go_simp; rfl)); intro w7 hw7; obtain ⟨BK, HB7, y0, y1⟩ := copy2 hg.out hbox.out hb.out hw7; clear hw7 hcz0 hcz1 hfz0 hfz1 hbox hb BK; replace HB7 := Lib.hid HB7))
        have T7 := Lib.hid (T.out.step HB7.out)
        have t1 := T7.out.c1
        have HH := two2_start t1 y1
        clear x0 x1
        have hrl : ((rs.take i).map outOf).length = i := by rw [List.length_map, List.length_take]; omega
        have hol : Hid ((((rs.take i).map outOf).length + 1) * 48 ≤ 140737488355328) := Lib.hid (by omega)
        obtain ⟨Ar, cr, hrv⟩ := Kd.R_slice T7.out.rls
        subst hrv
        generalize (rs.take i).map outOf = outs at *
        replace hrl := Lib.hid hrl
        obtain ⟨outs2, hmap2⟩ : ∃ outs2, Hid (outs ++ [(⟨[], qo⟩ : S150)] = outs2) := ⟨_, Lib.hid rfl⟩
        have hmap3 : Hid ((rs.take (i + 1)).map outOf = outs2) := Lib.hid (hmap.out.trans hmap2.out)
        refine start_ (n := 14) (S := Two2 w7 ⟨tb, 1, none⟩ ⟨gb, 1, none⟩ (.slice Ar outs.length cr) (.slice A2 qo.length c2)) (ds := [10, 13]) #[Z, Z, Z, Z, Z, Z, Z, Z, Z, Z, Z, Z, Z, Z] (by kernel_rfl) rfl rfl HH (fun hHeld => ?_)
        refine with_tabW tof.tab9 tof.bits9 (fun HT_ HW_ => ?_)
        refine pure_ (i := 0) (N := some 33) (v := ?_) (a' := ?_) #[Y, Z, Z, Z, Z, Z, Z, Z, Z, Z, Z, Z, Z, Z] rfl rfl (any_of HT_.out (by kernel_rfl)) (fun _ _ _ h => h) (Or.inl ⟨by rfl, ?_⟩) ?_ ?_
        rotate_left
        · intro w'
          go_simp
          with_reducible rfl
        rotate_left
        · simp only [Act.put, List.setIfInBounds_toArray, List.set_cons_zero, List.set_cons_succ, i64_w, i32_w]
          rfl
        refine pure_ (i := 1) (N := some 34) (v := ?_) (a' := ?_) #[Y, Y, Z, Z, Z, Z, Z, Z, Z, Z, Z, Z, Z, Z] rfl rfl (any_of HT_.out (by kernel_rfl)) (fun _ _ _ h => h) (Or.inl ⟨by rfl, ?_⟩) ?_ ?_
        rotate_left
        · intro w'
          go_simp
          with_reducible rfl
        rotate_left
        · simp only [Act.put, List.setIfInBounds_toArray, List.set_cons_zero, List.set_cons_succ, i64_w, i32_w]
          rfl
        refine pure_ (i := 2) (N := some 35) (v := ?_) (a' := ?_) #[Y, Y, Y, Z, Z, Z, Z, Z, Z, Z, Z, Z, Z, Z] rfl rfl (any_of HT_.out (by kernel_rfl)) (fun _ _ _ h => h) (Or.inl ⟨by rfl, ?_⟩) ?_ ?_
        rotate_left
        · intro w'
          go_simp
          with_reducible rfl
        rotate_left
        · simp only [Act.put, List.setIfInBounds_toArray, List.set_cons_zero, List.set_cons_succ, i64_w, i32_w]
          rfl
        refine pure_ (i := 3) (N := some 36) (v := ?_) (a' := ?_) #[Y, Y, Y, Y, Z, Z, Z, Z, Z, Z, Z, Z, Z, Z] rfl rfl (any_of HT_.out (by kernel_rfl)) (fun _ _ _ h => h) (Or.inl ⟨by rfl, ?_⟩) ?_ ?_
        rotate_left
        · intro w'
          go_simp
          with_reducible rfl
        rotate_left
        · simp only [Act.put, List.setIfInBounds_toArray, List.set_cons_zero, List.set_cons_succ, i64_w, i32_w]
          rfl
        refine take_ (i := 4) (N := some 37) (v := ?_) (a' := ?_) #[Y, Y, Y, Y, Y, Z, Z, Z, Z, Z, Z, Z, Z, Z] rfl rfl (take_ofW HT_.out HW_.out (by kernel_rfl)) (fun _ _ _ h => h) (Or.inl ⟨by rfl, ?_⟩) hHeld ?_ ?_
        rotate_left
        · rintro w' ⟨s0, s1, s2⟩
          go_simp
          with_reducible rfl
        rotate_left
        · simp only [Act.put, List.setIfInBounds_toArray, List.set_cons_zero, List.set_cons_succ, i64_w, i32_w]
          rfl
        refine pure_ (i := 5) (N := some 38) (v := ?_) (a' := ?_) #[Y, Y, Y, Y, Y, Y, Z, Z, Z, Z, Z, Z, Z, Z] rfl rfl (any_of HT_.out (by kernel_rfl)) (fun _ _ _ h => h) (Or.inl ⟨by rfl, ?_⟩) ?_ ?_
        rotate_left
        · intro w'
          go_simp
          with_reducible rfl
        rotate_left
        · simp only [Act.put, List.setIfInBounds_toArray, List.set_cons_zero, List.set_cons_succ, i64_w, i32_w]
          rfl
        refine take_ (i := 6) (N := some 39) (v := ?_) (a' := ?_) #[Y, Y, Y, Y, Y, Y, Y, Z, Z, Z, Z, Z, Z, Z] rfl rfl (take_ofW HT_.out HW_.out (by kernel_rfl)) (fun _ _ _ h => h) (Or.inl ⟨by rfl, ?_⟩) hHeld ?_ ?_
        rotate_left
        · rintro w' ⟨s0, s1, s2⟩
          go_simp
          with_reducible rfl
        rotate_left
        · simp only [Act.put, List.setIfInBounds_toArray, List.set_cons_zero, List.set_cons_succ, i64_w, i32_w]
          rfl
        refine one_ (i := 7) (N := some 40) #[Y, Y, Y, Y, Y, Y, Y, Y, Z, Z, Z, Z, Z, Z] rfl rfl (one_of HT_.out (by kernel_rfl)) (by decide) (fun K hK => ?_)
        refine Kd.R_append_rows_step (Kd.int .i64) (w0 := w7.drew) 0 (by rfl) (.const (.slice none 0 0)) (.tmp 39) 25 3 (.int .i64 0) 8 (by rfl) Tryz.underlying25 info3 rfl (by decide) (by omega) (.slice none 0 0) [] qo A2 qo.length c2 (fun k => w7.heap.size ≤ k) (fun _ => False) (by rfl) (by rfl) (Kd.R_nil _ _ _ _ _) ?aR (fun _ _ h => h) (fun _ h => h.elim) (fun k hk => hk) (Below.refl _ _) (Nat.zero_le _) (by simp; omega) ?_
        case aR => exact Kd.C_below (Kd.C_below g2.out T7.out.below) hHeld.1
        intro v9 w9 ho9 hb9 hg9 hat9
        replace hg9 := below_grown hg9
        obtain ⟨A9, d9, rfl⟩ := Kd.R_slice ho9
        simp only [List.nil_append] at ho9
        refine hK.out _ _ (hHeld.step hg9) (fun hHeld => ?_)
        clear hK K
        refine norm_ (a' := ?_) ?_ ?_
        rotate_left
        · show Act.put _ (some 40) _ = _
          simp only [Act.put, List.setIfInBounds_toArray, List.set_cons_zero, List.set_cons_succ, i64_w, i32_w]
          rfl
        refine pure_ (i := 8) (N := some 41) (v := ?_) (a' := ?_) #[Y, Y, Y, Y, Y, Y, Y, Y, Y, Z, Z, Z, Z, Z] rfl rfl (any_of HT_.out (by kernel_rfl)) (fun _ _ _ h => h) (Or.inl ⟨by rfl, ?_⟩) ?_ ?_
        rotate_left
        · intro w'
          go_simp
          with_reducible rfl
        rotate_left
        · simp only [Act.put, List.setIfInBounds_toArray, List.set_cons_zero, List.set_cons_succ, i64_w, i32_w]
          rfl
        refine one_ (i := 9) (N := some 42) #[Y, Y, Y, Y, Y, Y, Y, Y, Y, Y, Z, Z, Z, Z] rfl rfl (one_of HT_.out (by kernel_rfl)) (by decide) (fun K hK => ?_)
        have hHeld0 := hHeld
        refine value_ (w1 := w9.alloc (.cells #[.slice none 0 0, .slice A9 qo.length d9] 150)) (v := ?_) (by rfl) rfl ?_ ?_
        rotate_left
        · go_simp
          rfl
        refine hK.out _ _ (hHeld.step (below_alloc (Below.refl _ _) _)) (fun hHeld => ?_)
        clear hK K
        refine norm_ (a' := ?_) ?_ ?_
        rotate_left
        · show Act.put _ (some 42) _ = _
          simp only [Act.put, List.setIfInBounds_toArray, List.set_cons_zero, List.set_cons_succ, i64_w, i32_w]
          rfl
        refine last_ (i := 10) (N := some 43) #[Y, Y, Y, Y, Y, Y, Y, Y, Y, Y, Y, Z, Z, Z] rfl rfl (one_of HT_.out (by kernel_rfl)) (by decide) (fun K hK => ?_)
        refine Kd.R_append_step k150 (w0 := w9) 0 (by rfl) (.tmp 37) (.tmp 42) 127 150 (.agg #[.slice none 0 0, .slice none 0 0]) 48 (by rfl) Tryz.underlying127 info150 rfl (by decide) (by omega) (.slice Ar outs.length cr) outs ⟨[], qo⟩ [.slice none 0 0, .slice A9 qo.length d9] (fun k => w.heap.size ≤ k) (fun k => w7.heap.size ≤ k) (by rfl) (by rfl) ?aP ?aK ?aF ?aO ?aB ?aZ hol.out ?_
        case aP => exact k150_mkM _ _ _ ⟨[], qo⟩ (Kd.R_nil _ _ _ _ _) ho9
        case aK => exact fun k hk => ⟨Nat.le_trans T7.out.below.size hk, fun he => absurd (Kd.R_lt T7.out.rls k he.symm) (by omega)⟩
        case aF => exact fun k hk => Nat.le_trans (below_step T7.out.below hHeld0.1).size hk
        case aO => exact Kd.R_below T7.out.rls hHeld0.1
        case aB => exact Below.refl _ _
        case aZ => exact Nat.zero_le _
        intro v11 w11 ho hb hgr hat
        rw [hmap2.out] at ho
        obtain ⟨A11, d11, hv11⟩ := Kd.R_slice ho
        subst hv11
        refine hK.out _ _ ?_
        clear hK K
        refine norm_ (a' := ?_) ?_ ?_
        rotate_left
        · show Act.put _ (some 43) _ = _
          simp only [Act.put, List.setIfInBounds_toArray, List.set_cons_zero, List.set_cons_succ, i64_w, i32_w]
          rfl
        refine pure_ (i := 11) (N := some 44) (v := ?_) (a' := ?_) #[Y, Y, Y, Y, Y, Y, Y, Y, Y, Y, Y, Y, Z, Z] rfl rfl (any_of HT_.out (by kernel_rfl)) (fun _ _ _ h => h) (Or.inl ⟨by rfl, ?_⟩) ?_ ?_
        rotate_left
        · intro w'
          go_simp
          with_reducible rfl
        rotate_left
        · simp only [Act.put, List.setIfInBounds_toArray, List.set_cons_zero, List.set_cons_succ, i64_w, i32_w]
          rfl
        refine pure_ (i := 12) (N := some 45) (v := ?_) (a' := ?_) #[Y, Y, Y, Y, Y, Y, Y, Y, Y, Y, Y, Y, Y, Z] rfl rfl (any_of HT_.out (by kernel_rfl)) (fun _ _ _ h => h) (Or.inl ⟨by rfl, ?_⟩) ?_ ?_
        rotate_left
        · intro w'
          go_simp
          with_reducible rfl
        rotate_left
        · simp only [Act.put, List.setIfInBounds_toArray, List.set_cons_zero, List.set_cons_succ, i64_w, i32_w]
          rfl
        refine last_ (i := 13) (N := none) #[Y, Y, Y, Y, Y, Y, Y, Y, Y, Y, Y, Y, Y, Y] rfl rfl (one_of HT_.out (by kernel_rfl)) (by decide) (fun K hK => ?_)
        have T8 := T7.out.step hHeld0.1
        have ht9 := blk_grown T8.blk hgr (Kd.R_ne T8.rls T8.blk (by decide))
        have c9 := (blk_cell ht9 1).trans (rfl : _ = some (Value.slice Ar outs.length cr))
        have f9 := blk_frozen ht9 1
        refine skip_ (w1 := w11.setCell ⟨tb, 1, none⟩ (.slice A11 outs2.length d11)) (by rfl) rfl ?_ ?_
        · go_simp
        refine hK.out _ _ ?_
        clear hK K
        refine done_ (done_of HT_.out (by kernel_rfl)) ?_
        have T9 := Lib.hid (T8.grown_rule hgr ho)
        have y9 := tof_y0 hg.out T.out y0 hHeld0.1 hgr (u := .slice A11 outs2.length d11)
        clear c9 f9 ht9 T8 ho hb hgr hat hHeld0 ho9 hat9 hg9 hb9 t1 y0 y1 T7 hmap hmap2 hol hrl hg
        generalize hwx : w11.setCell ⟨tb, 1, none⟩ (.slice A11 outs2.length d11) = w12 at *
        clear hwx
        have N := Lib.hid (show Add (i : Int) ns 0 (qa.drop 0) (addGo i ns 0 qa) (ns.length + qa.length) from ⟨rfl, H.out.wf, Int.le_refl _, Int.ofNat_lt.mpr H.out.pos, by simp⟩)
        generalize addGo (i : Int) ns 0 qa = z2 at *
        have hns8 := H.out.len
        have hpos8 := H.out.pos
        obtain ⟨m, hm⟩ : ∃ m, ns.length + qa.length = m := ⟨_, rfl⟩
        rw [hm] at N
        have hm8 : m ≤ 1 + 8 * (i + 1) := by omega
        have hw0 := H.out.wf
        have HI := Lib.hid (⟨hi, i1, i0, hlen⟩ : i < rs.length ∧ rs.length + 1 = gko + 1 + i ∧ i ≤ rs.length ∧ rs.length ≤ 512)
        replace hm8 := Lib.hid hm8
        replace i1 := ()
        replace i0 := ()
        replace hi := ()
        replace hlen := ()
        replace hc := ()
        replace di := ()
        replace p0 := ()
        replace p1 := ()
        replace q2 := ()
        replace l1 := ()
        replace l2 := ()
        clear HB7 T H HH HT_ HW_ hHeld hm hns8 hpos8 hw0
        go_wp2
        go_loopg [9, 49] (qa.length + 1) (fun kq v9 v49 w' => ∃ (j : Nat) (a : Int) (ns' : List S183) (nv' : Value), v9 = .int .i64 a ∧ v49 = .int .i64 j ∧ Hid (TI w w' tb nv' (.slice A11 outs2.length d11) ns' outs2) ∧ Hid (j ≤ qa.length ∧ qa.length + 1 = kq + j ∧ Add (i : Int) ns' a (qa.drop j) z2 m))
        case atStart => exact ⟨0, 0, ns, nv, rfl, rfl, T9, Lib.hid ⟨by omega, by omega, N.out⟩⟩
        case round =>
          clear T9 N y9 ns nv
          obtain ⟨j, a, ns, nv, rfl, rfl, T, H⟩ := hrel
          obtain ⟨j0, j1, N⟩ := H.out
          clear H
          obtain ⟨gN, cN, hnv, _, _⟩ := Kd.R_form T.out.nds (show 0 < ns.length by have := N.a0; have := N.a1; omega)
          subst hnv
          have c0 := T.out.c0
          have a0 := N.a0
          have a1 := N.a1
          have a0' : (0 ≤ a) = True := eq_true a0
          have a1' : (a < (ns.length : Int)) = True := eq_true a1
          obtain ⟨cs, hcl, hcM, hcc, hcf⟩ := Kd.R_elem T.out.nds z183 a a0 a1
          obtain rfl := k183_openM hcM
          have hk1 := hcc 1 _ rfl
          replace hcf := Lib.hid hcf
          replace hcc := Lib.hid hcc
          change Hid (∀ j u, [Value.int .i64 (rd_T183 ns a).f0, .int .i64 (rd_T183 ns a).f1, .int .i64 (rd_T183 ns a).f2, .int .i64 (rd_T183 ns a).f3][j]? = some u → _) at hcc
          change wr.cell? _ = some (.int .i64 (rd_T183 ns a).f1) at hk1
          clear hcl hcM
          cases gk with
          | zero => exact absurd j1 (by omega)
          | succ gk2 =>
            by_cases hj : j < qa.length
            · obtain ⟨ad1, hA1, u0⟩ := C_at (Kd.C_below g1.out T.out.below) hj
              subst hA1
              have dj := lt_dec hj
              have p2 := nat_tr j
              have p3 := lt_tr hj
              rw [drop_at hj] at N
              generalize qa.getD j 0 = u at *
              rcases hst : stepF ns a u with ⟨nx, bb⟩
              cases bb with
              | true =>
                have N2 := Lib.hid (N.old hst)
                have HS := Lib.hid (Step_calls wr _ tb ns outs2 a u T.out.tr N.wf nx true hst)
                replace hst := ()
                replace N := ()
                clear c0 a0' a1' hk1
                go_wp2_with (first | (go_at_call 89; refine HS.out.mono ?_; rintro e w' ⟨rfl, rfl⟩))
                go_roundg gk2
                case measure => omega
                case rel => exact ⟨j + 1, nx, ns, _, rfl, rfl, T, Lib.hid ⟨by omega, by omega, N2.out⟩⟩
              | false =>
                have N2 := Lib.hid (N.new hst)
                have HS := Lib.hid (Step_calls wr _ tb ns outs2 a u T.out.tr N.wf nx false hst)
                replace hst := ()
                have hln := N.len
                have hnl : Hid ((ns.length + 1) * 32 ≤ 140737488355328) := Lib.hid (by have := hm8.out; have := HI.out; omega)
                replace N := ()
                go_wp2_with (first | (go_at_call 89; refine HS.out.mono ?_; rintro e w' ⟨rfl, rfl⟩))
                have HH := two2_start c0 hk1
                obtain ⟨nsb, hnsb⟩ : ∃ nsb, Hid (ns ++ [newN ns a u] = nsb) := ⟨_, Lib.hid rfl⟩
                have hnb : nsb.length = ns.length + 1 := by rw [← hnsb.out]; simp
                replace hnb := Lib.hid hnb
                refine start_ (n := 20) (S := Two2 wr ⟨tb, 0, none⟩ ⟨gN, a.toNat * 4 + 1, none⟩ (.slice (some ⟨gN, 0, none⟩) ns.length cN) (.int .i64 (rd_T183 ns a).f1)) (ds := [16, 19]) #[Z, Z, Z, Z, Z, Z, Z, Z, Z, Z, Z, Z, Z, Z, Z, Z, Z, Z, Z, Z] (by kernel_rfl) rfl rfl HH (fun hHeld => ?_)
                refine with_tabW tof.tab16 tof.bits16 (fun HT_ HW_ => ?_)
                refine pure_ (i := 0) (N := some 67) (v := ?_) (a' := ?_) #[Y, Z, Z, Z, Z, Z, Z, Z, Z, Z, Z, Z, Z, Z, Z, Z, Z, Z, Z, Z] rfl rfl (any_of HT_.out (by kernel_rfl)) (fun _ _ _ h => h) (Or.inl ⟨by rfl, ?_⟩) ?_ ?_
                rotate_left
                · intro w'
                  go_simp
                  with_reducible rfl
                rotate_left
                · simp only [Act.put, List.setIfInBounds_toArray, List.set_cons_zero, List.set_cons_succ, i64_w, i32_w]
                  rfl
                refine pure_ (i := 1) (N := some 68) (v := ?_) (a' := ?_) #[Y, Y, Z, Z, Z, Z, Z, Z, Z, Z, Z, Z, Z, Z, Z, Z, Z, Z, Z, Z] rfl rfl (any_of HT_.out (by kernel_rfl)) (fun _ _ _ h => h) (Or.inl ⟨by rfl, ?_⟩) ?_ ?_
                rotate_left
                · intro w'
                  go_simp
                  with_reducible rfl
                rotate_left
                · simp only [Act.put, List.setIfInBounds_toArray, List.set_cons_zero, List.set_cons_succ, i64_w, i32_w]
                  rfl
                refine pure_ (i := 2) (N := some 69) (v := ?_) (a' := ?_) #[Y, Y, Y, Z, Z, Z, Z, Z, Z, Z, Z, Z, Z, Z, Z, Z, Z, Z, Z, Z] rfl rfl (any_of HT_.out (by kernel_rfl)) (fun _ _ _ h => h) (Or.inl ⟨by rfl, ?_⟩) ?_ ?_
                rotate_left
                · intro w'
                  go_simp
                  with_reducible rfl
                rotate_left
                · simp only [Act.put, List.setIfInBounds_toArray, List.set_cons_zero, List.set_cons_succ, i64_w, i32_w]
                  rfl
                refine pure_ (i := 3) (N := some 70) (v := ?_) (a' := ?_) #[Y, Y, Y, Y, Z, Z, Z, Z, Z, Z, Z, Z, Z, Z, Z, Z, Z, Z, Z, Z] rfl rfl (any_of HT_.out (by kernel_rfl)) (fun _ _ _ h => h) (Or.inl ⟨by rfl, ?_⟩) ?_ ?_
                rotate_left
                · intro w'
                  go_simp
                  with_reducible rfl
                rotate_left
                · simp only [Act.put, List.setIfInBounds_toArray, List.set_cons_zero, List.set_cons_succ, i64_w, i32_w]
                  rfl
                refine take_ (i := 4) (N := some 71) (v := ?_) (a' := ?_) #[Y, Y, Y, Y, Y, Z, Z, Z, Z, Z, Z, Z, Z, Z, Z, Z, Z, Z, Z, Z] rfl rfl (take_ofW HT_.out HW_.out (by kernel_rfl)) (fun _ _ _ h => h) (Or.inl ⟨by rfl, ?_⟩) hHeld ?_ ?_
                rotate_left
                · rintro w' ⟨s0, s1, s2⟩
                  go_simp
                  with_reducible rfl
                rotate_left
                · simp only [Act.put, List.setIfInBounds_toArray, List.set_cons_zero, List.set_cons_succ, i64_w, i32_w]
                  rfl
                refine pure_ (i := 5) (N := some 72) (v := ?_) (a' := ?_) #[Y, Y, Y, Y, Y, Y, Z, Z, Z, Z, Z, Z, Z, Z, Z, Z, Z, Z, Z, Z] rfl rfl (any_of HT_.out (by kernel_rfl)) (fun _ _ _ h => h) (Or.inl ⟨by rfl, ?_⟩) ?_ ?_
                rotate_left
                · intro w'
                  go_simp
                  with_reducible rfl
                rotate_left
                · simp only [Act.put, List.setIfInBounds_toArray, List.set_cons_zero, List.set_cons_succ, i64_w, i32_w]
                  rfl
                refine pure_ (i := 6) (N := some 73) (v := ?_) (a' := ?_) #[Y, Y, Y, Y, Y, Y, Y, Z, Z, Z, Z, Z, Z, Z, Z, Z, Z, Z, Z, Z] rfl rfl (any_of HT_.out (by kernel_rfl)) (fun _ _ _ h => h) (Or.inl ⟨by rfl, ?_⟩) ?_ ?_
                rotate_left
                · intro w'
                  go_simp
                  with_reducible rfl
                rotate_left
                · simp only [Act.put, List.setIfInBounds_toArray, List.set_cons_zero, List.set_cons_succ, i64_w, i32_w]
                  rfl
                refine pure_ (i := 7) (N := some 74) (v := ?_) (a' := ?_) #[Y, Y, Y, Y, Y, Y, Y, Y, Z, Z, Z, Z, Z, Z, Z, Z, Z, Z, Z, Z] rfl rfl (any_of HT_.out (by kernel_rfl)) (fun _ _ _ h => h) (Or.inl ⟨by rfl, ?_⟩) ?_ ?_
                rotate_left
                · intro w'
                  go_simp
                  with_reducible rfl
                rotate_left
                · simp only [Act.put, List.setIfInBounds_toArray, List.set_cons_zero, List.set_cons_succ, i64_w, i32_w]
                  rfl
                refine pure_ (i := 8) (N := some 75) (v := ?_) (a' := ?_) #[Y, Y, Y, Y, Y, Y, Y, Y, Y, Z, Z, Z, Z, Z, Z, Z, Z, Z, Z, Z] rfl rfl (any_of HT_.out (by kernel_rfl)) (fun _ _ _ h => h) (Or.inl ⟨by rfl, ?_⟩) ?_ ?_
                rotate_left
                · intro w'
                  go_simp
                  with_reducible rfl
                rotate_left
                · simp only [Act.put, List.setIfInBounds_toArray, List.set_cons_zero, List.set_cons_succ, i64_w, i32_w]
                  rfl
                refine take_ (i := 9) (N := some 76) (v := ?_) (a' := ?_) #[Y, Y, Y, Y, Y, Y, Y, Y, Y, Y, Z, Z, Z, Z, Z, Z, Z, Z, Z, Z] rfl rfl (take_ofW HT_.out HW_.out (by kernel_rfl)) (fun _ _ _ h => h) (Or.inl ⟨by rfl, ?_⟩) hHeld ?_ ?_
                rotate_left
                · rintro w' ⟨s0, s1, s2⟩
                  go_simp
                  with_reducible rfl
                rotate_left
                · simp only [Act.put, List.setIfInBounds_toArray, List.set_cons_zero, List.set_cons_succ, i64_w, i32_w]
                  rfl
                refine pure_ (i := 10) (N := some 77) (v := ?_) (a' := ?_) #[Y, Y, Y, Y, Y, Y, Y, Y, Y, Y, Y, Z, Z, Z, Z, Z, Z, Z, Z, Z] rfl rfl (any_of HT_.out (by kernel_rfl)) (fun _ _ _ h => h) (Or.inl ⟨by rfl, ?_⟩) ?_ ?_
                rotate_left
                · intro w'
                  go_simp
                  with_reducible rfl
                rotate_left
                · simp only [Act.put, List.setIfInBounds_toArray, List.set_cons_zero, List.set_cons_succ, i64_w, i32_w]
                  rfl
                refine pure_ (i := 11) (N := some 78) (v := ?_) (a' := ?_) #[Y, Y, Y, Y, Y, Y, Y, Y, Y, Y, Y, Y, Z, Z, Z, Z, Z, Z, Z, Z] rfl rfl (any_of HT_.out (by kernel_rfl)) (fun _ _ _ h => h) (Or.inl ⟨by rfl, ?_⟩) ?_ ?_
                rotate_left
                · intro w'
                  go_simp
                  with_reducible rfl
                rotate_left
                · simp only [Act.put, List.setIfInBounds_toArray, List.set_cons_zero, List.set_cons_succ, i64_w, i32_w]
                  rfl
                refine pure_ (i := 12) (N := some 79) (v := ?_) (a' := ?_) #[Y, Y, Y, Y, Y, Y, Y, Y, Y, Y, Y, Y, Y, Z, Z, Z, Z, Z, Z, Z] rfl rfl (any_of HT_.out (by kernel_rfl)) (fun _ _ _ h => h) (Or.inl ⟨by rfl, ?_⟩) ?_ ?_
                rotate_left
                · intro w'
                  go_simp
                  with_reducible rfl
                rotate_left
                · simp only [Act.put, List.setIfInBounds_toArray, List.set_cons_zero, List.set_cons_succ, i64_w, i32_w]
                  rfl
                refine take_ (i := 13) (N := some 80) (v := ?_) (a' := ?_) #[Y, Y, Y, Y, Y, Y, Y, Y, Y, Y, Y, Y, Y, Y, Z, Z, Z, Z, Z, Z] rfl rfl (take_ofW HT_.out HW_.out (by kernel_rfl)) (fun _ _ _ h => h) (Or.inl ⟨by rfl, ?_⟩) hHeld ?_ ?_
                rotate_left
                · rintro w' ⟨s0, s1, s2⟩
                  go_simp
                  with_reducible rfl
                rotate_left
                · simp only [Act.put, List.setIfInBounds_toArray, List.set_cons_zero, List.set_cons_succ, i64_w, i32_w]
                  rfl
                refine pure_ (i := 14) (N := some 81) (v := ?_) (a' := ?_) #[Y, Y, Y, Y, Y, Y, Y, Y, Y, Y, Y, Y, Y, Y, Y, Z, Z, Z, Z, Z] rfl rfl (any_of HT_.out (by kernel_rfl)) (fun _ _ _ h => h) (Or.inl ⟨by rfl, ?_⟩) ?_ ?_
                rotate_left
                · intro w'
                  go_simp
                  with_reducible rfl
                rotate_left
                · simp only [Act.put, List.setIfInBounds_toArray, List.set_cons_zero, List.set_cons_succ, i64_w, i32_w]
                  rfl
                refine one_ (i := 15) (N := some 82) #[Y, Y, Y, Y, Y, Y, Y, Y, Y, Y, Y, Y, Y, Y, Y, Y, Z, Z, Z, Z] rfl rfl (one_of HT_.out (by kernel_rfl)) (by decide) (fun K hK => ?_)
                have hHeld0 := hHeld
                refine value_ (w1 := wr.drew.alloc (.cells #[.int .i64 u, .int .i64 0, .int .i64 (rd_T183 ns a).f1, .int .i64 (-1)] 183)) (v := ?_) (by rfl) rfl ?_ ?_
                rotate_left
                · go_simp
                  rfl
                refine hK.out _ _ (hHeld.step (below_alloc (Below.refl _ _) _)) (fun hHeld => ?_)
                clear hK K
                refine norm_ (a' := ?_) ?_ ?_
                rotate_left
                · show Act.put _ (some 82) _ = _
                  simp only [Act.put, List.setIfInBounds_toArray, List.set_cons_zero, List.set_cons_succ, i64_w, i32_w]
                  rfl
                refine last_ (i := 16) (N := some 83) #[Y, Y, Y, Y, Y, Y, Y, Y, Y, Y, Y, Y, Y, Y, Y, Y, Y, Z, Z, Z] rfl rfl (one_of HT_.out (by kernel_rfl)) (by decide) (fun K hK => ?_)
                refine Kd.R_append_step k183 (w0 := wr.drew) 0 (by rfl) (.tmp 71) (.tmp 82) 184 183 (.agg #[.int .i64 0, .int .i64 0, .int .i64 0, .int .i64 0]) 32 (by rfl) Tryz.underlying184 info183 rfl (by decide) (by omega) (.slice (some ⟨gN, 0, none⟩) ns.length cN) ns (newN ns a u) [.int .i64 u, .int .i64 0, .int .i64 (rd_T183 ns a).f1, .int .i64 (-1)] (fun k => w.heap.size ≤ k) (fun _ => False) (by rfl) (by rfl) ?aP (fun _ h => h.elim) ?aF ?aO ?aB ?aZ hnl.out ?_
                case aP => exact k183_mkM _ _ _ (newN ns a u)
                case aF => exact fun k hk => Nat.le_trans (below_step T.out.below hHeld0.1).size hk
                case aO => exact Kd.R_below T.out.nds hHeld0.1
                case aB => exact Below.refl _ _
                case aZ => exact Nat.zero_le _
                intro v11 w11 ho hb hgr hat
                rw [hnsb.out] at ho
                obtain ⟨gM, cM, hv11, _, _⟩ := Kd.R_form ho (by have := hnb.out; omega)
                subst hv11
                refine hK.out _ _ ?_
                clear hK K
                refine norm_ (a' := ?_) ?_ ?_
                rotate_left
                · show Act.put _ (some 83) _ = _
                  simp only [Act.put, List.setIfInBounds_toArray, List.set_cons_zero, List.set_cons_succ, i64_w, i32_w]
                  rfl
                refine pure_ (i := 17) (N := some 84) (v := ?_) (a' := ?_) #[Y, Y, Y, Y, Y, Y, Y, Y, Y, Y, Y, Y, Y, Y, Y, Y, Y, Y, Z, Z] rfl rfl (any_of HT_.out (by kernel_rfl)) (fun _ _ _ h => h) (Or.inl ⟨by rfl, ?_⟩) ?_ ?_
                rotate_left
                · intro w'
                  go_simp
                  with_reducible rfl
                rotate_left
                · simp only [Act.put, List.setIfInBounds_toArray, List.set_cons_zero, List.set_cons_succ, i64_w, i32_w]
                  rfl
                refine pure_ (i := 18) (N := some 85) (v := ?_) (a' := ?_) #[Y, Y, Y, Y, Y, Y, Y, Y, Y, Y, Y, Y, Y, Y, Y, Y, Y, Y, Y, Z] rfl rfl (any_of HT_.out (by kernel_rfl)) (fun _ _ _ h => h) (Or.inl ⟨by rfl, ?_⟩) ?_ ?_
                rotate_left
                · intro w'
                  go_simp
                  with_reducible rfl
                rotate_left
                · simp only [Act.put, List.setIfInBounds_toArray, List.set_cons_zero, List.set_cons_succ, i64_w, i32_w]
                  rfl
                refine last_ (i := 19) (N := none) #[Y, Y, Y, Y, Y, Y, Y, Y, Y, Y, Y, Y, Y, Y, Y, Y, Y, Y, Y, Y] rfl rfl (one_of HT_.out (by kernel_rfl)) (by decide) (fun K hK => ?_)
                have T8 := T.out.step hHeld0.1
                have ht9 := blk_grown T8.blk hgr (Kd.R_ne T8.nds T8.blk (by decide))
                have c9 := (blk_cell ht9 0).trans (rfl : _ = some (Value.slice (some ⟨gN, 0, none⟩) ns.length cN))
                have f9 := blk_frozen ht9 0
                refine skip_ (w1 := w11.setCell ⟨tb, 0, none⟩ (.slice (some ⟨gM, 0, none⟩) nsb.length cM)) (by rfl) rfl ?_ ?_
                · go_simp
                refine hK.out _ _ ?_
                clear hK K
                refine done_ (done_of HT_.out (by kernel_rfl)) ?_
                have T9 := Lib.hid (T8.grown_node hgr ho)
                clear c9 f9 ht9 T8 ho hb hgr hat hHeld0 hHeld c0 hk1 HH HT_ HW_ a1'
                generalize hwx : w11.setCell ⟨tb, 0, none⟩ (.slice (some ⟨gM, 0, none⟩) nsb.length cM) = w12 at *
                clear hwx
                have c0 := T9.out.c0
                have b1 : a < (nsb.length : Int) := by have := hnb.out; omega
                have b1' : (a < (nsb.length : Int)) = True := eq_true b1
                have hel : nsb.getD a.toNat z183 = rd_T183 ns a := by have := rd_app (ns := ns) (x := newN ns a u) a0; rw [if_pos a1, hnsb.out] at this; exact this
                obtain ⟨cs, hcl, hcM, hcd, hcg⟩ := Kd.R_elem T9.out.nds z183 a a0 b1
                rw [hel] at hcM
                obtain rfl := k183_openM hcM
                have hcg := hcg 1
                have hk1 := hcd 1 _ rfl
                replace hcd := Lib.hid hcd
                clear hel hcl hcM hcf hcc
                go_wp2_with (first
                  | ((with_reducible refine gate_store (t := 3) (p := 93) rfl ?_); refine Kd.R_store k183 (w0 := w12) 0 rfl rfl 3 (.tmp 93) (.tmp 91) rfl 183 (g := gM) (n := nsb.length) (cap := cM) (o' := a.toNat * 4 + 1) a 1 nsb (kidN ns a) (.int .i64 ns.length) [.int .i64 ns.length] _ (fun k => w.heap.size ≤ k) (fun _ => False) rfl rfl rfl rfl store3 (by simp [Value.oneCell']) T9.out.nds a0 b1 rfl hcd.out (show 1 + 1 ≤ 4 by omega) (k183_mkM _ _ _ (kidN ns a)) (fun _ h => h.elim) (Below.refl _ _) ?_; intro w13 hr hb hgr; have T2 := Lib.hid (T9.out.set_node hgr hr); clear hr hb hgr))
                go_roundg gk2
                case measure => omega
                case rel => exact ⟨j + 1, _, _, _, rfl, rfl, T2, Lib.hid ⟨by omega, by omega, by have := N2.out; rw [hnsb.out] at this; exact this⟩⟩
            · have dj := nlt_dec hj
              have hz2 : ns.set a.toNat (ruleN ns a i) = z2 := by
                have := N.ans
                rw [List.drop_eq_nil_of_le (by omega), addGo] at this
                exact this
              have HN := Lib.hid (addGo_wf _ _ _ N)
              replace hz2 := Lib.hid hz2
              replace N := ()
              have hi9 := HI.out.1
              have hl9 := HI.out.2.2.2
              go_wp2_with (first
                | ((with_reducible refine gate_store (t := 3) (p := 103) rfl ?_); refine Kd.R_store k183 (w0 := wr) 0 rfl rfl 3 (.tmp 103) (.tmp 101) rfl 183 (g := gN) (n := ns.length) (cap := cN) (o' := a.toNat * 4 + 3) a 3 ns (ruleN ns a i) (.int .i64 i) [.int .i64 i] _ (fun k => w.heap.size ≤ k) (fun _ => False) rfl rfl rfl rfl store3 (by simp [Value.oneCell']) T.out.nds a0 a1 rfl hcc.out (show 3 + 1 ≤ 4 by omega) (k183_mkM _ _ _ (ruleN ns a i)) (fun _ h => h.elim) (Below.refl _ _) ?_; intro w13 hr hb hgr; rw [hz2.out] at hr; have T2 := Lib.hid (T.out.set_node hgr hr); clear hr hb hgr))
              have hi8 := HI.out.2.1
              go_roundg gko
              case measure => omega
              case rel => exact ⟨i + 1, z2, _, _, rfl, by rw [hmap3.out]; exact T2, Lib.hid ⟨by omega, by omega, e.out, HN.out.1, HN.out.2.1, Nat.le_trans HN.out.2.2 hm8.out⟩⟩
      · have di := nlt_dec hi
        have e := H.out.ans
        rw [List.drop_eq_nil_of_le (by omega), nodesGo] at e
        subst e
        have hrs : rs.take i = rs := List.take_of_length_le (by omega)
        rw [hrs] at T
        clear H hrs
        go_wp2
        go_ret2
        exact ⟨tb, rfl, T.out.tr, T.out.below⟩
end Go.Proofs.YtnfjgopcenpblaaGreatDoor.T

/- The walk of table.Of; what a table is. No condition beyond the ranges. -/
namespace Go.Proofs.YtnfjgopcenpblaaGreatDoor.T
open Go.RowKit Go.Proofs.YtnfjgopcenpblaaGreatDoorW.PrintWords Go.Proofs.YtnfjgopcenpblaaGreatDoorW.PrintLast Go.Proofs.YtnfjgopcenpblaaGreatDoorW.PrintMore Go.Proofs.YtnfjgopcenpblaaGreatDoor
set_option linter.unusedVariables false
set_option linter.unusedSimpArgs false
/-- block b is a table of the rules rs, all in blocks of ok -/
structure Tab (w : World) (ok : Nat → Prop) (b : Nat) (rs : List S150) : Prop where
  blk : ∃ (i o : Int) (rb wb : Nat), w.heap[b]? = some (.cells #[.int .i64 i, .int .i64 o, .pointer (some ⟨rb, 0, none⟩), .pointer (some ⟨wb, 0, none⟩)] 146 (0, 0)) ∧
    Tr w ok rb (nodesF rs) (rs.map outOf) ∧ Tr w ok wb (nodesF (turnF rs)) ((turnF rs).map outOf)
  okb : ok b
theorem Tab.same {w w' : World} {ok : Nat → Prop} {b : Nat} {rs : List S150} (h : Tab w ok b rs) (hs : Same ok w w') : Tab w' ok b rs := by
  obtain ⟨⟨i, o, rb, wb, h1, h2, h3⟩, h4⟩ := h
  exact ⟨⟨i, o, rb, wb, hs.blk h1 h4, h2.same hs, h3.same hs⟩, h4⟩
theorem Tab.mono {w : World} {ok ok' : Nat → Prop} {b : Nat} {rs : List S150} (h : Tab w ok b rs) (hk : ∀ k, ok k → ok' k) : Tab w ok' b rs := by
  obtain ⟨⟨i, o, rb, wb, h1, h2, h3⟩, h4⟩ := h
  exact ⟨⟨i, o, rb, wb, h1, h2.mono hk, h3.mono hk⟩, hk _ h4⟩
theorem Tr.below {w w' : World} {ok : Nat → Prop} {b : Nat} {ns : List S183} {rs : List S150} (h : Tr w ok b ns rs) (hb : Below w.heap.size w w') : Tr w' ok b ns rs := h.same (Same.of_below hb)
/-- rules that a table is made of -/
structure Good (rs : List S150) : Prop where
  right : Right rs
  turn : Right (turnF rs)
  closed : ∀ r ∈ rs, clB rs r.f0 = true
def TabP (w : World) (rs : List S150) (e : Ending) (w' : World) : Prop := ∃ b, e = .returned (.tuple #[.pointer (some ⟨b, 0, none⟩), .int .i64 0]) ∧ Tab w' (fun k => w.heap.size ≤ k) b rs ∧ Below w.heap.size w w'
theorem tab_end {w w1 w6 w7 : World} {rb wb gb : Nat} {i o : Int} {rs : List S150} (h1 : Below w.heap.size w w1) (t1 : Tr w1 (fun k => w.heap.size ≤ k) rb (nodesF rs) (rs.map outOf))
    (h6 : Below w1.heap.size w1 w6) (hb : w6.heap[gb]? = some (.cells #[.int .i64 i, .int .i64 o, .pointer (some ⟨rb, 0, none⟩), .pointer none] 146 (0, 0))) (hgb : w1.heap.size ≤ gb)
    (h7 : Below w6.heap.size w6 w7) (t7 : Tr w7 (fun k => w6.heap.size ≤ k) wb (nodesF (turnF rs)) ((turnF rs).map outOf)) :
    TabP w rs (.returned (.tuple #[.pointer (some ⟨gb, 0, none⟩), .int .i64 0])) (w7.setCell ⟨gb, 3, none⟩ (.pointer (some ⟨wb, 0, none⟩))) := by
  have h67 := below_step h6 h7
  have hb7 := blk_below hb h7
  have hlt := blk_lt hb
  have set : ∀ (k : Nat), k ≠ gb → (w7.setCell ⟨gb, 3, none⟩ (.pointer (some ⟨wb, 0, none⟩))).heap[k]? = w7.heap[k]? := fun k hk => Below.heap_setCell w7 ⟨gb, 3, none⟩ _ k hk
  have hsz : w7.heap.size ≤ (w7.setCell ⟨gb, 3, none⟩ (.pointer (some ⟨wb, 0, none⟩))).heap.size := by simp [World.setCell]
  refine ⟨gb, rfl, ⟨⟨i, o, rb, wb, blk_put hb7 3 _ rfl, ?_, ?_⟩, ?_⟩, ?_⟩
  · have t6 := (t1.below h67)
    obtain ⟨⟨nv, rv, b1, b2, b3⟩, b4⟩ := t6
    have hr : rb ≠ gb := blk_ne b1 hb7 (by decide)
    exact ⟨⟨nv, rv, (set rb hr).trans b1, Kd.R_set b2 hb7 (by decide) _ _, Kd.R_set b3 hb7 (by decide) _ _⟩, b4⟩
  · obtain ⟨⟨nv, rv, b1, b2, b3⟩, b4⟩ := t7.mono (ok' := fun k => w.heap.size ≤ k) (fun k hk => Nat.le_trans (below_step h1 h6).size hk)
    have hr : wb ≠ gb := blk_ne b1 hb7 (by decide)
    exact ⟨⟨nv, rv, (set wb hr).trans b1, Kd.R_set b2 hb7 (by decide) _ _, Kd.R_set b3 hb7 (by decide) _ _⟩, b4⟩
  · exact Nat.le_trans h1.size hgb
  · exact below_set (below_step h1 h67) (Nat.le_trans h1.size hgb)
set_option maxRecDepth 100000 in
theorem TabOf_calls (w : World) (A : Option Addr) (c : Nat) (rs : List S150) (hA : k150.C w A rs.length rs) (hc : rs.length ≤ c) (hG : Good rs) :
    Calls Tryz.prog 57 #[.slice A rs.length c] w (TabP w rs) := by
  have hlen := hG.right.len
  have hlt := hG.turn.len
  have H0 := Lib.hid (Of_calls w A c rs hA hc hG.right _ rfl)
  have hA := Lib.hid hA
  have hG := Lib.hid hG
  obtain ⟨ts, hts⟩ : ∃ ts, turnF rs = ts := ⟨_, rfl⟩
  rw [hts] at hlt
  replace hts := Lib.hid hts
  go_enter Tryz.func57, Tryz.ntmps57
  go_wp2_with (first
    | (go_at_call 70; (with_reducible refine H0.out.mono ?_); rintro e w1 ⟨rb, rfl, hT1, hb1⟩; replace hT1 := Lib.hid hT1; replace hb1 := Lib.hid hb1)
    | (go_at_call 71; (with_reducible refine (closed_calls w1 A c rs (Kd.C_below hA.out hb1.out) hlen hG.out.closed).mono ?_); rintro e w2 ⟨rfl, hb2⟩; replace hb2 := Lib.hid hb2)
    | (go_at_call 72; (with_reducible refine (Turn_calls w2 A c rs (Kd.C_below (Kd.C_below hA.out hb1.out) hb2.out) hG.out.right.sides hlen ts hts.out).mono ?_); rintro e w3 ⟨u, rfl, hb3, hu⟩; obtain ⟨Au, cu, hus, huc, huC⟩ := Kd.R_reads hu; subst hus; replace hb3 := Lib.hid hb3; replace huC := Lib.hid huC; clear hu)
    | (go_at_call 73; (with_reducible refine (RLong_calls w3 A c rs (Kd.C_below (Kd.C_below (Kd.C_below hA.out hb1.out) hb2.out) hb3.out) hlen _ rfl).mono ?_); rintro e w4 ⟨rfl, hb4⟩; replace hb4 := Lib.hid hb4; replace H0 := ()))
  generalize rlF rs = rl at *
  go_wp2_with (first
    | (go_at_call 73; (with_reducible refine (RLong_calls w4 Au cu ts (Kd.C_below huC.out hb4.out) hlt _ rfl).mono ?_); rintro e w5 ⟨rfl, hb5⟩; replace hb5 := Lib.hid hb5; generalize rlF ts = rl2)
    | ((with_reducible refine gate_dst (N := 27) rfl ?_); refine box_event ?hg (N := 27) ?hd (cs := #[.int .i64 rl, .int .i64 rl2, .pointer (some ⟨rb, 0, none⟩), .pointer none]) (t := 146) ?hr ?_; (case hd => rfl); (case hg => rfl); (case hr => first | (go_simp; done) | (go_simp; rfl)); intro gb hgb w6 hbox hb6; replace hbox := Lib.hid hbox; replace hb6 := Lib.hid hb6; replace hgb := Lib.hid hgb)
    | (go_at_call 70; (with_reducible refine (Of_calls w6 Au cu ts (Kd.C_below (Kd.C_below (Kd.C_below huC.out hb4.out) hb5.out) hb6.out) huc (by rw [← hts.out]; exact hG.out.turn) _ rfl).mono ?_); rintro e w7 ⟨wb, rfl, hT7, hb7⟩; have hbl := blk_below hbox.out hb7; have c3 := blk_cell hbl 3; have f3 := blk_frozen hbl 3; replace c3 : w7.cell? ⟨gb, 3, none⟩ = some (.pointer none) := c3.trans rfl; rw [← hts.out] at hT7; replace hT7 := Lib.hid hT7; replace hb7 := Lib.hid hb7; replace hbl := Lib.hid hbl))
  go_ret2
  have h16 := below_step (below_step (below_step (below_step hb2.out hb3.out) hb4.out) hb5.out) hb6.out
  exact tab_end hb1.out hT1.out h16 hbox.out (by rw [hgb.out]; exact (below_step (below_step (below_step hb2.out hb3.out) hb4.out) hb5.out).size) hb7.out hT7.out
end Go.Proofs.YtnfjgopcenpblaaGreatDoor.T
