/- The walk of layer 8's law WttCheck: it returns true; no condition but what a row hands on. -/
import Derived.Test.YtcllfndmafkgiaaWtt4
namespace Go.Proofs.Ytcllfndmafkgiaa.Th
open Go.RowKit
set_option linter.unusedVariables false
/-- a store into an owned row -/
theorem owns_set {k : IntKind} {w : World} {base : Nat} {e : TypeId} {g n cap : Nat} {l : List Int} (h : Owns k w base e (.slice (some ⟨g, 0, none⟩) n cap) l) {i : Nat} (hi : i < l.length) (x : Int) :
    Owns k (w.setCell ⟨g, i, none⟩ (.int k x)) base e (.slice (some ⟨g, 0, none⟩) n cap) (l.set i x) := by
  obtain ⟨_, h⟩ := h
  rcases h with ⟨h, _⟩ | ⟨g', cap', cur, hv, hb, hg, hn, hm, hc, ht⟩
  · cases h
  · injection hv with h1 h2 h3
    injection h1 with h1
    injection h1 with h1
    subst h1 h2 h3
    refine ⟨by simp, .inr ⟨g, cap, cur.setIfInBounds i (.int k x), by simp, hb, by rw [heap_setCell_same w g i cur e _ hg], by simpa using hn, hm, by simpa using hc, ?_⟩⟩
    rw [Array.toList_setIfInBounds, List.take_set, List.length_set, ht, List.map_set]
theorem owns_cell {k : IntKind} {w : World} {base : Nat} {e : TypeId} {g n cap : Nat} {l : List Int} (h : Owns k w base e (.slice (some ⟨g, 0, none⟩) n cap) l) {i : Nat} (hi : i < l.length) :
    w.cell? ⟨g, i, none⟩ = some (.int k (l.getD i 0)) ∧ w.frozen? ⟨g, i, none⟩ = false ∧ base ≤ g := by
  obtain ⟨a, c, hv, hr⟩ := h.at
  injection hv with h1 h2 h3
  subst h1
  rcases hr with h0 | ⟨b, off, h0, hc⟩
  · subst h0; simp at hi
  · injection h0 with h0
    injection h0 with h0 h4
    subst h0 h4
    have := hc i hi
    rw [Nat.zero_add] at this
    refine ⟨this, ?_, ?_⟩
    · obtain ⟨_, h⟩ := h
      rcases h with ⟨h, _⟩ | ⟨g', cap', cur, hv, hb, hg, _⟩
      · cases h
      · injection hv with h1
        injection h1 with h1
        injection h1 with h1
        subst h1
        simp [World.frozen?, hg]
    · exact (World.ownsRow.lt h g rfl).1
theorem owns_shape {k : IntKind} {w : World} {base : Nat} {e : TypeId} {v : Value} {l : List Int} (h : Owns k w base e v l) (h0 : 0 < l.length) : ∃ g cap, v = .slice (some ⟨g, 0, none⟩) l.length cap ∧ base ≤ g := by
  obtain ⟨_, h⟩ := h
  rcases h with ⟨_, h⟩ | ⟨g', cap', cur, hv, hb, _⟩
  · omega
  · exact ⟨g', cap', hv, hb⟩
theorem owns_keep {k : IntKind} {w w' : World} {base : Nat} {e : TypeId} {v : Value} {l : List Int} (h : Owns k w base e v l) (hb : Below w.heap.size w w') : Owns k w' base e v l := by
  obtain ⟨h1, h⟩ := h
  refine ⟨h1, ?_⟩
  rcases h with h | ⟨g, cap, cur, hv, hbg, hg, r⟩
  · exact .inl h
  · have hlt : g < w.heap.size := by
      by_cases hh : g < w.heap.size
      · exact hh
      · rw [Array.getElem?_eq_none (by omega)] at hg; cases hg
    exact .inr ⟨g, cap, cur, hv, hbg, by rw [hb.block g hlt]; exact hg, r⟩
def tr (c : Int) : Int := 161 + c % 91
def upd (l : List Int) (k : Nat) : List Int := (l.take k).map tr ++ l.drop k
theorem upd_zero (l : List Int) : upd l 0 = l := by simp [upd]
theorem upd_len (l : List Int) (k : Nat) : (upd l k).length = l.length := by simp [upd]; omega
theorem upd_get {l : List Int} {k : Nat} (h : k < l.length) : (upd l k).getD k 0 = l.getD k 0 := by
  simp [upd, List.getElem?_append, Nat.min_eq_left (Nat.le_of_lt h)]
theorem upd_succ {l : List Int} {k : Nat} (h : k < l.length) : upd l (k + 1) = (upd l k).set k (tr (l.getD k 0)) := by
  unfold upd
  have hm : ((l.take k).map tr).length = k := by simp; omega
  rw [List.set_append_right _ _ (by omega), hm, Nat.sub_self, List.take_succ_eq_append_getElem h, List.map_append, List.drop_eq_getElem_cons h, List.append_assoc]
  have e : l.getD k 0 = l[k] := by simp [h]
  rw [e]
  rfl
theorem upd_bytes {l : List Int} (h : Bytes l) (k : Nat) : Bytes (upd l k) := by
  intro n hn
  rcases List.mem_append.1 hn with h1 | h1
  · obtain ⟨m, hm, rfl⟩ := List.mem_map.1 h1
    have := h m (List.mem_of_mem_take hm)
    unfold tr; omega
  · exact h n (List.mem_of_mem_drop h1)
attribute [local irreducible] upd badOf
attribute [irreducible] tr
theorem two_cells (w : World) (x y : Value) (t : TypeId) : (w.alloc (.cells #[x, y] t)).cell? ⟨w.heap.size, 0, none⟩ = some x ∧ (w.alloc (.cells #[x, y] t)).cell? ⟨w.heap.size, 1, none⟩ = some y :=
  ⟨cell_new w _ t 0 _ rfl, cell_new w _ t 1 _ rfl⟩
theorem four_cells (w : World) (v : Int) (k : Nat) (h : k < 4) : ∃ m : Int, (w.alloc (.cells #[.int .i64 v, .int .i64 0, .int .i64 1, .int .i64 2] 41)).cell? ⟨w.heap.size, k, none⟩ = some (.int .i64 m) := by
  rcases k with _ | _ | _ | _ | k
  · exact ⟨v, cell_new w _ 41 0 _ rfl⟩
  · exact ⟨0, cell_new w _ 41 1 _ rfl⟩
  · exact ⟨1, cell_new w _ 41 2 _ rfl⟩
  · exact ⟨2, cell_new w _ 41 3 _ rfl⟩
  · omega
set_option maxRecDepth 100000 in
set_option maxHeartbeats 1000000 in
theorem wttCheck_walk (a : Option Addr) (cap : Nat) (l : List Int) (v : Int) (w : World) (hr : RowAt .u8 w a l) (hB : Bytes l) (hs : l.length ≤ 140737488351232) (v0 : -128 ≤ v) (v1 : v < 128) :
    Calls Try.prog 10 #[.slice a l.length cap, .int .i8 v] w fun e w' => e = .returned (.bool true) ∧ Below w.heap.size w w' := by
  obtain ⟨i5, hi, hz, hz1, hz2⟩ := info_parts info5
  go_enter Try.func10, Try.ntmps10
  go_wp2_with fail
  refine (awake21 _).mono ?_
  rintro e w1 ⟨rfl, b1⟩
  have HR := Lib.hid (hr.keep b1)
  have B1 := Lib.hid b1
  have H0 := Lib.hid hr
  clear b1 hr
  go_wp2_with (first
    | (at_builtin
       refine wpList_append_row rfl (.const (.slice none 0 0)) (.tmp 14) 43 rfl w 5 i5 _ 1 Try.underlying43 hi hz hz1 hz2 rfl .u8 B1.out (.slice none 0 0) [] rfl (Owns.nil _ _ _ _) a cap l rfl HR.out (by simp [maxLen]; omega) (by simp; omega) ?_
       intro v3 w3 ho3 hb3
       have HO := Lib.hid ho3
       have HB := Lib.hid hb3
       obtain ⟨a3, c3, rfl, r3⟩ := ho3.at
       clear r3 hb3))
  clear ho3
  go_loopw [18] (fun i wr => ∃ k : Nat, k ≤ l.length ∧ i = .int .i64 k ∧ Owns .u8 wr w.heap.size 5 (.slice a3 l.length c3) (upd l k) ∧ Below w.heap.size w wr) (fun i _ => l.length - (intOf i).toNat)
  case atStart => exact ⟨0, by omega, rfl, by rw [upd_zero]; exact HO.out, HB.out⟩
  case round =>
    clear HO HB
    obtain ⟨k, hk, rfl, ho, hb⟩ := hrel
    have HO := Lib.hid ho
    have HB := Lib.hid hb
    clear ho hb
    by_cases hlt : k < l.length
    · obtain ⟨g, c4, hv, hg⟩ := owns_shape HO.out (by rw [upd_len]; omega)
      injection hv with e1 e2 e3
      subst e1
      clear e2 e3
      obtain ⟨x0, x1⟩ := hB.at k
      obtain ⟨cc, cf, cg⟩ := owns_cell HO.out (i := k) (by rw [upd_len]; omega)
      rw [upd_get hlt] at cc
      have HT : Hid (tr (l.getD k 0) = 161 + l.getD k 0 % 91) := by unfold tr; rfl
      have HU := Lib.hid (upd_succ hlt)
      have HS := Lib.hid (owns_set HO.out (i := k) (by rw [upd_len]; omega) (161 + l.getD k 0 % 91))
      have HC := Lib.hid (HB.out.setCell (p := ⟨g, k, none⟩) cg (.int .u8 (161 + l.getD k 0 % 91)))
      generalize l.getD k 0 = x at *
      go_wp2
      go_roundw
      case rel => exact ⟨k + 1, by omega, by go_num, by rw [HU.out, HT.out]; exact HS.out, HC.out⟩
      case measure => simp [intOf]; omega
    · obtain rfl : k = l.length := by omega
      obtain ⟨wo, rfl⟩ : ∃ wo : World, wo = wr := ⟨_, rfl⟩
      have HX : Hid (RowAt .u8 wo a3 (upd l l.length)) := by
        obtain ⟨a', c', hv, hx⟩ := HO.out.at
        injection hv with e1 e2 e3
        subst e1
        exact hx
      have HA := Lib.hid (H0.out.keep HB.out)
      go_wp2_with fail
      obtain ⟨t0, t1⟩ := two_cells wo (.slice a l.length cap) (.slice a3 l.length c3) 43
      have hW : Below wo.heap.size wo (wo.alloc (.cells #[.slice a l.length cap, .slice a3 l.length c3] 43)) := (Below.refl _ _).alloc (Nat.le_refl _) _
      have HZ : Hid ((wo.alloc (.cells #[.slice a l.length cap, .slice a3 l.length c3] 43)).heap.size = wo.heap.size + 1) := by show _ = _; simp
      have HW := Lib.hid (HB.out.trans (hW.mono HB.out.size))
      have HA2 := Lib.hid (HA.out.keep hW)
      have HX2 := Lib.hid (HX.out.keep hW)
      clear hW
      generalize wo.alloc (.cells #[.slice a l.length cap, .slice a3 l.length c3] 43) = W0 at *
      have HY : Hid (∀ j, j < 2 → ∃ A C L, W0.cell? ⟨wo.heap.size, j, none⟩ = some (.slice A l.length C) ∧ L.length = l.length ∧ RowAt .u8 W0 A L ∧ Bytes L) := by
        intro j hj
        rcases j with _ | _ | j
        · exact ⟨a, cap, l, t0, rfl, HA2.out, hB⟩
        · exact ⟨a3, c3, upd l l.length, t1, upd_len _ _, HX2.out, upd_bytes hB _⟩
        · omega
      clear t0 t1 HA2 HX2 HA HX HO
      go_loopw [34] (fun i w2 => ∃ j : Nat, j ≤ 2 ∧ i = .int .i64 j ∧ Below W0.heap.size W0 w2) (fun i _ => 2 - (intOf i).toNat)
      case atStart => exact ⟨0, by omega, rfl, Below.refl _ _⟩
      case round =>
        obtain ⟨w2, rfl⟩ : ∃ w2 : World, w2 = wr := ⟨_, rfl⟩
        obtain ⟨j, hj, rfl, hb2⟩ := hrel
        have HB2 := Lib.hid hb2
        clear hb2
        by_cases hjl : j < 2
        · obtain ⟨A, C, L, hcell, hL, hrow, hbytes⟩ := HY.out j hjl
          have d0 : w2.cell? ⟨wo.heap.size, j, none⟩ = some (.slice A l.length C) := by rw [HB2.out.cell (by have := HZ.out; simp; omega)]; exact hcell
          have HR2 := Lib.hid (hrow.keep HB2.out)
          have HLL := Lib.hid hL
          clear hcell hL hrow
          have hjd : decide ((j : Int) < 2) = true := by simp; omega
          go_wp2_with fail
          have RC := Lib.hid (four_cells w2 v)
          have hb4 : Below W0.heap.size W0 (w2.alloc (.cells #[.int .i64 v, .int .i64 0, .int .i64 1, .int .i64 2] 41)) := HB2.out.alloc HB2.out.size _
          have HZ4 : Hid ((w2.alloc (.cells #[.int .i64 v, .int .i64 0, .int .i64 1, .int .i64 2] 41)).heap.size = w2.heap.size + 1) := by show _ = _; simp
          have HR4 := Lib.hid (HR2.out.keep ((Below.refl w2.heap.size w2).alloc (Nat.le_refl _) (.cells #[.int .i64 v, .int .i64 0, .int .i64 1, .int .i64 2] 41)))
          have HB4 := Lib.hid hb4
          clear hb4
          generalize w2.alloc (.cells #[.int .i64 v, .int .i64 0, .int .i64 1, .int .i64 2] 41) = W4 at *
          go_loopw [42] (fun i w4 => ∃ q : Nat, q ≤ 4 ∧ i = .int .i64 q ∧ Below W4.heap.size W4 w4) (fun i _ => 4 - (intOf i).toNat)
          case atStart => exact ⟨0, by omega, rfl, Below.refl _ _⟩
          case round =>
            obtain ⟨w4, rfl⟩ : ∃ w4 : World, w4 = wr := ⟨_, rfl⟩
            obtain ⟨q, hq, rfl, hb5⟩ := hrel
            have HB5 := Lib.hid hb5
            clear hb5
            by_cases hql : q < 4
            · obtain ⟨m, hm⟩ := RC.out q hql
              have d1 : w4.cell? ⟨w2.heap.size, q, none⟩ = some (.int .i64 m) := by rw [HB5.out.cell (by have := HZ4.out; simp; omega)]; exact hm
              clear hm
              have HR5 := Lib.hid (HR4.out.keep HB5.out)
              go_wp2_with fail
              refine (check26n A C L l.length HLL.out m _ HR5.out hbytes (by rw [HLL.out]; omega)).mono ?_
              rintro e w6 ⟨rfl, hb6⟩
              have HR6 := Lib.hid (HR5.out.keep hb6)
              have HB6 := Lib.hid (HB5.out.trans (hb6.mono HB5.out.size))
              clear hb6
              go_wp2_with fail
              refine (check27n A C L l.length HLL.out m _ HR6.out hbytes (by rw [HLL.out]; omega)).mono ?_
              rintro e w7 ⟨rfl, hb7⟩
              have HB7 := Lib.hid (HB6.out.trans (hb7.mono HB6.out.size))
              clear hb7
              go_wp2
              go_roundw
              case rel => exact ⟨q + 1, by omega, by go_num, HB7.out⟩
              case measure => simp [intOf]; omega
            · obtain rfl : q = 4 := by omega
              have HE := Lib.hid (HB4.out.trans (HB5.out.mono HB4.out.size))
              go_wp2
              go_roundw
              case rel => exact ⟨j + 1, by omega, by go_num, HE.out⟩
              case measure => simp [intOf]; omega
        · obtain rfl : j = 2 := by omega
          have hfin := HW.out.trans (HB2.out.mono (HW.out.size))
          go_wp2
          go_ret
          exact ⟨rfl, hfin⟩
theorem wttCheck_row (w : World) (a : Option Addr) (cap : Nat) (l : List Int) (hr : RowAt .u8 w a l) (hs : l.length * 1 ≤ 140737488351232) (hf : ∀ n ∈ l, (Lit.int .u8 n).wf = true) (v : Int) (h2 : (Lit.int .i8 v).wf = true) :
    Calls Try.prog 10 #[.slice a l.length cap, .int .i8 v] w fun e w' => e = .returned (.bool true) ∧ Below w.heap.size w w' :=
  wttCheck_walk a cap l v w hr (bytes_of hf) (by omega) (bd_i8 h2).1 (bd_i8 h2).2
end Go.Proofs.Ytcllfndmafkgiaa.Th
