/- The walk of layer 8's law WttChecker: it returns true; no condition but what a row hands on. -/
import Derived.Test.YtcllfndmafkgiaaWtt5
namespace Go.Proofs.Ytcllfndmafkgiaa.Th
open Go.RowKit
set_option linter.unusedVariables false
theorem getD_snoc_last {L : List Int} {x : Int} : (L ++ [x]).getD L.length 0 = x := by simp
theorem badOf_nil (v : Int) : badOf [] v = -1 := badOf_none (fun j hj => by simp at hj)
theorem next_if (lv last at_ bd x : Int) : next lv last at_ bd x = if bd < 0 ∧ 0 < at_ ∧ mayB last x lv = false then at_ else bd := by unfold next; rfl
/-- the checker's step is the check of one byte more -/
theorem next_is (L : List Int) (x lv last : Int) (hl : L = [] ∨ last = L.getD (L.length - 1) 0) : next lv last L.length (badOf L lv) x = badOf (L ++ [x]) lv := by
  rw [next_if]
  by_cases hb : badOf L lv < 0
  · rcases badOf_cases L lv with ⟨e, ok⟩ | ⟨j, e, _⟩
    · by_cases h0 : L = []
      · subst h0
        rw [if_neg (fun h => by simp at h)]
        rw [badOf_nil, badOf_none (fun j hj => by simp at hj)]
      · have hpos : 0 < L.length := by
          rcases L with _ | ⟨y, ys⟩
          · exact absurd rfl h0
          · simp
        have hlast : last = L.getD (L.length - 1) 0 := by
          rcases hl with h | h
          · exact absurd h h0
          · exact h
        have hgl : (L ++ [x]).getD (L.length - 1) 0 = last := by rw [getD_app (by omega), hlast]
        have hgx : (L ++ [x]).getD (L.length - 1 + 1) 0 = x := by rw [show L.length - 1 + 1 = L.length by omega]; exact getD_snoc_last
        cases hm : mayB last x lv with
        | false =>
          rw [if_pos ⟨hb, by omega, rfl⟩]
          have := badOf_at (l := L ++ [x]) (v := lv) (j := L.length - 1) (by simp; omega) (ok_app (by omega) (fun j hj => ok j (by omega))) (by rw [hgl, hgx]; exact hm)
          rw [this]; omega
        | true =>
          rw [if_neg (fun h => by cases h.2.2), e]
          refine (badOf_none (fun j hj => ?_)).symm
          simp at hj
          by_cases hj2 : j = L.length - 1
          · subst hj2; rw [hgl, hgx]; exact hm
          · rw [getD_app (by omega), getD_app (by omega)]; exact ok j (by omega)
    · rw [e] at hb; omega
  · rw [if_neg (fun h => hb h.1)]
    exact (grows_yes (by omega)).symm
theorem rowAt_take {k : IntKind} {w : World} {a : Option Addr} {l : List Int} (h : RowAt k w a l) (n : Nat) : RowAt k w a (l.take n) := by
  rcases h with h | ⟨b, off, ha, hc⟩
  · subst h; exact .inl (by simp)
  · refine .inr ⟨b, off, ha, fun i hi => ?_⟩
    rw [List.length_take] at hi
    rw [hc i (by omega)]
    simp [show i < n by omega]
theorem upd_take {l : List Int} {k : Nat} (h : k ≤ l.length) : (upd l k).take k = (l.take k).map tr := by
  unfold upd
  have hm : ((l.take k).map tr).length = k := by simp; omega
  rw [List.take_append_of_le_length (by omega), List.take_of_length_le (by omega)]
theorem map_snoc {l : List Int} {k : Nat} (h : k < l.length) : (l.take (k + 1)).map tr = (l.take k).map tr ++ [tr (l.getD k 0)] := by
  rw [List.take_succ_eq_append_getElem h, List.map_append]
  have e : l.getD k 0 = l[k] := by simp [h]
  rw [e]; rfl
theorem upd_at {l : List Int} {k : Nat} (h : k < l.length) : (upd l (k + 1)).getD k 0 = tr (l.getD k 0) := by
  rw [upd_succ h]
  have : k < (upd l k).length := by rw [upd_len]; exact h
  simp [this]
theorem map_bytes {l : List Int} (h : Bytes l) (k : Nat) : Bytes ((l.take k).map tr) := fun n hn => by
  obtain ⟨m, hm, rfl⟩ := List.mem_map.1 hn
  have := h m (List.mem_of_mem_take hm)
  unfold tr; omega
theorem map_len {l : List Int} {k : Nat} (h : k ≤ l.length) : ((l.take k).map tr).length = k := by simp; omega
theorem tr_bd {c : Int} (h0 : 0 ≤ c) (h1 : c < 256) : 0 ≤ tr c ∧ tr c < 256 := by unfold tr; omega
theorem chk_ne {w : World} {b g n cap base : Nat} {lv last at_ bd : Int} {l : List Int} (h : Chk w b lv last at_ bd) (ho : Owns .u8 w base 5 (.slice (some ⟨g, 0, none⟩) n cap) l) (h0 : 0 < l.length) : b ≠ g := by
  rintro rfl
  obtain ⟨_, ho⟩ := ho
  rcases ho with ⟨h1, _⟩ | ⟨g', cap', cur, hv, hb, hg, _⟩
  · cases h1
  · injection hv with h1
    injection h1 with h1
    injection h1 with h1
    subst h1
    unfold Chk at h
    rw [h] at hg
    injection hg with hg
    injection hg with _ hg
    cases hg
theorem chk_far {w : World} {b g i : Nat} {lv last at_ bd : Int} (h : Chk w b lv last at_ bd) (hne : b ≠ g) (u : Value) : Chk (w.setCell ⟨g, i, none⟩ u) b lv last at_ bd := by
  unfold Chk; rw [Below.heap_setCell _ _ _ _ hne]; exact h
theorem owns_grown {k : IntKind} {w w' : World} {base b : Nat} {e : TypeId} {g n cap : Nat} {l : List Int} (h : Owns k w base e (.slice (some ⟨g, 0, none⟩) n cap) l) (hg : w.grownBy w' (some b)) (hne : b ≠ g) : Owns k w' base e (.slice (some ⟨g, 0, none⟩) n cap) l := by
  obtain ⟨h1, h⟩ := h
  refine ⟨h1, ?_⟩
  rcases h with h | ⟨g', cap', cur, hv, hbg, hh, r⟩
  · exact .inl h
  · have e1 : g' = g := by
      injection hv with h1
      injection h1 with h1
      injection h1 with h1
      exact h1.symm
    have hlt : g' < w.heap.size := by
      by_cases hx : g' < w.heap.size
      · exact hx
      · rw [Array.getElem?_eq_none (by omega)] at hh; cases hh
    exact .inr ⟨g', cap', cur, hv, hbg, by rw [hg.block g' hlt (fun e => by injection e with e; omega)]; exact hh, r⟩
theorem owns_base {k : IntKind} {w : World} {base base' : Nat} {e : TypeId} {v : Value} {l : List Int} (h : Owns k w base e v l) (hb : base' ≤ base) : Owns k w base' e v l := by
  obtain ⟨h1, h⟩ := h
  refine ⟨h1, ?_⟩
  rcases h with h | ⟨g, cap, cur, hv, hbg, r⟩
  · exact .inl h
  · exact .inr ⟨g, cap, cur, hv, by omega, r⟩
attribute [local irreducible] upd badOf
/-- what the loop of the law keeps -/
def Kept (w0 wr : World) (a3 : Option Addr) (n c3 b : Nat) (l : List Int) (lv : Int) (k : Nat) : Prop :=
  Owns .u8 wr w0.heap.size 5 (.slice a3 n c3) (upd l k) ∧ Below w0.heap.size w0 wr ∧ w0.heap.size ≤ b ∧
    ∃ last : Int, Chk wr b lv last k (badOf ((l.take k).map tr) lv) ∧ 0 ≤ last ∧ last < 256 ∧ (k = 0 ∨ last = ((l.take k).map tr).getD (k - 1) 0)
theorem Kept.keep {w0 wr w' : World} {a3 : Option Addr} {n c3 b : Nat} {l : List Int} {lv : Int} {k : Nat} (h : Kept w0 wr a3 n c3 b l lv k) (hb : Below wr.heap.size wr w') : Kept w0 w' a3 n c3 b l lv k := by
  obtain ⟨h1, h2, h3, last, h4, h5⟩ := h
  exact ⟨owns_keep h1 hb, cat h2 hb, h3, last, h4.keep hb, h5⟩
theorem put_kept {w0 wr : World} {g n c3 b : Nat} {l : List Int} {lv : Int} {k : Nat} (h : Kept w0 wr (some ⟨g, 0, none⟩) n c3 b l lv k) (hk : k < l.length) (hs : l.length ≤ 140737488351232) (hB : Bytes l) :
    Calls Try.prog 30 #[.pointer (some ⟨b, 0, none⟩), .int .u8 (161 + l.getD k 0 % 91)] (wr.setCell ⟨g, k, none⟩ (.int .u8 (161 + l.getD k 0 % 91))) fun e w' =>
      e = .returned (.bool (decide (badOf ((l.take (k + 1)).map tr) lv < 0))) ∧ Kept w0 w' (some ⟨g, 0, none⟩) n c3 b l lv (k + 1) := by
  obtain ⟨h1, h2, h3, last, h4, h5, h6, h7⟩ := h
  have hpos : 0 < (upd l k).length := by rw [upd_len]; omega
  have hne := chk_ne h4 h1 hpos
  obtain ⟨_, _, hbg⟩ := owns_cell h1 (i := k) (by rw [upd_len]; exact hk)
  have hx : tr (l.getD k 0) = 161 + l.getD k 0 % 91 := by unfold tr; rfl
  have hxb := hB.at k
  have hML := map_len (l := l) (k := k) (by omega)
  have hn : next lv last k (badOf ((l.take k).map tr) lv) (161 + l.getD k 0 % 91) = badOf ((l.take (k + 1)).map tr) lv := by
    have := next_is ((l.take k).map tr) (tr (l.getD k 0)) lv last (by
      rcases h7 with h | h
      · subst h; exact .inl rfl
      · exact .inr (by rw [hML]; exact h))
    rw [hML, hx, ← hx, ← map_snoc hk, hx] at this
    exact this
  refine (put30 b lv last k _ _ _ (chk_far h4 hne _) h5 h6 (by omega) (by omega) (by omega)).mono ?_
  intro e w' ⟨he, hp⟩
  rw [hn] at he hp
  refine ⟨he, ?_, ?_, h3, 161 + l.getD k 0 % 91, ?_, by omega, by omega, .inr ?_⟩
  · rw [upd_succ hk, hx]
    exact owns_grown (owns_set h1 (by rw [upd_len]; exact hk) _) hp.2 hne
  · exact (h2.setCell (p := ⟨g, k, none⟩) hbg _).trans (hp.below h3)
  · exact hp.chk
  · rw [map_snoc hk, Nat.add_sub_cancel]
    have := getD_snoc_last (L := (l.take k).map tr) (x := tr (l.getD k 0))
    rw [hML] at this
    rw [this, hx]
theorem kept_row {w0 wr : World} {g n c3 b : Nat} {l : List Int} {lv : Int} {k : Nat} (h : Kept w0 wr (some ⟨g, 0, none⟩) n c3 b l lv k) (hk : k ≤ l.length) : RowAt .u8 wr (some ⟨g, 0, none⟩) ((l.take k).map tr) := by
  obtain ⟨h1, _⟩ := h
  obtain ⟨a', c', hv, hx⟩ := h1.at
  injection hv with e1 e2 e3
  subst e1
  rw [← upd_take hk]
  exact rowAt_take hx k
theorem kept_shape {w0 wr : World} {a3 : Option Addr} {n c3 b : Nat} {l : List Int} {lv : Int} {k : Nat} (h : Kept w0 wr a3 n c3 b l lv k) (hk : k < l.length) :
    ∃ g, a3 = some ⟨g, 0, none⟩ ∧ wr.cell? ⟨g, k, none⟩ = some (.int .u8 (l.getD k 0)) ∧ wr.frozen? ⟨g, k, none⟩ = false ∧ l.length ≤ c3 := by
  obtain ⟨h1, _⟩ := h
  have h1' := h1
  obtain ⟨_, h⟩ := h1'
  rcases h with ⟨_, h⟩ | ⟨g', cap', cur, hv, hbb, hg, hnc, _⟩
  · rw [upd_len] at h; omega
  · injection hv with e1 e2 e3
    subst e1 e3
    obtain ⟨c0, c1, _⟩ := owns_cell h1 (i := k) (by rw [upd_len]; exact hk)
    rw [upd_get hk] at c0
    rw [upd_len] at hnc
    exact ⟨g', rfl, c0, c1, hnc⟩
theorem kept_bad {w0 wr : World} {a3 : Option Addr} {n c3 b : Nat} {l : List Int} {lv : Int} {k : Nat} (h : Kept w0 wr a3 n c3 b l lv k) : Calls Try.prog 29 #[.pointer (some ⟨b, 0, none⟩)] wr fun e w' => e = .returned (.int .i64 (badOf ((l.take k).map tr) lv)) ∧ wr = w' := by
  obtain ⟨_, _, _, last, h4, _⟩ := h
  exact bad29 b lv last k _ wr h4
theorem kept_below {w0 wr : World} {a3 : Option Addr} {n c3 b : Nat} {l : List Int} {lv : Int} {k : Nat} (h : Kept w0 wr a3 n c3 b l lv k) : Below w0.heap.size w0 wr := h.2.1
theorem kept_zero {w0 wr : World} {a3 : Option Addr} {c3 b : Nat} {l : List Int} {lv : Int} (h1 : Owns .u8 wr w0.heap.size 5 (.slice a3 l.length c3) l) (h2 : Below w0.heap.size w0 wr) (h3 : w0.heap.size ≤ b) (h4 : Chk wr b lv 0 0 (-1)) : Kept w0 wr a3 l.length c3 b l lv 0 := by
  refine ⟨by rw [upd_zero]; exact h1, h2, h3, 0, ?_, by omega, by omega, .inl rfl⟩
  have : badOf ((l.take 0).map tr) lv = -1 := by
    rw [List.take_zero]; exact badOf_nil lv
  rw [this]; exact h4
attribute [irreducible] Kept
set_option maxRecDepth 100000 in
set_option maxHeartbeats 1000000 in
theorem wttChecker_walk (a : Option Addr) (cap : Nat) (l : List Int) (v : Int) (w : World) (hr : RowAt .u8 w a l) (hB : Bytes l) (hs : l.length ≤ 140737488351232) (v0 : -128 ≤ v) (v1 : v < 128) :
    Calls Try.prog 11 #[.slice a l.length cap, .int .i8 v] w fun e w' => e = .returned (.bool true) ∧ Below w.heap.size w w' := by
  obtain ⟨i5, hi, hz, hz1, hz2⟩ := info_parts info5
  go_enter Try.func11, Try.ntmps11
  go_wp2_with fail
  refine (awake21 _).mono ?_
  rintro e w1 ⟨rfl, b1⟩
  have B1 := Lib.hid b1
  have H0 := Lib.hid hr
  clear b1 hr
  go_wp2_with fail
  refine (of28 _ _).mono ?_
  rintro e w2 ⟨rfl, hc, hb2⟩
  have HC := Lib.hid hc
  have HB2 := Lib.hid (cat B1.out hb2)
  have HBB := Lib.hid B1.out.size
  clear hc hb2
  go_wp2_with fail
  refine (bad29 _ _ _ _ _ _ HC.out).mono ?_
  rintro e w' ⟨rfl, rfl⟩
  have HR := Lib.hid (H0.out.keep HB2.out)
  go_wp2_with (first
    | (at_builtin
       refine wpList_append_row rfl (.const (.slice none 0 0)) (.tmp 23) 43 rfl w2 5 i5 _ 1 Try.underlying43 hi hz hz1 hz2 rfl .u8 (Below.refl _ _) (.slice none 0 0) [] rfl (Owns.nil _ _ _ _) a cap l rfl HR.out (by simp [maxLen]; omega) (by simp; omega) ?_
       intro v3 w3 ho3 hb3
       have HO := Lib.hid (owns_base ho3 HB2.out.size)
       have HB := Lib.hid (cat HB2.out hb3)
       have HC3 := Lib.hid (HC.out.keep hb3)
       obtain ⟨a3, c3, rfl, r3⟩ := ho3.at
       clear r3 hb3))
  clear ho3
  have HK : Hid (Kept w w3 a3 l.length c3 w1.heap.size l (wrap64 (v.tmod 3)) 0) := kept_zero HO.out HB.out HBB.out HC3.out
  clear HO HB HC HB2 HR H0
  go_loopw [27] (fun i wr => ∃ k : Nat, k ≤ l.length ∧ i = .int .i64 k ∧ Kept w wr a3 l.length c3 w1.heap.size l (wrap64 (v.tmod 3)) k) (fun i _ => l.length - (intOf i).toNat)
  case atStart => exact ⟨0, by omega, rfl, HK.out⟩
  case round =>
    clear HK
    obtain ⟨k, hk, rfl, hkp⟩ := hrel
    have HK := Lib.hid hkp
    clear hkp
    by_cases hlt : k < l.length
    · obtain ⟨g, rfl, c0, c1, hc3⟩ := kept_shape HK.out hlt
      obtain ⟨x0, x1⟩ := hB.at k
      have HP := Lib.hid (put_kept HK.out hlt hs hB)
      have hkc : (k : Int) + 1 ≤ (c3 : Int) := by omega
      generalize l.getD k 0 = y at *
      go_wp2_with fail
      refine (HP.out).mono ?_
      rintro e w5 ⟨rfl, hk5⟩
      have HK5 := Lib.hid hk5
      clear hk5 HP HK
      generalize hq : badOf (List.map tr (List.take (k + 1) l)) (wrap64 (v.tmod 3)) = q
      have HQ := Lib.hid hq
      clear hq
      have HRR := Lib.hid (kept_row HK5.out (by omega))
      go_wp2_with fail
      have C := check27n (some ⟨g, 0, none⟩) c3 ((l.take (k + 1)).map tr) (k + 1) (map_len (by omega)) (wrap64 (v.tmod 3)) w5 HRR.out (map_bytes hB _) (by rw [map_len (by omega)]; omega)
      rw [HQ.out] at C
      refine C.mono ?_
      rintro e w6 ⟨rfl, hb6⟩
      have HK6 := Lib.hid (HK5.out.keep hb6)
      clear hb6 HRR HK5 C
      go_wp2_with fail
      have D := kept_bad HK6.out
      rw [HQ.out] at D
      refine D.mono ?_
      rintro e w7 ⟨rfl, rfl⟩
      clear D
      go_wp2
      go_roundw
      case rel => exact ⟨k + 1, by omega, by go_num, HK6.out⟩
      case measure => simp [intOf]; omega
    · obtain rfl : k = l.length := by omega
      have hfin := kept_below HK.out
      go_wp2
      go_ret
      exact ⟨rfl, hfin⟩
theorem wttChecker_row (w : World) (a : Option Addr) (cap : Nat) (l : List Int) (hr : RowAt .u8 w a l) (hs : l.length * 1 ≤ 140737488351232) (hf : ∀ n ∈ l, (Lit.int .u8 n).wf = true) (v : Int) (h2 : (Lit.int .i8 v).wf = true) :
    Calls Try.prog 11 #[.slice a l.length cap, .int .i8 v] w fun e w' => e = .returned (.bool true) ∧ Below w.heap.size w w' :=
  wttChecker_walk a cap l v w hr (bytes_of hf) (by omega) (bd_i8 h2).1 (bd_i8 h2).2
end Go.Proofs.Ytcllfndmafkgiaa.Th
