/- The walk of layer 8's law WttParts: it returns true where both parts together are no longer than 2^47 bytes. -/
import Derived.Test.YtcllfndmafkgiaaWtt6
namespace Go.Proofs.Ytcllfndmafkgiaa.Th
open Go.RowKit
set_option linter.unusedVariables false
theorem getD_app2 {l m : List Int} {j : Nat} : (l ++ m).getD (l.length + j) 0 = m.getD j 0 := by
  simp [List.getElem?_append_right]
theorem ok_of_app_left {l m : List Int} {v : Int} (h : OkUpto (l ++ m) v (l ++ m).length) : OkUpto l v l.length := fun j hj => by
  have := h j (by simp; omega)
  rwa [getD_app (by omega), getD_app (by omega)] at this
theorem ok_of_app_right {l m : List Int} {v : Int} (h : OkUpto (l ++ m) v (l ++ m).length) : OkUpto m v m.length := fun j hj => by
  have := h (l.length + j) (by simp; omega)
  rwa [getD_app2, Nat.add_assoc, getD_app2] at this
/-- the join of two parts -/
def joinB (l m : List Int) (v : Int) : Bool := decide (l.length = 0) || (decide (m.length = 0) || mayB (l.getD (l.length - 1) 0) (m.getD 0 0) v)
theorem ok_join {l m : List Int} {v : Int} (h : OkUpto (l ++ m) v (l ++ m).length) : joinB l m v = true := by
  unfold joinB
  by_cases h1 : l.length = 0
  · simp [h1]
  · by_cases h2 : m.length = 0
    · simp [h2]
    · have := h (l.length - 1) (by simp; omega)
      rw [getD_app (by omega), show l.length - 1 + 1 = l.length + 0 by omega, getD_app2] at this
      rw [this]; simp
theorem ok_both {l m : List Int} {v : Int} (h1 : OkUpto l v l.length) (h2 : OkUpto m v m.length) (hj : joinB l m v = true) : OkUpto (l ++ m) v (l ++ m).length := fun j hjl => by
  rw [List.length_append] at hjl
  by_cases ha : j + 1 < l.length
  · rw [getD_app (by omega), getD_app (by omega)]; exact h1 j ha
  · by_cases hb : l.length ≤ j
    · obtain ⟨i, rfl⟩ : ∃ i, j = l.length + i := ⟨j - l.length, by omega⟩
      rw [getD_app2, Nat.add_assoc, getD_app2]
      exact h2 i (by omega)
    · have q1 : decide (l.length = 0) = false := decide_eq_false (by omega)
      have q2 : decide (m.length = 0) = false := decide_eq_false (by omega)
      have e1 : j = l.length - 1 := by omega
      have e2 : j + 1 = l.length + 0 := by omega
      rw [getD_app (by omega), e2, getD_app2, e1]
      unfold joinB at hj
      rw [q1, q2] at hj
      simpa using hj
theorem bad_neg {l : List Int} {v : Int} : (badOf l v < 0 ∧ OkUpto l v l.length) ∨ (0 < badOf l v ∧ badOf l v < l.length ∧ ¬ OkUpto l v l.length) := by
  rcases badOf_cases l v with ⟨a, b⟩ | ⟨j, a, b, _, d⟩
  · exact .inl ⟨by omega, b⟩
  · exact .inr ⟨by omega, by omega, fun h => by rw [h j b] at d; cases d⟩
theorem parts_cases (l m : List Int) (v : Int) :
    (badOf (l ++ m) v < 0 ∧ badOf l v < 0 ∧ badOf m v < 0 ∧ joinB l m v = true) ∨
    ((0 < badOf (l ++ m) v ∧ badOf (l ++ m) v < l.length + m.length) ∧ (0 ≤ badOf l v ∨ (badOf l v < 0 ∧ 0 ≤ badOf m v) ∨ (badOf l v < 0 ∧ badOf m v < 0 ∧ joinB l m v = false))) := by
  rcases bad_neg (l := l ++ m) (v := v) with ⟨a, ok⟩ | ⟨a, b, nok⟩
  · refine .inl ⟨a, ?_, ?_, ok_join ok⟩
    · rcases bad_neg (l := l) (v := v) with ⟨p, _⟩ | ⟨_, _, p⟩
      · exact p
      · exact absurd (ok_of_app_left ok) p
    · rcases bad_neg (l := m) (v := v) with ⟨p, _⟩ | ⟨_, _, p⟩
      · exact p
      · exact absurd (ok_of_app_right ok) p
  · refine .inr ⟨⟨a, by rw [List.length_append] at b; omega⟩, ?_⟩
    rcases bad_neg (l := l) (v := v) with ⟨p, okl⟩ | ⟨p, _, _⟩
    · rcases bad_neg (l := m) (v := v) with ⟨q, okm⟩ | ⟨q, _, _⟩
      · cases hj : joinB l m v with
        | false => exact .inr (.inr ⟨p, q, rfl⟩)
        | true => exact absurd (ok_both okl okm hj) nok
      · exact .inr (.inl ⟨p, by omega⟩)
    · exact .inl (by omega)
theorem join_a {l m : List Int} {v : Int} (h : l.length = 0) : joinB l m v = true := by unfold joinB; simp [h]
theorem join_b {l m : List Int} {v : Int} (h : m.length = 0) : joinB l m v = true := by unfold joinB; simp [h]
theorem join_c {l m : List Int} {v : Int} (h : l.length ≠ 0) (h2 : m.length ≠ 0) : joinB l m v = mayB (l.getD (l.length - 1) 0) (m.getD 0 0) v := by unfold joinB; simp [h, h2]
attribute [local irreducible] badOf
attribute [irreducible] joinB
set_option maxRecDepth 100000 in
set_option maxHeartbeats 1000000 in
theorem wttParts_walk (a : Option Addr) (cap : Nat) (l : List Int) (a' : Option Addr) (cap' : Nat) (m : List Int) (v : Int) (w : World) (hr : RowAt .u8 w a l) (hr' : RowAt .u8 w a' m) (hB : Bytes l) (hB' : Bytes m) (hs : l.length + m.length ≤ 140737488355328) (v0 : -128 ≤ v) (v1 : v < 128) :
    Calls Try.prog 12 #[.slice a l.length cap, .slice a' m.length cap', .int .i8 v] w fun e w' => e = .returned (.bool true) ∧ Below w.heap.size w w' := by
  obtain ⟨i5, hi, hz, hz1, hz2⟩ := info_parts info5
  go_enter Try.func12, Try.ntmps12
  go_wp2_with fail
  refine (awake21 _).mono ?_
  rintro e w1 ⟨rfl, b1⟩
  have HR := Lib.hid (hr.keep b1)
  have H0 := Lib.hid hr
  have H1 := Lib.hid hr'
  have B1 := Lib.hid b1
  clear b1 hr hr'
  go_wp2_with (first
    | (at_builtin
       refine wpList_append_row rfl (.const (.slice none 0 0)) (.tmp 15) 43 rfl w 5 i5 _ 1 Try.underlying43 hi hz hz1 hz2 rfl .u8 B1.out (.slice none 0 0) [] rfl (Owns.nil _ _ _ _) a cap l rfl HR.out (by simp [maxLen]; omega) (by simp; omega) ?_
       intro v3 w3 ho3 hb3
       have HR3 := Lib.hid (H1.out.keep hb3))
    | (at_builtin
       refine wpList_append_row rfl (.tmp 16) (.tmp 17) 43 rfl w 5 i5 _ 1 Try.underlying43 hi hz hz1 hz2 rfl .u8 hb3 v3 ([] ++ l) rfl ho3 a' cap' m rfl HR3.out (by simp [maxLen]; omega) (by simp; omega) ?_
       intro v4 w4 ho4 hb4
       obtain ⟨a4, k4, rfl, r4⟩ := ho4.at))
  have C := check26n a4 k4 (l ++ m) (l.length + m.length) (by simp) (wrap64 (v.tmod 3)) w4 r4 (hB.app hB') (by simp; omega)
  refine C.mono ?_
  rintro e w5 ⟨rfl, hb5⟩
  clear C r4 ho4 ho3
  have HB := Lib.hid (hb4.trans (hb5.mono hb4.size))
  clear hb5 hb4 hb3 HR3 HR
  have HPC := Lib.hid (parts_cases l m (wrap64 (v.tmod 3)))
  generalize hall : badOf (l ++ m) (wrap64 (v.tmod 3)) = all at *
  clear hall
  go_wp2_with fail
  by_cases h1 : l.length = 0
  · have e1 : ((l.length : Int) == 0) = true := beq_iff_eq.2 (by omega)
    have HJ := Lib.hid (join_a (m := m) (v := wrap64 (v.tmod 3)) h1)
    clear h1
    go_quiet (fail)
    rename_i nq
    have HX := Lib.hid (dN HB.out nq)
    rcases HPC.out with ⟨h1, h2, h3, h4⟩ | ⟨⟨q1, q2⟩, h | ⟨h, h'⟩ | ⟨h, h', h''⟩⟩
    · clear HPC h4
      go_wp2_with fail
      refine (check26 a cap l _ _ (H0.out.keep HX.out) hB (by omega)).mono ?_
      rintro e w6 ⟨rfl, hb6⟩
      have HX6 := Lib.hid (HX.out.trans (hb6.mono HX.out.size))
      clear hb6
      go_wp2_with fail
      refine (check26 a' cap' m _ _ (H1.out.keep HX6.out) hB' (by omega)).mono ?_
      rintro e w7 ⟨rfl, hb7⟩
      have HX7 := Lib.hid (HX6.out.trans (hb7.mono HX6.out.size))
      clear hb7
      go_wp2
      go_ret
      exact ⟨rfl, HX7.out⟩
    · clear HPC
      go_wp2_with fail
      refine (check26 a cap l _ _ (H0.out.keep HX.out) hB (by omega)).mono ?_
      rintro e w6 ⟨rfl, hb6⟩
      have HX6 := Lib.hid (HX.out.trans (hb6.mono HX.out.size))
      clear hb6
      go_wp2
      go_ret
      exact ⟨rfl, HX6.out⟩
    · clear HPC
      go_wp2_with fail
      refine (check26 a cap l _ _ (H0.out.keep HX.out) hB (by omega)).mono ?_
      rintro e w6 ⟨rfl, hb6⟩
      have HX6 := Lib.hid (HX.out.trans (hb6.mono HX.out.size))
      clear hb6
      go_wp2_with fail
      refine (check26 a' cap' m _ _ (H1.out.keep HX6.out) hB' (by omega)).mono ?_
      rintro e w7 ⟨rfl, hb7⟩
      have HX7 := Lib.hid (HX6.out.trans (hb7.mono HX6.out.size))
      clear hb7
      go_wp2
      go_ret
      exact ⟨rfl, HX7.out⟩
    · exact absurd (HJ.out.symm.trans h'') (by decide)
  · by_cases h2 : m.length = 0
    · have e1 : ((l.length : Int) == 0) = false := beq_eq_false_iff_ne.2 (by omega)
      have e2 : ((m.length : Int) == 0) = true := beq_iff_eq.2 (by omega)
      have HJ := Lib.hid (join_b (l := l) (v := wrap64 (v.tmod 3)) h2)
      clear h1 h2
      go_quiet (fail)
      rename_i nq
      have HX := Lib.hid (dN HB.out nq)
      rcases HPC.out with ⟨h1, h2, h3, h4⟩ | ⟨⟨q1, q2⟩, h | ⟨h, h'⟩ | ⟨h, h', h''⟩⟩
      · clear HPC h4
        go_wp2_with fail
        refine (check26 a cap l _ _ (H0.out.keep HX.out) hB (by omega)).mono ?_
        rintro e w6 ⟨rfl, hb6⟩
        have HX6 := Lib.hid (HX.out.trans (hb6.mono HX.out.size))
        clear hb6
        go_wp2_with fail
        refine (check26 a' cap' m _ _ (H1.out.keep HX6.out) hB' (by omega)).mono ?_
        rintro e w7 ⟨rfl, hb7⟩
        have HX7 := Lib.hid (HX6.out.trans (hb7.mono HX6.out.size))
        clear hb7
        go_wp2
        go_ret
        exact ⟨rfl, HX7.out⟩
      · clear HPC
        go_wp2_with fail
        refine (check26 a cap l _ _ (H0.out.keep HX.out) hB (by omega)).mono ?_
        rintro e w6 ⟨rfl, hb6⟩
        have HX6 := Lib.hid (HX.out.trans (hb6.mono HX.out.size))
        clear hb6
        go_wp2
        go_ret
        exact ⟨rfl, HX6.out⟩
      · clear HPC
        go_wp2_with fail
        refine (check26 a cap l _ _ (H0.out.keep HX.out) hB (by omega)).mono ?_
        rintro e w6 ⟨rfl, hb6⟩
        have HX6 := Lib.hid (HX.out.trans (hb6.mono HX.out.size))
        clear hb6
        go_wp2_with fail
        refine (check26 a' cap' m _ _ (H1.out.keep HX6.out) hB' (by omega)).mono ?_
        rintro e w7 ⟨rfl, hb7⟩
        have HX7 := Lib.hid (HX6.out.trans (hb7.mono HX6.out.size))
        clear hb7
        go_wp2
        go_ret
        exact ⟨rfl, HX7.out⟩
      · exact absurd (HJ.out.symm.trans h'') (by decide)
    · have e1 : ((l.length : Int) == 0) = false := beq_eq_false_iff_ne.2 (by omega)
      have e2 : ((m.length : Int) == 0) = false := beq_eq_false_iff_ne.2 (by omega)
      have HJ := Lib.hid (join_c (v := wrap64 (v.tmod 3)) h1 h2)
      have RA := H0.out.keep HB.out
      have RB := H1.out.keep HB.out
      obtain ⟨b, off, rfl, hc⟩ := RA.cell (by intro h; simp [h] at h1)
      obtain ⟨b', off', rfl, hc'⟩ := RB.cell (by intro h; simp [h] at h2)
      obtain ⟨j, hj⟩ : ∃ j, l.length = j + 1 := ⟨l.length - 1, by omega⟩
      have c0 := hc j (by omega)
      have c1 := hc' 0 (by omega)
      obtain ⟨x0, x1⟩ := hB.at j
      obtain ⟨y0, y1⟩ := hB'.at 0
      have HJ2 : Hid (joinB l m (wrap64 (v.tmod 3)) = mayB (l.getD j 0) (m.getD 0 0) (wrap64 (v.tmod 3))) := by
        have := HJ.out
        rw [hj] at this
        exact this
      clear hc hc' HJ
      generalize l.getD j 0 = x at *
      generalize m.getD 0 0 = y at *
      have HM := Lib.hid (fun W => may24 x y (wrap64 (v.tmod 3)) W x0 x1 y0 y1)
      have HL := Lib.hid hj
      have n0 : (0 : Int) ≤ (j : Int) := by omega
      have n1 : (j : Int) < (l.length : Int) := by omega
      have n3 : (0 : Int) < (m.length : Int) := by omega
      have n5 : 0 < m.length := by omega
      have n4 : IntKind.i64.wrap ((l.length : Int) - 1) = (j : Int) := by rw [show (l.length : Int) - 1 = j by omega]; exact IntWalk.i64_in _ (by omega)
      have n6 : ((j : Int)).toNat = j := by omega
      clear hj h1 h2
      go_region_held3 (fun w' => Below w.heap.size w w' ∧ w'.cell? ⟨b, off + j, none⟩ = some (.int .u8 x) ∧ w'.cell? ⟨b', off', none⟩ = some (.int .u8 y)) (first | exact held_start HB.out (by assumption) (by assumption) | exact held_step (by assumption) (by assumption)) (first | (go_at_call 24; refine (HM.out _).mono ?_; rintro e w' ⟨rfl, hb2⟩))
      rename_i hHeld
      have HX := Lib.hid hHeld.1
      clear hHeld n4 n6 n0 n1 n3
      rcases HPC.out with ⟨h1, h2, h3, h4⟩ | ⟨⟨q1, q2⟩, h | ⟨h, h'⟩ | ⟨h, h', h''⟩⟩
      · clear HPC
        have hj4 : mayB x y (wrap64 (v.tmod 3)) = true := by rw [← HJ2.out]; exact h4
        clear h4
        go_wp2_with fail
        refine (check26 (some ⟨b, off, none⟩) cap l _ _ (H0.out.keep HX.out) hB (by omega)).mono ?_
        rintro e w6 ⟨rfl, hb6⟩
        have HX6 := Lib.hid (HX.out.trans (hb6.mono HX.out.size))
        clear hb6
        go_wp2_with fail
        refine (check26 (some ⟨b', off', none⟩) cap' m _ _ (H1.out.keep HX6.out) hB' (by omega)).mono ?_
        rintro e w7 ⟨rfl, hb7⟩
        have HX7 := Lib.hid (HX6.out.trans (hb7.mono HX6.out.size))
        clear hb7
        go_wp2
        go_ret
        exact ⟨rfl, HX7.out⟩
      · clear HPC
        go_wp2_with fail
        refine (check26 (some ⟨b, off, none⟩) cap l _ _ (H0.out.keep HX.out) hB (by omega)).mono ?_
        rintro e w6 ⟨rfl, hb6⟩
        have HX6 := Lib.hid (HX.out.trans (hb6.mono HX.out.size))
        clear hb6
        go_wp2
        go_ret
        exact ⟨rfl, HX6.out⟩
      · clear HPC
        go_wp2_with fail
        refine (check26 (some ⟨b, off, none⟩) cap l _ _ (H0.out.keep HX.out) hB (by omega)).mono ?_
        rintro e w6 ⟨rfl, hb6⟩
        have HX6 := Lib.hid (HX.out.trans (hb6.mono HX.out.size))
        clear hb6
        go_wp2_with fail
        refine (check26 (some ⟨b', off', none⟩) cap' m _ _ (H1.out.keep HX6.out) hB' (by omega)).mono ?_
        rintro e w7 ⟨rfl, hb7⟩
        have HX7 := Lib.hid (HX6.out.trans (hb7.mono HX6.out.size))
        clear hb7
        go_wp2
        go_ret
        exact ⟨rfl, HX7.out⟩
      · clear HPC
        have hj4 : mayB x y (wrap64 (v.tmod 3)) = false := by rw [← HJ2.out]; exact h''
        clear h''
        go_wp2_with fail
        refine (check26 (some ⟨b, off, none⟩) cap l _ _ (H0.out.keep HX.out) hB (by omega)).mono ?_
        rintro e w6 ⟨rfl, hb6⟩
        have HX6 := Lib.hid (HX.out.trans (hb6.mono HX.out.size))
        clear hb6
        go_wp2_with fail
        refine (check26 (some ⟨b', off', none⟩) cap' m _ _ (H1.out.keep HX6.out) hB' (by omega)).mono ?_
        rintro e w7 ⟨rfl, hb7⟩
        have HX7 := Lib.hid (HX6.out.trans (hb7.mono HX6.out.size))
        clear hb7
        go_wp2
        go_ret
        exact ⟨rfl, HX7.out⟩
theorem wttParts_row (w : World) (a : Option Addr) (cap : Nat) (l : List Int) (hr : RowAt .u8 w a l) (hs : l.length * 1 ≤ 140737488351232) (hf : ∀ n ∈ l, (Lit.int .u8 n).wf = true)
    (a' : Option Addr) (cap' : Nat) (m : List Int) (hr' : RowAt .u8 w a' m) (hs' : m.length * 1 ≤ 140737488351232) (hf' : ∀ n ∈ m, (Lit.int .u8 n).wf = true) (v : Int) (h2 : (Lit.int .i8 v).wf = true) (hk : l.length + m.length ≤ 1048576) :
    Calls Try.prog 12 #[.slice a l.length cap, .slice a' m.length cap', .int .i8 v] w fun e w' => e = .returned (.bool true) ∧ Below w.heap.size w w' :=
  wttParts_walk a cap l a' cap' m v w hr hr' (bytes_of hf) (bytes_of hf') (by omega) (bd_i8 h2).1 (bd_i8 h2).2
end Go.Proofs.Ytcllfndmafkgiaa.Th
