/- The walks of layer 8's laws WttKind, WttMay, WttLevels, WttGrows: each returns true; no condition but what a row hands on. -/
import Derived.Test.YtcllfndmafkgiaaWtt3
import Derived.Test.YtcllfndmafkgiaaFrame2
namespace Go.Proofs.Ytcllfndmafkgiaa.Th
open Go.RowKit
set_option linter.unusedVariables false
theorem may_21 {a b : Int} (h : mayB a b 2 = true) : mayB a b 1 = true := by
  unfold mayB at *
  by_cases h1 : kind (cls a) (cls b) = 82
  · rw [if_pos h1] at h; simp at h
  · rw [if_neg h1] at *
    by_cases h2 : kind (cls a) (cls b) = 83
    · rw [if_pos h2] at h; simp at h
    · rw [if_neg h2]
set_option maxRecDepth 100000 in
theorem wttMay_walk (a b l : Int) (a0 : 0 ≤ a) (a1 : a < 256) (b0 : 0 ≤ b) (b1 : b < 256) (l0 : -128 ≤ l) (l1 : l < 128) (w : World) :
    Calls Try.prog 9 #[.int .u8 a, .int .u8 b, .int .i8 l] w fun e w' => e = .returned (.bool true) ∧ Below w.heap.size w w' := by
  have m0 := may_0 a b
  have hx : mayB a b 2 = false ∨ (mayB a b 2 = true ∧ mayB a b 1 = true) := by
    cases h : mayB a b 2 with
    | false => exact .inl rfl
    | true => exact .inr ⟨rfl, may_21 h⟩
  rcases hx with h2 | ⟨h2, h1⟩
  all_goals
    go_enter Try.func9, Try.ntmps9
    go_wp2_with (first
     | (go_at_call 21; refine (awake21 _).mono ?_; rintro e w' ⟨rfl, hb⟩)
     | (go_at_call 24; refine (may24 _ _ _ _ a0 a1 b0 b1).mono ?_; rintro e w' ⟨rfl, hb⟩)
     | (go_at_call 25; refine (may25 _ _ _ _ a0 a1 b0 b1).mono ?_; rintro e w' ⟨rfl, hb⟩))
    go_ret
    refine ⟨rfl, ?_⟩
    first
      | (rename_i p1 _ p2 _ p3 _ p4; exact cat p1 (cat p2 (cat p3 (cat p4 hb))))
      | (rename_i p1 _ p2 _ p3 _ p4 _ p5; exact cat p1 (cat p2 (cat p3 (cat p4 (cat p5 hb)))))
def OkUpto (l : List Int) (v : Int) (k : Nat) : Prop := ∀ j, j + 1 < k → mayB (l.getD j 0) (l.getD (j + 1) 0) v = true
theorem bad_cases (l : List Int) (v : Int) (n : Nat) : ∀ k, OkUpto l v (k + 1) →
    (bad l v (k + 1) n = -1 ∧ OkUpto l v (k + 1 + n)) ∨ (∃ j : Nat, bad l v (k + 1) n = ((j + 1 : Nat) : Int) ∧ k ≤ j ∧ j < k + n ∧ OkUpto l v (j + 1) ∧ mayB (l.getD j 0) (l.getD (j + 1) 0) v = false) := by
  induction n with
  | zero => intro k h; exact .inl ⟨bad_stop, h⟩
  | succ n ih =>
    intro k h
    cases hm : mayB (l.getD k 0) (l.getD (k + 1) 0) v with
    | false => exact .inr ⟨k, bad_hit (by simpa using hm), Nat.le_refl _, by omega, h, hm⟩
    | true =>
      have e : bad l v (k + 1) (n + 1) = bad l v (k + 1 + 1) n := bad_go (by simpa using hm)
      have h' : OkUpto l v (k + 1 + 1) := fun j hj => by
        by_cases hk : j = k
        · subst hk; exact hm
        · exact h j (by omega)
      rw [e]
      rcases ih (k + 1) h' with ⟨a, b⟩ | ⟨j, a, b, c, d, f⟩
      · exact .inl ⟨a, by rw [show k + 1 + (n + 1) = k + 1 + 1 + n by omega]; exact b⟩
      · exact .inr ⟨j, a, by omega, by omega, d, f⟩
theorem badOf_cases (l : List Int) (v : Int) :
    (badOf l v = -1 ∧ OkUpto l v l.length) ∨ (∃ j : Nat, badOf l v = ((j + 1 : Nat) : Int) ∧ j + 1 < l.length ∧ OkUpto l v (j + 1) ∧ mayB (l.getD j 0) (l.getD (j + 1) 0) v = false) := by
  rcases bad_cases l v (l.length - 1) 0 (fun j hj => by omega) with ⟨a, b⟩ | ⟨j, a, b, c, d, f⟩
  · refine .inl ⟨a, fun j hj => b j (by omega)⟩
  · exact .inr ⟨j, a, by omega, d, f⟩
theorem badOf_none {l : List Int} {v : Int} (h : OkUpto l v l.length) : badOf l v = -1 := by
  rcases badOf_cases l v with ⟨a, _⟩ | ⟨j, _, b, _, d⟩
  · exact a
  · rw [h j b] at d; cases d
theorem badOf_at {l : List Int} {v : Int} {j : Nat} (h1 : j + 1 < l.length) (h2 : OkUpto l v (j + 1)) (h3 : mayB (l.getD j 0) (l.getD (j + 1) 0) v = false) : badOf l v = ((j + 1 : Nat) : Int) := by
  rcases badOf_cases l v with ⟨_, b⟩ | ⟨i, a, b, c, d⟩
  · rw [b j h1] at h3; cases h3
  · rcases Nat.lt_trichotomy i j with h | h | h
    · rw [h2 i (by omega)] at d; cases d
    · rw [a, h]
    · rw [c j (by omega)] at h3; cases h3
theorem levels (l : List Int) : badOf l 1 = -1 ∨ (1 ≤ badOf l 2 ∧ badOf l 2 ≤ badOf l 1 ∧ 1 ≤ badOf l 1) := by
  rcases badOf_cases l 1 with ⟨a, _⟩ | ⟨i, a, b, c, d⟩
  · exact .inl a
  · refine .inr ?_
    rcases badOf_cases l 2 with ⟨_, q⟩ | ⟨j, p, _, r, _⟩
    · have := may_21 (q i b); rw [this] at d; cases d
    · have hji : j ≤ i := by
        by_cases h : j ≤ i
        · exact h
        · have := may_21 (r i (by omega)); rw [this] at d; cases d
      rw [a, p]; omega
theorem getD_app {l m : List Int} {j : Nat} (h : j < l.length) : (l ++ m).getD j 0 = l.getD j 0 := by
  simp [List.getElem?_append, h]
theorem ok_app {l m : List Int} {v : Int} {k : Nat} (hk : k ≤ l.length) (h : OkUpto l v k) : OkUpto (l ++ m) v k := fun j hj => by
  rw [getD_app (by omega), getD_app (by omega)]; exact h j hj
theorem grows_yes {b : List Int} {c v : Int} (h : 0 ≤ badOf b v) : badOf (b ++ [c]) v = badOf b v := by
  rcases badOf_cases b v with ⟨a, _⟩ | ⟨j, a, q, r, s⟩
  · omega
  · rw [a]
    exact badOf_at (by simp; omega) (ok_app (by omega) r) (by rw [getD_app (by omega), getD_app (by omega)]; exact s)
theorem grows_no {b : List Int} {c v : Int} (h : ¬ 0 ≤ badOf b v) : badOf (b ++ [c]) v = -1 ∨ badOf (b ++ [c]) v = b.length := by
  rcases badOf_cases b v with ⟨_, ok⟩ | ⟨j, a, q, r, s⟩
  · rcases badOf_cases (b ++ [c]) v with ⟨a, _⟩ | ⟨j, a, q, r, s⟩
    · exact .inl a
    · refine .inr ?_
      rw [a]
      simp at q
      by_cases hj : j + 1 < b.length
      · rw [getD_app (by omega), getD_app (by omega), ok j hj] at s; cases s
      · omega
  · omega
theorem Bytes.app {l m : List Int} (h : Bytes l) (k : Bytes m) : Bytes (l ++ m) := fun n hn => by
  rcases List.mem_append.1 hn with h1 | h1
  · exact h n h1
  · exact k n h1
theorem info5 : (Try.prog.info? 5).map (fun i => (i.zero, i.size, i.bytes)) = some (some (.int .u8 0), 1, 1) := by kernel_rfl
theorem check26n (a : Option Addr) (cap : Nat) (l : List Int) (n : Nat) (hn : l.length = n) (v : Int) (w : World) (hr : RowAt .u8 w a l) (hB : Bytes l) (hs : l.length ≤ 140737488355328) :
    Calls Try.prog 26 #[.slice a n cap, .int .i64 v] w fun e w' => e = .returned (.int .i64 (badOf l v)) ∧ Below w.heap.size w w' := by
  subst hn; exact check26 a cap l v w hr hB hs
theorem check27n (a : Option Addr) (cap : Nat) (l : List Int) (n : Nat) (hn : l.length = n) (v : Int) (w : World) (hr : RowAt .u8 w a l) (hB : Bytes l) (hs : l.length ≤ 140737488355328) :
    Calls Try.prog 27 #[.slice a n cap, .int .i64 v] w fun e w' => e = .returned (.int .i64 (badOf l v)) ∧ Below w.heap.size w w' := by
  subst hn; exact check27 a cap l v w hr hB hs
attribute [local irreducible] badOf
set_option maxRecDepth 100000 in
theorem wttLevels_walk (a : Option Addr) (cap : Nat) (l : List Int) (w : World) (hr : RowAt .u8 w a l) (hB : Bytes l) (hs : l.length ≤ 140737488351232) :
    Calls Try.prog 13 #[.slice a l.length cap] w fun e w' => e = .returned (.bool true) ∧ Below w.heap.size w w' := by
  have e0 := bad_pass l
  have HL := Lib.hid (levels l)
  go_enter Try.func13, Try.ntmps13
  go_wp2_with fail
  refine (awake21 _).mono ?_
  rintro e w1 ⟨rfl, b1⟩
  have HR := Lib.hid (hr.keep b1)
  go_wp2_with fail
  refine (check26 _ _ _ _ _ HR.out hB (by omega)).mono ?_
  rintro e w2 ⟨rfl, b2⟩
  have HR2 := Lib.hid (HR.out.keep b2)
  go_wp2_with fail
  refine (check26 _ _ _ _ _ HR2.out hB (by omega)).mono ?_
  rintro e w3 ⟨rfl, b3⟩
  have HR3 := Lib.hid (HR2.out.keep b3)
  go_wp2_with fail
  refine (check26 _ _ _ _ _ HR3.out hB (by omega)).mono ?_
  rintro e w4 ⟨rfl, b4⟩
  rcases HL.out with h | ⟨h1, h2, h3⟩
  · have hn : (badOf l 2 != -1) = true ∨ (badOf l 2 != -1) = false := by cases (badOf l 2 != -1) <;> simp
    rcases hn with hn | hn
    all_goals
      go_wp2
      go_ret
      exact ⟨rfl, cat b1 (cat b2 (cat b3 b4))⟩
  · have n1 : (badOf l 1 == -1) = false := by simp; omega
    have n2 : (badOf l 2 != -1) = true := by simp; omega
    go_wp2
    go_ret
    exact ⟨rfl, cat b1 (cat b2 (cat b3 b4))⟩
set_option maxRecDepth 100000 in
theorem wttGrows_walk (a : Option Addr) (cap : Nat) (l : List Int) (c v : Int) (w : World) (hr : RowAt .u8 w a l) (hB : Bytes l) (hs : l.length ≤ 140737488351232) (c0 : 0 ≤ c) (c1 : c < 256) (v0 : -128 ≤ v) (v1 : v < 128) :
    Calls Try.prog 14 #[.slice a l.length cap, .int .u8 c, .int .i8 v] w fun e w' => e = .returned (.bool true) ∧ Below w.heap.size w w' := by
  obtain ⟨i5, hi, hz, hz1, hz2⟩ := info_parts info5
  have hBc : Bytes (l ++ [c]) := hB.app (by intro n hn; simp at hn; omega)
  go_enter Try.func14, Try.ntmps14
  go_wp2_with fail
  refine (awake21 _).mono ?_
  rintro e w1 ⟨rfl, b1⟩
  have HR := Lib.hid (hr.keep b1)
  go_wp2_with fail
  refine (check26 _ _ _ _ _ HR.out hB (by omega)).mono ?_
  rintro e w2 ⟨rfl, b2⟩
  have HR2 := Lib.hid (HR.out.keep b2)
  have B2 := Lib.hid (cat b1 b2)
  go_wp2_with (first
    | (at_builtin
       refine wpList_append_row rfl (.const (.slice none 0 0)) (.tmp 18) 43 rfl w 5 i5 _ 1 Try.underlying43 hi hz hz1 hz2 rfl .u8 B2.out (.slice none 0 0) [] rfl (Owns.nil _ _ _ _) a cap l rfl HR2.out (by simp [maxLen]; omega) (by simp; omega) ?_
       intro v3 w3 ho3 hb3)
    | (at_builtin
       refine wpList_append_row rfl (.tmp 19) (.tmp 21) 43 rfl w 5 i5 _ 1 Try.underlying43 hi hz hz1 hz2 rfl .u8 (hb3.alloc hb3.size _) v3 ([] ++ l) rfl (World.ownsRow.alloc ho3 _) (some ⟨w3.heap.size, 0, none⟩) 1 [c] rfl (rowAt_new w3 [c] 5) (by simp [maxLen]; omega) (by simp; omega) ?_
       intro v4 w4 ho4 hb4
       obtain ⟨a4, k4, rfl, r4⟩ := ho4.at))
  have C := check26n a4 k4 (l ++ [c]) (l.length + 1) (by simp) (wrap64 (v.tmod 3)) w4 r4 hBc (by simp; omega)
  refine C.mono ?_
  rintro e w5 ⟨rfl, hb5⟩
  clear C
  have HB := Lib.hid (hb4.trans (hb5.mono hb4.size))
  clear hb5 hb4 hb3
  by_cases hp : 0 ≤ badOf l (wrap64 (v.tmod 3))
  · have HG := Lib.hid (grows_yes (c := c) hp)
    have h1 : (badOf (l ++ [c]) (wrap64 (v.tmod 3)) == badOf l (wrap64 (v.tmod 3))) = true := by rw [HG.out]; simp
    go_wp2
    go_ret
    exact ⟨rfl, HB.out⟩
  · have HG := Lib.hid (grows_no (c := c) hp)
    generalize badOf (l ++ [c]) (wrap64 (v.tmod 3)) = q at *
    generalize badOf l (wrap64 (v.tmod 3)) = p at *
    rcases HG.out with h | h
    · have h1 : (q == -1) = true := by simp [h]
      clear h
      go_wp2
      go_ret
      exact ⟨rfl, HB.out⟩
    · have h1 : (q == -1) = false := by simp; omega
      have h2 : (q == (l.length : Int)) = true := by simp [h]
      clear h
      go_wp2
      go_ret
      exact ⟨rfl, HB.out⟩
def pairs (x y p q : Int) : List Value := [.int .i64 x, .int .i64 q, .int .i64 p, .int .i64 y, .int .i64 x, .int .i64 y]
theorem pair_cells (w : World) (x y p q : Int) (k : Nat) (h : k < 3) : ∃ m n : Int, (w.alloc (.cells (pairs x y p q).toArray 36)).cell? ⟨w.heap.size, k * 2, none⟩ = some (.int .i64 m) ∧ (w.alloc (.cells (pairs x y p q).toArray 36)).cell? ⟨w.heap.size, k * 2 + 1, none⟩ = some (.int .i64 n) := by
  rcases k with _ | _ | _ | k
  · exact ⟨x, q, cell_new w _ 36 0 _ rfl, cell_new w _ 36 1 _ rfl⟩
  · exact ⟨p, y, cell_new w _ 36 2 _ rfl, cell_new w _ 36 3 _ rfl⟩
  · exact ⟨x, y, cell_new w _ 36 4 _ rfl, cell_new w _ 36 5 _ rfl⟩
  · omega
set_option maxRecDepth 100000 in
set_option maxHeartbeats 1000000 in
theorem wttKind_walk (a b x y : Int) (a0 : 0 ≤ a) (a1 : a < 256) (b0 : 0 ≤ b) (b1 : b < 256) (w : World) :
    Calls Try.prog 8 #[.int .u8 a, .int .u8 b, .int .i64 x, .int .i64 y] w fun e w' => e = .returned (.bool true) ∧ Below w.heap.size w w' := by
  have I := idxStr' (a % 17) (b % 17) (by omega) (by omega) (by omega) (by omega)
  go_enter Try.func8, Try.ntmps8
  go_wp2_with (first
    | (go_at_call 21; refine (awake21 _).mono ?_; rintro e w1 ⟨rfl, hb1⟩)
    | (go_at_call 22; refine (kind22 _ _ _).mono ?_; rintro e w2 ⟨rfl, hb2⟩)
    | (go_at_call 23; refine (Rows23 _).mono ?_; rintro e w' ⟨rfl, rfl⟩)
    | with_reducible refine wpList_runTo (o := ⟨some 44, .buildSlice 37 3 _, _, _, _, _⟩) rfl (some 44) rfl (.slice (some ⟨w2.heap.size, 0, none⟩) 3 3) (w2.alloc (.cells (pairs x y (a % 17) (b % 17)).toArray 36)) (by kernel_rfl) ?_)
  have RC := Lib.hid (pair_cells w2 x y (a % 17) (b % 17))
  have hb0 : Below w.heap.size w (w2.alloc (.cells (pairs x y (a % 17) (b % 17)).toArray 36)) := (cat hb1 hb2).alloc (cat hb1 hb2).size _
  have HZ : Hid ((w2.alloc (.cells (pairs x y (a % 17) (b % 17)).toArray 36)).heap.size = w2.heap.size + 1) := by show _ = _; simp
  have H2 := Lib.hid (cat hb1 hb2).size
  clear hb1 hb2
  generalize w2.alloc (.cells (pairs x y (a % 17) (b % 17)).toArray 36) = W0 at *
  go_loopw [46] (fun i wr => ∃ k : Nat, k ≤ 3 ∧ i = .int .i64 k ∧ Below W0.heap.size W0 wr) (fun i _ => 3 - (intOf i).toNat)
  case atStart => exact ⟨0, by omega, rfl, Below.refl _ _⟩
  case round =>
    obtain ⟨k, hk, rfl, hb⟩ := hrel
    have HB := Lib.hid hb
    clear hb
    by_cases hlt : k < 3
    · obtain ⟨m, n, c0, c1⟩ := RC.out k hlt
      have d0 : wr.cell? ⟨w2.heap.size, k * 2, none⟩ = some (.int .i64 m) := by rw [HB.out.cell (by have := HZ.out; simp; omega)]; exact c0
      have d1 : wr.cell? ⟨w2.heap.size, k * 2 + 1, none⟩ = some (.int .i64 n) := by rw [HB.out.cell (by have := HZ.out; simp; omega)]; exact c1
      clear c0 c1
      have ha : ∀ X : Obj, Below W0.heap.size W0 (wr.alloc X) := fun X => HB.out.alloc HB.out.size X
      have HA := Lib.hid ha
      clear ha
      have hq : Hid ((0 ≤ m ∧ m < 17 ∧ 0 ≤ n ∧ n < 17) ∨ (¬ (0 ≤ m ∧ m < 17 ∧ 0 ≤ n ∧ n < 17) ∧ (kind m n != 82) = false)) := by
        by_cases h : 0 ≤ m ∧ m < 17 ∧ 0 ≤ n ∧ n < 17
        · exact .inl h
        · exact .inr ⟨h, by rw [kind_out h]; rfl⟩
      rcases hq.out with h | ⟨h, hkd⟩
      · obtain ⟨g0, g1, g2, g3⟩ := h
        clear hq
        go_wp2_with (go_at_call 22; refine (kind22 _ _ _).mono ?_; rintro e w5 ⟨rfl, hb5⟩)
        go_roundw
        case rel => exact ⟨k + 1, by omega, by go_num, HA.out _⟩
        case measure => simp [intOf]; omega
      · clear hq
        have HH := Lib.hid h
        clear h
        go_wp2_with (go_at_call 22; refine (kind22 _ _ _).mono ?_; rintro e w5 ⟨rfl, hb5⟩)
        all_goals first
          | (exfalso; have := HH.out; omega)
          | (go_roundw
             case rel => exact ⟨k + 1, by omega, by go_num, (HA.out _).trans (hb5.mono (HA.out _).size)⟩
             case measure => simp [intOf]; omega)
    · obtain rfl : k = 3 := by omega
      have hbw : Below w.heap.size w wr := hb0.trans (HB.out.mono (by have := HZ.out; have := H2.out; omega))
      go_wp2
      go_ret
      exact ⟨rfl, hbw⟩
theorem bytes_of {l : List Int} (h : ∀ n ∈ l, (Lit.int .u8 n).wf = true) : Bytes l := fun n hn => bd_u8 (h n hn)
theorem wttKind_row (a : Int) (h1 : (Lit.int .u8 a).wf = true) (b : Int) (h2 : (Lit.int .u8 b).wf = true) (x : Int) (h3 : (Lit.int .i64 x).wf = true) (y : Int) (h4 : (Lit.int .i64 y).wf = true) (w : World) :
    Calls Try.prog 8 #[.int .u8 a, .int .u8 b, .int .i64 x, .int .i64 y] w fun e w' => e = .returned (.bool true) ∧ Below w.heap.size w w' :=
  wttKind_walk a b x y (bd_u8 h1).1 (bd_u8 h1).2 (bd_u8 h2).1 (bd_u8 h2).2 w
theorem wttMay_row (a : Int) (h1 : (Lit.int .u8 a).wf = true) (b : Int) (h2 : (Lit.int .u8 b).wf = true) (l : Int) (h3 : (Lit.int .i8 l).wf = true) (w : World) :
    Calls Try.prog 9 #[.int .u8 a, .int .u8 b, .int .i8 l] w fun e w' => e = .returned (.bool true) ∧ Below w.heap.size w w' :=
  wttMay_walk a b l (bd_u8 h1).1 (bd_u8 h1).2 (bd_u8 h2).1 (bd_u8 h2).2 (bd_i8 h3).1 (bd_i8 h3).2 w
theorem wttLevels_row (w : World) (a : Option Addr) (cap : Nat) (l : List Int) (hr : RowAt .u8 w a l) (hs : l.length * 1 ≤ 140737488351232) (hf : ∀ n ∈ l, (Lit.int .u8 n).wf = true) :
    Calls Try.prog 13 #[.slice a l.length cap] w fun e w' => e = .returned (.bool true) ∧ Below w.heap.size w w' :=
  wttLevels_walk a cap l w hr (bytes_of hf) (by omega)
theorem wttGrows_row (w : World) (a : Option Addr) (cap : Nat) (l : List Int) (hr : RowAt .u8 w a l) (hs : l.length * 1 ≤ 140737488351232) (hf : ∀ n ∈ l, (Lit.int .u8 n).wf = true) (c : Int) (h1 : (Lit.int .u8 c).wf = true) (v : Int) (h2 : (Lit.int .i8 v).wf = true) :
    Calls Try.prog 14 #[.slice a l.length cap, .int .u8 c, .int .i8 v] w fun e w' => e = .returned (.bool true) ∧ Below w.heap.size w w' :=
  wttGrows_walk a cap l c v w hr (bytes_of hf) (by omega) (bd_u8 h1).1 (bd_u8 h1).2 (bd_i8 h2).1 (bd_i8 h2).2
end Go.Proofs.Ytcllfndmafkgiaa.Th
