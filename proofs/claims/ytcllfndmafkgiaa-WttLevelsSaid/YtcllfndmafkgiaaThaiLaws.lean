/- The walks of the thai laws (layer 7): each returns true at every input; no condition. -/
import Derived.Test.YtcllfndmafkgiaaClass
import Derived.LoopTactic
import Derived.OpenShut
namespace Go.Proofs.Ytcllfndmafkgiaa.Th
open Go.RowKit
theorem cat {a b c : World} (h : Below a.heap.size a b) (k : Below b.heap.size b c) : Below a.heap.size a c := h.trans (k.mono h.size)
set_option maxHeartbeats 400000 in
theorem awake15 (w : World) : Calls Try.prog 15 #[] w fun e w' => e = .returned (.bool true) ∧ Below w.heap.size w w' := by
  have e1 : dec 161 = 3585 := by decide
  have e2 : decB 161 = true := by decide
  have e3 : enc 3675 = 251 := by decide
  have e4 : encB 3675 = true := by decide
  have e5 : decB 219 = false := by decide
  have e6 : cls 232 = 10 := by decide +kernel
  have e7 : cls 161 = 2 := by decide +kernel
  have e8 : cls 7 = 0 := by decide +kernel
  go_enter Try.func15, Try.ntmps15
  go_wp2_with (first
   | (go_at_call 16; refine (decode16 _ _ (by omega) (by omega)).mono ?_; rintro e w' ⟨rfl, rfl⟩)
   | (go_at_call 18; refine (encode18 _ _).mono ?_; rintro e w' ⟨rfl, rfl⟩)
   | (go_at_call 19; refine (of19 _ _ (by omega) (by omega)).mono ?_; rintro e w' ⟨rfl, hb⟩))
  rename_i b1 _ b2
  go_ret
  exact ⟨rfl, cat b1 (cat b2 hb)⟩
theorem cls_bd (c : Int) (h0 : 0 ≤ c) (h1 : c < 256) : 0 ≤ cls c ∧ cls c < 17 := by
  have H : ∀ n : Fin 256, 0 ≤ cls n.1 ∧ cls n.1 < 17 := by decide +kernel
  obtain ⟨n, rfl⟩ := Int.eq_ofNat_of_zero_le h0
  exact H ⟨n, by omega⟩
theorem thaiDecode_walk (c : Int) (h0 : 0 ≤ c) (h1 : c < 256) (w : World) :
    Calls Try.prog 3 #[.int .u8 c] w fun e w' => e = .returned (.bool true) ∧ Below w.heap.size w w' := by
  go_enter Try.func3, Try.ntmps3
  go_wp2_with (first
   | (go_at_call 15; refine (awake15 _).mono ?_; rintro e w' ⟨rfl, hb⟩)
   | (go_at_call 16; refine (decode16 _ _ h0 h1).mono ?_; rintro e w' ⟨rfl, rfl⟩)
   | (go_at_call 17; refine (scalar17 _ _ h0 h1).mono ?_; rintro e w' ⟨rfl, rfl⟩))
  go_ret
  exact ⟨rfl, ‹_›⟩
theorem thaiClass_walk (c : Int) (h0 : 0 ≤ c) (h1 : c < 256) (w : World) :
    Calls Try.prog 5 #[.int .u8 c] w fun e w' => e = .returned (.bool true) ∧ Below w.heap.size w w' := by
  obtain ⟨g0, g1⟩ := cls_bd c h0 h1
  go_enter Try.func5, Try.ntmps5
  go_wp2_with (first
   | (go_at_call 15; refine (awake15 _).mono ?_; rintro e w' ⟨rfl, hb⟩)
   | (go_at_call 19; refine (of19 _ _ h0 h1).mono ?_; rintro e w' ⟨rfl, hb⟩)
   | (go_at_call 20; refine (class20 _ _ h0 h1).mono ?_; rintro e w' ⟨rfl, hb⟩))
  rename_i b1 _ b2 _ b3 _ b4
  go_ret
  exact ⟨rfl, cat b1 (cat b2 (cat b3 (cat b4 hb)))⟩
theorem enc_bd (s : Int) : 0 ≤ enc s ∧ enc s < 256 := by unfold enc; (repeat' split) <;> omega
theorem dec_enc {c : Int} (h0 : 0 ≤ c) (h1 : c < 256) (h : decB c = true) : encB (dec c) = true ∧ enc (dec c) = c := by
  unfold decB at h; simp at h
  unfold encB dec enc; (repeat' split) <;> simp <;> omega
theorem enc_dec {s : Int} (h : encB s = true) : decB (enc s) = true ∧ dec (enc s) = s := by
  unfold encB at h; simp at h
  unfold decB dec enc; (repeat' split) <;> simp <;> omega
theorem thaiRound_walk (c s : Int) (h0 : 0 ≤ c) (h1 : c < 256) (s0 : 0 ≤ s) (s1 : s < 65536) (w : World) :
    Calls Try.prog 6 #[.int .u8 c, .int .u16 s] w fun e w' => e = .returned (.bool true) ∧ Below w.heap.size w w' := by
  obtain ⟨g0, g1⟩ := enc_bd s
  have hx : decB c = false ∨ (decB c = true ∧ encB (dec c) = true ∧ enc (dec c) = c) := by
    cases h : decB c with
    | false => exact .inl rfl
    | true => exact .inr ⟨rfl, dec_enc h0 h1 h⟩
  have hy : encB s = false ∨ (encB s = true ∧ decB (enc s) = true ∧ dec (enc s) = s) := by
    cases h : encB s with
    | false => exact .inl rfl
    | true => exact .inr ⟨rfl, enc_dec h⟩
  rcases hx with hc | ⟨hc, x1, x2⟩ <;> rcases hy with he | ⟨he, y1, y2⟩
  all_goals
    go_enter Try.func6, Try.ntmps6
    go_wp2_with (first
     | (go_at_call 15; refine (awake15 _).mono ?_; rintro e w' ⟨rfl, hb⟩)
     | (go_at_call 18; refine (encode18 _ _).mono ?_; rintro e w' ⟨rfl, rfl⟩)
     | (go_at_call 16; refine (decode16 _ _ (by omega) (by omega)).mono ?_; rintro e w' ⟨rfl, rfl⟩))
    go_ret
    exact ⟨rfl, ‹_›⟩
def cnt : Nat → Nat
  | 0 => 0
  | k + 1 => cnt k + if decB k && decide (3584 < dec k) then 1 else 0
theorem cnt_le (k : Nat) : cnt k ≤ k := by
  induction k with
  | zero => exact Nat.le_refl _
  | succ k ih => unfold cnt; split <;> omega
theorem cnt_256 : cnt 256 = 87 := by decide +kernel
theorem cnt_zero : cnt 0 = 0 := rfl
theorem cnt_succ (k : Nat) : cnt (k + 1) = cnt k + if decB k && decide (3584 < dec k) then 1 else 0 := rfl
attribute [irreducible] cnt
theorem dec_low {n : Int} (h0 : 0 ≤ n) (h1 : n < 58) : decB (161 + n) = true ∧ dec (161 + n) = 3585 + n := by
  unfold decB dec; (repeat' split) <;> simp <;> omega
set_option maxRecDepth 100000 in
theorem thaiMany_walk (n : Int) (h0 : 0 ≤ n) (h1 : n < 256) (w : World) :
    Calls Try.prog 7 #[.int .u8 n] w fun e w' => e = .returned (.bool true) ∧ Below w.heap.size w w' := by
  go_enter Try.func7, Try.ntmps7
  go_wp2_with (go_at_call 15; refine (awake15 _).mono ?_; rintro e w' ⟨rfl, hb⟩)
  go_loop [3, 4] (fun l i => ∃ k : Nat, k ≤ 256 ∧ i = .int .i64 k ∧ l = .int .i64 (cnt k)) (fun _ i => 256 - (intOf i).toNat)
  case atStart => exact ⟨0, by omega, rfl, by rw [cnt_zero]; rfl⟩
  case round =>
    obtain ⟨k, hk, rfl, rfl⟩ := hrel
    have hle := cnt_le k
    by_cases hlt : k < 256
    · have hs : cnt (k + 1) = cnt k + if decB k && decide (3584 < dec k) then 1 else 0 := cnt_succ k
      have HS := Lib.hid hs
      clear hs
      rcases Bool.eq_false_or_eq_true (decB k) with hd | hd
      · by_cases h3 : 3584 < dec k
        · go_wp2_with (go_at_call 16; refine (decode16 _ _ (by omega) (by omega)).mono ?_; rintro e w' ⟨rfl, rfl⟩)
          go_round
          case rel => exact ⟨k + 1, by omega, by go_num, by rw [HS.out, hd]; simp [h3]⟩
          case measure => simp [intOf]; omega
        · go_wp2_with (go_at_call 16; refine (decode16 _ _ (by omega) (by omega)).mono ?_; rintro e w' ⟨rfl, rfl⟩)
          go_round
          case rel => exact ⟨k + 1, by omega, by go_num, by rw [HS.out, hd, if_neg (by simp; omega)]; rfl⟩
          case measure => simp [intOf]; omega
      · go_wp2_with (go_at_call 16; refine (decode16 _ _ (by omega) (by omega)).mono ?_; rintro e w' ⟨rfl, rfl⟩)
        go_round
        case rel => exact ⟨k + 1, by omega, by go_num, by rw [HS.out, hd]; simp⟩
        case measure => simp [intOf]; omega
    · obtain rfl : k = 256 := by omega
      have hc := cnt_256
      obtain ⟨d1, d2⟩ := dec_low (n := n % 58) (by omega) (by omega)
      go_wp2_with (go_at_call 16; refine (decode16 _ _ (by omega) (by omega)).mono ?_; rintro e w' ⟨rfl, rfl⟩)
      go_ret
      exact ⟨rfl, ‹_›⟩
def wst (x : Int) : Nat → Int × Bool
  | 0 => (0, false)
  | k + 1 => if decB k && decide (dec k = x) then ((k : Int), true) else wst x k
theorem wst_zero (x : Int) : wst x 0 = (0, false) := rfl
theorem wst_yes {x : Int} {k : Nat} (h : decB k = true) (h2 : dec k = x) : wst x (k + 1) = ((k : Int), true) := by simp [wst, h, h2]
theorem wst_no {x : Int} {k : Nat} (h : decB k = false) : wst x (k + 1) = wst x k := by simp [wst, h]
theorem wst_no2 {x : Int} {k : Nat} (h2 : ¬ dec k = x) : wst x (k + 1) = wst x k := by simp [wst, h2]
theorem wst_is (x : Int) (k : Nat) (hk : k ≤ 256) : wst x k = if encB x = true ∧ enc x < k then (enc x, true) else (0, false) := by
  induction k with
  | zero => rw [if_neg]; rfl; have := enc_bd x; omega
  | succ k ih =>
    have ih := ih (by omega)
    by_cases h : decB k = true ∧ dec k = x
    · rw [wst_yes h.1 h.2]
      obtain ⟨a, b⟩ := dec_enc (by omega) (by omega) h.1
      rw [h.2] at a b
      rw [if_pos ⟨a, by omega⟩, b]
    · have e : wst x (k + 1) = wst x k := by
        by_cases h1 : decB k = true
        · exact wst_no2 (fun h2 => h ⟨h1, h2⟩)
        · exact wst_no (by simpa using h1)
      rw [e, ih]
      by_cases hx : encB x = true
      · obtain ⟨c, d⟩ := enc_dec hx
        have : enc x ≠ k := fun he => h (by rw [← he]; exact ⟨c, d⟩)
        by_cases hlt : enc x < k
        · rw [if_pos ⟨hx, hlt⟩, if_pos ⟨hx, by omega⟩]
        · rw [if_neg (fun h => hlt h.2), if_neg (fun h => hlt (by omega))]
      · rw [if_neg (fun h => hx h.1), if_neg (fun h => hx h.1)]
theorem enc_none {x : Int} (h : encB x = false) : enc x = 0 := by
  unfold encB at h; simp at h
  unfold enc; (repeat' split) <;> omega
theorem wst_256 (x : Int) : (wst x 256).1 = enc x ∧ (wst x 256).2 = encB x := by
  rw [wst_is x 256 (Nat.le_refl _)]
  have := enc_bd x
  cases h : encB x with
  | true => rw [if_pos ⟨rfl, by omega⟩]; exact ⟨rfl, rfl⟩
  | false => rw [if_neg (by simp)]; exact ⟨(enc_none h).symm, rfl⟩
theorem wst_bd (x : Int) (k : Nat) (hk : k ≤ 256) : 0 ≤ (wst x k).1 ∧ (wst x k).1 < 256 := by
  rw [wst_is x k hk]
  have := enc_bd x
  split <;> simp <;> omega
attribute [irreducible] wst
theorem three (w : World) (x y z : Value) (k : Nat) (h : k < 3) : (w.alloc (.cells #[x, y, z] 3)).cell? ⟨w.heap.size, k, none⟩ = some ([x, y, z].getD k undef) := by
  refine cell_new w _ 3 _ _ ?_
  rcases k with _ | _ | _ | k <;> first | rfl | omega
set_option maxRecDepth 100000 in
theorem thaiEncode_walk (s n : Int) (n0 : 0 ≤ n) (n1 : n < 65536) (w : World) :
    Calls Try.prog 4 #[.int .i64 s, .int .u16 n] w fun e w' => e = .returned (.bool true) ∧ Below w.heap.size w w' := by
  go_enter Try.func4, Try.ntmps4
  go_wp2_with (go_at_call 15; refine (awake15 _).mono ?_; rintro e w1 ⟨rfl, hb⟩)
  have CE := Lib.hid (three w1 (.int .i64 s) (.int .i64 (n % 300)) (.int .i64 (3568 + n % 120)))
  have hb2 : Below w.heap.size w (w1.alloc (.cells #[.int .i64 s, .int .i64 (n % 300), .int .i64 (3568 + n % 120)] 3)) := hb.alloc hb.size _
  generalize w1.alloc (.cells #[.int .i64 s, .int .i64 (n % 300), .int .i64 (3568 + n % 120)] 3) = W0 at *
  go_loop [26] (fun i => ∃ k : Nat, k ≤ 3 ∧ i = .int .i64 k) (fun i => 3 - (intOf i).toNat)
  case atStart => exact ⟨0, by omega, rfl⟩
  case round =>
    obtain ⟨k, hk, rfl⟩ := hrel
    by_cases hlt : k < 3
    · obtain ⟨x, hx⟩ : ∃ x : Int, W0.cell? ⟨w1.heap.size, k, none⟩ = some (.int .i64 x) := by
        have := CE.out k hlt
        rcases k with _ | _ | _ | k
        · exact ⟨_, this⟩
        · exact ⟨_, this⟩
        · exact ⟨_, this⟩
        · omega
      go_wp2_with fail
      go_loop [7, 8, 9] (fun a b i => ∃ j : Nat, j ≤ 256 ∧ i = .int .i64 j ∧ a = .int .u8 (wst x j).1 ∧ b = .bool (wst x j).2) (fun _ _ i => 256 - (intOf i).toNat)
      case atStart => exact ⟨0, by omega, rfl, by rw [wst_zero], by rw [wst_zero]⟩
      case round =>
        obtain ⟨j, hj, rfl, rfl, rfl⟩ := hrel
        by_cases hjl : j < 256
        · rcases Bool.eq_false_or_eq_true (decB j) with hd | hd
          · by_cases h3 : dec j = x
            · have hq := Lib.hid (wst_yes hd h3)
              have h4 : (dec j == x) = true := by simp [h3]
              clear h3
              go_wp2_with (go_at_call 17; refine (scalar17 _ _ (by omega) (by omega)).mono ?_; rintro e w' ⟨rfl, rfl⟩)
              go_round
              case rel => exact ⟨j + 1, by omega, by go_num, by rw [hq.out], by rw [hq.out]⟩
              case measure => simp [intOf]; omega
            · have hq := Lib.hid (wst_no2 h3)
              have h4 : (dec j == x) = false := by simp [h3]
              clear h3
              go_wp2_with (go_at_call 17; refine (scalar17 _ _ (by omega) (by omega)).mono ?_; rintro e w' ⟨rfl, rfl⟩)
              go_round
              case rel => exact ⟨j + 1, by omega, by go_num, by rw [hq.out], by rw [hq.out]⟩
              case measure => simp [intOf]; omega
          · have hq := Lib.hid (wst_no (x := x) hd)
            go_wp2_with (go_at_call 17; refine (scalar17 _ _ (by omega) (by omega)).mono ?_; rintro e w' ⟨rfl, rfl⟩)
            go_round
            case rel => exact ⟨j + 1, by omega, by go_num, by rw [hq.out], by rw [hq.out]⟩
            case measure => simp [intOf]; omega
        · obtain rfl : j = 256 := by omega
          obtain ⟨q1, q2⟩ := wst_256 x
          go_wp2_with (go_at_call 18; refine (encode18 _ _).mono ?_; rintro e w' ⟨rfl, rfl⟩)
          go_round
          case rel => exact ⟨k + 1, by omega, by go_num⟩
          case measure => simp [intOf]; omega
    · obtain rfl : k = 3 := by omega
      go_wp2
      go_ret
      exact ⟨rfl, hb2⟩
theorem bd_u8 {n : Int} (h : (Lit.int .u8 n).wf = true) : 0 ≤ n ∧ n < 256 := by have := bounds_u8 h; omega
theorem bd_u16 {n : Int} (h : (Lit.int .u16 n).wf = true) : 0 ≤ n ∧ n < 65536 := by have := bounds_u16 h; omega
theorem bd_i8 {n : Int} (h : (Lit.int .i8 n).wf = true) : -128 ≤ n ∧ n < 128 := by have := bounds_i8 h; omega
theorem thaiDecode_row (c : Int) (h : (Lit.int .u8 c).wf = true) (w : World) :
    Calls Try.prog 3 #[.int .u8 c] w fun e w' => e = .returned (.bool true) ∧ Below w.heap.size w w' := thaiDecode_walk c (bd_u8 h).1 (bd_u8 h).2 w
theorem thaiEncode_row (s : Int) (_ : (Lit.int .i64 s).wf = true) (n : Int) (h : (Lit.int .u16 n).wf = true) (w : World) :
    Calls Try.prog 4 #[.int .i64 s, .int .u16 n] w fun e w' => e = .returned (.bool true) ∧ Below w.heap.size w w' := thaiEncode_walk s n (bd_u16 h).1 (bd_u16 h).2 w
theorem thaiClass_row (c : Int) (h : (Lit.int .u8 c).wf = true) (w : World) :
    Calls Try.prog 5 #[.int .u8 c] w fun e w' => e = .returned (.bool true) ∧ Below w.heap.size w w' := thaiClass_walk c (bd_u8 h).1 (bd_u8 h).2 w
theorem thaiRound_row (c : Int) (h : (Lit.int .u8 c).wf = true) (s : Int) (h2 : (Lit.int .u16 s).wf = true) (w : World) :
    Calls Try.prog 6 #[.int .u8 c, .int .u16 s] w fun e w' => e = .returned (.bool true) ∧ Below w.heap.size w w' := thaiRound_walk c s (bd_u8 h).1 (bd_u8 h).2 (bd_u16 h2).1 (bd_u16 h2).2 w
theorem thaiMany_row (c : Int) (h : (Lit.int .u8 c).wf = true) (w : World) :
    Calls Try.prog 7 #[.int .u8 c] w fun e w' => e = .returned (.bool true) ∧ Below w.heap.size w w' := thaiMany_walk c (bd_u8 h).1 (bd_u8 h).2 w
end Go.Proofs.Ytcllfndmafkgiaa.Th
