/- Plain laws of the law package's own reading of UTF-8: 'begins' tells beginnings, 'one' is utf.One, its All is utf.All. No condition but bytes and sizes. -/
import Derived.Test.YtdhpldiahgajcaaU7
import Derived.Test.YtdhpldiahgajcaaV2
import Derived.Test.YtdhpldiahgajcaaV5
namespace Go.Proofs.Ytdhpldiahgajcaa.PUtfAll
open Go.RowKit Go.Proofs.YtdhpldiahgajcaaW.PrintWords Go.Proofs.Ytdhpldiahgajcaa
set_option linter.unusedVariables false
set_option linter.unusedSimpArgs false
theorem w64 {x : Int} (h0 : -9223372036854775808 ≤ x) (h1 : x ≤ 9223372036854775807) : wrap64 x = x := by unfold wrap64; omega
theorem lscal_is (s : Int) : lontarlaw01_scalar.f s = some (scalB s) := by
  unfold lontarlaw01_scalar.f scalB
  by_cases h1 : s ≥ 0
  · rw [if_pos h1]
    by_cases h2 : s < 1114112
    · rw [if_pos h2]
      by_cases h3 : s < 55296
      · rw [if_pos h3]; congr 1; symm; exact decide_eq_true ⟨by omega, by omega, .inl h3⟩
      · rw [if_neg h3]; congr 1; exact decide_eq_decide.2 (by omega)
    · rw [if_neg h2]; congr 1; symm; exact decide_eq_false (by omega)
  · rw [if_neg h1]; congr 1; symm; exact decide_eq_false (by omega)
theorem lbytes_is {s : Int} (h : scalB s = true) : lontarlaw01_bytes.f s = some (strOfNums (encS s)) := by
  obtain ⟨h0, h1, _⟩ := scal_bd h
  have e1 : Int.tdiv s 64 = s / 64 := Int.tdiv_eq_ediv_of_nonneg h0
  have e2 : Int.tmod s 64 = s % 64 := Int.tmod_eq_emod_of_nonneg h0
  have e3 : Int.tdiv s 4096 = s / 4096 := Int.tdiv_eq_ediv_of_nonneg h0
  have e4 : Int.tdiv s 262144 = s / 262144 := Int.tdiv_eq_ediv_of_nonneg h0
  have e5 : Int.tmod (s / 64) 64 = s / 64 % 64 := Int.tmod_eq_emod_of_nonneg (by omega)
  have e6 : Int.tmod (s / 4096) 64 = s / 4096 % 64 := Int.tmod_eq_emod_of_nonneg (by omega)
  unfold lontarlaw01_bytes.f encS
  rw [e1, e2, e3, e4, w64 (x := s / 64) (by omega) (by omega), w64 (x := s / 4096) (by omega) (by omega), w64 (x := s / 262144) (by omega) (by omega), e5, e6]
  by_cases c1 : s < 128
  · rw [if_pos c1, if_pos c1, show s % 256 = s by omega]
  · rw [if_neg c1, if_neg c1]
    by_cases c2 : s < 2048
    · rw [if_pos c2, if_pos c2, w64 (x := 192 + s / 64) (by omega) (by omega), w64 (x := 128 + s % 64) (by omega) (by omega), show (192 + s / 64) % 256 = 192 + s / 64 by omega, show (128 + s % 64) % 256 = 128 + s % 64 by omega]
    · rw [if_neg c2, if_neg c2]
      by_cases c3 : s < 65536
      · rw [if_pos c3, if_pos c3, w64 (x := 224 + s / 4096) (by omega) (by omega), w64 (x := 128 + s % 64) (by omega) (by omega), w64 (x := 128 + s / 64 % 64) (by omega) (by omega), show (224 + s / 4096) % 256 = 224 + s / 4096 by omega, show (128 + s % 64) % 256 = 128 + s % 64 by omega, show (128 + s / 64 % 64) % 256 = 128 + s / 64 % 64 by omega]
      · rw [if_neg c3, if_neg c3, w64 (x := 240 + s / 262144) (by omega) (by omega), w64 (x := 128 + s % 64) (by omega) (by omega), w64 (x := 128 + s / 64 % 64) (by omega) (by omega), w64 (x := 128 + s / 4096 % 64) (by omega) (by omega), show (240 + s / 262144) % 256 = 240 + s / 262144 by omega, show (128 + s % 64) % 256 = 128 + s % 64 by omega, show (128 + s / 64 % 64) % 256 = 128 + s / 64 % 64 by omega, show (128 + s / 4096 % 64) % 256 = 128 + s / 4096 % 64 by omega]
/-- a number that would do -/
def okB (z n w x : Int) : Bool := decide (n ≤ x ∧ x < n + w) && (scalB x && decide (((encS x).length : Int) = z))
theorem l3_step {z n w : Int} {y : List Int} {i k : Nat} (hn : 0 ≤ n) (hn2 : n ≤ 4294967296) (hw : 0 ≤ w) (hw2 : w ≤ 4294967296) (hi : i < y.length) (hy : y.length ≤ 10) :
    lontarlaw01_begins.l3 (k + 1) z n w y (y.length : Int) (i : Int) = if okB z n w (y.getD i 0) = true then some true else lontarlaw01_begins.l3 k z n w y (y.length : Int) ((i + 1 : Nat) : Int) := by
  have hr : rd y (i : Int) = y.getD i 0 := rfl
  have h1 : wrap64 ((i : Int) + 1) = ((i + 1 : Nat) : Int) := by rw [w64 (by omega) (by omega)]; rfl
  rw [lontarlaw01_begins.l3, if_pos (by omega), if_pos (by omega), if_pos (by omega), hr, h1, w64 (x := n + w) (by omega) (by omega), lscal_is]
  generalize y.getD i 0 = x
  unfold okB
  by_cases c1 : n ≤ x
  · by_cases c2 : x < n + w
    · rw [if_pos (show x ≥ n from c1), if_pos c2, decide_eq_true (show n ≤ x ∧ x < n + w from ⟨c1, c2⟩)]
      by_cases c3 : scalB x = true
      · rw [c3]
        simp only [Option.bind_some, if_true, Bool.true_and]
        rw [lbytes_is c3]
        simp only [Option.bind_some, strOfNums_size, decide_eq_true_eq]
      · rw [Bool.eq_false_iff.mpr c3]; simp
    · rw [if_pos (show x ≥ n from c1), if_neg c2, decide_eq_false (fun h => c2 h.2)]; simp
  · rw [if_neg (show ¬ x ≥ n from c1), decide_eq_false (fun h => c1 h.1)]; simp
theorem l3_is {z n w : Int} {a b c : Int} (k : Nat) (hn : 0 ≤ n) (hn2 : n ≤ 4294967296) (hw : 0 ≤ w) (hw2 : w ≤ 4294967296) :
    lontarlaw01_begins.l3 (k + 4) z n w [a, b, c] 3 0 = some (okB z n w a || (okB z n w b || okB z n w c)) := by
  have h0 := l3_step (z := z) (n := n) (w := w) (y := [a, b, c]) (i := 0) (k := k + 3) hn hn2 hw hw2 (by simp) (by simp)
  have h1 := l3_step (z := z) (n := n) (w := w) (y := [a, b, c]) (i := 1) (k := k + 2) hn hn2 hw hw2 (by simp) (by simp)
  have h2 := l3_step (z := z) (n := n) (w := w) (y := [a, b, c]) (i := 2) (k := k + 1) hn hn2 hw hw2 (by simp) (by simp)
  have h3 : lontarlaw01_begins.l3 (k + 1) z n w [a, b, c] (([a, b, c] : List Int).length : Int) ((3 : Nat) : Int) = some false := by rw [lontarlaw01_begins.l3, if_neg (by simp)]
  refine (show _ = lontarlaw01_begins.l3 (k + 3 + 1) z n w [a, b, c] (([a, b, c] : List Int).length : Int) ((0 : Nat) : Int) from rfl).trans ?_
  rw [h0, show (0 + 1 : Nat) = 1 from rfl, show k + 3 = k + 2 + 1 from rfl, h1, show (1 + 1 : Nat) = 2 from rfl, show k + 2 = k + 1 + 1 from rfl, h2, show (2 + 1 : Nat) = 3 from rfl, h3]
  show (if okB z n w a = true then some true else if okB z n w b = true then some true else if okB z n w c = true then some true else some false) = _
  cases okB z n w a <;> cases okB z n w b <;> cases okB z n w c <;> rfl
def low (z : Int) : Int := if z = 2 then 128 else if z = 3 then 2048 else 65536
def cand (z n w : Int) : Bool := okB z n w n || (okB z n w (n + w - 1) || okB z n w (mx n (low z)))
theorem l2_end {z n w : Int} (k : Nat) (hz : z = 2 ∨ z = 3 ∨ z = 4) (hn : 0 ≤ n) (hn2 : n ≤ 4294967296) (hw : 0 ≤ w) (hw2 : w ≤ 4294967296) : lontarlaw01_begins.l2 (k + 5) z n w z = some (cand z n w) := by
  have hl : rd [0, 0, 128, 2048, 65536] z = low z := by rcases hz with rfl | rfl | rfl <;> rfl
  have h5 : (([0, 0, 128, 2048, 65536] : List Int).length : Int) = 5 := rfl
  rw [show k + 5 = (k + 4) + 1 from rfl, lontarlaw01_begins.l2, if_neg (by omega)]
  simp only [Option.bind_some]
  rw [if_pos (by omega), h5, if_pos (by omega), hl, w64 (x := n + w) (by omega) (by omega), w64 (x := n + w - 1) (by omega) (by omega)]
  exact l3_is k hn hn2 hw hw2
theorem l2_more {z n w : Int} {i k : Nat} (hi : (i : Int) < z) (hz : z ≤ 4) (hw : 0 ≤ w) (hw2 : w ≤ 67108864) : lontarlaw01_begins.l2 (k + 1) z n w (i : Int) = lontarlaw01_begins.l2 k z n (w * 64) ((i + 1 : Nat) : Int) := by
  rw [lontarlaw01_begins.l2, if_pos hi, w64 (x := w * 64) (by omega) (by omega), w64 (x := (i : Int) + 1) (by omega) (by omega)]
  rfl
theorem l1_in {b : List Int} {z n : Int} {i k : Nat} (hi : (i : Int) < z) (hz : z ≤ 4) (hl : i < b.length) (hB : Bytes b) (hn : 0 ≤ n) (hn2 : n ≤ 67108864) :
    lontarlaw01_begins.l1 (k + 1) b z n (i : Int) = lontarlaw01_begins.l1 k b z (n * 64 + (b.getD i 0 - 128)) ((i + 1 : Nat) : Int) := by
  have hr : rd b (i : Int) = b.getD i 0 := rfl
  have hb := hB.at i
  rw [lontarlaw01_begins.l1, if_pos hi, if_pos (by omega), if_pos (by omega), hr, w64 (x := n * 64) (by omega) (by omega), w64 (x := b.getD i 0) (by omega) (by omega), w64 (x := b.getD i 0 - 128) (by omega) (by omega), w64 (x := n * 64 + (b.getD i 0 - 128)) (by omega) (by omega), w64 (x := (i : Int) + 1) (by omega) (by omega)]
  rfl
theorem l1_out {b : List Int} {z n : Int} {i k : Nat} (hi : (i : Int) < z) (hz : z ≤ 4) (hl : b.length ≤ i) (hn : 0 ≤ n) (hn2 : n ≤ 67108864) :
    lontarlaw01_begins.l1 (k + 1) b z n (i : Int) = lontarlaw01_begins.l1 k b z (n * 64) ((i + 1 : Nat) : Int) := by
  rw [lontarlaw01_begins.l1, if_pos hi, if_neg (by omega), w64 (x := n * 64) (by omega) (by omega), w64 (x := (i : Int) + 1) (by omega) (by omega)]
  rfl
theorem l1_end {b : List Int} {z n : Int} {k : Nat} : lontarlaw01_begins.l1 (k + 1) b z n z = lontarlaw01_begins.l2 k z n 1 (b.length : Int) := by rw [lontarlaw01_begins.l1, if_neg (by omega)]
theorem j3_big {b : List Int} {z n : Int} {k : Nat} (h : z ≤ b.length) : lontarlaw01_begins.j3 (k + 1) b z n = some false := by rw [lontarlaw01_begins.j3, if_pos h]
theorem j3_small {b : List Int} {z n : Int} {k : Nat} (h : (b.length : Int) < z) : lontarlaw01_begins.j3 (k + 1) b z n = lontarlaw01_begins.l1 k b z n 1 := by rw [lontarlaw01_begins.j3, if_neg (by omega)]
section
variable {c d e n : Int} {k : Nat}
theorem b21 (hB : Bytes [c]) (hn : 0 ≤ n) (h1 : n ≤ 64) : lontarlaw01_begins.j3 (k + 20) [c] 2 n = some (cand 2 (n * 64) 64) := by
  rw [j3_small (k := k + 19) (by simp), show (1 : Int) = ((1 : Nat) : Int) from rfl, l1_out (k := k + 18) (by omega) (by omega) (by simp) hn (by omega)]
  rw [show (((1 + 1 : Nat) : Nat) : Int) = 2 from rfl, l1_end (k := k + 17), show (([c] : List Int).length : Int) = ((1 : Nat) : Int) from rfl, l2_more (k := k + 16) (by omega) (by omega) (by omega) (by omega)]
  exact l2_end (k + 11) (.inl rfl) (by omega) (by omega) (by omega) (by omega)
theorem b31 (hB : Bytes [c]) (hn : 0 ≤ n) (h1 : n ≤ 64) : lontarlaw01_begins.j3 (k + 20) [c] 3 n = some (cand 3 (n * 64 * 64) 4096) := by
  rw [j3_small (k := k + 19) (by simp), show (1 : Int) = ((1 : Nat) : Int) from rfl, l1_out (k := k + 18) (by omega) (by omega) (by simp) hn (by omega), l1_out (k := k + 17) (by omega) (by omega) (by simp) (by omega) (by omega)]
  rw [show (((1 + 1 + 1 : Nat) : Nat) : Int) = 3 from rfl, l1_end (k := k + 16), show (([c] : List Int).length : Int) = ((1 : Nat) : Int) from rfl, l2_more (k := k + 15) (by omega) (by omega) (by omega) (by omega), l2_more (k := k + 14) (by omega) (by omega) (by omega) (by omega)]
  exact l2_end (k + 9) (.inr (.inl rfl)) (by omega) (by omega) (by omega) (by omega)
theorem b41 (hB : Bytes [c]) (hn : 0 ≤ n) (h1 : n ≤ 64) : lontarlaw01_begins.j3 (k + 20) [c] 4 n = some (cand 4 (n * 64 * 64 * 64) 262144) := by
  rw [j3_small (k := k + 19) (by simp), show (1 : Int) = ((1 : Nat) : Int) from rfl, l1_out (k := k + 18) (by omega) (by omega) (by simp) hn (by omega), l1_out (k := k + 17) (by omega) (by omega) (by simp) (by omega) (by omega), l1_out (k := k + 16) (by omega) (by omega) (by simp) (by omega) (by omega)]
  rw [show (((1 + 1 + 1 + 1 : Nat) : Nat) : Int) = 4 from rfl, l1_end (k := k + 15), show (([c] : List Int).length : Int) = ((1 : Nat) : Int) from rfl, l2_more (k := k + 14) (by omega) (by omega) (by omega) (by omega), l2_more (k := k + 13) (by omega) (by omega) (by omega) (by omega), l2_more (k := k + 12) (by omega) (by omega) (by omega) (by omega)]
  exact l2_end (k + 7) (.inr (.inr rfl)) (by omega) (by omega) (by omega) (by omega)
theorem b32 (hB : Bytes [c, d]) (hd : 128 ≤ d) (hn : 0 ≤ n) (h1 : n ≤ 64) : lontarlaw01_begins.j3 (k + 20) [c, d] 3 n = some (cand 3 ((n * 64 + (d - 128)) * 64) 64) := by
  have hb := hB d (by simp)
  rw [j3_small (k := k + 19) (by simp), show (1 : Int) = ((1 : Nat) : Int) from rfl, l1_in (k := k + 18) (by omega) (by omega) (by simp) hB hn (by omega), show ([c, d] : List Int).getD 1 0 = d from rfl, l1_out (k := k + 17) (by omega) (by omega) (by simp) (by omega) (by omega)]
  rw [show (((1 + 1 + 1 : Nat) : Nat) : Int) = 3 from rfl, l1_end (k := k + 16), show (([c, d] : List Int).length : Int) = ((2 : Nat) : Int) from rfl, l2_more (k := k + 15) (by omega) (by omega) (by omega) (by omega)]
  exact l2_end (k + 10) (.inr (.inl rfl)) (by omega) (by omega) (by omega) (by omega)
theorem b42 (hB : Bytes [c, d]) (hd : 128 ≤ d) (hn : 0 ≤ n) (h1 : n ≤ 64) : lontarlaw01_begins.j3 (k + 20) [c, d] 4 n = some (cand 4 ((n * 64 + (d - 128)) * 64 * 64) 4096) := by
  have hb := hB d (by simp)
  rw [j3_small (k := k + 19) (by simp), show (1 : Int) = ((1 : Nat) : Int) from rfl, l1_in (k := k + 18) (by omega) (by omega) (by simp) hB hn (by omega), show ([c, d] : List Int).getD 1 0 = d from rfl, l1_out (k := k + 17) (by omega) (by omega) (by simp) (by omega) (by omega), l1_out (k := k + 16) (by omega) (by omega) (by simp) (by omega) (by omega)]
  rw [show (((1 + 1 + 1 + 1 : Nat) : Nat) : Int) = 4 from rfl, l1_end (k := k + 15), show (([c, d] : List Int).length : Int) = ((2 : Nat) : Int) from rfl, l2_more (k := k + 14) (by omega) (by omega) (by omega) (by omega), l2_more (k := k + 13) (by omega) (by omega) (by omega) (by omega)]
  exact l2_end (k + 8) (.inr (.inr rfl)) (by omega) (by omega) (by omega) (by omega)
theorem b43 (hB : Bytes [c, d, e]) (hd : 128 ≤ d) (he : 128 ≤ e) (hn : 0 ≤ n) (h1 : n ≤ 64) : lontarlaw01_begins.j3 (k + 20) [c, d, e] 4 n = some (cand 4 (((n * 64 + (d - 128)) * 64 + (e - 128)) * 64) 64) := by
  have hb := hB d (by simp)
  have hb2 := hB e (by simp)
  rw [j3_small (k := k + 19) (by simp), show (1 : Int) = ((1 : Nat) : Int) from rfl, l1_in (k := k + 18) (by omega) (by omega) (by simp) hB hn (by omega), show ([c, d, e] : List Int).getD 1 0 = d from rfl, l1_in (k := k + 17) (by omega) (by omega) (by simp) hB (by omega) (by omega), show ([c, d, e] : List Int).getD (1 + 1) 0 = e from rfl, l1_out (k := k + 16) (by omega) (by omega) (by simp) (by omega) (by omega)]
  rw [show (((1 + 1 + 1 + 1 : Nat) : Nat) : Int) = 4 from rfl, l1_end (k := k + 15), show (([c, d, e] : List Int).length : Int) = ((3 : Nat) : Int) from rfl, l2_more (k := k + 14) (by omega) (by omega) (by omega) (by omega)]
  exact l2_end (k + 9) (.inr (.inr rfl)) (by omega) (by omega) (by omega) (by omega)
end
/-- the law's lead: how many bytes it wants, and its bits -/
def leadL (c : Int) : Int × Int := if 192 ≤ c ∧ c < 224 then (2, c - 192) else if 224 ≤ c ∧ c < 240 then (3, c - 224) else if 240 ≤ c ∧ c < 248 then (4, c - 240) else (0, 0)
theorem head_is {b : List Int} {r : Bool} {k : Nat} (h : b ≠ []) (hB : Bytes b) (hj : ∀ k, 30 ≤ k → lontarlaw01_begins.j3 k b (leadL (b.getD 0 0)).1 (leadL (b.getD 0 0)).2 = some r) (hk : 34 ≤ k) :
    (if 0 < (b.length : Int) then (if (rd b 0) ≥ 192 then (lontarlaw01_begins.j1 k b 0 0 (decide ((rd b 0) < 224))) else (lontarlaw01_begins.j1 k b 0 0 false)) else (none)) = some r := by
  have hl : (0 : Int) < b.length := by have : b.length ≠ 0 := fun e => h (List.eq_nil_of_length_eq_zero e); omega
  have hc := hB.at 0
  obtain ⟨c, hr⟩ : ∃ c, rd b 0 = c := ⟨_, rfl⟩
  have hr2 : b.getD 0 0 = c := hr
  rw [hr2] at hc hj
  obtain ⟨k, rfl⟩ : ∃ k2, k = k2 + 2 := ⟨k - 2, by omega⟩
  rw [if_pos hl, hr]
  unfold leadL at hj
  by_cases a1 : c ≥ 192
  · rw [if_pos a1]
    by_cases a2 : c < 224
    · rw [if_pos (show 192 ≤ c ∧ c < 224 from ⟨a1, a2⟩)] at hj
      rw [decide_eq_true a2, lontarlaw01_begins.j1, if_pos rfl, if_pos hl, hr, w64 (x := c) (by omega) (by omega), w64 (x := c - 192) (by omega) (by omega)]
      exact hj _ (by omega)
    · rw [if_neg (show ¬ (192 ≤ c ∧ c < 224) from fun h => a2 h.2)] at hj
      rw [decide_eq_false a2, lontarlaw01_begins.j1, if_neg (by decide), if_pos hl, hr, if_pos (show c ≥ 224 by omega)]
      by_cases a3 : c < 240
      · rw [if_pos (show 224 ≤ c ∧ c < 240 by omega)] at hj
        rw [decide_eq_true a3, lontarlaw01_begins.j2, if_pos rfl, if_pos hl, hr, w64 (x := c) (by omega) (by omega), w64 (x := c - 224) (by omega) (by omega)]
        exact hj _ (by omega)
      · rw [if_neg (show ¬ (224 ≤ c ∧ c < 240) by omega)] at hj
        rw [decide_eq_false a3, lontarlaw01_begins.j2, if_neg (by decide), if_pos hl, hr, if_pos (show c ≥ 240 by omega)]
        by_cases a4 : c < 248
        · rw [if_pos (show 240 ≤ c ∧ c < 248 by omega)] at hj
          rw [if_pos a4, w64 (x := c) (by omega) (by omega), w64 (x := c - 240) (by omega) (by omega)]
          exact hj _ (by omega)
        · rw [if_neg (show ¬ (240 ≤ c ∧ c < 248) by omega)] at hj
          rw [if_neg a4]
          exact hj _ (by omega)
  · rw [if_neg (show ¬ (192 ≤ c ∧ c < 224) by omega), if_neg (show ¬ (224 ≤ c ∧ c < 240) by omega), if_neg (show ¬ (240 ≤ c ∧ c < 248) by omega)] at hj
    rw [if_neg a1, lontarlaw01_begins.j1, if_neg (by decide), if_pos hl, hr, if_neg (show ¬ c ≥ 224 by omega), lontarlaw01_begins.j2, if_neg (by decide), if_pos hl, hr, if_neg (show ¬ c ≥ 240 by omega)]
    exact hj _ (by omega)
def contB (t : List Int) : Bool := t.all fun d => decide (128 ≤ d) && decide (d ≤ 191)
theorem l0_is {b t : List Int} {k : Nat} (ht : t.length ≤ 100) : ∀ (m i : Nat), i + m = t.length →
    lontarlaw01_begins.l0 (k + m + 1) b t (t.length : Int) (i : Int) = if contB (t.drop i) = true then (if 0 < (b.length : Int) then (if (rd b 0) ≥ 192 then (lontarlaw01_begins.j1 k b 0 0 (decide ((rd b 0) < 224))) else (lontarlaw01_begins.j1 k b 0 0 false)) else (none)) else some false := by
  intro m
  induction m with
  | zero =>
    intro i hi
    rw [lontarlaw01_begins.l0, if_neg (by omega), List.drop_eq_nil_of_le (by omega)]
    rfl
  | succ m ih =>
    intro i hi
    have hd := List.drop_eq_getElem_cons (show i < t.length by omega)
    have hr : rd t (i : Int) = t[i] := by unfold rd; simp [List.getElem?_eq_getElem (show i < t.length by omega)]
    have hih := ih (i + 1) (by omega)
    rw [show k + (m + 1) + 1 = (k + m + 1) + 1 from rfl, lontarlaw01_begins.l0, if_pos (by omega), if_pos (by omega), if_pos (by omega), hr, w64 (x := (i : Int) + 1) (by omega) (by omega), hd]
    rw [show (i : Int) + 1 = ((i + 1 : Nat) : Int) from rfl, hih]
    unfold contB
    rw [List.all_cons]
    by_cases c1 : t[i] < 128
    · rw [if_pos c1, decide_eq_false (show ¬ 128 ≤ t[i] by omega)]; simp
    · rw [if_neg c1, decide_eq_true (show 128 ≤ t[i] by omega)]
      by_cases c2 : t[i] > 191
      · rw [if_pos c2, decide_eq_false (show ¬ t[i] ≤ 191 by omega)]; simp
      · rw [if_neg c2, decide_eq_true (show t[i] ≤ 191 by omega)]; simp
theorem begins_at {b : List Int} {r : Bool} (h : b ≠ []) (hB : Bytes b) (hl : b.length ≤ 4) (hj : contB (b.drop 1) = true → ∀ k, 30 ≤ k → lontarlaw01_begins.j3 k b (leadL (b.getD 0 0)).1 (leadL (b.getD 0 0)).2 = some r) (hn : contB (b.drop 1) = false → r = false) :
    lontarlaw01_begins.f 40 b = some r := by
  have h0 : b.length ≠ 0 := fun e => h (List.eq_nil_of_length_eq_zero e)
  have hd : (b.drop 1).length = b.length - 1 := by simp
  unfold lontarlaw01_begins.f
  rw [if_pos (by omega)]
  have := l0_is (b := b) (t := b.drop 1) (k := 40 - (b.drop 1).length - 1) (by omega) (b.drop 1).length 0 (by omega)
  rw [show 40 - (b.drop 1).length - 1 + (b.drop 1).length + 1 = 40 by omega, List.drop_zero] at this
  refine (show _ = lontarlaw01_begins.l0 40 b (b.drop 1) ((b.drop 1).length : Int) ((0 : Nat) : Int) from rfl).trans (this.trans ?_)
  by_cases hc : contB (b.drop 1) = true
  · rw [if_pos hc]
    exact head_is h hB (hj hc) (by omega)
  · rw [if_neg hc, hn (by simpa using hc)]
theorem okB_2 {n w x : Int} : (okB 2 n w x = true) ↔ (n ≤ x ∧ x < n + w ∧ 128 ≤ x ∧ x < 2048) := by
  unfold okB scalB encS
  simp only [Bool.and_eq_true, decide_eq_true_eq]
  by_cases c1 : x < 128
  · rw [if_pos c1]; simp; omega
  · rw [if_neg c1]
    by_cases c2 : x < 2048
    · rw [if_pos c2]; simp; omega
    · rw [if_neg c2]
      by_cases c3 : x < 65536
      · rw [if_pos c3]; simp; omega
      · rw [if_neg c3]; simp; omega
theorem okB_3 {n w x : Int} : (okB 3 n w x = true) ↔ (n ≤ x ∧ x < n + w ∧ 2048 ≤ x ∧ x < 65536 ∧ (x < 55296 ∨ 57343 < x)) := by
  unfold okB scalB encS
  simp only [Bool.and_eq_true, decide_eq_true_eq]
  by_cases c1 : x < 128
  · rw [if_pos c1]; simp; omega
  · rw [if_neg c1]
    by_cases c2 : x < 2048
    · rw [if_pos c2]; simp; omega
    · rw [if_neg c2]
      by_cases c3 : x < 65536
      · rw [if_pos c3]; simp; omega
      · rw [if_neg c3]; simp; omega
theorem okB_4 {n w x : Int} : (okB 4 n w x = true) ↔ (n ≤ x ∧ x < n + w ∧ 65536 ≤ x ∧ x ≤ 1114111) := by
  unfold okB scalB encS
  simp only [Bool.and_eq_true, decide_eq_true_eq]
  by_cases c1 : x < 128
  · rw [if_pos c1]; simp; omega
  · rw [if_neg c1]
    by_cases c2 : x < 2048
    · rw [if_pos c2]; simp; omega
    · rw [if_neg c2]
      by_cases c3 : x < 65536
      · rw [if_pos c3]; simp; omega
      · rw [if_neg c3]; simp; omega
theorem mx_is (a b : Int) : (a < b ∧ mx a b = b) ∨ (b ≤ a ∧ mx a b = a) := by unfold mx; split <;> omega
theorem cand_2 {n w : Int} (hw : 1 ≤ w) (h : 128 ≤ n + w - 1) (h2 : n + w - 1 < 2048) : cand 2 n w = true := by
  unfold cand; rw [Bool.or_eq_true, Bool.or_eq_true, okB_2, okB_2]; omega
theorem cand_2n {n w : Int} (hn : 0 ≤ n) (h : n + w - 1 < 128) : cand 2 n w = false := by
  unfold cand; rw [← Bool.not_eq_true, Bool.or_eq_true, Bool.or_eq_true, okB_2, okB_2, okB_2]
  omega
theorem cand_3 {n w : Int} : cand 3 n w = true ↔ ((n ≤ n ∧ n < n + w ∧ 2048 ≤ n ∧ n < 65536 ∧ (n < 55296 ∨ 57343 < n)) ∨ (n ≤ n + w - 1 ∧ n + w - 1 < n + w ∧ 2048 ≤ n + w - 1 ∧ n + w - 1 < 65536 ∧ (n + w - 1 < 55296 ∨ 57343 < n + w - 1)) ∨ (n ≤ mx n 2048 ∧ mx n 2048 < n + w ∧ 2048 ≤ mx n 2048 ∧ mx n 2048 < 65536 ∧ (mx n 2048 < 55296 ∨ 57343 < mx n 2048))) := by
  unfold cand; rw [Bool.or_eq_true, Bool.or_eq_true, okB_3, okB_3, okB_3]; exact Iff.rfl
theorem cand_4 {n w : Int} : cand 4 n w = true ↔ ((n ≤ n ∧ n < n + w ∧ 65536 ≤ n ∧ n ≤ 1114111) ∨ (n ≤ n + w - 1 ∧ n + w - 1 < n + w ∧ 65536 ≤ n + w - 1 ∧ n + w - 1 ≤ 1114111) ∨ (n ≤ mx n 65536 ∧ mx n 65536 < n + w ∧ 65536 ≤ mx n 65536 ∧ mx n 65536 ≤ 1114111)) := by
  unfold cand; rw [Bool.or_eq_true, Bool.or_eq_true, okB_4, okB_4, okB_4]; exact Iff.rfl
end Go.Proofs.Ytdhpldiahgajcaa.PUtfAll
