/- Plain laws of the law package's own reading of UTF-8: 'one' is utf.One, its All is utf.All. No condition but bytes and sizes. -/
import Derived.Test.YtdhpldiahgajcaaV9
namespace Go.Proofs.Ytdhpldiahgajcaa.PUtfAll
open Go.RowKit Go.Proofs.YtdhpldiahgajcaaW.PrintWords Go.Proofs.Ytdhpldiahgajcaa
set_option linter.unusedVariables false
set_option linter.unusedSimpArgs false
theorem and_u8 {x : Int} (h0 : 0 ≤ x) (h1 : x < 256) : Go.bits .and .u8 x 31 = x % 32 ∧ Go.bits .and .u8 x 63 = x % 64 ∧ Go.bits .and .u8 x 15 = x % 16 ∧ Go.bits .and .u8 x 7 = x % 8 := by
  have H : ∀ n : Nat, n < 256 → Go.bits .and .u8 (n : Int) 31 = (n : Int) % 32 ∧ Go.bits .and .u8 (n : Int) 63 = (n : Int) % 64 ∧ Go.bits .and .u8 (n : Int) 15 = (n : Int) % 16 ∧ Go.bits .and .u8 (n : Int) 7 = (n : Int) % 8 := by decide +kernel
  obtain ⟨n, rfl⟩ := Int.eq_ofNat_of_zero_le h0
  exact H n (by omega)
/-- what n bytes would tell -/
def dV (l : List Int) (n : Nat) : Int :=
  if n = 1 then l.getD 0 0 else if n = 2 then l.getD 0 0 % 32 * 64 + l.getD 1 0 % 64 else if n = 3 then l.getD 0 0 % 16 * 4096 + l.getD 1 0 % 64 * 64 + l.getD 2 0 % 64
  else l.getD 0 0 % 8 * 262144 + l.getD 1 0 % 64 * 4096 + l.getD 2 0 % 64 * 64 + l.getD 3 0 % 64
set_option maxHeartbeats 2000000 in
theorem j1_go {l : List Int} {n k : Nat} (hB : Bytes l) (h1 : 1 ≤ n) (h4 : n ≤ 4) (hl : n ≤ l.length) : lontarlaw01_one.j1 (k + 1) l (n : Int) true = lontarlaw01_one.j2 k l (n : Int) (dV l n) := by
  have r0 : rd l 0 = l.getD 0 0 := rfl
  have r1 : rd l 1 = l.getD 1 0 := rfl
  have r2 : rd l 2 = l.getD 2 0 := rfl
  have r3 : rd l 3 = l.getD 3 0 := rfl
  obtain ⟨a0, a1⟩ := hB.at 0
  obtain ⟨b0, b1⟩ := hB.at 1
  obtain ⟨c0, c1⟩ := hB.at 2
  obtain ⟨d0, d1⟩ := hB.at 3
  obtain ⟨p1, p2, p3, p4⟩ := and_u8 a0 a1
  obtain ⟨_, q2, _, _⟩ := and_u8 b0 b1
  obtain ⟨_, s2, _, _⟩ := and_u8 c0 c1
  obtain ⟨_, t2, _, _⟩ := and_u8 d0 d1
  have e1 : dV l 1 = l.getD 0 0 := rfl
  have e2 : dV l 2 = l.getD 0 0 % 32 * 64 + l.getD 1 0 % 64 := rfl
  have e3 : dV l 3 = l.getD 0 0 % 16 * 4096 + l.getD 1 0 % 64 * 64 + l.getD 2 0 % 64 := rfl
  have e4 : dV l 4 = l.getD 0 0 % 8 * 262144 + l.getD 1 0 % 64 * 4096 + l.getD 2 0 % 64 * 64 + l.getD 3 0 % 64 := rfl
  rw [lontarlaw01_one.j1, if_pos rfl, r0, r1, r2, r3, p1, p3, p4, q2, s2, t2]
  obtain ⟨x, hx⟩ : ∃ x, dV l n = x := ⟨_, rfl⟩
  rw [hx]
  obtain rfl | rfl | rfl | rfl : n = 1 ∨ n = 2 ∨ n = 3 ∨ n = 4 := by omega
  · rw [if_pos (show ((1 : Nat) : Int) = 1 from rfl), if_pos (by omega), w64 (by omega) (by omega), ← hx, e1]
  · rw [if_neg (show ¬ ((2 : Nat) : Int) = 1 by omega), if_pos (show ((2 : Nat) : Int) = 2 from rfl), if_pos (by omega), if_pos (by omega), w64 (x := l.getD 0 0 % 32) (by omega) (by omega), w64 (x := l.getD 1 0 % 64) (by omega) (by omega), w64 (x := l.getD 0 0 % 32 * 64) (by omega) (by omega), w64 (x := l.getD 0 0 % 32 * 64 + l.getD 1 0 % 64) (by omega) (by omega), ← hx, e2]
  · rw [if_neg (show ¬ ((3 : Nat) : Int) = 1 by omega), if_neg (show ¬ ((3 : Nat) : Int) = 2 by omega), if_pos (show ((3 : Nat) : Int) = 3 from rfl), if_pos (by omega), if_pos (by omega), if_pos (by omega), w64 (x := l.getD 0 0 % 16) (by omega) (by omega), w64 (x := l.getD 1 0 % 64) (by omega) (by omega), w64 (x := l.getD 2 0 % 64) (by omega) (by omega), w64 (x := l.getD 0 0 % 16 * 4096) (by omega) (by omega), w64 (x := l.getD 1 0 % 64 * 64) (by omega) (by omega), w64 (x := l.getD 0 0 % 16 * 4096 + l.getD 1 0 % 64 * 64) (by omega) (by omega), w64 (x := l.getD 0 0 % 16 * 4096 + l.getD 1 0 % 64 * 64 + l.getD 2 0 % 64) (by omega) (by omega), ← hx, e3]
  · rw [if_neg (show ¬ ((4 : Nat) : Int) = 1 by omega), if_neg (show ¬ ((4 : Nat) : Int) = 2 by omega), if_neg (show ¬ ((4 : Nat) : Int) = 3 by omega), if_pos (by omega), if_pos (by omega), if_pos (by omega), if_pos (by omega), w64 (x := l.getD 0 0 % 8) (by omega) (by omega), w64 (x := l.getD 1 0 % 64) (by omega) (by omega), w64 (x := l.getD 2 0 % 64) (by omega) (by omega), w64 (x := l.getD 3 0 % 64) (by omega) (by omega), w64 (x := l.getD 0 0 % 8 * 262144) (by omega) (by omega), w64 (x := l.getD 1 0 % 64 * 4096) (by omega) (by omega), w64 (x := l.getD 2 0 % 64 * 64) (by omega) (by omega),
      w64 (x := l.getD 0 0 % 8 * 262144 + l.getD 1 0 % 64 * 4096) (by omega) (by omega), w64 (x := l.getD 0 0 % 8 * 262144 + l.getD 1 0 % 64 * 4096 + l.getD 2 0 % 64 * 64) (by omega) (by omega), w64 (x := l.getD 0 0 % 8 * 262144 + l.getD 1 0 % 64 * 4096 + l.getD 2 0 % 64 * 64 + l.getD 3 0 % 64) (by omega) (by omega), ← hx, e4]
theorem j2_go {l : List Int} {n k : Nat} {s : Int} (hB : Bytes l) (hl : n ≤ l.length) (hn : n ≤ 100) : lontarlaw01_one.j2 (k + 1) l (n : Int) s = if scalB s = true ∧ encS s = l.take n then some (s, (n : Int), 0) else lontarlaw01_one.l0 k l ((n + 1 : Nat) : Int) := by
  rw [lontarlaw01_one.j2, lscal_is, w64 (x := (n : Int) + 1) (by omega) (by omega)]
  simp only [Option.bind_some]
  by_cases h : scalB s = true
  · rw [if_pos h, lbytes_is h]
    simp only [Option.bind_some]
    rw [if_pos (by omega), if_pos (by omega), Int.toNat_natCast]
    by_cases he : encS s = l.take n
    · rw [if_pos (by rw [he]), if_pos ⟨h, he⟩]
    · rw [if_neg (fun hh => he (str_inj (enc_bytes h) (hB.take n) hh)), if_neg (fun hh => he hh.2)]
      rfl
  · rw [if_neg h, if_neg (fun hh => h hh.1)]
    rfl
theorem l0_go {l : List Int} {n k : Nat} (hB : Bytes l) (h1 : 1 ≤ n) (h4 : n ≤ 4) (hl : n ≤ l.length) :
    lontarlaw01_one.l0 (k + 3) l (n : Int) = if scalB (dV l n) = true ∧ encS (dV l n) = l.take n then some (dV l n, (n : Int), 0) else lontarlaw01_one.l0 k l ((n + 1 : Nat) : Int) := by
  rw [show k + 3 = (k + 2) + 1 from rfl, lontarlaw01_one.l0, if_pos (by omega), decide_eq_true (show (n : Int) ≤ (l.length : Int) by omega), j1_go hB h1 h4 hl, j2_go hB hl (by omega)]
theorem l0_out {l : List Int} {n k : Nat} (h : 4 < n ∨ l.length < n) : lontarlaw01_one.l0 (k + 2) l (n : Int) = lontarlaw01_one.l1 k l 0 := by
  rw [show k + 2 = (k + 1) + 1 from rfl, lontarlaw01_one.l0]
  by_cases h4 : (n : Int) ≤ 4
  · rw [if_pos h4, decide_eq_false (by omega), lontarlaw01_one.j1, if_neg (by decide)]
  · rw [if_neg h4, lontarlaw01_one.j1, if_neg (by decide)]
/-- bytes that are a scalar's are told so -/
theorem one_hit {l : List Int} {s : Int} {n : Nat} (h : scalB s = true) (he : encS s = l.take n) (hl : n ≤ l.length) : oneF l = (s, (n : Int), 0) := by
  have h1 := one_enc h (l.drop n)
  rw [he, List.take_append_drop] at h1
  rw [h1, List.length_take, show min n l.length = n by omega]
set_option maxHeartbeats 2000000 in
theorem dec_enc {l : List Int} {s : Int} {n : Nat} (h : scalB s = true) (he : l.take n = encS s) (hn : n = (encS s).length) : dV l n = s := by
  obtain ⟨h0, h1, _⟩ := scal_bd h
  have hg : ∀ i, i < n → l.getD i 0 = (encS s).getD i 0 := fun i hi => by
    rw [← he]
    simp [List.getElem?_take, hi]
  unfold encS at hn hg
  unfold dV
  by_cases c1 : s < 128
  · rw [if_pos c1] at hn hg
    obtain rfl : n = 1 := hn
    rw [if_pos rfl, hg 0 (by omega)]; rfl
  · rw [if_neg c1] at hn hg
    by_cases c2 : s < 2048
    · rw [if_pos c2] at hn hg
      obtain rfl : n = 2 := hn
      rw [if_neg (by omega), if_pos rfl, hg 0 (by omega), hg 1 (by omega)]
      show (192 + s / 64) % 32 * 64 + (128 + s % 64) % 64 = s
      omega
    · rw [if_neg c2] at hn hg
      by_cases c3 : s < 65536
      · rw [if_pos c3] at hn hg
        obtain rfl : n = 3 := hn
        rw [if_neg (by omega), if_neg (by omega), if_pos rfl, hg 0 (by omega), hg 1 (by omega), hg 2 (by omega)]
        show (224 + s / 4096) % 16 * 4096 + (128 + s / 64 % 64) % 64 * 64 + (128 + s % 64) % 64 = s
        omega
      · rw [if_neg c3] at hn hg
        obtain rfl : n = 4 := hn
        rw [if_neg (by omega), if_neg (by omega), if_neg (by omega), hg 0 (by omega), hg 1 (by omega), hg 2 (by omega), hg 3 (by omega)]
        show (240 + s / 262144) % 8 * 262144 + (128 + s / 4096 % 64) % 64 * 4096 + (128 + s / 64 % 64) % 64 * 64 + (128 + s % 64) % 64 = s
        omega
theorem one_yes {l : List Int} {s : Int} {m k : Nat} (hB : Bytes l) (h : oneF l = (s, (m : Int), 0)) : ∀ (j n : Nat), n + j = m → 1 ≤ n → lontarlaw01_one.l0 (k + 3 * j + 3) l (n : Int) = some (s, (m : Int), 0) := by
  obtain ⟨hs, ht, hm⟩ := one_dec hB h
  rw [Int.toNat_natCast] at ht
  have hm2 : m = (encS s).length := by omega
  have hlen := enc_one_len (s := s)
  have hml : m ≤ l.length := by have := congrArg List.length ht; simp at this; omega
  intro j
  induction j with
  | zero =>
    intro n hn h1
    obtain rfl : n = m := by omega
    rw [show k + 3 * 0 + 3 = k + 3 from rfl, l0_go hB h1 (by omega) hml, dec_enc hs ht hm2, if_pos ⟨hs, ht.symm⟩]
  | succ j ih =>
    intro n hn h1
    rw [show k + 3 * (j + 1) + 3 = (k + 3 * j + 3) + 3 by omega, l0_go hB h1 (by omega) (by omega), if_neg, ih (n + 1) (by omega) (by omega)]
    rintro ⟨g1, g2⟩
    have := one_hit g1 g2 (by omega)
    rw [h] at this
    injection this with _ this
    injection this with this _
    omega
theorem one_no {l : List Int} {k : Nat} (hB : Bytes l) (h : (oneF l).2.2 ≠ 0) : ∀ (j n : Nat), n + j = min 4 l.length + 1 → 1 ≤ n → lontarlaw01_one.l0 (k + 3 * j + 2) l (n : Int) = lontarlaw01_one.l1 k l 0 := by
  intro j
  induction j with
  | zero =>
    intro n hn h1
    exact l0_out (by omega)
  | succ j ih =>
    intro n hn h1
    rw [show k + 3 * (j + 1) + 2 = (k + 3 * j + 2) + 3 by omega, l0_go hB h1 (by omega) (by omega), if_neg, ih (n + 1) (by omega) (by omega)]
    rintro ⟨g1, g2⟩
    have := one_hit g1 g2 (by omega)
    rw [this] at h
    exact h rfl
def finF (l : List Int) (n : Nat) : Int × Int × Int := if n = l.length then (0, (n : Int), 2) else (0, mx (n : Int) 1, 1)
theorem l1_go {l : List Int} {n k : Nat} (hB : Bytes l) (hn : n ≤ 4) (hk : 40 ≤ k) : lontarlaw01_one.l1 (k + 1) l (n : Int) = if n < l.length ∧ n < 4 ∧ (oneF (l.take (n + 1))).2.2 = 2 then lontarlaw01_one.l1 k l ((n + 1 : Nat) : Int) else some (finF l n) := by
  have hfin : (if (n : Int) = (l.length : Int) then (some (0, (n : Int), 2)) else (some (0, mx (n : Int) 1, 1))) = some (finF l n) := by
    unfold finF
    by_cases h : n = l.length
    · rw [if_pos (by omega), if_pos h]
    · rw [if_neg (by omega), if_neg h]
  rw [lontarlaw01_one.l1, hfin, w64 (x := (n : Int) + 1) (by omega) (by omega)]
  by_cases h1 : n < l.length
  · rw [if_pos (by omega)]
    by_cases h2 : n < 4
    · rw [if_pos (by omega), if_pos (by omega), if_pos (by omega), show ((n : Int) + 1).toNat = n + 1 by omega]
      have hl : (l.take (n + 1)).length = n + 1 := by simp; omega
      rw [begins_le (begins_is (fun e => by rw [e] at hl; simp at hl) (hB.take _) (by omega)) hk]
      simp only [Option.bind_some]
      by_cases h3 : (oneF (l.take (n + 1))).2.2 = 2
      · rw [if_pos (decide_eq_true h3), if_pos ⟨h1, h2, h3⟩]; rfl
      · rw [if_neg (by rw [decide_eq_false h3]; decide), if_neg (fun h => h3 h.2.2)]
    · rw [if_neg (by omega), if_neg (fun h => h2 h.2.1)]
  · rw [if_neg (by omega), if_neg (fun h => h1 h.1)]
/-- the count of beginnings: from n on to m, where it ends -/
theorem l1_run {l : List Int} {m k : Nat} (hB : Bytes l) (hm : m ≤ l.length) (hm4 : m ≤ 4) (hp : ∀ j, 1 ≤ j → j ≤ m → (oneF (l.take j)).2.2 = 2) (hq : m < l.length → m < 4 → (oneF (l.take (m + 1))).2.2 ≠ 2) :
    ∀ (j n : Nat), n + j = m → lontarlaw01_one.l1 (k + 40 + j + 1) l (n : Int) = some (finF l m) := by
  intro j
  induction j with
  | zero =>
    intro n hn
    obtain rfl : n = m := by omega
    rw [l1_go hB hm4 (by omega), if_neg (fun h => hq h.1 h.2.1 h.2.2)]
  | succ j ih =>
    intro n hn
    rw [show k + 40 + (j + 1) + 1 = (k + 40 + j + 1) + 1 from rfl, l1_go hB (by omega) (by omega), if_pos ⟨by omega, by omega, hp (n + 1) (by omega) (by omega)⟩]
    exact ih (n + 1) (by omega)
theorem go_zero (l : List Int) (z : Int) : ∀ (f k : Nat) (s lo hi : Int), (oneGo l z f k s lo hi).2.2 ≠ 0 → (oneGo l z f k s lo hi).1 = 0 := by
  intro f
  induction f with
  | zero => intro k s lo hi h; exact absurd rfl h
  | succ f ih =>
    intro k s lo hi h
    unfold oneGo at h ⊢
    by_cases h1 : (k : Int) = z
    · rw [if_pos h1] at h; exact absurd rfl h
    · rw [if_neg h1] at h ⊢
      by_cases h2 : k = l.length
      · rw [if_pos h2]
      · rw [if_neg h2] at h ⊢
        split
        · rfl
        · rename_i h3
          rw [if_neg h3] at h
          exact ih _ _ _ _ h
theorem one_zero {l : List Int} (h : (oneF l).2.2 ≠ 0) : (oneF l).1 = 0 := by
  unfold oneF at h ⊢
  by_cases h0 : l.length = 0
  · rw [if_pos h0]
  · rw [if_neg h0] at h ⊢
    by_cases h1 : (leadF (l.getD 0 0)).1 = 0
    · rw [if_pos h1]
    · rw [if_neg h1] at h ⊢
      exact go_zero _ _ _ _ _ _ _ h
theorem go_badl (l l' : List Int) (z : Int) (m : Nat) (hl : m < l'.length) (hg : ∀ i, i ≤ m → l'.getD i 0 = l.getD i 0) : ∀ (f k : Nat) (s lo hi : Int), k ≤ m → m < l.length → (oneGo l z f k s lo hi).2.1 = (m : Int) → (oneGo l z f k s lo hi).2.2 = 1 → (oneGo l' z f k s lo hi).2.2 = 1 := by
  intro f
  induction f with
  | zero => intro k s lo hi _ _ _ h; exact absurd (show (0 : Int) = 1 from h) (by decide)
  | succ f ih =>
    intro k s lo hi hk hm h1 h2
    unfold oneGo at h1 h2 ⊢
    by_cases c1 : (k : Int) = z
    · rw [if_pos c1] at h2; exact absurd (show (0 : Int) = 1 from h2) (by decide)
    · rw [if_neg c1] at h1 h2 ⊢
      rw [if_neg (show ¬ k = l.length by omega)] at h1 h2
      rw [if_neg (show ¬ k = l'.length by omega), hg k hk]
      by_cases c2 : l.getD k 0 < lo ∨ hi < l.getD k 0
      · rw [if_pos c2]
      · rw [if_neg c2] at h1 h2 ⊢
        by_cases c3 : k = m
        · exfalso
          subst c3
          have hf : ∀ (f k2 : Nat) (s lo hi : Int), k < k2 → (oneGo l z f k2 s lo hi).2.2 = 1 → (k : Int) < (oneGo l z f k2 s lo hi).2.1 := by
            intro f
            induction f with
            | zero => intro k2 s lo hi _ h; exact absurd (show (0 : Int) = 1 from h) (by decide)
            | succ f ih2 =>
              intro k2 s lo hi hk2 h
              unfold oneGo at h ⊢
              by_cases d1 : (k2 : Int) = z
              · rw [if_pos d1] at h; exact absurd (show (0 : Int) = 1 from h) (by decide)
              · rw [if_neg d1] at h ⊢
                by_cases d2 : k2 = l.length
                · rw [if_pos d2] at h; exact absurd (show (2 : Int) = 1 from h) (by decide)
                · rw [if_neg d2] at h ⊢
                  by_cases d3 : l.getD k2 0 < lo ∨ hi < l.getD k2 0
                  · rw [if_pos d3]; show (k : Int) < (k2 : Int); omega
                  · rw [if_neg d3] at h ⊢
                    exact ih2 _ _ _ _ (by omega) h
          have := hf f (k + 1) _ _ _ (by omega) h2
          omega
        · exact ih _ _ _ _ (by omega) hm h1 h2
set_option maxHeartbeats 2000000 in
/-- the law's reading of what bytes begin with is utf.One's -/
theorem one_is {l : List Int} (hB : Bytes l) : lontarlaw01_one.f 100 l = some (oneF l) := by
  unfold lontarlaw01_one.f
  by_cases hnil : l = []
  · subst hnil
    have h1 := one_no (l := []) (k := 95) hB (by rw [one_nil]; decide) 1 0
    have h2 : lontarlaw01_one.l0 100 ([] : List Int) ((1 : Nat) : Int) = lontarlaw01_one.l1 98 [] 0 := l0_out (n := 1) (k := 98) (.inr (by decide))
    refine (show _ = lontarlaw01_one.l0 100 ([] : List Int) ((1 : Nat) : Int) from rfl).trans (h2.trans ?_)
    exact (l1_run (l := []) (m := 0) (k := 57) hB (by simp) (by omega) (fun j h1 h2 => by omega) (fun h => absurd h (by simp)) 0 0 rfl)
  · obtain ⟨m, s, e, h1, h2, h3, h4, h5, h6⟩ := one_far hnil hB
    refine (show _ = lontarlaw01_one.l0 100 l ((1 : Nat) : Int) from rfl).trans ?_
    by_cases he : e = 0
    · subst he
      rw [h1]
      have := one_yes (k := 97 - 3 * (m - 1)) hB h1 (m - 1) 1 (by omega) (by omega)
      rw [show 97 - 3 * (m - 1) + 3 * (m - 1) + 3 = 100 by omega] at this
      exact this
    · have hne : (oneF l).2.2 ≠ 0 := by rw [h1]; exact he
      have hs : s = 0 := by have := one_zero hne; rw [h1] at this; exact this
      have hn := one_no (k := 98 - 3 * (min 4 l.length)) hB hne (min 4 l.length) 1 (by omega) (by omega)
      rw [show 98 - 3 * (min 4 l.length) + 3 * (min 4 l.length) + 2 = 100 by omega] at hn
      rw [hn, h1, hs]
      -- prefixes that are decided decide all
      have hpre : ∀ j, 1 ≤ j → j ≤ l.length → (oneF (l.take j)).2.2 ≠ 2 → oneF l = oneF (l.take j) := fun j g1 g2 g3 => by
        have := one_ext (l.drop j) (fun e => by have := congrArg List.length e; rw [List.length_take, List.length_nil] at this; omega) g3
        rw [List.take_append_drop] at this
        exact this
      have run : ∀ M, M ≤ l.length → M ≤ 4 → (∀ j, 1 ≤ j → j ≤ M → (oneF (l.take j)).2.2 = 2) → (M < l.length → M < 4 → (oneF (l.take (M + 1))).2.2 ≠ 2) → lontarlaw01_one.l1 (98 - 3 * (min 4 l.length)) l 0 = some (finF l M) := by
        intro M g1 g2 g3 g4
        have := l1_run (k := 98 - 3 * (min 4 l.length) - 41 - M) hB g1 g2 g3 g4 M 0 (by omega)
        rw [show 98 - 3 * (min 4 l.length) - 41 - M + 40 + M + 1 = 98 - 3 * (min 4 l.length) by omega] at this
        exact this
      rcases h5 with h5 | h5 | h5
      · exact absurd h5 he
      · subst h5
        by_cases hz : (leadF (l.getD 0 0)).1 = 0
        · have hm1 : m = 1 := by
            have : oneF l = (0, 1, 1) := by unfold oneF; rw [if_neg (fun e => hnil (List.eq_nil_of_length_eq_zero e)), if_pos hz]
            rw [h1] at this
            injection this with _ this
            injection this with this _
            omega
          subst hm1
          have h10 : (oneF (l.take 1)).2.2 ≠ 2 := by
            obtain ⟨c, t, rfl⟩ : ∃ c t, l = c :: t := by cases l with | nil => exact absurd rfl hnil | cons c t => exact ⟨c, t, rfl⟩
            intro h
            exact ((one1 c).1 h).1 hz
          rw [run 0 (by omega) (by omega) (fun j g1 g2 => by omega) (fun _ _ => h10)]
          unfold finF
          rw [if_neg (by omega)]
          rfl
        · have hgo : oneF l = oneGo l (leadF (l.getD 0 0)).1 5 1 (leadF (l.getD 0 0)).2.1 (leadF (l.getD 0 0)).2.2.1 (leadF (l.getD 0 0)).2.2.2 := one_go (fun e => hnil (List.eq_nil_of_length_eq_zero e)) (Prod.ext rfl (Prod.ext rfl (Prod.ext rfl rfl))) hz
          obtain ⟨p1, p2, p3⟩ := lead_bd (l.getD 0 0) (hB.at 0).1 (hB.at 0).2
          obtain ⟨n', s', e', q1, q2, q3, q4, q5, q6, q7, q8⟩ := go_far l (leadF (l.getD 0 0)).1 5 1 (leadF (l.getD 0 0)).2.1 (leadF (l.getD 0 0)).2.2.1 (leadF (l.getD 0 0)).2.2.2 (by omega) (by omega) (by omega) (by omega)
          rw [← hgo, h1] at q1
          injection q1 with _ q1
          injection q1 with qa qb
          have hmn : m = n' := by omega
          subst hmn
          obtain ⟨u1, u2⟩ := q8 qb.symm
          have hzero : ∀ j, 1 ≤ j → j ≤ m → (oneF (l.take j)).2.2 = 2 := by
            intro j g1 g2
            refine Decidable.byContradiction fun g3 => ?_
            have g4 := hpre j g1 (by omega) g3
            have hjl : (l.take j).length = j := by simp; omega
            have hj0 : (l.take j).getD 0 0 = l.getD 0 0 := by cases l with | nil => exact absurd rfl hnil | cons c t => cases j with | zero => omega | succ j => rfl
            have hgo2 := one_go (l := l.take j) (z := (leadF (l.getD 0 0)).1) (s := (leadF (l.getD 0 0)).2.1) (lo := (leadF (l.getD 0 0)).2.2.1) (hi := (leadF (l.getD 0 0)).2.2.2) (by omega) (by rw [hj0]) hz
            obtain ⟨n2, s2, e2, r1, r2, r3, r4, r5, r6, r7, r8⟩ := go_far (l.take j) (leadF (l.getD 0 0)).1 5 1 (leadF (l.getD 0 0)).2.1 (leadF (l.getD 0 0)).2.2.1 (leadF (l.getD 0 0)).2.2.2 (by omega) (by omega) (by omega) (by omega)
            rw [← hgo2, ← g4, h1] at r1
            injection r1 with _ r1
            injection r1 with ra rb
            have := (r8 rb.symm).2
            omega
          have hlast : m < l.length → m < 4 → (oneF (l.take (m + 1))).2.2 ≠ 2 := by
            intro _ _ h
            have hjl : (l.take (m + 1)).length = m + 1 := by simp; omega
            have hj0 : (l.take (m + 1)).getD 0 0 = l.getD 0 0 := by cases l with | nil => exact absurd rfl hnil | cons c t => rfl
            have hgo2 := one_go (l := l.take (m + 1)) (z := (leadF (l.getD 0 0)).1) (s := (leadF (l.getD 0 0)).2.1) (lo := (leadF (l.getD 0 0)).2.2.1) (hi := (leadF (l.getD 0 0)).2.2.2) (by omega) (by rw [hj0]) hz
            have hb := go_badl l (l.take (m + 1)) (leadF (l.getD 0 0)).1 m (by omega) (fun i hi => by simp [List.getElem?_take, show i < m + 1 by omega]) 5 1 (leadF (l.getD 0 0)).2.1 (leadF (l.getD 0 0)).2.2.1 (leadF (l.getD 0 0)).2.2.2 (by omega) u2 (by rw [← hgo, h1]) (by rw [← hgo, h1])
            rw [hgo2, hb] at h
            exact absurd h (by decide)
          rw [run m h3 h4 hzero hlast]
          unfold finF
          rw [if_neg (by omega)]
          rcases mx_is (m : Int) 1 with ⟨g1, _⟩ | ⟨_, g2⟩
          · omega
          · rw [g2]
      · subst h5
        obtain ⟨g1, g2⟩ := h6 rfl
        have hp : ∀ j, 1 ≤ j → j ≤ m → (oneF (l.take j)).2.2 = 2 := by
          intro j k1 k2
          refine Decidable.byContradiction fun k3 => ?_
          have k4 := hpre j k1 (by omega) k3
          rw [h1] at k4
          rw [← k4] at k3
          exact k3 rfl
        rw [run m h3 h4 hp (fun h => by omega)]
        unfold finF
        rw [if_pos g1]
end Go.Proofs.Ytdhpldiahgajcaa.PUtfAll
