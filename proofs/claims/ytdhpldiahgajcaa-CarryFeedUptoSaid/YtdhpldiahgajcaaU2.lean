/- utf.One (layer 1): the walk through its labels, and the Lean function of the same answers; no condition of its own. -/
import Derived.Test.YtdhpldiahgajcaaU1
import Derived.Test.YtdhpldiahgajcaaFrame
import Derived.ScopeJumps
import Derived.WalkMore
import Derived.Lib.Hide
import Derived.IntWalk
namespace Go
/-- By a goto to label l: J l; else Q. -/
def Exit.jumps (J : Nat → Act → World → Prop) (Q : Exit → Act → World → Prop) : Exit → Act → World → Prop
  | .goto l, a, w => J l a w
  | e, a, w => Q e a w
section
variable {P : Program} {a : Act} {w : World} {Q : Exit → Act → World → Prop}
@[go_sem] theorem Exit.jumps_ret {J : Nat → Act → World → Prop} : Exit.jumps J Q .ret a w = Q .ret a w := rfl
@[go_sem] theorem Exit.jumps_normal {J : Nat → Act → World → Prop} : Exit.jumps J Q .normal a w = Q .normal a w := rfl
@[go_sem] theorem Exit.jumps_panic {J : Nat → Act → World → Prop} (ch : List PanicEntry) : Exit.jumps J Q (.panic ch) a w = Q (.panic ch) a w := rfl
@[go_sem] theorem Exit.jumps_goto {J : Nat → Act → World → Prop} (l : Nat) : Exit.jumps J Q (.goto l) a w = J l a w := rfl
/-- A scope with several labels: what holds at a jump to each, and a measure that every pass lowers. -/
theorem wp_scope_labels {c : Code} (J : Nat → Act → World → Prop) (μ : Nat → Act → World → Nat)
    (first : c.wp P (Exit.jumps J Q) a w)
    (pass : ∀ l a w, J l a w → ∃ rest, findLabel c l = some rest ∧ rest.wp P (Exit.jumps (fun l' a' w' => J l' a' w' ∧ μ l' a' w' < μ l a w) Q) a w) : (Code.scope c).wp P Q a w := by
  intro b k cs
  have key : ∀ n l a w rest, findLabel c l = some rest → μ l a w = n → J l a w → ∃ e a' w', Q e a' w' ∧ Arrives P (lone (b.at a (.code rest :: .inScope c :: k)) cs w) b k cs e a' w' := by
    intro n
    induction n using Nat.strongRecOn with
    | _ n ih =>
      intro l a w rest hf hn hJ
      obtain ⟨rest', hf', hp⟩ := pass l a w hJ
      rw [hf] at hf'
      injection hf' with hf'
      subst hf'
      obtain ⟨e, a₁, w₁, hq, harr⟩ := hp b (.inScope c :: k) cs
      cases e with
      | normal => exact ⟨.normal, a₁, w₁, hq, Steps.trans harr (.one step_inScope)⟩
      | exit id => exact ⟨.exit id, a₁, w₁, hq, fun k' hk => harr k' (by simp [exitTo, hk])⟩
      | goto l' =>
        obtain ⟨hJ', hlt⟩ := hq
        obtain ⟨r', hr', _⟩ := pass l' a₁ w₁ hJ'
        obtain ⟨e₂, a₂, w₂, hq₂, harr₂⟩ := ih _ (by omega) l' a₁ w₁ r' hr' rfl hJ'
        have hg : gotoIn l' (.inScope c :: k) = some (.code r' :: .inScope c :: k) := by simp [gotoIn, hr']
        exact ⟨e₂, a₂, w₂, hq₂, .of_steps (harr _ hg) harr₂⟩
      | ret => exact ⟨_, a₁, w₁, hq, harr⟩
      | panic ch => exact ⟨_, a₁, w₁, hq, harr⟩
      | outgrown => exact ⟨_, a₁, w₁, hq, harr⟩
  obtain ⟨e, a₁, w₁, hq, harr⟩ := first b (.inScope c :: k) cs
  cases e with
  | normal => exact ⟨.normal, a₁, w₁, hq, .head step_scope (Steps.trans harr (.one step_inScope))⟩
  | exit id => exact ⟨.exit id, a₁, w₁, hq, fun k' hk => .head step_scope (harr k' (by simp [exitTo, hk]))⟩
  | goto l' =>
    obtain ⟨r', hr', _⟩ := pass l' a₁ w₁ hq
    obtain ⟨e₂, a₂, w₂, hq₂, harr₂⟩ := key _ l' a₁ w₁ r' hr' rfl hq
    have hg : gotoIn l' (.inScope c :: k) = some (.code r' :: .inScope c :: k) := by simp [gotoIn, hr']
    exact ⟨e₂, a₂, w₂, hq₂, .of_steps (.head step_scope (harr _ hg)) harr₂⟩
  | ret => exact ⟨_, a₁, w₁, hq, .of_steps (.one step_scope) harr⟩
  | panic ch => exact ⟨_, a₁, w₁, hq, .of_steps (.one step_scope) harr⟩
  | outgrown => exact ⟨_, a₁, w₁, hq, .of_steps (.one step_scope) harr⟩
end
end Go
namespace Go.Proofs.Ytdhpldiahgajcaa.PUtfAll
open Go.RowKit Go.Proofs.YtdhpldiahgajcaaW.PrintWords Go.Proofs.YtdhpldiahgajcaaW.PrintLast Go.Proofs.YtdhpldiahgajcaaW.PrintMore Go.Proofs.Ytdhpldiahgajcaa
set_option linter.unusedVariables false
/-- what a first byte wants -/
def leadF (c : Int) : Int × Int × Int × Int :=
  if c < 128 then (1, c, 128, 191) else if c < 194 ∨ 244 < c then (0, 0, 128, 191) else if c < 224 then (2, c - 192, 128, 191)
  else if c = 224 then (3, 0, 160, 191) else if c = 237 then (3, 13, 128, 159) else if c < 240 then (3, c - 224, 128, 191)
  else if c = 240 then (4, 0, 144, 191) else if c = 244 then (4, 4, 128, 143) else (4, c - 240, 128, 191)
/-- from byte k on -/
def oneGo (l : List Int) (z : Int) : Nat → Nat → Int → Int → Int → Int × Int × Int
  | 0, _, _, _, _ => (0, 0, 0)
  | f + 1, k, s, lo, hi =>
    if (k : Int) = z then (s, k, 0) else if k = l.length then (0, l.length, 2)
    else if l.getD k 0 < lo ∨ hi < l.getD k 0 then (0, k, 1) else oneGo l z f (k + 1) (s * 64 + l.getD k 0 % 64) 128 191
/-- the scalar that bytes begin with -/
def oneF (l : List Int) : Int × Int × Int :=
  if l.length = 0 then (0, 0, 2) else if (leadF (l.getD 0 0)).1 = 0 then (0, 1, 1)
  else oneGo l (leadF (l.getD 0 0)).1 5 1 (leadF (l.getD 0 0)).2.1 (leadF (l.getD 0 0)).2.2.1 (leadF (l.getD 0 0)).2.2.2
theorem lead_is (c : Int) (h0 : 0 ≤ c) (h1 : c < 256) : utf_lead.f 3 c = some ((leadF c).1, (leadF c).2.1, (leadF c).2.2.1, (leadF c).2.2.2) := by
  have H : ∀ n : Nat, n < 256 → utf_lead.f 3 (n : Int) = some ((leadF n).1, (leadF n).2.1, (leadF n).2.2.1, (leadF n).2.2.2) := by decide +kernel
  obtain ⟨n, rfl⟩ := Int.eq_ofNat_of_zero_le h0
  exact H n (by omega)
theorem lead_bd (c : Int) (h0 : 0 ≤ c) (h1 : c < 256) : 0 ≤ (leadF c).1 ∧ (leadF c).1 ≤ 4 ∧ 0 ≤ (leadF c).2.1 ∧ (leadF c).2.1 < 128 ∧ 128 ≤ (leadF c).2.2.1 ∧ (leadF c).2.2.2 ≤ 191 := by
  have H : ∀ n : Nat, n < 256 → 0 ≤ (leadF n).1 ∧ (leadF n).1 ≤ 4 ∧ 0 ≤ (leadF n).2.1 ∧ (leadF n).2.1 < 128 ∧ 128 ≤ (leadF n).2.2.1 ∧ (leadF n).2.2.2 ≤ 191 := by decide +kernel
  obtain ⟨n, rfl⟩ := Int.eq_ofNat_of_zero_le h0
  exact H n (by omega)
theorem lead_c (c : Int) (h0 : 0 ≤ c) (h1 : c < 256) (w : World) :
    Calls Try.prog 32 #[.int .u8 c] w fun e w' => e = .returned (.tuple #[.int .i64 (leadF c).1, .int .i64 (leadF c).2.1, .int .u8 (leadF c).2.2.1, .int .u8 (leadF c).2.2.2]) ∧ ∃ n, w' = w.drewN n :=
  (utf_lead.calls 3 c _ _ _ _ w (lead_is c h0 h1)).mono fun _ _ ⟨a, b⟩ => ⟨a, b.out⟩
theorem go_end {l : List Int} {z s lo hi : Int} {f k : Nat} (h : (k : Int) = z) : oneGo l z (f + 1) k s lo hi = (s, (k : Int), 0) := by simp only [oneGo]; rw [if_pos h]
theorem go_short {l : List Int} {z s lo hi : Int} {f k : Nat} (h : ¬ (k : Int) = z) (h2 : k = l.length) : oneGo l z (f + 1) k s lo hi = (0, (l.length : Int), 2) := by simp only [oneGo]; rw [if_neg h, if_pos h2]
theorem go_bad {l : List Int} {z s lo hi : Int} {f k : Nat} (h : ¬ (k : Int) = z) (h2 : ¬ k = l.length) (h3 : l.getD k 0 < lo ∨ hi < l.getD k 0) : oneGo l z (f + 1) k s lo hi = (0, (k : Int), 1) := by simp only [oneGo]; rw [if_neg h, if_neg h2, if_pos h3]
theorem go_on {l : List Int} {z s lo hi : Int} {f k : Nat} (h : ¬ (k : Int) = z) (h2 : ¬ k = l.length) (h3 : ¬ (l.getD k 0 < lo ∨ hi < l.getD k 0)) : oneGo l z (f + 1) k s lo hi = oneGo l z f (k + 1) (s * 64 + l.getD k 0 % 64) 128 191 := by
  conv => lhs; unfold oneGo
  rw [if_neg h, if_neg h2, if_neg h3]
theorem i64_or6 {x y : Int} (hx₀ : 0 ≤ x) (hx : x % 64 = 0) (hx₁ : x < 4611686018427387904) (h₀ : 0 ≤ y) (h₁ : y < 64) : bits .or .i64 x y = x + y :=
  bits_join .i64 62 (by decide) (fun n h0 h1 => IntWalk.i64_in n (by omega)) 6 x y hx₀ hx hx₁ h₀ h₁ (by omega)
theorem pow_bd {k : Nat} (h : k ≤ 3) : (64 : Int) ^ k ≤ 262144 := by
  rcases k with _ | _ | _ | _ | k <;> first | decide | omega
def JOne (A : Option Addr) (l : List Int) (c : Nat) (w : World) : Nat → Act → World → Prop
  | 0, a', w' => ∃ (u1 u2 u3 u4 u5 u6 u7 u8 u9 u10 u11 u12 u13 u14 u15 u16 u17 u18 u19 u20 u21 u22 u23 u24 u25 u26 u27 u28 u29 u30 u31 u32 u33 u34 u35 u36 u37 u38 u39 u40 u41 u42 u43 u44 u45 u46 u47 u48 u49 u50 u51 u52 u53 u54 u55 u56 u57 u58 u59 u60 : Value), a' = { tmps := #[.slice A l.length c, u1, u2, u3, u4, u5, u6, u7, u8, u9, u10, u11, u12, u13, u14, u15, u16, u17, u18, u19, u20, u21, u22, u23, u24, u25, u26, u27, u28, u29, u30, u31, u32, u33, u34, u35, u36, u37, u38, u39, u40, u41, u42, u43, u44, u45, u46, u47, u48, u49, u50, u51, u52, u53, u54, u55, u56, u57, u58, u59, u60], defers := [] } ∧ oneF l = (0, (l.length : Int), 2) ∧ ∃ n, w' = w.drewN n
  | 1, a', w' => ∃ k : Nat, ∃ (u1 u2 u3 u4 u6 u7 u8 u9 u10 u11 u12 u13 u14 u15 u16 u17 u18 u19 u20 u21 u22 u23 u24 u25 u26 u27 u28 u29 u30 u31 u32 u33 u34 u35 u36 u37 u38 u39 u40 u41 u42 u43 u44 u45 u46 u47 u48 u49 u50 u51 u52 u53 u54 u55 u56 u57 u58 u59 u60 : Value), a' = { tmps := #[.slice A l.length c, u1, u2, u3, u4, .int .i64 k, u6, u7, u8, u9, u10, u11, u12, u13, u14, u15, u16, u17, u18, u19, u20, u21, u22, u23, u24, u25, u26, u27, u28, u29, u30, u31, u32, u33, u34, u35, u36, u37, u38, u39, u40, u41, u42, u43, u44, u45, u46, u47, u48, u49, u50, u51, u52, u53, u54, u55, u56, u57, u58, u59, u60], defers := [] } ∧ oneF l = (0, (k : Int), 1) ∧ ∃ n, w' = w.drewN n
  | 2, a', w' => ∃ (k : Nat) (s z lo hi : Int), ∃ (u1 u2 u3 u4 u10 u11 u12 u13 u14 u15 u16 u17 u18 u19 u20 u21 u22 u23 u24 u25 u26 u27 u28 u29 u30 u31 u32 u33 u34 u35 u36 u37 u38 u39 u40 u41 u42 u43 u44 u45 u46 u47 u48 u49 u50 u51 u52 u53 u54 u55 u56 u57 u58 u59 u60 : Value), a' = { tmps := #[.slice A l.length c, u1, u2, u3, u4, .int .i64 k, .int .i64 s, .int .i64 z, .int .u8 lo, .int .u8 hi, u10, u11, u12, u13, u14, u15, u16, u17, u18, u19, u20, u21, u22, u23, u24, u25, u26, u27, u28, u29, u30, u31, u32, u33, u34, u35, u36, u37, u38, u39, u40, u41, u42, u43, u44, u45, u46, u47, u48, u49, u50, u51, u52, u53, u54, u55, u56, u57, u58, u59, u60], defers := [] } ∧ oneF l = oneGo l z (6 - k) k s lo hi ∧ (1 ≤ k ∧ k ≤ l.length ∧ (k : Int) ≤ z ∧ z ≤ 4 ∧ 0 ≤ s ∧ s < 128 * 64 ^ (k - 1) ∧ 0 ≤ lo ∧ hi < 256) ∧ ∃ n, w' = w.drewN n
  | _, _, _ => False
def muOne (l : Nat) (a : Act) (_ : World) : Nat := if l = 2 then 10 - (intOf (a.tmps.getD 5 undef)).toNat else 0
def Bytes (l : List Int) : Prop := ∀ n ∈ l, 0 ≤ n ∧ n < 256
theorem Bytes.at {l : List Int} (h : Bytes l) (i : Nat) : 0 ≤ l.getD i 0 ∧ l.getD i 0 < 256 := by
  by_cases hi : i < l.length
  · have : l.getD i 0 = l[i] := by simp [hi]
    rw [this]; exact h _ (List.getElem_mem hi)
  · have : l.getD i 0 = 0 := by simp [List.getD_eq_getElem?_getD, List.getElem?_eq_none (Nat.le_of_not_lt hi)]
    rw [this]; omega
set_option maxRecDepth 100000 in
set_option maxHeartbeats 4000000 in
theorem one_c (A : Option Addr) (c : Nat) (l : List Int) (w : World) (hr : RowAt .u8 w A l) (hB : Bytes l) (hs : l.length ≤ 9223372036854775807) :
    Calls Try.prog 18 #[.slice A l.length c] w fun e w' => e = .returned (.tuple #[.int .i64 (oneF l).1, .int .i64 (oneF l).2.1, .int .i64 (oneF l).2.2]) ∧ ∃ n, w' = w.drewN n := by
  go_enter Try.func18, Try.ntmps18
  go_wp2
  refine wp_scope_labels (JOne A l c w) muOne ?_ ?_
  · by_cases h0 : l.length = 0
    · have e0 : ((l.length : Int) == 0) = true := beq_iff_eq.2 (by omega)
      have HF : Hid (oneF l = (0, (l.length : Int), 2)) := by show _ = _; unfold oneF; rw [if_pos h0, h0]; rfl
      clear h0
      go_wp2
      go_step3
      exact ⟨_, _, _, _, _, _, _, _, _, _, _, _, _, _, _, _, _, _, _, _, _, _, _, _, _, _, _, _, _, _, _, _, _, _, _, _, _, _, _, _, _, _, _, _, _, _, _, _, _, _, _, _, _, _, _, _, _, _, _, _, rfl, HF.out, 0, rfl⟩
    · have e0 : ((l.length : Int) == 0) = false := beq_eq_false_iff_ne.2 (by omega)
      obtain ⟨b, off, rfl, hc⟩ := hr.cell (by intro h; simp [h] at h0)
      have c0 := hc 0 (by omega)
      rw [Nat.add_zero] at c0
      have hl0 : 0 < l.length := by omega
      obtain ⟨x0, x1⟩ := hB.at 0
      have HL := Lib.hid (fun W => lead_c (l.getD 0 0) x0 x1 W)
      obtain ⟨p1, p2, p3, p4, p5, p6⟩ := lead_bd (l.getD 0 0) x0 x1
      by_cases hz : (leadF (l.getD 0 0)).1 = 0
      · have HF : Hid (oneF l = (0, 1, 1)) := by show _ = _; unfold oneF; rw [if_neg h0, if_pos hz]
        have e1 : ((leadF (l.getD 0 0)).1 == 0) = true := beq_iff_eq.2 hz
        clear hc hz h0 p1 p2 p3 p4 p5 p6
        generalize l.getD 0 0 = y at *
        go_wp2_with (go_at_call 32; refine (HL.out _).mono ?_; rintro e w' ⟨rfl, n, rfl⟩)
        go_step3
        exact ⟨1, _, _, _, _, _, _, _, _, _, _, _, _, _, _, _, _, _, _, _, _, _, _, _, _, _, _, _, _, _, _, _, _, _, _, _, _, _, _, _, _, _, _, _, _, _, _, _, _, _, _, _, _, _, _, _, _, _, _, _, rfl, HF.out, _, rfl⟩
      · have HF : Hid (oneF l = oneGo l (leadF (l.getD 0 0)).1 (6 - 1) 1 (leadF (l.getD 0 0)).2.1 (leadF (l.getD 0 0)).2.2.1 (leadF (l.getD 0 0)).2.2.2) := by show _ = _; unfold oneF; rw [if_neg h0, if_neg hz]
        have e1 : ((leadF (l.getD 0 0)).1 == 0) = false := beq_eq_false_iff_ne.2 hz
        have q1 : 1 ≤ (leadF (l.getD 0 0)).1 := by omega
        clear hz h0 p1
        have HC := Lib.hid hc
        clear hc
        generalize l.getD 0 0 = y at *
        generalize (leadF y).1 = z at *
        generalize (leadF y).2.1 = s at *
        generalize (leadF y).2.2.1 = lo at *
        generalize (leadF y).2.2.2 = hi at *
        by_cases hk : ((1 : Nat) : Int) = z
        · have e2 : ((1 : Int) == z) = true := beq_iff_eq.2 (by omega)
          have HG := Lib.hid (HF.out.trans (go_end hk))
          clear hk
          go_wp2_with (first | (go_at_call 32; refine (HL.out _).mono ?_; rintro e w' ⟨rfl, n, rfl⟩) | go_step3)
          try rw [Exit.jumps_ret]
          go_ret3
          exact ⟨by rw [HG.out]; rfl, _, rfl⟩
        · have e2 : ((1 : Int) == z) = false := beq_eq_false_iff_ne.2 (by omega)
          have hkz : ((1 : Nat) : Int) < z := by omega
          by_cases hl : 1 = l.length
          · have e3 : ((1 : Int) == (l.length : Int)) = true := beq_iff_eq.2 (by omega)
            have HG := Lib.hid (HF.out.trans (go_short hk hl))
            clear hk hl
            go_wp2_with (first | (go_at_call 32; refine (HL.out _).mono ?_; rintro e w' ⟨rfl, n, rfl⟩) | go_step3)
            exact ⟨_, _, _, _, _, _, _, _, _, _, _, _, _, _, _, _, _, _, _, _, _, _, _, _, _, _, _, _, _, _, _, _, _, _, _, _, _, _, _, _, _, _, _, _, _, _, _, _, _, _, _, _, _, _, _, _, _, _, _, _, rfl, HG.out, _, rfl⟩
          · have e3 : ((1 : Int) == (l.length : Int)) = false := beq_eq_false_iff_ne.2 (by omega)
            have hkl : 1 < l.length := by omega
            have ck := HC.out 1 hkl
            obtain ⟨y0, y1⟩ := hB.at 1
            by_cases hb : l.getD 1 0 < lo ∨ hi < l.getD 1 0
            · have HG := Lib.hid (HF.out.trans (go_bad hk hl hb))
              have HB := Lib.hid hb
              clear hk hl hb
              generalize l.getD 1 0 = x at *
              by_cases hb1 : x < lo
              · go_wp2_with (first | (go_at_call 32; refine (HL.out _).mono ?_; rintro e w' ⟨rfl, n, rfl⟩) | go_step3)
                exact ⟨1, _, _, _, _, _, _, _, _, _, _, _, _, _, _, _, _, _, _, _, _, _, _, _, _, _, _, _, _, _, _, _, _, _, _, _, _, _, _, _, _, _, _, _, _, _, _, _, _, _, _, _, _, _, _, _, _, _, _, _, rfl, HG.out, _, rfl⟩
              · have hb2 : hi < x := by have := HB.out; omega
                go_wp2_with (first | (go_at_call 32; refine (HL.out _).mono ?_; rintro e w' ⟨rfl, n, rfl⟩) | go_step3)
                exact ⟨1, _, _, _, _, _, _, _, _, _, _, _, _, _, _, _, _, _, _, _, _, _, _, _, _, _, _, _, _, _, _, _, _, _, _, _, _, _, _, _, _, _, _, _, _, _, _, _, _, _, _, _, _, _, _, _, _, _, _, _, rfl, HG.out, _, rfl⟩
            · have HG := Lib.hid (HF.out.trans (go_on (f := 5 - 1) hk hl hb))
              have hb1 : ¬ l.getD 1 0 < lo := fun h => hb (.inl h)
              have hb2 : ¬ hi < l.getD 1 0 := fun h => hb (.inr h)
              clear hk hl hb
              generalize l.getD 1 0 = x at *
              have hor : Hid (bits .or .i64 (s * 64) (x % 64) = s * 64 + x % 64) := i64_or6 (by omega) (by omega) (by omega) (by omega) (by omega)
              have hsb : Hid (s * 64 + x % 64 < 128 * 64 ^ (2 - 1)) := by show _ < _; omega
              go_wp2_with (first | (go_at_call 32; refine (HL.out _).mono ?_; rintro e w' ⟨rfl, n, rfl⟩) | go_step3)
              rw [hor.out]
              exact ⟨2, _, _, _, _, _, _, _, _, _, _, _, _, _, _, _, _, _, _, _, _, _, _, _, _, _, _, _, _, _, _, _, _, _, _, _, _, _, _, _, _, _, _, _, _, _, _, _, _, _, _, _, _, _, _, _, _, _, _, _, rfl, HG.out, ⟨by omega, by omega, by omega, by omega, by omega, hsb.out, by omega, by omega⟩, _, rfl⟩
  · intro l' a' w' hJ
    match l', hJ with
    | 0, hJ =>
      obtain ⟨u1, u2, u3, u4, u5, u6, u7, u8, u9, u10, u11, u12, u13, u14, u15, u16, u17, u18, u19, u20, u21, u22, u23, u24, u25, u26, u27, u28, u29, u30, u31, u32, u33, u34, u35, u36, u37, u38, u39, u40, u41, u42, u43, u44, u45, u46, u47, u48, u49, u50, u51, u52, u53, u54, u55, u56, u57, u58, u59, u60, rfl, hF, n, rfl⟩ := hJ
      refine ⟨_, rfl, ?_⟩
      have HF := Lib.hid hF
      clear hF
      go_wp2
      try rw [Exit.jumps_ret]
      go_ret3
      exact ⟨by rw [HF.out]; rfl, _, rfl⟩
    | 1, hJ =>
      obtain ⟨k, u1, u2, u3, u4, u6, u7, u8, u9, u10, u11, u12, u13, u14, u15, u16, u17, u18, u19, u20, u21, u22, u23, u24, u25, u26, u27, u28, u29, u30, u31, u32, u33, u34, u35, u36, u37, u38, u39, u40, u41, u42, u43, u44, u45, u46, u47, u48, u49, u50, u51, u52, u53, u54, u55, u56, u57, u58, u59, u60, rfl, hF, n, rfl⟩ := hJ
      refine ⟨_, rfl, ?_⟩
      have HF := Lib.hid hF
      clear hF
      go_wp2_with go_step3
      try rw [Exit.jumps_ret]
      go_ret3
      exact ⟨by rw [HF.out]; rfl, _, rfl⟩
    | 2, hJ =>
      obtain ⟨k, s, z, lo, hi, u1, u2, u3, u4, u10, u11, u12, u13, u14, u15, u16, u17, u18, u19, u20, u21, u22, u23, u24, u25, u26, u27, u28, u29, u30, u31, u32, u33, u34, u35, u36, u37, u38, u39, u40, u41, u42, u43, u44, u45, u46, u47, u48, u49, u50, u51, u52, u53, u54, u55, u56, u57, u58, u59, u60, rfl, hF, ⟨g1, g2, g3, g4, g5, g6, g7, g8⟩, n, rfl⟩ := hJ
      refine ⟨_, rfl, ?_⟩
      have HF := Lib.hid hF
      clear hF
      obtain ⟨b, off, rfl, hc⟩ := hr.cell (by intro h; simp [h] at g2; omega)
      have HC := Lib.hid hc
      clear hc
      by_cases hk : (k : Int) = z
      · have e2 : ((k : Int) == z) = true := beq_iff_eq.2 (by omega)
        have HG : Hid (oneF l = (s, (k : Int), 0)) := by
          have := HF.out
          rw [show 6 - k = (5 - k) + 1 by omega, go_end hk] at this
          exact this
        clear hk
        go_wp2_with go_step3
        try rw [Exit.jumps_ret]
        go_ret3
        exact ⟨by rw [HG.out]; rfl, _, rfl⟩
      · have e2 : ((k : Int) == z) = false := beq_eq_false_iff_ne.2 (by omega)
        have hkz : (k : Int) < z := by omega
        by_cases hl : k = l.length
        · have e3 : ((k : Int) == (l.length : Int)) = true := beq_iff_eq.2 (by omega)
          have HG : Hid (oneF l = (0, (l.length : Int), 2)) := by
            have := HF.out
            rw [show 6 - k = (5 - k) + 1 by omega, go_short hk hl] at this
            exact this
          clear hk hl
          go_wp2_with go_step3
          exact ⟨⟨_, _, _, _, _, _, _, _, _, _, _, _, _, _, _, _, _, _, _, _, _, _, _, _, _, _, _, _, _, _, _, _, _, _, _, _, _, _, _, _, _, _, _, _, _, _, _, _, _, _, _, _, _, _, _, _, _, _, _, _, rfl, HG.out, _, rfl⟩, by simp [muOne, intOf]; omega⟩
        · have e3 : ((k : Int) == (l.length : Int)) = false := beq_eq_false_iff_ne.2 (by omega)
          have hkl : k < l.length := by omega
          have hkl2 : (k : Int) < (l.length : Int) := by omega
          have ck := HC.out k hkl
          obtain ⟨y0, y1⟩ := hB.at k
          by_cases hb : l.getD k 0 < lo ∨ hi < l.getD k 0
          · have HG : Hid (oneF l = (0, (k : Int), 1)) := by
              have := HF.out
              rw [show 6 - k = (5 - k) + 1 by omega, go_bad hk hl hb] at this
              exact this
            have HB := Lib.hid hb
            clear hk hl hb
            generalize l.getD k 0 = x at *
            by_cases hb1 : x < lo
            · go_wp2_with go_step3
              exact ⟨⟨k, _, _, _, _, _, _, _, _, _, _, _, _, _, _, _, _, _, _, _, _, _, _, _, _, _, _, _, _, _, _, _, _, _, _, _, _, _, _, _, _, _, _, _, _, _, _, _, _, _, _, _, _, _, _, _, _, _, _, _, rfl, HG.out, _, rfl⟩, by simp [muOne, intOf]; omega⟩
            · have hb2 : hi < x := by have := HB.out; omega
              go_wp2_with go_step3
              exact ⟨⟨k, _, _, _, _, _, _, _, _, _, _, _, _, _, _, _, _, _, _, _, _, _, _, _, _, _, _, _, _, _, _, _, _, _, _, _, _, _, _, _, _, _, _, _, _, _, _, _, _, _, _, _, _, _, _, _, _, _, _, _, rfl, HG.out, _, rfl⟩, by simp [muOne, intOf]; omega⟩
          · have HG : Hid (oneF l = oneGo l z (6 - (k + 1)) (k + 1) (s * 64 + l.getD k 0 % 64) 128 191) := by
              have := HF.out
              rw [show 6 - k = (5 - k) + 1 by omega, go_on hk hl hb] at this
              rw [show 6 - (k + 1) = 5 - k by omega]
              exact this
            have hb1 : ¬ l.getD k 0 < lo := fun h => hb (.inl h)
            have hb2 : ¬ hi < l.getD k 0 := fun h => hb (.inr h)
            clear hk hl hb
            generalize l.getD k 0 = x at *
            have hsb : s * 64 + x % 64 < 128 * 64 ^ (k + 1 - 1) := by
              have e : (64 : Int) ^ (k + 1 - 1) = 64 ^ (k - 1) * 64 := by rw [show k + 1 - 1 = (k - 1) + 1 by omega, Int.pow_succ]
              rw [e]; omega
            have hpb := pow_bd (k := k - 1) (by omega)
            have hs62 : s < 33554432 := by omega
            have hor : Hid (bits .or .i64 (s * 64) (x % 64) = s * 64 + x % 64) := i64_or6 (by omega) (by omega) (by omega) (by omega) (by omega)
            have HSB := Lib.hid hsb
            clear hsb hpb g6
            go_wp2_with go_step3
            rw [hor.out]
            exact ⟨⟨k + 1, _, _, _, _, _, _, _, _, _, _, _, _, _, _, _, _, _, _, _, _, _, _, _, _, _, _, _, _, _, _, _, _, _, _, _, _, _, _, _, _, _, _, _, _, _, _, _, _, _, _, _, _, _, _, _, _, _, _, _, rfl, HG.out, ⟨by omega, by omega, by omega, by omega, by omega, HSB.out, by omega, by omega⟩, _, rfl⟩, by simp [muOne, intOf]; omega⟩
    | (n + 3), hJ => exact hJ.elim
theorem row_of_C {k : IntKind} {w : World} {A : Option Addr} {xs : List Int} (h : Kd.C (Kd.int k) w A xs.length xs) : RowAt k w A xs := by
  obtain ⟨_, _, h⟩ := h
  by_cases h0 : xs = []
  · exact .inl h0
  · have hp : 0 < xs.length := List.length_pos_iff.2 h0
    obtain ⟨ad, rfl, hc⟩ := h hp
    have hcell : ∀ i, i < xs.length → w.cell? (ad.add i) = some (.int k (xs.getD i 0)) := by
      intro i hi
      obtain ⟨c, _, hk, hu⟩ := hc i xs[i] (by simp [hi])
      have hk' : c = [.int k xs[i]] := hk
      subst hk'
      have := hu 0 _ rfl
      simpa [Kd.int, Kd.scalar, hi] using this
    obtain ⟨b, off, rfl, hcc⟩ := ints_at hcell hp
    exact .inr ⟨b, off, rfl, hcc⟩
theorem C_of_row {k : IntKind} {w : World} {A : Option Addr} {xs : List Int} (h : RowAt k w A xs) (hs : xs.length ≤ 9223372036854775807) : Kd.C (Kd.int k) w A xs.length xs := by
  refine ⟨rfl, hs, fun hp => ?_⟩
  rcases h with h | ⟨b, off, rfl, hc⟩
  · subst h; simp at hp
  · refine ⟨_, rfl, fun j p hj => ⟨[.int k p], rfl, rfl, fun i u hu => ?_⟩⟩
    have hjl : j < xs.length := by
      by_cases hx : j < xs.length
      · exact hx
      · rw [List.getElem?_eq_none (by omega)] at hj; cases hj
    rcases i with _ | i
    · simp at hu
      subst hu
      have hcj := hc j hjl
      have e : xs.getD j 0 = p := by simp [hj]
      rw [e] at hcj
      have e2 : (Kd.int k).sz = 1 := rfl
      rw [e2, Nat.mul_one, Nat.add_zero, Go.WideShapes.add_plain]
      exact hcj
    · simp at hu
def isBytes (l : List Int) : Bool := l.all fun n => decide (0 ≤ n) && decide (n < 256)
theorem bytes_of_is {l : List Int} (h : isBytes l = true) : Bytes l := fun n hn => by
  have := List.all_eq_true.1 h n hn
  simpa using this
theorem is_of_bytes {l : List Int} (h : Bytes l) : isBytes l = true := List.all_eq_true.2 fun n hn => by
  have := h n hn
  simpa using this
/-- the answers of utf.One, of bytes -/
def utf_One.f (l0 : List Int) : Option (Int × Int × Int) := if isBytes l0 = true then some (oneF l0) else none
theorem utf_One.of {l0 : List Int} (h : Bytes l0) : utf_One.f l0 = some (oneF l0) := by unfold utf_One.f; rw [if_pos (is_of_bytes h)]
theorem utf_One.calls (A0 : Option Addr) (c0 : Nat) (l0 : List Int) (r1 : Int) (r2 : Int) (r3 : Int) (w : World) (hr0 : Kd.C (Kd.int .u8) w A0 l0.length l0) (hc0 : l0.length ≤ c0) (h : utf_One.f l0 = some (r1, r2, r3)) :
    Calls Try.prog 18 #[.slice A0 l0.length c0] w fun e w' => e = .returned (.tuple #[.int .i64 r1, .int .i64 r2, .int .i64 r3]) ∧ Drawn0 w w' := by
  unfold utf_One.f at h
  by_cases hb : isBytes l0 = true
  · rw [if_pos hb] at h
    injection h with h
    refine (one_c A0 c0 l0 w (row_of_C hr0) (bytes_of_is hb) hr0.2.1).mono fun e w' ⟨he, n, hw⟩ => ⟨?_, ⟨n, hw⟩⟩
    rw [he, h]
  · rw [if_neg hb] at h; cases h
end Go.Proofs.Ytdhpldiahgajcaa.PUtfAll
