/- Plain laws of what is read of bytes in parts: it is what is read of all. Of the tokens' compare. No condition but bytes and sizes. -/
import Derived.Test.YtdhpldiahgajcaaK7
import Derived.Test.YtdhpldiahgajcaaU4
import Derived.Test.YtdhpldiahgajcaaU5
namespace Go.Proofs.Ytdhpldiahgajcaa.PUtfAll
open Go.RowKit Go.Proofs.YtdhpldiahgajcaaW.PrintWords Go.Proofs.Ytdhpldiahgajcaa
set_option linter.unusedVariables false
/-- the tokens of all bytes -/
def allF : Nat → Int → List Int → List S32
  | 0, _, _ => []
  | f + 1, a, l => if l = [] then [] else ⟨a, (oneF l).2.1, if (oneF l).2.2 = 0 then [(oneF l).1] else [], (oneF l).2.2⟩ :: allF f (a + (oneF l).2.1) (l.drop (oneF l).2.1.toNat)
/-- what a reader says of bytes that are put one by one -/
def feedF : Int → List Int → List Int → List S32 × List Int × Int
  | a, l, [] => ([], l, a)
  | a, l, c :: r => ((pF (l.length + 2) a (l ++ [c])).1 ++ (feedF (pF (l.length + 2) a (l ++ [c])).2.2 (pF (l.length + 2) a (l ++ [c])).2.1 r).1, (feedF (pF (l.length + 2) a (l ++ [c])).2.2 (pF (l.length + 2) a (l ++ [c])).2.1 r).2)
theorem pF_fuel : ∀ (f g : Nat) (a : Int) (l : List Int), l.length < f → l.length < g → Bytes l → pF f a l = pF g a l := by
  intro f
  induction f with
  | zero => intro g a l h; omega
  | succ f ih =>
    intro g a l hf hg hB
    by_cases h0 : l = []
    · subst h0; rw [pF_nil, pF_nil]
    · obtain ⟨n, s, e, h1, h2, h3, h4, h5, h6⟩ := one_far h0 hB
      by_cases he : e = 2
      · subst he; rw [pF_short h1, pF_short h1]
      · cases g with
        | zero => omega
        | succ g => rw [pF_tok h0 h1 he, pF_tok h0 h1 he, ih g (a + n) (l.drop (n : Int).toNat) (by simp; omega) (by simp; omega) (hB.drop _)]
theorem pF_app : ∀ (f g h : Nat) (a : Int) (l r : List Int), l.length < f → (l ++ r).length < g → (l ++ r).length < h → Bytes (l ++ r) →
    pF g a (l ++ r) = ((pF f a l).1 ++ (pF h (pF f a l).2.2 ((pF f a l).2.1 ++ r)).1, (pF h (pF f a l).2.2 ((pF f a l).2.1 ++ r)).2) := by
  intro f
  induction f with
  | zero => intro g h a l r hf; omega
  | succ f ih =>
    intro g h a l r hf hg hh hB
    have hBl : Bytes l := fun x hx => hB x (List.mem_append_left _ hx)
    by_cases h0 : l = []
    · subst h0
      rw [pF_nil]
      simp only [List.nil_append]
      exact pF_fuel g h a r (by simpa using hg) (by simpa using hh) (by simpa using hB)
    · obtain ⟨n, s, e, h1, h2, h3, h4, h5, h6⟩ := one_far h0 hBl
      by_cases he : e = 2
      · subst he
        rw [pF_short h1]
        simp only [List.nil_append]
        exact pF_fuel g h a _ hg hh hB
      · have hx : oneF (l ++ r) = (s, (n : Int), e) := by rw [one_ext r h0 (by rw [h1]; exact he), h1]
        rw [List.length_append] at hg hh
        cases g with
        | zero => omega
        | succ g =>
          have hd : (l ++ r).drop (n : Int).toNat = l.drop (n : Int).toNat ++ r := by rw [Int.toNat_natCast, List.drop_append_of_le_length h3]
          have hB2 : Bytes (l.drop (n : Int).toNat ++ r) := by rw [← hd]; exact hB.drop _
          have hi := ih g h (a + n) (l.drop (n : Int).toNat) r (by simp; omega) (by simp; omega) (by simp; omega) hB2
          rw [pF_tok (by simp [h0]) hx he, pF_tok h0 h1 he, hd, hi]
          rfl
theorem pF_waits {f : Nat} {a : Int} {l : List Int} (h : Waits l) : pF f a l = ([], l, a) := by
  rcases h with rfl | ⟨s, n, h⟩
  · exact pF_nil f a
  · exact pF_short h
theorem waits_nil : Waits [] := .inl rfl
theorem feed_is : ∀ (bs : List Int) (a : Int) (l : List Int) (g : Nat), Waits l → Bytes (l ++ bs) → (l ++ bs).length < g → feedF a l bs = pF g a (l ++ bs) := by
  intro bs
  induction bs with
  | nil => intro a l g hW hB hg; rw [List.append_nil, pF_waits hW]; rfl
  | cons c r ih =>
    intro a l g hW hB hg
    have e1 : l ++ c :: r = (l ++ [c]) ++ r := by simp
    rw [e1] at hB hg ⊢
    have hB1 : Bytes (l ++ [c]) := fun x hx => hB x (List.mem_append_left _ hx)
    obtain ⟨ts, m, g1, g2, g3, g4, g5⟩ := pF_law (l.length + 2) a (l ++ [c]) (by simp) hB1
    rw [pF_app (l.length + 2) g g a (l ++ [c]) r (by simp) hg hg hB]
    unfold feedF
    rw [g1]
    have hr : Bytes (r) := fun x hx => hB x (List.mem_append_right _ hx)
    rw [ih (a + m) ((l ++ [c]).drop m) g g4 ((hB1.drop m).app hr) (by simp at hg ⊢; omega)]
/-- where a reader stands behind bytes -/
theorem feed_at {bs : List Int} {a : Int} {l : List Int} (hW : Waits l) (hB : Bytes (l ++ bs)) :
    Waits (feedF a l bs).2.1 ∧ (feedF a l bs).2.1.length ≤ 3 ∧ Bytes (feedF a l bs).2.1 ∧ (feedF a l bs).2.2 + (feedF a l bs).2.1.length = a + (l ++ bs).length ∧ a ≤ (feedF a l bs).2.2 ∧ (feedF a l bs).1.length ≤ (l ++ bs).length := by
  rw [feed_is bs a l ((l ++ bs).length + 1) hW hB (by omega)]
  obtain ⟨ts, m, g1, g2, g3, g4, g5⟩ := pF_law ((l ++ bs).length + 1) a (l ++ bs) (by omega) hB
  have hc : ∀ (f : Nat) (a : Int) (l : List Int), Bytes l → (pF f a l).1.length ≤ l.length := by
    intro f
    induction f with
    | zero => intro a l _; simp [pF]
    | succ f ih =>
      intro a l hB
      by_cases h0 : l = []
      · subst h0; rw [pF_nil]; simp
      · obtain ⟨n, s, e, h1, h2, h3, h4, h5, h6⟩ := one_far h0 hB
        by_cases he : e = 2
        · subst he; rw [pF_short h1]; simp
        · rw [pF_tok h0 h1 he]
          have := ih (a + n) (l.drop (n : Int).toNat) (hB.drop _)
          simp at this ⊢; omega
  have hcc := hc ((l ++ bs).length + 1) a (l ++ bs) hB
  rw [g1] at hcc ⊢
  exact ⟨g4, g4.three (hB.drop m), hB.drop m, by simp at g2 ⊢; omega, by show a ≤ a + (m : Int); omega, hcc⟩
theorem all_is : ∀ (f g : Nat) (a : Int) (l : List Int), l.length < f → l.length < g → Bytes l → allF f a l = (pF g a l).1 ++ (eF (pF g a l).2.2 (pF g a l).2.1).1 := by
  intro f
  induction f with
  | zero => intro g a l h; omega
  | succ f ih =>
    intro g a l hf hg hB
    by_cases h0 : l = []
    · subst h0; rw [pF_nil]; rfl
    · obtain ⟨n, s, e, h1, h2, h3, h4, h5, h6⟩ := one_far h0 hB
      unfold allF
      rw [if_neg h0, h1]
      by_cases he : e = 2
      · obtain ⟨rfl, _⟩ := h6 he
        subst he
        rw [pF_short h1]
        simp only [eF]
        rw [if_neg h0, Int.toNat_natCast, List.drop_length]
        cases f <;> simp [allF]
      · cases g with
        | zero => omega
        | succ g => rw [pF_tok h0 h1 he, ih g (a + n) (l.drop (n : Int).toNat) (by simp; omega) (by simp; omega) (hB.drop _)]; rfl
theorem all_fuel (f g : Nat) (a : Int) (l : List Int) (hf : l.length < f) (hg : l.length < g) (hB : Bytes l) : allF f a l = allF g a l := by
  rw [all_is f f a l hf hf hB, all_is g f a l hg hf hB]
/-- what is fed, and an end: what is read of all -/
theorem feed_all (bs : List Int) (a : Int) (f : Nat) (hB : Bytes bs) (hf : bs.length < f) : (feedF a [] bs).1 ++ (eF (feedF a [] bs).2.2 (feedF a [] bs).2.1).1 = allF f a bs := by
  rw [feed_is bs a [] f waits_nil (by simpa using hB) (by simpa using hf), List.nil_append]
  exact (all_is f f a bs hf hf hB).symm
def shf (d : Int) (t : S32) : S32 := ⟨t.f0 + d, t.f1, t.f2, t.f3⟩
theorem all_shift : ∀ (f : Nat) (a d : Int) (l : List Int), allF f (a + d) l = (allF f a l).map (shf d) := by
  intro f
  induction f with
  | zero => intro a d l; rfl
  | succ f ih =>
    intro a d l
    unfold allF
    by_cases h0 : l = []
    · rw [if_pos h0, if_pos h0]; rfl
    · rw [if_neg h0, if_neg h0, List.map_cons]
      rw [show a + d + (oneF l).2.1 = a + (oneF l).2.1 + d from by omega, ih]
      rfl
theorem all_len : ∀ (f : Nat) (a : Int) (l : List Int), Bytes l → (allF f a l).length ≤ l.length := by
  intro f
  induction f with
  | zero => intro a l _; simp [allF]
  | succ f ih =>
    intro a l hB
    unfold allF
    by_cases h0 : l = []
    · rw [if_pos h0]; simp
    · obtain ⟨n, s, e, h1, h2, h3, h4, h5, h6⟩ := one_far h0 hB
      rw [if_neg h0, h1]
      have := ih (a + n) (l.drop (n : Int).toNat) (hB.drop _)
      simp at this ⊢; omega
theorem all_l0 (l : List Int) (hB : Bytes l) (hl : l.length < 2932031007402) : ∀ (k : Nat) (a : Nat) (xs : List S32), a ≤ l.length → xs.length ≤ a → l.length - a < k → utf_All.l0 k l xs (a : Int) = some (xs ++ allF k a (l.drop a)) := by
  intro k
  induction k with
  | zero => intro a xs _ _ h; omega
  | succ k ih =>
    intro a xs ha hx hk
    unfold utf_All.l0 allF
    by_cases h0 : a = l.length
    · rw [if_neg (by omega), if_pos (by rw [h0, List.drop_length]), List.append_nil]
    · have hd : l.drop a ≠ [] := fun h => by have := congrArg List.length h; simp at this; omega
      obtain ⟨n, s, e, h1, h2, h3, h4, h5, h6⟩ := one_far hd (hB.drop a)
      rw [List.length_drop] at h3
      rw [if_pos (by omega), if_pos (by omega), if_pos (by omega), if_neg hd, Int.toNat_natCast, utf_One.of (hB.drop a), h1]
      have hw : wrap64 ((a : Int) + n) = ((a + n : Nat) : Int) := by unfold wrap64; omega
      have hlt : xs.length < 2932031007402 := by omega
      have e1 : (a : Int) + n = ((a + n : Nat) : Int) := by omega
      simp only [Option.bind_some]
      by_cases he : e = 0
      · subst he
        rw [if_pos rfl, if_pos hlt, if_pos rfl, hw, ih (a + n) _ (by omega) (by simp; omega) (by omega), Int.toNat_natCast, List.drop_drop, e1]
        simp
      · rw [if_neg he, if_pos hlt, if_neg he, hw, ih (a + n) _ (by omega) (by simp; omega) (by omega), Int.toNat_natCast, List.drop_drop, e1]
        simp
theorem all_f {l : List Int} (hB : Bytes l) (hl : l.length < 2932031007402) : utf_All.f (l.length + 1) l = some (allF (l.length + 1) 0 l) := by
  have := all_l0 l hB hl (l.length + 1) 0 [] (by omega) (by simp) (by omega)
  rw [List.nil_append, List.drop_zero] at this
  exact this
theorem units_l0 (l : List Int) (hl : l.length < 140737488355328) : ∀ (k : Nat) (i : Nat), i ≤ l.length → l.length - i < k → lontarlaw01_Units.l0 k l l (l.length : Int) (i : Int) = some true := by
  intro k
  induction k with
  | zero => intro i _ h; omega
  | succ k ih =>
    intro i hi hk
    unfold lontarlaw01_Units.l0
    by_cases h0 : i = l.length
    · rw [if_neg (by omega)]
    · have hw : wrap64 ((i : Int) + 1) = ((i + 1 : Nat) : Int) := by unfold wrap64; omega
      rw [if_pos (by omega), if_pos (by omega), if_pos (by omega), if_pos (by omega), if_pos rfl, hw]
      exact ih (i + 1) (by omega) (by omega)
theorem units_same {l : List Int} (k : Nat) (hl : l.length ≤ 100) (hk : 101 ≤ k) : lontarlaw01_Units.f k l l = some true := by
  unfold lontarlaw01_Units.f
  rw [if_pos rfl]
  exact units_l0 l (by omega) k 0 (by omega) (by omega)
theorem same_l0 (l : List S32) (hl : l.length < 140737488355328) (hs : ∀ t ∈ l, t.f2.length ≤ 100) : ∀ (k : Nat) (i : Nat), i ≤ l.length → l.length - i + 101 < k → lontarlaw01_Same.l0 k l l (l.length : Int) (i : Int) = some true := by
  intro k
  induction k with
  | zero => intro i _ h; omega
  | succ k ih =>
    intro i hi hk
    unfold lontarlaw01_Same.l0
    by_cases h0 : i = l.length
    · rw [if_neg (by omega)]
    · have hw : wrap64 ((i : Int) + 1) = ((i + 1 : Nat) : Int) := by unfold wrap64; omega
      have hu : lontarlaw01_Units.f k (rd_T32 l i).f2 (rd_T32 l i).f2 = some true := by
        refine units_same k ?_ (by omega)
        have : (rd_T32 l (i : Int)) = l[i] := by unfold rd_T32; simp [List.getElem?_eq_getElem (show i < l.length by omega)]
        rw [this]
        exact hs _ (List.getElem_mem _)
      rw [if_pos (by omega), if_pos (by omega), if_pos (by omega), if_pos (by omega), if_pos rfl, if_pos rfl, if_pos rfl, hu]
      simp only [Option.bind_some, if_true]
      rw [hw]
      exact ih (i + 1) (by omega) (by omega)
theorem same_f {l : List S32} (hl : l.length < 140737488355328) (hs : ∀ t ∈ l, t.f2.length ≤ 100) : lontarlaw01_Same.f (l.length + 103) l l = some true := by
  unfold lontarlaw01_Same.f
  rw [if_pos rfl]
  exact same_l0 l hl hs _ 0 (by omega) (by omega)
theorem all_out : ∀ (f : Nat) (a : Int) (l : List Int), ∀ t ∈ allF f a l, t.f2.length ≤ 1 := by
  intro f
  induction f with
  | zero => intro a l t ht; simp [allF] at ht
  | succ f ih =>
    intro a l t ht
    unfold allF at ht
    by_cases h0 : l = []
    · rw [if_pos h0] at ht; simp at ht
    · rw [if_neg h0] at ht
      rcases List.mem_cons.1 ht with rfl | ht
      · show (if (oneF l).2.2 = 0 then [(oneF l).1] else []).length ≤ 1
        split <;> simp
      · exact ih _ _ t ht
theorem same_all (f : Nat) (a : Int) {l : List Int} (hB : Bytes l) (hl : l.length < 140737488355328) : lontarlaw01_Same.f ((allF f a l).length + 103) (allF f a l) (allF f a l) = some true :=
  same_f (by have := all_len f a l hB; omega) (fun t ht => by have := all_out f a l t ht; omega)
end Go.Proofs.Ytdhpldiahgajcaa.PUtfAll
