/- Texts of this claim, one behind the other (merged by a program): TX1, TR1. No condition of their own. -/
import Derived.Test.YtnfjgopcenpblaaGreatDoorM05
/- What a trie of rules says: the longest match, told by the rules themselves. Plain; no condition beyond distinct inputs. -/
namespace Go.Proofs.YtnfjgopcenpblaaGreatDoor.T
open Go.RowKit Go.Proofs.YtnfjgopcenpblaaGreatDoor
set_option linter.unusedVariables false
set_option linter.unusedSimpArgs false
theorem stepGo_zero (ns : List S183) (u : Int) (f : Nat) : stepGo ns u f 0 = (0, false) := by cases f <;> rfl
theorem stepGo_succ (ns : List S183) (u : Int) (f : Nat) {k : Int} (hk : 0 < k) : stepGo ns u (f + 1) k = if (rd_T183 ns k).f0 = u then (k, true) else stepGo ns u f (rd_T183 ns k).f2 := by
  rw [stepGo, if_pos hk]
theorem stepGo_ag {ns ns' : List S183} {u : Int} (hw : NWF ns) (hag : ∀ k : Int, 0 < k → k < ns.length → (rd_T183 ns' k).f0 = (rd_T183 ns k).f0 ∧ (rd_T183 ns' k).f2 = (rd_T183 ns k).f2) :
    ∀ (f : Nat) (k : Int), 0 ≤ k → k < ns.length → stepGo ns' u f k = stepGo ns u f k
  | 0, _, _, _ => rfl
  | f + 1, k, h0, h1 => by
    rcases Int.lt_or_eq_of_le h0 with hk | rfl
    · obtain ⟨e0, e2⟩ := hag k hk h1
      rw [stepGo_succ _ _ _ hk, stepGo_succ _ _ _ hk, e0, e2]
      split
      · rfl
      · have := hw k h0 h1
        exact stepGo_ag hw hag f _ this.2.2.1 (by omega)
    · rw [stepGo_zero, stepGo_zero]
theorem stepGo_fuel {ns : List S183} {u : Int} (hw : NWF ns) : ∀ (f g : Nat) (k : Int), 0 ≤ k → k < ns.length → k < f → k < g → stepGo ns u f k = stepGo ns u g k
  | 0, _, _, _, _, _, _ => by omega
  | _ + 1, 0, _, _, _, _, _ => by omega
  | f + 1, g + 1, k, h0, h1, hf, hg => by
    rcases Int.lt_or_eq_of_le h0 with hk | rfl
    · rw [stepGo_succ _ _ _ hk, stepGo_succ _ _ _ hk]
      split
      · rfl
      · have := hw k h0 h1
        rcases this.2.2.2 with e | e
        · rw [e, stepGo_zero, stepGo_zero]
        · exact stepGo_fuel hw f g _ this.2.2.1 (by omega) (by omega) (by omega)
    · rw [stepGo_zero, stepGo_zero]
theorem stepF_in {ns : List S183} {u a : Int} (h0 : 0 ≤ a) (h1 : a < ns.length) : stepF ns a u = stepGo ns u (ns.length + 1) (rd_T183 ns a).f1 := by
  unfold stepF; rw [if_neg (by omega)]
/-- node i stands for the row ps[i]; F gives a row's rule, or -1 -/
structure TrS (ns : List S183) (ps : List (List Int)) (F : List Int → Int) : Prop where
  wf : NWF ns
  len : ps.length = ns.length
  nodup : ps.Nodup
  root : ps[0]? = some []
  up : ∀ p u, p ++ [u] ∈ ps → p ∈ ps
  hit : ∀ (a j : Nat) p u, ps[a]? = some p → ps[j]? = some (p ++ [u]) → stepF ns a u = ((j : Int), true)
  miss : ∀ (a : Nat) p u, ps[a]? = some p → p ++ [u] ∉ ps → stepF ns a u = (0, false)
  rule : ∀ (b : Nat) q, ps[b]? = some q → (rd_T183 ns b).f3 = F q
  none : ∀ q, q ∉ ps → F q = -1
theorem snoc_ne (p : List Int) (u : Int) : p ++ [u] ≠ p := fun h => by have := congrArg List.length h; simp at this
theorem TrS.at_lt {ns : List S183} {ps : List (List Int)} {F : List Int → Int} (h : TrS ns ps F) {a : Nat} {p : List Int} (ha : ps[a]? = some p) : (a : Int) < ns.length := by
  have := (List.getElem?_eq_some_iff.1 ha).1
  rw [h.len] at this; omega
theorem nodup_idx {ps : List (List Int)} (h : ps.Nodup) {a b : Nat} {p : List Int} (ha : ps[a]? = some p) (hb : ps[b]? = some p) : a = b := by
  have la := (List.getElem?_eq_some_iff.1 ha).1
  have lb := (List.getElem?_eq_some_iff.1 hb).1
  have ea := (List.getElem?_eq_some_iff.1 ha).2
  have eb := (List.getElem?_eq_some_iff.1 hb).2
  have hp := List.pairwise_iff_getElem.1 h
  rcases Nat.lt_trichotomy a b with hl | hl | hl
  · exact absurd (ea.trans eb.symm) (hp a b la lb hl)
  · exact hl
  · exact absurd (eb.trans ea.symm) (hp b a lb la hl)
theorem TrS.setRule {ns : List S183} {ps : List (List Int)} {F : List Int → Int} (h : TrS ns ps F) {a : Nat} {p : List Int} (ha : ps[a]? = some p) (k : Int) :
    TrS (ns.set (a : Int).toNat (ruleN ns a k)) ps (fun q => if q = p then k else F q) := by
  have hl := h.at_lt ha
  have hrd : ∀ i : Int, 0 ≤ i → rd_T183 (ns.set (a : Int).toNat (ruleN ns a k)) i = if i = a then ruleN ns a k else rd_T183 ns i := fun i hi => rd_set (by omega) hl hi
  have hst : ∀ (b : Nat) u, (b : Int) < ns.length → stepF (ns.set (a : Int).toNat (ruleN ns a k)) b u = stepF ns b u := fun b u hb => by
    rw [stepF_in (by omega) (by rw [List.length_set]; exact hb), stepF_in (by omega) hb, List.length_set]
    have e1 : (rd_T183 (ns.set (a : Int).toNat (ruleN ns a k)) b).f1 = (rd_T183 ns b).f1 := by
      rw [hrd b (by omega)]; split
      · rename_i e; rw [e]; rfl
      · rfl
    rw [e1]
    have := h.wf b (by omega) hb
    refine stepGo_ag h.wf (fun i i0 i1 => ?_) _ _ this.1 this.2.1
    rw [hrd i (by omega)]; split
    · rename_i e; rw [e]; exact ⟨rfl, rfl⟩
    · exact ⟨rfl, rfl⟩
  refine ⟨nwf_rule h.wf (by omega) hl, by rw [List.length_set]; exact h.len, h.nodup, h.root, h.up, fun b j q u hb hj => ?_, fun b q u hb hn => ?_, fun b q hb => ?_, fun q hq => ?_⟩
  · rw [hst b u (h.at_lt hb)]; exact h.hit b j q u hb hj
  · rw [hst b u (h.at_lt hb)]; exact h.miss b q u hb hn
  · rw [hrd b (by omega)]
    by_cases e : q = p
    · subst e
      have := nodup_idx h.nodup ha hb
      subst this
      simp [ruleN]
    · have : ¬ ((b : Int) = a) := fun he => e (by
        have : b = a := by omega
        subst this
        rw [ha] at hb; exact (Option.some.inj hb).symm)
      rw [if_neg this, if_neg e]; exact h.rule b q hb
  · have : q ≠ p := fun e => hq (by rw [e]; exact List.mem_of_getElem? ha)
    simp only [if_neg this]; exact h.none q hq
theorem TrS.addNode {ns : List S183} {ps : List (List Int)} {F : List Int → Int} (h : TrS ns ps F) {a : Nat} {p : List Int} (ha : ps[a]? = some p) {u : Int} (hu : p ++ [u] ∉ ps) :
    TrS ((ns ++ [newN ns a u]).set (a : Int).toNat (kidN ns a)) (ps ++ [p ++ [u]]) F := by
  have hl := h.at_lt ha
  have hlen : ((ns ++ [newN ns a u]).set (a : Int).toNat (kidN ns a)).length = ns.length + 1 := by simp
  have hrd : ∀ i : Int, 0 ≤ i → i < ns.length → i ≠ a → rd_T183 ((ns ++ [newN ns a u]).set (a : Int).toNat (kidN ns a)) i = rd_T183 ns i := fun i i0 i1 i2 => by
    rw [rd_set (by omega) (by simp; omega) i0, if_neg i2, rd_app i0, if_pos i1]
  have hra : rd_T183 ((ns ++ [newN ns a u]).set (a : Int).toNat (kidN ns a)) a = kidN ns a := by
    rw [rd_set (by omega) (by simp; omega) (by omega), if_pos rfl]
  have hrn : rd_T183 ((ns ++ [newN ns a u]).set (a : Int).toNat (kidN ns a)) (ns.length : Int) = newN ns a u := by
    rw [rd_set (by omega) (by simp; omega) (by omega), if_neg (by omega), rd_app (by omega), if_neg (by omega), if_pos rfl]
  have hag : ∀ k : Int, 0 < k → k < ns.length → (rd_T183 ((ns ++ [newN ns a u]).set (a : Int).toNat (kidN ns a)) k).f0 = (rd_T183 ns k).f0 ∧ (rd_T183 ((ns ++ [newN ns a u]).set (a : Int).toNat (kidN ns a)) k).f2 = (rd_T183 ns k).f2 := fun k k0 k1 => by
    by_cases e : k = a
    · rw [e, hra]; exact ⟨rfl, rfl⟩
    · rw [hrd k (by omega) k1 e]; exact ⟨rfl, rfl⟩
  have hstA : ∀ v, stepF ((ns ++ [newN ns a u]).set (a : Int).toNat (kidN ns a)) a v = if u = v then ((ns.length : Int), true) else stepF ns a v := fun v => by
    rw [stepF_in (by omega) (by rw [hlen]; omega), hlen, hra]
    show stepGo _ v (ns.length + 1 + 1) (ns.length : Int) = _
    have hpos : (0 : Int) < ns.length := by omega
    rw [stepGo_succ _ _ _ hpos, hrn]
    show (if u = v then _ else _) = _
    split
    · rfl
    · rw [stepF_in (by omega) hl]
      have := h.wf a (by omega) hl
      exact stepGo_ag h.wf hag _ _ this.1 this.2.1
  have hstB : ∀ (b : Nat) v, (b : Int) < ns.length → b ≠ a → stepF ((ns ++ [newN ns a u]).set (a : Int).toNat (kidN ns a)) b v = stepF ns b v := fun b v hb hba => by
    rw [stepF_in (by omega) (by rw [hlen]; omega), hlen, hrd b (by omega) hb (by omega), stepF_in (by omega) hb]
    have := h.wf b (by omega) hb
    rw [stepGo_ag h.wf hag _ _ this.1 this.2.1]
    exact stepGo_fuel h.wf _ _ _ this.1 this.2.1 (by omega) (by omega)
  have hstN : ∀ v, stepF ((ns ++ [newN ns a u]).set (a : Int).toNat (kidN ns a)) (ns.length : Int) v = (0, false) := fun v => by
    rw [stepF_in (by omega) (by rw [hlen]; omega), hrn]
    exact stepGo_zero _ _ _
  have hpm : p ∈ ps := List.mem_of_getElem? ha
  have hnew : ∀ v, p ++ [u] ++ [v] ∉ ps ++ [p ++ [u]] := fun v hm => by
    rcases List.mem_append.1 hm with hm | hm
    · exact hu (h.up _ _ hm)
    · exact snoc_ne _ _ (List.mem_singleton.1 hm)
  have hget : ∀ (j : Nat) q, (ps ++ [p ++ [u]])[j]? = some q → (ps[j]? = some q ∧ j < ns.length) ∨ (j = ns.length ∧ q = p ++ [u]) := fun j q hj => by
    by_cases hjl : j < ps.length
    · rw [List.getElem?_append_left hjl] at hj; exact .inl ⟨hj, by rw [← h.len]; exact hjl⟩
    · rw [List.getElem?_append_right (by omega)] at hj
      have hj0 : j - ps.length = 0 := by
        have := (List.getElem?_eq_some_iff.1 hj).1
        simp at this; omega
      rw [hj0] at hj
      exact .inr ⟨by rw [← h.len]; omega, by simpa using hj.symm⟩
  refine ⟨nwf_node h.wf (by omega) hl, by rw [hlen, List.length_append, h.len]; rfl, ?_, ?_, ?_, ?_, ?_, ?_, ?_⟩
  · refine List.nodup_append.2 ⟨h.nodup, by simp, fun x hx y hy => ?_⟩
    rw [List.mem_singleton.1 hy]
    intro e
    rw [e] at hx
    exact hu hx
  · rw [List.getElem?_append_left (by rw [h.len]; omega)]; exact h.root
  · intro q v hq
    rcases List.mem_append.1 hq with hq | hq
    · exact List.mem_append_left _ (h.up q v hq)
    · have := List.append_inj' (List.mem_singleton.1 hq) rfl
      rw [this.1]; exact List.mem_append_left _ hpm
  · intro b j q v hb hj
    rcases hget b q hb with ⟨hb2, hbl⟩ | ⟨rfl, rfl⟩
    · rcases hget j _ hj with ⟨hj2, hjl⟩ | ⟨rfl, he⟩
      · by_cases hba : b = a
        · subst hba
          rw [ha] at hb2
          obtain rfl := Option.some.inj hb2
          rw [hstA, if_neg (fun e : u = v => hu (by rw [e]; exact List.mem_of_getElem? hj2))]
          exact h.hit b j _ v ha hj2
        · rw [hstB b v (by omega) hba]; exact h.hit b j q v hb2 hj2
      · have := List.append_inj' he rfl
        obtain ⟨rfl, e2⟩ := this
        have := nodup_idx h.nodup ha hb2
        subst this
        rw [hstA, if_pos (by simpa using e2.symm)]
    · exact absurd (List.mem_of_getElem? hj) (hnew v)
  · intro b q v hb hn
    rcases hget b q hb with ⟨hb, hbl⟩ | ⟨rfl, rfl⟩
    · have hn' : q ++ [v] ∉ ps := fun hm => hn (List.mem_append_left _ hm)
      by_cases hba : b = a
      · subst hba
        rw [ha] at hb
        obtain rfl := Option.some.inj hb
        rw [hstA, if_neg (fun e => hn (by rw [e]; exact List.mem_append_right _ (List.mem_singleton.2 rfl)))]
        exact h.miss b _ v ha hn'
      · rw [hstB b v (by omega) hba]; exact h.miss b q v hb hn'
    · exact hstN v
  · intro b q hb
    rcases hget b q hb with ⟨hb, hbl⟩ | ⟨rfl, rfl⟩
    · by_cases hba : b = a
      · subst hba; rw [hra]; exact h.rule b q hb
      · rw [hrd b (by omega) (by omega) (by omega)]; exact h.rule b q hb
    · rw [hrn]; exact (h.none _ hu).symm
  · intro q hq
    exact h.none q (fun hm => hq (List.mem_append_left _ hm))
theorem TrS.stepped {ns : List S183} {ps : List (List Int)} {F : List Int → Int} (h : TrS ns ps F) {a : Nat} {p : List Int} (ha : ps[a]? = some p) (u : Int) :
    (p ++ [u] ∉ ps ∧ stepF ns a u = (0, false)) ∨ ∃ j : Nat, ps[j]? = some (p ++ [u]) ∧ stepF ns a u = ((j : Int), true) := by
  by_cases hm : p ++ [u] ∈ ps
  · obtain ⟨j, hj⟩ := List.mem_iff_getElem?.1 hm
    exact .inr ⟨j, hj, h.hit a j p u ha hj⟩
  · exact .inl ⟨hm, h.miss a p u ha hm⟩
theorem addGo_sem (k : Int) : ∀ (us : List Int) (ns : List S183) (ps : List (List Int)) (F : List Int → Int) (a : Nat) (p : List Int), TrS ns ps F → ps[a]? = some p →
    ∃ ps', TrS (addGo k ns a us) ps' (fun q => if q = p ++ us then k else F q) ∧ ∀ q, q ∈ ps' ↔ q ∈ ps ∨ ∃ t, t <+: us ∧ q = p ++ t
  | [], ns, ps, F, a, p, h, ha => by
    refine ⟨ps, ?_, fun q => ⟨.inl, fun hq => ?_⟩⟩
    · have := h.setRule ha k
      simpa [addGo] using this
    · rcases hq with hq | ⟨t, ht, rfl⟩
      · exact hq
      · rw [List.prefix_nil.1 ht, List.append_nil]; exact List.mem_of_getElem? ha
  | u :: us, ns, ps, F, a, p, h, ha => by
    have hmem : ∀ (ps1 : List (List Int)), (∀ q, q ∈ ps1 ↔ q ∈ ps ∨ q = p ++ [u]) → ∀ q, ((q ∈ ps1 ∨ ∃ t, t <+: us ∧ q = p ++ [u] ++ t) ↔ (q ∈ ps ∨ ∃ t, t <+: u :: us ∧ q = p ++ t)) := fun ps1 h1 q => by
      constructor
      · rintro (hq | ⟨t, ht, rfl⟩)
        · rcases (h1 q).1 hq with hq | rfl
          · exact .inl hq
          · exact .inr ⟨[u], by simp, rfl⟩
        · exact .inr ⟨u :: t, by simpa using ht, by simp⟩
      · rintro (hq | ⟨t, ht, rfl⟩)
        · exact .inl ((h1 q).2 (.inl hq))
        · cases t with
          | nil => exact .inl ((h1 _).2 (.inl (by rw [List.append_nil]; exact List.mem_of_getElem? ha)))
          | cons v t =>
            obtain ⟨rfl, ht2⟩ := List.cons_prefix_cons.1 ht
            exact .inr ⟨t, ht2, by simp⟩
    rcases h.stepped ha u with ⟨hm, hs⟩ | ⟨j, hj, hs⟩
    · have hN := h.addNode ha hm
      have hg : (ps ++ [p ++ [u]])[ns.length]? = some (p ++ [u]) := by rw [← h.len]; simp
      obtain ⟨ps', h1, h2⟩ := addGo_sem k us _ _ F ns.length (p ++ [u]) hN hg
      refine ⟨ps', ?_, fun q => (h2 q).trans (hmem _ (fun q => by simp) q)⟩
      have e : addGo k ns (a : Int) (u :: us) = addGo k ((ns ++ [newN ns a u]).set (a : Int).toNat (kidN ns a)) (ns.length : Int) us := by
        rw [addGo, hs]; rfl
      rw [e]
      simpa using h1
    · obtain ⟨ps', h1, h2⟩ := addGo_sem k us ns ps F j (p ++ [u]) h hj
      refine ⟨ps', ?_, fun q => (h2 q).trans (hmem ps (fun q => ⟨.inl, fun hq => ?_⟩) q)⟩
      · have e : addGo k ns (a : Int) (u :: us) = addGo k ns (j : Int) us := by
          rw [addGo, hs]; rfl
        rw [e]
        simpa using h1
      · rcases hq with hq | rfl
        · exact hq
        · exact List.mem_of_getElem? hj
theorem findGo_none {l : List Int} : ∀ {rs : List S150} {i : Nat}, l ∉ rs.map (·.f0) → findGo l rs i = -1
  | [], _, _ => rfl
  | r :: rs, i, h => by
    rw [List.map_cons, List.mem_cons, not_or] at h
    rw [findGo, if_neg (fun e => h.1 e.symm)]
    exact findGo_none h.2
theorem findGo_some {l : List Int} : ∀ {rs : List S150} {i : Nat}, l ∈ rs.map (·.f0) → (i : Int) ≤ findGo l rs i
  | [], _, h => by simp at h
  | r :: rs, i, h => by
    rw [findGo]
    split
    · exact Int.le_refl _
    · rename_i e
      rw [List.map_cons, List.mem_cons] at h
      have := findGo_some (i := i + 1) (h.resolve_left (fun e' => e e'.symm))
      omega
theorem nodesGo_sem : ∀ (rs : List S150) (k : Nat) (ns : List S183) (ps : List (List Int)) (F : List Int → Int), TrS ns ps F → (rs.map (·.f0)).Nodup →
    ∃ ps', TrS (nodesGo rs k ns) ps' (fun q => if 0 ≤ findGo q rs k then findGo q rs k else F q) ∧ ∀ q, q ∈ ps' ↔ q ∈ ps ∨ ∃ r ∈ rs, q <+: r.f0
  | [], k, ns, ps, F, h, _ => ⟨ps, by simpa [nodesGo, findGo] using h, fun q => by simp⟩
  | r :: rs, k, ns, ps, F, h, hd => by
    rw [List.map_cons, List.nodup_cons] at hd
    obtain ⟨p1, h1, m1⟩ := addGo_sem k r.f0 ns ps F 0 [] h h.root
    obtain ⟨p2, h2, m2⟩ := nodesGo_sem rs (k + 1) _ p1 _ h1 hd.2
    refine ⟨p2, ?_, fun q => ?_⟩
    · have hF : (fun q => if 0 ≤ findGo q (r :: rs) k then findGo q (r :: rs) k else F q) = (fun q => if 0 ≤ findGo q rs (k + 1) then findGo q rs (k + 1) else if q = [] ++ r.f0 then (k : Int) else F q) := by
        funext q
        rw [findGo, List.nil_append]
        by_cases e : r.f0 = q
        · subst e
          rw [if_pos rfl, if_pos (by omega), findGo_none hd.1, if_neg (by omega), if_pos rfl]
        · rw [if_neg e, if_neg (fun e' : q = r.f0 => e e'.symm)]
      rw [hF]
      exact h2
    · rw [m2, m1]
      constructor
      · rintro ((hq | ⟨t, ht, rfl⟩) | ⟨r', hr, hp⟩)
        · exact .inl hq
        · exact .inr ⟨r, List.mem_cons_self .., by simpa using ht⟩
        · exact .inr ⟨r', List.mem_cons_of_mem _ hr, hp⟩
      · rintro (hq | ⟨r', hr, hp⟩)
        · exact .inl (.inl hq)
        · rcases List.mem_cons.1 hr with rfl | hr
          · exact .inl (.inr ⟨q, hp, by simp⟩)
          · exact .inr ⟨r', hr, hp⟩
theorem root_sem : TrS [⟨0, 0, 0, -1⟩] [[]] (fun _ => -1) := by
  refine ⟨nwf_root, rfl, by simp, rfl, fun p u h => ?_, fun a j p u ha hj => ?_, fun a p u ha _ => ?_, fun b q hb => ?_, fun _ _ => rfl⟩
  · simp at h
  · have := List.mem_of_getElem? hj
    simp at this
  · have := (List.getElem?_eq_some_iff.1 ha).1
    obtain rfl : a = 0 := by simpa using this
    rfl
  · have := (List.getElem?_eq_some_iff.1 hb).1
    obtain rfl : b = 0 := by simpa using this
    rfl
def preB (rs : List S150) (q : List Int) : Bool := rs.any fun r => q.isPrefixOf r.f0
def kidB (rs : List S150) (q : List Int) : Bool := rs.any fun r => q.isPrefixOf r.f0 && decide (q.length < r.f0.length)
/-- the rows that the rules begin with, and their numbers -/
structure Says (ns : List S183) (rs : List S150) (ps : List (List Int)) : Prop where
  sem : TrS ns ps (findF rs)
  mem : ∀ q, q ∈ ps ↔ q = [] ∨ preB rs q = true
theorem nodesF_says {rs : List S150} (hd : (rs.map (·.f0)).Nodup) : ∃ ps, Says (nodesF rs) rs ps := by
  obtain ⟨ps, h, m⟩ := nodesGo_sem rs 0 _ _ _ root_sem hd
  refine ⟨ps, ?_, fun q => ?_⟩
  · have : findF rs = (fun q => if 0 ≤ findGo q rs 0 then findGo q rs 0 else -1) := by
      funext q
      unfold findF
      by_cases hq : q ∈ rs.map (·.f0)
      · rw [if_pos (show (0 : Int) ≤ findGo q rs 0 from findGo_some (i := 0) hq)]
      · rw [findGo_none hq]; rfl
    rw [this]
    exact h
  · rw [m]
    unfold preB
    simp [List.any_eq_true]
def longSGo (rs : List S150) : List Int → List Int → Int → Int → Int → Int × Int × Bool
  | [], p, k, n, _ => (k, n, kidB rs p)
  | u :: us, p, k, n, i => if preB rs (p ++ [u]) = false then (k, n, false) else
      if 0 ≤ findF rs (p ++ [u]) then longSGo rs us (p ++ [u]) (findF rs (p ++ [u])) (i + 1) (i + 1) else longSGo rs us (p ++ [u]) k n (i + 1)
def longS (rs : List S150) (us : List Int) : Int × Int × Bool := longSGo rs us [] (-1) 0 0
theorem prefix_step {p q : List Int} (h : p <+: q) (hl : p.length < q.length) : ∃ u, p ++ [u] <+: q := by
  obtain ⟨t, rfl⟩ := h
  cases t with
  | nil => simp at hl
  | cons u t => exact ⟨u, t, by simp⟩
theorem Says.kid {ns : List S183} {rs : List S150} {ps : List (List Int)} (h : Says ns rs ps) {a : Nat} {p : List Int} (ha : ps[a]? = some p) : (!((rd_T183 ns a).f1 == 0)) = kidB rs p := by
  have hl := h.sem.at_lt ha
  have hw := h.sem.wf a (by omega) hl
  have hk : kidB rs p = true ↔ ∃ u, p ++ [u] ∈ ps := by
    unfold kidB
    rw [List.any_eq_true]
    constructor
    · rintro ⟨r, hr, hp⟩
      rw [Bool.and_eq_true, decide_eq_true_eq, List.isPrefixOf_iff_prefix] at hp
      obtain ⟨u, hu⟩ := prefix_step hp.1 hp.2
      refine ⟨u, (h.mem _).2 (.inr ?_)⟩
      unfold preB
      rw [List.any_eq_true]
      exact ⟨r, hr, List.isPrefixOf_iff_prefix.2 hu⟩
    · rintro ⟨u, hu⟩
      rcases (h.mem _).1 hu with e | e
      · simp at e
      · unfold preB at e
        rw [List.any_eq_true] at e
        obtain ⟨r, hr, hp⟩ := e
        rw [List.isPrefixOf_iff_prefix] at hp
        refine ⟨r, hr, ?_⟩
        rw [Bool.and_eq_true, decide_eq_true_eq, List.isPrefixOf_iff_prefix]
        have := hp.length_le
        rw [List.length_append] at this
        exact ⟨(List.prefix_append p [u]).trans hp, Nat.lt_of_succ_le (by simpa using this)⟩
  by_cases e : (rd_T183 ns a).f1 = 0
  · have : kidB rs p ≠ true := fun hb => by
      obtain ⟨u, hu⟩ := hk.1 hb
      rcases h.sem.stepped ha u with ⟨hm, _⟩ | ⟨j, hj, hs⟩
      · exact hm hu
      · rw [stepF_in (by omega) hl, e, stepGo_zero] at hs
        simp at hs
    simp only [e, BEq.rfl, Bool.not_true]
    exact (Bool.eq_false_iff.2 this).symm
  · have : kidB rs p = true := by
      refine hk.2 ⟨(rd_T183 ns (rd_T183 ns a).f1).f0, ?_⟩
      rcases h.sem.stepped ha (rd_T183 ns (rd_T183 ns a).f1).f0 with ⟨hm, hs⟩ | ⟨j, hj, hs⟩
      · rw [stepF_in (by omega) hl, stepGo_succ _ _ _ (by omega), if_pos rfl] at hs
        simp at hs
      · exact List.mem_of_getElem? hj
    rw [this]
    simp [e]
theorem longGo_says {ns : List S183} {rs : List S150} {ps : List (List Int)} (h : Says ns rs ps) : ∀ (us : List Int) (a : Nat) (p : List Int) (k n i : Int), ps[a]? = some p → longGo ns us a k n i = longSGo rs us p k n i
  | [], a, p, k, n, i, ha => by rw [longGo, longSGo, h.kid ha]
  | u :: us, a, p, k, n, i, ha => by
    rw [longGo, longSGo]
    have hm := h.mem (p ++ [u])
    rcases h.sem.stepped ha u with ⟨hn, hs⟩ | ⟨j, hj, hs⟩
    · have : preB rs (p ++ [u]) = false := Bool.eq_false_iff.2 (fun e => hn (hm.2 (.inr e)))
      rw [hs, if_pos rfl, if_pos this]
    · have : preB rs (p ++ [u]) = true := (hm.1 (List.mem_of_getElem? hj)).resolve_left (by simp)
      rw [hs, if_neg (show ¬ ((j : Int), true).2 = false by simp), if_neg (show ¬ preB rs (p ++ [u]) = false by rw [this]; simp)]
      simp only
      rw [h.sem.rule j _ hj, longGo_says h us j (p ++ [u]) _ _ _ hj, longGo_says h us j (p ++ [u]) _ _ _ hj]
theorem longF_says {rs : List S150} (hd : (rs.map (·.f0)).Nodup) (us : List Int) : longF (nodesF rs) us = longS rs us := by
  obtain ⟨ps, h⟩ := nodesF_says hd
  exact longGo_says h us 0 [] _ _ _ h.sem.root
end Go.Proofs.YtnfjgopcenpblaaGreatDoor.T

/- match.Match: what its block has, on take's way. No condition beyond the ranges. -/
namespace Go.Proofs.YtnfjgopcenpblaaGreatDoor.T
open Go.RowKit Go.Proofs.YtnfjgopcenpblaaGreatDoorW.PrintWords Go.Proofs.YtnfjgopcenpblaaGreatDoorW.PrintLast Go.Proofs.YtnfjgopcenpblaaGreatDoorW.PrintMore Go.Proofs.YtnfjgopcenpblaaGreatDoor
set_option linter.unusedVariables false
set_option linter.unusedSimpArgs false
theorem Tr.bound {w : World} {ok : Nat → Prop} {b : Nat} {ns : List S183} {rs : List S150} (h : Tr w ok b ns rs) : Tr w (fun k => ok k ∧ k < w.heap.size) b ns rs := by
  obtain ⟨⟨nv, rv, h1, h2, h3⟩, h4⟩ := h
  exact ⟨⟨nv, rv, h1, Kd.R_mono (Kd.R_bound h2) (fun k hk => ⟨hk.1, hk.2.2.1⟩), Kd.R_mono (Kd.R_bound h3) (fun k hk => ⟨hk.1, hk.2.2.1⟩)⟩, h4, blk_lt h1⟩
/-- what a trie has to have for match -/
structure Fit (ns : List S183) (rs : List S150) : Prop where
  wf : NWF ns
  pos : 0 < ns.length
  rule : ∀ i : Int, 0 ≤ i → i < ns.length → (rd_T183 ns i).f3 < rs.length
  outs : ∀ r ∈ rs, r.f1.length ≤ 8
theorem longGo_fit {ns : List S183} {rs : List S150} (h : Fit ns rs) : ∀ (us : List Int) (a k n i : Int), 0 ≤ a → a < ns.length → k < rs.length → 0 ≤ n → n ≤ i → 0 ≤ i →
    (longGo ns us a k n i).1 < rs.length ∧ 0 ≤ (longGo ns us a k n i).2.1 ∧ (longGo ns us a k n i).2.1 ≤ i + us.length
  | [], a, k, n, i, a0, a1, hk, n0, n1, i0 => ⟨hk, n0, by show n ≤ _; simp; omega⟩
  | u :: us, a, k, n, i, a0, a1, hk, n0, n1, i0 => by
    rw [longGo]
    rcases hs : stepF ns a u with ⟨nx, b⟩
    have hl : ((u :: us).length : Int) = us.length + 1 := by simp
    cases b with
    | false => rw [if_pos rfl]; exact ⟨hk, n0, by show n ≤ _; omega⟩
    | true =>
      rw [if_neg (by simp)]
      have hx := stepF_lt h.wf hs
      split
      · have := longGo_fit h us nx _ (i + 1) (i + 1) (by omega) hx.2 (h.rule nx (by omega) hx.2) (by omega) (Int.le_refl _) (by omega)
        exact ⟨this.1, this.2.1, by have h3 := this.2.2; rw [hl]; exact Int.le_trans h3 (by omega)⟩
      · have := longGo_fit h us nx k n (i + 1) (by omega) hx.2 hk n0 (by omega) (by omega)
        exact ⟨this.1, this.2.1, by have h3 := this.2.2; rw [hl]; exact Int.le_trans h3 (by omega)⟩
theorem longF_fit {ns : List S183} {rs : List S150} (h : Fit ns rs) (hp : 0 < rs.length) (us : List Int) : (longF ns us).1 < rs.length ∧ 0 ≤ (longF ns us).2.1 ∧ (longF ns us).2.1 ≤ us.length := by
  have := longGo_fit h us 0 (-1) 0 0 (Int.le_refl _) (by have := h.pos; omega) (by omega) (Int.le_refl _) (Int.le_refl _) (Int.le_refl _)
  exact ⟨this.1, this.2.1, by have := this.2.2; unfold longF; omega⟩
def tokLen (n : Int) : Int := if (1 : Int) < n then n else 1
def takeTok (rs : List S150) (a k n : Int) : S66 := if k < 0 then ⟨a, n, [], 3⟩ else ⟨a, n, (rd_T150 rs k).f1, 0⟩
/-- what is taken of units that wait: tokens, what waits still, and where it begins -/
def takeF (ns : List S183) (rs : List S150) (fin : Bool) : Nat → List Int → Int → List S66 × List Int × Int
  | 0, us, a => ([], us, a)
  | f + 1, us, a => if us = [] then ([], us, a) else if ((longF ns us).2.2 && !fin) = true then ([], us, a) else
      (takeTok rs a (longF ns us).1 (tokLen (longF ns us).2.1) :: (takeF ns rs fin f (us.drop (tokLen (longF ns us).2.1).toNat) (wrap64 (a + tokLen (longF ns us).2.1))).1,
        (takeF ns rs fin f (us.drop (tokLen (longF ns us).2.1).toNat) (wrap64 (a + tokLen (longF ns us).2.1))).2)
/-- block m is a match whose units us wait (in the slice vi), a world W on the way of a call begun in w, the tokens xs in u -/
structure MInv (w : World) (m tb : Nat) (v : Value) (W : World) (vi u : Value) (us : List Int) (a : Int) (xs : List S66) : Prop where
  blk : ∃ st, W.heap[m]? = some (.cells #[.pointer (some ⟨tb, 0, none⟩), vi, .int .i64 a, .int .i64 st] 144 (0, 0))
  own : W.ownsRow 0 3 1 vi us.length (nums .i64 us)
  toks : k66.R 66 W 0 (fun k => w.heap.size ≤ k ∧ some k ≠ vi.ownBlock) u xs
  kept : Kept w W (fun k => k = m ∨ some k = v.ownBlock)
  new : vi.ownBlock = v.ownBlock ∨ ∀ k, vi.ownBlock = some k → w.heap.size ≤ k
  env : W.os = w.os ∧ W.tape = w.tape ∧ W.output = w.output
  mlt : m < w.heap.size
  vlt : ∀ k, v.ownBlock = some k → k < w.heap.size
namespace MInv
variable {w W W2 : World} {m tb : Nat} {v vi u v2 : Value} {us us2 : List Int} {a a2 : Int} {xs : List S66} {tok : S66}
theorem form (h : MInv w m tb v W vi u us a xs) : ∃ A c, vi = .slice A us.length c := own_slice h.own
theorem keep (h : MInv w m tb v W vi u us a xs) (hb : Below W.heap.size W W2) : MInv w m tb v W2 vi u us a xs := by
  obtain ⟨st, hs⟩ := h.blk
  exact ⟨⟨st, blk_below hs hb⟩, pw_own_below h.own hb, Kd.R_below h.toks hb, h.kept.below hb, h.new, ⟨hb.os.trans h.env.1, hb.tape.trans h.env.2.1, hb.output.trans h.env.2.2⟩, h.mlt, h.vlt⟩
theorem trie (h : MInv w m tb v W vi u us a xs) {ok : Nat → Prop} {ns : List S183} {rs : List S150} (ht : Tr w ok tb ns rs) (hok : ∀ k, ok k → k ≠ m ∧ some k ≠ v.ownBlock) : Tr W ok tb ns rs :=
  ht.same (Same.of_kept h.kept (fun k hk hx => by rcases hx with hx | hx; exact (hok k hk).1 hx; exact (hok k hk).2 hx))
theorem rd {A : Option Addr} {c : Nat} (h : MInv w m tb v W (.slice A us.length c) u us a xs) : (Kd.int .i64).C W A us.length us := by
  obtain ⟨A2, c2, e2, hr⟩ := own_reads h.own
  injection e2 with e3 _ _
  subst e3
  exact Kd.C_of_reads (h1 := fun _ => rfl) hr
/-- a store into the match's block -/
theorem put_st {st x : Int} (h : MInv w m tb v W vi u us a xs) (hs : W.heap[m]? = some (.cells #[.pointer (some ⟨tb, 0, none⟩), vi, .int .i64 a, .int .i64 st] 144 (0, 0))) : MInv w m tb v (W.setCell ⟨m, 3, none⟩ (.int .i64 x)) vi u us a xs :=
  ⟨⟨x, blk_put hs 3 _ rfl⟩, own_setCell h.own (own_ne h.own hs (by decide)) _, Kd.R_set h.toks hs (by decide) _ _, h.kept.setCell (p := ⟨m, 3, none⟩) (.inl (.inl rfl)) _, h.new, h.env, h.mlt, h.vlt⟩
theorem put_at {st : Int} (h : MInv w m tb v W vi u us a xs) (hs : W.heap[m]? = some (.cells #[.pointer (some ⟨tb, 0, none⟩), vi, .int .i64 a, .int .i64 st] 144 (0, 0))) : MInv w m tb v (W.setCell ⟨m, 2, none⟩ (.int .i64 a2)) vi u us a2 xs :=
  ⟨⟨st, blk_put hs 2 _ rfl⟩, own_setCell h.own (own_ne h.own hs (by decide)) _, Kd.R_set h.toks hs (by decide) _ _, h.kept.setCell (p := ⟨m, 2, none⟩) (.inl (.inl rfl)) _, h.new, h.env, h.mlt, h.vlt⟩
/-- a token more -/
theorem app {u2 : Value} (h : MInv w m tb v W vi u us a xs) (hg : W.grownBy W2 u.ownBlock) (ho : k66.R 66 W2 0 (fun k => w.heap.size ≤ k ∧ some k ≠ vi.ownBlock) u2 (xs ++ [tok])) : MInv w m tb v W2 vi u2 us a (xs ++ [tok]) := by
  obtain ⟨st, hs⟩ := h.blk
  have hne : ∀ k, u.ownBlock = some k → w.heap.size ≤ k ∧ some k ≠ vi.ownBlock := fun k hk => h.toks.1 k hk
  have hm : some m ≠ u.ownBlock := fun e => by have := (hne m e.symm).1; have := h.mlt; omega
  refine ⟨⟨st, blk_grown hs hg hm⟩, own_other h.own hg ?_, ho, h.kept.of_grown hg (fun k hk => .inr (hne k hk).1) |> fun x => x, h.new, ⟨hg.os.trans h.env.1, hg.tape.trans h.env.2.1, hg.output.trans h.env.2.2⟩, h.mlt, h.vlt⟩
  cases hv : vi.ownBlock with
  | none => exact .inl rfl
  | some k => exact .inr (fun e => (hne k e.symm).2 hv.symm)
/-- what waits is another row, a new one -/
theorem put_wait {st : Int} (h : MInv w m tb v W vi u us a xs) (hb : Below W.heap.size W W2) (ho : W2.ownsRow W.heap.size 3 1 v2 us2.length (nums .i64 us2)) (hs : W2.heap[m]? = some (.cells #[.pointer (some ⟨tb, 0, none⟩), vi, .int .i64 a, .int .i64 st] 144 (0, 0))) :
    MInv w m tb v (W2.setCell ⟨m, 1, none⟩ v2) v2 u us2 a xs := by
  have h2 := h.keep hb
  have hv2 : ∀ k, v2.ownBlock = some k → W.heap.size ≤ k := fun k hk => own_base ho k hk
  refine ⟨⟨st, blk_put hs 1 _ rfl⟩, own_weaken (own_setCell ho (own_ne ho hs (by decide)) _) (Nat.zero_le _), ?_, h2.kept.setCell (p := ⟨m, 1, none⟩) (.inl (.inl rfl)) _, .inr fun k hk => Nat.le_trans h.kept.1 (hv2 k hk), h2.env, h.mlt, h.vlt⟩
  refine Kd.R_set ?_ hs (by decide) _ _
  refine Kd.R_mono (Kd.R_below (Kd.R_bound h.toks) hb) (fun k hk => ⟨hk.1.1, fun e => ?_⟩)
  have := hv2 k e.symm
  have := hk.2.2.1
  omega
end MInv
theorem minv_start {w : World} {m tb : Nat} {v : Value} {us : List Int} {a st : Int} (hs : w.heap[m]? = some (.cells #[.pointer (some ⟨tb, 0, none⟩), v, .int .i64 a, .int .i64 st] 144 (0, 0))) (ho : w.ownsRow 0 3 1 v us.length (nums .i64 us)) :
    MInv w m tb v w v (.slice none 0 0) us a [] :=
  ⟨⟨st, hs⟩, ho, Kd.R_nil _ _ _ _ _, Kept.refl _ _, .inl rfl, ⟨rfl, rfl, rfl⟩, blk_lt hs, fun k hk => own_lt ho k hk⟩
/-- a token's block on the way -/
def TokB (w9 : World) (g : Nat) (c0 c1 c2 c3 : Value) (W : World) : Prop := Below w9.heap.size w9 W ∧ w9.heap.size ≤ g ∧ W.heap[g]? = some (.cells #[c0, c1, c2, c3] 66 (0, 0))
namespace TokB
variable {w9 W W2 : World} {g : Nat} {c0 c1 c2 c3 : Value}
theorem step (h : TokB w9 g c0 c1 c2 c3 W) (hb : Below W.heap.size W W2) : TokB w9 g c0 c1 c2 c3 W2 := ⟨below_step h.1 hb, h.2.1, blk_below h.2.2 hb⟩
theorem cells (h : TokB w9 g c0 c1 c2 c3 W) : W.cell? ⟨g, 0, none⟩ = some c0 ∧ W.cell? ⟨g, 1, none⟩ = some c1 ∧ W.cell? ⟨g, 2, none⟩ = some c2 ∧ W.cell? ⟨g, 3, none⟩ = some c3 :=
  ⟨(blk_cell h.2.2 0).trans rfl, (blk_cell h.2.2 1).trans rfl, (blk_cell h.2.2 2).trans rfl, (blk_cell h.2.2 3).trans rfl⟩
theorem frozen (h : TokB w9 g c0 c1 c2 c3 W) (i : Nat) : W.frozen? ⟨g, i, none⟩ = false := blk_frozen h.2.2 i
theorem put2 (h : TokB w9 g c0 c1 c2 c3 W) (x : Value) : TokB w9 g c0 c1 x c3 (W.setCell ⟨g, 2, none⟩ x) := ⟨below_set h.1 h.2.1, h.2.1, blk_put h.2.2 2 _ rfl⟩
theorem put3 (h : TokB w9 g c0 c1 c2 c3 W) (x : Value) : TokB w9 g c0 c1 c2 x (W.setCell ⟨g, 3, none⟩ x) := ⟨below_set h.1 h.2.1, h.2.1, blk_put h.2.2 3 _ rfl⟩
end TokB
theorem tok_new {w W W2 W3 : World} {g : Nat} {x0 x1 x2 x3 c0 c1 c2 c3 : Value} (hg : g = w.heap.size) (hbox : W.heap[g]? = some (.cells #[x0, x1, x2, x3] 66 (0, 0))) (hb : Below w.heap.size w W)
    (hW : W2 = (((W.setCell ⟨g, 0, none⟩ c0).setCell ⟨g, 1, none⟩ c1).setCell ⟨g, 2, none⟩ c2).setCell ⟨g, 3, none⟩ c3) : TokB w g c0 c1 c2 c3 W2 := by
  subst hW
  have h := blk_put (blk_put (blk_put (blk_put hbox 0 c0 rfl) 1 c1 rfl) 2 c2 rfl) 3 c3 (rfl : _ = #[c0, c1, c2, c3])
  exact ⟨below_set (below_set (below_set (below_set hb (by omega)) (by omega)) (by omega)) (by omega), by omega, h⟩
theorem int_raise {W : World} {N : Nat} {v : Value} {xs : List Int} (h : (Kd.int .i64).R 3 W 0 (fun k => N ≤ k) v xs) : (Kd.int .i64).R 3 W N (fun k => N ≤ k) v xs :=
  Kd.R_of_own (enc := Value.int .i64) (Kd.own_raise (Kd.own_of_R h) (fun k hk => h.1 k hk)) (fun k hk => h.1 k hk)
end Go.Proofs.YtnfjgopcenpblaaGreatDoor.T
