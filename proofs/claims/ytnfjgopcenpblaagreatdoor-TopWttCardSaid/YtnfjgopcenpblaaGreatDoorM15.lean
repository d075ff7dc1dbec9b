/- Texts of this claim, one behind the other (merged by a program): TX5, TX6, TX7, TV6, TX8. No condition of their own. -/
import Derived.Test.YtnfjgopcenpblaaGreatDoorM14
/- What a table's writer writes: rows of the table, apart, of the units that were given. Plain; no condition. -/
namespace Go.Proofs.YtnfjgopcenpblaaGreatDoor.T
open Go.RowKit Go.Proofs.YtnfjgopcenpblaaGreatDoor
set_option linter.unusedVariables false
set_option linter.unusedSimpArgs false
theorem longS3_two {rs : List S150} (h : Sh rs) {c d : Int} {l : List Int} (e : Int) (ho : out1 rs [c, d] = some l) : (longS rs [c, d, e]).2.1 = 2 := by
  have h2 := pre_of_out1 ho
  have h1 : preB rs [c] = true := by
    obtain ⟨r, hr, hq⟩ := pre_iff.1 h2
    exact pre_iff.2 ⟨r, hr, List.IsPrefix.trans (by simp) hq⟩
  have h3 : preB rs [c, d, e] = false := Bool.eq_false_iff.2 (fun e' => by
    obtain ⟨r, hr, hq⟩ := pre_iff.1 e'
    have h4 := hq.length_le
    have := h.len r hr
    simp at h4; omega)
  have hf : 0 ≤ findF rs [c, d] := by
    unfold out1 at ho
    split at ho
    · assumption
    · exact absurd ho (by simp)
  have hs : ∀ (k n : Int), (longSGo rs [d, e] [c] k n 1).2.1 = 2 := fun k n => by
    rw [longSGo]
    show (if preB rs [c, d] = false then _ else _ : Int × Int × Bool).2.1 = _
    rw [if_neg (by rw [h2]; simp), if_pos (show 0 ≤ findF rs ([c] ++ [d]) from hf), longSGo]
    show (if preB rs [c, d, e] = false then _ else _ : Int × Int × Bool).2.1 = _
    rw [if_pos h3]; rfl
  unfold longS
  rw [longSGo, List.nil_append, if_neg (by rw [h1]; simp)]
  split
  · exact hs _ _
  · exact hs _ _
theorem join_apart {rs : List S150} (hL : ∀ us, longF (nodesF rs) us = longS rs us) (h : Sh rs) {r1 r2 : S150} (hr : r2 ∈ rs) (hj : joinsF rs r1.f0 r2.f0 = false) : Apart rs r1 r2 := by
  intro c d hc hd
  cases ho : out1 rs [c, d] with
  | none => rfl
  | some l =>
    exfalso
    rw [hc] at hj
    unfold joinsF at hj
    rw [if_neg (by simp), hL] at hj
    have hl := h.len r2 hr
    cases hf : r2.f0 with
    | nil => rw [hf] at hl; simp at hl
    | cons d' t =>
      rw [hf] at hd hj hl
      obtain rfl : d' = d := by simpa using hd
      have h2 : (longS rs ([c] ++ d' :: t)).2.1 = 2 := by
        cases t with
        | nil =>
          show (longS rs [c, d']).2.1 = 2
          have hf : 0 ≤ findF rs [c, d'] := by
            unfold out1 at ho
            split at ho
            · assumption
            · exact absurd ho (by simp)
          rw [longS2 h, if_pos hf]
        | cons e t' =>
          have ht : t' = [] := by
            cases t' with
            | nil => rfl
            | cons _ _ => simp at hl
          subst ht
          exact longS3_two h e ho
      rw [h2] at hj
      simp at hj
/-- rows that were written, and what the writer keeps of the last one -/
structure Rows (rs : List S150) (R : List S150) (out ah : List Int) : Prop where
  mem : ∀ r ∈ R, r ∈ rs
  ap : Ap rs R
  out : out = R.flatMap (·.f0)
  last : (ah = [] ∧ ∀ l, R.getLast? = some l → l.f0.length = 2) ∨ ∃ l, R.getLast? = some l ∧ ah = l.f0
/-- a writing that broke off -/
structure Broke (rs : List S150) (w : List Int) (q : List Int × Stp) : Prop where
  side : q.2.1 = 2
  err : q.2.2.2 ≠ 0
  rows : ∃ R, (∀ r ∈ R, r ∈ rs) ∧ Ap rs R ∧ q.1 = R.flatMap (·.f0) ∧ R.flatMap (·.f1) <+: w
theorem Broke.mono {rs : List S150} {w w' : List Int} {q : List Int × Stp} (h : Broke rs w q) (hw : w <+: w') : Broke rs w' q := by
  obtain ⟨h1, h2, R, a, b, c, d⟩ := h
  exact ⟨h1, h2, R, a, b, c, d.trans hw⟩
abbrev st0 : Stp := (0, 0, 0)
theorem wrF_off {out : List Int} {st : Stp} (ts : List S66) (h : st.2.2 ≠ 0) : wrF out st ts = (out, st) := by
  cases ts with
  | nil => rfl
  | cons t ts => rw [wrF, if_pos h]
theorem wrF_app : ∀ (ts ts' : List S66) (out : List Int) (st : Stp), wrF out st (ts ++ ts') = wrF (wrF out st ts).1 (wrF out st ts).2 ts'
  | [], ts', out, st => rfl
  | t :: ts, ts', out, st => by
    rw [List.cons_append, wrF, wrF]
    by_cases h : st.2.2 ≠ 0
    · rw [if_pos h, if_pos h, wrF_off _ h]
    · rw [if_neg h, if_neg h]
      split
      · exact wrF_app ts ts' _ _
      · exact wrF_app ts ts' _ _
theorem Rows.add {rs : List S150} {R : List S150} {out ah : List Int} {r : S150} (h : Rows rs R out ah) (hr : r ∈ rs) (ha : ∀ l, R.getLast? = some l → Apart rs l r) : Rows rs (R ++ [r]) (out ++ r.f0) r.f0 := by
  refine ⟨fun x hx => ?_, ap_snoc h.ap ha, by rw [h.out]; simp, .inr ⟨r, by simp, rfl⟩⟩
  rcases List.mem_append.1 hx with hx | hx
  · exact h.mem x hx
  · rw [List.mem_singleton.1 hx]; exact hr
/-- what the writer's facts say of a table -/
structure Wr (rs : List S150) : Prop where
  fine : Fine rs
  len : ∀ r ∈ rs, r.f0.length = 1 ∨ r.f0.length = 2
  lenT : ∀ r ∈ rs, r.f1.length = 1 ∨ r.f1.length = 2
  byte : ∀ r ∈ rs, by8 r.f0 = r.f0
namespace Wr
variable {rs : List S150}
theorem sh (h : Wr rs) : Sh rs := ⟨h.len, h.fine.nin⟩
theorem shT (h : Wr rs) : Sh (rs.map swp) := by
  refine ⟨fun r hr => ?_, by rw [List.map_map]; exact h.fine.nout⟩
  obtain ⟨q, hq, rfl⟩ := List.mem_map.1 hr
  exact h.lenT q hq
theorem wo_eq (h : Wr rs) : wo rs = (rs.map swp).map outOf := by unfold wo; rw [h.fine.turn]
theorem out_swp (h : Wr rs) {q l : List Int} (ho : out1 (rs.map swp) q = some l) : ∃ r ∈ rs, r.f1 = q ∧ r.f0 = l := by
  obtain ⟨r, hr, h1, h2⟩ := out1_some ho
  obtain ⟨p, hp, rfl⟩ := List.mem_map.1 hr
  exact ⟨p, hp, h1, h2⟩
theorem apart (h : Wr rs) {R : List S150} {out ah : List Int} {r : S150} (hR : Rows rs R out ah) (hr : r ∈ rs) (hj : joinsF rs ah r.f0 = false) : ∀ l, R.getLast? = some l → Apart rs l r := fun l hl => by
  rcases hR.last with ⟨_, h2⟩ | ⟨l', h1, h2⟩
  · intro c d hc
    have := h2 l hl
    rw [hc] at this
    simp at this
  · rw [hl] at h1
    obtain rfl := Option.some.inj h1
    exact join_apart h.fine.readL h.sh hr (h2 ▸ hj)
end Wr
theorem rows_step {rs : List S150} (h : Wr rs) {ts : List S66} {qs : List (List Int)} (hm : MT (rs.map swp) ts qs) : ∀ (R : List S150) (out ah : List Int), Rows rs R out ah →
    (∃ R2, Rows rs R2 (wrF out st0 (joinGo rs ah ts).1).1 (joinGo rs ah ts).2 ∧ (wrF out st0 (joinGo rs ah ts).1).2 = st0 ∧ R2.flatMap (·.f1) = R.flatMap (·.f1) ++ qs.flatten) ∨
    Broke rs (R.flatMap (·.f1) ++ qs.flatten) (wrF out st0 (joinGo rs ah ts).1) := by
  induction hm with
  | nil =>
    intro R out ah hR
    exact .inl ⟨R, hR, rfl, by simp⟩
  | @cons a n q ts qs _ ih =>
    intro R out ah hR
    have hbad : ∀ (x : S66), joinTok rs ah x = ⟨x.f0, x.f1, [], 3⟩ → Broke rs (R.flatMap (·.f1) ++ (q :: qs).flatten) (wrF out st0 (joinGo rs ah (x :: ts)).1) := fun x hx => by
      rw [joinGo, hx, wrF, if_neg (by simp), if_neg (by simp), wrF_off _ (by simp)]
      exact ⟨rfl, by simp, R, hR.mem, hR.ap, hR.out, List.prefix_append _ _⟩
    cases ho : out1 (rs.map swp) q with
    | none =>
      right
      refine hbad _ ?_
      unfold joinTok joinQ tkO
      simp
    | some l =>
      obtain ⟨r, hr, rfl, rfl⟩ := h.out_swp ho
      rw [show tkO a n (some r.f0) = (⟨a, n, r.f0, 0⟩ : S66) from rfl]
      cases hj : joinsF rs ah r.f0 with
      | true =>
        right
        refine hbad ⟨a, n, r.f0, 0⟩ ?_
        unfold joinTok joinQ
        simp [hj]
      | false =>
        have hjt : joinTok rs ah ⟨a, n, r.f0, 0⟩ = ⟨a, n, r.f0, 0⟩ := by unfold joinTok joinQ; simp [hj]
        have hR' := hR.add hr (h.apart hR hr hj)
        have hu : (R ++ [r]).flatMap (·.f1) ++ qs.flatten = R.flatMap (·.f1) ++ (r.f1 :: qs).flatten := by simp
        have e1 : joinGo rs ah ((⟨a, n, r.f0, 0⟩ : S66) :: ts) = (⟨a, n, r.f0, 0⟩ :: (joinGo rs r.f0 ts).1, (joinGo rs r.f0 ts).2) := by rw [joinGo, hjt, if_pos rfl]
        have e2 : wrF out st0 ((⟨a, n, r.f0, 0⟩ : S66) :: (joinGo rs r.f0 ts).1) = wrF (out ++ r.f0) st0 (joinGo rs r.f0 ts).1 := by rw [wrF, if_neg (by simp), if_pos rfl, h.byte r hr]
        rw [e1, ← hu]
        simp only
        rw [e2]
        exact ih (R ++ [r]) (out ++ r.f0) r.f0 hR'
theorem row_len2 {rs : List S150} (h : Wr rs) : ∀ {R : List S150}, (∀ r ∈ R, r ∈ rs) → (R.flatMap (·.f0)).length ≤ 2 * (R.flatMap (·.f1)).length
  | [], _ => by simp
  | r :: R, hR => by
    have h1 := h.len r (hR r (List.mem_cons_self ..))
    have h2 := h.lenT r (hR r (List.mem_cons_self ..))
    have h3 := row_len2 h (R := R) (fun q hq => hR q (List.mem_cons_of_mem _ hq))
    simp only [List.flatMap_cons, List.length_append]
    omega
theorem outs_join (rs : List S150) : ∀ (ts : List S66) (ah : List Int), outsLen (joinGo rs ah ts).1 ≤ outsLen ts
  | [], _ => Nat.le_refl _
  | t :: ts, ah => by
    have := outs_join rs ts (if (joinTok rs ah t).f3 = 0 then t.f2 else ah)
    rw [joinGo]
    unfold outsLen at *
    simp only [List.map_cons, List.sum_cons]
    have h1 : (joinTok rs ah t).f2.length ≤ t.f2.length := by
      unfold joinTok
      split
      · simp
      · exact Nat.le_refl _
    omega
theorem outs_mt {rs : List S150} (h : Wr rs) {ts : List S66} {qs : List (List Int)} (hm : MT (rs.map swp) ts qs) : outsLen ts ≤ 2 * qs.length := by
  induction hm with
  | nil => exact Nat.le_refl _
  | @cons a n q ts qs _ ih =>
    unfold outsLen at *
    simp only [List.map_cons, List.sum_cons, List.length_cons]
    have h1 : (tkO a n (out1 (rs.map swp) q)).f2.length ≤ 2 := by
      cases ho : out1 (rs.map swp) q with
      | none => simp [tkO]
      | some l =>
        obtain ⟨r, hr, rfl, rfl⟩ := h.out_swp ho
        have := h.len r hr
        show r.f0.length ≤ 2
        omega
    omega
theorem Rows.ah_len {rs : List S150} (h : Wr rs) {R : List S150} {out ah : List Int} (hR : Rows rs R out ah) : ah.length ≤ 2 := by
  rcases hR.last with ⟨e, _⟩ | ⟨l, h1, e⟩
  · rw [e]; simp
  · have := h.len l (hR.mem l (List.mem_of_getLast? h1))
    rw [e]; omega
theorem pend_len {rs : List S150} {us : List Int} (h : Pend rs us) : us.length ≤ 1 := by
  rcases h with rfl | ⟨c, rfl, _⟩ <;> simp
section
variable {rs : List S150} (h : Wr rs)
include h
theorem rows_len {R : List S150} {out ah us w : List Int} (hR : Rows rs R out ah) (hw : R.flatMap (·.f1) ++ us = w) : out.length ≤ 2 * w.length := by
  have := row_len2 h hR.mem
  rw [hR.out, ← hw, List.length_append]
  omega
/-- one unit more -/
theorem enc_put1 {R : List S150} {out ah us w : List Int} (hR : Rows rs R out ah) (hw : R.flatMap (·.f1) ++ us = w) (hp : Pend (rs.map swp) us) (a v : Int) :
    outsLen (ePut rs ah us a v).1 ≤ 4 ∧ ((∃ R2, Rows rs R2 (wrF out st0 (ePut rs ah us a v).1).1 (ePut rs ah us a v).2 ∧ (wrF out st0 (ePut rs ah us a v).1).2 = st0 ∧ R2.flatMap (·.f1) ++ (putF (wn rs) (wo rs) us a v).2.1 = w ++ [v] ∧ Pend (rs.map swp) (putF (wn rs) (wo rs) us a v).2.1) ∨
      Broke rs (w ++ [v]) (wrF out st0 (ePut rs ah us a v).1)) := by
  unfold ePut
  rw [h.wo_eq]
  obtain ⟨qs, m1, m2, m3, m4⟩ := put_mt h.fine.writeL h.shT hp a v
  refine ⟨?_, ?_⟩
  · have := outs_join rs (putF (wn rs) ((rs.map swp).map outOf) us a v).1 ah
    have := outs_mt h m1
    omega
  · have hu : ∀ t : List Int, qs.flatten ++ t = us ++ [v] → R.flatMap (·.f1) ++ qs.flatten ++ t = w ++ [v] := fun t ht => by
      rw [List.append_assoc, ht, ← hw, List.append_assoc]
    rcases rows_step h m1 R out ah hR with ⟨R2, h1, h2, h3⟩ | hb
    · left
      refine ⟨R2, h1, h2, ?_, m3⟩
      rw [h3]; exact hu _ m2
    · right
      exact hb.mono ⟨_, hu _ m2⟩
theorem enc_end1 {R : List S150} {out ah us w : List Int} (hR : Rows rs R out ah) (hw : R.flatMap (·.f1) ++ us = w) (hp : Pend (rs.map swp) us) (a : Int) :
    outsLen (eEnd rs ah us a).1 ≤ 2 ∧ (endF (wn rs) (wo rs) us a).2.1 = [] ∧ ((∃ R2, Rows rs R2 (wrF out st0 (eEnd rs ah us a).1).1 (eEnd rs ah us a).2 ∧ (wrF out st0 (eEnd rs ah us a).1).2 = st0 ∧ R2.flatMap (·.f1) = w) ∨
      Broke rs w (wrF out st0 (eEnd rs ah us a).1)) := by
  unfold eEnd
  rw [h.wo_eq]
  obtain ⟨qs, m1, m2, m3, m4⟩ := end_mt h.fine.writeL hp a
  refine ⟨?_, m3, ?_⟩
  · have := outs_join rs (endF (wn rs) ((rs.map swp).map outOf) us a).1 ah
    have := outs_mt h m1
    omega
  · rcases rows_step h m1 R out ah hR with ⟨R2, h1, h2, h3⟩ | hb
    · left
      refine ⟨R2, h1, h2, ?_⟩
      rw [h3, m2]; exact hw
    · right
      rw [m2, hw] at hb
      exact hb
theorem enc_puts (hk : Okay rs) : ∀ (vs : List Int) (q : SSt (mEnc rs hk).σ) (R : List S150) (w : List Int), q.st = st0 → Rows rs R q.out q.m.2.2 → R.flatMap (·.f1) ++ q.m.1 = w → Pend (rs.map swp) q.m.1 → 2 * (w.length + vs.length) + 10 ≤ 1000000 →
    okPuts (mEnc rs hk) q vs ∧ ((∃ R2, (tkPuts (mEnc rs hk) q vs).st = st0 ∧ Rows rs R2 (tkPuts (mEnc rs hk) q vs).out (tkPuts (mEnc rs hk) q vs).m.2.2 ∧ R2.flatMap (·.f1) ++ (tkPuts (mEnc rs hk) q vs).m.1 = w ++ vs ∧ Pend (rs.map swp) (tkPuts (mEnc rs hk) q vs).m.1) ∨
      Broke rs (w ++ vs) ((tkPuts (mEnc rs hk) q vs).out, (tkPuts (mEnc rs hk) q vs).st))
  | [], q, R, w, hs, hR, hw, hp, hb => ⟨trivial, .inl ⟨R, hs, hR, by simpa [tkPuts] using hw, hp⟩⟩
  | v :: vs, q, R, w, hs, hR, hw, hp, hb => by
    have h0 : q.st.2.2 = 0 := by rw [hs]
    obtain ⟨o1, hstep⟩ := enc_put1 h hR hw hp q.m.2.1 v
    have hl := rows_len h hR hw
    have hok : okPut1 (mEnc rs hk) q v := by
      refine ⟨⟨?_, ?_⟩, ?_⟩
      · have := Rows.ah_len h hR; omega
      · have := pend_len hp; omega
      · show q.out.length + outsLen (ePut rs q.m.2.2 q.m.1 q.m.2.1 v).1 ≤ _
        rw [List.length_cons] at hb
        omega
    have happ : w ++ v :: vs = (w ++ [v]) ++ vs := by simp
    rw [okPuts, tkPuts, if_pos h0, happ]
    have hq : put1 (mEnc rs hk) q v = ⟨(wrF q.out st0 (ePut rs q.m.2.2 q.m.1 q.m.2.1 v).1).1, (wrF q.out st0 (ePut rs q.m.2.2 q.m.1 q.m.2.1 v).1).2, ((putF (wn rs) (wo rs) q.m.1 q.m.2.1 v).2.1, (putF (wn rs) (wo rs) q.m.1 q.m.2.1 v).2.2, (ePut rs q.m.2.2 q.m.1 q.m.2.1 v).2)⟩ := by
      unfold put1; rw [hs]; rfl
    rw [hq]
    rcases hstep with ⟨R2, r1, r2, r3, r4⟩ | hbr
    · obtain ⟨k1, k2⟩ := enc_puts hk vs ⟨(wrF q.out st0 (ePut rs q.m.2.2 q.m.1 q.m.2.1 v).1).1, (wrF q.out st0 (ePut rs q.m.2.2 q.m.1 q.m.2.1 v).1).2, ((putF (wn rs) (wo rs) q.m.1 q.m.2.1 v).2.1, (putF (wn rs) (wo rs) q.m.1 q.m.2.1 v).2.2, (ePut rs q.m.2.2 q.m.1 q.m.2.1 v).2)⟩ R2 (w ++ [v]) r2 r1 r3 r4 (by rw [List.length_append, List.length_singleton]; rw [List.length_cons] at hb; omega)
      exact ⟨⟨fun _ => hok, k1⟩, k2⟩
    · rw [tkPuts_off vs (by simpa using hbr.err)]
      refine ⟨⟨fun _ => hok, ?_⟩, .inr (hbr.mono (List.prefix_append _ _))⟩
      have hoff : ∀ (us : List Int) (z : SSt (mEnc rs hk).σ), z.st.2.2 ≠ 0 → okPuts (mEnc rs hk) z us := fun us => by
        induction us with
        | nil => exact fun _ _ => trivial
        | cons u us ih => exact fun z hz => ⟨fun e => absurd e hz, by rw [if_neg hz]; exact ih z hz⟩
      exact hoff vs _ (by simpa using hbr.err)
/-- all units, and the end -/
theorem enc_all (hk : Okay rs) (vs : List Int) (hb : 2 * vs.length + 20 ≤ 1000000) (a : Int) :
    okW (mEnc rs hk) ⟨[], st0, ([], a, [])⟩ vs ∧ (((wAll (mEnc rs hk) ⟨[], st0, ([], a, [])⟩ vs).st = st0 ∧ ∃ R, (∀ r ∈ R, r ∈ rs) ∧ Ap rs R ∧ (wAll (mEnc rs hk) ⟨[], st0, ([], a, [])⟩ vs).out = R.flatMap (·.f0) ∧ R.flatMap (·.f1) = vs) ∨
      Broke rs vs ((wAll (mEnc rs hk) ⟨[], st0, ([], a, [])⟩ vs).out, (wAll (mEnc rs hk) ⟨[], st0, ([], a, [])⟩ vs).st)) := by
  have hR0 : Rows rs [] [] [] := ⟨fun r hr => by simp at hr, trivial, rfl, .inl ⟨rfl, fun l hl => by simp at hl⟩⟩
  obtain ⟨k1, k2⟩ := enc_puts h hk vs ⟨[], st0, ([], a, [])⟩ [] [] rfl hR0 rfl (.inl rfl) (by simp; omega)
  rw [List.nil_append] at k2
  unfold okW wAll
  generalize tkPuts (mEnc rs hk) ⟨[], st0, ([], a, [])⟩ vs = z at *
  rcases k2 with ⟨R2, r1, r2, r3, r4⟩ | hbr
  · have h0 : z.st.2.2 = 0 := by rw [r1]
    rw [if_pos h0]
    obtain ⟨o1, _, hstep⟩ := enc_end1 h r2 r3 r4 z.m.2.1
    have hl := rows_len h r2 r3
    have hok : okEnd1 (mEnc rs hk) z := by
      refine ⟨⟨?_, ?_⟩, ?_⟩
      · have := Rows.ah_len h r2; omega
      · have := pend_len r4; omega
      · show z.out.length + outsLen (eEnd rs z.m.2.2 z.m.1 z.m.2.1).1 ≤ _
        omega
    refine ⟨⟨k1, fun _ => hok⟩, ?_⟩
    have hq : end1 (mEnc rs hk) z = ⟨(wrF z.out st0 (eEnd rs z.m.2.2 z.m.1 z.m.2.1).1).1, (wrF z.out st0 (eEnd rs z.m.2.2 z.m.1 z.m.2.1).1).2, ((endF (wn rs) (wo rs) z.m.1 z.m.2.1).2.1, (endF (wn rs) (wo rs) z.m.1 z.m.2.1).2.2, (eEnd rs z.m.2.2 z.m.1 z.m.2.1).2)⟩ := by
      unfold end1; rw [r1]; rfl
    rw [hq]
    rcases hstep with ⟨R3, s1, s2, s3⟩ | hbr
    · exact .inl ⟨s2, R3, s1.mem, s1.ap, s1.out, s3⟩
    · exact .inr hbr
  · have h0 : z.st.2.2 ≠ 0 := hbr.err
    rw [if_neg h0]
    exact ⟨⟨k1, fun e => absurd e h0⟩, .inr hbr⟩
end
end Go.Proofs.YtnfjgopcenpblaaGreatDoor.T

/- iscii's writer: rows of the table, apart, of the units and switches of the scalars; what the reader makes of them. Plain; no condition. -/
namespace Go.Proofs.YtnfjgopcenpblaaGreatDoor.T
open Go.RowKit Go.Proofs.YtnfjgopcenpblaaGreatDoor
set_option linter.unusedVariables false
set_option linter.unusedSimpArgs false
def irChk (r : S150) : Bool := decide (r.f0.length = 1 ∨ r.f0.length = 2) && decide (r.f1.length = 1 ∨ r.f1.length = 2) && decide (by8 r.f0 = r.f0) && !(r.f0.getD 1 0 == 239)
theorem irR_chk : irR.all irChk = true := by kernel_rfl
theorem irR_at {r : S150} (hr : r ∈ irR) : ((r.f0.length = 1 ∨ r.f0.length = 2) ∧ (r.f1.length = 1 ∨ r.f1.length = 2) ∧ by8 r.f0 = r.f0) ∧ r.f0.getD 1 0 ≠ 239 := by
  have h := List.all_eq_true.1 irR_chk r hr
  unfold irChk at h
  simp only [Bool.and_eq_true, decide_eq_true_eq, Bool.not_eq_true'] at h
  obtain ⟨⟨⟨h1, h2⟩, h3⟩, h4⟩ := h
  exact ⟨⟨h1, h2, h3⟩, by simpa using h4⟩
theorem irR_wr : Wr irR := ⟨irR_fine, fun r hr => (irR_at hr).1.1, fun r hr => (irR_at hr).1.2.1, fun r hr => (irR_at hr).1.2.2⟩
def swRow (s : Int) : S150 := ⟨[239, codeI s], [4096 + s]⟩
theorem swRow_mem {s : Int} (h0 : 0 ≤ s) (h1 : s < 9) : swRow s ∈ irR := by
  obtain ⟨n, rfl⟩ := Int.eq_ofNat_of_zero_le h0
  have hn : n < 9 := by omega
  have : swRow n ∈ swR 9 := by
    unfold swR
    refine List.mem_map.2 ⟨n, List.mem_range.2 hn, ?_⟩
    rcases n with _ | _ | _ | _ | _ | _ | _ | _ | _ | n <;> first | rfl | omega
  unfold irR
  simp [this]
theorem sw_apart (r : S150) (s : Int) : Apart irR r (swRow s) := by
  intro c d hc hd
  obtain rfl : 239 = d := by simpa [swRow] using hd
  cases ho : out1 irR [c, 239] with
  | none => rfl
  | some l =>
    obtain ⟨q, hq, e, _⟩ := out1_some ho
    have := (irR_at hq).2
    rw [e] at this
    exact absurd rfl this
/-- a table that iscii may have -/
structure Isc (rs : List S150) : Prop where
  wr : Wr rs
  mem : ∀ {s : Int}, 0 ≤ s → s < 9 → swRow s ∈ rs
  apart : ∀ r s, Apart rs r (swRow s)
theorem irR_isc : Isc irR := ⟨irR_wr, swRow_mem, sw_apart⟩
def uU (s u : Int) : List Int := (if iSw s u = true then [4096 + (ofI u).1] else []) ++ [iVal u]
def sU (s u : Int) : Int := if iSw s u = true then (ofI u).1 else s
def unU : Int → List Int → List Int
  | _, [] => []
  | s, u :: us => uU s u ++ unU (sU s u) us
theorem ofI_rng {u : Int} (h : (ofI u).2.2 = true) : 0 ≤ (ofI u).1 ∧ (ofI u).1 < 9 := by
  unfold ofI at h ⊢
  split
  · rename_i e; rw [if_pos e] at h; exact absurd h (by simp)
  · exact ⟨by simp only; omega, by simp only; omega⟩
theorem code8 {rs : List S150} (hI : Isc rs) {s : Int} (h0 : 0 ≤ s) (h1 : s < 9) : by8 [239, codeI s] = [239, codeI s] := hI.wr.byte _ (hI.mem h0 h1)
theorem Rows.addSw {rs : List S150} (hI : Isc rs) {R : List S150} {out ah : List Int} {s : Int} (h : Rows rs R out ah) (h0 : 0 ≤ s) (h1 : s < 9) : Rows rs (R ++ [swRow s]) (out ++ [239, codeI s]) [] := by
  have := h.add (hI.mem h0 h1) (fun l _ => hI.apart l s)
  exact ⟨this.mem, this.ap, this.out, .inl ⟨rfl, fun l hl => by
    have : swRow s = l := by simpa using hl
    rw [← this]; rfl⟩⟩
theorem outs_app (ts us : List S66) : outsLen (ts ++ us) = outsLen ts + outsLen us := by unfold outsLen; simp
/-- one scalar more -/
theorem ienc_put1 {rs : List S150} (hI : Isc rs) {R : List S150} {q : ISt} {out w : List Int} (hR : Rows rs R out q.ah) (hw : R.flatMap (·.f1) ++ q.us = w) (hp : Pend (rs.map swp) q.us) (u : Int) :
    outsLen (iPut rs q u).1 ≤ 8 ∧ ((∃ R2, Rows rs R2 (wrF out st0 (iPut rs q u).1).1 (iPut rs q u).2.ah ∧ (wrF out st0 (iPut rs q u).1).2 = st0 ∧ R2.flatMap (·.f1) ++ (iPut rs q u).2.us = w ++ uU q.s u ∧ Pend (rs.map swp) (iPut rs q u).2.us ∧ (iPut rs q u).2.s = sU q.s u) ∨
      Broke rs (w ++ uU q.s u) (wrF out st0 (iPut rs q u).1)) := by
  unfold uU sU
  by_cases hs : iSw q.s u = true
  · have hB : iBefore rs q u = iSwitch rs q (ofI u).1 := by unfold iBefore; rw [if_pos hs]
    have hof : (ofI u).2.2 = true := by
      unfold iSw at hs
      rw [Bool.and_eq_true] at hs
      exact hs.1
    obtain ⟨k0, k1⟩ := ofI_rng hof
    rw [if_pos hs, if_pos hs]
    obtain ⟨o1, e1, hend⟩ := enc_end1 hI.wr hR hw hp q.ea
    have hput : iPut rs q u = ((eEnd rs q.ah q.us q.ea).1 ++ [⟨q.a, 0, [239, codeI (ofI u).1], 0⟩] ++ (ePut rs [] [] (endF (wn rs) (wo rs) q.us q.ea).2.2 (iVal u)).1, ⟨(ofI u).1, wrap64 (q.a + 1), (putF (wn rs) (wo rs) [] (endF (wn rs) (wo rs) q.us q.ea).2.2 (iVal u)).2.1, (putF (wn rs) (wo rs) [] (endF (wn rs) (wo rs) q.us q.ea).2.2 (iVal u)).2.2, (ePut rs [] [] (endF (wn rs) (wo rs) q.us q.ea).2.2 (iVal u)).2⟩) := by
      unfold iPut iAfter
      rw [hB]
      unfold iSwitch
      simp only [e1]
    rw [hput]
    simp only
    generalize (endF (wn rs) (wo rs) q.us q.ea).2.2 = ea at *
    have hsw : outsLen [(⟨q.a, 0, [239, codeI (ofI u).1], 0⟩ : S66)] = 2 := rfl
    rcases hend with ⟨R2, r1, r2, r3⟩ | hbr
    · have hR2 := r1.addSw hI k0 k1
      have hw2 : (R2 ++ [swRow (ofI u).1]).flatMap (·.f1) ++ [] = w ++ [4096 + (ofI u).1] := by
        rw [List.append_nil, List.flatMap_append, r3]; rfl
      obtain ⟨o2, hstep⟩ := enc_put1 hI.wr hR2 hw2 (.inl rfl) ea (iVal u)
      have hwr : wrF out st0 ((eEnd rs q.ah q.us q.ea).1 ++ [⟨q.a, 0, [239, codeI (ofI u).1], 0⟩] ++ (ePut rs [] [] ea (iVal u)).1) = wrF ((wrF out st0 (eEnd rs q.ah q.us q.ea).1).1 ++ [239, codeI (ofI u).1]) st0 (ePut rs [] [] ea (iVal u)).1 := by
        rw [wrF_app, wrF_app, r2, wrF, if_neg (by simp), if_pos rfl, code8 hI k0 k1]
        rfl
      rw [hwr]
      refine ⟨by rw [outs_app, outs_app, hsw]; omega, ?_⟩
      have happ : w ++ ([4096 + (ofI u).1] ++ [iVal u]) = w ++ [4096 + (ofI u).1] ++ [iVal u] := by simp
      rw [happ]
      rcases hstep with ⟨R3, s1, s2, s3, s4⟩ | hb
      · exact .inl ⟨R3, s1, s2, s3, s4, trivial⟩
      · exact .inr hb
    · have hR2 : Rows rs [] [] [] := ⟨fun r hr => by simp at hr, trivial, rfl, .inl ⟨rfl, fun l hl => by simp at hl⟩⟩
      obtain ⟨o2, _⟩ := enc_put1 hI.wr hR2 (w := []) (us := []) rfl (.inl rfl) ea (iVal u)
      refine ⟨by rw [outs_app, outs_app, hsw]; omega, .inr ?_⟩
      rw [wrF_app, wrF_app]
      have he : (wrF out st0 (eEnd rs q.ah q.us q.ea).1).2.2.2 ≠ 0 := hbr.err
      rw [wrF_off _ he, wrF_off _ he]
      exact hbr.mono (List.prefix_append _ _)
  · have hB : iBefore rs q u = ([], q) := by unfold iBefore; rw [if_neg hs]
    have hput : iPut rs q u = ((ePut rs q.ah q.us q.ea (iVal u)).1, iAfter rs q (iVal u)) := by
      unfold iPut
      rw [hB]
      rfl
    rw [if_neg hs, if_neg hs, hput]
    obtain ⟨o1, hstep⟩ := enc_put1 hI.wr hR hw hp q.ea (iVal u)
    refine ⟨by simp only; omega, ?_⟩
    rcases hstep with ⟨R3, s1, s2, s3, s4⟩ | hb
    · exact .inl ⟨R3, s1, s2, s3, s4, rfl⟩
    · exact .inr hb
theorem okPuts_off {M : Mach T20 29} (us : List Int) : ∀ {z : SSt M.σ}, z.st.2.2 ≠ 0 → okPuts M z us := by
  induction us with
  | nil => exact fun _ => trivial
  | cons u us ih => exact fun {z} hz => ⟨fun e => absurd e hz, by rw [if_neg hz]; exact ih hz⟩
theorem uU_len (s u : Int) : (uU s u).length ≤ 2 := by unfold uU; split <;> simp
def sAll : Int → List Int → Int
  | s, [] => s
  | s, u :: us => sAll (sU s u) us
theorem ienc_puts {rs : List S150} (hI : Isc rs) (hk : Okay rs) : ∀ (vs : List Int) (q : SSt (mIenc rs hk).σ) (R : List S150) (w : List Int), q.st = st0 → Rows rs R q.out q.m.ah → R.flatMap (·.f1) ++ q.m.us = w → Pend (rs.map swp) q.m.us → 2 * (w.length + 2 * vs.length) + 20 ≤ 1000000 →
    okPuts (mIenc rs hk) q vs ∧ ((∃ R2, (tkPuts (mIenc rs hk) q vs).st = st0 ∧ Rows rs R2 (tkPuts (mIenc rs hk) q vs).out (tkPuts (mIenc rs hk) q vs).m.ah ∧ R2.flatMap (·.f1) ++ (tkPuts (mIenc rs hk) q vs).m.us = w ++ unU q.m.s vs ∧ Pend (rs.map swp) (tkPuts (mIenc rs hk) q vs).m.us) ∨
      Broke rs (w ++ unU q.m.s vs) ((tkPuts (mIenc rs hk) q vs).out, (tkPuts (mIenc rs hk) q vs).st))
  | [], q, R, w, hs, hR, hw, hp, hb => ⟨trivial, .inl ⟨R, hs, hR, by simpa [tkPuts, unU] using hw, hp⟩⟩
  | v :: vs, q, R, w, hs, hR, hw, hp, hb => by
    have h0 : q.st.2.2 = 0 := by rw [hs]
    obtain ⟨o1, hstep⟩ := ienc_put1 hI hR hw hp v
    have hl := rows_len hI.wr hR hw
    have hok : okPut1 (mIenc rs hk) q v := by
      refine ⟨⟨?_, ?_⟩, ?_⟩
      · have := Rows.ah_len hI.wr hR; omega
      · have := pend_len hp; omega
      · show q.out.length + outsLen (iPut rs q.m v).1 ≤ _
        rw [List.length_cons] at hb
        omega
    have happ : w ++ unU q.m.s (v :: vs) = (w ++ uU q.m.s v) ++ unU (sU q.m.s v) vs := by rw [unU]; simp
    rw [okPuts, tkPuts, if_pos h0, happ]
    have hq : put1 (mIenc rs hk) q v = ⟨(wrF q.out st0 (iPut rs q.m v).1).1, (wrF q.out st0 (iPut rs q.m v).1).2, (iPut rs q.m v).2⟩ := by
      unfold put1; rw [hs]; rfl
    rw [hq]
    rcases hstep with ⟨R2, r1, r2, r3, r4, r5⟩ | hbr
    · obtain ⟨k1, k2⟩ := ienc_puts hI hk vs ⟨(wrF q.out st0 (iPut rs q.m v).1).1, (wrF q.out st0 (iPut rs q.m v).1).2, (iPut rs q.m v).2⟩ R2 (w ++ uU q.m.s v) r2 r1 r3 r4 (by
        have := uU_len q.m.s v
        rw [List.length_append]; rw [List.length_cons] at hb; omega)
      rw [← r5]
      exact ⟨⟨fun _ => hok, k1⟩, k2⟩
    · have he : (wrF q.out st0 (iPut rs q.m v).1).2.2.2 ≠ 0 := hbr.err
      rw [tkPuts_off vs (by simpa using he)]
      exact ⟨⟨fun _ => hok, okPuts_off vs (by simpa using he)⟩, .inr (hbr.mono (List.prefix_append _ _))⟩
theorem ienc_all {rs : List S150} (hI : Isc rs) (hk : Okay rs) (vs : List Int) (hb : 4 * vs.length + 30 ≤ 1000000) :
    okW (mIenc rs hk) ⟨[], st0, ⟨0, 0, [], 0, []⟩⟩ vs ∧ (((wAll (mIenc rs hk) ⟨[], st0, ⟨0, 0, [], 0, []⟩⟩ vs).st = st0 ∧ ∃ R, (∀ r ∈ R, r ∈ rs) ∧ Ap rs R ∧ (wAll (mIenc rs hk) ⟨[], st0, ⟨0, 0, [], 0, []⟩⟩ vs).out = R.flatMap (·.f0) ∧ R.flatMap (·.f1) = unU 0 vs) ∨
      Broke rs (unU 0 vs) ((wAll (mIenc rs hk) ⟨[], st0, ⟨0, 0, [], 0, []⟩⟩ vs).out, (wAll (mIenc rs hk) ⟨[], st0, ⟨0, 0, [], 0, []⟩⟩ vs).st)) := by
  have hR0 : Rows rs [] [] [] := ⟨fun r hr => by simp at hr, trivial, rfl, .inl ⟨rfl, fun l hl => by simp at hl⟩⟩
  have hul : ∀ (vs : List Int) (s : Int), (unU s vs).length ≤ 2 * vs.length := fun vs => by
    induction vs with
    | nil => exact fun _ => Nat.le_refl _
    | cons v vs ih =>
      intro s
      have := ih (sU s v)
      have := uU_len s v
      rw [unU, List.length_append, List.length_cons]; omega
  obtain ⟨k1, k2⟩ := ienc_puts hI hk vs ⟨[], st0, ⟨0, 0, [], 0, []⟩⟩ [] [] rfl hR0 rfl (.inl rfl) (by simp; omega)
  rw [List.nil_append] at k2
  have hl2 := hul vs 0
  change (∃ R2, _ ∧ _ ∧ _ = unU 0 vs ∧ _) ∨ Broke rs (unU 0 vs) _ at k2
  unfold okW wAll
  generalize tkPuts (mIenc rs hk) ⟨[], st0, ⟨0, 0, [], 0, []⟩⟩ vs = z at *
  rcases k2 with ⟨R2, r1, r2, r3, r4⟩ | hbr
  · have h0 : z.st.2.2 = 0 := by rw [r1]
    rw [if_pos h0]
    obtain ⟨o1, _, hstep⟩ := enc_end1 hI.wr r2 r3 r4 z.m.ea
    have hl := rows_len hI.wr r2 r3
    have hok : okEnd1 (mIenc rs hk) z := by
      refine ⟨⟨?_, ?_⟩, ?_⟩
      · have := Rows.ah_len hI.wr r2; omega
      · have := pend_len r4; omega
      · show z.out.length + outsLen (eEnd rs z.m.ah z.m.us z.m.ea).1 ≤ _
        omega
    refine ⟨⟨k1, fun _ => hok⟩, ?_⟩
    have hq : end1 (mIenc rs hk) z = ⟨(wrF z.out st0 (eEnd rs z.m.ah z.m.us z.m.ea).1).1, (wrF z.out st0 (eEnd rs z.m.ah z.m.us z.m.ea).1).2, (iEnd rs z.m).2⟩ := by
      unfold end1; rw [r1]; rfl
    rw [hq]
    rcases hstep with ⟨R3, s1, s2, s3⟩ | hbr
    · exact .inl ⟨s2, R3, s1.mem, s1.ap, s1.out, s3⟩
    · exact .inr hbr
  · have h0 : z.st.2.2 ≠ 0 := hbr.err
    rw [if_neg h0]
    exact ⟨⟨k1, fun e => absurd e h0⟩, .inr hbr⟩
theorem mean_uU {s u : Int} (hs : 0 ≤ s ∧ s < 9) (hu : scalB u = true) : meanRow s (uU s u) = ([u], sU s u) := by
  obtain ⟨b0, b1, _⟩ := scal_bd hu
  have key : ∀ s' : Int, (0 ≤ s' ∧ s' < 9) → ((ofI u).2.2 = true → s' = (ofI u).1) → meanRow s' [iVal u] = ([u], s') := fun s' h h' => by
    show (meanO s' (iVal u) ++ [], meanS s' (iVal u)) = _
    unfold iVal
    rw [hu, if_neg (by simp)]
    by_cases ho : (ofI u).2.2 = true
    · rw [if_neg (by rw [ho]; simp)]
      have e := h' ho
      unfold ofI at ho e ⊢
      split at ho
      · exact absurd ho (by simp)
      · rename_i hne
        rw [if_neg hne] at e ⊢
        simp only at e ⊢
        unfold meanO meanS indS
        rw [if_neg (by omega), if_neg (by omega), if_neg (by omega), if_neg (by omega)]
        have : wrap64 (wrap64 (2304 + wrap64 (128 * s')) + (u - 2304) % 128) = u := by unfold wrap64; omega
        rw [this]; rfl
    · rw [if_pos (by simpa using ho)]
      have hw : wrap64 (8192 + u) = 8192 + u := by unfold wrap64; omega
      rw [hw]
      unfold meanO meanS
      rw [if_pos (by omega), if_pos (by omega)]
      have : wrap64 (8192 + u - 8192) = u := by unfold wrap64; omega
      rw [this]; rfl
  unfold uU sU
  by_cases hsw : iSw s u = true
  · rw [if_pos hsw, if_pos hsw]
    have ho : (ofI u).2.2 = true := by
      unfold iSw at hsw
      rw [Bool.and_eq_true] at hsw
      exact hsw.1
    obtain ⟨k0, k1⟩ := ofI_rng ho
    rw [meanRow_app]
    have e : meanRow s [4096 + (ofI u).1] = ([], (ofI u).1) := by
      show (meanO s _ ++ [], meanS s _) = _
      unfold meanO meanS
      rw [if_neg (by omega), if_pos (by omega), if_neg (by omega), if_pos (by omega)]
      have : wrap64 (4096 + (ofI u).1 - 4096) = (ofI u).1 := by unfold wrap64; omega
      rw [this]; rfl
    rw [e]
    simp only
    rw [key _ ⟨k0, k1⟩ (fun _ => rfl)]
    rfl
  · rw [if_neg hsw, if_neg hsw]
    refine key s hs (fun ho => ?_)
    unfold iSw at hsw
    rw [ho] at hsw
    rw [Bool.true_and] at hsw
    have : ((ofI u).1 == s) = true := by simpa using hsw
    exact (eq_of_beq this).symm
theorem sU_rng {s u : Int} (hs : 0 ≤ s ∧ s < 9) : 0 ≤ sU s u ∧ sU s u < 9 := by
  unfold sU
  split
  · rename_i h
    unfold iSw at h
    rw [Bool.and_eq_true] at h
    exact ofI_rng h.1
  · exact hs
theorem mean_unU : ∀ (S : List Int) (s : Int), 0 ≤ s ∧ s < 9 → (∀ u ∈ S, scalB u = true) → (meanRow s (unU s S)).1 = S
  | [], _, _, _ => rfl
  | u :: S, s, hs, h => by
    rw [unU, meanRow_app, mean_uU hs (h u (List.mem_cons_self ..))]
    show [u] ++ _ = _
    rw [mean_unU S _ (sU_rng hs) (fun v hv => h v (List.mem_cons_of_mem _ hv))]
    rfl
theorem mean_pre {w w' : List Int} (h : w <+: w') (s : Int) : (meanRow s w).1 <+: (meanRow s w').1 := by
  obtain ⟨t, rfl⟩ := h
  rw [meanRow_app]
  exact List.prefix_append _ _
end Go.Proofs.YtnfjgopcenpblaaGreatDoor.T

/- UTF-8 of scalars is read as they are, and written so. Plain; no condition. -/
namespace Go.Proofs.YtnfjgopcenpblaaGreatDoor.T
open Go.RowKit Go.Proofs.YtnfjgopcenpblaaGreatDoor
set_option linter.unusedVariables false
set_option linter.unusedSimpArgs false
theorem enc_pre {s : Int} (h : scalB s = true) {k : Nat} (h0 : 0 < k) (hk : k < (encS s).length) : ∃ s' n, oneF ((encS s).take k) = (s', n, 2) := by
  have hl : ((encS s).take k).length = k := by simp; omega
  have hne : (encS s).take k ≠ [] := fun e => by rw [e] at hl; simp at hl; omega
  have hB : Bytes ((encS s).take k) := fun x hx => enc_bytes h x (List.mem_of_mem_take hx)
  by_cases he : (oneF ((encS s).take k)).2.2 = 2
  · exact ⟨_, _, Prod.ext rfl (Prod.ext rfl he)⟩
  · exfalso
    have h1 := one_ext ((encS s).drop k) hne he
    rw [List.take_append_drop] at h1
    have h2 := one_enc h []
    rw [List.append_nil] at h2
    obtain ⟨n, s', e, h3, _, h4, _⟩ := one_far hne hB
    rw [h2, h3] at h1
    simp only [Prod.mk.injEq] at h1
    omega
theorem scal_rest {s : Int} (h : scalB s = true) {a : Int} (h0 : 0 ≤ a) (h1 : a + 8 ≤ 281474976710656) {bs us : List Int} (hr : Rds mBytes (([], a + (encS s).length) : List Int × Int) bs us) :
    ∀ (k j : Nat), j + (k + 1) = (encS s).length → Rds mBytes (((encS s).take j, a) : List Int × Int) ((encS s).drop j ++ bs) (s :: us) := by
  have hlen := @enc_one_len s
  intro k
  induction k with
  | zero =>
    intro j hj
    have hjl : j < (encS s).length := by omega
    have e1 : (encS s).take j ++ [(encS s)[j]] = encS s := by rw [← List.take_succ_eq_append_getElem hjl, hj, List.take_length]
    have e2 : (encS s).drop j = [(encS s)[j]] := by rw [List.drop_eq_getElem_cons hjl, List.drop_eq_nil_of_le (by omega)]
    have h2 := one_enc h []
    rw [List.append_nil] at h2
    have hne : encS s ≠ [] := fun e => by rw [e] at hjl; simp at hjl
    have h3 := pF_tok (f := ((encS s).take j).length + 1) (a := a) hne h2 (by decide)
    rw [Int.toNat_natCast, List.drop_length, pF_nil] at h3
    have hp : bPut ((encS s).take j) a (encS s)[j] = ([⟨a, ((encS s).length : Int), [s], 0⟩], [], a + (encS s).length) := by
      unfold bPut
      rw [e1]
      exact h3
    rw [e2]
    refine ⟨⟨by simp only; rw [List.length_take]; omega, by rw [e1]; exact enc_bytes h, h0, by simp only; rw [List.length_take]; omega⟩, ?_, [[s]], us, ?_, rfl, ?_⟩
    · show (bPut _ _ _).1.length ≤ _; rw [hp]; simp
    · show GL (bPut _ _ _).1 _; rw [hp]; exact .cons _ _ _ .nil
    · show Rds mBytes (bPut _ _ _).2 _ _; rw [hp]; exact hr
  | succ k ih =>
    intro j hj
    have hjl : j < (encS s).length := by omega
    have e1 : (encS s).take j ++ [(encS s)[j]] = (encS s).take (j + 1) := by rw [← List.take_succ_eq_append_getElem hjl]
    obtain ⟨s', n, hs⟩ := enc_pre h (k := j + 1) (by omega) (by omega)
    have hp : bPut ((encS s).take j) a (encS s)[j] = ([], (encS s).take (j + 1), a) := by
      unfold bPut
      rw [e1]
      exact pF_short hs
    rw [List.drop_eq_getElem_cons hjl]
    refine ⟨⟨by simp only; rw [List.length_take]; omega, by rw [e1]; exact fun x hx => enc_bytes h x (List.mem_of_mem_take hx), h0, by simp only; rw [List.length_take]; omega⟩, ?_, [], s :: us, ?_, rfl, ?_⟩
    · show (bPut _ _ _).1.length ≤ _; rw [hp]; simp
    · show GL (bPut _ _ _).1 _; rw [hp]; exact .nil
    · show Rds mBytes (bPut _ _ _).2 _ _; rw [hp]; exact ih (j + 1) (by omega)
theorem utf_rds : ∀ (S : List Int) (a : Int), (∀ u ∈ S, scalB u = true) → 0 ≤ a → a + 4 * S.length + 8 ≤ 281474976710656 → Rds mBytes (([], a) : List Int × Int) (S.flatMap encS) S
  | [], a, _, h0, h1 => ⟨⟨by simp, h0, by simp; simp at h1; omega⟩, by show (eF a []).1.length ≤ _; unfold eF; simp, [], by show GL (eF a []).1 _; exact .nil, rfl⟩
  | u :: S, a, h, h0, h1 => by
    have hu := h u (List.mem_cons_self ..)
    have hlen := @enc_one_len u
    rw [List.length_cons] at h1
    have hr := utf_rds S (a + (encS u).length) (fun v hv => h v (List.mem_cons_of_mem _ hv)) (by omega) (by omega)
    have := scal_rest hu h0 (by omega) hr ((encS u).length - 1) 0 (by omega)
    rw [List.flatMap_cons]
    simpa using this
theorem by8_bytes {l : List Int} (h : Bytes l) : by8 l = l := by
  unfold by8
  refine (List.map_congr_left (fun x hx => ?_)).trans (List.map_id l)
  have := h x hx
  simp only [id]
  omega
theorem scal_puts : ∀ (us : List Int) (q : SSt mScal.σ), q.st = st0 → (∀ u ∈ us, scalB u = true) → q.out.length + 4 * us.length + 8 ≤ 1000000 →
    okPuts mScal q us ∧ (tkPuts mScal q us).st = st0 ∧ (tkPuts mScal q us).out = q.out ++ us.flatMap encS
  | [], q, hs, _, _ => ⟨trivial, hs, by simp [tkPuts]⟩
  | u :: us, q, hs, hu, hb => by
    have h0 : q.st.2.2 = 0 := by rw [hs]
    have hu0 := hu u (List.mem_cons_self ..)
    have hlen := @enc_one_len u
    rw [List.length_cons] at hb
    have htok : (mScal.put q.m u).1 = [⟨q.m, 1, encS u, 0⟩] := by
      show [sTok q.m u] = _
      unfold sTok; rw [if_pos hu0]
    have hok : okPut1 mScal q u := by
      refine ⟨trivial, ?_⟩
      rw [htok]
      show q.out.length + ((encS u).length + 0) ≤ _
      omega
    have hq : put1 mScal q u = ⟨q.out ++ encS u, st0, (mScal.put q.m u).2⟩ := by
      unfold put1
      rw [htok, hs, wrF, if_neg (by simp), if_pos rfl, by8_bytes (enc_bytes hu0), wrF]
    rw [okPuts, tkPuts, if_pos h0, hq]
    obtain ⟨k1, k2, k3⟩ := scal_puts us ⟨q.out ++ encS u, st0, (mScal.put q.m u).2⟩ rfl (fun v hv => hu v (List.mem_cons_of_mem _ hv)) (by simp only [List.length_append]; omega)
    exact ⟨⟨fun _ => hok, k1⟩, k2, by rw [k3]; simp⟩
theorem scal_all (a : Int) (us : List Int) (hu : ∀ u ∈ us, scalB u = true) (hb : 4 * us.length + 8 ≤ 1000000) :
    okW mScal ⟨[], st0, a⟩ us ∧ (wAll mScal ⟨[], st0, a⟩ us).st = st0 ∧ (wAll mScal ⟨[], st0, a⟩ us).out = us.flatMap encS := by
  obtain ⟨k1, k2, k3⟩ := scal_puts us ⟨[], st0, a⟩ rfl hu (by simpa using hb)
  have h0 : (tkPuts mScal ⟨[], st0, a⟩ us).st.2.2 = 0 := by rw [k2]
  have hl : ∀ us : List Int, (us.flatMap encS).length ≤ 4 * us.length := fun us => by
    induction us with
    | nil => exact Nat.le_refl _
    | cons u us ih =>
      have := @enc_one_len u
      rw [List.flatMap_cons, List.length_append, List.length_cons]; omega
  have hl2 := hl us
  rw [List.nil_append] at k3
  have he : end1 mScal (tkPuts mScal ⟨[], st0, a⟩ us) = tkPuts mScal ⟨[], st0, a⟩ us := by
    show (⟨(wrF _ _ []).1, (wrF _ _ []).2, _⟩ : SSt mScal.σ) = _
    rfl
  refine ⟨⟨k1, fun _ => ⟨trivial, ?_⟩⟩, ?_⟩
  · rw [k3]
    show (us.flatMap encS).length + 0 ≤ _
    omega
  · unfold wAll
    rw [if_pos h0, he]
    exact ⟨k2, k3⟩
end Go.Proofs.YtnfjgopcenpblaaGreatDoor.T

/- Decode and Encode by name: utf-8 and iscii. No condition beyond the ranges. -/
namespace Go.Proofs.YtnfjgopcenpblaaGreatDoor.T
open Go.RowKit Go.Proofs.YtnfjgopcenpblaaGreatDoorW.PrintWords Go.Proofs.YtnfjgopcenpblaaGreatDoorW.PrintLast Go.Proofs.YtnfjgopcenpblaaGreatDoorW.PrintMore Go.Proofs.YtnfjgopcenpblaaGreatDoor
set_option linter.unusedVariables false
set_option linter.unusedSimpArgs false
set_option maxRecDepth 100000 in
theorem dec_iscii {rs : List S150} (hT : TabS 53 #[] rs) (hf : Fit (nodesF rs) (rs.map outOf)) (hp : 0 < (rs.map outOf).length) : DecS (mIdec (nodesF rs) (rs.map outOf) hf hp) nmI (0, [], 0) := by
  intro w f
  have hn := Lib.hid name_i
  have h1 : (nmI.toList == [117, 116, 102, 45, 56]) = false := by kernel_rfl
  have h2 : (nmI.toList == [105, 115, 99, 105, 105]) = true := by kernel_rfl
  generalize nmI = nm at *
  replace hT := Lib.hid hT
  go_enter Tryz.func32, Tryz.ntmps32
  go_wp2_with (first
    | (go_at_call 21; refine (hn.out w).mono ?_; rintro e w1 ⟨rfl, hb1⟩; have hE := Lib.hid (Ext.new (T := fun _ => False) (f := f) 0 hb1); clear hb1)
    | (go_at_call 41; refine (IDecode_calls hT.out w1 (newF f w.heap.size 0)).mono ?_; rintro e w3 ⟨b, f3, rfl, E3, M3⟩; replace E3 := Lib.hid (hE.out.trans E3); replace M3 := Lib.hid M3))
  go_ret2
  exact ⟨98, _, f3, rfl, E3.out, b, rfl, M3.out⟩
set_option maxRecDepth 100000 in
theorem enc_iscii {rs : List S150} (hT : TabS 53 #[] rs) (hk : Okay rs) : EncS (mIenc rs hk) nmI ⟨0, 0, [], 0, []⟩ := by
  intro w f
  have hn := Lib.hid name_i
  have h1 : (nmI.toList == [117, 116, 102, 45, 56]) = false := by kernel_rfl
  have h2 : (nmI.toList == [105, 115, 99, 105, 105]) = true := by kernel_rfl
  generalize nmI = nm at *
  replace hT := Lib.hid hT
  go_enter Tryz.func33, Tryz.ntmps33
  go_wp2_with (first
    | (go_at_call 21; refine (hn.out w).mono ?_; rintro e w1 ⟨rfl, hb1⟩; have hE := Lib.hid (Ext.new (T := fun _ => False) (f := f) 0 hb1); clear hb1)
    | (go_at_call 44; refine (IEncode_calls hT.out w1 (newF f w.heap.size 0)).mono ?_; rintro e w3 ⟨b, ee, bs, f3, rfl, E3, M3⟩; replace E3 := Lib.hid (hE.out.trans E3); replace M3 := Lib.hid M3))
  go_ret2
  exact ⟨106, _, f3, rfl, E3.out, b, ee, bs, rfl, M3.out⟩
set_option maxRecDepth 100000 in
theorem dec_utf : DecS mBytes nmU ([], 0) := by
  intro w f
  have hn := Lib.hid name_u
  have h1 : (nmU.toList == [117, 116, 102, 45, 56]) = true := by kernel_rfl
  generalize nmU = nm at *
  go_enter Tryz.func32, Tryz.ntmps32
  go_wp2_with (first
    | (go_at_call 21; refine (hn.out w).mono ?_; rintro e w1 ⟨rfl, hb1⟩; have hE := Lib.hid (Ext.new (T := fun _ => False) (f := f) 0 hb1); clear hb1))
  go_ret2
  have k3 := blk_new w1 (.cells #[.slice none 0 0, .int .i64 0] 97)
  have e3 := Ext.new (T := fun _ => False) (f := newF f w.heap.size 0) 10 (below_alloc (Below.refl w1.heap.size w1) (.cells #[.slice none 0 0, .int .i64 0] 97))
  exact ⟨93, _, _, rfl, hE.out.trans e3, w1.heap.size, rfl, ⟨_, ⟨k3, own_nil _ _ _ _, Nat.zero_le _⟩, fun k hk => by cases hk⟩, newF_new (Nat.le_refl _)⟩
set_option maxRecDepth 100000 in
theorem enc_utf : EncS mScal nmU (0 : Int) := by
  intro w f
  have hn := Lib.hid name_u
  have h1 : (nmU.toList == [117, 116, 102, 45, 56]) = true := by kernel_rfl
  generalize nmU = nm at *
  go_enter Tryz.func33, Tryz.ntmps33
  go_wp2_with (first
    | (go_at_call 21; refine (hn.out w).mono ?_; rintro e w1 ⟨rfl, hb1⟩; have hE := Lib.hid (Ext.new (T := fun _ => False) (f := f) 0 hb1); clear hb1))
  go_ret2
  have k3 := blk_new w1 (.cells #[.int .i64 0] 105)
  have e3 := Ext.new (T := fun _ => False) (f := newF f w.heap.size 0) 20 (below_alloc (Below.refl w1.heap.size w1) (.cells #[.int .i64 0] 105))
  exact ⟨103, _, _, rfl, hE.out.trans e3, w1.heap.size, rfl, k3, newF_new (Nat.le_refl _)⟩
end Go.Proofs.YtnfjgopcenpblaaGreatDoor.T

/- Calls of the stream's All between codecs. Plain laws joined with the walk; no condition beyond the ranges. -/
namespace Go.Proofs.YtnfjgopcenpblaaGreatDoor.T
open Go.RowKit Go.Proofs.YtnfjgopcenpblaaGreatDoorW.PrintWords Go.Proofs.YtnfjgopcenpblaaGreatDoorW.PrintLast Go.Proofs.YtnfjgopcenpblaaGreatDoorW.PrintMore Go.Proofs.YtnfjgopcenpblaaGreatDoor
set_option linter.unusedVariables false
set_option linter.unusedSimpArgs false
theorem bytes_by8 {l : List Int} (h : by8 l = l) : Bytes l := fun x hx => by
  rw [← h] at hx
  unfold by8 at hx
  obtain ⟨y, _, rfl⟩ := List.mem_map.1 hx
  omega
theorem rows_bytes {rs R : List S150} (h : ∀ r ∈ rs, by8 r.f0 = r.f0) (hR : ∀ r ∈ R, r ∈ rs) : Bytes (R.flatMap (·.f0)) := fun x hx => by
  obtain ⟨r, hr, hx⟩ := List.mem_flatMap.1 hx
  exact bytes_by8 (h r (hR r hr)) x hx
theorem enc_flat_bytes {S : List Int} (h : ∀ u ∈ S, scalB u = true) : Bytes (S.flatMap encS) := fun x hx => by
  obtain ⟨r, hr, hx⟩ := List.mem_flatMap.1 hx
  exact enc_bytes (h r hr) x hx
theorem enc_flat_len (S : List Int) : (S.flatMap encS).length ≤ 4 * S.length := by
  induction S with
  | nil => exact Nat.le_refl _
  | cons u us ih =>
    have := @enc_one_len u
    rw [List.flatMap_cons, List.length_append, List.length_cons]; omega
/-- what is written of scalars into iscii -/
def UI (rs : List S150) (S : List Int) (q : List Int × Stp) : Prop := (q.2 = st0 ∧ ∃ R, (∀ r ∈ R, r ∈ rs) ∧ Ap rs R ∧ q.1 = R.flatMap (·.f0) ∧ R.flatMap (·.f1) = unU 0 S) ∨ Broke rs (unU 0 S) q
theorem utf_to_isc {rs : List S150} (hI : Isc rs) (hT : TabS 53 #[] rs) (w : World) (A : Option Addr) (c : Nat) (S : List Int) (hS : ∀ u ∈ S, scalB u = true) (hl : S.length ≤ 1000) (hC : (Kd.int .u8).C w A (S.flatMap encS).length (S.flatMap encS)) :
    ∃ q, UI rs S q ∧ Calls Tryz.prog 8 #[.string nmU, .string nmI, .int .i64 0, .slice A (S.flatMap encS).length c] w (AllP w q) := by
  have hk := hI.wr.fine.okay
  obtain ⟨k1, k2⟩ := ienc_all hI hk S (by omega)
  obtain ⟨a1, a2⟩ := all_rds (R := mBytes) (M := mIenc rs hk) (S.flatMap encS) S (([], 0) : List Int × Int) (⟨[], st0, ⟨0, 0, [], 0, []⟩⟩ : SSt (mIenc rs hk).σ) (utf_rds S 0 hS (Int.le_refl _) (by omega)) k1
  have hlen := enc_flat_len S
  refine ⟨((wAll (mIenc rs hk) ⟨[], st0, ⟨0, 0, [], 0, []⟩⟩ S).out, (wAll (mIenc rs hk) ⟨[], st0, ⟨0, 0, [], 0, []⟩⟩ S).st), k2, ?_⟩
  exact All_calls w nmU nmI _ _ name_u name_i dec_utf (enc_iscii hT hk) A c _ hC (enc_flat_bytes hS) (by omega) _ a1 a2
theorem isc_to_utf {rs : List S150} (hI : Isc rs) (hT : TabS 53 #[] rs) (w : World) (A : Option Addr) (c : Nat) (S : List Int) (hS : ∀ u ∈ S, scalB u = true) (hl : S.length ≤ 1000) (R : List S150) (hR : ∀ r ∈ R, r ∈ rs) (hA : Ap rs R) (hu : R.flatMap (·.f1) <+: unU 0 S)
    (hC : (Kd.int .u8).C w A (R.flatMap (·.f0)).length (R.flatMap (·.f0))) :
    Calls Tryz.prog 8 #[.string nmI, .string nmU, .int .i64 0, .slice A (R.flatMap (·.f0)).length c] w (AllP w ((meanRow 0 (R.flatMap (·.f1))).1.flatMap encS, st0)) := by
  have hk := hI.wr.fine.okay
  have hur := ur_rows hI.wr.fine.readL hI.wr.sh R none [] 0 hR (fun p hp => by cases hp) (fun _ => rfl) (by simpa using hA)
  have hr := ur_idec hk.fr hk.pr _ 0 _ _ _ hur
  have hm : (meanRow 0 (R.flatMap (·.f1))).1 <+: S := by
    have := mean_pre hu 0
    rwa [mean_unU S 0 (by omega) hS] at this
  have hms : ∀ u ∈ (meanRow 0 (R.flatMap (·.f1))).1, scalB u = true := fun u h => hS u (hm.subset h)
  have hml := hm.length_le
  obtain ⟨k1, k2, k3⟩ := scal_all 0 _ hms (by omega)
  have hul : ∀ (vs : List Int) (s : Int), (unU s vs).length ≤ 2 * vs.length := fun vs => by
    induction vs with
    | nil => exact fun _ => Nat.le_refl _
    | cons v vs ih =>
      intro s
      have := ih (sU s v)
      have := uU_len s v
      rw [unU, List.length_append, List.length_cons]; omega
  have hbl : (R.flatMap (·.f0)).length ≤ 1000000 := by
    have := row_len2 hI.wr hR
    have := hu.length_le
    have := hul S 0
    omega
  rw [Option.toList_none, List.flatMap_nil, List.nil_append] at hr
  obtain ⟨a1, a2⟩ := all_rds (R := mIdec (nodesF rs) (rs.map outOf) hk.fr hk.pr) (M := mScal) (R.flatMap (·.f0)) (meanRow 0 (R.flatMap (·.f1))).1 ((0, [], 0) : Int × List Int × Int) (⟨[], st0, (0 : Int)⟩ : SSt mScal.σ) hr k1
  have := All_calls w nmI nmU _ _ name_i name_u (dec_iscii hT hk.fr hk.pr) enc_utf A c _ hC (rows_bytes hI.wr.byte hR) hbl _ a1 a2
  rw [k2, k3] at this
  exact this
/-- rules of one unit on both sides -/
structure Sg (rs : List S150) : Prop where
  wr : Wr rs
  one0 : ∀ r ∈ rs, r.f0.length = 1
  one1 : ∀ r ∈ rs, r.f1.length = 1
theorem Sg.pair {rs : List S150} (h : Sg rs) (c d : Int) : out1 rs [c, d] = none := by
  cases ho : out1 rs [c, d] with
  | none => rfl
  | some l =>
    obtain ⟨r, hr, e, _⟩ := out1_some ho
    have := h.one0 r hr
    rw [e] at this
    simp at this
theorem Sg.ap {rs : List S150} (h : Sg rs) : ∀ R : List S150, Ap rs R
  | [] => trivial
  | [_] => trivial
  | a :: b :: l => ⟨fun c d _ _ => h.pair c d, Sg.ap h (b :: l)⟩
theorem tab_to_utf {rs : List S150} (h : Sg rs) {nm : ByteArray} (hn : NameS nm) (h1 : (nm.toList == [117, 116, 102, 45, 56]) = false) (h2 : (nm.toList == [105, 115, 99, 105, 105]) = false) (hT : TabS 43 #[.string nm] rs) (w : World) (A : Option Addr) (c : Nat) (R : List S150) (hR : ∀ r ∈ R, r ∈ rs) (hl : R.length ≤ 1000) (hu : ∀ u ∈ R.flatMap (·.f1), scalB u = true)
    (hC : (Kd.int .u8).C w A (R.flatMap (·.f0)).length (R.flatMap (·.f0))) :
    Calls Tryz.prog 8 #[.string nm, .string nmU, .int .i64 0, .slice A (R.flatMap (·.f0)).length c] w (AllP w ((R.flatMap (·.f1)).flatMap encS, st0)) := by
  have hk := h.wr.fine.okay
  have hur := ur_rows h.wr.fine.readL h.wr.sh R none [] 0 hR (fun p hp => by cases hp) (fun _ => rfl) (by simpa using h.ap R)
  have hr := ur_dec hk.fr hk.pr _ _ _ _ hur
  have hul : ∀ R : List S150, (∀ r ∈ R, r ∈ rs) → (R.flatMap (·.f1)).length = R.length ∧ (R.flatMap (·.f0)).length = R.length := fun R => by
    induction R with
    | nil => exact fun _ => ⟨rfl, rfl⟩
    | cons r R ih =>
      intro hR
      have h3 := h.one1 r (hR r (List.mem_cons_self ..))
      have h4 := h.one0 r (hR r (List.mem_cons_self ..))
      obtain ⟨h5, h6⟩ := ih (fun q hq => hR q (List.mem_cons_of_mem _ hq))
      rw [List.flatMap_cons, List.flatMap_cons, List.length_append, List.length_append, List.length_cons]; omega
  obtain ⟨l1, l0⟩ := hul R hR
  obtain ⟨k1, k2, k3⟩ := scal_all 0 _ hu (by omega)
  rw [Option.toList_none, List.flatMap_nil, List.nil_append] at hr
  obtain ⟨a1, a2⟩ := all_rds (R := mDec (nodesF rs) (rs.map outOf) hk.fr hk.pr) (M := mScal) (R.flatMap (·.f0)) (R.flatMap (·.f1)) (([], 0) : List Int × Int) (⟨[], st0, (0 : Int)⟩ : SSt mScal.σ) hr k1
  have := All_calls w nm nmU _ _ hn name_u (dec_table hn h1 h2 hT hk.fr hk.pr) enc_utf A c _ hC (rows_bytes h.wr.byte hR) (by omega) _ a1 a2
  rw [k2, k3] at this
  exact this
/-- a unit that is written at once -/
theorem ePut_good {rs : List S150} (h : Wr rs) {v : Int} {row ah : List Int} (hk : kidB (rs.map swp) [v] = false) (ho : out1 (rs.map swp) [v] = some row) (hj : joinsF rs ah row = false) (a : Int) :
    (ePut rs ah [] a v) = ([⟨a, 1, row, 0⟩], row) ∧ (putF (wn rs) (wo rs) [] a v).2 = ([], wrap64 (a + 1)) := by
  have hp : putF (wn rs) (wo rs) [] a v = ([⟨a, 1, row, 0⟩], [], wrap64 (a + 1)) := by
    rw [h.wo_eq, put_nil h.fine.writeL]
    unfold sngF
    rw [hk, ho]; rfl
  unfold ePut
  rw [hp]
  refine ⟨?_, rfl⟩
  have hjt : joinTok rs ah ⟨a, 1, row, 0⟩ = ⟨a, 1, row, 0⟩ := by unfold joinTok joinQ; simp [hj]
  rw [joinGo, hjt, if_pos rfl]; rfl
theorem Sg.kids {rs : List S150} (h : Sg rs) (v : Int) : kidB (rs.map swp) [v] = false := Bool.eq_false_iff.2 (fun e => by
  obtain ⟨r, hr, _, hl⟩ := kid_iff.1 e
  obtain ⟨q, hq, rfl⟩ := List.mem_map.1 hr
  have := h.one1 q hq
  change 1 < q.f1.length at hl
  omega)
theorem Sg.joins {rs : List S150} (h : Sg rs) {r : S150} (hr : r ∈ rs) {ah : List Int} (ha : ah = [] ∨ ∃ c, ah = [c]) : joinsF rs ah r.f0 = false := by
  rcases ha with rfl | ⟨c, rfl⟩
  · rfl
  · obtain ⟨d, hd⟩ := List.length_eq_one_iff.1 (h.one0 r hr)
    unfold joinsF
    rw [if_neg (by simp), hd, h.wr.fine.readL]
    show decide ((1 : Nat) < (longS rs [c, d]).2.1) = false
    rw [longS2 h.wr.sh]
    have hf : ¬ 0 ≤ findF rs [c, d] := fun e => by
      have := h.pair c d
      unfold out1 at this
      rw [if_pos e] at this
      exact absurd this (by simp)
    rw [if_neg hf]
    simp only
    split <;> decide
theorem sg_puts {rs : List S150} (h : Sg rs) (hk : Okay rs) : ∀ (R : List S150) (q : SSt (mEnc rs hk).σ), (∀ r ∈ R, r ∈ rs) → q.st = st0 → q.m.1 = [] → (q.m.2.2 = [] ∨ ∃ c, q.m.2.2 = [c]) → q.out.length + R.length + 8 ≤ 1000000 →
    okPuts (mEnc rs hk) q (R.flatMap (·.f1)) ∧ (tkPuts (mEnc rs hk) q (R.flatMap (·.f1))).st = st0 ∧ (tkPuts (mEnc rs hk) q (R.flatMap (·.f1))).out = q.out ++ R.flatMap (·.f0) ∧ (tkPuts (mEnc rs hk) q (R.flatMap (·.f1))).m.1 = [] ∧ (tkPuts (mEnc rs hk) q (R.flatMap (·.f1))).m.2.2.length ≤ 1
  | [], q, _, hs, hu, ha, _ => ⟨trivial, hs, by simp [tkPuts], hu, by
      show q.m.2.2.length ≤ 1
      rcases ha with e | ⟨c, e⟩ <;> rw [e] <;> simp⟩
  | r :: R, q, hR, hs, hu, ha, hb => by
    have hr := hR r (List.mem_cons_self ..)
    obtain ⟨v, hv⟩ := List.length_eq_one_iff.1 (h.one1 r hr)
    obtain ⟨d, hd⟩ := List.length_eq_one_iff.1 (h.one0 r hr)
    have ho : out1 (rs.map swp) [v] = some r.f0 := by
      have := out1_rule h.wr.shT.nin (List.mem_map_of_mem (f := swp) hr)
      rw [← hv]; exact this
    obtain ⟨e1, e2⟩ := ePut_good h.wr (h.kids v) ho (h.joins hr ha) q.m.2.1
    have h0 : q.st.2.2 = 0 := by rw [hs]
    have hal : q.m.2.2.length ≤ 1 := by rcases ha with e | ⟨c, e⟩ <;> rw [e] <;> simp
    rw [List.length_cons] at hb
    have hq : put1 (mEnc rs hk) q v = ⟨q.out ++ r.f0, st0, ([], wrap64 (q.m.2.1 + 1), r.f0)⟩ := by
      show (⟨(wrF q.out q.st (ePut rs q.m.2.2 q.m.1 q.m.2.1 v).1).1, (wrF q.out q.st (ePut rs q.m.2.2 q.m.1 q.m.2.1 v).1).2, ((putF (wn rs) (wo rs) q.m.1 q.m.2.1 v).2.1, (putF (wn rs) (wo rs) q.m.1 q.m.2.1 v).2.2, (ePut rs q.m.2.2 q.m.1 q.m.2.1 v).2)⟩ : SSt (mEnc rs hk).σ) = _
      rw [hu, e1, e2, hs]
      simp only
      rw [wrF, if_neg (by simp), if_pos rfl, h.wr.byte r hr, wrF]
    have hok : okPut1 (mEnc rs hk) q v := by
      refine ⟨⟨by omega, by rw [hu]; simp⟩, ?_⟩
      show q.out.length + outsLen (ePut rs q.m.2.2 q.m.1 q.m.2.1 v).1 ≤ _
      rw [hu, e1]
      show q.out.length + (r.f0.length + 0) ≤ _
      rw [hd]; simp only [List.length_singleton]; omega
    rw [List.flatMap_cons, hv]
    show okPuts (mEnc rs hk) q (v :: R.flatMap (·.f1)) ∧ (tkPuts (mEnc rs hk) q (v :: R.flatMap (·.f1))).st = st0 ∧ (tkPuts (mEnc rs hk) q (v :: R.flatMap (·.f1))).out = _ ∧ (tkPuts (mEnc rs hk) q (v :: R.flatMap (·.f1))).m.1 = [] ∧ (tkPuts (mEnc rs hk) q (v :: R.flatMap (·.f1))).m.2.2.length ≤ 1
    rw [okPuts, tkPuts, if_pos h0, hq]
    obtain ⟨k1, k2, k3, k4, k5⟩ := sg_puts h hk R ⟨q.out ++ r.f0, st0, ([], wrap64 (q.m.2.1 + 1), r.f0)⟩ (fun p hp => hR p (List.mem_cons_of_mem _ hp)) rfl rfl (.inr ⟨d, hd⟩) (by simp only [List.length_append, hd, List.length_singleton]; omega)
    exact ⟨⟨fun _ => hok, k1⟩, k2, by rw [k3]; simp, k4, k5⟩
theorem utf_to_tab {rs : List S150} (h : Sg rs) {nm : ByteArray} (hn : NameS nm) (h1 : (nm.toList == [117, 116, 102, 45, 56]) = false) (h2 : (nm.toList == [105, 115, 99, 105, 105]) = false) (hT : TabS 43 #[.string nm] rs) (w : World) (A : Option Addr) (c : Nat) (R : List S150) (hR : ∀ r ∈ R, r ∈ rs) (hl : R.length ≤ 1000) (hu : ∀ u ∈ R.flatMap (·.f1), scalB u = true)
    (hC : (Kd.int .u8).C w A ((R.flatMap (·.f1)).flatMap encS).length ((R.flatMap (·.f1)).flatMap encS)) :
    Calls Tryz.prog 8 #[.string nmU, .string nm, .int .i64 0, .slice A ((R.flatMap (·.f1)).flatMap encS).length c] w (AllP w (R.flatMap (·.f0), st0)) := by
  have hk := h.wr.fine.okay
  have hul : ∀ R : List S150, (∀ r ∈ R, r ∈ rs) → (R.flatMap (·.f1)).length = R.length := fun R => by
    induction R with
    | nil => exact fun _ => rfl
    | cons r R ih =>
      intro hR
      have h3 := h.one1 r (hR r (List.mem_cons_self ..))
      have h5 := ih (fun q hq => hR q (List.mem_cons_of_mem _ hq))
      rw [List.flatMap_cons, List.length_append, List.length_cons]; omega
  have l1 := hul R hR
  have hlen := enc_flat_len (R.flatMap (·.f1))
  obtain ⟨k1, k2, k3, k4, k5⟩ := sg_puts h hk R ⟨[], st0, ([], 0, [])⟩ hR rfl rfl (.inl rfl) (by simp; omega)
  have h0 : (tkPuts (mEnc rs hk) ⟨[], st0, ([], 0, [])⟩ (R.flatMap (·.f1))).st.2.2 = 0 := by rw [k2]
  rw [List.nil_append] at k3
  have hbl : (R.flatMap (·.f0)).length ≤ 2 * R.length := by
    have := row_len2 h.wr hR
    omega
  have he : (endF (wn rs) (wo rs) (tkPuts (mEnc rs hk) ⟨[], st0, ([], 0, [])⟩ (R.flatMap (·.f1))).m.1 (tkPuts (mEnc rs hk) ⟨[], st0, ([], 0, [])⟩ (R.flatMap (·.f1))).m.2.1).1 = [] := by
    rw [k4]; rfl
  have hfin : ((mEnc rs hk).fin (tkPuts (mEnc rs hk) ⟨[], st0, ([], 0, [])⟩ (R.flatMap (·.f1))).m).1 = [] := by
    show (eEnd rs _ _ _).1 = []
    unfold eEnd
    rw [he]; rfl
  have hkw : okW (mEnc rs hk) ⟨[], st0, ([], 0, [])⟩ (R.flatMap (·.f1)) := by
    refine ⟨k1, fun _ => ⟨⟨by omega, by rw [k4]; simp⟩, ?_⟩⟩
    rw [hfin, k3]
    show (R.flatMap (·.f0)).length + 0 ≤ _
    omega
  obtain ⟨a1, a2⟩ := all_rds (R := mBytes) (M := mEnc rs hk) ((R.flatMap (·.f1)).flatMap encS) (R.flatMap (·.f1)) (([], 0) : List Int × Int) (⟨[], st0, ([], 0, [])⟩ : SSt (mEnc rs hk).σ) (utf_rds _ 0 hu (Int.le_refl _) (by omega)) hkw
  have := All_calls w nmU nm _ _ name_u hn dec_utf (enc_table hn h1 h2 hT hk) A c _ hC (enc_flat_bytes hu) (by omega) _ a1 a2
  have hw : ((wAll (mEnc rs hk) ⟨[], st0, ([], 0, [])⟩ (R.flatMap (·.f1))).out, (wAll (mEnc rs hk) ⟨[], st0, ([], 0, [])⟩ (R.flatMap (·.f1))).st) = (R.flatMap (·.f0), st0) := by
    unfold wAll
    rw [if_pos h0]
    unfold end1
    rw [hfin, k2, k3]
    rfl
  rw [hw] at this
  exact this
end Go.Proofs.YtnfjgopcenpblaaGreatDoor.T
