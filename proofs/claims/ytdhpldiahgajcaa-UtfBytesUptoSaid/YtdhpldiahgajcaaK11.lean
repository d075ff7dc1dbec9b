/- The walk of layer 2's law CarryTwice: it returns true; no condition but what a row hands on. -/
import Derived.Test.YtdhpldiahgajcaaK10
namespace Go.Proofs.Ytdhpldiahgajcaa.PUtfAll
open Go.RowKit Go.Proofs.YtdhpldiahgajcaaW.PrintWords Go.Proofs.YtdhpldiahgajcaaW.PrintLast Go.Proofs.YtdhpldiahgajcaaW.PrintMore Go.Proofs.Ytdhpldiahgajcaa
attribute [local go_sem] max2_int max_two
set_option linter.unusedVariables false
/-- one of two readers, with what it told: all its blocks are P -/
structure Half (W : World) (B b : Nat) (v u : Value) (l : List Int) (a : Int) (xs : List S32) (P : Nat → Prop) : Prop where
  rdr : Rdr W B b v l a
  toks : Kd.R k32 32 W B (fun k => P k ∧ some k ≠ v.ownBlock ∧ k ≠ b) u xs
  pb : P b
  pv : ∀ k, v.ownBlock = some k → P k
def okh (W : World) (P : Nat → Prop) (b : Nat) (v' : Value) (k : Nat) : Prop := ((P k ∧ k < W.heap.size) ∨ W.heap.size ≤ k) ∧ some k ≠ v'.ownBlock ∧ k ≠ b
def Pn (W : World) (P : Nat → Prop) (k : Nat) : Prop := (P k ∧ k < W.heap.size) ∨ W.heap.size ≤ k
section
variable {W W' W2 : World} {B b b2 : Nat} {v u v' u' u2 vb ub : Value} {l l' lb : List Int} {a a' ab : Int} {xs ys xb : List S32} {P Q : Nat → Prop}
theorem Half.app (h : Half W B b v u l a xs P) (I : TokInv W B b v W' v' u' l' a' ys) :
    Kd.R k32 32 W' B (okh W P b v') u xs ∧ (∃ A c, u' = .slice A ys.length c ∧ ReadsRow (k32.M W' B (okq W b v')) k32.sz W' A ys.length ys) ∧
    (∀ k, okq W b v' k → okh W P b v' k ∧ some k ≠ u.ownBlock) ∧ (∀ k, W'.heap.size ≤ k → okh W P b v' k) ∧ B ≤ W'.heap.size := by
  refine ⟨?_, ?_, ?_, ?_, Nat.le_trans I.hB I.below.size⟩
  · have hb := Kd.R_bound h.toks
    have hk := Kd.R_kept hb I.kept (fun k hk h3 => h3.elim hk.1.2.2 hk.1.2.1)
    refine Kd.R_mono hk (fun k hk => ⟨.inl ⟨hk.1.1, hk.2.2.1⟩, fun e => ?_, hk.1.2.2⟩)
    rcases I.new with h4 | h4
    · rw [h4] at e; exact hk.1.2.1 e
    · have := h4 k e.symm; have := hk.2.2.1; omega
  · obtain ⟨A, c, e, _, hr⟩ := OwnRow.reads I.toks.2
    refine ⟨A, c, e, hr.imp_ (Below.refl _ _) (fun p cs hp => ?_)⟩
    refine k32.M_mono (fun k hk => ?_) (k32.M_lower I.hB (k32.M_bound hp))
    exact ⟨hk.1.1, hk.2.1⟩
  · intro k hk
    refine ⟨⟨.inr hk.2, hk.1⟩, fun e => ?_⟩
    have := Kd.R_lt h.toks k e.symm
    have := hk.2
    omega
  · intro k hk
    have h1 := I.rdr.lt
    have h2 := I.kept.1
    refine ⟨.inr (by omega), fun e => ?_, by omega⟩
    have := own_lt I.rdr.own k e.symm
    omega
theorem Half.next (h : Half W B b v u l a xs P) (I : TokInv W B b v W' v' u' l' a' ys) (ho : Kd.R k32 32 W2 B (okh W P b v') u2 (xs ++ ys)) (hg : W'.grownBy W2 u.ownBlock) :
    Half W2 B b v' u2 l' a' (xs ++ ys) (Pn W P) ∧ Kept W W2 P ∧ Below B W W2 := by
  have hub2 : ∀ k, u.ownBlock = some k → B ≤ k ∧ k < W.heap.size := fun k hk => ⟨Kd.R_base h.toks k hk, Kd.R_lt h.toks k hk⟩
  have hub : ∀ k, some k = u.ownBlock → k ≠ b := fun k hk2 hkb => (h.toks.1 k hk2.symm).2.2 hkb
  have hne : ∀ k, u.ownBlock = some k → some k ≠ v'.ownBlock := fun k hk e => by
    rcases I.new with h1 | h1
    · rw [h1] at e; exact (h.toks.1 k hk).2.1 e
    · have := h1 k e.symm; have := (hub2 k hk).2; omega
  have hkW : Kept W W' P := I.kept.mono (fun k hk => by
    rcases hk with rfl | hk
    · exact h.pb
    · exact h.pv k hk.symm)
  refine ⟨⟨⟨blk_grown I.rdr.blk hg (fun e => hub b e rfl), own_other I.rdr.own hg ?_, I.rdr.le⟩, Kd.R_mono ho (fun k hk => hk), .inl ⟨h.pb, h.rdr.lt⟩, ?_⟩, ?_, ?_⟩
  · cases hv : v'.ownBlock with
    | none => exact .inl rfl
    | some k => exact .inr (fun e => hne k e.symm hv.symm)
  · intro k hk
    rcases I.new with h1 | h1
    · rw [h1] at hk; exact .inl ⟨h.pv k hk, own_lt h.rdr.own k hk⟩
    · exact .inr (h1 k hk)
  · exact Kept.of_grown hg hkW (fun k hk2 => .inl (h.toks.1 k hk2).1)
  · have h1 := I.below
    exact ⟨hg.os.trans h1.os, hg.tape.trans h1.tape, hg.output.trans h1.output, Nat.le_trans h1.size hg.size, fun k hk2 => (hg.block k (Nat.lt_of_lt_of_le hk2 (Nat.le_trans I.hB h1.size)) (fun e => by have := (hub2 k e.symm).1; omega)).trans (h1.block k hk2)⟩
theorem Half.other (h : Half W B b2 vb ub lb ab xb Q) (hk : Kept W W2 P) (hd : ∀ k, P k → ¬ Q k) : Half W2 B b2 vb ub lb ab xb (fun k => Q k ∧ k < W.heap.size) := by
  refine ⟨h.rdr.kept hk (fun hp => hd _ hp h.pb) (fun k hk2 hp => hd _ hp (h.pv k hk2)), ?_, ⟨h.pb, h.rdr.lt⟩, fun k hk2 => ⟨h.pv k hk2, own_lt h.rdr.own k hk2⟩⟩
  have hb := Kd.R_bound h.toks
  exact Kd.R_mono (Kd.R_kept hb hk (fun k hk2 hp => hd _ hp hk2.1.1)) (fun k hk2 => ⟨⟨hk2.1.1, hk2.2.2.1⟩, hk2.1.2⟩)
theorem Half.keep (h : Half W B b v u l a xs P) (hb : Below W.heap.size W W2) : Half W2 B b v u l a xs (fun k => P k ∧ k < W.heap.size) :=
  Half.other h (P := fun _ => False) (Kept.of_below hb _) (fun _ hf => hf.elim)
end
/-- two readers -/
structure Two (B : Nat) (W : World) (g g2 : Nat) (va ua : Value) (la : List Int) (aa : Int) (xa : List S32) (vb ub : Value) (lb : List Int) (ab : Int) (xb : List S32) (P Q : Nat → Prop) : Prop where
  one : Half W B g va ua la aa xa P
  two : Half W B g2 vb ub lb ab xb Q
  apart : ∀ k, P k → ¬ Q k
section
variable {W W' W2 : World} {B g g2 : Nat} {va ua vb ub v' u' u2 : Value} {la lb l' : List Int} {aa ab a' : Int} {xa xb ys : List S32} {P Q : Nat → Prop}
theorem Two.symm (h : Two B W g g2 va ua la aa xa vb ub lb ab xb P Q) : Two B W g2 g vb ub lb ab xb va ua la aa xa Q P := ⟨h.two, h.one, fun k hq hp => h.apart k hp hq⟩
theorem Two.next (h : Two B W g g2 va ua la aa xa vb ub lb ab xb P Q) (I : TokInv W B g va W' v' u' l' a' ys) (ho : Kd.R k32 32 W2 B (okh W P g v') u2 (xa ++ ys)) (hg : W'.grownBy W2 ua.ownBlock) :
    Two B W2 g g2 v' u2 l' a' (xa ++ ys) vb ub lb ab xb (Pn W P) (fun k => Q k ∧ k < W.heap.size) ∧ Below B W W2 := by
  obtain ⟨h1, h2, h3⟩ := h.one.next I ho hg
  exact ⟨⟨h1, h.two.other h2 h.apart, fun k hp hq => hp.elim (fun h4 => h.apart k h4.1 hq.1) (fun h4 => by have := hq.2; omega)⟩, h3⟩
theorem Two.keep (h : Two B W g g2 va ua la aa xa vb ub lb ab xb P Q) (hb : Below W.heap.size W W2) :
    Two B W2 g g2 va ua la aa xa vb ub lb ab xb (fun k => P k ∧ k < W.heap.size) (fun k => Q k ∧ k < W.heap.size) := ⟨h.one.keep hb, h.two.keep hb, fun k hp hq => h.apart k hp.1 hq.1⟩
end
theorem two_start2 {W w1 w2 w3 : World} {g g2 : Nat} (hg : g = w1.heap.size) (K : w2.heap[g]? = some (.cells #[.slice none 0 0, .int .i64 0] 26 (0, 0))) (hb : Below w1.heap.size w1 w2) (HB : Below W.heap.size W w1)
    (hg2 : g2 = w2.heap.size) (K2 : w3.heap[g2]? = some (.cells #[.slice none 0 0, .int .i64 0] 26 (0, 0))) (hb2 : Below w2.heap.size w2 w3) :
    Two W.heap.size w3 g g2 (.slice none 0 0) (.slice none 0 0) [] 0 [] (.slice none 0 0) (.slice none 0 0) [] 0 [] (fun k => k = g) (fun k => k = g2) ∧ Below W.heap.size W w3 := by
  obtain ⟨h1, h2, h3, h4⟩ := two_start hg K hb HB hg2 K2 hb2
  exact ⟨⟨⟨h1.rdr, Kd.R_nil _ _ _ _ _, rfl, fun k hk => by simp [Value.ownBlock] at hk⟩, ⟨h2, Kd.R_nil _ _ _ _ _, rfl, fun k hk => by simp [Value.ownBlock] at hk⟩, fun k hp hq => h3 (hp.symm.trans hq)⟩, h4⟩
/-- where the two are, behind k rounds -/
structure TwoNow (W w' : World) (g g2 : Nat) (a b : List Int) (k : Nat) (va ua : Value) (la : List Int) (aa : Int) (xa : List S32) (vb ub : Value) (lb : List Int) (ab : Int) (xb : List S32) (P Q : Nat → Prop) : Prop where
  two : Two W.heap.size w' g g2 va ua la aa xa vb ub lb ab xb P Q
  nowa : FeedNow 0 [] a (min k a.length) (a.length - k) la aa xa
  nowb : FeedNow 0 [] b (min k b.length) (b.length - k) lb ab xb
  below : Below W.heap.size W w'
theorem now_next {a la : List Int} {k : Nat} {aa : Int} {xa : List S32} (h : FeedNow 0 [] a (min k a.length) (a.length - k) la aa xa) (hy : Bytes a) (hk : k < a.length) (hs : a.length ≤ 1048576) :
    ∃ q : List S32 × List Int × Int, pF (la.length + 2) aa (la ++ [a.getD k 0]) = q ∧ FeedNow 0 [] a (min (k + 1) a.length) (a.length - (k + 1)) q.2.1 q.2.2 (xa ++ q.1) ∧ la.length ≤ 100 ∧ Bytes (la ++ [a.getD k 0]) ∧ (xa.length + q.1.length) * 48 ≤ 140737488355328 ∧ aa + la.length ≤ 281474976710656 ∧ 0 ≤ aa := by
  rw [show min k a.length = k by omega, show a.length - k = (a.length - (k + 1)) + 1 by omega] at h
  obtain ⟨q, h1, h2, h3, h4, h5⟩ := h.next hy
  rw [show min (k + 1) a.length = k + 1 by omega]
  have e1 := h.asum
  have e2 := h.pos
  rw [List.length_nil] at e1 h5
  refine ⟨q, h1, h2, by omega, h4, by omega, by omega, e2⟩
theorem now_stay {a la : List Int} {k : Nat} {aa : Int} {xa : List S32} (h : FeedNow 0 [] a (min k a.length) (a.length - k) la aa xa) (hk : ¬ k < a.length) : FeedNow 0 [] a (min (k + 1) a.length) (a.length - (k + 1)) la aa xa := by
  rw [show min (k + 1) a.length = min k a.length by omega, show a.length - (k + 1) = a.length - k by omega]; exact h
/-- behind all bytes: what End adds makes the tokens of all -/
theorem now_end {a la : List Int} {k : Nat} {aa : Int} {xa : List S32} (h : FeedNow 0 [] a (min k a.length) (a.length - k) la aa xa) (hy : Bytes a) (hk : ¬ k < a.length) (hs : a.length ≤ 1048576) :
    xa ++ (eF aa la).1 = allF (a.length + 1) 0 a ∧ la.length ≤ 100 ∧ 0 ≤ aa ∧ aa + la.length ≤ 281474976710656 ∧ (xa.length + (eF aa la).1.length) * 48 ≤ 140737488355328 := by
  rw [show a.length - k = 0 by omega] at h
  have h1 := h.end_
  have h2 := feed_all a 0 (a.length + 1) hy (by omega)
  rw [h1] at h2
  have h3 := h.waits.three h.byt
  have h4 := h.few
  have h5 := h.asum
  have h6 : (eF aa la).1.length ≤ 1 := by unfold eF; split <;> simp
  simp at h4 h5
  exact ⟨h2, by omega, h.pos, by omega, by omega⟩
theorem R_len {base : Nat} {ok : Nat → Prop} {w : World} {u : Value} {xs ys : List S32} (h : Kd.R k32 32 w base ok u xs) (e : xs = ys) : ∃ A c, u = .slice A ys.length c ∧ ys.length ≤ c ∧ Kd.C k32 w A ys.length ys := by
  subst e; exact Kd.R_reads h
theorem at_ptr1 {P : Program} {f g : Nat} {w : World} {Q : Ending → World → Prop} (h : Calls P f #[.pointer (some ⟨g, 0, none⟩)] w Q) : Calls P f #[.pointer (some ⟨g, 0, none⟩)] w Q := h
theorem at_ptr2 {P : Program} {f g : Nat} {c : Value} {w : World} {Q : Ending → World → Prop} (h : Calls P f #[.pointer (some ⟨g, 0, none⟩), c] w Q) : Calls P f #[.pointer (some ⟨g, 0, none⟩), c] w Q := h
theorem at_sl1 {P : Program} {f n c : Nat} {A : Option Addr} {w : World} {Q : Ending → World → Prop} (h : Calls P f #[.slice A n c] w Q) : Calls P f #[.slice A n c] w Q := h
theorem at_sl2 {P : Program} {f n c : Nat} {A : Option Addr} {u : Value} {w : World} {Q : Ending → World → Prop} (h : Calls P f #[.slice A n c, u] w Q) : Calls P f #[.slice A n c, u] w Q := h
theorem cell_of {W : World} {ad : Addr} {l : List Int} {k : Nat} (h : Kd.C (Kd.int .u8) W (some ad) l.length l) (hk : k < l.length) : ∀ w', Below W.heap.size W w' → w'.cell? (ad.add k) = some (.int .u8 (l.getD k 0)) := by
  intro w' hb
  have hkI : (k : Int) < (l.length : Int) := by omega
  obtain ⟨ad2, e, hc⟩ := Kd.at_int (Kd.C_below h hb) k (by omega) hkI
  injection e with e
  subst e
  rw [Int.toNat_natCast] at hc
  exact hc
theorem twice_num {k n : Nat} (hk : k < n) (hn : n ≤ 1048576) : wrap64 ((k : Int) + 1) = ((k + 1 : Nat) : Int) := by unfold wrap64; omega
set_option maxHeartbeats 4000000 in
theorem CarryTwice_row (W : World) (A : Option Addr) (cap : Nat) (la0 : List Int) (r : RowAt .u8 W A la0) (s : la0.length * 1 ≤ 140737488351232) (f : ∀ n ∈ la0, (Lit.int .u8 n).wf = true) (hca0 : la0.length ≤ cap)
    (A1 : Option Addr) (cap1 : Nat) (lb0 : List Int) (r1 : RowAt .u8 W A1 lb0) (s1 : lb0.length * 1 ≤ 140737488351232) (f1 : ∀ n ∈ lb0, (Lit.int .u8 n).wf = true) (hcb0 : lb0.length ≤ cap1) (hk : la0.length + lb0.length ≤ 1048576) :
    Calls Try.prog 7 #[.slice A la0.length cap, .slice A1 lb0.length cap1] W fun e w' => e = .returned (.bool true) ∧ Below W.heap.size W w' := by
  have HYYa := Lib.hid (bytes_wf f)
  have HYYb := Lib.hid (bytes_wf f1)
  have HCa := Lib.hid (C_of_row r (by omega))
  have HCb := Lib.hid (C_of_row r1 (by omega))
  have HKa := Lib.hid hca0
  have HKb := Lib.hid hcb0
  replace r := ()
  replace f := ()
  replace r1 := ()
  replace f1 := ()
  have hsa : la0.length ≤ 1048576 := by omega
  have hsb : lb0.length ≤ 1048576 := by omega
  clear s s1 hk hca0 hcb0
  have HB := Lib.hid (Below.refl W.heap.size W)
  go_enter Try.func7, Try.ntmps7
  go_wp2_with (first
    | (go_at_call 15; refine (awake2_calls _).mono ?_; rintro e w1 ⟨rfl, hb⟩; replace HB := Lib.hid hb; clear hb)
    | ((with_reducible refine gate_dst (N := 13) rfl ?_); refine box_event ?hg (N := 13) ?hd (cs := #[.slice none 0 0, .int .i64 0]) (t := 26) ?hr ?_; (case hd => rfl); (case hg => rfl); (case hr => first | (go_simp; done) | (go_simp; rfl)); intro g hg w2 K hb; have K1 := Lib.hid (And.intro hg (And.intro K hb)); clear K hb hg)
    | ((with_reducible refine gate_dst (N := 15) rfl ?_); refine box_event ?hg (N := 15) ?hd (cs := #[.slice none 0 0, .int .i64 0]) (t := 26) ?hr ?_; (case hd => rfl); (case hg => rfl); (case hr => first | (go_simp; done) | (go_simp; rfl)); intro g2 hg w3 K hb; obtain ⟨T0, hB3⟩ := two_start2 K1.out.1 K1.out.2.1 K1.out.2.2 HB.out hg K hb; have T0 := Lib.hid T0; replace HB := Lib.hid hB3; clear K hb hg K1 hB3))
  go_loopg [7, 8, 9] (max la0.length lb0.length) (fun kq v7 v8 v9 w' => ∃ (k : Nat) (va : Value) (la : List Int) (aa : Int) (xa : List S32) (vb : Value) (lb : List Int) (ab : Int) (xb : List S32) (P Q : Nat → Prop), v9 = .int .i64 k ∧ k + kq = max la0.length lb0.length ∧ Hid (TwoNow W w' g g2 la0 lb0 k va v7 la aa xa vb v8 lb ab xb P Q))
  case atStart => exact ⟨0, _, [], 0, [], _, [], 0, [], _, _, rfl, by omega, Lib.hid ⟨T0.out, by rw [Nat.zero_min]; exact FeedNow.start waits_nil (by intro x hx; simp at hx) (by omega), by rw [Nat.zero_min]; exact FeedNow.start waits_nil (by intro x hx; simp at hx) (by omega), HB.out⟩⟩
  case round =>
    clear T0 HB
    obtain ⟨k, va, la, aa, xa, vb, lb, ab, xb, P, Q, rfl, hsum, N⟩ := hrel
    have T := Lib.hid N.out.two
    have HB := Lib.hid N.out.below
    cases gk with
    | zero =>
      have hka : ¬ k < la0.length := by omega
      have hkb : ¬ k < lb0.length := by omega
      obtain ⟨ea, h2a, h3a, h4a, h5a⟩ := now_end N.out.nowa HYYa.out hka hsa
      obtain ⟨eb, h2b, h3b, h4b, h5b⟩ := now_end N.out.nowb HYYb.out hkb hsb
      have Ea := Lib.hid ea
      have Eb := Lib.hid eb
      have H2a := Lib.hid h2a
      have H3a := Lib.hid h3a
      have H4a := Lib.hid h4a
      have H5a := Lib.hid h5a
      have H2b := Lib.hid h2b
      have H3b := Lib.hid h3b
      have H4b := Lib.hid h4b
      have H5b := Lib.hid h5b
      have Sa := Lib.hid (same_all (la0.length + 1) 0 HYYa.out (by omega))
      have Sb := Lib.hid (same_all (lb0.length + 1) 0 HYYb.out (by omega))
      have Fa := Lib.hid (all_f HYYa.out (by omega))
      have Fb := Lib.hid (all_f HYYb.out (by omega))
      clear N ea eb h2a h3a h4a h5a h2b h3b h4b h5b hsum
      generalize allF (la0.length + 1) 0 la0 = ta at *
      generalize allF (lb0.length + 1) 0 lb0 = tb at *
      go_wp2_with (first
        | (go_at_call 19; (with_reducible refine at_ptr1 (g := g) ?_); refine (End_calls _ W.heap.size g va la aa T.out.one.rdr HB.out.size H2a.out H3a.out H4a.out).mono ?_; rintro e w5a ⟨u5a, v5a, rfl, I3⟩; have Ia := Lib.hid (TokInv.of I3); clear I3)
        | ((with_reducible refine gate_builtin (b := .append) (xs := #[.tmp 49, .tmp 51]) rfl ?_); (try (refine gate_guard (by rfl) ?_; dsimp only)); at_builtin; obtain ⟨q1, ⟨A3, c3, rfl, q2⟩, q3, q4, q5⟩ := T.out.one.app Ia.out; refine Kd.R_append_rows k32 (w0 := w5a) W.heap.size rfl (.tmp 49) (.tmp 51) 27 32 (.agg #[(.int .i64 0), (.int .i64 0), (.slice none 0 0), (.int .i64 0)]) 48 rfl Try.underlying27 info32 rfl (by decide) (by omega) u7 xa (eF aa la).1 A3 _ c3 _ (okq _ g v5a) rfl rfl q1 q2 (fun _ _ hm => hm) q3 q4 (Below.refl _ _) q5 H5a.out ?_; intro v6a w6a ho hb hg hat; obtain ⟨T2, hb2⟩ := T.out.next Ia.out ho hg; have T := Lib.hid T2; have HB := Lib.hid (HB.out.trans hb2); obtain ⟨A4a, c4a, rfl, hc4, hC4⟩ := R_len T.out.one.toks Ea.out; have HDa := Lib.hid hc4; have HEa := Lib.hid hC4; clear q1 q2 q3 q4 q5 ho hb hg hat Ia hb2 T2 hc4 hC4)
        | (go_at_call 27; (with_reducible refine at_sl1 (n := la0.length) ?_); refine (utf_All.calls _ A _ la0 ta _ (Kd.C_below HCa.out HB.out) HKa.out Fa.out).mono ?_; rintro e w7a ⟨v7a, rfl, hs7, hb⟩; obtain ⟨A7a, c7a, rfl, hc7, hC7⟩ := Kd.S_reads hs7; have HGa := Lib.hid hc7; have HHa := Lib.hid hC7; have HEa := Lib.hid (Kd.C_below HEa.out hb); have T := Lib.hid (T.out.keep hb); have HB := Lib.hid (HB.out.trans (hb.mono HB.out.size)); clear hs7 hb hc7 hC7)
        | (go_at_call 25; (with_reducible refine at_sl2 (A := A4a) ?_); refine (lontarlaw01_Same.calls _ A4a c4a ta A7a c7a ta true _ HEa.out HDa.out HHa.out HGa.out Sa.out).mono ?_; rintro e w8a ⟨rfl, hb⟩; have T := Lib.hid (T.out.keep hb); have HB := Lib.hid (HB.out.trans (hb.mono HB.out.size)); clear hb)
        | (go_at_call 19; (with_reducible refine at_ptr1 (g := g2) ?_); refine (End_calls _ W.heap.size g2 vb lb ab T.out.two.rdr HB.out.size H2b.out H3b.out H4b.out).mono ?_; rintro e w5b ⟨u5b, v5b, rfl, I3⟩; have Ib := Lib.hid (TokInv.of I3); clear I3)
        | ((with_reducible refine gate_builtin (b := .append) (xs := #[.tmp 57, .tmp 59]) rfl ?_); (try (refine gate_guard (by rfl) ?_; dsimp only)); at_builtin; obtain ⟨q1, ⟨A3, c3, rfl, q2⟩, q3, q4, q5⟩ := T.out.two.app Ib.out; refine Kd.R_append_rows k32 (w0 := w5b) W.heap.size rfl (.tmp 57) (.tmp 59) 27 32 (.agg #[(.int .i64 0), (.int .i64 0), (.slice none 0 0), (.int .i64 0)]) 48 rfl Try.underlying27 info32 rfl (by decide) (by omega) u8 xb (eF ab lb).1 A3 _ c3 _ (okq _ g2 v5b) rfl rfl q1 q2 (fun _ _ hm => hm) q3 q4 (Below.refl _ _) q5 H5b.out ?_; intro v6b w6b ho hb hg hat; obtain ⟨T2, hb2⟩ := T.out.symm.next Ib.out ho hg; have T := Lib.hid T2.symm; have HB := Lib.hid (HB.out.trans hb2); obtain ⟨A4b, c4b, rfl, hc4, hC4⟩ := R_len T.out.two.toks Eb.out; have HDb := Lib.hid hc4; have HEb := Lib.hid hC4; clear q1 q2 q3 q4 q5 ho hb hg hat Ib hb2 T2 hc4 hC4)
        | (go_at_call 27; (with_reducible refine at_sl1 (n := lb0.length) ?_); refine (utf_All.calls _ A1 _ lb0 tb _ (Kd.C_below HCb.out HB.out) HKb.out Fb.out).mono ?_; rintro e w7b ⟨v7b, rfl, hs7, hb⟩; obtain ⟨A7b, c7b, rfl, hc7, hC7⟩ := Kd.S_reads hs7; have HGb := Lib.hid hc7; have HHb := Lib.hid hC7; have HEb := Lib.hid (Kd.C_below HEb.out hb); have T := Lib.hid (T.out.keep hb); have HB := Lib.hid (HB.out.trans (hb.mono HB.out.size)); clear hs7 hb hc7 hC7)
        | (go_at_call 25; (with_reducible refine at_sl2 (A := A4b) ?_); refine (lontarlaw01_Same.calls _ A4b c4b tb A7b c7b tb true _ HEb.out HDb.out HHb.out HGb.out Sb.out).mono ?_; rintro e w8b ⟨rfl, hb⟩; have T := Lib.hid (T.out.keep hb); have HB := Lib.hid (HB.out.trans (hb.mono HB.out.size)); clear hb))
      all_goals go_ret
      all_goals exact ⟨rfl, HB.out⟩
    | succ kq =>
      by_cases ha : k < la0.length
      · by_cases hb : k < lb0.length
        · have hIa : (k : Int) < (la0.length : Int) := by omega
          obtain ⟨ada, rfl, hc0a⟩ := Kd.at_int HCa.out k (by omega) hIa
          have Hca : Hid (∀ w', Below W.heap.size W w' → w'.cell? (ada.add k) = some (.int .u8 (la0.getD k 0))) := Lib.hid (cell_of HCa.out ha)
          obtain ⟨qa, hq, hN, h3, hyy, hx, hu, hp⟩ := now_next N.out.nowa HYYa.out ha hsa
          have HQa := Lib.hid hq
          have HNa := Lib.hid hN
          have HLa := Lib.hid h3
          have HYa := Lib.hid hyy
          have HXa := Lib.hid hx
          have HUa := Lib.hid hu
          have HPa := Lib.hid hp
          clear hq hN h3 hyy hx hu hp hc0a
          have hIb : (k : Int) < (lb0.length : Int) := by omega
          obtain ⟨adb, rfl, hc0b⟩ := Kd.at_int HCb.out k (by omega) hIb
          have Hcb : Hid (∀ w', Below W.heap.size W w' → w'.cell? (adb.add k) = some (.int .u8 (lb0.getD k 0))) := Lib.hid (cell_of HCb.out hb)
          obtain ⟨qb, hq, hN, h3, hyy, hx, hu, hp⟩ := now_next N.out.nowb HYYb.out hb hsb
          have HQb := Lib.hid hq
          have HNb := Lib.hid hN
          have HLb := Lib.hid h3
          have HYb := Lib.hid hyy
          have HXb := Lib.hid hx
          have HUb := Lib.hid hu
          have HPb := Lib.hid hp
          clear hq hN h3 hyy hx hu hp hc0b
          have hca := Hca.out _ HB.out
          have hwk := twice_num ha hsa
          generalize la0.getD k 0 = ca at *
          generalize lb0.getD k 0 = cb at *
          go_wp2_with (first
            | (go_at_call 16; (with_reducible refine at_ptr2 (g := g) ?_); refine (Put_calls _ W.heap.size g va la aa ca T.out.one.rdr HB.out.size HLa.out HYa.out HPa.out HUa.out).mono ?_; rintro e w5a ⟨u5a, v5a, rfl, I3⟩; rw [HQa.out] at I3; have Ia := Lib.hid (TokInv.of I3); clear I3 hca)
            | ((with_reducible refine gate_builtin (b := .append) (xs := #[.tmp 29, .tmp 35]) rfl ?_); at_builtin; obtain ⟨q1, ⟨A3, c3, rfl, q2⟩, q3, q4, q5⟩ := T.out.one.app Ia.out; refine Kd.R_append_rows k32 (w0 := w5a) W.heap.size rfl (.tmp 29) (.tmp 35) 27 32 (.agg #[(.int .i64 0), (.int .i64 0), (.slice none 0 0), (.int .i64 0)]) 48 rfl Try.underlying27 info32 rfl (by decide) (by omega) u7 xa qa.1 A3 _ c3 _ (okq _ g v5a) rfl rfl q1 q2 (fun _ _ hm => hm) q3 q4 (Below.refl _ _) q5 HXa.out ?_; intro v6a w6a ho hb hg hat; obtain ⟨T2, hb2⟩ := T.out.next Ia.out ho hg; have T := Lib.hid T2; have HB := Lib.hid (HB.out.trans hb2); (try have hcb := Hcb.out _ HB.out); clear q1 q2 q3 q4 q5 ho hb hg hat Ia hb2 T2)
            | (go_at_call 16; (with_reducible refine at_ptr2 (g := g2) ?_); refine (Put_calls _ W.heap.size g2 vb lb ab cb T.out.two.rdr HB.out.size HLb.out HYb.out HPb.out HUb.out).mono ?_; rintro e w5b ⟨u5b, v5b, rfl, I3⟩; rw [HQb.out] at I3; have Ib := Lib.hid (TokInv.of I3); clear I3 hcb)
            | ((with_reducible refine gate_builtin (b := .append) (xs := #[.tmp 41, .tmp 47]) rfl ?_); at_builtin; obtain ⟨q1, ⟨A3, c3, rfl, q2⟩, q3, q4, q5⟩ := T.out.two.app Ib.out; refine Kd.R_append_rows k32 (w0 := w5b) W.heap.size rfl (.tmp 41) (.tmp 47) 27 32 (.agg #[(.int .i64 0), (.int .i64 0), (.slice none 0 0), (.int .i64 0)]) 48 rfl Try.underlying27 info32 rfl (by decide) (by omega) u8 xb qb.1 A3 _ c3 _ (okq _ g2 v5b) rfl rfl q1 q2 (fun _ _ hm => hm) q3 q4 (Below.refl _ _) q5 HXb.out ?_; intro v6b w6b ho hb hg hat; obtain ⟨T2, hb2⟩ := T.out.symm.next Ib.out ho hg; have T := Lib.hid T2.symm; have HB := Lib.hid (HB.out.trans hb2); (try have hca := Hca.out _ HB.out); clear q1 q2 q3 q4 q5 ho hb hg hat Ib hb2 T2))
          all_goals go_roundg kq
          all_goals first
            | exact Nat.lt_succ_self _
            | exact ⟨k + 1, _, _, _, _, _, _, _, _, _, _, congrArg (Value.int .i64) (by first | exact hwk | rfl), by omega, Lib.hid ⟨T.out, HNa.out, HNb.out, HB.out⟩⟩
        · have hn := Lib.hid (now_stay N.out.nowb hb)
          have hIa : (k : Int) < (la0.length : Int) := by omega
          obtain ⟨ada, rfl, hc0a⟩ := Kd.at_int HCa.out k (by omega) hIa
          have Hca : Hid (∀ w', Below W.heap.size W w' → w'.cell? (ada.add k) = some (.int .u8 (la0.getD k 0))) := Lib.hid (cell_of HCa.out ha)
          obtain ⟨qa, hq, hN, h3, hyy, hx, hu, hp⟩ := now_next N.out.nowa HYYa.out ha hsa
          have HQa := Lib.hid hq
          have HNa := Lib.hid hN
          have HLa := Lib.hid h3
          have HYa := Lib.hid hyy
          have HXa := Lib.hid hx
          have HUa := Lib.hid hu
          have HPa := Lib.hid hp
          clear hq hN h3 hyy hx hu hp hc0a
          have hca := Hca.out _ HB.out
          have hwk := twice_num ha hsa
          have hb2 : ¬ (k : Int) < (lb0.length : Int) := by omega
          generalize la0.getD k 0 = ca at *
          go_wp2_with (first
            | (go_at_call 16; (with_reducible refine at_ptr2 (g := g) ?_); refine (Put_calls _ W.heap.size g va la aa ca T.out.one.rdr HB.out.size HLa.out HYa.out HPa.out HUa.out).mono ?_; rintro e w5a ⟨u5a, v5a, rfl, I3⟩; rw [HQa.out] at I3; have Ia := Lib.hid (TokInv.of I3); clear I3 hca)
            | ((with_reducible refine gate_builtin (b := .append) (xs := #[.tmp 29, .tmp 35]) rfl ?_); at_builtin; obtain ⟨q1, ⟨A3, c3, rfl, q2⟩, q3, q4, q5⟩ := T.out.one.app Ia.out; refine Kd.R_append_rows k32 (w0 := w5a) W.heap.size rfl (.tmp 29) (.tmp 35) 27 32 (.agg #[(.int .i64 0), (.int .i64 0), (.slice none 0 0), (.int .i64 0)]) 48 rfl Try.underlying27 info32 rfl (by decide) (by omega) u7 xa qa.1 A3 _ c3 _ (okq _ g v5a) rfl rfl q1 q2 (fun _ _ hm => hm) q3 q4 (Below.refl _ _) q5 HXa.out ?_; intro v6a w6a ho hb hg hat; obtain ⟨T2, hb2⟩ := T.out.next Ia.out ho hg; have T := Lib.hid T2; have HB := Lib.hid (HB.out.trans hb2); (try have hcb := Hcb.out _ HB.out); clear q1 q2 q3 q4 q5 ho hb hg hat Ia hb2 T2))
          all_goals go_roundg kq
          all_goals first
            | exact Nat.lt_succ_self _
            | exact ⟨k + 1, _, _, _, _, _, _, _, _, _, _, congrArg (Value.int .i64) (by first | exact hwk | rfl), by omega, Lib.hid ⟨T.out, HNa.out, hn.out, HB.out⟩⟩
      · have hb : k < lb0.length := by omega
        have hn := Lib.hid (now_stay N.out.nowa ha)
        have hIb : (k : Int) < (lb0.length : Int) := by omega
        obtain ⟨adb, rfl, hc0b⟩ := Kd.at_int HCb.out k (by omega) hIb
        have Hcb : Hid (∀ w', Below W.heap.size W w' → w'.cell? (adb.add k) = some (.int .u8 (lb0.getD k 0))) := Lib.hid (cell_of HCb.out hb)
        obtain ⟨qb, hq, hN, h3, hyy, hx, hu, hp⟩ := now_next N.out.nowb HYYb.out hb hsb
        have HQb := Lib.hid hq
        have HNb := Lib.hid hN
        have HLb := Lib.hid h3
        have HYb := Lib.hid hyy
        have HXb := Lib.hid hx
        have HUb := Lib.hid hu
        have HPb := Lib.hid hp
        clear hq hN h3 hyy hx hu hp hc0b
        have hcb := Hcb.out _ HB.out
        have hwk := twice_num hb hsb
        have ha2 : ¬ (k : Int) < (la0.length : Int) := by omega
        generalize lb0.getD k 0 = cb at *
        go_wp2_with (first
          | (go_at_call 16; (with_reducible refine at_ptr2 (g := g2) ?_); refine (Put_calls _ W.heap.size g2 vb lb ab cb T.out.two.rdr HB.out.size HLb.out HYb.out HPb.out HUb.out).mono ?_; rintro e w5b ⟨u5b, v5b, rfl, I3⟩; rw [HQb.out] at I3; have Ib := Lib.hid (TokInv.of I3); clear I3 hcb)
          | ((with_reducible refine gate_builtin (b := .append) (xs := #[.tmp 41, .tmp 47]) rfl ?_); at_builtin; obtain ⟨q1, ⟨A3, c3, rfl, q2⟩, q3, q4, q5⟩ := T.out.two.app Ib.out; refine Kd.R_append_rows k32 (w0 := w5b) W.heap.size rfl (.tmp 41) (.tmp 47) 27 32 (.agg #[(.int .i64 0), (.int .i64 0), (.slice none 0 0), (.int .i64 0)]) 48 rfl Try.underlying27 info32 rfl (by decide) (by omega) u8 xb qb.1 A3 _ c3 _ (okq _ g2 v5b) rfl rfl q1 q2 (fun _ _ hm => hm) q3 q4 (Below.refl _ _) q5 HXb.out ?_; intro v6b w6b ho hb hg hat; obtain ⟨T2, hb2⟩ := T.out.symm.next Ib.out ho hg; have T := Lib.hid T2.symm; have HB := Lib.hid (HB.out.trans hb2); (try have hca := Hca.out _ HB.out); clear q1 q2 q3 q4 q5 ho hb hg hat Ib hb2 T2))
        all_goals go_roundg kq
        all_goals first
          | exact Nat.lt_succ_self _
          | exact ⟨k + 1, _, _, _, _, _, _, _, _, _, _, congrArg (Value.int .i64) (by first | exact hwk | rfl), by omega, Lib.hid ⟨T.out, hn.out, HNb.out, HB.out⟩⟩
end Go.Proofs.Ytdhpldiahgajcaa.PUtfAll
