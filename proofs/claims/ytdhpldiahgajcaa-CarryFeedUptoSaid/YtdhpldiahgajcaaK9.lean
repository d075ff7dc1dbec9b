/- The walk of the reader's Feed: what is read of bytes put one by one. No condition beyond the ranges. -/
import Derived.Test.YtdhpldiahgajcaaV6
import Derived.Test.YtdhpldiahgajcaaK6
namespace Go.Proofs.Ytdhpldiahgajcaa.PUtfAll
open Go.RowKit Go.Proofs.YtdhpldiahgajcaaW.PrintWords Go.Proofs.YtdhpldiahgajcaaW.PrintLast Go.Proofs.YtdhpldiahgajcaaW.PrintMore Go.Proofs.Ytdhpldiahgajcaa
set_option linter.unusedVariables false
/-- a world on the way of a law that gathers tokens -/
structure TokInv (w : World) (B b : Nat) (v : Value) (W : World) (vi u : Value) (li : List Int) (ai : Int) (xs : List S32) : Prop where
  rdr : Rdr W B b vi li ai
  toks : Kd.R k32 32 W w.heap.size (fun k => some k ≠ vi.ownBlock ∧ k ≠ b) u xs
  kept : Kept w W (fun k => k = b ∨ some k = v.ownBlock)
  new : vi.ownBlock = v.ownBlock ∨ ∀ k, vi.ownBlock = some k → w.heap.size ≤ k
  below : Below B w W
  blt : b < w.heap.size
  hB : B ≤ w.heap.size
theorem TokInv.start {w : World} {B b : Nat} {v : Value} {l : List Int} {at_ : Int} (h : Rdr w B b v l at_) (hB : B ≤ w.heap.size) : TokInv w B b v w v (.slice none 0 0) l at_ [] :=
  ⟨h, Kd.R_nil _ _ _ _ _, Kept.refl _ _, .inl rfl, Below.refl _ _, h.lt, hB⟩
theorem TokInv.keep {w W W' : World} {B b : Nat} {v vi u : Value} {li : List Int} {ai : Int} {xs : List S32} (h : TokInv w B b v W vi u li ai xs) (hb : Below W.heap.size W W') : TokInv w B b v W' vi u li ai xs :=
  ⟨h.rdr.keep hb, Kd.R_below h.toks hb, h.kept.below hb, h.new, h.below.trans (hb.mono (Nat.le_trans h.hB h.below.size)), h.blt, h.hB⟩
theorem TokInv.of {w W : World} {B b : Nat} {v vi u : Value} {li : List Int} {ai : Int} {xs : List S32} (h : PutInv w B b v W vi u li ai xs) : TokInv w B b v W vi u li ai xs :=
  ⟨h.rdr, Kd.S_R h.toks, h.kept, h.new, h.below, h.blt, h.hB⟩
def okq (W : World) (b : Nat) (v' : Value) (k : Nat) : Prop := (some k ≠ v'.ownBlock ∧ k ≠ b) ∧ W.heap.size ≤ k
/-- what append wants of the elder tokens and of the new ones -/
theorem TokInv.app {w W W' : World} {B b : Nat} {v vi u v' u' : Value} {li l' : List Int} {ai a' : Int} {xs ys : List S32} (h : TokInv w B b v W vi u li ai xs) (I : TokInv W B b vi W' v' u' l' a' ys) :
    Kd.R k32 32 W' w.heap.size (fun k => some k ≠ v'.ownBlock ∧ k ≠ b) u xs ∧ (∃ A c, u' = .slice A ys.length c ∧ ReadsRow (k32.M W' w.heap.size (okq W b v')) k32.sz W' A ys.length ys) ∧
    (∀ k, okq W b v' k → (some k ≠ v'.ownBlock ∧ k ≠ b) ∧ some k ≠ u.ownBlock) ∧ (∀ k, W'.heap.size ≤ k → some k ≠ v'.ownBlock ∧ k ≠ b) ∧ w.heap.size ≤ W'.heap.size := by
  refine ⟨?_, ?_, ?_, ?_, Nat.le_trans h.below.size I.below.size⟩
  · have hb := Kd.R_bound h.toks
    have hk := Kd.R_kept hb I.kept (fun k hk h3 => h3.elim hk.1.2 hk.1.1)
    refine Kd.R_mono hk (fun k hk => ⟨fun e => ?_, hk.1.2⟩)
    rcases I.new with h4 | h4
    · rw [h4] at e; exact hk.1.1 e
    · have := h4 k e.symm; have := hk.2.2.1; omega
  · obtain ⟨A, c, e, _, hr⟩ := OwnRow.reads I.toks.2
    refine ⟨A, c, e, hr.imp_ (Below.refl _ _) (fun p cs hp => ?_)⟩
    refine k32.M_mono (fun k hk => ?_) (k32.M_lower h.below.size (k32.M_bound hp))
    exact ⟨hk.1.1, hk.2.1⟩
  · intro k hk
    refine ⟨hk.1, fun e => ?_⟩
    have := Kd.R_lt h.toks k e.symm
    have := hk.2
    omega
  · intro k hk
    have h1 := I.rdr.lt
    refine ⟨fun e => ?_, by omega⟩
    have := own_lt I.rdr.own k e.symm
    omega
theorem TokInv.next {w W W' W2 : World} {B b : Nat} {v vi u v' u' u2 : Value} {li l' : List Int} {ai a' : Int} {xs ys : List S32} (h : TokInv w B b v W vi u li ai xs) (I : TokInv W B b vi W' v' u' l' a' ys)
    (ho : Kd.R k32 32 W2 w.heap.size (fun k => some k ≠ v'.ownBlock ∧ k ≠ b) u2 (xs ++ ys)) (hg : W'.grownBy W2 u.ownBlock) : TokInv w B b v W2 v' u2 l' a' (xs ++ ys) := by
  have hub2 : ∀ k, u.ownBlock = some k → w.heap.size ≤ k ∧ k < W.heap.size := fun k hk => ⟨Kd.R_base h.toks k hk, Kd.R_lt h.toks k hk⟩
  have hub : ∀ k, some k = u.ownBlock → k ≠ b := fun k hk2 hkb => (h.toks.1 k hk2.symm).2 hkb
  have hle := h.below.size
  have hkW : Kept w W' (fun k => k = b ∨ some k = v.ownBlock) := h.kept.then_ I.kept (fun k hk => by
    rcases hk with hk | hk
    · exact .inl (.inl hk)
    · rcases h.new with h1 | h1
      · rw [h1] at hk; exact .inl (.inr hk)
      · exact .inr (h1 k hk.symm))
  have huv : some (0 : Nat) = some 0 := rfl
  have hne : ∀ k, u.ownBlock = some k → some k ≠ v'.ownBlock := fun k hk e => by
    rcases I.new with h1 | h1
    · rw [h1] at e; exact (h.toks.1 k hk).1 e
    · have := h1 k e.symm; have := (hub2 k hk).2; omega
  refine ⟨⟨blk_grown I.rdr.blk hg (fun e => hub b e rfl), own_other I.rdr.own hg ?_, I.rdr.le⟩, ho, ?_, ?_, ?_, h.blt, h.hB⟩
  · cases hv : v'.ownBlock with
    | none => exact .inl rfl
    | some k => exact .inr (fun e => hne k e.symm hv.symm)
  · exact Kept.of_grown hg hkW (fun k hk2 => .inr (hub2 k hk2).1)
  · rcases I.new with h1 | h1
    · rw [h1]; exact h.new
    · exact .inr fun k hk => Nat.le_trans hle (h1 k hk)
  · have h1 : Below B w W' := h.below.trans I.below
    exact ⟨hg.os.trans h1.os, hg.tape.trans h1.tape, hg.output.trans h1.output, Nat.le_trans h1.size hg.size, fun k hk2 => (hg.block k (Nat.lt_of_lt_of_le hk2 (Nat.le_trans h.hB h1.size)) (fun e => by have := (hub2 k e.symm).1; have := h.hB; omega)).trans (h1.block k hk2)⟩
def FeedP (w : World) (B b : Nat) (v : Value) (q : List S32 × List Int × Int) (x : Ending) (w' : World) : Prop := ∃ u v', x = .returned u ∧ TokInv w B b v w' v' u q.2.1 q.2.2 q.1
/-- how far a reader is in bytes -/
structure FeedNow (a0 : Int) (l0 bs : List Int) (k kq : Nat) (li : List Int) (ai : Int) (xs : List S32) : Prop where
  sum : k + kq = bs.length
  ans : feedF a0 l0 bs = (xs ++ (feedF ai li (bs.drop k)).1, (feedF ai li (bs.drop k)).2)
  waits : Waits li
  byt : Bytes li
  pos : 0 ≤ ai
  asum : ai + (li.length : Int) = a0 + (l0.length : Int) + (k : Int)
  few : xs.length + li.length ≤ l0.length + k
theorem FeedNow.start {a0 : Int} {l0 bs : List Int} (hW : Waits l0) (hy : Bytes l0) (h0 : 0 ≤ a0) : FeedNow a0 l0 bs 0 bs.length l0 a0 [] :=
  ⟨by omega, by rw [List.drop_zero]; rfl, hW, hy, h0, by omega, by simp⟩
theorem FeedNow.end_ {a0 : Int} {l0 bs : List Int} {k : Nat} {li : List Int} {ai : Int} {xs : List S32} (h : FeedNow a0 l0 bs k 0 li ai xs) : feedF a0 l0 bs = (xs, li, ai) := by
  rw [h.ans, List.drop_eq_nil_of_le (by have := h.sum; omega)]
  simp [feedF]
theorem feed_cons (a : Int) (l : List Int) (c : Int) (r : List Int) : feedF a l (c :: r) = ((pF (l.length + 2) a (l ++ [c])).1 ++ (feedF (pF (l.length + 2) a (l ++ [c])).2.2 (pF (l.length + 2) a (l ++ [c])).2.1 r).1, (feedF (pF (l.length + 2) a (l ++ [c])).2.2 (pF (l.length + 2) a (l ++ [c])).2.1 r).2) := rfl
/-- a byte more -/
theorem FeedNow.next {a0 : Int} {l0 bs : List Int} {k kq : Nat} {li : List Int} {ai : Int} {xs : List S32} (h : FeedNow a0 l0 bs k (kq + 1) li ai xs) (hy : Bytes bs) :
    ∃ q : List S32 × List Int × Int, pF (li.length + 2) ai (li ++ [bs.getD k 0]) = q ∧ FeedNow a0 l0 bs (k + 1) kq q.2.1 q.2.2 (xs ++ q.1) ∧ li.length ≤ 3 ∧ Bytes (li ++ [bs.getD k 0]) ∧ xs.length + q.1.length ≤ l0.length + k + 1 := by
  have hk : k < bs.length := by have := h.sum; omega
  have hd : bs.drop k = bs.getD k 0 :: bs.drop (k + 1) := by rw [List.drop_eq_getElem_cons hk]; simp [List.getElem?_eq_getElem hk]
  have hB1 : Bytes (li ++ [bs.getD k 0]) := h.byt.app (bytes1 (hy.at k))
  have hans := h.ans
  rw [hd] at hans
  rw [feed_cons] at hans
  have h3 := h.waits.three h.byt
  have hfa := feed_at (bs := [bs.getD k 0]) (a := ai) (l := li) h.waits hB1
  simp only [feedF, List.append_nil] at hfa
  obtain ⟨f1, f2, f3, f4, f5, f6⟩ := hfa
  have ln : (li ++ [bs.getD k 0]).length = li.length + 1 := by simp
  rw [ln] at f4 f6
  have fw := h.few
  have asm := h.asum
  have a00 := h.pos
  have hq : (pF (li.length + 2) ai (li ++ [bs.getD k 0])).1.length + (pF (li.length + 2) ai (li ++ [bs.getD k 0])).2.1.length ≤ li.length + 1 := by
    have hc : ∀ (f : Nat) (a : Int) (l : List Int), Bytes l → (pF f a l).1.length + (pF f a l).2.1.length ≤ l.length := by
      intro f
      induction f with
      | zero => intro a l _; simp [pF]
      | succ f ih =>
        intro a l hB
        by_cases h0 : l = []
        · subst h0; rw [pF_nil]; simp
        · obtain ⟨n, s, e, h1, h2, h3, h4, h5, h6⟩ := one_far h0 hB
          by_cases he : e = 2
          · subst he; rw [pF_short h1]; simp
          · rw [pF_tok h0 h1 he]
            have := ih (a + n) (l.drop (n : Int).toNat) (hB.drop _)
            simp at this ⊢; omega
    have := hc (li.length + 2) ai _ hB1
    rw [ln] at this
    exact this
  refine ⟨_, rfl, ⟨by have := h.sum; omega, ?_, f1, f3, by omega, by omega, by rw [List.length_append]; omega⟩, h3, hB1, by omega⟩
  rw [hans, List.append_assoc]
theorem feed_num {k n : Nat} (hk : k < n) (hn : n ≤ 2932031007000) : wrap64 ((k : Int) + 1) = ((k + 1 : Nat) : Int) := by unfold wrap64; omega
set_option maxHeartbeats 1000000 in
theorem Feed_calls (W0 w : World) (B b : Nat) (v : Value) (l : List Int) (at_ : Int) (A : Option Addr) (cap : Nat) (bs : List Int) (h : Rdr w B b v l at_) (hB : B ≤ w.heap.size) (HC0 : Kd.C (Kd.int .u8) W0 A bs.length bs) (HB0 : Below W0.heap.size W0 w) (hW0 : W0.heap.size ≤ B)
    (hW : Waits l) (hy0 : Bytes l) (hy : Bytes bs) (h0 : 0 ≤ at_) (h1 : at_ + (l.length : Int) + (bs.length : Int) ≤ 200000000000000) (h2 : bs.length ≤ 2932031007000) :
    Calls Try.prog 26 #[.pointer (some ⟨b, 0, none⟩), .slice A bs.length cap] w (FeedP w B b v (feedF at_ l bs)) := by
  have I := Lib.hid (TokInv.start h hB)
  have N := Lib.hid (FeedNow.start (bs := bs) hW hy0 h0)
  have hl3 := hW.three hy0
  have HC := Lib.hid HC0
  have HBW := Lib.hid (And.intro HB0 hW0)
  have HY := Lib.hid hy
  replace h := ()
  clear HC0 HB0 hW0 hW hy0 hy
  go_enter Try.func26, Try.ntmps26
  go_wp2
  go_loopg [5, 10] bs.length (fun kq v5 v10 w' => ∃ (k : Nat) (xs : List S32) (li : List Int) (ai : Int) (vi : Value), v10 = .int .i64 k ∧ Hid (TokInv w B b v w' vi v5 li ai xs) ∧ Hid (FeedNow at_ l bs k kq li ai xs))
  case atStart => exact ⟨0, [], l, at_, _, rfl, I, N⟩
  case round =>
    clear I N
    obtain ⟨k, xs, li, ai, vi, rfl, I, N⟩ := hrel
    cases gk with
    | zero =>
      obtain rfl : k = bs.length := by have := N.out.sum; omega
      go_wp2
      go_ret
      exact ⟨u5, _, rfl, by rw [N.out.end_]; exact I.out⟩
    | succ kq =>
      have hk : k < bs.length := by have := N.out.sum; omega
      have hkI : (k : Int) < (bs.length : Int) := by omega
      obtain ⟨ad, rfl, hc⟩ := Kd.at_int (Kd.C_below HC.out (HBW.out.1.trans (I.out.below.mono HBW.out.2))) k (by omega) hkI
      rw [Int.toNat_natCast] at hc
      have hrd : rd bs (k : Int) = bs.getD k 0 := rfl
      rw [hrd] at hc
      obtain ⟨q, hq, hN, h3, hyy, hfew⟩ := N.out.next HY.out
      have hp1 : Hid (li.length ≤ 100) := Lib.hid (by omega)
      have hp2 : Hid (ai + li.length ≤ 281474976710656) := Lib.hid (by have := N.out.asum; omega)
      have hp3 : Hid (0 ≤ ai) := Lib.hid N.out.pos
      have hx : Hid ((xs.length + q.1.length) * 48 ≤ 140737488355328) := Lib.hid (by omega)
      have hwk := feed_num hk h2
      have HN := Lib.hid hN
      have HQ := Lib.hid hq
      have HYY := Lib.hid hyy
      clear hN hq hyy hfew h3 N hrd
      generalize bs.getD k 0 = c at *
      go_wp2_with (first
        | (go_at_call 16; refine (Put_calls wr B b vi li ai c I.out.rdr (Nat.le_trans hB I.out.below.size) hp1.out HYY.out hp3.out hp2.out).mono ?_; rintro e w3 ⟨u3, v3, rfl, I3⟩; rw [HQ.out] at I3; have I3 := Lib.hid (TokInv.of I3); clear hc)
        | ((with_reducible refine gate_builtin (b := .append) (xs := #[.tmp 14, .tmp 17]) rfl ?_); at_builtin; obtain ⟨q1, ⟨A3, c3, rfl, q2⟩, q3, q4, q5⟩ := I.out.app I3.out; refine Kd.R_append_rows k32 (w0 := w3) w.heap.size rfl (.tmp 14) (.tmp 17) 27 32 (.agg #[(.int .i64 0), (.int .i64 0), (.slice none 0 0), (.int .i64 0)]) 48 rfl Try.underlying27 info32 rfl (by decide) (by omega) u5 xs q.1 A3 _ c3 _ (okq wr b v3) rfl rfl q1 q2 (fun _ _ hm => hm) q3 q4 (Below.refl _ _) q5 hx.out ?_; intro v6 w6 ho hb hg hat; have I2 := Lib.hid (I.out.next I3.out ho hg); clear q1 q2 q3 q4 q5 ho hb hg hat I I3))
      go_roundg kq
      case measure => exact Nat.lt_succ_self _
      case rel => exact ⟨k + 1, _, _, _, _, congrArg (Value.int .i64) (by first | exact hwk | rfl), I2, HN⟩
end Go.Proofs.Ytdhpldiahgajcaa.PUtfAll
