/- The walk of layer 2's law CarryPut: it returns true; no condition but what a row hands on. -/
import Derived.Test.YtdhpldiahgajcaaK9
namespace Go.Proofs.Ytdhpldiahgajcaa.PUtfAll
open Go.RowKit Go.Proofs.YtdhpldiahgajcaaW.PrintWords Go.Proofs.YtdhpldiahgajcaaW.PrintLast Go.Proofs.YtdhpldiahgajcaaW.PrintMore Go.Proofs.Ytdhpldiahgajcaa
set_option linter.unusedVariables false
theorem Rdr.kept {w w' : World} {B b : Nat} {v : Value} {l : List Int} {a : Int} {S : Nat → Prop} (h : Rdr w B b v l a) (hk : Kept w w' S) (h1 : ¬ S b) (h2 : ∀ k, v.ownBlock = some k → ¬ S k) : Rdr w' B b v l a :=
  ⟨blk_kept h.blk hk h1, own_move h.own (fun k hk2 => hk.2 k (own_lt h.own k hk2) (h2 k hk2)), h.le⟩
/-- another reader goes on, and what was gathered reads as it did -/
theorem TokInv.read {w W W' : World} {B b g : Nat} {v vi u : Value} {li : List Int} {ai : Int} {xs : List S32} {cells : Array Value} (h : TokInv w B b v W vi u li ai xs) (hg : W.heap[g]? = some (.cells cells 26 (0, 0))) (hb : b ≠ g) (hk : Kept W W' (fun k => k = g ∨ some k = (Value.slice none 0 0).ownBlock)) :
    Rdr W' B b vi li ai ∧ Kd.R k32 32 W' w.heap.size (fun _ => True) u xs := by
  have hn : ∀ k, ¬ some k = (Value.slice none 0 0).ownBlock := fun k hk => by simp [Value.ownBlock] at hk
  refine ⟨h.rdr.kept hk (fun h3 => h3.elim hb (hn _)) (fun k hk2 h3 => h3.elim (fun e => ?_) (hn _)), ?_⟩
  · subst e
    exact own_ne h.rdr.own hg (by decide) hk2.symm
  · have h1 := Kd.R_types h.toks hg (by decide)
    exact Kd.R_mono (Kd.R_kept h1 hk (fun k hk2 h3 => h3.elim hk2.2 (hn _))) (fun _ _ => trivial)
theorem two_start {W w1 w2 w3 : World} {g g2 : Nat} (hg : g = w1.heap.size) (K : w2.heap[g]? = some (.cells #[.slice none 0 0, .int .i64 0] 26 (0, 0))) (hb : Below w1.heap.size w1 w2) (HB : Below W.heap.size W w1)
    (hg2 : g2 = w2.heap.size) (K2 : w3.heap[g2]? = some (.cells #[.slice none 0 0, .int .i64 0] 26 (0, 0))) (hb2 : Below w2.heap.size w2 w3) :
    TokInv w3 W.heap.size g (.slice none 0 0) w3 (.slice none 0 0) (.slice none 0 0) [] 0 [] ∧ Rdr w3 W.heap.size g2 (.slice none 0 0) [] 0 ∧ g ≠ g2 ∧ Below W.heap.size W w3 := by
  have h2 := HB.trans (hb.mono HB.size)
  have h3 := h2.trans (hb2.mono h2.size)
  refine ⟨TokInv.start ((Rdr.fresh (B := W.heap.size) hg K HB.size).keep hb2) h3.size, Rdr.fresh hg2 K2 h2.size, ?_, h3⟩
  have := blk_lt K
  omega
structure PutTwo (W w3 w' : World) (g g2 : Nat) (bs : List Int) (k kq : Nat) (vi u : Value) (li : List Int) (ai : Int) (xs : List S32) : Prop where
  inv : TokInv w3 W.heap.size g (.slice none 0 0) w' vi u li ai xs
  now : FeedNow 0 [] bs k kq li ai xs
theorem PutTwo.second {W w3 w' : World} {g g2 : Nat} {bs : List Int} {k kq : Nat} {vi u : Value} {li : List Int} {ai : Int} {xs : List S32} (h : PutTwo W w3 w' g g2 bs k kq vi u li ai xs) (hg : g ≠ g2) (R : Rdr w3 W.heap.size g2 (.slice none 0 0) [] 0) : Rdr w' W.heap.size g2 (.slice none 0 0) [] 0 :=
  R.kept h.inv.kept (fun h3 => h3.elim (fun e => hg e.symm) (fun e => by simp [Value.ownBlock] at e)) (fun k hk => by simp [Value.ownBlock] at hk)
theorem put_end2 {W w3 wr w5 : World} {g g2 : Nat} {bs : List Int} {k : Nat} {vi v5 u u5 : Value} {li : List Int} {ai : Int} {xs : List S32} (h : PutTwo W w3 wr g g2 bs k 0 vi u li ai xs) (hg : g ≠ g2) (R : Rdr wr W.heap.size g2 (.slice none 0 0) [] 0)
    (I : TokInv wr W.heap.size g2 (.slice none 0 0) w5 v5 u5 (feedF 0 [] bs).2.1 (feedF 0 [] bs).2.2 (feedF 0 [] bs).1) :
    (∃ A c, u = .slice A xs.length c ∧ xs.length ≤ c ∧ Kd.C k32 w5 A xs.length xs) ∧ (∃ A c, u5 = .slice A xs.length c ∧ xs.length ≤ c ∧ Kd.C k32 w5 A xs.length xs) ∧ Rdr w5 W.heap.size g vi li ai ∧ Rdr w5 W.heap.size g2 v5 li ai := by
  rw [h.now.end_] at I
  obtain ⟨h1, h2⟩ := h.inv.read R.blk hg I.kept
  exact ⟨Kd.R_reads h2, Kd.R_reads I.toks, h1, I.rdr⟩
theorem feed_out {bs : List Int} (hB : Bytes bs) : ∀ t ∈ (feedF 0 [] bs).1, t.f2.length ≤ 100 := by
  intro t ht
  have h := feed_all bs 0 (bs.length + 1) hB (by omega)
  have := all_out (bs.length + 1) 0 bs t (by rw [← h]; exact List.mem_append_left _ ht)
  omega
theorem feed_same {bs : List Int} (hB : Bytes bs) (hl : bs.length ≤ 1048576) {k : Nat} {li : List Int} {ai : Int} {xs : List S32} (h : FeedNow 0 [] bs k 0 li ai xs) : lontarlaw01_Same.f (xs.length + 103) xs xs = some true := by
  have e := h.end_
  have := feed_out hB
  rw [e] at this
  refine same_f ?_ this
  have := h.few
  have := h.sum
  simp at *
  omega
set_option maxHeartbeats 1000000 in
theorem CarryPut_row (W : World) (A : Option Addr) (cap : Nat) (l : List Int) (r : RowAt .u8 W A l) (s : l.length * 1 ≤ 140737488351232) (f : ∀ n ∈ l, (Lit.int .u8 n).wf = true) (hk : l.length ≤ 1048576) :
    Calls Try.prog 6 #[.slice A l.length cap] W fun e w' => e = .returned (.bool true) ∧ Below W.heap.size W w' := by
  have HY := Lib.hid (bytes_wf f)
  have HC := Lib.hid (C_of_row r (by omega))
  replace r := ()
  replace f := ()
  have HB := Lib.hid (Below.refl W.heap.size W)
  go_enter Try.func6, Try.ntmps6
  go_wp2_with (first
    | (go_at_call 15; refine (awake2_calls _).mono ?_; rintro e w1 ⟨rfl, hb⟩; replace HB := Lib.hid hb; clear hb)
    | ((with_reducible refine gate_dst (N := 11) rfl ?_); refine box_event ?hg (N := 11) ?hd (cs := #[.slice none 0 0, .int .i64 0]) (t := 26) ?hr ?_; (case hd => rfl); (case hg => rfl); (case hr => first | (go_simp; done) | (go_simp; rfl)); intro g hg w2 K hb; have K1 := Lib.hid (And.intro hg (And.intro K hb)); clear K hb hg)
    | ((with_reducible refine gate_dst (N := 13) rfl ?_); refine box_event ?hg (N := 13) ?hd (cs := #[.slice none 0 0, .int .i64 0]) (t := 26) ?hr ?_; (case hd => rfl); (case hg => rfl); (case hr => first | (go_simp; done) | (go_simp; rfl)); intro g2 hg w3 K hb; obtain ⟨I0, R2, hne, hB3⟩ := two_start K1.out.1 K1.out.2.1 K1.out.2.2 HB.out hg K hb; have I0 := Lib.hid I0; have R2 := Lib.hid R2; have hne := Lib.hid hne; replace HB := Lib.hid hB3; clear K hb hg K1 hB3))
  go_loopg [5, 16] l.length (fun kq v5 v16 w' => ∃ (k : Nat) (xs : List S32) (li : List Int) (ai : Int) (vi : Value), v16 = .int .i64 k ∧ Hid (PutTwo W w3 w' g g2 l k kq vi v5 li ai xs))
  case atStart => exact ⟨0, [], [], 0, _, rfl, ⟨I0.out, FeedNow.start waits_nil (by intro x hx; simp at hx) (by omega)⟩⟩
  case round =>
    obtain ⟨k, xs, li, ai, vi, rfl, N⟩ := hrel
    clear I0
    cases gk with
    | zero =>
      have hkn : k = l.length := by have := N.out.now.sum; omega
      have RS := Lib.hid (N.out.second hne.out R2.out)
      have hbr : Hid (Below W.heap.size W wr) := Lib.hid (HB.out.trans N.out.inv.below)
      have hsm := Lib.hid (feed_same HY.out hk N.out.now)
      clear R2
      go_wp2_with (first
        | (go_at_call 26; refine (Feed_calls W wr W.heap.size g2 _ [] 0 A cap l RS.out hbr.out.size HC.out hbr.out (Nat.le_refl _) waits_nil (by intro x hx; simp at hx) HY.out (by omega) (by simp; omega) (by omega)).mono ?_; rintro e w5 ⟨u5', v5', rfl, I5⟩; obtain ⟨⟨A6, c6, rfl, hc6, C6⟩, ⟨A7, c7, rfl, hc7, C7⟩, R6, R7⟩ := put_end2 N.out hne.out RS.out I5; have hbr2 := Lib.hid (hbr.out.trans I5.below); have C6 := Lib.hid C6; have C7 := Lib.hid C7; have hc6 := Lib.hid hc6; have hc7 := Lib.hid hc7; have R6 := Lib.hid R6; have R7 := Lib.hid R7; clear I5 N RS hbr)
        | (go_at_call 25; refine (lontarlaw01_Same.calls (xs.length + 103) A6 c6 xs A7 c7 xs true _ C6.out hc6.out C7.out hc7.out hsm.out).mono ?_; rintro e w6 ⟨rfl, hb⟩; have R6 := Lib.hid (R6.out.keep hb); have R7 := Lib.hid (R7.out.keep hb); have hbr3 := Lib.hid (hbr2.out.trans (hb.mono hbr2.out.size)); clear hb)
        | (go_at_call 17; first | (refine (Held_calls _ _ g _ _ _ R6.out).mono ?_; rintro e w7 ⟨rfl, rfl⟩) | (refine (Held_calls _ _ g2 _ _ _ R7.out).mono ?_; rintro e w8 ⟨rfl, rfl⟩)))
      all_goals go_ret
      all_goals exact ⟨by first | rfl | (simp; done), hbr3.out⟩
    | succ kq =>
      have hkl : k < l.length := by have := N.out.now.sum; omega
      have hkI : (k : Int) < (l.length : Int) := by omega
      obtain ⟨ad, rfl, hc⟩ := Kd.at_int (Kd.C_below HC.out (HB.out.trans N.out.inv.below)) k (by omega) hkI
      rw [Int.toNat_natCast] at hc
      have hrd : rd l (k : Int) = l.getD k 0 := rfl
      rw [hrd] at hc
      obtain ⟨q, hq, hN, h3, hyy, hfew⟩ := N.out.now.next HY.out
      have hp1 : Hid (li.length ≤ 100) := Lib.hid (by omega)
      have hp2 : Hid (ai + li.length ≤ 281474976710656) := Lib.hid (by have := N.out.now.asum; simp at this; omega)
      have hp3 : Hid (0 ≤ ai) := Lib.hid N.out.now.pos
      have hx : Hid ((xs.length + q.1.length) * 48 ≤ 140737488355328) := Lib.hid (by simp at hfew; omega)
      have hwk := feed_num hkl (show l.length ≤ 2932031007000 by omega)
      have HN := Lib.hid hN
      have HQ := Lib.hid hq
      have HYY := Lib.hid hyy
      have I := Lib.hid N.out.inv
      clear hN hq hyy hfew h3 N hrd
      generalize l.getD k 0 = c at *
      go_wp2_with (first
        | (go_at_call 16; refine (Put_calls wr W.heap.size g vi li ai c I.out.rdr (Nat.le_trans I.out.hB I.out.kept.1) hp1.out HYY.out hp3.out hp2.out).mono ?_; rintro e w5 ⟨u5', v5', rfl, I3⟩; rw [HQ.out] at I3; have I3 := Lib.hid (TokInv.of I3); clear hc)
        | ((with_reducible refine gate_builtin (b := .append) (xs := #[.tmp 20, .tmp 23]) rfl ?_); at_builtin; obtain ⟨q1, ⟨A3, c3, rfl, q2⟩, q3, q4, q5⟩ := I.out.app I3.out; refine Kd.R_append_rows k32 (w0 := w5) w3.heap.size rfl (.tmp 20) (.tmp 23) 27 32 (.agg #[(.int .i64 0), (.int .i64 0), (.slice none 0 0), (.int .i64 0)]) 48 rfl Try.underlying27 info32 rfl (by decide) (by omega) u5 xs q.1 A3 _ c3 _ (okq wr g v5') rfl rfl q1 q2 (fun _ _ hm => hm) q3 q4 (Below.refl _ _) q5 hx.out ?_; intro v6 w6 ho hb hg hat; have I2 := Lib.hid (I.out.next I3.out ho hg); clear q1 q2 q3 q4 q5 ho hb hg hat I I3))
      go_roundg kq
      case measure => exact Nat.lt_succ_self _
      case rel => exact ⟨k + 1, _, _, _, _, congrArg (Value.int .i64) (by first | exact hwk | rfl), ⟨I2.out, HN.out⟩⟩
end Go.Proofs.Ytdhpldiahgajcaa.PUtfAll
