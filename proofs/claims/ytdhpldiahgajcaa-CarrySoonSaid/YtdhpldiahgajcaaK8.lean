/- The walk of layer 2's law CarrySoon: it returns true; no condition but what a row hands on. -/
import Derived.Test.YtdhpldiahgajcaaK7
import Derived.Test.YtdhpldiahgajcaaK6
import Derived.Test.YtdhpldiahgajcaaU3
namespace Go.Proofs.Ytdhpldiahgajcaa.PUtfAll
open Go.RowKit Go.Proofs.YtdhpldiahgajcaaW.PrintWords Go.Proofs.YtdhpldiahgajcaaW.PrintLast Go.Proofs.YtdhpldiahgajcaaW.PrintMore Go.Proofs.Ytdhpldiahgajcaa
set_option linter.unusedVariables false
structure SoonNow (W w' : World) (g n k kq : Nat) (vi : Value) (a : Int) : Prop where
  sum : k + kq = n
  a0 : 0 ≤ a
  a1 : a ≤ 4 * k
  rdr : Rdr w' W.heap.size g vi [] a
  below : Below W.heap.size W w'
structure SoonIn (W w' : World) (g : Nat) (a : Int) (bs : List Int) (u : Value) (j jq : Nat) (vi : Value) : Prop where
  sum : j + jq = bs.length
  rdr : Rdr w' W.heap.size g vi (if j = bs.length then [] else bs.take j) (if j = bs.length then a + bs.length else a)
  row : (Kd.int .u8).R 5 w' W.heap.size (fun k => k ≠ g ∧ some k ≠ vi.ownBlock) u bs
  below : Below W.heap.size W w'
theorem SoonIn.next {u2 : Value} {W w' w2 : World} {g : Nat} {a : Int} {bs : List Int} {u v2 vi : Value} {j jq : Nat} {q : List S32 × List Int × Int} (h : SoonIn W w' g a bs u j (jq + 1) vi) {li : List Int} (I : PutInv w' W.heap.size g vi w2 v2 u2 q.2.1 q.2.2 q.1)
    (h1 : q.2.1 = if j + 1 = bs.length then [] else bs.take (j + 1)) (h2 : q.2.2 = if j + 1 = bs.length then a + bs.length else a) : SoonIn W w2 g a bs u (j + 1) jq v2 := by
  refine ⟨by have := h.sum; omega, by rw [← h1, ← h2]; exact I.rdr, ?_, h.below.trans I.below⟩
  have hb := Kd.R_bound h.row
  have hk := Kd.R_kept hb I.kept (fun k hk h3 => h3.elim hk.1.1 hk.1.2)
  refine Kd.R_mono hk (fun k hk => ⟨hk.1.1, fun e => ?_⟩)
  rcases I.new with h4 | h4
  · rw [h4] at e; exact hk.1.2 e
  · have := h4 k e.symm; have := hk.2.2.1; omega
theorem soon_start {W wr w3 : World} {g : Nat} {a : Int} {bs : List Int} {v0 vi : Value} {ok : Nat → Prop} (R : Rdr wr W.heap.size g vi [] a) (HB : Below W.heap.size W wr) (hb : Below wr.heap.size wr w3) (R0 : (Kd.int .u8).R 5 w3 wr.heap.size ok v0 bs) (hl : 1 ≤ bs.length) :
    SoonIn W w3 g a bs v0 0 bs.length vi := by
  refine ⟨by omega, ?_, ?_, HB.trans (hb.mono HB.size)⟩
  · rw [if_neg (by omega), if_neg (by omega), List.take_zero]
    exact R.keep hb
  · refine Kd.R_mono (Kd.R_lower (Kd.R_bound R0) HB.size) (fun k hk => ⟨?_, fun e => ?_⟩)
    · have := R.lt; have := hk.2.1; omega
    · have := own_lt R.own k e.symm; have := hk.2.1; omega
theorem soon_num {j n : Nat} (hj : j < n) (hn : n ≤ 4) : wrap64 ((n : Int) - 1) = (n : Int) - 1 ∧ wrap64 ((j : Int) + 1) = ((j + 1 : Nat) : Int) := by unfold wrap64; omega
theorem soon_q {j n : Nat} (h : j + 1 = n) : ((j : Int) == (n : Int) - 1) = true ∧ decide ((j : Int) < (n : Int) - 1) = false := ⟨beq_iff_eq.mpr (by omega), decide_eq_false (by omega)⟩
theorem soon_q2 {j n : Nat} (h : ¬ j + 1 = n) : ((j : Int) == (n : Int) - 1) = false := beq_eq_false_iff_ne.mpr (by omega)
theorem soon_len {j : Nat} {bs : List Int} (h : bs.length ≤ 4) : (bs.take j).length ≤ 100 := by rw [List.length_take]; omega
theorem soon_a {j k n : Nat} {a : Int} {bs : List Int} (h : bs.length ≤ 4) (ha : a ≤ 4 * k) (hk : k < n) (hn : n ≤ 17592186043904) : a + ((bs.take j).length : Int) ≤ 281474976710656 := by rw [List.length_take]; omega
theorem soon_mk {W w' : World} {g n k kq : Nat} {vi : Value} {a : Int} {bs : List Int} (hs : k + (kq + 1) = n) (h0 : 0 ≤ a) (h1 : a ≤ 4 * k) (hb : bs.length ≤ 4) (R : Rdr w' W.heap.size g vi [] (a + bs.length)) (B : Below W.heap.size W w') : SoonNow W w' g n (k + 1) kq vi (a + bs.length) :=
  ⟨by omega, by omega, by omega, R, B⟩
theorem Put_q (w : World) (B b : Nat) (v : Value) (l : List Int) (at_ c : Int) (q : List S32 × List Int × Int) (hq : pF (l.length + 2) at_ (l ++ [c]) = q) (h : Rdr w B b v l at_) (hB : B ≤ w.heap.size) (hl : l.length ≤ 100) (hy : Bytes (l ++ [c])) (h0 : 0 ≤ at_) (h1 : at_ + l.length ≤ 281474976710656) :
    Calls Try.prog 16 #[.pointer (some ⟨b, 0, none⟩), .int .u8 c] w (PutP w B b v q) := by rw [← hq]; exact Put_calls w B b v l at_ c h hB hl hy h0 h1
theorem soon_var {a : Int} {bs : List Int} {j : Nat} {c : Int} {ts : List S32} (h : pF ((bs.take j).length + 2) a (bs.take j ++ [c]) = (ts, if j + 1 = bs.length then [] else bs.take (j + 1), if j + 1 = bs.length then a + bs.length else a)) :
    ∃ q : List S32 × List Int × Int, pF ((bs.take j).length + 2) a (bs.take j ++ [c]) = q ∧ q.1.length = ts.length ∧ q.2.1 = (if j + 1 = bs.length then [] else bs.take (j + 1)) ∧ q.2.2 = (if j + 1 = bs.length then a + bs.length else a) := ⟨_, h, rfl, rfl, rfl⟩
theorem soon_num2 {k n : Nat} (hk : k < n) (hn : n ≤ 17592186043904) : wrap64 ((k : Int) + 1) = ((k + 1 : Nat) : Int) := by unfold wrap64; omega
set_option maxHeartbeats 1000000 in
theorem CarrySoon_row (W : World) (A : Option Addr) (cap : Nat) (l : List Int) (r : RowAt .i64 W A l) (s : l.length * 8 ≤ 140737488351232) (f : ∀ n ∈ l, (Lit.int .i64 n).wf = true) :
    Calls Try.prog 13 #[.slice A l.length cap] W fun e w' => e = .returned (.bool true) ∧ Below W.heap.size W w' := by
  have HC := Lib.hid (C_of_row r (by omega))
  replace r := ()
  replace f := ()
  have hll : l.length ≤ 17592186043904 := by omega
  go_enter Try.func13, Try.ntmps13
  go_wp2_with (first
    | (go_at_call 15; refine (awake2_calls _).mono ?_; rintro e w1 ⟨rfl, hb⟩; have HB := Lib.hid hb; clear hb)
    | ((with_reducible refine gate_dst (N := 13) rfl ?_); refine box_event ?hg (N := 13) ?hd (cs := #[.slice none 0 0, .int .i64 0]) (t := 26) ?hr ?_; (case hd => rfl); (case hg => rfl); (case hr => first | (go_simp; done) | (go_simp; rfl)); intro g hg w2 K hb; have R := Lib.hid (Rdr.fresh (B := W.heap.size) hg K HB.out.size); replace HB := Lib.hid (HB.out.trans (hb.mono HB.out.size)); clear K hb hg))
  go_loopg [16] l.length (fun kq v16 w' => ∃ (k : Nat) (a : Int) (vi : Value), v16 = .int .i64 k ∧ Hid (SoonNow W w' g l.length k kq vi a))
  case atStart => exact ⟨0, 0, _, rfl, ⟨by omega, by omega, by omega, R.out, HB.out⟩⟩
  case round =>
    clear R HB
    obtain ⟨k, a, vi, rfl, N⟩ := hrel
    have R := Lib.hid N.out.rdr
    have HB := Lib.hid N.out.below
    have ha0 := N.out.a0
    have ha1 := N.out.a1
    have hsum := N.out.sum
    clear N
    cases gk with
    | zero =>
      obtain rfl : k = l.length := by omega
      have h4 : a + (([] : List Int).length : Int) ≤ 281474976710656 := by simp; omega
      have hq : eF a [] = ([], [], a) := rfl
      have hq := Lib.hid hq
      go_wp2_with (first
        | (go_at_call 19; refine (End_one wr _ g vi [] a R.out (by simp) ha0 h4).mono ?_; rintro e w3 ⟨A3, c3, v3, rfl, _, R3, hb⟩; rw [hq.out]; replace HB := Lib.hid (HB.out.trans hb); clear hb R3))
      all_goals go_ret
      all_goals exact ⟨rfl, HB.out⟩
    | succ kq =>
      have hk : k < l.length := by omega
      have hkI : (k : Int) < (l.length : Int) := by omega
      obtain ⟨ad, rfl, hc⟩ := Kd.at_int (Kd.C_below HC.out HB.out) k (by omega) hkI
      rw [Int.toNat_natCast] at hc
      generalize hsc : rd l (k : Int) = sc at *
      have hput := Lib.hid (put_is sc 0 [] (by simp))
      rw [List.nil_append] at hput
      have hbl := Lib.hid (encB_len sc)
      have hby := Lib.hid (encB_bytes sc)
      have HY := hby
      have hst := Lib.hid (fun j (hj : j < (encB sc).length) => soon_step (s := sc) a hj)
      generalize encB sc = bs at *
      go_wp2_with (first
        | (go_at_call 24; refine (utf_Put.calls 2 (fun _ => False) (.slice none 0 0) [] sc bs wr wr (Below.refl _ _) (Kd.R_nil _ _ _ _ _) hput.out).mono ?_; rintro e w3 ⟨u3, rfl, hR3, hb3, _⟩; obtain ⟨A3, c3, rfl⟩ := Kd.R_slice hR3; have hb := Lib.hid hb3; have R0 := Lib.hid hR3; clear hR3 hb3))
      have hl1 := hbl.out.1
      have HS := Lib.hid (soon_start R.out HB.out hb.out R0.out hl1)
      have hwk := soon_num2 hk hll
      have HK := Lib.hid (And.intro hsum (And.intro ha0 ha1))
      clear hb R0 R HB hc hput hby hsum hkI hl1
      go_loopg [24] bs.length (fun jq v24 w' => ∃ (j : Nat) (vj : Value), v24 = .int .i64 j ∧ Hid (SoonIn W w' g a bs (.slice A3 bs.length c3) j jq vj))
      case atStart => exact ⟨0, vi, rfl, HS⟩
      case round =>
        clear HS
        obtain ⟨j, vj, rfl, N⟩ := hrel
        cases gk with
        | zero =>
          obtain rfl : j = bs.length := by have := N.out.sum; omega
          have hR := N.out.rdr
          rw [if_pos rfl, if_pos rfl] at hR
          have R := Lib.hid hR
          have HB := Lib.hid N.out.below
          clear N hR
          go_wp2_with (first
            | (go_at_call 17; refine (Held_calls _ _ g _ _ _ R.out).mono ?_; rintro e w4 ⟨rfl, rfl⟩))
          go_roundg kq
          case measure => exact Nat.lt_succ_self _
          case rel => exact ⟨k + 1, a + bs.length, vj, congrArg (Value.int .i64) (by first | exact hwk | rfl), soon_mk HK.out.1 HK.out.2.1 HK.out.2.2 hbl.out.2 R.out HB.out⟩
        | succ jq =>
          have hj : j < bs.length := by have := N.out.sum; omega
          have hjI : (j : Int) < (bs.length : Int) := by omega
          have hR := N.out.rdr
          rw [if_neg (by omega), if_neg (by omega)] at hR
          have R := Lib.hid hR
          obtain ⟨_, _, hCb⟩ := Kd.R_reads' N.out.row
          obtain ⟨ad3, rfl, hc⟩ := Kd.at_int hCb j (by omega) hjI
          rw [Int.toNat_natCast] at hc
          have hrd : rd bs (j : Int) = bs.getD j 0 := rfl
          rw [hrd] at hc
          obtain ⟨ts, hp, hts⟩ := hst.out j hj
          obtain ⟨hw1, hw2⟩ := soon_num hj hbl.out.2
          have h3 : Hid ((bs.take j).length ≤ 100) := by exact Lib.hid (soon_len hbl.out.2)
          have ha := Lib.hid HK.out.2.1
          have h4 : Hid (a + ((bs.take j).length : Int) ≤ 281474976710656) := by exact Lib.hid (soon_a hbl.out.2 HK.out.2.2 hk hll)
          have hyy : Hid (Bytes (bs.take j ++ [bs.getD j 0])) := Lib.hid (Bytes.app (fun x hx => HY.out x (List.mem_of_mem_take hx)) (bytes1 (HY.out.at j)))
          have hle : Hid (W.heap.size ≤ wr.heap.size) := Lib.hid N.out.below.size
          have hlen4 := hbl.out.2
          clear hCb hR
          generalize bs.getD j 0 = c at *
          obtain ⟨q, hp2, hq0, hqa, hqb⟩ := soon_var hp
          replace hp2 := Lib.hid hp2
          replace hqa := Lib.hid hqa
          replace hqb := Lib.hid hqb
          rw [← hq0] at hts
          clear hp hrd hq0
          by_cases hlast : j + 1 = bs.length
          · have hq1 : Hid (q.1.length = 1) := by rw [if_pos hlast] at hts; exact Lib.hid hts
            obtain ⟨q1, q2⟩ := soon_q hlast
            clear hts
            go_wp2_with (first
            | (go_at_call 16; refine (Put_q wr W.heap.size g vj (bs.take j) a c q hp2.out R.out hle.out h3.out hyy.out ha.out h4.out).mono ?_; rintro e w4 ⟨u4, v4, rfl, I⟩; have hN := Lib.hid (N.out.next (li := []) I hqa.out hqb.out); obtain ⟨A4, c4, rfl⟩ := Kd.S_slice I.toks; rw [hq1.out]; clear I; refine holdit ?_))
            refine Lib.hid ?_
            replace hw2 := Lib.hid hw2
            clear hp2 hqa hqb hq1 h3 ha h4 hle hlen4 hyy hc HY hst hbl ha0 ha1 hwk hsc
            go_wp2
            go_roundg jq
            case measure => exact Nat.lt_succ_self _
            case rel => exact ⟨j + 1, v4, congrArg (Value.int .i64) (by first | exact hw2.out | rfl), hN.out⟩
          · have hq1 : Hid (q.1.length = 0) := by rw [if_neg hlast] at hts; exact Lib.hid hts
            have q1 := soon_q2 hlast
            clear hts
            go_wp2_with (first
            | (go_at_call 16; refine (Put_q wr W.heap.size g vj (bs.take j) a c q hp2.out R.out hle.out h3.out hyy.out ha.out h4.out).mono ?_; rintro e w4 ⟨u4, v4, rfl, I⟩; have hN := Lib.hid (N.out.next (li := []) I hqa.out hqb.out); obtain ⟨A4, c4, rfl⟩ := Kd.S_slice I.toks; rw [hq1.out]; clear I; refine holdit ?_))
            refine Lib.hid ?_
            replace hw2 := Lib.hid hw2
            clear hp2 hqa hqb hq1 h3 ha h4 hle hlen4 hyy hc HY hst hbl ha0 ha1 hwk hsc
            go_wp2
            go_roundg jq
            case measure => exact Nat.lt_succ_self _
            case rel => exact ⟨j + 1, v4, congrArg (Value.int .i64) (by first | exact hw2.out | rfl), hN.out⟩
end Go.Proofs.Ytdhpldiahgajcaa.PUtfAll
