/- The walk of layer 2's law CarryHeld: it returns true; no condition but what a row hands on. -/
import Derived.Test.YtdhpldiahgajcaaK5
namespace Go.Proofs.Ytdhpldiahgajcaa.PUtfAll
open Go.RowKit Go.Proofs.YtdhpldiahgajcaaW.PrintWords Go.Proofs.YtdhpldiahgajcaaW.PrintLast Go.Proofs.YtdhpldiahgajcaaW.PrintMore Go.Proofs.Ytdhpldiahgajcaa
set_option linter.unusedVariables false
structure HeldNow (W w' : World) (g : Nat) (l : List Int) (k kq a : Nat) (vi : Value) : Prop where
  sum : k + kq = l.length
  ale : a ≤ k
  waits : Waits ((l.take k).drop a)
  rdr : Rdr w' W.heap.size g vi ((l.take k).drop a) a
  below : Below W.heap.size W w'
structure InNow (W w' : World) (g : Nat) (v3 : Value) (rest : List Int) (ai : Int) (A3 : Option Addr) (ts : List S32) (i jq : Nat) : Prop where
  sum : i + jq = ts.length
  C : Kd.C k32 w' A3 ts.length ts
  rdr : Rdr w' W.heap.size g v3 rest ai
  below : Below W.heap.size W w'
theorem InNow.next {W w' w2 : World} {g : Nat} {v3 : Value} {rest : List Int} {ai : Int} {A3 : Option Addr} {ts : List S32} {i jq : Nat} (h : InNow W w' g v3 rest ai A3 ts i (jq + 1)) (hb : Below w'.heap.size w' w2) : InNow W w2 g v3 rest ai A3 ts (i + 1) jq :=
  ⟨by have := h.sum; omega, Kd.C_below h.C hb, h.rdr.keep hb, h.below.trans (hb.mono h.below.size)⟩
theorem held_num {am k n : Nat} (g2 : am ≤ k + 1) (g7 : n = k + 1 - am) (g6 : n ≤ 3) : decide (3 < (n : Int)) = false ∧ (am : Int) + n = (k : Int) + 1 := ⟨decide_eq_false (by omega), by omega⟩
theorem sum_app (a b : List S32) : sumF (a ++ b) = sumF a + sumF b := by
  induction a with
  | nil => simp [sumF]
  | cons t r ih => simp only [List.cons_append, sumF, ih]; omega
theorem sum_pos {ts : List S32} (h : ∀ t ∈ ts, 0 ≤ t.f1) : 0 ≤ sumF ts := by
  induction ts with
  | nil => simp [sumF]
  | cons t r ih => have := h t (by simp); have := ih (fun x hx => h x (by simp [hx])); simp only [sumF]; omega
theorem sum_step {ts : List S32} {i : Nat} (h : i < ts.length) : sumF (ts.take (i + 1)) = sumF (ts.take i) + (ts.getD i z32).f1 := by
  rw [List.take_add_one, sum_app]
  simp [List.getElem?_eq_getElem h, sumF]
theorem sum_bd {ts : List S32} {i : Nat} (h : ∀ t ∈ ts, 0 ≤ t.f1) : 0 ≤ sumF (ts.take i) ∧ sumF (ts.take i) ≤ sumF ts := by
  refine ⟨sum_pos (fun t ht => h t (List.mem_of_mem_take ht)), ?_⟩
  have h1 : sumF ts = sumF (ts.take i) + sumF (ts.drop i) := by rw [← sum_app, List.take_append_drop]
  have h2 := sum_pos (ts := ts.drop i) (fun t ht => h t (List.mem_of_mem_drop ht))
  omega
theorem bytes1 {c : Int} (h : 0 ≤ c ∧ c < 256) : Bytes [c] := fun n hn => by
  have : n = c := by simpa using hn
  rw [this]; exact h
theorem bytes_wf {l : List Int} (f : ∀ n ∈ l, (Lit.int .u8 n).wf = true) : Bytes l := fun n hn => by
  have := f n hn
  have h2 : IntKind.u8.min ≤ n ∧ n ≤ IntKind.u8.max := by simpa [Lit.wf] using this
  have e1 : IntKind.u8.min = 0 := rfl
  have e2 : IntKind.u8.max = 255 := rfl
  omega
set_option maxHeartbeats 1000000 in
theorem CarryHeld_row (W : World) (A : Option Addr) (cap : Nat) (l : List Int) (r : RowAt .u8 W A l) (s : l.length * 1 ≤ 140737488351232) (f : ∀ n ∈ l, (Lit.int .u8 n).wf = true) (hcap : l.length ≤ cap) :
    Calls Try.prog 3 #[.slice A l.length cap] W fun e w' => e = .returned (.bool true) ∧ Below W.heap.size W w' := by
  have HY := Lib.hid (bytes_wf f)
  have HC := Lib.hid (C_of_row r (by omega))
  replace r := ()
  replace f := ()
  have hll : l.length ≤ 140737488351232 := by omega
  go_enter Try.func3, Try.ntmps3
  go_wp2_with (first
    | (go_at_call 15; refine (awake2_calls _).mono ?_; rintro e w1 ⟨rfl, hb⟩; have HB := Lib.hid hb; clear hb)
    | ((with_reducible refine gate_dst (N := 15) rfl ?_); refine box_event ?hg (N := 15) ?hd (cs := #[.slice none 0 0, .int .i64 0]) (t := 26) ?hr ?_; (case hd => rfl); (case hg => rfl); (case hr => first | (go_simp; done) | (go_simp; rfl)); intro g hg w2 K hb; have R := Lib.hid (Rdr.fresh (B := W.heap.size) hg K HB.out.size); replace HB := Lib.hid (HB.out.trans (hb.mono HB.out.size)); clear K hb hg))
  go_loopg [4, 18] l.length (fun kq v4 v18 w' => ∃ (a k : Nat) (vi : Value), v4 = .int .i64 a ∧ v18 = .int .i64 k ∧ Hid (HeldNow W w' g l k kq a vi))
  case atStart => exact ⟨0, 0, _, rfl, rfl, ⟨by omega, by omega, .inl rfl, R.out, HB.out⟩⟩
  case round =>
    clear R HB
    obtain ⟨a, k, vi, rfl, rfl, N⟩ := hrel
    cases gk with
    | zero =>
      obtain rfl : k = l.length := by have := N.out.sum; omega
      have hle := N.out.ale
      have R := Lib.hid N.out.rdr
      have HB := Lib.hid N.out.below
      rw [List.take_length] at R
      have h3 : (l.drop a).length ≤ 100 := by have := N.out.waits.three (fun x hx => HY.out x (List.mem_of_mem_take (List.mem_of_mem_drop hx))); rw [List.take_length] at this; omega
      have h4 : (a : Int) + (l.drop a).length ≤ 281474976710656 := by rw [List.length_drop]; omega
      by_cases h0 : a = l.length
      · subst h0
        have hq : eF (l.length : Int) (l.drop l.length) = ([], [], (l.length : Int)) := by unfold eF; rw [if_pos (List.drop_eq_nil_of_le (Nat.le_refl _))]
        have hq := Lib.hid hq
        clear N
        go_wp2_with (first
          | (go_at_call 19; refine (End_one wr _ g vi _ l.length R.out h3 (by omega) h4).mono ?_; rintro e w3 ⟨A3, c3, v3, rfl, _, R3, hb⟩; rw [hq.out] at R3; rw [hq.out]; replace HB := Lib.hid (HB.out.trans hb); have R3 := Lib.hid R3; clear hb)
          | (go_at_call 17; refine (Held_calls _ _ g _ _ _ R3.out).mono ?_; rintro e w4 ⟨rfl, rfl⟩))
        all_goals go_ret
        all_goals refine ⟨?_, HB.out⟩
        all_goals first | rfl | (simp; done)
      · have hq : ∃ ts a', eF a (l.drop a) = ([ts], [], a') := by
          unfold eF
          rw [if_neg (fun h => by have := congrArg List.length h; rw [List.length_drop] at this; simp at this; omega)]
          exact ⟨_, _, rfl⟩
        obtain ⟨ts, a', hq⟩ := hq
        have hq := Lib.hid hq
        have hw : wrap64 ((l.length : Int) - a) = (l.length : Int) - a := by unfold wrap64; omega
        have hm1 : (1 : Int) ≤ (l.length : Int) - a := by omega
        clear N
        go_wp2_with (first
          | (go_at_call 19; refine (End_one wr _ g vi _ a R.out h3 (by omega) h4).mono ?_; rintro e w3 ⟨A3, c3, v3, rfl, _, R3, hb⟩; rw [hq.out] at R3; rw [hq.out]; replace HB := Lib.hid (HB.out.trans hb); have R3 := Lib.hid R3; clear hb)
          | (go_at_call 17; refine (Held_calls _ _ g _ _ _ R3.out).mono ?_; rintro e w4 ⟨rfl, rfl⟩))
        all_goals go_ret
        all_goals refine ⟨?_, HB.out⟩
        all_goals first | rfl | (simp; done)
    | succ kq =>
      have hk : k < l.length := by have := N.out.sum; omega
      have hkI : (k : Int) < (l.length : Int) := by omega
      have hle := N.out.ale
      have R := Lib.hid N.out.rdr
      have HB := Lib.hid N.out.below
      have HW := Lib.hid N.out.waits
      have hsum := N.out.sum
      clear N
      obtain ⟨ad, rfl, hc⟩ := Kd.at_int (Kd.C_below HC.out HB.out) k (by omega) hkI
      rw [Int.toNat_natCast] at hc
      have hcb := HY.out.at k
      have hrd : rd l (k : Int) = l.getD k 0 := rfl
      rw [hrd] at hc
      obtain ⟨ts, m, g1, g2, g3, g4, g5, g6, g7⟩ := held_step HY.out hk hle HW.out
      have G1 := Lib.hid g1
      have G3 := Lib.hid g3
      have G4 := Lib.hid g4
      have G5 := Lib.hid g5
      have h3 : ((l.take k).drop a).length ≤ 100 := by have := HW.out.three (fun x hx => HY.out x (List.mem_of_mem_take (List.mem_of_mem_drop hx))); omega
      have h4 : (a : Int) + ((l.take k).drop a).length ≤ 281474976710656 := by have := HW.out.three (fun x hx => HY.out x (List.mem_of_mem_take (List.mem_of_mem_drop hx))); omega
      have hyy : Hid (Bytes ((l.take k).drop a ++ [l.getD k 0])) := Lib.hid (Bytes.app (fun x hx => HY.out x (List.mem_of_mem_take (List.mem_of_mem_drop hx))) (bytes1 hcb))
      clear g1 g3 g4 g5 hcb
      generalize hcc : l.getD k 0 = c at *
      go_wp2_with (first
        | (go_at_call 16; refine (Put_one wr _ g vi _ a c _ G1.out R.out h3 hyy.out (by omega) h4).mono ?_; rintro e w3 ⟨A3, c3, v3, rfl, hC3, R3, hb⟩; replace HB := Lib.hid (HB.out.trans hb); have R3 := Lib.hid R3; have hC3 := Lib.hid hC3; clear hb R hc))
      have hCl := Lib.hid (C_of_row (row_of_C HC.out) HC.out.2.1)
      go_loopg [4, 27] ts.length (fun jq v4 v27 w' => ∃ (i : Nat), v27 = .int .i64 i ∧ v4 = .int .i64 ((a : Int) + sumF (ts.take i)) ∧ Hid (InNow W w' g v3 ((l.take (k + 1)).drop (a + m)) ((a : Int) + m) A3 ts i jq))
      case atStart => exact ⟨0, rfl, by rw [List.take_zero]; simp [sumF], ⟨by omega, hC3.out, R3.out, HB.out⟩⟩
      case round =>
        clear HB R3 hC3
        obtain ⟨i, rfl, rfl, N⟩ := hrel
        cases gk with
        | zero =>
          obtain rfl : i = ts.length := by have := N.out.sum; omega
          have hv : (a : Int) + sumF (ts.take ts.length) = ((a + m : Nat) : Int) := by rw [List.take_length, G3.out]; omega
          rw [hv]
          have hR : Rdr wr W.heap.size g v3 ((l.take (k + 1)).drop (a + m)) ((a + m : Nat) : Int) := by have := N.out.rdr; rw [show (a : Int) + m = ((a + m : Nat) : Int) from by omega] at this; exact this
          have R := Lib.hid hR
          have HB := Lib.hid N.out.below
          clear hv N hR G1 G5
          generalize a + m = am at *
          have hY2 : Bytes ((l.take (k + 1)).drop am) := fun x hx => HY.out x (List.mem_of_mem_take (List.mem_of_mem_drop hx))
          obtain ⟨i08, hi08, _, hsz8, _⟩ := info_parts info5
          obtain ⟨A8, hcut8, hA8, hC8⟩ := print_mid_of (P := Try.prog) (Value.int .u8) 0 22 5 .i64 .i64 Try.underlying22 hi08 hsz8 (some ad) cap l (am : Int) ((k : Int) + 1) (by omega) (by omega) (by omega) hcap
          have hA9 := hA8 _ (Kd.reads_of_C (Kd.C_below HC.out HB.out))
          rw [show ((k : Int) + 1).toNat = k + 1 from by omega, Int.toNat_natCast] at hcut8 hA9 hC8
          have hw6 : wrap64 ((k : Int) + 1) = (k : Int) + 1 := by unfold wrap64; omega
          generalize hrest : (l.take (k + 1)).drop am = rest at *
          obtain ⟨sx, nx, hone⟩ : ∃ sx nx, oneF rest = (sx, nx, 2) := by
            rcases G4.out with h | h
            · rw [h]; exact ⟨0, 0, one_nil⟩
            · exact h
          have hf : utf_One.f rest = some (sx, nx, 2) := by rw [utf_One.of hY2, hone]
          have hF := Lib.hid hf
          have hrd8 : Kd.C (Kd.int .u8) wr A8 rest.length rest := Kd.C_of_reads (h1 := fun _ => rfl) hA9
          have hR8 := Lib.hid hrd8
          have hC8 := Lib.hid hC8
          obtain ⟨e3, e8⟩ := held_num g2 g7 g6
          have hw7 : wrap64 ((am : Int) + rest.length) = (k : Int) + 1 := by rw [e8]; exact hw6
          have HX := Lib.hid (And.intro HY.out hcap)
          have hk2 := hk
          have hg2 := g2
          have G7 := Lib.hid (And.intro g6 g7)
          have HZ := Lib.hid (And.intro hk2 (And.intro hg2 (And.intro hle (And.intro hsum e8))))
          clear hA8 hrd8 hA9 hi08 hsz8 hf hY2 hone g6 g7 hk2 hg2 hle hsum h3 h4 g2 hk hkI s hll hcap hyy G7 HX G3 HW hCl
          go_wp2_with (first
            | (go_at_call 17; refine (Held_calls _ _ g _ _ _ R.out).mono ?_; rintro e w4 ⟨rfl, rfl⟩)
            | (go_at_call 18; refine (utf_One.calls A8 _ rest sx nx 2 _ hR8.out hC8.out hF.out).mono ?_; rintro e w5 ⟨rfl, ⟨nd, rfl⟩⟩; generalize hq : World.drewN _ nd = w6; have R := Lib.hid (show Rdr w6 W.heap.size g v3 rest (am : Int) by rw [← hq]; exact R.out.keep (pw_below_drewN (Below.refl _ _) nd)); replace HB := Lib.hid (show Below W.heap.size W w6 by rw [← hq]; exact pw_below_drewN HB.out nd); clear hq))
          all_goals go_roundg kq
          all_goals obtain ⟨hk2, hg2, hle, hsum, _⟩ := HZ.out
          all_goals first
            | exact Nat.lt_succ_self _
            | exact ⟨am, k + 1, v3, rfl, congrArg (Value.int .i64) (by omega), ⟨by omega, hg2, by rw [hrest]; exact G4.out, by rw [hrest]; exact R.out, HB.out⟩⟩
        | succ jq =>
          have hi : i < ts.length := by have := N.out.sum; omega
          have hiI : (i : Int) < (ts.length : Int) := by omega
          obtain ⟨ad3, B3, d3, rfl, k0, k1, k2, k3, l3, m3⟩ := at_T32 N.out.C i (by omega) hiI
          have hst := sum_step (ts := ts) hi
          have hbd := sum_bd (i := i + 1) (fun t ht => (G5.out t ht).1)
          rw [G3.out] at hbd
          have hrt : rd_T32 ts (i : Int) = ts.getD i z32 := rfl
          rw [hrt] at k0 k1 k2 k3
          rw [Int.toNat_natCast] at k0 k1 k2 k3
          have hw4 : wrap64 ((a : Int) + sumF (ts.take i) + (ts.getD i z32).f1) = (a : Int) + sumF (ts.take (i + 1)) := by rw [hst] at hbd ⊢; unfold wrap64; omega
          have hnn := N.out.C.2.1
          have hw5 : wrap64 ((i : Int) + 1) = ((i + 1 : Nat) : Int) := by unfold wrap64; omega
          have HN := Lib.hid N.out
          clear N hst hbd m3 l3 hrt hnn
          generalize ts.getD i z32 = tk at *
          go_wp2
          go_roundg jq
          case measure => exact Nat.lt_succ_self _
          case rel => exact ⟨i + 1, congrArg (Value.int .i64) (by first | exact hw5 | omega), congrArg (Value.int .i64) (by first | exact hw4 | (unfold wrap64 at hw4; omega)), HN.out.next (below_alloc (Below.refl _ _) _)⟩
end Go.Proofs.Ytdhpldiahgajcaa.PUtfAll
