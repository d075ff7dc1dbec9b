/- The reader's calls as laws over one reader want them, and the examples of layer 2. No condition beyond the ranges. -/
import Derived.Test.YtdhpldiahgajcaaK3
namespace Go.Proofs.Ytdhpldiahgajcaa.PUtfAll
open Go.RowKit Go.Proofs.YtdhpldiahgajcaaW.PrintWords Go.Proofs.YtdhpldiahgajcaaW.PrintLast Go.Proofs.YtdhpldiahgajcaaW.PrintMore Go.Proofs.Ytdhpldiahgajcaa
set_option linter.unusedVariables false
def OneP (w : World) (B b : Nat) (q : List S32 × List Int × Int) (x : Ending) (w' : World) : Prop :=
  ∃ (A : Option Addr) (c : Nat) (v' : Value), x = .returned (.slice A q.1.length c) ∧ Kd.C k32 w' A q.1.length q.1 ∧ Rdr w' B b v' q.2.1 q.2.2 ∧ Below B w w'
theorem OneP.of {w : World} {B b : Nat} {v : Value} {q : List S32 × List Int × Int} {x : Ending} {w' : World} (h : PutP w B b v q x w') : OneP w B b q x w' := by
  obtain ⟨u, v', rfl, I⟩ := h
  obtain ⟨A, c, rfl, _, hC⟩ := Kd.S_reads I.toks
  exact ⟨A, c, v', rfl, hC, I.rdr, I.below⟩
theorem Put_one (w : World) (B b : Nat) (v : Value) (l : List Int) (at_ c : Int) (q : List S32 × List Int × Int) (hq : pF (l.length + 2) at_ (l ++ [c]) = q) (h : Rdr w B b v l at_) (hl : l.length ≤ 100) (hy : Bytes (l ++ [c])) (h0 : 0 ≤ at_) (h1 : at_ + l.length ≤ 281474976710656) :
    Calls Try.prog 16 #[.pointer (some ⟨b, 0, none⟩), .int .u8 c] w (OneP w B b q) :=
  (Put_calls w B b v l at_ c h (Nat.le_trans h.le (Nat.le_of_lt h.lt)) hl hy h0 h1).mono fun _ _ hp => by rw [hq] at hp; exact OneP.of hp
theorem End_one (w : World) (B b : Nat) (v : Value) (l : List Int) (at_ : Int) (h : Rdr w B b v l at_) (hl : l.length ≤ 100) (h0 : 0 ≤ at_) (h1 : at_ + l.length ≤ 281474976710656) :
    Calls Try.prog 19 #[.pointer (some ⟨b, 0, none⟩)] w (OneP w B b (eF at_ l)) :=
  (End_calls w B b v l at_ h (Nat.le_trans h.le (Nat.le_of_lt h.lt)) hl h0 h1).mono fun _ _ hp => OneP.of hp
theorem Rdr.fresh {W w1 : World} {B g : Nat} (hg : g = W.heap.size) (h : w1.heap[g]? = some (.cells #[.slice none 0 0, .int .i64 0] 26 (0, 0))) (hB : B ≤ W.heap.size) : Rdr w1 B g (.slice none 0 0) [] 0 :=
  ⟨h, own_nil _ _ _ _, by omega⟩
theorem add0 (a : Addr) : a.add 0 = a := by cases a with | mk b o e => cases e <;> rfl
theorem tok_one {w : World} {A : Option Addr} {a n s e : Int} (h : Kd.C k32 w A 1 [⟨a, n, [s], e⟩]) : ∃ ad ad2 d, A = some ad ∧ w.cell? ⟨ad.block, ad.off + 2, none⟩ = some (.slice (some ad2) 1 d) ∧ w.cell? ad2 = some (.int .i64 s) := by
  obtain ⟨ad, B2, d2, eA, _, _, k2, _, l2, m2⟩ := at_T32 h 0 (by decide) (by decide)
  obtain ⟨ad2, e2, hc2⟩ := Kd.at_int m2 0 (by decide) (by show (0 : Int) < ((1 : Nat) : Int); decide)
  subst e2
  refine ⟨ad, ad2, d2, eA, ?_, ?_⟩
  · rw [show Int.toNat 0 * 4 = 0 from rfl, add0] at k2
    exact k2
  · rw [show Int.toNat 0 = 0 from rfl, add0] at hc2
    exact hc2
theorem bytesL (l : List Int) (h : l.all (fun n => decide (0 ≤ n ∧ n < 256)) = true) : Bytes l := fun n hn => of_decide_eq_true (List.all_eq_true.1 h n hn)
set_option maxHeartbeats 1000000 in
theorem awake2_calls (w : World) : Calls Try.prog 15 #[] w fun e w' => e = .returned (.bool true) ∧ Below w.heap.size w w' := by
  have HB := Lib.hid (Below.refl w.heap.size w)
  go_enter Try.func15, Try.ntmps15
  go_wp2_with (first
    | ((with_reducible refine gate_dst (N := 7) rfl ?_); refine box_event ?hg (N := 7) ?hd (cs := #[.slice none 0 0, .int .i64 0]) (t := 26) ?hr ?_; (case hd => rfl); (case hg => rfl); (case hr => first | (go_simp; done) | (go_simp; rfl)); intro g hg w1 K hb; have R := Lib.hid (Rdr.fresh (B := w.heap.size) hg K (Nat.le_refl _)); replace HB := Lib.hid (HB.out.trans hb); clear K hb hg)
    | ((with_reducible refine gate_dst (N := 9) rfl ?_); (with_reducible refine gate_callee (f := 16) rfl ?_); refine goesL_ (some 9) rfl rfl Try.func16 (by kernel_rfl) rfl #[.pointer (some ⟨g, 0, none⟩), .int .u8 224] rfl (by (try simp only [List.map_toArray, List.map_cons, List.map_nil]); first | done | rfl) ?_; refine (Put_one w1 _ g _ [] 0 224 ([], [224], 0) rfl R.out (by simp) (bytesL _ rfl) (by omega) (by simp)).mono ?_; rintro e2 w2 ⟨A2, c2, v2, rfl, hC2, R2, hb⟩; replace HB := Lib.hid (HB.out.trans hb); replace R := Lib.hid R2; clear R2 hb hC2; refine ⟨_, rfl, ?_⟩)
    | ((with_reducible refine gate_dst (N := 11) rfl ?_); (with_reducible refine gate_callee (f := 16) rfl ?_); refine goesL_ (some 11) rfl rfl Try.func16 (by kernel_rfl) rfl #[.pointer (some ⟨g, 0, none⟩), .int .u8 184] rfl (by (try simp only [List.map_toArray, List.map_cons, List.map_nil]); first | done | rfl) ?_; refine (Put_one w2 _ g _ [224] 0 184 ([], [224, 184], 0) rfl R.out (by simp) (bytesL _ rfl) (by omega) (by simp)).mono ?_; rintro e3 w3 ⟨A3, c3, v3, rfl, hC3, R2, hb⟩; replace HB := Lib.hid (HB.out.trans hb); replace R := Lib.hid R2; clear R2 hb hC3; refine ⟨_, rfl, ?_⟩)
    | ((with_reducible refine gate_dst (N := 13) rfl ?_); (with_reducible refine gate_callee (f := 17) rfl ?_); refine goesL_ (some 13) rfl rfl Try.func17 (by kernel_rfl) rfl #[.pointer (some ⟨g, 0, none⟩)] rfl (by (try simp only [List.map_toArray, List.map_cons, List.map_nil]); first | done | rfl) ?_; refine (Held_calls w3 _ g _ _ _ R.out).mono ?_; rintro e4 w4 ⟨rfl, rfl⟩; refine ⟨_, rfl, ?_⟩)
    | ((with_reducible refine gate_dst (N := 15) rfl ?_); (with_reducible refine gate_callee (f := 16) rfl ?_); refine goesL_ (some 15) rfl rfl Try.func16 (by kernel_rfl) rfl #[.pointer (some ⟨g, 0, none⟩), .int .u8 129] rfl (by (try simp only [List.map_toArray, List.map_cons, List.map_nil]); first | done | rfl) ?_; refine (Put_one w3 _ g _ [224, 184] 0 129 ([⟨0, 3, [3585], 0⟩], [], 3) rfl R.out (by simp) (bytesL _ rfl) (by omega) (by simp)).mono ?_; rintro e5 w5 ⟨A5, c5, v5, rfl, hC5, R2, hb⟩; replace HB := Lib.hid (HB.out.trans hb); replace R := Lib.hid R2; clear R2 hb; obtain ⟨ad, ad2, d2, eA, k2, k3⟩ := tok_one hC5; subst eA; clear hC5; refine ⟨_, rfl, ?_⟩)
    | (go_at_call 17; refine (Held_calls _ _ g _ _ _ R.out).mono ?_; rintro e6 w6 ⟨rfl, rfl⟩))
  go_ret
  exact ⟨rfl, HB.out⟩
end Go.Proofs.Ytdhpldiahgajcaa.PUtfAll
