/- A reader of layer 2: what its block has, and the walks of Held and take. No condition beyond the ranges. -/
import Derived.Test.YtdhpldiahgajcaaU2
import Derived.Test.YtdhpldiahgajcaaV5
namespace Go.Proofs.Ytdhpldiahgajcaa.PUtfAll
open Go.RowKit Go.Proofs.YtdhpldiahgajcaaW.PrintWords Go.Proofs.YtdhpldiahgajcaaW.PrintLast Go.Proofs.YtdhpldiahgajcaaW.PrintMore Go.Proofs.Ytdhpldiahgajcaa
set_option linter.unusedVariables false
/-- block b is a reader: the bytes l wait (in the slice v, its own, in blocks from B on), and at_ is where they begin -/
structure Rdr (w : World) (B b : Nat) (v : Value) (l : List Int) (at_ : Int) : Prop where
  blk : w.heap[b]? = some (.cells #[v, .int .i64 at_] 26 (0, 0))
  own : w.ownsRow B 5 1 v l.length (nums .u8 l)
  le : B ≤ b
namespace Rdr
variable {w w' : World} {B b : Nat} {v : Value} {l : List Int} {at_ : Int}
theorem ne (h : Rdr w B b v l at_) : some b ≠ v.ownBlock := own_ne h.own h.blk (by decide)
theorem lt (h : Rdr w B b v l at_) : b < w.heap.size := blk_lt h.blk
theorem form (h : Rdr w B b v l at_) : ∃ A c, v = .slice A l.length c := own_slice h.own
theorem keep (h : Rdr w B b v l at_) (hb : Below w.heap.size w w') : Rdr w' B b v l at_ := ⟨blk_below h.blk hb, pw_own_below h.own hb, h.le⟩
end Rdr
theorem Held_calls (w : World) (B b : Nat) (v : Value) (l : List Int) (at_ : Int) (h : Rdr w B b v l at_) :
    Calls Try.prog 17 #[.pointer (some ⟨b, 0, none⟩)] w fun e w' => e = .returned (.int .i64 (l.length : Int)) ∧ w = w' := by
  obtain ⟨A, c, rfl⟩ := h.form
  have c0 := blk_cell h.blk 0
  replace c0 : w.cell? ⟨b, 0, none⟩ = some (.slice A l.length c) := c0.trans rfl
  have H := Lib.hid h
  clear h
  go_enter Try.func17, Try.ntmps17
  go_wp2
  go_ret
  exact ⟨rfl, rfl⟩
/-- what take leaves -/
def TakeP (w : World) (B b : Nat) (l : List Int) (at_ s n e : Int) (x : Ending) (w' : World) : Prop :=
  ∃ (cs : List Value) (v' : Value), x = .returned (.agg cs.toArray) ∧ k32.M w' w.heap.size (fun _ => True) ⟨at_, n, if e = 0 then [s] else [], e⟩ cs ∧ Rdr w' B b v' (l.drop n.toNat) (wrap64 (at_ + n)) ∧
    Kept w w' (fun k => k = b) ∧ (∀ k, v'.ownBlock = some k → w.heap.size ≤ k) ∧ Below B w w'
theorem holdit {p : Prop} (h : Hid p) : p := h
/-- a world on take's way, behind the token's block -/
structure TakeMid (w : World) (B b : Nat) (v : Value) (l : List Int) (at_ n e : Int) (o : Value) (out : List Int) (W : World) : Prop where
  blk : W.heap[b]? = some (.cells #[v, .int .i64 at_] 26 (0, 0))
  own : W.ownsRow B 5 1 v l.length (nums .u8 l)
  k8 : W.heap[w.heap.size]? = some (.cells #[.int .i64 0, .int .i64 0, .slice none 0 0, .int .i64 0] 32 (0, 0))
  k9 : W.heap[w.heap.size + 1]? = some (.cells #[.int .i64 at_, .int .i64 n, o, .int .i64 e] 32 (0, 0))
  row : (Kd.int .i64).R 3 W w.heap.size (fun _ => True) o out
  below : Below w.heap.size w W
  lt : b < w.heap.size
namespace TakeMid
variable {w W W2 : World} {B b : Nat} {v o : Value} {l out : List Int} {at_ n e : Int} {A : Option Addr} {c : Nat}
theorem c0 (h : TakeMid w B b v l at_ n e o out W) : W.cell? ⟨b, 0, none⟩ = some v := (blk_cell h.blk 0).trans rfl
theorem c1 (h : TakeMid w B b v l at_ n e o out W) : W.cell? ⟨b, 1, none⟩ = some (.int .i64 at_) := (blk_cell h.blk 1).trans rfl
theorem f0 (h : TakeMid w B b v l at_ n e o out W) : W.frozen? ⟨b, 0, none⟩ = false := blk_frozen h.blk 0
theorem f1 (h : TakeMid w B b v l at_ n e o out W) : W.frozen? ⟨b, 1, none⟩ = false := blk_frozen h.blk 1
theorem reads (h : TakeMid w B b (.slice A l.length c) l at_ n e o out W) : ReadsOf (Value.int .u8) 0 W A l.length l := by
  obtain ⟨A2, c2, e2, hr⟩ := own_reads h.own
  injection e2 with e3 _ _
  subst e3
  exact hr
end TakeMid
theorem take_mid {w W W2 : World} {B b : Nat} {v o : Value} {l out : List Int} {at_ n e : Int} (h : TakeMid w B b v l at_ n e o out W) (hg : W.grownBy W2 none) : TakeMid w B b v l at_ n e o out W2 := by
  have hb : Below W.heap.size W W2 := ⟨hg.os, hg.tape, hg.output, hg.size, fun k hk => hg.block k hk (by simp)⟩
  exact ⟨blk_below h.blk hb, pw_own_below h.own hb, blk_below h.k8 hb, blk_below h.k9 hb, Kd.R_below h.row hb, below_step h.below hb, h.lt⟩
theorem mid_no {w : World} {B b : Nat} {v : Value} {l : List Int} {at_ n e : Int} (h : Rdr w B b v l at_) :
    TakeMid w B b v l at_ n e (.slice none 0 0) [] ((w.alloc (.cells #[.int .i64 0, .int .i64 0, .slice none 0 0, .int .i64 0] 32)).alloc (.cells #[.int .i64 at_, .int .i64 n, .slice none 0 0, .int .i64 e] 32)) := by
  have hb : Below w.heap.size w ((w.alloc (.cells #[.int .i64 0, .int .i64 0, .slice none 0 0, .int .i64 0] 32)).alloc (.cells #[.int .i64 at_, .int .i64 n, .slice none 0 0, .int .i64 e] 32)) := below_alloc (below_alloc (Below.refl _ _) _) _
  refine ⟨blk_below h.blk hb, pw_own_below h.own hb, blk_alloc (blk_new w _) _, ?_, Kd.R_nil _ _ _ _ _, hb, h.lt⟩
  have := blk_new (w.alloc (.cells #[.int .i64 0, .int .i64 0, .slice none 0 0, .int .i64 0] 32)) (.cells #[.int .i64 at_, .int .i64 n, .slice none 0 0, .int .i64 e] 32)
  simpa using this
theorem mid_yes {w : World} {B b : Nat} {v : Value} {l : List Int} {at_ n e s : Int} (h : Rdr w B b v l at_) :
    TakeMid w B b v l at_ n e (.slice (some ⟨w.heap.size + 2, 0, none⟩) 1 1) [s] (((w.alloc (.cells #[.int .i64 0, .int .i64 0, .slice none 0 0, .int .i64 0] 32)).alloc (.cells #[.int .i64 at_, .int .i64 n, .slice (some ⟨w.heap.size + 2, 0, none⟩) 1 1, .int .i64 e] 32)).alloc (.cells #[.int .i64 s] 3)) := by
  have hb : Below w.heap.size w (((w.alloc (.cells #[.int .i64 0, .int .i64 0, .slice none 0 0, .int .i64 0] 32)).alloc (.cells #[.int .i64 at_, .int .i64 n, .slice (some ⟨w.heap.size + 2, 0, none⟩) 1 1, .int .i64 e] 32)).alloc (.cells #[.int .i64 s] 3)) := below_alloc (below_alloc (below_alloc (Below.refl _ _) _) _) _
  refine ⟨blk_below h.blk hb, pw_own_below h.own hb, blk_alloc (blk_alloc (blk_new w _) _) _, ?_, ?_, hb, h.lt⟩
  · have := blk_new (w.alloc (.cells #[.int .i64 0, .int .i64 0, .slice none 0 0, .int .i64 0] 32)) (.cells #[.int .i64 at_, .int .i64 n, .slice (some ⟨w.heap.size + 2, 0, none⟩) 1 1, .int .i64 e] 32)
    have := blk_alloc this (.cells #[.int .i64 s] 3)
    simpa using this
  · have := own_lit ((w.alloc (.cells #[.int .i64 0, .int .i64 0, .slice none 0 0, .int .i64 0] 32)).alloc (.cells #[.int .i64 at_, .int .i64 n, .slice (some ⟨w.heap.size + 2, 0, none⟩) 1 1, .int .i64 e] 32)) w.heap.size 3 .i64 [s] (by simp; omega) (by simp)
    rw [show ((w.alloc (.cells #[.int .i64 0, .int .i64 0, .slice none 0 0, .int .i64 0] 32)).alloc (.cells #[.int .i64 at_, .int .i64 n, .slice (some ⟨w.heap.size + 2, 0, none⟩) 1 1, .int .i64 e] 32)).heap.size = w.heap.size + 2 from by simp] at this
    exact Kd.R_of_own (enc := Value.int .i64) this (fun _ _ => trivial)
/-- a world on take's way, behind the store of what waits -/
structure TakeTwo (w : World) (B b : Nat) (v : Value) (l : List Int) (at_ atT n e : Int) (o : Value) (out : List Int) (W : World) : Prop where
  blk : W.heap[b]? = some (.cells #[v, .int .i64 at_] 26 (0, 0))
  own : W.ownsRow w.heap.size 5 1 v l.length (nums .u8 l)
  k8 : W.heap[w.heap.size]? = some (.cells #[.int .i64 0, .int .i64 0, .slice none 0 0, .int .i64 0] 32 (0, 0))
  k9 : W.heap[w.heap.size + 1]? = some (.cells #[.int .i64 atT, .int .i64 n, o, .int .i64 e] 32 (0, 0))
  row : (Kd.int .i64).R 3 W w.heap.size (fun _ => True) o out
  kept : Kept w W (fun k => k = b)
  os : W.os = w.os
  tape : W.tape = w.tape
  output : W.output = w.output
  lt : b < w.heap.size
namespace TakeTwo
variable {w W W2 : World} {B b : Nat} {v o : Value} {l out : List Int} {at_ n e atT : Int} {A : Option Addr} {c : Nat}
theorem c1 (h : TakeTwo w B b v l at_ atT n e o out W) : W.cell? ⟨b, 1, none⟩ = some (.int .i64 at_) := (blk_cell h.blk 1).trans rfl
theorem f1 (h : TakeTwo w B b v l at_ atT n e o out W) : W.frozen? ⟨b, 1, none⟩ = false := blk_frozen h.blk 1
end TakeTwo
theorem TakeTwo.all {w W : World} {B b : Nat} {v o : Value} {l out : List Int} {at_ n e atT : Int} (h : TakeTwo w B b v l at_ atT n e o out W) :
    W.cell? ⟨w.heap.size + 1, 0, none⟩ = some (.int .i64 atT) ∧ W.cell? ⟨w.heap.size + 1, 1, none⟩ = some (.int .i64 n) ∧ W.cell? ⟨w.heap.size + 1, 2, none⟩ = some o ∧ W.cell? ⟨w.heap.size + 1, 3, none⟩ = some (.int .i64 e) ∧
    W.frozen? ⟨w.heap.size, 0, none⟩ = false ∧ W.frozen? ⟨w.heap.size, 1, none⟩ = false ∧ W.frozen? ⟨w.heap.size, 2, none⟩ = false ∧ W.frozen? ⟨w.heap.size, 3, none⟩ = false ∧
    W.cell? ⟨w.heap.size, 0, none⟩ = some (.int .i64 0) ∧ W.cell? ⟨w.heap.size, 1, none⟩ = some (.int .i64 0) ∧ W.cell? ⟨w.heap.size, 2, none⟩ = some (.slice none 0 0) ∧ W.cell? ⟨w.heap.size, 3, none⟩ = some (.int .i64 0) :=
  ⟨(blk_cell h.k9 0).trans rfl, (blk_cell h.k9 1).trans rfl, (blk_cell h.k9 2).trans rfl, (blk_cell h.k9 3).trans rfl, blk_frozen h.k8 0, blk_frozen h.k8 1, blk_frozen h.k8 2, blk_frozen h.k8 3,
    (blk_cell h.k8 0).trans rfl, (blk_cell h.k8 1).trans rfl, (blk_cell h.k8 2).trans rfl, (blk_cell h.k8 3).trans rfl⟩
theorem wait_one {w W W2 : World} {B b : Nat} {v v4 o : Value} {l l4 out : List Int} {at_ n e : Int} (h : TakeMid w B b v l at_ n e o out W) (ho : W.ownsRow w.heap.size 5 1 v4 ([] ++ l4).length (encs (Value.int .u8) ([] ++ l4))) (hw : W2 = W.setCell ⟨b, 0, none⟩ v4) :
    TakeTwo w B b v4 l4 at_ at_ n e o out W2 := by
  subst hw
  have n8 : w.heap.size ≠ b := by have := h.lt; omega
  have n9 : w.heap.size + 1 ≠ b := by have := h.lt; omega
  exact ⟨blk_put h.blk 0 _ rfl, own_setCell ho (own_ne ho h.blk (by decide)) _, blk_far h.k8 n8 _, blk_far h.k9 n9 _, Kd.R_mono (Kd.R_far (p := ⟨b, 0, none⟩) (Kd.R_types h.row h.blk (by decide)) (fun _ hk => hk.2) _) (fun _ _ => trivial),
    (Kept.of_below h.below (fun k => k = b)).setCell (p := ⟨b, 0, none⟩) (.inl rfl) v4, h.below.os, h.below.tape, h.below.output, h.lt⟩
theorem wait_two {w W W2 : World} {B b : Nat} {v o : Value} {l out : List Int} {at_ atT x n e : Int} (h : TakeTwo w B b v l at_ atT n e o out W) (hw : W2 = W.setCell ⟨b, 1, none⟩ (.int .i64 x)) :
    TakeTwo w B b v l x atT n e o out W2 := by
  subst hw
  have n8 : w.heap.size ≠ b := by have := h.lt; omega
  have n9 : w.heap.size + 1 ≠ b := by have := h.lt; omega
  exact ⟨blk_put h.blk 1 _ rfl, own_setCell h.own (own_ne h.own h.blk (by decide)) _, blk_far h.k8 n8 _, blk_far h.k9 n9 _, Kd.R_mono (Kd.R_far (p := ⟨b, 1, none⟩) (Kd.R_types h.row h.blk (by decide)) (fun _ hk => hk.2) _) (fun _ _ => trivial),
    h.kept.setCell (p := ⟨b, 1, none⟩) (.inl rfl) _, h.os, h.tape, h.output, h.lt⟩
theorem take_end {w W : World} {B b : Nat} {A4 o : Value} {l out : List Int} {at_ s n e : Int} (h : TakeTwo w B b A4 (l.drop n.toNat) (wrap64 (at_ + n)) at_ n e o out W) (hB : B ≤ b) {x : Ending} (hx : x = .returned (.agg #[.int .i64 at_, .int .i64 n, o, .int .i64 e])) (ho : out = if e = 0 then [s] else []) (hBw : B ≤ w.heap.size) :
    TakeP w B b l at_ s n e x ((((W.setCell ⟨w.heap.size, 0, none⟩ (.int .i64 at_)).setCell ⟨w.heap.size, 1, none⟩ (.int .i64 n)).setCell ⟨w.heap.size, 2, none⟩ o).setCell ⟨w.heap.size, 3, none⟩ (.int .i64 e)) := by
  subst hx
  have far : ∀ (V : World) (i : Nat) (u : Value) (k : Nat), k ≠ w.heap.size → (V.setCell ⟨w.heap.size, i, none⟩ u).heap[k]? = V.heap[k]? := fun V i u k hk => Below.heap_setCell V ⟨w.heap.size, i, none⟩ u k hk
  have hb8 : b ≠ w.heap.size := by have := h.lt; omega
  have hk : ∀ k, k ≠ w.heap.size → ((((W.setCell ⟨w.heap.size, 0, none⟩ (.int .i64 at_)).setCell ⟨w.heap.size, 1, none⟩ (.int .i64 n)).setCell ⟨w.heap.size, 2, none⟩ o).setCell ⟨w.heap.size, 3, none⟩ (.int .i64 e)).heap[k]? = W.heap[k]? := fun k hk => by
    rw [far _ _ _ _ hk, far _ _ _ _ hk, far _ _ _ _ hk, far _ _ _ _ hk]
  have own1 : ∀ (V : World) (i : Nat) (u : Value) (cs : Array Value), V.heap[w.heap.size]? = some (.cells cs 32 (0, 0)) → V.ownsRow w.heap.size 5 1 A4 (l.drop n.toNat).length (nums .u8 (l.drop n.toNat)) →
      (V.setCell ⟨w.heap.size, i, none⟩ u).heap[w.heap.size]? = some (.cells (cs.setIfInBounds i u) 32 (0, 0)) ∧ (V.setCell ⟨w.heap.size, i, none⟩ u).ownsRow w.heap.size 5 1 A4 (l.drop n.toNat).length (nums .u8 (l.drop n.toNat)) :=
    fun V i u cs hb ho => ⟨blk_set hb i u, own_setCell ho (own_ne ho hb (by decide)) u⟩
  obtain ⟨a1, b1⟩ := own1 _ 0 (.int .i64 at_) _ h.k8 h.own
  obtain ⟨a2, b2⟩ := own1 _ 1 (.int .i64 n) _ a1 b1
  obtain ⟨a3, b3⟩ := own1 _ 2 o _ a2 b2
  obtain ⟨a4, b4⟩ := own1 _ 3 (.int .i64 e) _ a3 b3
  have kept : Kept w ((((W.setCell ⟨w.heap.size, 0, none⟩ (.int .i64 at_)).setCell ⟨w.heap.size, 1, none⟩ (.int .i64 n)).setCell ⟨w.heap.size, 2, none⟩ o).setCell ⟨w.heap.size, 3, none⟩ (.int .i64 e)) (fun k => k = b) :=
    (((h.kept.setCell (p := ⟨w.heap.size, 0, none⟩) (.inr (Nat.le_refl _)) _).setCell (p := ⟨w.heap.size, 1, none⟩) (.inr (Nat.le_refl _)) _).setCell (p := ⟨w.heap.size, 2, none⟩) (.inr (Nat.le_refl _)) _).setCell (p := ⟨w.heap.size, 3, none⟩) (.inr (Nat.le_refl _)) _
  refine ⟨[.int .i64 at_, .int .i64 n, o, .int .i64 e], A4, rfl, ?_, ⟨(hk b hb8).trans h.blk, own_weaken b4 hBw, hB⟩, kept, fun k hk => own_base b4 k hk, h.os, h.tape, h.output, kept.1, fun k hkb => kept.2 k (by omega) (by omega)⟩
  rw [← ho]
  have hr := Kd.R_types h.row h.k8 (by decide)
  exact k32_mkM _ _ _ ⟨at_, n, out, e⟩ (Kd.R_mono (Kd.R_step hr (fun k hk2 _ => hk k hk2.2)) (fun _ _ => trivial))
theorem take_calls (w : World) (B b : Nat) (v : Value) (l : List Int) (at_ s n e : Int) (h : Rdr w B b v l at_) (hn0 : 0 ≤ n) (hn1 : n ≤ l.length) (hB : B ≤ w.heap.size) (hl : l.length ≤ 140737488355328) :
    Calls Try.prog 31 #[.pointer (some ⟨b, 0, none⟩), .int .i64 s, .int .i64 n, .int .i64 e] w (TakeP w B b l at_ s n e) := by
  obtain ⟨A, c, rfl⟩ := h.form
  have hlt := h.lt
  have hBb := h.le
  have hlc : l.length ≤ c := own_le h.own
  have d1 : (w.alloc (.cells #[.int .i64 0, .int .i64 0, .slice none 0 0, .int .i64 0] 32)).cell? ⟨b, 1, none⟩ = some (.int .i64 at_) := (blk_cell (h.keep (below_alloc (Below.refl _ _) _)).blk 1).trans rfl
  obtain ⟨i08, hi08, _, hsz8, _⟩ := info_parts info5
  obtain ⟨A8, hcut8, hA8, hC8⟩ := print_drop_of (P := Try.prog) (Value.int .u8) 0 22 5 .i64 Try.underlying22 hi08 hsz8 A c l n hn0 hn1 hlc
  by_cases he : e = 0
  · subst he
    have HH : Hid (TakeMid w B b (.slice A l.length c) l at_ n 0 (.slice (some ⟨w.heap.size + 2, 0, none⟩) 1 1) [s] (((w.alloc (.cells #[.int .i64 0, .int .i64 0, .slice none 0 0, .int .i64 0] 32)).alloc (.cells #[.int .i64 at_, .int .i64 n, .slice (some ⟨w.heap.size + 2, 0, none⟩) 1 1, .int .i64 0] 32)).alloc (.cells #[.int .i64 s] 3))) := Lib.hid (mid_yes h)
    have d0 := HH.out.c0
    have hrd := HH.out.reads
    have hB3 := HH.out.below
    replace h := ()
    go_enter Try.func31, Try.ntmps31
    go_wp2_with (first
      | ((with_reducible refine gate_builtin (b := .append) (xs := #[.const (.slice none 0 0), .tmp 28]) rfl ?_); at_builtin; refine print_append_row_of (w0 := w) (Value.int .u8) 0 w.heap.size rfl (.const (.slice none 0 0)) (.tmp 28) 22 5 (.int .u8 0) 1 rfl Try.underlying22 info5 rfl (by omega) (fun _ => rfl) (.slice none 0 0) [] (l.drop n.toNat) A8 _ _ rfl rfl (own_nil _ _ _ _) ?aR ?aB ?aS ?aL ?_; (case aR => first | exact hA8 _ hrd | (have hq := hA8 _ hrd; rw [List.length_drop] at hq; exact hq)); (case aB => exact hB3); (case aS => exact hB3.size); (case aL => simp; omega); intro v4 w4 ho hb4 hg4 hat4; clear hb4; obtain ⟨A4, c4, rfl⟩ := own_slice ho; have HM := Lib.hid (take_mid HH.out hg4); have HO := Lib.hid ho; clear ho hg4 d0 hA8 hrd hB3 hat4 HH; have f0 := HM.out.f0; have e0 := HM.out.c0; have e1 := HM.out.c1)
      | ((with_reducible refine gate_store (t := 22) (p := 31) rfl ?_); refine store_event (t := 22) (p := 31) (v := ?vo) (w1 := w4.setCell ⟨b, 0, none⟩ (.slice A4 ([] ++ l.drop n.toNat).length c4)) ?hg ?ho ?hn ?hr ?_; (case ho => rfl); (case hg => rfl); (case hn => rfl); (case hr => first | (go_simp; done) | (go_simp; rfl)); intro w5 hw5; have HN := Lib.hid (wait_one HM.out HO.out hw5); clear hw5 HM HO f0 e0 e1; have d1 := HN.out.c1; have f1 := HN.out.f1)
      | ((with_reducible refine gate_store (t := 3) (p := 39) rfl ?_); refine store_event (t := 3) (p := 39) (v := ?vo2) (w1 := w5.setCell ⟨b, 1, none⟩ (.int .i64 (wrap64 (at_ + n)))) ?hg ?ho ?hn ?hr ?_; (case ho => rfl); (case hg => rfl); (case hn => rfl); (case hr => first | (go_simp; done) | (go_simp; rfl)); intro w6 hw6; have HP := Lib.hid (wait_two HN.out hw6); clear hw6 HN f1 d1; obtain ⟨g0, g1, g2, g3, i0, i1, i2, i3, j0, j1, j2, j3⟩ := HP.out.all))
    try simp only [Exit.inBlock, Exit.then]
    refine bodyPost_ret (v := .agg #[.int .i64 at_, .int .i64 n, .slice (some ⟨w.heap.size + 2, 0, none⟩) 1 1, .int .i64 0]) ?_ rfl ?_
    · clear HP
      simp only [results, show Try.f31.results = #[ResultVar.cell 8 32] from rfl]
      go_simp
    exact take_end HP.out hBb rfl (by simp) hB
  · have he2 : (e == 0) = false := beq_eq_false_iff_ne.mpr he
    have HH : Hid (TakeMid w B b (.slice A l.length c) l at_ n e (.slice none 0 0) [] ((w.alloc (.cells #[.int .i64 0, .int .i64 0, .slice none 0 0, .int .i64 0] 32)).alloc (.cells #[.int .i64 at_, .int .i64 n, .slice none 0 0, .int .i64 e] 32))) := Lib.hid (mid_no h)
    have d0 := HH.out.c0
    have hrd := HH.out.reads
    have hB3 := HH.out.below
    replace h := ()
    go_enter Try.func31, Try.ntmps31
    go_wp2_with (first
      | ((with_reducible refine gate_builtin (b := .append) (xs := #[.const (.slice none 0 0), .tmp 28]) rfl ?_); at_builtin; refine print_append_row_of (w0 := w) (Value.int .u8) 0 w.heap.size rfl (.const (.slice none 0 0)) (.tmp 28) 22 5 (.int .u8 0) 1 rfl Try.underlying22 info5 rfl (by omega) (fun _ => rfl) (.slice none 0 0) [] (l.drop n.toNat) A8 _ _ rfl rfl (own_nil _ _ _ _) ?aR ?aB ?aS ?aL ?_; (case aR => first | exact hA8 _ hrd | (have hq := hA8 _ hrd; rw [List.length_drop] at hq; exact hq)); (case aB => exact hB3); (case aS => exact hB3.size); (case aL => simp; omega); intro v4 w4 ho hb4 hg4 hat4; clear hb4; obtain ⟨A4, c4, rfl⟩ := own_slice ho; have HM := Lib.hid (take_mid HH.out hg4); have HO := Lib.hid ho; clear ho hg4 d0 hA8 hrd hB3 hat4 HH; have f0 := HM.out.f0; have e0 := HM.out.c0; have e1 := HM.out.c1)
      | ((with_reducible refine gate_store (t := 22) (p := 31) rfl ?_); refine store_event (t := 22) (p := 31) (v := ?vo) (w1 := w4.setCell ⟨b, 0, none⟩ (.slice A4 ([] ++ l.drop n.toNat).length c4)) ?hg ?ho ?hn ?hr ?_; (case ho => rfl); (case hg => rfl); (case hn => rfl); (case hr => first | (go_simp; done) | (go_simp; rfl)); intro w5 hw5; have HN := Lib.hid (wait_one HM.out HO.out hw5); clear hw5 HM HO f0 e0 e1; have d1 := HN.out.c1; have f1 := HN.out.f1)
      | ((with_reducible refine gate_store (t := 3) (p := 39) rfl ?_); refine store_event (t := 3) (p := 39) (v := ?vo2) (w1 := w5.setCell ⟨b, 1, none⟩ (.int .i64 (wrap64 (at_ + n)))) ?hg ?ho ?hn ?hr ?_; (case ho => rfl); (case hg => rfl); (case hn => rfl); (case hr => first | (go_simp; done) | (go_simp; rfl)); intro w6 hw6; have HP := Lib.hid (wait_two HN.out hw6); clear hw6 HN f1 d1; obtain ⟨g0, g1, g2, g3, i0, i1, i2, i3, j0, j1, j2, j3⟩ := HP.out.all))
    try simp only [Exit.inBlock, Exit.then]
    refine bodyPost_ret (v := .agg #[.int .i64 at_, .int .i64 n, .slice none 0 0, .int .i64 e]) ?_ rfl ?_
    · clear HP
      simp only [results, show Try.f31.results = #[ResultVar.cell 8 32] from rfl]
      go_simp
    exact take_end HP.out hBb rfl (by simp [he]) hB
end Go.Proofs.Ytdhpldiahgajcaa.PUtfAll
