/- The walk of layer 2's Cut: parts of bytes, one behind another. No condition beyond the ranges. -/
import Derived.Test.YtdhpldiahgajcaaK9
import Derived.Test.YtdhpldiahgajcaaK16
namespace Go.Proofs.Ytdhpldiahgajcaa.PUtfAll
open Go.RowKit Go.Proofs.YtdhpldiahgajcaaW.PrintWords Go.Proofs.YtdhpldiahgajcaaW.PrintLast Go.Proofs.YtdhpldiahgajcaaW.PrintMore Go.Proofs.Ytdhpldiahgajcaa
attribute [local go_sem] min2_int min_two
set_option linter.unusedVariables false
set_option linter.unusedSimpArgs false
/-- a slice as a value -/
structure Sl where
  A : Option Addr
  n : Nat
  c : Nat
def encL (p : Sl) : Value := .slice p.A p.n p.c
def kL : Kd Sl := Kd.scalar encL (fun _ => rfl)
theorem info22 : (Try.prog.info? 22).map (fun i => (i.zero, i.size, i.bytes)) = some (some (.slice none 0 0), 1, 24) := by kernel_rfl
/-- the slice p is the bytes l -/
def View (w : World) (p : Sl) (l : List Int) : Prop := p.n = l.length ∧ Kd.C (Kd.int .u8) w p.A l.length l
/-- slices that are texts, one by one -/
def Views (w : World) : List Sl → List (List Int) → Prop
  | [], [] => True
  | p :: ps, l :: ls => View w p l ∧ Views w ps ls
  | _, _ => False
theorem Views.snoc {w : World} : ∀ {ps : List Sl} {ls : List (List Int)} {p : Sl} {l : List Int}, Views w ps ls → View w p l → Views w (ps ++ [p]) (ls ++ [l])
  | [], [], _, _, _, h => ⟨h, trivial⟩
  | p :: ps, l :: ls, _, _, h, h2 => ⟨h.1, Views.snoc h.2 h2⟩
  | [], l :: ls, _, _, h, _ => h.elim
  | p :: ps, [], _, _, h, _ => h.elim
theorem Views.len {w : World} : ∀ {ps : List Sl} {ls : List (List Int)}, Views w ps ls → ps.length = ls.length
  | [], [], _ => rfl
  | p :: ps, l :: ls, h => by rw [List.length_cons, List.length_cons, Views.len h.2]
  | [], l :: ls, h => h.elim
  | p :: ps, [], h => h.elim
theorem Views.at {w : World} : ∀ {ps : List Sl} {ls : List (List Int)}, Views w ps ls → ∀ (k : Nat), k < ps.length → ∃ l, (ls.drop k) = l :: ls.drop (k + 1) ∧ View w (ps.getD k ⟨none, 0, 0⟩) l
  | [], [], _, k, h => by simp at h
  | p :: ps, l :: ls, h, 0, _ => ⟨l, rfl, h.1⟩
  | p :: ps, l :: ls, h, k + 1, hk => by
    obtain ⟨x, e, hv⟩ := Views.at h.2 k (by simpa using hk)
    exact ⟨x, e, hv⟩
  | [], l :: ls, h, _, _ => h.elim
  | p :: ps, [], h, _, _ => h.elim
structure CutNow (W0 w w' : World) (l : List Int) (u : Value) (Ar : Option Addr) (cr : Nat) (lr : List Int) (ps : List Sl) (ls : List (List Int)) (k kq n : Nat) : Prop where
  sum : k + kq = n
  row : kL.R 22 w' w.heap.size (fun _ => True) u ps
  views : Views W0 ps ls
  len : ps.length = k
  rest : Kd.C (Kd.int .u8) W0 Ar lr.length lr
  cap : lr.length ≤ cr
  all : ls.flatten ++ lr = l
  below : Below w.heap.size w w'
theorem CutNow.next {W0 w w' w2 : World} {l : List Int} {u u2 : Value} {Ar A2 : Option Addr} {cr c2 : Nat} {lr l1 l2 : List Int} {ps : List Sl} {ls : List (List Int)} {k kq n : Nat} (h : CutNow W0 w w' l u Ar cr lr ps ls k (kq + 1) n)
    (h1 : lr = l1 ++ l2) (hC1 : Kd.C (Kd.int .u8) W0 Ar l1.length l1) (hC2 : Kd.C (Kd.int .u8) W0 A2 l2.length l2) (hc2 : l2.length ≤ c2) (hr : kL.R 22 w2 w.heap.size (fun _ => True) u2 (ps ++ [⟨Ar, l1.length, cr⟩])) (hb : Below w.heap.size w w2) :
    CutNow W0 w w2 l u2 A2 c2 l2 (ps ++ [⟨Ar, l1.length, cr⟩]) (ls ++ [l1]) (k + 1) kq n :=
  ⟨by have := h.sum; omega, hr, h.views.snoc ⟨rfl, hC1⟩, by rw [List.length_append, h.len]; rfl, hC2, hc2, by rw [← h.all, h1]; simp, hb⟩
theorem rem16 {c : Int} (h0 : 0 ≤ c) (h1 : c < 256) : ∃ m : Nat, m < 16 ∧ Int.tmod c 16 = (m : Int) := by
  have h2 : Int.tmod c 16 = c % 16 := Int.tmod_eq_emod_of_nonneg h0
  exact ⟨(c % 16).toNat, by omega, by omega⟩
theorem cut_two (A : Option Addr) (cap : Nat) (l : List Int) (h : Nat) (hl : h ≤ l.length) (hc : l.length ≤ cap) {W : World} (hC : Kd.C (Kd.int .u8) W A l.length l) :
    ∃ (l1 l2 : List Int) (A2 : Option Addr) (c2 : Nat), l = l1 ++ l2 ∧ (∀ W : World, (Instr.slice 22 (.slice A l.length cap) none (some (.int .i64 (h : Int))) none).run Try.prog W = .ok (.slice A l1.length cap) W) ∧
      (∀ W : World, (Instr.slice 22 (.slice A l.length cap) (some (.int .i64 (h : Int))) none none).run Try.prog W = .ok (.slice A2 l2.length c2) W) ∧ Kd.C (Kd.int .u8) W A l1.length l1 ∧ Kd.C (Kd.int .u8) W A2 l2.length l2 ∧ l2.length ≤ c2 := by
  obtain ⟨i08, hi08, _, hsz8, _⟩ := info_parts info5
  obtain ⟨h1, h2, h3⟩ := print_take_of (P := Try.prog) (Value.int .u8) 0 22 5 .i64 Try.underlying22 hi08 hsz8 A cap l (h : Int) (by omega) (by omega) hc
  obtain ⟨A2, g1, g2, g3⟩ := print_drop_of (P := Try.prog) (Value.int .u8) 0 22 5 .i64 Try.underlying22 hi08 hsz8 A cap l (h : Int) (by omega) (by omega) hc
  rw [Int.toNat_natCast] at h1 h2 h3 g1 g2 g3
  have hr := Kd.reads_of_C (d := (0 : Int)) hC
  exact ⟨l.take h, l.drop h, A2, cap - h, (List.take_append_drop h l).symm, h1, g1, Kd.C_of_reads (h1 := fun _ => rfl) (h2 _ hr), Kd.C_of_reads (h1 := fun _ => rfl) (g2 _ hr), g3⟩
/-- what Cut leaves -/
def CutP (W0 w : World) (l : List Int) (n : Nat) (x : Ending) (w' : World) : Prop :=
  ∃ (u : Value) (ps : List Sl) (ls : List (List Int)), x = .returned u ∧ kL.R 22 w' w.heap.size (fun _ => True) u ps ∧ Views W0 ps ls ∧ ls.flatten = l ∧ ps.length = n + 1 ∧ Below w.heap.size w w'
set_option maxHeartbeats 1000000 in
theorem Cut_calls (W0 w : World) (A : Option Addr) (cap : Nat) (l : List Int) (A1 : Option Addr) (cap1 : Nat) (cs : List Int) (hC : Kd.C (Kd.int .u8) W0 A l.length l) (hcap : l.length ≤ cap) (hB : Below W0.heap.size W0 w) (hC1 : Kd.C (Kd.int .u8) w A1 cs.length cs) (hy : Bytes cs) (hn : cs.length ≤ 1048576) :
    Calls Try.prog 30 #[.slice A l.length cap, .slice A1 cs.length cap1] w (CutP W0 w l cs.length) := by
  have HC1 := Lib.hid hC1
  have HY := Lib.hid hy
  have N := Lib.hid (show CutNow W0 w w l (.slice none 0 0) A cap l [] [] 0 cs.length cs.length from ⟨by omega, Kd.R_nil _ _ _ _ _, trivial, rfl, hC, hcap, rfl, Below.refl _ _⟩)
  clear hC1 hy hC hcap hB
  go_enter Try.func30, Try.ntmps30
  go_wp2
  go_loopg [0, 5, 11] cs.length (fun kq v0 v5 v11 w' => ∃ (k : Nat) (Ar : Option Addr) (cr : Nat) (lr : List Int) (ps : List Sl) (ls : List (List Int)), v0 = .slice Ar lr.length cr ∧ v11 = .int .i64 k ∧ Hid (CutNow W0 w w' l v5 Ar cr lr ps ls k kq cs.length))
  case atStart => exact ⟨0, A, cap, l, [], [], rfl, rfl, N⟩
  case round =>
    clear N
    obtain ⟨k, Ar, cr, lr, ps, ls, rfl, rfl, N⟩ := hrel
    cases gk with
    | zero =>
      obtain rfl : k = cs.length := by have := N.out.sum; omega
      have hx : Hid ((ps.length + 1) * 24 ≤ 140737488355328) := Lib.hid (by have := N.out.len; omega)
      go_wp2_with (first
        | ((with_reducible refine gate_builtin (b := .append) (xs := #[.tmp 31, .tmp 33]) rfl ?_); at_builtin; refine Kd.R_append kL (w0 := w) w.heap.size rfl (.tmp 31) (.tmp 33) 40 22 (.slice none 0 0) 24 rfl Try.underlying40 info22 rfl (by decide) (by omega) u5 ps ⟨Ar, lr.length, cr⟩ [.slice Ar lr.length cr] (fun _ => True) (fun _ => False) rfl rfl rfl (fun _ hf => hf.elim) (fun _ _ => trivial) N.out.row N.out.below N.out.below.size hx.out ?_; intro v6 w6 ho hb hg hat; have HO := Lib.hid ho; have HB6 := Lib.hid hb; clear ho hb hg hat))
      go_ret
      exact ⟨_, _, ls ++ [lr], rfl, HO.out, N.out.views.snoc ⟨rfl, N.out.rest⟩, by rw [← N.out.all]; simp, by rw [List.length_append, N.out.len]; rfl, HB6.out⟩
    | succ kq =>
      have hkl : k < cs.length := by have := N.out.sum; omega
      have hkI : (k : Int) < (cs.length : Int) := by omega
      obtain ⟨ad, rfl, hc⟩ := Kd.at_int (Kd.C_below HC1.out N.out.below) k (by omega) hkI
      rw [Int.toNat_natCast] at hc
      have hcb := HY.out.at k
      have hrd : rd cs (k : Int) = cs.getD k 0 := rfl
      rw [hrd] at hc
      generalize cs.getD k 0 = c at *
      obtain ⟨m, hm, hm2⟩ := rem16 hcb.1 hcb.2
      have hx : Hid ((ps.length + 1) * 24 ≤ 140737488355328) := Lib.hid (by have := N.out.len; omega)
      have hwk : wrap64 ((k : Int) + 1) = ((k + 1 : Nat) : Int) := by rw [w64 (by omega) (by omega)]; rfl
      clear hcb hrd
      by_cases hlt : (lr.length : Int) < (m : Int)
      · obtain ⟨l1, l2, A2, c2, e1, hcut1, hcut2, hCl1, hCl2, hc2⟩ := cut_two Ar cr lr lr.length (Nat.le_refl _) N.out.cap N.out.rest
        have H12 := Lib.hid (And.intro e1 (And.intro hCl1 (And.intro hCl2 hc2)))
        clear e1 hCl1 hCl2 hc2
        go_wp2_with (first
          | ((with_reducible refine gate_builtin (b := .append) (xs := #[.tmp 21, .tmp 25]) rfl ?_); at_builtin; refine Kd.R_append kL (w0 := w) w.heap.size rfl (.tmp 21) (.tmp 25) 40 22 (.slice none 0 0) 24 rfl Try.underlying40 info22 rfl (by decide) (by omega) u5 ps ⟨Ar, l1.length, cr⟩ [.slice Ar l1.length cr] (fun _ => True) (fun _ => False) rfl rfl rfl (fun _ hf => hf.elim) (fun _ _ => trivial) N.out.row N.out.below N.out.below.size hx.out ?_; intro v6 w6 ho hb hg hat; have N2 := Lib.hid (N.out.next H12.out.1 H12.out.2.1 H12.out.2.2.1 H12.out.2.2.2 ho hb); clear ho hb hg hat))
        go_roundg kq
        case measure => exact Nat.lt_succ_self _
        case rel => exact ⟨k + 1, _, _, _, _, _, rfl, congrArg (Value.int .i64) (by first | exact hwk | rfl), N2⟩
      · obtain ⟨l1, l2, A2, c2, e1, hcut1, hcut2, hCl1, hCl2, hc2⟩ := cut_two Ar cr lr m (by omega) N.out.cap N.out.rest
        have H12 := Lib.hid (And.intro e1 (And.intro hCl1 (And.intro hCl2 hc2)))
        clear e1 hCl1 hCl2 hc2
        go_wp2_with (first
          | ((with_reducible refine gate_builtin (b := .append) (xs := #[.tmp 21, .tmp 25]) rfl ?_); at_builtin; refine Kd.R_append kL (w0 := w) w.heap.size rfl (.tmp 21) (.tmp 25) 40 22 (.slice none 0 0) 24 rfl Try.underlying40 info22 rfl (by decide) (by omega) u5 ps ⟨Ar, l1.length, cr⟩ [.slice Ar l1.length cr] (fun _ => True) (fun _ => False) rfl rfl rfl (fun _ hf => hf.elim) (fun _ _ => trivial) N.out.row N.out.below N.out.below.size hx.out ?_; intro v6 w6 ho hb hg hat; have N2 := Lib.hid (N.out.next H12.out.1 H12.out.2.1 H12.out.2.2.1 H12.out.2.2.2 ho hb); clear ho hb hg hat))
        go_roundg kq
        case measure => exact Nat.lt_succ_self _
        case rel => exact ⟨k + 1, _, _, _, _, _, rfl, congrArg (Value.int .i64) (by first | exact hwk | rfl), N2⟩
end Go.Proofs.Ytdhpldiahgajcaa.PUtfAll
