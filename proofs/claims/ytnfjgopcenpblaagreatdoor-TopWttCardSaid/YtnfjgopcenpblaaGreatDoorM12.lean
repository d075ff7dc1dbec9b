/- Texts of this claim, one behind the other (merged by a program): TU6, TU7, TU8, TV0, TV1, TV2, TV3. No condition of their own. -/
import Derived.Test.YtnfjgopcenpblaaGreatDoorM11
/- The walk of the stream's All. No condition beyond the ranges. -/
namespace Go.Proofs.YtnfjgopcenpblaaGreatDoor.T
open Go.RowKit Go.Proofs.YtnfjgopcenpblaaGreatDoorW.PrintWords Go.Proofs.YtnfjgopcenpblaaGreatDoorW.PrintLast Go.Proofs.YtnfjgopcenpblaaGreatDoorW.PrintMore Go.Proofs.YtnfjgopcenpblaaGreatDoor
set_option linter.unusedVariables false
set_option linter.unusedSimpArgs false
section
variable {R : Mach T10 19} {M : Mach T20 29} {w W : World} {f : Nat → Nat} {b : Nat} {c0 c1 vr vw b1 b2 : Value} {a : ASt R M}
theorem AS.cells (h : AS w f b c0 c1 vr vw b1 b2 a W) : W.cell? ⟨b, 3, none⟩ = some vr ∧ W.cell? ⟨b, 4, none⟩ = some vw ∧ W.cell? ⟨b, 6, none⟩ = some (.int .i64 a.q.st.1) ∧ W.cell? ⟨b, 7, none⟩ = some (.int .i64 a.q.st.2.1) ∧ W.cell? ⟨b, 8, none⟩ = some (.int .i64 a.q.st.2.2) := by
  obtain ⟨f1, vo, E, S, RM, RR⟩ := h
  obtain ⟨-, h3, h4, -, h6, h7, h8⟩ := S.cells
  exact ⟨h3, h4, h6, h7, h8⟩
theorem AEnd.cells {q : SSt M.σ} (h : AEnd w f b c0 c1 vr vw b1 b2 q W) : W.cell? ⟨b, 6, none⟩ = some (.int .i64 q.st.1) ∧ W.cell? ⟨b, 7, none⟩ = some (.int .i64 q.st.2.1) ∧ W.cell? ⟨b, 8, none⟩ = some (.int .i64 q.st.2.2) := by
  obtain ⟨f1, E, S⟩ := h
  obtain ⟨-, -, -, h6, h7, h8⟩ := S.cells
  exact ⟨h6, h7, h8⟩
theorem AS.old {k : Nat} (h : AS w f b c0 c1 vr vw b1 b2 a W) (hk : k < w.heap.size) (hf : ¬ T12 (f k)) : W.heap[k]? = w.heap[k]? := by
  obtain ⟨f1, vo, E, S, RM, RR⟩ := h
  exact E.keep k hk hf
/-- the row and the stop at an end; the answer's block is new too -/
structure ALast (w W : World) (g : Nat) (b : Nat) (vo : Value) (q : List Int × Stp) : Prop where
  bel : Below w.heap.size w W
  out : W.ownsRow 0 5 1 vo q.1.length (nums .u8 q.1)
  new : ∀ k, vo.ownBlock = some k → w.heap.size ≤ k
  c5 : W.cell? ⟨b, 5, none⟩ = some vo
  c6 : W.cell? ⟨b, 6, none⟩ = some (.int .i64 q.2.1)
  c7 : W.cell? ⟨b, 7, none⟩ = some (.int .i64 q.2.2.1)
  c8 : W.cell? ⟨b, 8, none⟩ = some (.int .i64 q.2.2.2)
  gg : W.heap[g]? = some (.cells #[.int .i64 0, .int .i64 0, .int .i64 0] 30 (0, 0))
  ge : w.heap.size ≤ g
def fAll (w : World) : Nat → Nat := newF (fun _ => 0) w.heap.size 32
theorem a_last {q : SSt M.σ} (h : AEnd (w.alloc (.cells #[.int .i64 0, .int .i64 0, .int .i64 0] 30)) (fAll w) b c0 c1 vr vw b1 b2 q W) : ∃ vo, ALast w W w.heap.size b vo (q.out, q.st) := by
  obtain ⟨f1, E, f2, vo, E2, S, _⟩ := h
  have hb : Below w.heap.size w (w.alloc (.cells #[.int .i64 0, .int .i64 0, .int .i64 0] 30)) := below_alloc (Below.refl _ _) _
  have hs : (w.alloc (.cells #[.int .i64 0, .int .i64 0, .int .i64 0] 30)).heap.size = w.heap.size + 1 := by simp
  have E3 := E.trans (E2.mono (T' := T12) (by rintro z h; unfold T23 at h; unfold T12; omega))
  obtain ⟨-, h3, h4, h5, h6, h7, h8⟩ := S.cells
  refine ⟨vo, ⟨⟨E3.os.trans hb.os, E3.tape.trans hb.tape, E3.output.trans hb.output, by have := E3.size; omega, fun k hk => (E3.keep k (by omega) (by unfold fAll; rw [newF_old hk]; unfold T12; omega)).trans (hb.block k hk)⟩, S.out, fun k hk => ?_, h5, h6, h7, h8, (E3.keep _ (by omega) (by unfold fAll; rw [newF_new (Nat.le_refl _)]; unfold T12; omega)).trans (blk_new w _), Nat.le_refl _⟩⟩
  rcases Nat.lt_or_ge k w.heap.size with hl | hl
  · have h1 := S.tag k hk
    have h2 := E3.tag k (by omega)
    unfold fAll at h2
    rw [newF_old hl] at h2
    omega
  · exact hl
theorem ALast.step {g : Nat} {vo : Value} {q : List Int × Stp} {W2 : World} (h : ALast w W g b vo q) (hb : Below W.heap.size W W2) : ALast w W2 g b vo q :=
  ⟨below_step h.bel hb, own_move h.out (fun k hk => hb.block k (own_lt h.out k hk)), h.new, cell_b h.c5 hb, cell_b h.c6 hb, cell_b h.c7 hb, cell_b h.c8 hb, blk_below h.gg hb, h.ge⟩
/-- the answer: the row, and what the stop is -/
def AllP (w : World) (q : List Int × Stp) (e : Ending) (W : World) : Prop := ∃ vo, e = .returned (.tuple #[vo, .agg #[.int .i64 q.2.1, .int .i64 q.2.2.1, .int .i64 q.2.2.2], .int .i64 0]) ∧ Below w.heap.size w W ∧ (Kd.int .u8).R 5 W 0 (fun k => w.heap.size ≤ k) vo q.1
theorem ALast.fin {g : Nat} {vo : Value} {q : List Int × Stp} (h : ALast w W g b vo q) (x y z : Value) : Below w.heap.size w (((W.setCell ⟨g, 0, none⟩ x).setCell ⟨g, 1, none⟩ y).setCell ⟨g, 2, none⟩ z) ∧ (Kd.int .u8).R 5 (((W.setCell ⟨g, 0, none⟩ x).setCell ⟨g, 1, none⟩ y).setCell ⟨g, 2, none⟩ z) 0 (fun k => w.heap.size ≤ k) vo q.1 := by
  have k0 := blk_put h.gg 0 x rfl
  have k1 := blk_put k0 1 y rfl
  have R0 : (Kd.int .u8).R 5 W 0 (fun k => w.heap.size ≤ k) vo q.1 := Kd.R_of_own (enc := Value.int .u8) h.out h.new
  exact ⟨below_set (below_set (below_set h.bel h.ge) h.ge) h.ge, Kd.R_set (Kd.R_set (Kd.R_set R0 h.gg (by decide) _ _) k0 (by decide) _ _) k1 (by decide) _ _⟩
end
end Go.Proofs.YtnfjgopcenpblaaGreatDoor.T

/- The walk of the stream's All. No condition beyond the ranges. -/
namespace Go.Proofs.YtnfjgopcenpblaaGreatDoor.T
open Go.RowKit Go.Proofs.YtnfjgopcenpblaaGreatDoorW.PrintWords Go.Proofs.YtnfjgopcenpblaaGreatDoorW.PrintLast Go.Proofs.YtnfjgopcenpblaaGreatDoorW.PrintMore Go.Proofs.YtnfjgopcenpblaaGreatDoor
set_option linter.unusedVariables false
set_option linter.unusedSimpArgs false
section
variable {R : Mach T10 19} {M : Mach T20 29}
theorem obtain_below {w W : World} {b : Nat} {c0 c1 vr vw b1 b2 : Value} {a : ASt R M} (h : AS (w.alloc (.cells #[.int .i64 0, .int .i64 0, .int .i64 0] 30)) (fAll w) b c0 c1 vr vw b1 b2 a W) : Below w.heap.size w W := by
  obtain ⟨vo, q⟩ := a_last (as_end h)
  exact q.bel
set_option maxRecDepth 100000 in
set_option maxHeartbeats 1000000 in
theorem All_calls (w : World) (n1 n2 : ByteArray) (r0 : R.σ) (m0 : M.σ) (hn1 : NameS n1) (hn2 : NameS n2) (hd : DecS R n1 r0) (he : EncS M n2 m0) (A : Option Addr) (c : Nat) (bs : List Int) (hC : (Kd.int .u8).C w A bs.length bs) (hB : Bytes bs) (hl : bs.length ≤ 1000000)
    (z : SSt M.σ) (hz : allF (⟨r0, ⟨[], (0, 0, 0), m0⟩⟩ : ASt R M) bs = z) (hk : okAll (⟨r0, ⟨[], (0, 0, 0), m0⟩⟩ : ASt R M) bs) :
    Calls Tryz.prog 8 #[.string n1, .string n2, .int .i64 0, .slice A bs.length c] w (AllP w (z.out, z.st)) := by
  have N := Lib.hid (show AlN bs z (bs.length + 1) 0 (⟨r0, ⟨[], (0, 0, 0), m0⟩⟩ : ASt R M) from ⟨Nat.zero_le _, rfl, hz, hk⟩)
  clear hz hk
  have HO := Lib.hid (Open_calls (w.alloc (.cells #[.int .i64 0, .int .i64 0, .int .i64 0] 30)) (fAll w) n1 n2 r0 m0 hn1 hn2 hd he)
  have hb1 : Below w.heap.size w (w.alloc (.cells #[.int .i64 0, .int .i64 0, .int .i64 0] 30)) := below_alloc (Below.refl _ _) _
  have hs1 : (w.alloc (.cells #[.int .i64 0, .int .i64 0, .int .i64 0] 30)).heap.size = w.heap.size + 1 := by simp
  have HBW := fun (W : World) (b : Nat) (vr vw : Value) (a : ASt R M) (P : AS (w.alloc (.cells #[.int .i64 0, .int .i64 0, .int .i64 0] 30)) (fAll w) b (.string n1) (.string n2) vr vw (.bool false) (.bool false) a W) => (obtain_below P : Below w.heap.size w W)
  replace hC := Lib.hid hC
  replace hB := Lib.hid hB
  replace hl := Lib.hid hl
  replace HBW := Lib.hid HBW
  clear hn1 hn2 hd he hb1 hs1
  go_enter Tryz.func8, Tryz.ntmps8
  go_wp2_with (first
    | (go_at_call 15; refine HO.out.mono ?_; rintro e w2 ⟨b, vr, vw, f2, rfl, E2, S2, R2, M2⟩; have P := Lib.hid (show AS (w.alloc (.cells #[.int .i64 0, .int .i64 0, .int .i64 0] 30)) (fAll w) b (.string n1) (.string n2) vr vw (.bool false) (.bool false) (⟨r0, ⟨[], (0, 0, 0), m0⟩⟩ : ASt R M) w2 from ⟨f2, _, E2.mono (by rintro z h; unfold T12; omega), S2, M2, R2⟩); clear E2 S2 R2 M2 HO))
  have HL := Lib.hid (fun (W : World) (q : SSt M.σ) (h : AEnd (w.alloc (.cells #[.int .i64 0, .int .i64 0, .int .i64 0] 30)) (fAll w) b (.string n1) (.string n2) vr vw (.bool false) (.bool false) q W) => a_last h)
  generalize hwA : (w.alloc (.cells #[.int .i64 0, .int .i64 0, .int .i64 0] 30)) = wA at *
  replace hwA := ()
  go_loopg [28] (bs.length + 1) (fun kq v w' => ∃ (i : Nat) (a : ASt R M), v = .int .i64 i ∧ Hid (AS wA (fAll w) b (.string n1) (.string n2) vr vw (.bool false) (.bool false) a w') ∧ Hid (AlN bs z kq i a))
  case atStart => exact ⟨0, _, rfl, P, N⟩
  case round =>
    clear P N
    obtain ⟨i, a, rfl, P, N⟩ := hrel
    have i1 := N.out.fuel
    obtain ⟨m3, m4, m6, m7, m8⟩ := P.out.cells
    cases gk with
    | zero => exact absurd i1 (by have := N.out.le; omega)
    | succ gk =>
      by_cases hi : i < bs.length
      · have di := lt_dec hi
        have p0 := nat_tr i
        have p1 := lt_tr hi
        have hC2 := Kd.C_below hC.out (HBW.out _ _ _ _ _ P.out)
        have hrd := Kd.reads_of_C (d := (0 : Int)) (enc := Value.int .u8) (h1 := fun _ => rfl) hC2
        obtain ⟨ad, rfl, hc⟩ := hrd.2.2 (by omega)
        have hx := hc i hi
        have hg : bs.getD i 0 = bs[i] := by rw [List.getD_eq_getElem?_getD, List.getElem?_eq_getElem hi]; rfl
        have hJ := N.out.next hi rfl
        have hu8 := hB.out _ (List.getElem_mem hi)
        rw [hg] at hx
        clear hc hg hrd hC2 N
        generalize bs[i] = u at *
        have hw0 : wrap64 u = u := by unfold wrap64; omega
        obtain ⟨⟨hk1, hk2, hk3⟩, hJ1, hJ2⟩ := hJ
        have HI := Lib.hid (as_put P.out u hk1)
        have HT := fun v W (h : ASP wA (fAll w) b (.string n1) (.string n2) vr vw (.bool false) (.bool false) a.q (R.put a.r u).2 v (R.put a.r u).1 W) => as_taken h hk3 hk2
        change ∀ v W, ASP wA (fAll w) b (.string n1) (.string n2) vr vw (.bool false) (.bool false) a.q (R.put a.r u).2 v (R.put a.r u).1 W → Calls Tryz.prog 16 #[.pointer (some ⟨b, 0, none⟩), v] W (fun e W2 => e = .returned (.tuple #[]) ∧ AS wA (fAll w) b (.string n1) (.string n2) vr vw (.bool false) (.bool false) (rd1 a u) W2) at HT
        generalize rd1 a u = a2 at *
        replace HT := Lib.hid HT
        clear hk1 hk2 hk3
        obtain ⟨r2, ⟨out2, ⟨s0, s1, s2⟩, mm2⟩⟩ := a2
        dsimp only at hJ1 hJ2
        by_cases h0 : s2 = 0
        · subst h0
          have JN := Lib.hid (hJ1 rfl)
          clear hJ1 hJ2
          go_wp2_with (first
            | ((with_reducible refine gate_invoke (name := "Put") rfl ?_); refine goesV_ (args := #[.int .i64 u]) (v := vr) (some 39) rfl rfl rfl rfl (by kernel_rfl) HI.out ?_; rintro e w6 ⟨v6, rfl, P6⟩; refine ⟨_, rfl, ?_⟩; replace P6 := Lib.hid P6; clear HI hx m3 m4 m6 m7 m8)
            | (go_at_call 16; refine (HT.out v6 w6 P6.out).mono ?_; rintro e w7 ⟨rfl, P7⟩; obtain ⟨-, -, -, -, n8⟩ := P7.cells; replace P7 := Lib.hid P7))
          go_roundg gk
          case measure => omega
          case rel => exact ⟨i + 1, _, congrArg (Value.int .i64) (wrap_nat (by have := hl.out; omega)), P7, JN⟩
        · have d0 : (s2 == 0) = false := beq_eq_false_iff_ne.mpr h0
          have hz := hJ2 h0
          subst hz
          clear hJ1 hJ2
          go_wp2_with (first
            | ((with_reducible refine gate_invoke (name := "Put") rfl ?_); refine goesV_ (args := #[.int .i64 u]) (v := vr) (some 39) rfl rfl rfl rfl (by kernel_rfl) HI.out ?_; rintro e w6 ⟨v6, rfl, P6⟩; refine ⟨_, rfl, ?_⟩; replace P6 := Lib.hid P6; clear HI hx m3 m4 m6 m7 m8)
            | (go_at_call 16; refine (HT.out v6 w6 P6.out).mono ?_; rintro e w7 ⟨rfl, P7⟩; obtain ⟨vo, L7⟩ := HL.out _ _ (as_end P7); have n8 := L7.c8; dsimp only at n8; clear P7 HT HL))
          obtain ⟨A7, d7, rfl⟩ := own_slice L7.out
          have n5 := L7.c5
          have n6 := L7.c6
          have n7 := L7.c7
          dsimp only at n5 n6 n7
          go_still_tail 9, (by kernel_rfl)
          change wpList _ _ _ _ _ w7.drew
          have L8 := L7.step (below_drew (Below.refl _ _))
          generalize w7.drew = w8 at L8 ⊢
          clear n5 n6 n7 n8 L7
          have n5 := L8.c5
          have n6 := L8.c6
          have n7 := L8.c7
          have n8 := L8.c8
          dsimp only at n5 n6 n7 n8
          have x0 : w8.cell? ⟨w.heap.size, 0, none⟩ = some (.int .i64 0) := (blk_cell L8.gg 0).trans rfl
          have x1 : w8.cell? ⟨w.heap.size, 1, none⟩ = some (.int .i64 0) := (blk_cell L8.gg 1).trans rfl
          have x2 : w8.cell? ⟨w.heap.size, 2, none⟩ = some (.int .i64 0) := (blk_cell L8.gg 2).trans rfl
          have y0 := blk_frozen L8.gg 0
          have y1 := blk_frozen L8.gg 1
          have y2 := blk_frozen L8.gg 2
          have FF := Lib.hid (L8.fin (.int .i64 s0) (.int .i64 s1) (.int .i64 s2))
          clear L8
          go_wp2
          refine bodyPost_ret (v := .tuple #[.slice A7 out2.length d7, .agg #[.int .i64 s0, .int .i64 s1, .int .i64 s2], .int .i64 0]) ?_ rfl ⟨_, rfl, FF.out.1, FF.out.2⟩
          simp only [results, show Tryz.f8.results = #[ResultVar.tmp 8, ResultVar.cell 9 30, ResultVar.tmp 10] from rfl]
          go_simp
      · have di := nlt_dec hi
        have hz := N.out.ans
        have hk := N.out.ok
        rw [List.drop_eq_nil_of_le (by omega)] at hz hk
        rw [allF] at hz
        rw [okAll] at hk
        unfold allE at hz
        unfold okAllE at hk
        obtain ⟨⟨hk1, hk2, hk3⟩, hkw⟩ := hk
        have HI := Lib.hid (as_fin P.out hk1)
        have HT := fun v W (h : ASP wA (fAll w) b (.string n1) (.string n2) vr vw (.bool false) (.bool false) a.q (R.fin a.r).2 v (R.fin a.r).1 W) => as_taken h hk3 hk2
        change ∀ v W, ASP wA (fAll w) b (.string n1) (.string n2) vr vw (.bool false) (.bool false) a.q (R.fin a.r).2 v (R.fin a.r).1 W → Calls Tryz.prog 16 #[.pointer (some ⟨b, 0, none⟩), v] W (fun e W2 => e = .returned (.tuple #[]) ∧ AS wA (fAll w) b (.string n1) (.string n2) vr vw (.bool false) (.bool false) (rdE a) W2) at HT
        generalize rdE a = a2 at *
        replace HT := Lib.hid HT
        clear hk1 hk2 hk3 N
        obtain ⟨r2, ⟨out2, ⟨s0, s1, s2⟩, mm2⟩⟩ := a2
        dsimp only at hz hkw
        by_cases h0 : s2 = 0
        · subst h0
          rw [if_pos rfl] at hz
          obtain ⟨hw1, hw2⟩ := hkw rfl
          have HE := Lib.hid (fun W (h : AS wA (fAll w) b (.string n1) (.string n2) vr vw (.bool false) (.bool false) (⟨r2, ⟨out2, (s0, s1, 0), mm2⟩⟩ : ASt R M) W) => as_wfin h hw1)
          have HWW := fun v W (h : AWP wA (fAll w) b (.string n1) (.string n2) vr vw (.bool false) (.bool false) (⟨out2, (s0, s1, 0), mm2⟩ : SSt M.σ) (M.fin mm2).2 v (M.fin mm2).1 W) => as_wend h hw2
          change ∀ v W, AWP wA (fAll w) b (.string n1) (.string n2) vr vw (.bool false) (.bool false) (⟨out2, (s0, s1, 0), mm2⟩ : SSt M.σ) (M.fin mm2).2 v (M.fin mm2).1 W → Calls Tryz.prog 17 #[.pointer (some ⟨b, 0, none⟩), v] W (fun e W2 => e = .returned (.tuple #[]) ∧ AEnd wA (fAll w) b (.string n1) (.string n2) vr vw (.bool false) (.bool false) (end1 M ⟨out2, (s0, s1, 0), mm2⟩) W2) at HWW
          rw [hz] at HWW
          replace HWW := Lib.hid HWW
          clear hz hw1 hw2 hkw
          obtain ⟨out3, ⟨e0, e1, e2⟩, mm3⟩ := z
          go_wp2_with (first
            | ((with_reducible refine gate_invoke (name := "End") rfl ?_); refine goesV_ (args := #[]) (v := vr) (some 61) rfl rfl rfl rfl (by kernel_rfl) HI.out ?_; rintro e w6 ⟨v6, rfl, P6⟩; refine ⟨_, rfl, ?_⟩; replace P6 := Lib.hid P6; clear HI m3 m4 m6 m7 m8)
            | ((with_reducible refine gate_invoke (name := "End") rfl ?_); refine goesV_ (args := #[]) (v := vw) (some 74) rfl rfl rfl rfl (by kernel_rfl) (HE.out w7 P7.out) ?_; rintro e w9 ⟨v9, rfl, P9⟩; refine ⟨_, rfl, ?_⟩; replace P9 := Lib.hid P9; clear m4 n8 HE)
            | (go_at_call 16; refine (HT.out v6 w6 P6.out).mono ?_; rintro e w7 ⟨rfl, P7⟩; obtain ⟨-, m4, -, -, n8⟩ := P7.cells; replace P7 := Lib.hid P7; dsimp only at n8)
            | (go_at_call 17; refine (HWW.out v9 w9 P9.out).mono ?_; rintro e w7 ⟨rfl, P7⟩; obtain ⟨vo, L7⟩ := HL.out _ _ P7; have n8 := L7.c8; dsimp only at n8; clear P7 HT HL HWW P6 P9))
          obtain ⟨A7, d7, rfl⟩ := own_slice L7.out
          have n5 := L7.c5
          have n6 := L7.c6
          have n7 := L7.c7
          dsimp only at n5 n6 n7
          go_still_tail 9, (by kernel_rfl)
          change wpList _ _ _ _ _ w7.drew
          have L8 := L7.step (below_drew (Below.refl _ _))
          generalize w7.drew = w8 at L8 ⊢
          clear n5 n6 n7 n8 L7
          have n5 := L8.c5
          have n6 := L8.c6
          have n7 := L8.c7
          have n8 := L8.c8
          dsimp only at n5 n6 n7 n8
          have x0 : w8.cell? ⟨w.heap.size, 0, none⟩ = some (.int .i64 0) := (blk_cell L8.gg 0).trans rfl
          have x1 : w8.cell? ⟨w.heap.size, 1, none⟩ = some (.int .i64 0) := (blk_cell L8.gg 1).trans rfl
          have x2 : w8.cell? ⟨w.heap.size, 2, none⟩ = some (.int .i64 0) := (blk_cell L8.gg 2).trans rfl
          have y0 := blk_frozen L8.gg 0
          have y1 := blk_frozen L8.gg 1
          have y2 := blk_frozen L8.gg 2
          have FF := Lib.hid (L8.fin (.int .i64 e0) (.int .i64 e1) (.int .i64 e2))
          clear L8
          go_wp2
          refine bodyPost_ret (v := .tuple #[.slice A7 out3.length d7, .agg #[.int .i64 e0, .int .i64 e1, .int .i64 e2], .int .i64 0]) ?_ rfl ⟨_, rfl, FF.out.1, FF.out.2⟩
          simp only [results, show Tryz.f8.results = #[ResultVar.tmp 8, ResultVar.cell 9 30, ResultVar.tmp 10] from rfl]
          go_simp
        · have d0 : (s2 == 0) = false := beq_eq_false_iff_ne.mpr h0
          rw [if_neg h0] at hz
          subst hz
          clear hkw
          go_wp2_with (first
            | ((with_reducible refine gate_invoke (name := "End") rfl ?_); refine goesV_ (args := #[]) (v := vr) (some 61) rfl rfl rfl rfl (by kernel_rfl) HI.out ?_; rintro e w6 ⟨v6, rfl, P6⟩; refine ⟨_, rfl, ?_⟩; replace P6 := Lib.hid P6; clear HI m3 m4 m6 m7 m8)
            | (go_at_call 16; refine (HT.out v6 w6 P6.out).mono ?_; rintro e w7 ⟨rfl, P7⟩; obtain ⟨vo, L7⟩ := HL.out _ _ (as_end P7); have n8 := L7.c8; dsimp only at n8; clear P7 HT HL P6))
          obtain ⟨A7, d7, rfl⟩ := own_slice L7.out
          have n5 := L7.c5
          have n6 := L7.c6
          have n7 := L7.c7
          dsimp only at n5 n6 n7
          go_still_tail 9, (by kernel_rfl)
          change wpList _ _ _ _ _ w7.drew
          have L8 := L7.step (below_drew (Below.refl _ _))
          generalize w7.drew = w8 at L8 ⊢
          clear n5 n6 n7 n8 L7
          have n5 := L8.c5
          have n6 := L8.c6
          have n7 := L8.c7
          have n8 := L8.c8
          dsimp only at n5 n6 n7 n8
          have x0 : w8.cell? ⟨w.heap.size, 0, none⟩ = some (.int .i64 0) := (blk_cell L8.gg 0).trans rfl
          have x1 : w8.cell? ⟨w.heap.size, 1, none⟩ = some (.int .i64 0) := (blk_cell L8.gg 1).trans rfl
          have x2 : w8.cell? ⟨w.heap.size, 2, none⟩ = some (.int .i64 0) := (blk_cell L8.gg 2).trans rfl
          have y0 := blk_frozen L8.gg 0
          have y1 := blk_frozen L8.gg 1
          have y2 := blk_frozen L8.gg 2
          have FF := Lib.hid (L8.fin (.int .i64 s0) (.int .i64 s1) (.int .i64 s2))
          clear L8
          go_wp2
          refine bodyPost_ret (v := .tuple #[.slice A7 out2.length d7, .agg #[.int .i64 s0, .int .i64 s1, .int .i64 s2], .int .i64 0]) ?_ rfl ⟨_, rfl, FF.out.1, FF.out.2⟩
          simp only [results, show Tryz.f8.results = #[ResultVar.tmp 8, ResultVar.cell 9 30, ResultVar.tmp 10] from rfl]
          go_simp
end
end Go.Proofs.YtnfjgopcenpblaaGreatDoor.T

/- The six machines. No condition beyond the ranges. -/
namespace Go.Proofs.YtnfjgopcenpblaaGreatDoor.T
open Go.RowKit Go.Proofs.YtnfjgopcenpblaaGreatDoorW.PrintWords Go.Proofs.YtnfjgopcenpblaaGreatDoorW.PrintLast Go.Proofs.YtnfjgopcenpblaaGreatDoorW.PrintMore Go.Proofs.YtnfjgopcenpblaaGreatDoor
set_option linter.unusedVariables false
set_option linter.unusedSimpArgs false
theorem gives_up {T T' : Nat → Prop} {y : Nat} {w : World} {f : Nat → Nat} {ts : List S66} {P P' : World → (Nat → Nat) → Prop} {e : Ending} {w' : World} (h : Gives T y w f ts P e w') (hT : ∀ z, T z → T' z) (hP : ∀ w' f', P w' f' → P' w' f') : Gives T' y w f ts P' e w' := by
  obtain ⟨u, f', rfl, E, t, p⟩ := h
  exact ⟨u, f', rfl, E.mono hT, t, hP _ _ p⟩
theorem meth_direct {name : String} {t : TypeId} {fid : FuncId} {b : Nat} {w : World} {fn : Func} {args : Array Value} {Q : Ending → World → Prop} (hm : (method (Tryz.prog.types.size + Made.depth) t (.pointer (some ⟨b, 0, none⟩)) name).run Tryz.prog w = .ok (fid, .pointer (some ⟨b, 0, none⟩)) w) (hf : Tryz.prog.funcs[fid]? = some fn) (hn : (fn.name == "runtime.NumGoroutine") = false) (hb : fn.body.isSome = true)
    (h : Calls Tryz.prog fid (#[.pointer (some ⟨b, 0, none⟩)] ++ args) w Q) : Inv name (.iface t (.pointer (some ⟨b, 0, none⟩))) args w Q :=
  ⟨t, _, _, fid, fn, rfl, hm, hf, hn, hb, h⟩
/-- a reader of bytes -/
def mBytes : Mach T10 19 where
  σ := List Int × Int
  put s c := ((bPut s.1 s.2 c).1, (bPut s.1 s.2 c).2)
  fin s := ((eF s.2 s.1).1, (eF s.2 s.1).2)
  ok s c := s.1.length ≤ 100 ∧ Bytes (s.1 ++ [c]) ∧ 0 ≤ s.2 ∧ s.2 + s.1.length ≤ 281474976710656
  okE s := s.1.length ≤ 100 ∧ 0 ≤ s.2 ∧ s.2 + s.1.length ≤ 281474976710656
  Rep w f s v := ∃ b, v = .iface 93 (.pointer (some ⟨b, 0, none⟩)) ∧ Rd w f 10 b s.1 s.2
  ext := by
    rintro w w' f f' s v T' ⟨b, rfl, h⟩ E h0 h1
    exact ⟨b, rfl, h.ext E (h1 10 (by unfold T10; omega))⟩
  hput := by
    rintro w f s v u ⟨b, rfl, h⟩ ⟨k1, k2, k3, k4⟩
    refine meth_direct (fid := 128) (fn := Tryz.f128) (by kernel_rfl) Tryz.func128 (by kernel_rfl) rfl ?_
    refine (BPut_calls w f 10 19 b s.1 s.2 u h (by decide) k1 k2 k3 k4).mono fun e w' g => gives_up g (by rintro z rfl; unfold T10; omega) (fun w' f' p => ⟨b, rfl, p⟩)
  hfin := by
    rintro w f s v ⟨b, rfl, h⟩ ⟨k1, k3, k4⟩
    refine meth_direct (fid := 126) (fn := Tryz.f126) (by kernel_rfl) Tryz.func126 (by kernel_rfl) rfl ?_
    refine (BEnd_calls w f 10 19 b s.1 s.2 h (by decide) k1 k3 k4).mono fun e w' g => gives_up g (by rintro z rfl; unfold T10; omega) (fun w' f' p => ⟨b, rfl, p⟩)
/-- a table's reader -/
def mDec (ns : List S183) (rs : List S150) (hf : Fit ns rs) (hp : 0 < rs.length) : Mach T10 19 where
  σ := List Int × Int
  put s c := ((putF ns rs s.1 s.2 c).1, (putF ns rs s.1 s.2 c).2)
  fin s := ((endF ns rs s.1 s.2).1, (endF ns rs s.1 s.2).2)
  ok s c := s.1.length ≤ 99
  okE s := s.1.length ≤ 100
  Rep w f s v := ∃ d, v = .iface 120 (.pointer (some ⟨d, 0, none⟩)) ∧ MD w f 10 d s.1 s.2 ns rs
  ext := by
    rintro w w' f f' s v T' ⟨b, rfl, h⟩ E h0 h1
    exact ⟨b, rfl, h.ext E h0 (h1 10 (by unfold T10; omega))⟩
  hput := by
    rintro w f s v u ⟨d, rfl, ⟨m, g1, g2⟩, g3⟩ k1
    refine ⟨120, _, _, 152, Tryz.f152, rfl, meth_dput g1, Tryz.func152, by kernel_rfl, rfl, ?_⟩
    refine (MPut_calls w f 10 19 m s.1 s.2 u ns rs g2 (by decide) (by decide) hf hp k1).mono ?_
    rintro e w' ⟨v, f', rfl, E, t, p⟩
    exact ⟨v, f', rfl, E.mono (by rintro z rfl; unfold T10; omega), t, d, rfl, ⟨m, E.blk g1 (by rw [g3]; decide), p⟩, (E.tg g1).trans g3⟩
  hfin := by
    rintro w f s v ⟨d, rfl, ⟨m, g1, g2⟩, g3⟩ k1
    refine ⟨120, _, _, 151, Tryz.f151, rfl, meth_dend g1, Tryz.func151, by kernel_rfl, rfl, ?_⟩
    refine (MEnd_calls w f 10 19 m s.1 s.2 ns rs g2 (by decide) (by decide) hf hp k1).mono ?_
    rintro e w' ⟨v, f', rfl, E, t, p⟩
    exact ⟨v, f', rfl, E.mono (by rintro z rfl; unfold T10; omega), t, d, rfl, ⟨m, E.blk g1 (by rw [g3]; decide), p⟩, (E.tg g1).trans g3⟩
/-- iscii's reader -/
def mIdec (ns : List S183) (rs : List S150) (hf : Fit ns rs) (hp : 0 < rs.length) : Mach T10 19 where
  σ := Int × List Int × Int
  put s c := ((meanGo s.1 (putF ns rs s.2.1 s.2.2 c).1).1, (meanGo s.1 (putF ns rs s.2.1 s.2.2 c).1).2, (putF ns rs s.2.1 s.2.2 c).2)
  fin s := ((meanGo s.1 (endF ns rs s.2.1 s.2.2).1).1, (meanGo s.1 (endF ns rs s.2.1 s.2.2).1).2, (endF ns rs s.2.1 s.2.2).2)
  ok s c := s.2.1.length ≤ 99
  okE s := s.2.1.length ≤ 100
  Rep w f s v := ∃ b, v = .iface 98 (.pointer (some ⟨b, 0, none⟩)) ∧ ID w f 10 12 b s.1 s.2.1 s.2.2 ns rs
  ext := by
    rintro w w' f f' s v T' ⟨b, rfl, h⟩ E h0 h1
    exact ⟨b, rfl, h.ext E h0 (h1 10 (by unfold T10; omega)) (h1 12 (by unfold T10; omega))⟩
  hput := by
    rintro w f s v u ⟨b, rfl, h⟩ k1
    refine meth_direct (fid := 135) (fn := Tryz.f135) (by kernel_rfl) Tryz.func135 (by kernel_rfl) rfl ?_
    refine (IPut_calls w f 10 12 19 b s.1 s.2.1 s.2.2 u ns rs h (by decide) hf hp k1).mono fun e w' g => gives_up g (by rintro z (h | h | h) <;> (unfold T10; omega)) (fun w' f' p => ⟨b, rfl, p⟩)
  hfin := by
    rintro w f s v ⟨b, rfl, h⟩ k1
    refine meth_direct (fid := 133) (fn := Tryz.f133) (by kernel_rfl) Tryz.func133 (by kernel_rfl) rfl ?_
    refine (IEnd_calls w f 10 12 19 b s.1 s.2.1 s.2.2 ns rs h (by decide) hf hp k1).mono fun e w' g => gives_up g (by rintro z (h | h | h) <;> (unfold T10; omega)) (fun w' f' p => ⟨b, rfl, p⟩)
/-- a writer of scalars -/
def mScal : Mach T20 29 where
  σ := Int
  put s u := ([sTok s u], wrap64 (s + 1))
  fin s := ([], s)
  ok _ _ := True
  okE _ := True
  Rep w f s v := ∃ b, v = .iface 103 (.pointer (some ⟨b, 0, none⟩)) ∧ Sc w f 20 b s
  ext := by
    rintro w w' f f' s v T' ⟨b, rfl, h⟩ E h0 h1
    exact ⟨b, rfl, h.ext E (h1 20 (by unfold T20; omega))⟩
  hput := by
    rintro w f s v u ⟨b, rfl, h⟩ _
    refine meth_direct (fid := 141) (fn := Tryz.f141) (by kernel_rfl) Tryz.func141 (by kernel_rfl) rfl ?_
    refine (SPut_calls w f 20 29 b s u h (by decide)).mono fun e w' g => gives_up g (by rintro z rfl; unfold T20; omega) (fun w' f' p => ⟨b, rfl, p⟩)
  hfin := by
    rintro w f s v ⟨b, rfl, h⟩ _
    refine meth_direct (fid := 139) (fn := Tryz.f139) (by kernel_rfl) Tryz.func139 (by kernel_rfl) rfl ?_
    refine (SEnd_calls w f 20 29 b s h).mono fun e w' g => gives_up g (by rintro z rfl; unfold T20; omega) (fun w' f' p => ⟨b, rfl, p⟩)
/-- a table's writer -/
def mEnc (rs : List S150) (hk : Okay rs) : Mach T20 29 where
  σ := List Int × Int × List Int
  put s u := ((ePut rs s.2.2 s.1 s.2.1 u).1, (putF (wn rs) (wo rs) s.1 s.2.1 u).2.1, (putF (wn rs) (wo rs) s.1 s.2.1 u).2.2, (ePut rs s.2.2 s.1 s.2.1 u).2)
  fin s := ((eEnd rs s.2.2 s.1 s.2.1).1, (endF (wn rs) (wo rs) s.1 s.2.1).2.1, (endF (wn rs) (wo rs) s.1 s.2.1).2.2, (eEnd rs s.2.2 s.1 s.2.1).2)
  ok s _ := s.2.2.length ≤ 8 ∧ s.1.length ≤ 99
  okE s := s.2.2.length ≤ 8 ∧ s.1.length ≤ 100
  Rep w f s v := ∃ e, v = .iface 108 (.pointer (some ⟨e, 0, none⟩)) ∧ En w f 22 21 e s.1 s.2.1 rs s.2.2
  ext := by
    rintro w w' f f' s v T' ⟨b, rfl, h⟩ E h0 h1
    exact ⟨b, rfl, h.ext E h0 (h1 22 (by unfold T20; omega)) (h1 21 (by unfold T20; omega))⟩
  hput := by
    rintro w f s v u ⟨b, rfl, h⟩ ⟨k1, k2⟩
    refine meth_direct (fid := 149) (fn := Tryz.f149) (by kernel_rfl) Tryz.func149 (by kernel_rfl) rfl ?_
    refine (EPut_calls w f 22 21 29 b s.1 s.2.1 u rs s.2.2 h hk (by decide) k1 k2).mono fun e w' g => gives_up g (by rintro z (h | h | h) <;> (unfold T20; omega)) (fun w' f' p => ⟨b, rfl, p⟩)
  hfin := by
    rintro w f s v ⟨b, rfl, h⟩ ⟨k1, k2⟩
    refine meth_direct (fid := 145) (fn := Tryz.f145) (by kernel_rfl) Tryz.func145 (by kernel_rfl) rfl ?_
    refine (EEnd_calls w f 22 21 29 b s.1 s.2.1 rs s.2.2 h hk (by decide) k1 k2).mono fun e w' g => gives_up g (by rintro z (h | h | h) <;> (unfold T20; omega)) (fun w' f' p => ⟨b, rfl, p⟩)
/-- iscii's writer -/
def mIenc (rs : List S150) (hk : Okay rs) : Mach T20 29 where
  σ := ISt
  put s u := iPut rs s u
  fin s := iEnd rs s
  ok s _ := s.ah.length ≤ 8 ∧ s.us.length ≤ 99
  okE s := s.ah.length ≤ 8 ∧ s.us.length ≤ 100
  Rep w f s v := ∃ b e bs, v = .iface 106 (.pointer (some ⟨b, 0, none⟩)) ∧ IEq w f b e bs rs s
  ext := by
    rintro w w' f f' s v T' ⟨b, e, bs, rfl, h⟩ E h0 h1
    exact ⟨b, e, bs, rfl, h.ext E h0 (h1 20 (by unfold T20; omega)) (h1 21 (by unfold T20; omega)) (h1 22 (by unfold T20; omega))⟩
  hput := by
    rintro w f s v u ⟨b, e, bs, rfl, h⟩ ⟨k1, k2⟩
    refine meth_direct (fid := 144) (fn := Tryz.f144) (by kernel_rfl) Tryz.func144 (by kernel_rfl) rfl ?_
    refine (WPut_calls w f b e bs rs s u h hk k1 k2).mono fun en w' g => gives_up g (fun z h => h) (fun w' f' p => ⟨b, e, bs, rfl, p⟩)
  hfin := by
    rintro w f s v ⟨b, e, bs, rfl, h⟩ ⟨k1, k2⟩
    refine meth_direct (fid := 142) (fn := Tryz.f142) (by kernel_rfl) Tryz.func142 (by kernel_rfl) rfl ?_
    refine (WEnd_calls w f b e bs rs s h hk k1 k2).mono fun en w' g => gives_up g (fun z h => h) (fun w' f' p => ⟨b, e, bs, rfl, p⟩)
end Go.Proofs.YtnfjgopcenpblaaGreatDoor.T

/- slices.Index, slices.Contains and codec.Names, as print.sh prints them for this claim. -/
namespace Go.Proofs.YtnfjgopcenpblaaGreatDoor.T
open Go.RowKit Go.Proofs.YtnfjgopcenpblaaGreatDoorW.PrintWords Go.Proofs.YtnfjgopcenpblaaGreatDoorW.PrintLast Go.Proofs.YtnfjgopcenpblaaGreatDoorW.PrintMore Go.Proofs.YtnfjgopcenpblaaGreatDoor
set_option linter.unusedVariables false
set_option linter.unusedSimpArgs false
attribute [local go_sem] max2_int min2_int max_two min_two max_three min_three max_four min_four
/-! ### slices_Index_string_string: function 40 -/
def slices_Index_string_string.l0 : Nat → List ByteArray → ByteArray → Int → Int → Option (Int)
  | 0, _, _, _, _ => none
  | k + 1, x0, x1, x7, x8 => if x8 < x7 then (if 0 ≤ x8 then (if x8 < (x0.length : Int) then (if x1.toList = (rdOf ByteArray.empty x0 x8).toList then (some x8) else (slices_Index_string_string.l0 k x0 x1 x7 (wrap64 (x8 + 1)))) else (none)) else (none)) else (some (-1))
def slices_Index_string_string.f (k : Nat) (l0 : List ByteArray) (a1 : ByteArray) : Option (Int) := slices_Index_string_string.l0 k l0 a1 (l0.length : Int) 0
theorem slices_Index_string_string.mono_l : ∀ k, (∀ y0 y1 y2 y3, LeO (slices_Index_string_string.l0 k y0 y1 y2 y3) (slices_Index_string_string.l0 (k + 1) y0 y1 y2 y3))
  | 0 => fun _ _ _ _ r h => by simp [slices_Index_string_string.l0] at h
  | k + 1 => by
    have ih0 := slices_Index_string_string.mono_l k
    · intro y0 y1 y2 y3
      unfold slices_Index_string_string.l0
      repeat' first
      | (with_reducible exact ih0 _ _ _ _)
      | (with_reducible exact LeO.refl _)
      | (with_reducible exact LeO.none _)
      | (with_reducible refine LeO.ite ?_ ?_)
      | (with_reducible refine LeO.bind ?_ (fun _ => ?_))
      | exact ih0 _ _ _ _
      | exact LeO.none _
      | refine LeO.ite ?_ ?_
      | refine LeO.bind ?_ (fun _ => ?_)
theorem slices_Index_string_string.mono : ∀ a0 a1 k, LeO (slices_Index_string_string.f k a0 a1) (slices_Index_string_string.f (k + 1) a0 a1) := by
  intro a0 a1 k
  have ih0 := slices_Index_string_string.mono_l k
  unfold slices_Index_string_string.f
  repeat' first
      | (with_reducible exact ih0 _ _ _ _)
      | (with_reducible exact LeO.refl _)
      | (with_reducible exact LeO.none _)
      | (with_reducible refine LeO.ite ?_ ?_)
      | (with_reducible refine LeO.bind ?_ (fun _ => ?_))
      | exact ih0 _ _ _ _
      | exact LeO.none _
      | refine LeO.ite ?_ ?_
      | refine LeO.bind ?_ (fun _ => ?_)
set_option maxHeartbeats 8000000 in
set_option maxRecDepth 100000 in
theorem slices_Index_string_string.calls (k : Nat) (A0 : Option Addr) (c0 : Nat) (l0 : List ByteArray) (a1 : ByteArray) (r : Int) (w : World) (hr0 : Kd.C Kd.string w A0 l0.length l0) (hc0 : l0.length ≤ c0) (h : slices_Index_string_string.f k l0 a1 = some r) :
    Calls Tryz.prog 40 #[.slice A0 l0.length c0, .string a1] w fun e w' => e = .returned (.int .i64 r) ∧ Drawn0 w w' := by
  have HR0 := Aside0.mk hr0
  have HC0 := Aside0.mk hc0
  clear hr0 hc0
  have H : (slices_Index_string_string.l0 k l0 a1 (l0.length : Int) 0) = some r := h
  clear h
  have H' := Aside0.mk H
  clear H
  go_enter Tryz.func40, Tryz.ntmps40
  go_wp2
  go_loopg [8] k (fun kq v8 w' => ∃ (x8_1 : Int), v8 = .int .i64 x8_1 ∧ Aside0 (slices_Index_string_string.l0 kq l0 a1 (l0.length : Int) x8_1 = some r) ∧ Aside0 (kq ≤ k) ∧ Drawn0 w w')
  case atStart => exact ⟨(0), (by first | rfl | (simp; done) | (simp [*]; done)), H', ⟨Nat.le_refl _⟩, by repeat (first | exact Drawn0.refl _ | apply Drawn0.step)⟩
  case round =>
    clear H'
    try clear p2
    obtain ⟨x8_1, rfl, HA, HK1, ⟨m1, rfl⟩⟩ := hrel
    cases gk with
    | zero => exact absurd HA.out (by simp [slices_Index_string_string.l0])
    | succ k1 =>
      have H := HA.out
      clear HA
      simp only [slices_Index_string_string.l0] at H
      by_cases c3 : x8_1 < (l0.length : Int)
      · rw [if_pos c3] at H
        have c3b0 : decide (x8_1 < (l0.length : Int)) = true := decide_eq_true c3
        clear c3
        by_cases c4 : 0 ≤ x8_1
        · rw [if_pos c4] at H
          have c4b0 : decide (0 ≤ x8_1) = true := decide_eq_true c4
          clear c4
          by_cases c5 : x8_1 < (l0.length : Int)
          · rw [if_pos c5] at H
            have c5b0 : decide (x8_1 < (l0.length : Int)) = true := decide_eq_true c5
            clear c5
            by_cases c6 : a1.toList = (rdOf ByteArray.empty l0 x8_1).toList
            · rw [if_pos c6] at H
              have c6b0 : (a1.toList == (rdOf ByteArray.empty l0 x8_1).toList) = true := beq_iff_eq.mpr c6
              have c6b1 : (a1.toList != (rdOf ByteArray.empty l0 x8_1).toList) = false := bne_eq_false_iff_eq.mpr c6
              clear c6
              obtain rfl := Option.some.inj H
              have p137 : 0 ≤ (x8_1 : Int) := of_decide_eq_true (by first | (with_reducible assumption) | assumption)
              have q137 : x8_1 < (l0.length : Int) := of_decide_eq_true (by first | (with_reducible assumption) | assumption)
              obtain ⟨ad137, e137, hx137_0⟩ := Kd.at_string HR0.out x8_1 p137 q137
              cases e137
              replace p137 := eq_true p137
              replace q137 := eq_true q137
              go_wp2
              go_ret
              exact ⟨by first | rfl | (simp; done) | (simp [*]; done), by repeat (first | exact Drawn0.refl _ | apply Drawn0.step)⟩
            · rw [if_neg c6] at H
              have c6b0 : (a1.toList == (rdOf ByteArray.empty l0 x8_1).toList) = false := beq_eq_false_iff_ne.mpr c6
              have c6b1 : (a1.toList != (rdOf ByteArray.empty l0 x8_1).toList) = true := bne_iff_ne.mpr c6
              have H' := Aside0.mk H
              clear H
              have p137 : 0 ≤ (x8_1 : Int) := of_decide_eq_true (by first | (with_reducible assumption) | assumption)
              have q137 : x8_1 < (l0.length : Int) := of_decide_eq_true (by first | (with_reducible assumption) | assumption)
              obtain ⟨ad137, e137, hx137_0⟩ := Kd.at_string HR0.out x8_1 p137 q137
              cases e137
              replace p137 := eq_true p137
              replace q137 := eq_true q137
              go_wp2
              go_roundg k1
              case measure => have := HK1.out; omega
              case rel => exact ⟨(wrap64 (x8_1 + 1)), (by first | rfl | (simp; done) | (simp [*]; done)), H', ⟨by have := HK1.out; omega⟩, by repeat (first | exact Drawn0.refl _ | apply Drawn0.step)⟩
          · rw [if_neg c5] at H
            exact absurd H (by simp)
        · rw [if_neg c4] at H
          exact absurd H (by simp)
      · rw [if_neg c3] at H
        have c3b0 : decide (x8_1 < (l0.length : Int)) = false := decide_eq_false c3
        clear c3
        obtain rfl := Option.some.inj H
        go_wp2
        go_ret
        exact ⟨by first | rfl | (simp; done) | (simp [*]; done), by repeat (first | exact Drawn0.refl _ | apply Drawn0.step)⟩

/-! ### slices_Contains_string_string: function 29 -/
def slices_Contains_string_string.f (k : Nat) (l0 : List ByteArray) (a1 : ByteArray) : Option (Bool) := (slices_Index_string_string.f k l0 a1).bind fun t138 => (some (decide (t138 ≥ 0)))
theorem slices_Contains_string_string.mono : ∀ a0 a1 k, LeO (slices_Contains_string_string.f k a0 a1) (slices_Contains_string_string.f (k + 1) a0 a1) := by
  intro a0 a1 k
  unfold slices_Contains_string_string.f
  repeat' first
      | (with_reducible exact slices_Index_string_string.mono _ _ _)
      | (with_reducible exact LeO.refl _)
      | (with_reducible exact LeO.none _)
      | (with_reducible refine LeO.ite ?_ ?_)
      | (with_reducible refine LeO.bind ?_ (fun _ => ?_))
      | exact slices_Index_string_string.mono _ _ _
      | exact LeO.none _
      | refine LeO.ite ?_ ?_
      | refine LeO.bind ?_ (fun _ => ?_)
set_option maxHeartbeats 8000000 in
set_option maxRecDepth 100000 in
theorem slices_Contains_string_string.calls (k : Nat) (A0 : Option Addr) (c0 : Nat) (l0 : List ByteArray) (a1 : ByteArray) (r : Bool) (w : World) (hr0 : Kd.C Kd.string w A0 l0.length l0) (hc0 : l0.length ≤ c0) (h : slices_Contains_string_string.f k l0 a1 = some r) :
    Calls Tryz.prog 29 #[.slice A0 l0.length c0, .string a1] w fun e w' => e = .returned (.bool r) ∧ Drawn0 w w' := by
  have HR0 := Aside0.mk hr0
  have HC0 := Aside0.mk hc0
  clear hr0 hc0
  have H : ((slices_Index_string_string.f k l0 a1).bind fun t138 => (some (decide (t138 ≥ 0)))) = some r := h
  clear h
  replace H := Option.bind_eq_some_iff.mp H
  obtain ⟨t138, A30, H⟩ := H
  replace H : (some (decide (t138 ≥ 0))) = some r := H
  have A3 := Aside0.mk A30
  clear A30
  obtain rfl := Option.some.inj H
  go_enter Tryz.func29, Tryz.ntmps29
  go_wp2_with (first | ((with_reducible refine gate_callee (f := 40) rfl ?_); refine goesL_ (some 7) rfl rfl Tryz.func40 (by kernel_rfl) rfl #[.slice A0 l0.length c0, .string a1] rfl (by (try simp only [List.map_toArray, List.map_cons, List.map_nil]); first | done | rfl | (simp only [List.length_drop, List.length_take]; rfl)) ?_; (with_reducible refine (slices_Index_string_string.calls k _ _ l0 a1 t138 _ ?side1 ?side2 A3.out).mono ?_); (case side1 => repeat (first | exact HR0.out | (with_reducible refine Kd.C_alloc ?_ _) | (with_reducible refine Kd.C_drewN ?_ _) | (with_reducible refine Kd.C_drew ?_))); (case side2 => exact HC0.out); rintro e w' ⟨rfl, ⟨nd, rfl⟩⟩; refine ⟨_, rfl, ?_⟩))
  go_ret
  exact ⟨by first | rfl | (simp; done) | (simp [*]; done), by repeat (first | exact Drawn0.refl _ | apply Drawn0.step)⟩

/-! ### codec_Names: function 30 -/
def codec_Names.f  : Option (List ByteArray) := some (([(⟨#[117, 116, 102, 45, 56]⟩ : ByteArray), (⟨#[97, 115, 99, 105, 105]⟩ : ByteArray), (⟨#[118, 105, 115, 99, 105, 105]⟩ : ByteArray), (⟨#[116, 99, 118, 110, 51]⟩ : ByteArray), (⟨#[118, 110, 105]⟩ : ByteArray), (⟨#[116, 105, 115, 45, 54, 50, 48]⟩ : ByteArray), (⟨#[116, 115, 99, 105, 105]⟩ : ByteArray), (⟨#[105, 115, 99, 105, 105]⟩ : ByteArray)] : List ByteArray))
set_option maxHeartbeats 8000000 in
set_option maxRecDepth 100000 in
theorem codec_Names.calls  (r : List ByteArray) (w : World) (h : codec_Names.f  = some r) :
    Calls Tryz.prog 30 #[] w fun e w' => ∃ v0_ : Value, e = .returned (v0_) ∧ Kd.R Kd.string 9 w' w.heap.size (fun _ => True) v0_ r ∧ Below w.heap.size w w' := by
  have HB := Aside0.mk (Below.refl w.heap.size w)
  have H : (some (([(⟨#[117, 116, 102, 45, 56]⟩ : ByteArray), (⟨#[97, 115, 99, 105, 105]⟩ : ByteArray), (⟨#[118, 105, 115, 99, 105, 105]⟩ : ByteArray), (⟨#[116, 99, 118, 110, 51]⟩ : ByteArray), (⟨#[118, 110, 105]⟩ : ByteArray), (⟨#[116, 105, 115, 45, 54, 50, 48]⟩ : ByteArray), (⟨#[116, 115, 99, 105, 105]⟩ : ByteArray), (⟨#[105, 115, 99, 105, 105]⟩ : ByteArray)] : List ByteArray))) = some r := h
  clear h
  obtain ⟨y139, hy139⟩ : ∃ y_ : List ByteArray, y_ = (([(⟨#[117, 116, 102, 45, 56]⟩ : ByteArray), (⟨#[97, 115, 99, 105, 105]⟩ : ByteArray), (⟨#[118, 105, 115, 99, 105, 105]⟩ : ByteArray), (⟨#[116, 99, 118, 110, 51]⟩ : ByteArray), (⟨#[118, 110, 105]⟩ : ByteArray), (⟨#[116, 105, 115, 45, 54, 50, 48]⟩ : ByteArray), (⟨#[116, 115, 99, 105, 105]⟩ : ByteArray), (⟨#[105, 115, 99, 105, 105]⟩ : ByteArray)] : List ByteArray)) := ⟨_, rfl⟩
  replace H : (some y139) = some r := by first | (rw [hy139]; with_reducible exact H) | (have H2_ := (Option.bind_some _ _).symm.trans H; rw [hy139]; with_reducible exact H2_) | (have H2_ := (Option.bind_some _ _).symm.trans H; with_reducible exact H2_) | with_reducible exact H | (rw [hy139]; exact H) | exact H
  have Ny139 := Aside0.mk hy139
  clear hy139
  obtain rfl := Option.some.inj H
  go_enter Tryz.func30, Tryz.ntmps30
  go_wp2_with (first | ((with_reducible refine gate_dst (N := 1) rfl ?_); refine Kd.R_lit Kd.string _ 9 ?hg (N := 1) ?hd (xs := ([(⟨#[117, 116, 102, 45, 56]⟩ : ByteArray), (⟨#[97, 115, 99, 105, 105]⟩ : ByteArray), (⟨#[118, 105, 115, 99, 105, 105]⟩ : ByteArray), (⟨#[116, 99, 118, 110, 51]⟩ : ByteArray), (⟨#[118, 110, 105]⟩ : ByteArray), (⟨#[116, 105, 115, 45, 54, 50, 48]⟩ : ByteArray), (⟨#[116, 115, 99, 105, 105]⟩ : ByteArray), (⟨#[105, 115, 99, 105, 105]⟩ : ByteArray)] : List ByteArray)) (inner := [.string (⟨#[117, 116, 102, 45, 56]⟩ : ByteArray), .string (⟨#[97, 115, 99, 105, 105]⟩ : ByteArray), .string (⟨#[118, 105, 115, 99, 105, 105]⟩ : ByteArray), .string (⟨#[116, 99, 118, 110, 51]⟩ : ByteArray), .string (⟨#[118, 110, 105]⟩ : ByteArray), .string (⟨#[116, 105, 115, 45, 54, 50, 48]⟩ : ByteArray), .string (⟨#[116, 115, 99, 105, 105]⟩ : ByteArray), .string (⟨#[105, 115, 99, 105, 105]⟩ : ByteArray)]) (ok := fun _ => True) (okp := fun _ => True) ?hr ?hp (fun _ hk => hk) trivial (Below.refl _ _) (Nat.le_refl _) (by simp) ?_; (case hd => rfl); (case hg => rfl); (case hr => first | (go_simp; done) | (go_simp; rfl)); (case hp => exact (Reps.one (show Kd.M Kd.string _ _ _ (⟨#[117, 116, 102, 45, 56]⟩ : ByteArray) [.string (⟨#[117, 116, 102, 45, 56]⟩ : ByteArray)] from rfl) (Reps.one (show Kd.M Kd.string _ _ _ (⟨#[97, 115, 99, 105, 105]⟩ : ByteArray) [.string (⟨#[97, 115, 99, 105, 105]⟩ : ByteArray)] from rfl) (Reps.one (show Kd.M Kd.string _ _ _ (⟨#[118, 105, 115, 99, 105, 105]⟩ : ByteArray) [.string (⟨#[118, 105, 115, 99, 105, 105]⟩ : ByteArray)] from rfl) (Reps.one (show Kd.M Kd.string _ _ _ (⟨#[116, 99, 118, 110, 51]⟩ : ByteArray) [.string (⟨#[116, 99, 118, 110, 51]⟩ : ByteArray)] from rfl) (Reps.one (show Kd.M Kd.string _ _ _ (⟨#[118, 110, 105]⟩ : ByteArray) [.string (⟨#[118, 110, 105]⟩ : ByteArray)] from rfl) (Reps.one (show Kd.M Kd.string _ _ _ (⟨#[116, 105, 115, 45, 54, 50, 48]⟩ : ByteArray) [.string (⟨#[116, 105, 115, 45, 54, 50, 48]⟩ : ByteArray)] from rfl) (Reps.one (show Kd.M Kd.string _ _ _ (⟨#[116, 115, 99, 105, 105]⟩ : ByteArray) [.string (⟨#[116, 115, 99, 105, 105]⟩ : ByteArray)] from rfl) (Reps.one (show Kd.M Kd.string _ _ _ (⟨#[105, 115, 99, 105, 105]⟩ : ByteArray) [.string (⟨#[105, 115, 99, 105, 105]⟩ : ByteArray)] from rfl) (Reps.none _ _)))))))))); intro v140 w1 ho2 hb hg_ hnew_; clear hg_ hnew_; (first | rw [← Ny139.out] at ho2 | (simp only [Int.reduceToNat] at ho2; rw [← Ny139.out] at ho2)); have n0_ := Aside0.mk (Kd.R_lower ho2 (below_size (by repeat (first | (with_reducible first | exact HB.out | apply below_alloc | apply pw_below_drewN | apply below_drew1) | exact HB.out)))); have n1_ := Aside0.mk (below_step (by repeat (first | (with_reducible first | exact HB.out | apply below_alloc | apply pw_below_drewN | apply below_drew1) | exact HB.out)) hb); clear HB; have HO141 := n0_; have HB := n1_; clear n0_ n1_; clear hb ho2))
  go_ret
  exact ⟨_, by first | rfl | (simp [errW_none, errW_some] <;> rfl) | (simp [*, errW_none, errW_some] <;> rfl), by (with_reducible repeat (first | apply Kd.R_alloc | apply Kd.R_drewN | apply Kd.R_drew)); exact HO141.out, by repeat (first | (with_reducible first | exact HB.out | apply below_alloc | apply pw_below_drewN | apply below_drew1) | exact HB.out)⟩

end Go.Proofs.YtnfjgopcenpblaaGreatDoor.T

/- The codecs' names. No condition beyond the ranges. -/
namespace Go.Proofs.YtnfjgopcenpblaaGreatDoor.T
open Go.RowKit Go.Proofs.YtnfjgopcenpblaaGreatDoorW.PrintWords Go.Proofs.YtnfjgopcenpblaaGreatDoorW.PrintLast Go.Proofs.YtnfjgopcenpblaaGreatDoorW.PrintMore Go.Proofs.YtnfjgopcenpblaaGreatDoor
set_option linter.unusedVariables false
set_option linter.unusedSimpArgs false
def small (s : ByteArray) : Prop := ∀ i (h : i < s.size), ((s[i].toNat : Int) < 65 ∨ 90 < (s[i].toNat : Int)) ∧ (s[i].toNat : Int) < 128
set_option maxRecDepth 100000 in
theorem Lower_calls (w : World) (s : ByteArray) (hs : small s) (hn : s.size ≤ 1000) : Calls Tryz.prog 28 #[.string s] w fun e w' => e = .returned (.string s) ∧ w = w' := by
  replace hs := Lib.hid hs
  replace hn := Lib.hid hn
  go_enter Tryz.func28, Tryz.ntmps28
  go_wp2
  go_loopg [3, 4, 5] (s.size + 1) (fun kq v3 v4 v5 w' => ∃ i : Nat, v3 = .bool true ∧ v4 = .bool false ∧ v5 = .int .i64 i ∧ w' = w ∧ Hid (i + kq = s.size + 1 ∧ i ≤ s.size))
  case atStart => exact ⟨0, rfl, rfl, rfl, rfl, Lib.hid ⟨by omega, by omega⟩⟩
  case round =>
    obtain ⟨i, rfl, rfl, rfl, rfl, H⟩ := hrel
    have i1 := H.out.1
    cases gk with
    | zero => exact absurd i1 (by have := H.out.2; omega)
    | succ gk =>
      by_cases hi : i < s.size
      · have di := lt_dec hi
        have p0 := nat_tr i
        have p1 := lt_tr hi
        obtain ⟨h1, h2⟩ := hs.out i hi
        have d2 : decide (128 ≤ (s[i].toNat : Int)) = false := decide_eq_false (by omega)
        rcases h1 with h1 | h1
        · have d3 : decide (65 ≤ (s[i].toNat : Int)) = false := decide_eq_false (by omega)
          go_wp2
          go_roundg gk
          case measure => omega
          case rel => exact ⟨i + 1, rfl, rfl, congrArg (Value.int .i64) (wrap_nat (by have := hn.out; omega)), rfl, Lib.hid ⟨by omega, by omega⟩⟩
        · have d3 : decide (65 ≤ (s[i].toNat : Int)) = true := decide_eq_true (by omega)
          have d4 : decide ((s[i].toNat : Int) ≤ 90) = false := decide_eq_false (by omega)
          go_wp2
          go_roundg gk
          case measure => omega
          case rel => exact ⟨i + 1, rfl, rfl, congrArg (Value.int .i64) (wrap_nat (by have := hn.out; omega)), rfl, Lib.hid ⟨by omega, by omega⟩⟩
      · have di := nlt_dec hi
        go_wp2
        go_ret
        exact ⟨rfl, rfl⟩
def nmU : ByteArray := ⟨#[117, 116, 102, 45, 56]⟩
def nmI : ByteArray := ⟨#[105, 115, 99, 105, 105]⟩
def nmV : ByteArray := ⟨#[118, 105, 115, 99, 105, 105]⟩
def nmT : ByteArray := ⟨#[116, 105, 115, 45, 54, 50, 48]⟩
theorem Name_calls {ns : List ByteArray} (hN : codec_Names.f = some ns) (s : ByteArray) (hs : small s) (hn : s.size ≤ 1000) (k : Nat) (hc : slices_Contains_string_string.f k ns s = some true) : NameS s := by
  intro w
  have HL := Lib.hid (fun w => Lower_calls w s hs hn)
  replace hN := Lib.hid hN
  replace hc := Lib.hid hc
  go_enter Tryz.func21, Tryz.ntmps21
  go_wp2_with (first
    | (go_at_call 28; refine (HL.out _).mono ?_; rintro e w1 ⟨rfl, rfl⟩)
    | (go_at_call 30; refine (codec_Names.calls ns _ hN.out).mono ?_; rintro e w2 ⟨v2, rfl, hR, hb⟩; obtain ⟨A2, d2, rfl⟩ := Kd.R_slice hR; obtain ⟨-, hr1, hr2⟩ := Kd.R_reads' hR; replace hr2 := Lib.hid hr2; replace hb := Lib.hid hb; clear hR)
    | (go_at_call 29; refine (slices_Contains_string_string.calls k A2 d2 ns s true w2 hr2.out hr1 hc.out).mono ?_; rintro e w3 ⟨rfl, ⟨nd, rfl⟩⟩; have hb3 := Lib.hid (pw_below_drewN hb.out nd)))
  go_ret2
  exact ⟨rfl, hb3.out⟩
def namesL : List ByteArray := codec_Names.f.getD []
theorem names_is : codec_Names.f = some namesL := rfl
theorem name_u : NameS nmU := Name_calls names_is nmU (fun i h => (by decide : ∀ i : Fin 5, (((nmU[i.val]'i.isLt).toNat : Int) < 65 ∨ 90 < ((nmU[i.val]'i.isLt).toNat : Int)) ∧ ((nmU[i.val]'i.isLt).toNat : Int) < 128) ⟨i, h⟩) (by decide) 20 (by kernel_rfl)
theorem name_i : NameS nmI := Name_calls names_is nmI (fun i h => (by decide : ∀ i : Fin 5, (((nmI[i.val]'i.isLt).toNat : Int) < 65 ∨ 90 < ((nmI[i.val]'i.isLt).toNat : Int)) ∧ ((nmI[i.val]'i.isLt).toNat : Int) < 128) ⟨i, h⟩) (by decide) 20 (by kernel_rfl)
theorem name_v : NameS nmV := Name_calls names_is nmV (fun i h => (by decide : ∀ i : Fin 6, (((nmV[i.val]'i.isLt).toNat : Int) < 65 ∨ 90 < ((nmV[i.val]'i.isLt).toNat : Int)) ∧ ((nmV[i.val]'i.isLt).toNat : Int) < 128) ⟨i, h⟩) (by decide) 20 (by kernel_rfl)
theorem name_t : NameS nmT := Name_calls names_is nmT (fun i h => (by decide : ∀ i : Fin 7, (((nmT[i.val]'i.isLt).toNat : Int) < 65 ∨ 90 < ((nmT[i.val]'i.isLt).toNat : Int)) ∧ ((nmT[i.val]'i.isLt).toNat : Int) < 128) ⟨i, h⟩) (by decide) 20 (by kernel_rfl)
end Go.Proofs.YtnfjgopcenpblaaGreatDoor.T

/- machine.Decode and Encode. No condition beyond the ranges. -/
namespace Go.Proofs.YtnfjgopcenpblaaGreatDoor.T
open Go.RowKit Go.Proofs.YtnfjgopcenpblaaGreatDoorW.PrintWords Go.Proofs.YtnfjgopcenpblaaGreatDoorW.PrintLast Go.Proofs.YtnfjgopcenpblaaGreatDoorW.PrintMore Go.Proofs.YtnfjgopcenpblaaGreatDoor
set_option linter.unusedVariables false
set_option linter.unusedSimpArgs false
def two (f : Nat → Nat) (n x y : Nat) (k : Nat) : Nat := if k < n then f k else if k = n then x else if k = n + 1 then y else 0
/-- two blocks are made -/
theorem ext_two (w : World) (f : Nat → Nat) (x y : Nat) (c d : Obj) : Ext (fun _ => False) w ((w.alloc c).alloc d) f (two f w.heap.size x y) := by
  have hb : Below w.heap.size w ((w.alloc c).alloc d) := below_alloc (below_alloc (Below.refl _ _) _) _
  exact ⟨hb.size, fun k hk => if_pos hk, fun k hk _ => hb.block k hk, hb.os, hb.tape, hb.output⟩
theorem two_1 (f : Nat → Nat) (n x y : Nat) : two f n x y n = x := by unfold two; rw [if_neg (Nat.lt_irrefl n), if_pos rfl]
theorem two_2 (f : Nat → Nat) (n x y : Nat) : two f n x y (n + 1) = y := by unfold two; rw [if_neg (by omega), if_neg (by omega), if_pos rfl]
theorem match_new {w : World} {f : Nat → Nat} {x y tb : Nat} {ns : List S183} {rs : List S150} (d : Obj) (h : TrZ w f tb ns rs) : Mt ((w.alloc (.cells #[.pointer (some ⟨tb, 0, none⟩), .slice none 0 0, .int .i64 0, .int .i64 0] 144)).alloc d) (two f w.heap.size x y) x w.heap.size [] 0 ns rs := by
  have k1 := blk_below (blk_new w (.cells #[.pointer (some ⟨tb, 0, none⟩), .slice none 0 0, .int .i64 0, .int .i64 0] 144)) (below_alloc (Below.refl (w.alloc (.cells #[.pointer (some ⟨tb, 0, none⟩), .slice none 0 0, .int .i64 0, .int .i64 0] 144)).heap.size _) d)
  exact ⟨⟨tb, _, 0, k1, own_nil _ _ _ _, fun k hk => by simp [Value.ownBlock] at hk, h.ext (ext_two w f x y _ d) (fun h => h)⟩, two_1 _ _ _ _⟩
theorem MDecode_calls (w : World) (f : Nat → Nat) (tb : Nat) (rs : List S150) (h : TabZ w f tb rs) :
    Calls Tryz.prog 42 #[.pointer (some ⟨tb, 0, none⟩)] w (fun e w' => ∃ d, e = .returned (.iface 120 (.pointer (some ⟨d, 0, none⟩))) ∧ ∀ x, ∃ f', Ext (fun _ => False) w w' f f' ∧ MD w' f' x d [] 0 (nodesF rs) (rs.map outOf)) := by
  obtain ⟨⟨i, o, rb, wb, h1, h2, h3⟩, h4⟩ := h
  have HR := Lib.hid (Read_calls w tb rb wb i o h1)
  have HM := Lib.hid (fun x d => match_new (x := x) (y := 0) d (show TrZ w f rb _ _ from h2))
  clear h1 h2 h3 h4
  go_enter Tryz.func42, Tryz.ntmps42
  go_wp2_with (first
    | (go_at_call 55; refine HR.out.mono ?_; rintro e w1 ⟨rfl, rfl⟩)
    | (go_at_call 54; refine (MOf_calls _ rb).mono ?_; rintro e w2 ⟨rfl, rfl⟩))
  go_ret
  have hs : (w.alloc (.cells #[.pointer (some ⟨rb, 0, none⟩), .slice none 0 0, .int .i64 0, .int .i64 0] 144)).heap.size = w.heap.size + 1 := by simp
  have k2 := blk_new (w.alloc (.cells #[.pointer (some ⟨rb, 0, none⟩), .slice none 0 0, .int .i64 0, .int .i64 0] 144)) (.cells #[.pointer (some ⟨w.heap.size, 0, none⟩)] 126)
  rw [hs] at k2
  exact ⟨w.heap.size + 1, rfl, fun x => ⟨two f w.heap.size x 0, ext_two _ _ _ _ _ _, ⟨⟨_, k2, HM.out x _⟩, two_2 _ _ _ _⟩⟩⟩
theorem MEncode_calls (w : World) (f : Nat → Nat) (tb : Nat) (rs : List S150) (h : TabZ w f tb rs) :
    Calls Tryz.prog 45 #[.pointer (some ⟨tb, 0, none⟩)] w (fun e w' => ∃ d, e = .returned (.pointer (some ⟨d, 0, none⟩)) ∧ ∃ f', Ext (fun _ => False) w w' f f' ∧ En w' f' 22 21 d [] 0 rs []) := by
  have hT := Lib.hid h
  obtain ⟨⟨i, o, rb, wb, h1, h2, h3⟩, h4⟩ := h
  have HR := Lib.hid (Write_calls w tb rb wb i o h1)
  have HM := Lib.hid (fun d => match_new (x := 21) (y := 22) d (show TrZ w f wb _ _ from h3))
  clear h1 h2 h3 h4
  go_enter Tryz.func45, Tryz.ntmps45
  go_wp2_with (first
    | (go_at_call 58; refine HR.out.mono ?_; rintro e w1 ⟨rfl, rfl⟩)
    | (go_at_call 54; refine (MOf_calls _ wb).mono ?_; rintro e w2 ⟨rfl, rfl⟩))
  go_ret
  have hs : (w.alloc (.cells #[.pointer (some ⟨wb, 0, none⟩), .slice none 0 0, .int .i64 0, .int .i64 0] 144)).heap.size = w.heap.size + 1 := by simp
  have k2 := blk_new (w.alloc (.cells #[.pointer (some ⟨wb, 0, none⟩), .slice none 0 0, .int .i64 0, .int .i64 0] 144)) (.cells #[.pointer (some ⟨w.heap.size, 0, none⟩), .pointer (some ⟨tb, 0, none⟩), .slice none 0 0] 134)
  rw [hs] at k2
  have e := ext_two w f 21 22 (.cells #[.pointer (some ⟨wb, 0, none⟩), .slice none 0 0, .int .i64 0, .int .i64 0] 144) (.cells #[.pointer (some ⟨w.heap.size, 0, none⟩), .pointer (some ⟨tb, 0, none⟩), .slice none 0 0] 134)
  exact ⟨w.heap.size + 1, rfl, two f w.heap.size 21 22, e, ⟨_, _, _, k2, Kd.R_nil _ _ _ _ _, HM.out _, hT.out.ext e (fun h => h)⟩, two_2 _ _ _ _⟩
end Go.Proofs.YtnfjgopcenpblaaGreatDoor.T

/- iscii's table; codec.Table; Decode and Encode by name. No condition beyond the ranges. -/
namespace Go.Proofs.YtnfjgopcenpblaaGreatDoor.T
open Go.RowKit Go.Proofs.YtnfjgopcenpblaaGreatDoorW.PrintWords Go.Proofs.YtnfjgopcenpblaaGreatDoorW.PrintLast Go.Proofs.YtnfjgopcenpblaaGreatDoorW.PrintMore Go.Proofs.YtnfjgopcenpblaaGreatDoor
set_option linter.unusedVariables false
set_option linter.unusedSimpArgs false
/-- a function that gives the rules rs -/
def RulesS (fid : FuncId) (args : Array Value) (rs : List S150) : Prop := ∀ w, Calls Tryz.prog fid args w (fun e w' => ∃ ad c, e = .returned (.slice (some ad) rs.length c) ∧ rs.length ≤ c ∧ k150.C w' (some ad) rs.length rs ∧ Below w.heap.size w w')
/-- a function that gives rs' table -/
def TabS (fid : FuncId) (args : Array Value) (rs : List S150) : Prop := ∀ w, Calls Tryz.prog fid args w (fun e w' => ∃ b, e = .returned (.pointer (some ⟨b, 0, none⟩)) ∧ Tab w' (fun k => w.heap.size ≤ k) b rs ∧ Below w.heap.size w w')
theorem TabP.up {w w1 : World} {rs : List S150} {e : Ending} {w' : World} (hb : Below w.heap.size w w1) (h : TabP w1 rs e w') : TabP w rs e w' := by
  obtain ⟨b, he, ht, h2⟩ := h
  exact ⟨b, he, ht.mono (fun k hk => Nat.le_trans hb.size hk), below_step hb h2⟩
theorem All53_calls {rs : List S150} (hr : RulesS 64 #[] rs) (hg : Good rs) : TabS 53 #[] rs := by
  intro w
  replace hr := Lib.hid hr
  replace hg := Lib.hid hg
  go_enter Tryz.func53, Tryz.ntmps53
  go_wp2_with (first
    | (go_at_call 64; refine (hr.out w).mono ?_; rintro e w1 ⟨ad, c, rfl, hc, hC, hb1⟩; replace hC := Lib.hid hC; replace hb1 := Lib.hid hb1)
    | (go_at_call 57; refine (TabOf_calls w1 (some ad) c rs hC.out hc hg.out).mono ?_; intro e w2 hP; obtain ⟨b, rfl, ht, hb2⟩ := TabP.up hb1.out hP; replace ht := Lib.hid ht; replace hb2 := Lib.hid hb2; clear hP))
  go_ret
  exact ⟨_, rfl, ht.out, hb2.out⟩
theorem tabz_new {w w' : World} {f : Nat → Nat} {b : Nat} {rs : List S150} (ht : Tab w' (fun k => w.heap.size ≤ k) b rs) (hb : Below w.heap.size w w') : TabZ w' (newF f w.heap.size 0) b rs := ht.mono (fun k hk => newF_new hk)
theorem IDecode_calls {rs : List S150} (hT : TabS 53 #[] rs) (w : World) (f : Nat → Nat) :
    Calls Tryz.prog 41 #[] w (fun e w' => ∃ b f', e = .returned (.pointer (some ⟨b, 0, none⟩)) ∧ Ext (fun _ => False) w w' f f' ∧ ID w' f' 10 12 b 0 [] 0 (nodesF rs) (rs.map outOf)) := by
  replace hT := Lib.hid hT
  go_enter Tryz.func41, Tryz.ntmps41
  go_wp2_with (first
    | (go_at_call 53; refine (hT.out w).mono ?_; rintro e w1 ⟨tb, rfl, ht, hb1⟩; have hE := Lib.hid (Ext.new (T := fun _ => False) (f := f) 0 hb1); have hZ := Lib.hid (tabz_new (f := f) ht hb1); clear ht hb1)
    | (go_at_call 42; refine (MDecode_calls w1 _ tb rs hZ.out).mono ?_; rintro e w2 ⟨d, rfl, H⟩; obtain ⟨f2, E2, M2⟩ := H 12; replace E2 := Lib.hid (hE.out.trans E2); replace M2 := Lib.hid M2; clear H))
  go_ret
  have k3 := blk_new w2 (.cells #[.iface 120 (.pointer (some ⟨d, 0, none⟩)), .int .i64 0] 119)
  have e3 := Ext.new (T := fun _ => False) (f := f2) 10 (below_alloc (Below.refl w2.heap.size w2) (.cells #[.iface 120 (.pointer (some ⟨d, 0, none⟩)), .int .i64 0] 119))
  exact ⟨_, _, rfl, E2.out.trans e3, ⟨d, k3, M2.out.ext e3 (fun h => h) (fun h => h)⟩, newF_new (Nat.le_refl _)⟩
theorem IEncode_calls {rs : List S150} (hT : TabS 53 #[] rs) (w : World) (f : Nat → Nat) :
    Calls Tryz.prog 44 #[] w (fun e w' => ∃ b ee bs f', e = .returned (.pointer (some ⟨b, 0, none⟩)) ∧ Ext (fun _ => False) w w' f f' ∧ IE w' f' b ee bs rs 0 0 [] 0 []) := by
  replace hT := Lib.hid hT
  go_enter Tryz.func44, Tryz.ntmps44
  go_wp2_with (first
    | (go_at_call 53; refine (hT.out w).mono ?_; rintro e w1 ⟨tb, rfl, ht, hb1⟩; have hE := Lib.hid (Ext.new (T := fun _ => False) (f := f) 0 hb1); have hZ := Lib.hid (tabz_new (f := f) ht hb1); clear ht hb1)
    | (go_at_call 45; refine (MEncode_calls w1 _ tb rs hZ.out).mono ?_; rintro e w2 ⟨d, rfl, f2, E2, M2⟩; replace E2 := Lib.hid (hE.out.trans E2); replace M2 := Lib.hid M2))
  go_ret
  have k3 := blk_new w2 (.cells #[.pointer (some ⟨d, 0, none⟩), .int .i64 0, .int .i64 0, .int .i64 0] 132)
  have e3 := Ext.new (T := fun _ => False) (f := f2) 20 (below_alloc (Below.refl w2.heap.size w2) (.cells #[.pointer (some ⟨d, 0, none⟩), .int .i64 0, .int .i64 0, .int .i64 0] 132))
  exact ⟨_, d, .int .i64 0, _, rfl, E2.out.trans e3, k3, M2.out.ext e3 (fun h => h) (fun h => h) (fun h => h), newF_new (Nat.le_refl _)⟩
end Go.Proofs.YtnfjgopcenpblaaGreatDoor.T
