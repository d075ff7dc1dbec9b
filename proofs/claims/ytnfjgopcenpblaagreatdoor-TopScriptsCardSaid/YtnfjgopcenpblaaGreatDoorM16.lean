/- Texts of this claim, one behind the other (merged by a program): TX9, TY1, TY2, TY3, TY4. No condition of their own. -/
import Derived.Test.YtnfjgopcenpblaaGreatDoorM15
import Derived.Lib.SlBytesConst
/- The awake call: its two conversions. No condition. -/
namespace Go.Proofs.YtnfjgopcenpblaaGreatDoor.T
open Go.RowKit Go.Proofs.YtnfjgopcenpblaaGreatDoorW.PrintWords Go.Proofs.YtnfjgopcenpblaaGreatDoorW.PrintLast Go.Proofs.YtnfjgopcenpblaaGreatDoorW.PrintMore Go.Proofs.YtnfjgopcenpblaaGreatDoor
set_option linter.unusedVariables false
set_option linter.unusedSimpArgs false
theorem visR_at {r : S150} (hr : r ∈ visR 256) : ∃ n : Nat, n < 256 ∧ r = ⟨[(n : Int)], [vis n]⟩ := by
  unfold visR at hr
  obtain ⟨n, hn, rfl⟩ := List.mem_map.1 hr
  exact ⟨n, List.mem_range.1 hn, rfl⟩
theorem tisR_at {r : S150} (hr : r ∈ tisR 256) : ∃ n : Nat, n < 256 ∧ decB n = true ∧ r = ⟨[(n : Int)], [dec n]⟩ := by
  unfold tisR at hr
  obtain ⟨n, hn, rfl⟩ := List.mem_map.1 hr
  rw [List.mem_filter] at hn
  exact ⟨n, List.mem_range.1 hn.1, hn.2, rfl⟩
theorem one_by8 {n : Nat} (h : n < 256) : by8 [(n : Int)] = [(n : Int)] := by
  show [(n : Int) % 256] = _
  congr 1
  omega
theorem sg_of {rs : List S150} (hf : Fine rs) (h : ∀ r ∈ rs, ∃ (n : Nat) (v : Int), n < 256 ∧ r = ⟨[(n : Int)], [v]⟩) : Sg rs := by
  refine ⟨⟨hf, fun r hr => ?_, fun r hr => ?_, fun r hr => ?_⟩, fun r hr => ?_, fun r hr => ?_⟩ <;> obtain ⟨n, v, hn, rfl⟩ := h r hr
  · exact .inl rfl
  · exact .inl rfl
  · exact one_by8 hn
  · rfl
  · rfl
theorem visR_sg : Sg (visR 256) := sg_of visR_fine (fun r hr => by obtain ⟨n, hn, e⟩ := visR_at hr; exact ⟨n, _, hn, e⟩)
theorem tisR_sg : Sg (tisR 256) := sg_of tisR_fine (fun r hr => by obtain ⟨n, hn, _, e⟩ := tisR_at hr; exact ⟨n, _, hn, e⟩)
theorem visR_mem {n : Nat} (h : n < 256) : (⟨[(n : Int)], [vis n]⟩ : S150) ∈ visR 256 := by
  unfold visR
  exact List.mem_map.2 ⟨n, List.mem_range.2 h, rfl⟩
theorem tisR_mem {n : Nat} (h : n < 256) (hd : decB n = true) : (⟨[(n : Int)], [dec n]⟩ : S150) ∈ tisR 256 := by
  unfold tisR
  exact List.mem_map.2 ⟨n, List.mem_filter.2 ⟨List.mem_range.2 h, hd⟩, rfl⟩
theorem visR_tab : TabS 43 #[.string nmV] (visR 256) := Table_calls codec_vis visR_fine.good
theorem tisR_tab : TabS 43 #[.string nmT] (tisR 256) := Table_calls codec_tis tisR_fine.good
theorem irR_tab : TabS 53 #[] irR := All53_calls IRules_calls irR_fine.good
/-- what awake reads of VISCII -/
theorem awake_vis (w : World) (A : Option Addr) (c : Nat) (hC : (Kd.int .u8).C w A 5 [84, 105, 170, 110, 103]) :
    Calls Tryz.prog 8 #[.string nmV, .string nmU, .int .i64 0, .slice A 5 c] w (AllP w ([84, 105, 225, 186, 191, 110, 103], st0)) := by
  have h := tab_to_utf visR_sg name_v (by kernel_rfl) (by kernel_rfl) visR_tab w A c [⟨[84], [84]⟩, ⟨[105], [105]⟩, ⟨[170], [7871]⟩, ⟨[110], [110]⟩, ⟨[103], [103]⟩]
  have v1 : vis 84 = 84 := by kernel_rfl
  have v2 : vis 105 = 105 := by kernel_rfl
  have v3 : vis 170 = 7871 := by kernel_rfl
  have v4 : vis 110 = 110 := by kernel_rfl
  have v5 : vis 103 = 103 := by kernel_rfl
  refine h (fun r hr => ?_) (by decide) (fun u hu => ?_) hC
  · rcases List.mem_cons.1 hr with rfl | hr
    · have := visR_mem (n := 84) (by decide); rw [show ((84 : Nat) : Int) = 84 from rfl, v1] at this; exact this
    rcases List.mem_cons.1 hr with rfl | hr
    · have := visR_mem (n := 105) (by decide); rw [show ((105 : Nat) : Int) = 105 from rfl, v2] at this; exact this
    rcases List.mem_cons.1 hr with rfl | hr
    · have := visR_mem (n := 170) (by decide); rw [show ((170 : Nat) : Int) = 170 from rfl, v3] at this; exact this
    rcases List.mem_cons.1 hr with rfl | hr
    · have := visR_mem (n := 110) (by decide); rw [show ((110 : Nat) : Int) = 110 from rfl, v4] at this; exact this
    rcases List.mem_cons.1 hr with rfl | hr
    · have := visR_mem (n := 103) (by decide); rw [show ((103 : Nat) : Int) = 103 from rfl, v5] at this; exact this
    · simp at hr
  · have : ∀ u ∈ [84, 105, 7871, 110, 103], scalB u = true := by decide
    exact this u hu
section
variable {rs : List S150} (hI : Isc rs) (hk : Okay rs)
include hI
theorem ienc_plain {out : List Int} {s a ea u : Int} {ah row : List Int} (hs : iSw s u = false) (h1 : kidB (rs.map swp) [iVal u] = false) (h2 : out1 (rs.map swp) [iVal u] = some row) (h3 : joinsF rs ah row = false) (h8 : by8 row = row) :
    put1 (mIenc rs hk) ⟨out, st0, ⟨s, a, [], ea, ah⟩⟩ u = ⟨out ++ row, st0, ⟨s, wrap64 (a + 1), [], wrap64 (ea + 1), row⟩⟩ ∧ outsLen ((mIenc rs hk).put ⟨s, a, [], ea, ah⟩ u).1 = row.length := by
  obtain ⟨e1, e2⟩ := ePut_good hI.wr h1 h2 h3 ea
  have hB : iBefore rs ⟨s, a, [], ea, ah⟩ u = ([], ⟨s, a, [], ea, ah⟩) := by unfold iBefore; rw [hs]; rfl
  have hp : (mIenc rs hk).put ⟨s, a, [], ea, ah⟩ u = ([⟨ea, 1, row, 0⟩], ⟨s, wrap64 (a + 1), [], wrap64 (ea + 1), row⟩) := by
    show iPut rs _ u = _
    unfold iPut iAfter
    rw [hB]
    simp only
    rw [e1, e2]
    rfl
  unfold put1
  rw [hp]
  refine ⟨?_, rfl⟩
  show (⟨(wrF out st0 _).1, _, _⟩ : SSt (mIenc rs hk).σ) = _
  rw [wrF, if_neg (by simp), if_pos rfl, h8, wrF]
theorem ienc_sw {out : List Int} {s a ea u : Int} {ah row : List Int} (hs : iSw s u = true) (h1 : kidB (rs.map swp) [iVal u] = false) (h2 : out1 (rs.map swp) [iVal u] = some row) (h8 : by8 row = row) (h9 : by8 [239, codeI (ofI u).1] = [239, codeI (ofI u).1]) :
    put1 (mIenc rs hk) ⟨out, st0, ⟨s, a, [], ea, ah⟩⟩ u = ⟨out ++ [239, codeI (ofI u).1] ++ row, st0, ⟨(ofI u).1, wrap64 (a + 1), [], wrap64 (ea + 1), row⟩⟩ ∧ outsLen ((mIenc rs hk).put ⟨s, a, [], ea, ah⟩ u).1 = 2 + row.length := by
  obtain ⟨e1, e2⟩ := ePut_good hI.wr (ah := []) h1 h2 rfl ea
  have hB : iBefore rs ⟨s, a, [], ea, ah⟩ u = ([⟨a, 0, [239, codeI (ofI u).1], 0⟩], ⟨(ofI u).1, a, [], ea, []⟩) := by unfold iBefore; rw [hs]; rfl
  have hp : (mIenc rs hk).put ⟨s, a, [], ea, ah⟩ u = ([⟨a, 0, [239, codeI (ofI u).1], 0⟩, ⟨ea, 1, row, 0⟩], ⟨(ofI u).1, wrap64 (a + 1), [], wrap64 (ea + 1), row⟩) := by
    show iPut rs _ u = _
    unfold iPut iAfter
    rw [hB]
    simp only
    rw [e1, e2]
    rfl
  unfold put1
  rw [hp]
  refine ⟨?_, ?_⟩
  · show (⟨(wrF out st0 _).1, _, _⟩ : SSt (mIenc rs hk).σ) = _
    rw [wrF, if_neg (by simp), if_pos rfl, h9, wrF, if_neg (by simp), if_pos rfl, h8, wrF]
  · show 2 + (row.length + 0) = _; omega
theorem ienc_three (f1 : kidB (rs.map swp) [21] = false) (f2 : out1 (rs.map swp) [21] = some [179]) (f3 : kidB (rs.map swp) [8289] = false) (f4 : out1 (rs.map swp) [8289] = some [97]) (f5 : joinsF rs [179] [97] = false) :
    okW (mIenc rs hk) ⟨[], st0, ⟨0, 0, [], 0, []⟩⟩ [2325, 97, 2453] ∧ (wAll (mIenc rs hk) ⟨[], st0, ⟨0, 0, [], 0, []⟩⟩ [2325, 97, 2453]).out = [179, 97, 239, 67, 179] ∧ (wAll (mIenc rs hk) ⟨[], st0, ⟨0, 0, [], 0, []⟩⟩ [2325, 97, 2453]).st = st0 := by
  have v1 : iVal 2325 = 21 := by kernel_rfl
  have v2 : iVal 97 = 8289 := by kernel_rfl
  have v3 : iVal 2453 = 21 := by kernel_rfl
  obtain ⟨p1, o1⟩ := ienc_plain hI hk (out := []) (s := 0) (a := 0) (ea := 0) (u := 2325) (ah := []) (row := [179]) (by kernel_rfl) (by rw [v1]; exact f1) (by rw [v1]; exact f2) rfl rfl
  obtain ⟨p2, o2⟩ := ienc_plain hI hk (out := [] ++ [179]) (s := 0) (a := wrap64 (0 + 1)) (ea := wrap64 (0 + 1)) (u := 97) (ah := [179]) (row := [97]) (by kernel_rfl) (by rw [v2]; exact f3) (by rw [v2]; exact f4) f5 rfl
  obtain ⟨p3, o3⟩ := ienc_sw hI hk (out := [] ++ [179] ++ [97]) (s := 0) (a := wrap64 (wrap64 (0 + 1) + 1)) (ea := wrap64 (wrap64 (0 + 1) + 1)) (u := 2453) (ah := [97]) (row := [179]) (by kernel_rfl) (by rw [v3]; exact f1) (by rw [v3]; exact f2) rfl (by kernel_rfl)
  have hc : (ofI 2453).1 = 1 := by kernel_rfl
  have hall : tkPuts (mIenc rs hk) ⟨[], st0, ⟨0, 0, [], 0, []⟩⟩ [2325, 97, 2453] = ⟨[] ++ [179] ++ [97] ++ [239, codeI (ofI 2453).1] ++ [179], st0, ⟨(ofI 2453).1, wrap64 (wrap64 (wrap64 (0 + 1) + 1) + 1), [], wrap64 (wrap64 (wrap64 (0 + 1) + 1) + 1), [179]⟩⟩ := by
    rw [tkPuts, if_pos rfl, p1, tkPuts, if_pos rfl, p2, tkPuts, if_pos rfl, p3, tkPuts]
  have hend : ∀ (out : List Int) (s a ea : Int) (ah : List Int), end1 (mIenc rs hk) ⟨out, st0, ⟨s, a, [], ea, ah⟩⟩ = ⟨out, st0, ⟨s, a, [], ea, ah⟩⟩ := fun out s a ea ah => rfl
  refine ⟨⟨?_, fun _ => ?_⟩, ?_⟩
  · rw [okPuts, if_pos rfl, p1, okPuts, if_pos rfl, p2, okPuts, if_pos rfl, p3, okPuts]
    refine ⟨fun _ => ⟨⟨by simp, by simp⟩, ?_⟩, fun _ => ⟨⟨by simp, by simp⟩, ?_⟩, fun _ => ⟨⟨by simp, by simp⟩, ?_⟩, trivial⟩
    · rw [o1]; simp
    · rw [o2]; simp
    · rw [o3]; simp
  · rw [hall]
    exact ⟨⟨by simp, by simp⟩, by show _ + 0 ≤ _; simp⟩
  · unfold wAll
    rw [hall, if_pos rfl, hend, hc]
    exact ⟨rfl, rfl⟩
end
theorem join_eval {rs : List S150} (h : Fine rs) (ah us : List Int) (hne : ah ≠ []) (hl : (longS rs (ah ++ us)).2.1 ≤ ah.length) : joinsF rs ah us = false := by
  unfold joinsF
  rw [if_neg hne, h.readL]
  exact decide_eq_false (by omega)
theorem ir_f1 : kidB (irR.map swp) [21] = false := by kernel_rfl
theorem ir_f2 : out1 (irR.map swp) [21] = some [179] := by kernel_rfl
theorem ir_f3 : kidB (irR.map swp) [8289] = false := by kernel_rfl
theorem ir_f4 : out1 (irR.map swp) [8289] = some [97] := by kernel_rfl
theorem ir_f5 : (longS irR [179, 97]).2.1 = 1 := by kernel_rfl
/-- what awake writes of ISCII -/
theorem awake_isc (w : World) (A : Option Addr) (c : Nat) (hC : (Kd.int .u8).C w A 7 [224, 164, 149, 97, 224, 166, 149]) :
    Calls Tryz.prog 8 #[.string nmU, .string nmI, .int .i64 0, .slice A 7 c] w (AllP w ([179, 97, 239, 67, 179], st0)) := by
  have hk := irR_fine.okay
  obtain ⟨k1, k2, k3⟩ := ienc_three irR_isc hk ir_f1 ir_f2 ir_f3 ir_f4 (join_eval irR_fine [179] [97] (by simp) (by show (longS irR [179, 97]).2.1 ≤ 1; rw [ir_f5]; decide))
  have hS : ∀ u ∈ [2325, 97, 2453], scalB u = true := by decide
  have hx : ([2325, 97, 2453] : List Int).flatMap encS = [224, 164, 149, 97, 224, 166, 149] := by decide
  obtain ⟨a1, a2⟩ := all_rds (R := mBytes) (M := mIenc irR hk) _ _ (([], 0) : List Int × Int) ⟨[], st0, ⟨0, 0, [], 0, []⟩⟩ (utf_rds [2325, 97, 2453] 0 hS (Int.le_refl _) (by decide)) k1
  rw [hx] at a1 a2
  have := All_calls w nmU nmI _ _ name_u name_i dec_utf (enc_iscii irR_tab hk) A c [224, 164, 149, 97, 224, 166, 149] hC (hx ▸ enc_flat_bytes hS) (by decide) _ a1 a2
  rw [k2, k3] at this
  exact this
end Go.Proofs.YtnfjgopcenpblaaGreatDoor.T

/- awake: true. No condition. -/
namespace Go.Proofs.YtnfjgopcenpblaaGreatDoor.T
open Go.RowKit Go.Proofs.YtnfjgopcenpblaaGreatDoorW.PrintWords Go.Proofs.YtnfjgopcenpblaaGreatDoorW.PrintLast Go.Proofs.YtnfjgopcenpblaaGreatDoorW.PrintMore Go.Proofs.YtnfjgopcenpblaaGreatDoor
set_option linter.unusedVariables false
set_option linter.unusedSimpArgs false
section
variable {P : Program} {ops : Array Oper} {rest : List Oper} {o : Oper} {a : Act} {Q : Exit → Act → World → Prop}
theorem reps_bytes {w : World} {ok : Nat → Prop} : ∀ xs : List Int, Reps ((Kd.int .u8).M w 0 ok) 1 xs (xs.map (Value.int .u8))
  | [] => Reps.none _ _
  | x :: xs => Reps.one (show (Kd.int .u8).M w 0 ok x [.int .u8 x] from rfl) (reps_bytes xs)
/-- a row of bytes as written -/
theorem blit {wr W : World} (xs : List Int) (hgd : o.guard = none) {N : Tmp} (hd : o.dst = some N)
    (hrun : (execOp a.eval o).run P W = .ok (.value (.slice (some ⟨W.heap.size, 0, none⟩) xs.length xs.length)) (W.alloc (.cells (xs.map (Value.int .u8)).toArray 5)))
    (HB : Hid (Below wr.heap.size wr W)) (hm : xs.length ≤ 1000000)
    (h : ∀ A c w1, Hid ((Kd.int .u8).R 5 w1 0 (fun k => wr.heap.size ≤ k) (.slice A xs.length c) xs) → Hid (Below wr.heap.size wr w1) → Hid (Below W.heap.size W w1) → wpList P ops Q rest (a.put o.dst (.slice A xs.length c)) w1) : wpList P ops Q (o :: rest) a W := by
  have HB := HB.out
  refine Kd.R_lit (Kd.int .u8) (w0 := W) 0 5 hgd (N := N) hd (xs := xs) (inner := xs.map (Value.int .u8)) (ok := fun k => wr.heap.size ≤ k) (okp := fun _ => False) hrun (reps_bytes xs) (fun _ hk => hk.elim) HB.size (Below.refl _ _) (Nat.zero_le _) (by omega) ?_
  intro v1 w1 ho _ hg _
  obtain ⟨A, c, rfl⟩ := Kd.R_slice ho
  exact h A c w1 (Lib.hid ho) (Lib.hid (HB.grown hg HB.size (fun k hk => by cases hk))) (Lib.hid ((Below.refl _ _).grown hg (Nat.le_refl _) (fun k hk => by cases hk)))
end
/-- where a fault lies -/
def FT (W : World) (g : Nat) (x y z : Int) : Prop := W.heap[g]? = some (.cells #[.int .i64 x, .int .i64 y, .int .i64 z] 30 (0, 0))
theorem FT.step {W W' : World} {g : Nat} {x y z : Int} (h : FT W g x y z) (hb : Below W.heap.size W W') : FT W' g x y z := blk_below h hb
theorem store_ft {P : Program} {ops : Array Oper} {rest : List Oper} {o : Oper} {a : Act} {W : World} {Q : Exit → Act → World → Prop} (hgd : o.guard = none) (p v : Operand) (ho : o.op = .store 30 p v) (hd : o.dst = none) (x y z : Int) (hx : a.eval p = .pointer (some ⟨W.heap.size, 0, none⟩)) (hy : a.eval v = .agg #[.int .i64 x, .int .i64 y, .int .i64 z]) (hi : (P.info? 30).map (·.size) = some 3)
    (h : ∀ w1, Hid (Below W.heap.size W w1) → Hid (FT w1 W.heap.size x y z) → wpList P ops Q rest a w1) : wpList P ops Q (o :: rest) a (W.alloc (.cells #[.int .i64 0, .int .i64 0, .int .i64 0] 30)) :=
  wpList_store_fresh hgd 30 p v ho hd #[.int .i64 x, .int .i64 y, .int .i64 z] #[.int .i64 0, .int .i64 0, .int .i64 0] 30 hx hy hi rfl (by simp [Value.oneCell']) (h _ (Lib.hid (below_alloc (Below.refl _ _) _)) (Lib.hid (blk_new _ _)))
theorem R_C {α : Type} {d : Kd α} {e : Nat} {w : World} {ok : Nat → Prop} {A : Option Addr} {c n : Nat} {xs : List α} (h : d.R e w 0 ok (.slice A n c) xs) : d.C w A n xs := by
  obtain ⟨A', c', he, _, hC⟩ := Kd.R_reads h
  obtain ⟨rfl, rfl, rfl⟩ : A = A' ∧ n = xs.length ∧ c = c' := by simpa using he
  exact hC
theorem bytes_C {W : World} {g : Nat} (xs : List Int) {fr : Nat × Nat} (h : W.heap[g]? = some (.cells (xs.map (Value.int .u8)).toArray 5 fr)) (hl : xs.length ≤ 1000000) : (Kd.int .u8).C W (some ⟨g, 0, none⟩) xs.length xs := by
  refine ⟨rfl, by omega, fun _ => ⟨_, rfl, fun j p hj => ⟨[.int .u8 p], rfl, rfl, fun i u hi => ?_⟩⟩⟩
  have hi0 : i = 0 := by
    have := (List.getElem?_eq_some_iff.1 hi).1
    simpa using this
  subst hi0
  obtain rfl : Value.int .u8 p = u := by simpa using hi
  have := cell_of_row W g j _ 5 fr h
  have ha : (⟨g, 0, none⟩ : Addr).add (j * (Kd.int .u8).sz + 0) = ⟨g, j, none⟩ := by
    show (⟨g, 0, none⟩ : Addr).add (j * 1 + 0) = _
    cases j <;> simp [Addr.add]
  rw [ha, this]
  simp [hj]
theorem info30 : (Tryz.prog.info? 30).map (·.size) = some 3 := by kernel_rfl
set_option maxRecDepth 100000 in
theorem Awake_calls (w : World) : Calls Tryz.prog 5 #[] w (fun e w' => e = .returned (.bool true) ∧ Below w.heap.size w w') := by
  have H1 := Lib.hid awake_vis
  have H2 := Lib.hid awake_isc
  have HB := Lib.hid (Below.refl w.heap.size w)
  go_enter Tryz.func5, Tryz.ntmps5
  go_wp2_with (first
    | ((with_reducible refine gate_dst (N := 8) rfl ?_); refine blit (wr := w) [84, 105, 170, 110, 103] rfl (N := 8) rfl ?hr HB (by simp) ?_; (case hr => first | (go_simp; done) | (go_simp; rfl)); intro A1 c1 w1 g1 HB1 _)
    | (go_at_call 8; refine (H1.out w1 A1 c1 (R_C g1.out)).mono ?_; rintro e w2 ⟨v2, rfl, hb2, hR2⟩; obtain ⟨A2, c2, rfl⟩ := Kd.R_slice hR2; have HB2 := Lib.hid (below_step HB1.out hb2); replace hR2 := Lib.hid hR2; clear hb2 g1 HB1 H1)
    | ((with_reducible refine gate_store (t := 30) (p := 2) rfl ?_); refine store_ft rfl (.tmp 2) (.tmp 11) rfl rfl 0 0 0 rfl rfl info30 ?_; intro w3 hb3 F3; have HB3 := Lib.hid (below_step HB2.out hb3.out); replace hR2 := Lib.hid (Kd.R_below hR2.out hb3.out); clear hb3 HB2; generalize w2.heap.size = g2 at F3 ⊢; have hcv := Go.Lib.run_convert_bytes_const (P := Tryz.prog) w3 22 5 #[.int .u8 224, .int .u8 164, .int .u8 149, .int .u8 97, .int .u8 224, .int .u8 166, .int .u8 149] 7 7 Tryz.underlying22 Tryz.underlying5)
    | (go_at_call 8; refine (H2.out _ (some ⟨w3.heap.size, 0, none⟩) 7 (bytes_C [224, 164, 149, 97, 224, 166, 149] (blk_new _ _) (by decide))).mono ?_; rintro e w5 ⟨v5, rfl, hb5, hR5⟩; obtain ⟨A5, c5, rfl⟩ := Kd.R_slice hR5; replace hb5 := below_step (below_alloc (Below.refl _ _) _) hb5; have HB5 := Lib.hid (below_step HB3.out hb5); replace hR2 := Lib.hid (Kd.R_below hR2.out hb5); replace F3 := Lib.hid (F3.out.step hb5); replace hR5 := Lib.hid hR5; clear hb5 HB3 H2 hcv)
    | ((with_reducible refine gate_store (t := 30) (p := 5) rfl ?_); refine store_ft rfl (.tmp 5) (.tmp 18) rfl rfl 0 0 0 rfl rfl info30 ?_; intro w6 hb6 F6; have HB6 := Lib.hid (below_step HB5.out hb6.out); have e1 : (convert 22 9 (.slice A2 7 c2)).run Tryz.prog w6 = .ok (.string ⟨#[84, 105, 225, 186, 191, 110, 103]⟩) w6 := (Kd.C_string (P := Tryz.prog) (src := 22) (dst := 9) (c := c2) Tryz.underlying22 Tryz.underlying5 Tryz.underlying9 (R_C (Kd.R_below hR2.out hb6.out))).trans (show _ = Result.ok (Value.string ⟨#[84, 105, 225, 186, 191, 110, 103]⟩) w6 by kernel_rfl); have e2 : (convert 22 9 (.slice A5 5 c5)).run Tryz.prog w6 = .ok (.string ⟨#[179, 97, 239, 67, 179]⟩) w6 := (Kd.C_string (P := Tryz.prog) (src := 22) (dst := 9) (c := c5) Tryz.underlying22 Tryz.underlying5 Tryz.underlying9 (R_C (Kd.R_below hR5.out hb6.out))).trans (show _ = Result.ok (Value.string ⟨#[179, 97, 239, 67, 179]⟩) w6 by kernel_rfl); have z3 : w6.cell? ⟨g2, 2, none⟩ = some (.int .i64 0) := (blk_cell (F3.out.step hb6.out) 2).trans rfl; have z6 : w6.cell? ⟨w5.heap.size, 2, none⟩ = some (.int .i64 0) := (blk_cell F6.out 2).trans rfl; clear hb6 HB5 hR2 hR5 F3 F6))
  go_ret
  exact ⟨rfl, HB6.out⟩
end Go.Proofs.YtnfjgopcenpblaaGreatDoor.T

/- lontarlaw18.Scalars: the scalars of numbers. No condition beyond the ranges. -/
namespace Go.Proofs.YtnfjgopcenpblaaGreatDoor.T
open Go.RowKit Go.Proofs.YtnfjgopcenpblaaGreatDoorW.PrintWords Go.Proofs.YtnfjgopcenpblaaGreatDoorW.PrintLast Go.Proofs.YtnfjgopcenpblaaGreatDoorW.PrintMore Go.Proofs.YtnfjgopcenpblaaGreatDoor
set_option linter.unusedVariables false
set_option linter.unusedSimpArgs false
attribute [local go_sem] max2_int min2_int max_two min_two
/-- a row of numbers that was made since w -/
def MadeI (w W : World) (u : Value) (out : List Int) : Prop := Below w.heap.size w W ∧ (Kd.int .i64).R 3 W 0 (fun k => w.heap.size ≤ k) u out
theorem MadeI.step {w W W' : World} {u : Value} {out : List Int} (h : MadeI w W u out) (hb : Below W.heap.size W W') : MadeI w W' u out := ⟨below_step h.1 hb, Kd.R_below h.2 hb⟩
theorem int_app {ops : Array Oper} {rest : List Oper} {o : Oper} {a : Act} {Q : Exit → Act → World → Prop} {w wr W : World} {u : Value} {out : List Int} (x : Int) (s y : Operand) (hgd : o.guard = none) (ho : o.op = .call { callee := .builtin .append, args := #[s, y], argTypes := #[25, 25] })
    (HM : Hid (MadeI w wr u out)) (HB : Below wr.heap.size wr W) (hl : out.length ≤ 1000000) (hs : a.eval s = u) (hx : a.eval y = .slice (some ⟨W.heap.size, 0, none⟩) 1 1)
    (h : ∀ u' w1, Hid (MadeI w w1 u' (out ++ [x])) → wpList Tryz.prog ops Q rest (a.put o.dst u') w1) : wpList Tryz.prog ops Q (o :: rest) a (W.alloc (.cells #[.int .i64 x] 3)) := by
  have HM := HM.out
  refine Kd.R_append (Kd.int .i64) (w0 := W) 0 hgd s y 25 3 (.int .i64 0) 8 ho Tryz.underlying25 info3 rfl (by decide) (by omega) u out x [.int .i64 x] (fun k => w.heap.size ≤ k) (fun _ => False) hs hx rfl (fun _ hk => hk.elim) (fun k hk => Nat.le_trans (below_step HM.1 HB).size hk) (Kd.R_below HM.2 HB) (Below.refl _ _) (Nat.zero_le _) (by omega) ?_
  intro u' w1 ho _ hg _
  exact h u' w1 (Lib.hid ⟨(below_step HM.1 HB).grown hg (below_step HM.1 HB).size (fun k hk => HM.2.1 k hk), ho⟩)
def scT : List Int := [8204, 8205, 2404, 97, 2364, 2381, 2509, 2492, 2314, 3349]
def sc1 (n : Int) : Int := if n < 30 then scT.getD (n.toNat % 10) 0 else if n < 140 then 2304 + n % 128 else if n < 220 then 2432 + n % 128 else 2325 + 128 * (n % 9)
theorem scT_get (k : Nat) (h : k < 10) : ((scT.map (Value.int .i64)).toArray)[k]? = some (.int .i64 (scT.getD k 0)) := by
  have h' : k < scT.length := h
  simp [h']
theorem sc_map {l : List Int} {i : Nat} (h : i < l.length) : (l.take (i + 1)).map sc1 = (l.take i).map sc1 ++ [sc1 l[i]] := by
  rw [List.take_succ_eq_append_getElem h, List.map_append]; rfl
set_option maxRecDepth 100000 in
set_option maxHeartbeats 1600000 in
theorem Scalars_calls (w : World) (A : Option Addr) (c : Nat) (l : List Int) (hC : (Kd.int .u8).C w A l.length l) (hc : l.length ≤ c) (hB : Bytes l) :
    Calls Tryz.prog 7 #[.slice A l.length c] w fun e w' => ∃ u, e = .returned u ∧ MadeI w w' u ((l.take 60).map sc1) := by
  obtain ⟨i05, hi05, hsz5⟩ := Option.map_eq_some_iff.1 info5
  have ht : l.take (((l.take 60).length : Nat) : Int).toNat = l.take 60 := by
    rw [Int.toNat_natCast, List.length_take]
    rw [List.take_eq_take_iff]; omega
  have hm : (if 60 < (l.length : Int) then 60 else (l.length : Int)) = (((l.take 60).length : Nat) : Int) := by
    rw [List.length_take]; split <;> omega
  have h60 : (l.take 60).length ≤ 60 := by rw [List.length_take]; omega
  obtain ⟨hcut, hA, hC2⟩ := print_take_of (P := Tryz.prog) (Value.int .u8) 0 22 5 .i64 Tryz.underlying22 hi05 (by simp only [Prod.mk.injEq] at hsz5; exact hsz5.2.1) A c l (((l.take 60).length : Nat) : Int) (by omega) (by rw [List.length_take]; omega) hc
  rw [ht] at hcut hA hC2
  have hBt : Bytes (l.take 60) := fun x hx => hB x (List.mem_of_mem_take hx)
  generalize l.take 60 = t at *
  replace hC := Lib.hid hC
  replace hA := Lib.hid hA
  replace hBt := Lib.hid hBt
  have HM := Lib.hid (show MadeI w w (.slice none 0 0) ((t.take 0).map sc1) from ⟨Below.refl _ _, Kd.R_nil _ _ _ _ _⟩)
  clear ht hi05 hsz5 hB hc
  go_enter Tryz.func7, Tryz.ntmps7
  go_wp2
  clear hcut hm
  go_loopg [3, 12] (t.length + 1) (fun kq u v w' => ∃ (i : Nat), v = .int .i64 i ∧ Hid (MadeI w w' u ((t.take i).map sc1)) ∧ Hid (i ≤ t.length ∧ t.length + 1 = kq + i))
  case atStart => exact ⟨0, rfl, HM, Lib.hid ⟨by omega, by omega⟩⟩
  case round =>
    clear HM
    obtain ⟨i, rfl, HM, H⟩ := hrel
    obtain ⟨i0, i1⟩ := H.out
    clear H
    cases gk with
    | zero => exact absurd i1 (by omega)
    | succ gk =>
      by_cases hi : i < t.length
      · have di := lt_dec hi
        have p0 := nat_tr i
        have p1 := lt_tr hi
        obtain ⟨ad, rfl, hx⟩ := (hA.out wr (Kd.reads_of_C (d := (0 : Int)) (enc := Value.int .u8) (h1 := fun _ => rfl) (Kd.C_below hC.out HM.out.1))).2.2 (by omega)
        replace hx := hx i hi
        have hg : t.getD i 0 = t[i] := by rw [List.getD_eq_getElem?_getD, List.getElem?_eq_getElem hi]; rfl
        rw [hg] at hx
        have hu8 := hBt.out _ (List.getElem_mem hi)
        have ht := Lib.hid (sc_map hi)
        have hw := Lib.hid (wrap_nat (j := i) (by omega))
        have hn : ((t.take i).map sc1).length ≤ 1000000 := by rw [List.length_map, List.length_take]; omega
        replace i1 := Lib.hid (And.intro i1 hi)
        generalize t[i] = u at *
        clear hg i0 hi
        have hfin : ∀ (x : Int) (u' : Value) (w1 : World), sc1 u = x → Hid (MadeI w w1 u' ((t.take i).map sc1 ++ [x])) → Hid (MadeI w w1 u' ((t.take (i + 1)).map sc1)) := fun x u' w1 e h => by rw [ht.out, e]; exact h
        replace hfin := Lib.hid hfin
        obtain ⟨u0, u1⟩ := hu8
        by_cases c1 : u < 30
        · obtain ⟨m, rfl⟩ := Int.eq_ofNat_of_zero_le u0
          have d1 := decide_eq_true c1
          have hv : sc1 (m : Int) = scT.getD (m % 10) 0 := by unfold sc1; rw [if_pos c1, Int.toNat_natCast]
          have hg := scT_get (m % 10) (Nat.mod_lt _ (by decide))
          have hk : (wr.alloc (.cells #[.int .i64 8204, .int .i64 8205, .int .i64 2404, .int .i64 97, .int .i64 2364, .int .i64 2381, .int .i64 2509, .int .i64 2492, .int .i64 2314, .int .i64 3349] 3)).cell? ⟨wr.heap.size, m % 10, none⟩ = some (.int .i64 (scT.getD (m % 10) 0)) := (blk_cell (blk_new _ _) _).trans hg
          clear hg
          clear c1 u0 u1
          generalize scT.getD (m % 10) 0 = x at *
          go_wp2_with ((with_reducible refine gate_builtin (b := .append) (xs := #[.tmp 28, .tmp 34]) rfl ?_); at_builtin; refine int_app (x) (.tmp 28) (.tmp 34) rfl rfl HM (below_alloc (Below.refl _ _) _) hn rfl (congrArg (fun n => Value.slice (some ⟨n, 0, none⟩) 1 1) (Array.size_push ..).symm) ?_; intro u4 w4 HM4; clear HM)
          go_roundg gk
          case measure => omega
          case rel => exact ⟨i + 1, by first | exact congrArg (Value.int .i64) hw.out | rfl, hfin.out _ _ _ hv HM4, Lib.hid ⟨by have := i1.out; omega, by have := i1.out; omega⟩⟩
        · replace c1 := c1
          by_cases c2 : u < 140
          · have d1 := decide_eq_false c1
            have d2 := decide_eq_true c2
            have hv : sc1 u = 2304 + u % 128 := by unfold sc1; rw [if_neg c1, if_pos c2]
            have hx1 : wrap64 u = u := by unfold wrap64; omega
            have hx5 : Int.tmod u 128 = u % 128 := Int.tmod_eq_emod_of_nonneg u0
            have hx2 : wrap64 (u % 128) = u % 128 := by unfold wrap64; omega
            have hx3 : wrap64 (2304 + u % 128) = 2304 + u % 128 := by unfold wrap64; omega
            clear c1 c2 u0 u1
            generalize u % 128 = x at *
            go_wp2_with ((with_reducible refine gate_builtin (b := .append) (xs := #[.tmp 39, .tmp 44]) rfl ?_); at_builtin; refine int_app (2304 + x) (.tmp 39) (.tmp 44) rfl rfl HM (Below.refl _ _) hn rfl rfl ?_; intro u4 w4 HM4; clear HM)
            go_roundg gk
            case measure => omega
            case rel => exact ⟨i + 1, by first | exact congrArg (Value.int .i64) hw.out | rfl, hfin.out _ _ _ hv HM4, Lib.hid ⟨by have := i1.out; omega, by have := i1.out; omega⟩⟩
          · by_cases c3 : u < 220
            · have d1 := decide_eq_false c1
              have d2 := decide_eq_false c2
              have d3 := decide_eq_true c3
              have hv : sc1 u = 2432 + u % 128 := by unfold sc1; rw [if_neg c1, if_neg c2, if_pos c3]
              have hx1 : wrap64 u = u := by unfold wrap64; omega
              have hx5 : Int.tmod u 128 = u % 128 := Int.tmod_eq_emod_of_nonneg u0
              have hx2 : wrap64 (u % 128) = u % 128 := by unfold wrap64; omega
              have hx3 : wrap64 (2432 + u % 128) = 2432 + u % 128 := by unfold wrap64; omega
              clear c1 c2 c3 u0 u1
              generalize u % 128 = x at *
              go_wp2_with ((with_reducible refine gate_builtin (b := .append) (xs := #[.tmp 49, .tmp 54]) rfl ?_); at_builtin; refine int_app (2432 + x) (.tmp 49) (.tmp 54) rfl rfl HM (Below.refl _ _) hn rfl rfl ?_; intro u4 w4 HM4; clear HM)
              go_roundg gk
              case measure => omega
              case rel => exact ⟨i + 1, by first | exact congrArg (Value.int .i64) hw.out | rfl, hfin.out _ _ _ hv HM4, Lib.hid ⟨by have := i1.out; omega, by have := i1.out; omega⟩⟩
            · have d1 := decide_eq_false c1
              have d2 := decide_eq_false c2
              have d3 := decide_eq_false c3
              have hv : sc1 u = 2325 + 128 * (u % 9) := by unfold sc1; rw [if_neg c1, if_neg c2, if_neg c3]
              have hx5 : Int.tmod u 9 = u % 9 := Int.tmod_eq_emod_of_nonneg u0
              have hx0 : IntKind.u8.wrap (u % 9) = u % 9 := by rw [IntKind.wrap_u8]; omega
              have hx1 : wrap64 (u % 9) = u % 9 := by unfold wrap64; omega
              have hx2 : wrap64 (128 * (u % 9)) = 128 * (u % 9) := by unfold wrap64; omega
              have hx3 : wrap64 (2304 + 128 * (u % 9)) = 2304 + 128 * (u % 9) := by unfold wrap64; omega
              have hx4 : wrap64 (2304 + 128 * (u % 9) + 21) = 2325 + 128 * (u % 9) := by unfold wrap64; omega
              clear c1 c2 c3 u0 u1
              generalize u % 9 = x at *
              go_wp2_with ((with_reducible refine gate_builtin (b := .append) (xs := #[.tmp 16, .tmp 23]) rfl ?_); at_builtin; refine int_app (2325 + 128 * x) (.tmp 16) (.tmp 23) rfl rfl HM (Below.refl _ _) hn rfl rfl ?_; intro u4 w4 HM4; clear HM)
              go_roundg gk
              case measure => omega
              case rel => exact ⟨i + 1, by first | exact congrArg (Value.int .i64) hw.out | rfl, hfin.out _ _ _ hv HM4, Lib.hid ⟨by have := i1.out; omega, by have := i1.out; omega⟩⟩
      · obtain rfl : i = t.length := by omega
        have di := nlt_dec hi
        rw [List.take_length] at HM
        go_wp2
        go_ret
        exact ⟨_, rfl, HM.out⟩
end Go.Proofs.YtnfjgopcenpblaaGreatDoor.T

/- utf.Bytes, as print.sh prints it for this claim. -/
namespace Go.Proofs.YtnfjgopcenpblaaGreatDoor.T
open Go.RowKit Go.Proofs.YtnfjgopcenpblaaGreatDoorW.PrintWords Go.Proofs.YtnfjgopcenpblaaGreatDoorW.PrintLast Go.Proofs.YtnfjgopcenpblaaGreatDoorW.PrintMore Go.Proofs.YtnfjgopcenpblaaGreatDoor
set_option linter.unusedVariables false
set_option linter.unusedSimpArgs false
attribute [local go_sem] max2_int min2_int max_two min_two max_three min_three max_four min_four
/-! ### utf_Bytes: function 6 -/
def utf_Bytes.l0 : Nat → List Int → List Int → Int → Int → Option (List Int)
  | 0, _, _, _, _ => none
  | k + 1, x3, x6, x7, x8 => if x8 < x7 then (if 0 ≤ x8 then (if x8 < (x6.length : Int) then ((utf_Put.f k x3 (rd x6 x8)).bind fun t238 => (utf_Bytes.l0 k t238 x6 x7 (wrap64 (x8 + 1)))) else (none)) else (none)) else (some x3)
def utf_Bytes.f (k : Nat) (l0 : List Int) : Option (List Int) := utf_Bytes.l0 k ([] : List Int) l0 (l0.length : Int) 0
theorem utf_Bytes.mono_l : ∀ k, (∀ y0 y1 y2 y3, LeO (utf_Bytes.l0 k y0 y1 y2 y3) (utf_Bytes.l0 (k + 1) y0 y1 y2 y3))
  | 0 => fun _ _ _ _ r h => by simp [utf_Bytes.l0] at h
  | k + 1 => by
    have ih0 := utf_Bytes.mono_l k
    · intro y0 y1 y2 y3
      unfold utf_Bytes.l0
      repeat' first
      | (with_reducible exact ih0 _ _ _ _)
      | (with_reducible exact utf_Put.mono _ _ _)
      | (with_reducible exact LeO.refl _)
      | (with_reducible exact LeO.none _)
      | (with_reducible refine LeO.ite ?_ ?_)
      | (with_reducible refine LeO.bind ?_ (fun _ => ?_))
      | exact ih0 _ _ _ _
      | exact utf_Put.mono _ _ _
      | exact LeO.none _
      | refine LeO.ite ?_ ?_
      | refine LeO.bind ?_ (fun _ => ?_)
theorem utf_Bytes.mono : ∀ a0 k, LeO (utf_Bytes.f k a0) (utf_Bytes.f (k + 1) a0) := by
  intro a0 k
  have ih0 := utf_Bytes.mono_l k
  unfold utf_Bytes.f
  repeat' first
      | (with_reducible exact ih0 _ _ _ _)
      | (with_reducible exact utf_Put.mono _ _ _)
      | (with_reducible exact LeO.refl _)
      | (with_reducible exact LeO.none _)
      | (with_reducible refine LeO.ite ?_ ?_)
      | (with_reducible refine LeO.bind ?_ (fun _ => ?_))
      | exact ih0 _ _ _ _
      | exact utf_Put.mono _ _ _
      | exact LeO.none _
      | refine LeO.ite ?_ ?_
      | refine LeO.bind ?_ (fun _ => ?_)
set_option maxHeartbeats 8000000 in
set_option maxRecDepth 100000 in
theorem utf_Bytes.calls (k : Nat) (A0 : Option Addr) (c0 : Nat) (l0 : List Int) (r : List Int) (w : World) (hr0 : Kd.C (Kd.int .i64) w A0 l0.length l0) (hc0 : l0.length ≤ c0) (h : utf_Bytes.f k l0 = some r) :
    Calls Tryz.prog 6 #[.slice A0 l0.length c0] w fun e w' => ∃ v0_ : Value, e = .returned (v0_) ∧ Kd.R (Kd.int .u8) 5 w' w.heap.size (fun _ => True) v0_ r ∧ Below w.heap.size w w' := by
  have HR0 := Aside0.mk hr0
  have HC0 := Aside0.mk hc0
  clear hr0 hc0
  have HB := Aside0.mk (Below.refl w.heap.size w)
  have H : (utf_Bytes.l0 k ([] : List Int) l0 (l0.length : Int) 0) = some r := h
  clear h
  have H' := Aside0.mk H
  clear H
  go_enter Tryz.func6, Tryz.ntmps6
  go_wp2
  go_loopg [3, 8] k (fun kq v3 v8 w' => ∃ (x3_1 : List Int) (x8_1 : Int), v8 = .int .i64 x8_1 ∧ Aside0 (utf_Bytes.l0 kq x3_1 l0 (l0.length : Int) x8_1 = some r) ∧ Aside0 (kq ≤ k) ∧ Aside0 (Kd.R (Kd.int .u8) 5 w' w.heap.size (fun _ => True) v3 x3_1) ∧ Aside0 (Below w.heap.size w w'))
  case atStart => exact ⟨(([] : List Int)), (0), (by first | rfl | (simp; done) | (simp [*]; done)), H', ⟨Nat.le_refl _⟩, ⟨by first | exact Kd.R_nil _ _ _ _ _ | exact Kd.N_nil _ _ _ _ _ | exact Kd.V_nil _ _ _ _ _ | exact Kd.Q_nil _ _ _ _ _ | exact Kd.S_nil _ _ _ _ _⟩, ⟨by repeat (first | (with_reducible first | exact HB.out | apply below_alloc | apply pw_below_drewN | apply below_drew1) | exact HB.out)⟩⟩
  case round =>
    clear H'
    obtain ⟨x3_1, x8_1, rfl, HA, HK1, HO_3, HB⟩ := hrel
    cases gk with
    | zero => exact absurd HA.out (by simp [utf_Bytes.l0])
    | succ k1 =>
      have H := HA.out
      clear HA
      simp only [utf_Bytes.l0] at H
      by_cases c2 : x8_1 < (l0.length : Int)
      · rw [if_pos c2] at H
        have c2b0 : decide (x8_1 < (l0.length : Int)) = true := decide_eq_true c2
        clear c2
        by_cases c3 : 0 ≤ x8_1
        · rw [if_pos c3] at H
          have c3b0 : decide (0 ≤ x8_1) = true := decide_eq_true c3
          clear c3
          by_cases c4 : x8_1 < (l0.length : Int)
          · rw [if_pos c4] at H
            have c4b0 : decide (x8_1 < (l0.length : Int)) = true := decide_eq_true c4
            clear c4
            replace H := Option.bind_eq_some_iff.mp H
            obtain ⟨t238, A50, H⟩ := H
            replace H : (utf_Bytes.l0 k1 t238 l0 (l0.length : Int) (wrap64 (x8_1 + 1))) = some r := H
            have A5 := Aside0.mk A50
            clear A50
            have H' := Aside0.mk H
            clear H
            have p237 : 0 ≤ (x8_1 : Int) := of_decide_eq_true (by first | (with_reducible assumption) | assumption)
            have q237 : x8_1 < (l0.length : Int) := of_decide_eq_true (by first | (with_reducible assumption) | assumption)
            obtain ⟨ad237, e237, hx237_0⟩ := Kd.at_int HR0.out x8_1 p237 q237
            cases e237
            replace hx237_0 := (HB.out.cell (World.block_lt_of_cell? w _ hx237_0)).trans hx237_0
            replace p237 := eq_true p237
            replace q237 := eq_true q237
            obtain ⟨Ao6, co6, eo6⟩ := Kd.R_slice HO_3.out
            subst eo6
            go_wp2_with (first | ((with_reducible refine gate_callee (f := 14) rfl ?_); refine goesL_ (some 14) rfl rfl Tryz.func14 (by kernel_rfl) rfl #[.slice Ao6 x3_1.length co6, .int .i64 (rd l0 x8_1)] rfl (by (try simp only [List.map_toArray, List.map_cons, List.map_nil]); first | done | rfl | (simp only [List.length_drop, List.length_take]; rfl)) ?_; (with_reducible refine (utf_Put.calls k1 (fun k_ => some k_ = (.slice Ao6 x3_1.length co6 : Value).ownBlock) (.slice Ao6 x3_1.length co6) x3_1 (rd l0 x8_1) t238 w _ ?side1 ?side2 A5.out).mono ?_); (case side1 => repeat (first | (with_reducible first | exact HB.out | apply below_alloc | apply pw_below_drewN | apply below_drew1) | exact HB.out)); (case side2 => exact Kd.R_tight rfl HO_3.out); rintro e w7 ⟨v239, rfl, ho0, hb, hkp⟩; refine ⟨_, rfl, ?_⟩; have n0_ := Aside0.mk (Kd.R_mono (ok' := fun k_ => True) ho0 (fun k_ hk_ => trivial)); have n1_ := Aside0.mk (hb); clear HB; clear HO_3; have HO240 := n0_; have HB := n1_; clear n0_ n1_; (try clear hb); (try clear hkp); (try clear ho0)))
            go_roundg k1
            case measure => have := HK1.out; omega
            case rel => exact ⟨(t238), (wrap64 (x8_1 + 1)), (by first | rfl | (simp; done) | (simp [*]; done)), H', ⟨by have := HK1.out; omega⟩, ⟨by (with_reducible repeat (first | apply Kd.R_alloc | apply Kd.R_drewN | apply Kd.R_drew)); exact HO240.out⟩, ⟨by repeat (first | (with_reducible first | exact HB.out | apply below_alloc | apply pw_below_drewN | apply below_drew1) | exact HB.out)⟩⟩
          · rw [if_neg c4] at H
            exact absurd H (by simp)
        · rw [if_neg c3] at H
          exact absurd H (by simp)
      · rw [if_neg c2] at H
        have c2b0 : decide (x8_1 < (l0.length : Int)) = false := decide_eq_false c2
        clear c2
        obtain rfl := Option.some.inj H
        go_wp2
        go_ret
        exact ⟨_, by first | rfl | (simp [errW_none, errW_some] <;> rfl) | (simp [*, errW_none, errW_some] <;> rfl), by (with_reducible repeat (first | apply Kd.R_alloc | apply Kd.R_drewN | apply Kd.R_drew)); exact HO_3.out, by repeat (first | (with_reducible first | exact HB.out | apply below_alloc | apply pw_below_drewN | apply below_drew1) | exact HB.out)⟩

end Go.Proofs.YtnfjgopcenpblaaGreatDoor.T

/- TopScripts' plain laws: the scalars, their bytes, the switches. No condition. -/
namespace Go.Proofs.YtnfjgopcenpblaaGreatDoor.T
open Go.RowKit Go.Proofs.YtnfjgopcenpblaaGreatDoorW.PrintWords Go.Proofs.YtnfjgopcenpblaaGreatDoorW.PrintLast Go.Proofs.YtnfjgopcenpblaaGreatDoorW.PrintMore Go.Proofs.YtnfjgopcenpblaaGreatDoor
set_option linter.unusedVariables false
set_option linter.unusedSimpArgs false
theorem sc1_scal {n : Int} (h0 : 0 ≤ n) (h1 : n < 256) : scalB (sc1 n) = true := by
  obtain ⟨m, rfl⟩ := Int.eq_ofNat_of_zero_le h0
  have H : ∀ m : Fin 256, scalB (sc1 ((m.1 : Nat) : Int)) = true := by decide +kernel
  exact H ⟨m, by omega⟩
theorem bytes_l0 (S : List Int) (hS : ∀ u ∈ S, scalB u = true) (hl : S.length ≤ 1000) : ∀ (k i : Nat) (x : List Int), i ≤ S.length → S.length - i + 2 < k → x.length ≤ 4 * i → utf_Bytes.l0 k x S (S.length : Int) (i : Int) = some (x ++ (S.drop i).flatMap encS)
  | 0, _, _, _, h, _ => by omega
  | k + 1, i, x, hi, hk, hx => by
    rw [utf_Bytes.l0]
    by_cases h : i < S.length
    · have hr : rd S (i : Int) = S[i] := by unfold rd; rw [Int.toNat_natCast, List.getD_eq_getElem?_getD, List.getElem?_eq_getElem h]; rfl
      have hs := hS _ (List.getElem_mem h)
      obtain ⟨k', rfl⟩ : ∃ k', k = k' + 2 := ⟨k - 2, by omega⟩
      have hlen := @enc_one_len S[i]
      have hw : wrap64 ((i : Int) + 1) = ((i + 1 : Nat) : Int) := by unfold wrap64; omega
      have he : encB S[i] = encS S[i] := by unfold encB; rw [if_pos hs]
      rw [if_pos (by omega), if_pos (by omega), if_pos (by omega), hr, put_is _ _ _ (by omega), Option.bind_some, hw, he, bytes_l0 S hS hl (k' + 2) (i + 1) _ (by omega) (by omega) (by rw [List.length_append]; omega)]
      rw [List.drop_eq_getElem_cons h, List.flatMap_cons, List.append_assoc]
    · rw [if_neg (by omega), List.drop_eq_nil_of_le (by omega), List.flatMap_nil, List.append_nil]
theorem bytes_is {S : List Int} (hS : ∀ u ∈ S, scalB u = true) (hl : S.length ≤ 1000) : utf_Bytes.f (S.length + 4) S = some (S.flatMap encS) := by
  unfold utf_Bytes.f
  have := bytes_l0 S hS hl (S.length + 4) 0 [] (by omega) (by omega) (by simp)
  simpa using this
/-- the law's look at the bytes -/
def scn (z : Bool) : List Int → Int → Prop
  | a :: c :: r, l => (a = 239 → c ≠ l ∧ (z = true → r ≠ [])) ∧ scn z (c :: r) (if a = 239 then c else l)
  | _, _ => True
theorem scn_cons {z : Bool} {a l : Int} {t : List Int} (ha : a ≠ 239) (h : scn z t l) : scn z (a :: t) l := by
  cases t with
  | nil => trivial
  | cons c r => exact ⟨fun e => absurd e ha, by rw [if_neg ha]; exact h⟩
/-- the same of units -/
def SU (z : Bool) : Int → List Int → Prop
  | _, [] => True
  | s, u :: us => if 4096 ≤ u ∧ u < 8192 then (u - 4096 ≠ s ∧ 0 ≤ u - 4096 ∧ u - 4096 < 9 ∧ (z = true → us ≠ [])) ∧ SU z (u - 4096) us else SU z s us
theorem su_pre : ∀ {w w' : List Int} {s : Int}, w <+: w' → SU true s w' → SU false s w
  | [], _, _, _, _ => trivial
  | u :: us, [], _, h, _ => by simp at h
  | u :: us, v :: vs, s, h, h' => by
    obtain ⟨rfl, ht⟩ := List.cons_prefix_cons.1 h
    rw [SU] at h' ⊢
    split
    · rename_i e
      rw [if_pos e] at h'
      exact ⟨⟨h'.1.1, h'.1.2.1, h'.1.2.2.1, fun e => by simp at e⟩, su_pre ht h'.2⟩
    · rename_i e
      rw [if_neg e] at h'
      exact su_pre ht h'
theorem iVal_no {u : Int} (hu : scalB u = true) : ¬ (4096 ≤ iVal u ∧ iVal u < 8192) := by
  obtain ⟨b0, b1, _⟩ := scal_bd hu
  unfold iVal
  rw [hu, if_neg (by simp)]
  split
  · unfold wrap64; omega
  · unfold ofI
    split
    · simp
    · simp only; omega
theorem su_unU : ∀ (S : List Int) (s : Int), 0 ≤ s ∧ s < 9 → (∀ u ∈ S, scalB u = true) → SU true s (unU s S)
  | [], _, _, _ => trivial
  | u :: S, s, hs, h => by
    have hu := h u (List.mem_cons_self ..)
    have ih := su_unU S (sU s u) (sU_rng hs) (fun v hv => h v (List.mem_cons_of_mem _ hv))
    have hn := iVal_no hu
    rw [unU]
    unfold uU sU at *
    by_cases hw : iSw s u = true
    · rw [if_pos hw] at ih ⊢
      rw [if_pos hw]
      have ho : (ofI u).2.2 = true ∧ (ofI u).1 ≠ s := by
        unfold iSw at hw
        rw [Bool.and_eq_true] at hw
        exact ⟨hw.1, by simpa using hw.2⟩
      obtain ⟨k0, k1⟩ := ofI_rng ho.1
      show SU true s ((4096 + (ofI u).1) :: (iVal u :: unU (ofI u).1 S))
      rw [SU, if_pos (by omega)]
      refine ⟨⟨?_, by omega, by omega, fun _ => by simp⟩, ?_⟩
      · have := ho.2; omega
      · rw [show 4096 + (ofI u).1 - 4096 = (ofI u).1 by omega, SU, if_neg hn]
        exact ih
    · rw [if_neg hw] at ih ⊢
      rw [if_neg hw]
      show SU true s (iVal u :: unU s S)
      rw [SU, if_neg hn]
      exact ih
def rowChk (r : S150) : Bool := (r.f0.all (fun b => !(b == 239)) && r.f1.all (fun u => !(decide (4096 ≤ u) && decide (u < 8192)))) || (List.range 9).any (fun s => decide (r.f0 = (swRow s).f0) && decide (r.f1 = (swRow s).f1))
theorem irR_rows : irR.all rowChk = true := by kernel_rfl
theorem row_kind {r : S150} (hr : r ∈ irR) : ((∀ b ∈ r.f0, b ≠ 239) ∧ ∀ u ∈ r.f1, ¬ (4096 ≤ u ∧ u < 8192)) ∨ ∃ s : Nat, s < 9 ∧ r = swRow s := by
  have h := List.all_eq_true.1 irR_rows r hr
  unfold rowChk at h
  rw [Bool.or_eq_true] at h
  rcases h with h | h
  · left
    rw [Bool.and_eq_true, List.all_eq_true, List.all_eq_true] at h
    exact ⟨fun b hb => by simpa using h.1 b hb, fun u hu => by have := h.2 u hu; simp only [Bool.not_eq_true', Bool.and_eq_false_iff, decide_eq_false_iff_not] at this; omega⟩
  · right
    rw [List.any_eq_true] at h
    obtain ⟨s, hs, h2⟩ := h
    rw [Bool.and_eq_true, decide_eq_true_eq, decide_eq_true_eq] at h2
    exact ⟨s, List.mem_range.1 hs, by cases r; cases h2.1; cases h2.2; rfl⟩
theorem code_ne : ∀ s : Nat, s < 9 → codeI s ≠ 239 := by decide
theorem code_inj : ∀ s : Nat, s < 9 → ∀ t : Nat, t < 9 → codeI s = codeI t → s = t := by decide
theorem scn_app {z : Bool} {l : Int} {t : List Int} : ∀ {r : List Int}, (∀ b ∈ r, b ≠ 239) → scn z t l → scn z (r ++ t) l
  | [], _, h => h
  | b :: r, hb, h => scn_cons (hb b (List.mem_cons_self ..)) (scn_app (fun c hc => hb c (List.mem_cons_of_mem _ hc)) h)
theorem su_app {z : Bool} {s : Int} {t : List Int} : ∀ {r : List Int}, (∀ u ∈ r, ¬ (4096 ≤ u ∧ u < 8192)) → SU z s (r ++ t) → SU z s t
  | [], _, h => h
  | u :: r, hu, h => by
    rw [List.cons_append, SU, if_neg (hu u (List.mem_cons_self ..))] at h
    exact su_app (fun c hc => hu c (List.mem_cons_of_mem _ hc)) h
theorem scan_ok (z : Bool) : ∀ (R : List S150) (s : Nat), s < 9 → (∀ r ∈ R, r ∈ irR) → SU z s (R.flatMap (·.f1)) → scn z (R.flatMap (·.f0)) (codeI s)
  | [], _, _, _, _ => trivial
  | r :: R, s, hs, hR, h => by
    have hR' : ∀ q ∈ R, q ∈ irR := fun q hq => hR q (List.mem_cons_of_mem _ hq)
    rw [List.flatMap_cons] at h ⊢
    rcases row_kind (hR r (List.mem_cons_self ..)) with ⟨h1, h2⟩ | ⟨t, ht, rfl⟩
    · exact scn_app h1 (scan_ok z R s hs hR' (su_app h2 h))
    · change SU z s ((4096 + (t : Int)) :: R.flatMap (·.f1)) at h
      rw [SU, if_pos (by omega)] at h
      obtain ⟨⟨a1, a2, a3, a4⟩, a5⟩ := h
      rw [show 4096 + (t : Int) - 4096 = (t : Int) by omega] at a1 a5
      show scn z (239 :: codeI t :: R.flatMap (·.f0)) (codeI s)
      refine ⟨fun _ => ⟨fun e => a1 (by rw [code_inj t ht s hs e]), fun hz => ?_⟩, ?_⟩
      · have := a4 hz
        cases R with
        | nil => exact absurd rfl this
        | cons q R =>
          have := irR_wr.len q (hR' q (List.mem_cons_self ..))
          intro e
          rw [List.flatMap_cons] at e
          rw [(List.append_eq_nil_iff.1 e).1] at this
          simp at this
      · rw [if_pos rfl]
        exact scn_cons (code_ne t ht) (scan_ok z R t ht hR' a5)
theorem last_ok : ∀ (R : List S150), (∀ r ∈ R, r ∈ irR) → ∀ l, (R.flatMap (·.f0)).getLast? = some l → l ≠ 239
  | [], _, l, h => by simp at h
  | r :: R, hR, l, h => by
    have hR' : ∀ q ∈ R, q ∈ irR := fun q hq => hR q (List.mem_cons_of_mem _ hq)
    rw [List.flatMap_cons] at h
    cases he : R.flatMap (·.f0) with
    | nil =>
      rw [he, List.append_nil] at h
      rcases row_kind (hR r (List.mem_cons_self ..)) with ⟨h1, _⟩ | ⟨t, ht, rfl⟩
      · exact h1 l (List.mem_of_getLast? h)
      · obtain rfl : codeI t = l := by simpa [swRow] using h
        exact code_ne t ht
    | cons a b =>
      rw [List.getLast?_append] at h
      rw [he] at h
      refine last_ok R hR' l ?_
      rw [he]
      simpa using h
/-- what the law asks of the two conversions -/
structure Two3 (S : List Int) (q : List Int × Stp) (R : List S150) : Prop where
  mem : ∀ r ∈ R, r ∈ irR
  ap : Ap irR R
  out : q.1 = R.flatMap (·.f0)
  pre : R.flatMap (·.f1) <+: unU 0 S
  scan : scn (q.2.2.2 == 0) q.1 66
  last : ∀ l, q.1.getLast? = some l → l ≠ 239
  whole : q.2.2.2 = 0 → (meanRow 0 (R.flatMap (·.f1))).1 = S
  side : q.2.2.2 ≠ 0 → q.2.1 = 2
theorem ui_two {S : List Int} (hS : ∀ u ∈ S, scalB u = true) {q : List Int × Stp} (h : UI irR S q) : ∃ R, Two3 S q R := by
  have hsu := su_unU S 0 (by omega) hS
  rcases h with ⟨h1, R, a, b, c, d⟩ | ⟨h1, h2, R, a, b, c, d⟩
  · have hz : q.2.2.2 = 0 := by rw [h1]
    refine ⟨R, a, b, c, by rw [d]; exact List.prefix_refl _, ?_, by rw [c]; exact last_ok R a, fun _ => by rw [d]; exact mean_unU S 0 (by omega) hS, fun e => absurd hz e⟩
    rw [hz, c]
    exact scan_ok _ R 0 (by decide) a (by rw [d]; exact hsu)
  · refine ⟨R, a, b, c, d, ?_, by rw [c]; exact last_ok R a, fun e => absurd e h2, fun _ => h1⟩
    rw [c, show (q.2.2.2 == 0) = false from by simpa using h2]
    exact scan_ok _ R 0 (by decide) a (su_pre d hsu)
end Go.Proofs.YtnfjgopcenpblaaGreatDoor.T
