/- Texts of this claim, one behind the other (merged by a program): TX9, TY1, TZ1, TZ2. No condition of their own. -/
import Derived.Test.YtnfjgopcenpblaaGreatDoorM15
import Derived.Lib.SlBytesConst
/- The awake call: its two conversions. No condition. -/
namespace Go.Proofs.YtnfjgopcenpblaaGreatDoor.T
open Go.RowKit Go.Proofs.YtnfjgopcenpblaaGreatDoorW.PrintWords Go.Proofs.YtnfjgopcenpblaaGreatDoorW.PrintLast Go.Proofs.YtnfjgopcenpblaaGreatDoorW.PrintMore Go.Proofs.YtnfjgopcenpblaaGreatDoor
set_option linter.unusedVariables false
set_option linter.unusedSimpArgs false
theorem visR_at {r : S150} (hr : r ∈ visR 256) : ∃ n : Nat, n < 256 ∧ r = ⟨[(n : Int)], [vis n]⟩ := by
  unfold visR at hr
  obtain ⟨n, hn, rfl⟩ := List.mem_map.1 hr
  exact ⟨n, List.mem_range.1 hn, rfl⟩
theorem tisR_at {r : S150} (hr : r ∈ tisR 256) : ∃ n : Nat, n < 256 ∧ decB n = true ∧ r = ⟨[(n : Int)], [dec n]⟩ := by
  unfold tisR at hr
  obtain ⟨n, hn, rfl⟩ := List.mem_map.1 hr
  rw [List.mem_filter] at hn
  exact ⟨n, List.mem_range.1 hn.1, hn.2, rfl⟩
theorem one_by8 {n : Nat} (h : n < 256) : by8 [(n : Int)] = [(n : Int)] := by
  show [(n : Int) % 256] = _
  congr 1
  omega
theorem sg_of {rs : List S150} (hf : Fine rs) (h : ∀ r ∈ rs, ∃ (n : Nat) (v : Int), n < 256 ∧ r = ⟨[(n : Int)], [v]⟩) : Sg rs := by
  refine ⟨⟨hf, fun r hr => ?_, fun r hr => ?_, fun r hr => ?_⟩, fun r hr => ?_, fun r hr => ?_⟩ <;> obtain ⟨n, v, hn, rfl⟩ := h r hr
  · exact .inl rfl
  · exact .inl rfl
  · exact one_by8 hn
  · rfl
  · rfl
theorem visR_sg : Sg (visR 256) := sg_of visR_fine (fun r hr => by obtain ⟨n, hn, e⟩ := visR_at hr; exact ⟨n, _, hn, e⟩)
theorem tisR_sg : Sg (tisR 256) := sg_of tisR_fine (fun r hr => by obtain ⟨n, hn, _, e⟩ := tisR_at hr; exact ⟨n, _, hn, e⟩)
theorem visR_mem {n : Nat} (h : n < 256) : (⟨[(n : Int)], [vis n]⟩ : S150) ∈ visR 256 := by
  unfold visR
  exact List.mem_map.2 ⟨n, List.mem_range.2 h, rfl⟩
theorem tisR_mem {n : Nat} (h : n < 256) (hd : decB n = true) : (⟨[(n : Int)], [dec n]⟩ : S150) ∈ tisR 256 := by
  unfold tisR
  exact List.mem_map.2 ⟨n, List.mem_filter.2 ⟨List.mem_range.2 h, hd⟩, rfl⟩
theorem visR_tab : TabS 43 #[.string nmV] (visR 256) := Table_calls codec_vis visR_fine.good
theorem tisR_tab : TabS 43 #[.string nmT] (tisR 256) := Table_calls codec_tis tisR_fine.good
theorem irR_tab : TabS 53 #[] irR := All53_calls IRules_calls irR_fine.good
/-- what awake reads of VISCII -/
theorem awake_vis (w : World) (A : Option Addr) (c : Nat) (hC : (Kd.int .u8).C w A 5 [84, 105, 170, 110, 103]) :
    Calls Tryz.prog 8 #[.string nmV, .string nmU, .int .i64 0, .slice A 5 c] w (AllP w ([84, 105, 225, 186, 191, 110, 103], st0)) := by
  have h := tab_to_utf visR_sg name_v (by kernel_rfl) (by kernel_rfl) visR_tab w A c [⟨[84], [84]⟩, ⟨[105], [105]⟩, ⟨[170], [7871]⟩, ⟨[110], [110]⟩, ⟨[103], [103]⟩]
  have v1 : vis 84 = 84 := by kernel_rfl
  have v2 : vis 105 = 105 := by kernel_rfl
  have v3 : vis 170 = 7871 := by kernel_rfl
  have v4 : vis 110 = 110 := by kernel_rfl
  have v5 : vis 103 = 103 := by kernel_rfl
  refine h (fun r hr => ?_) (by decide) (fun u hu => ?_) hC
  · rcases List.mem_cons.1 hr with rfl | hr
    · have := visR_mem (n := 84) (by decide); rw [show ((84 : Nat) : Int) = 84 from rfl, v1] at this; exact this
    rcases List.mem_cons.1 hr with rfl | hr
    · have := visR_mem (n := 105) (by decide); rw [show ((105 : Nat) : Int) = 105 from rfl, v2] at this; exact this
    rcases List.mem_cons.1 hr with rfl | hr
    · have := visR_mem (n := 170) (by decide); rw [show ((170 : Nat) : Int) = 170 from rfl, v3] at this; exact this
    rcases List.mem_cons.1 hr with rfl | hr
    · have := visR_mem (n := 110) (by decide); rw [show ((110 : Nat) : Int) = 110 from rfl, v4] at this; exact this
    rcases List.mem_cons.1 hr with rfl | hr
    · have := visR_mem (n := 103) (by decide); rw [show ((103 : Nat) : Int) = 103 from rfl, v5] at this; exact this
    · simp at hr
  · have : ∀ u ∈ [84, 105, 7871, 110, 103], scalB u = true := by decide
    exact this u hu
section
variable {rs : List S150} (hI : Isc rs) (hk : Okay rs)
include hI
theorem ienc_plain {out : List Int} {s a ea u : Int} {ah row : List Int} (hs : iSw s u = false) (h1 : kidB (rs.map swp) [iVal u] = false) (h2 : out1 (rs.map swp) [iVal u] = some row) (h3 : joinsF rs ah row = false) (h8 : by8 row = row) :
    put1 (mIenc rs hk) ⟨out, st0, ⟨s, a, [], ea, ah⟩⟩ u = ⟨out ++ row, st0, ⟨s, wrap64 (a + 1), [], wrap64 (ea + 1), row⟩⟩ ∧ outsLen ((mIenc rs hk).put ⟨s, a, [], ea, ah⟩ u).1 = row.length := by
  obtain ⟨e1, e2⟩ := ePut_good hI.wr h1 h2 h3 ea
  have hB : iBefore rs ⟨s, a, [], ea, ah⟩ u = ([], ⟨s, a, [], ea, ah⟩) := by unfold iBefore; rw [hs]; rfl
  have hp : (mIenc rs hk).put ⟨s, a, [], ea, ah⟩ u = ([⟨ea, 1, row, 0⟩], ⟨s, wrap64 (a + 1), [], wrap64 (ea + 1), row⟩) := by
    show iPut rs _ u = _
    unfold iPut iAfter
    rw [hB]
    simp only
    rw [e1, e2]
    rfl
  unfold put1
  rw [hp]
  refine ⟨?_, rfl⟩
  show (⟨(wrF out st0 _).1, _, _⟩ : SSt (mIenc rs hk).σ) = _
  rw [wrF, if_neg (by simp), if_pos rfl, h8, wrF]
theorem ienc_sw {out : List Int} {s a ea u : Int} {ah row : List Int} (hs : iSw s u = true) (h1 : kidB (rs.map swp) [iVal u] = false) (h2 : out1 (rs.map swp) [iVal u] = some row) (h8 : by8 row = row) (h9 : by8 [239, codeI (ofI u).1] = [239, codeI (ofI u).1]) :
    put1 (mIenc rs hk) ⟨out, st0, ⟨s, a, [], ea, ah⟩⟩ u = ⟨out ++ [239, codeI (ofI u).1] ++ row, st0, ⟨(ofI u).1, wrap64 (a + 1), [], wrap64 (ea + 1), row⟩⟩ ∧ outsLen ((mIenc rs hk).put ⟨s, a, [], ea, ah⟩ u).1 = 2 + row.length := by
  obtain ⟨e1, e2⟩ := ePut_good hI.wr (ah := []) h1 h2 rfl ea
  have hB : iBefore rs ⟨s, a, [], ea, ah⟩ u = ([⟨a, 0, [239, codeI (ofI u).1], 0⟩], ⟨(ofI u).1, a, [], ea, []⟩) := by unfold iBefore; rw [hs]; rfl
  have hp : (mIenc rs hk).put ⟨s, a, [], ea, ah⟩ u = ([⟨a, 0, [239, codeI (ofI u).1], 0⟩, ⟨ea, 1, row, 0⟩], ⟨(ofI u).1, wrap64 (a + 1), [], wrap64 (ea + 1), row⟩) := by
    show iPut rs _ u = _
    unfold iPut iAfter
    rw [hB]
    simp only
    rw [e1, e2]
    rfl
  unfold put1
  rw [hp]
  refine ⟨?_, ?_⟩
  · show (⟨(wrF out st0 _).1, _, _⟩ : SSt (mIenc rs hk).σ) = _
    rw [wrF, if_neg (by simp), if_pos rfl, h9, wrF, if_neg (by simp), if_pos rfl, h8, wrF]
  · show 2 + (row.length + 0) = _; omega
theorem ienc_three (f1 : kidB (rs.map swp) [21] = false) (f2 : out1 (rs.map swp) [21] = some [179]) (f3 : kidB (rs.map swp) [8289] = false) (f4 : out1 (rs.map swp) [8289] = some [97]) (f5 : joinsF rs [179] [97] = false) :
    okW (mIenc rs hk) ⟨[], st0, ⟨0, 0, [], 0, []⟩⟩ [2325, 97, 2453] ∧ (wAll (mIenc rs hk) ⟨[], st0, ⟨0, 0, [], 0, []⟩⟩ [2325, 97, 2453]).out = [179, 97, 239, 67, 179] ∧ (wAll (mIenc rs hk) ⟨[], st0, ⟨0, 0, [], 0, []⟩⟩ [2325, 97, 2453]).st = st0 := by
  have v1 : iVal 2325 = 21 := by kernel_rfl
  have v2 : iVal 97 = 8289 := by kernel_rfl
  have v3 : iVal 2453 = 21 := by kernel_rfl
  obtain ⟨p1, o1⟩ := ienc_plain hI hk (out := []) (s := 0) (a := 0) (ea := 0) (u := 2325) (ah := []) (row := [179]) (by kernel_rfl) (by rw [v1]; exact f1) (by rw [v1]; exact f2) rfl rfl
  obtain ⟨p2, o2⟩ := ienc_plain hI hk (out := [] ++ [179]) (s := 0) (a := wrap64 (0 + 1)) (ea := wrap64 (0 + 1)) (u := 97) (ah := [179]) (row := [97]) (by kernel_rfl) (by rw [v2]; exact f3) (by rw [v2]; exact f4) f5 rfl
  obtain ⟨p3, o3⟩ := ienc_sw hI hk (out := [] ++ [179] ++ [97]) (s := 0) (a := wrap64 (wrap64 (0 + 1) + 1)) (ea := wrap64 (wrap64 (0 + 1) + 1)) (u := 2453) (ah := [97]) (row := [179]) (by kernel_rfl) (by rw [v3]; exact f1) (by rw [v3]; exact f2) rfl (by kernel_rfl)
  have hc : (ofI 2453).1 = 1 := by kernel_rfl
  have hall : tkPuts (mIenc rs hk) ⟨[], st0, ⟨0, 0, [], 0, []⟩⟩ [2325, 97, 2453] = ⟨[] ++ [179] ++ [97] ++ [239, codeI (ofI 2453).1] ++ [179], st0, ⟨(ofI 2453).1, wrap64 (wrap64 (wrap64 (0 + 1) + 1) + 1), [], wrap64 (wrap64 (wrap64 (0 + 1) + 1) + 1), [179]⟩⟩ := by
    rw [tkPuts, if_pos rfl, p1, tkPuts, if_pos rfl, p2, tkPuts, if_pos rfl, p3, tkPuts]
  have hend : ∀ (out : List Int) (s a ea : Int) (ah : List Int), end1 (mIenc rs hk) ⟨out, st0, ⟨s, a, [], ea, ah⟩⟩ = ⟨out, st0, ⟨s, a, [], ea, ah⟩⟩ := fun out s a ea ah => rfl
  refine ⟨⟨?_, fun _ => ?_⟩, ?_⟩
  · rw [okPuts, if_pos rfl, p1, okPuts, if_pos rfl, p2, okPuts, if_pos rfl, p3, okPuts]
    refine ⟨fun _ => ⟨⟨by simp, by simp⟩, ?_⟩, fun _ => ⟨⟨by simp, by simp⟩, ?_⟩, fun _ => ⟨⟨by simp, by simp⟩, ?_⟩, trivial⟩
    · rw [o1]; simp
    · rw [o2]; simp
    · rw [o3]; simp
  · rw [hall]
    exact ⟨⟨by simp, by simp⟩, by show _ + 0 ≤ _; simp⟩
  · unfold wAll
    rw [hall, if_pos rfl, hend, hc]
    exact ⟨rfl, rfl⟩
end
theorem join_eval {rs : List S150} (h : Fine rs) (ah us : List Int) (hne : ah ≠ []) (hl : (longS rs (ah ++ us)).2.1 ≤ ah.length) : joinsF rs ah us = false := by
  unfold joinsF
  rw [if_neg hne, h.readL]
  exact decide_eq_false (by omega)
theorem ir_f1 : kidB (irR.map swp) [21] = false := by kernel_rfl
theorem ir_f2 : out1 (irR.map swp) [21] = some [179] := by kernel_rfl
theorem ir_f3 : kidB (irR.map swp) [8289] = false := by kernel_rfl
theorem ir_f4 : out1 (irR.map swp) [8289] = some [97] := by kernel_rfl
theorem ir_f5 : (longS irR [179, 97]).2.1 = 1 := by kernel_rfl
/-- what awake writes of ISCII -/
theorem awake_isc (w : World) (A : Option Addr) (c : Nat) (hC : (Kd.int .u8).C w A 7 [224, 164, 149, 97, 224, 166, 149]) :
    Calls Tryz.prog 8 #[.string nmU, .string nmI, .int .i64 0, .slice A 7 c] w (AllP w ([179, 97, 239, 67, 179], st0)) := by
  have hk := irR_fine.okay
  obtain ⟨k1, k2, k3⟩ := ienc_three irR_isc hk ir_f1 ir_f2 ir_f3 ir_f4 (join_eval irR_fine [179] [97] (by simp) (by show (longS irR [179, 97]).2.1 ≤ 1; rw [ir_f5]; decide))
  have hS : ∀ u ∈ [2325, 97, 2453], scalB u = true := by decide
  have hx : ([2325, 97, 2453] : List Int).flatMap encS = [224, 164, 149, 97, 224, 166, 149] := by decide
  obtain ⟨a1, a2⟩ := all_rds (R := mBytes) (M := mIenc irR hk) _ _ (([], 0) : List Int × Int) ⟨[], st0, ⟨0, 0, [], 0, []⟩⟩ (utf_rds [2325, 97, 2453] 0 hS (Int.le_refl _) (by decide)) k1
  rw [hx] at a1 a2
  have := All_calls w nmU nmI _ _ name_u name_i dec_utf (enc_iscii irR_tab hk) A c [224, 164, 149, 97, 224, 166, 149] hC (hx ▸ enc_flat_bytes hS) (by decide) _ a1 a2
  rw [k2, k3] at this
  exact this
end Go.Proofs.YtnfjgopcenpblaaGreatDoor.T

/- awake: true. No condition. -/
namespace Go.Proofs.YtnfjgopcenpblaaGreatDoor.T
open Go.RowKit Go.Proofs.YtnfjgopcenpblaaGreatDoorW.PrintWords Go.Proofs.YtnfjgopcenpblaaGreatDoorW.PrintLast Go.Proofs.YtnfjgopcenpblaaGreatDoorW.PrintMore Go.Proofs.YtnfjgopcenpblaaGreatDoor
set_option linter.unusedVariables false
set_option linter.unusedSimpArgs false
section
variable {P : Program} {ops : Array Oper} {rest : List Oper} {o : Oper} {a : Act} {Q : Exit → Act → World → Prop}
theorem reps_bytes {w : World} {ok : Nat → Prop} : ∀ xs : List Int, Reps ((Kd.int .u8).M w 0 ok) 1 xs (xs.map (Value.int .u8))
  | [] => Reps.none _ _
  | x :: xs => Reps.one (show (Kd.int .u8).M w 0 ok x [.int .u8 x] from rfl) (reps_bytes xs)
/-- a row of bytes as written -/
theorem blit {wr W : World} (xs : List Int) (hgd : o.guard = none) {N : Tmp} (hd : o.dst = some N)
    (hrun : (execOp a.eval o).run P W = .ok (.value (.slice (some ⟨W.heap.size, 0, none⟩) xs.length xs.length)) (W.alloc (.cells (xs.map (Value.int .u8)).toArray 5)))
    (HB : Hid (Below wr.heap.size wr W)) (hm : xs.length ≤ 1000000)
    (h : ∀ A c w1, Hid ((Kd.int .u8).R 5 w1 0 (fun k => wr.heap.size ≤ k) (.slice A xs.length c) xs) → Hid (Below wr.heap.size wr w1) → Hid (Below W.heap.size W w1) → wpList P ops Q rest (a.put o.dst (.slice A xs.length c)) w1) : wpList P ops Q (o :: rest) a W := by
  have HB := HB.out
  refine Kd.R_lit (Kd.int .u8) (w0 := W) 0 5 hgd (N := N) hd (xs := xs) (inner := xs.map (Value.int .u8)) (ok := fun k => wr.heap.size ≤ k) (okp := fun _ => False) hrun (reps_bytes xs) (fun _ hk => hk.elim) HB.size (Below.refl _ _) (Nat.zero_le _) (by omega) ?_
  intro v1 w1 ho _ hg _
  obtain ⟨A, c, rfl⟩ := Kd.R_slice ho
  exact h A c w1 (Lib.hid ho) (Lib.hid (HB.grown hg HB.size (fun k hk => by cases hk))) (Lib.hid ((Below.refl _ _).grown hg (Nat.le_refl _) (fun k hk => by cases hk)))
end
/-- where a fault lies -/
def FT (W : World) (g : Nat) (x y z : Int) : Prop := W.heap[g]? = some (.cells #[.int .i64 x, .int .i64 y, .int .i64 z] 30 (0, 0))
theorem FT.step {W W' : World} {g : Nat} {x y z : Int} (h : FT W g x y z) (hb : Below W.heap.size W W') : FT W' g x y z := blk_below h hb
theorem store_ft {P : Program} {ops : Array Oper} {rest : List Oper} {o : Oper} {a : Act} {W : World} {Q : Exit → Act → World → Prop} (hgd : o.guard = none) (p v : Operand) (ho : o.op = .store 30 p v) (hd : o.dst = none) (x y z : Int) (hx : a.eval p = .pointer (some ⟨W.heap.size, 0, none⟩)) (hy : a.eval v = .agg #[.int .i64 x, .int .i64 y, .int .i64 z]) (hi : (P.info? 30).map (·.size) = some 3)
    (h : ∀ w1, Hid (Below W.heap.size W w1) → Hid (FT w1 W.heap.size x y z) → wpList P ops Q rest a w1) : wpList P ops Q (o :: rest) a (W.alloc (.cells #[.int .i64 0, .int .i64 0, .int .i64 0] 30)) :=
  wpList_store_fresh hgd 30 p v ho hd #[.int .i64 x, .int .i64 y, .int .i64 z] #[.int .i64 0, .int .i64 0, .int .i64 0] 30 hx hy hi rfl (by simp [Value.oneCell']) (h _ (Lib.hid (below_alloc (Below.refl _ _) _)) (Lib.hid (blk_new _ _)))
theorem R_C {α : Type} {d : Kd α} {e : Nat} {w : World} {ok : Nat → Prop} {A : Option Addr} {c n : Nat} {xs : List α} (h : d.R e w 0 ok (.slice A n c) xs) : d.C w A n xs := by
  obtain ⟨A', c', he, _, hC⟩ := Kd.R_reads h
  obtain ⟨rfl, rfl, rfl⟩ : A = A' ∧ n = xs.length ∧ c = c' := by simpa using he
  exact hC
theorem bytes_C {W : World} {g : Nat} (xs : List Int) {fr : Nat × Nat} (h : W.heap[g]? = some (.cells (xs.map (Value.int .u8)).toArray 5 fr)) (hl : xs.length ≤ 1000000) : (Kd.int .u8).C W (some ⟨g, 0, none⟩) xs.length xs := by
  refine ⟨rfl, by omega, fun _ => ⟨_, rfl, fun j p hj => ⟨[.int .u8 p], rfl, rfl, fun i u hi => ?_⟩⟩⟩
  have hi0 : i = 0 := by
    have := (List.getElem?_eq_some_iff.1 hi).1
    simpa using this
  subst hi0
  obtain rfl : Value.int .u8 p = u := by simpa using hi
  have := cell_of_row W g j _ 5 fr h
  have ha : (⟨g, 0, none⟩ : Addr).add (j * (Kd.int .u8).sz + 0) = ⟨g, j, none⟩ := by
    show (⟨g, 0, none⟩ : Addr).add (j * 1 + 0) = _
    cases j <;> simp [Addr.add]
  rw [ha, this]
  simp [hj]
theorem info30 : (Tryz.prog.info? 30).map (·.size) = some 3 := by kernel_rfl
set_option maxRecDepth 100000 in
theorem Awake_calls (w : World) : Calls Tryz.prog 5 #[] w (fun e w' => e = .returned (.bool true) ∧ Below w.heap.size w w') := by
  have H1 := Lib.hid awake_vis
  have H2 := Lib.hid awake_isc
  have HB := Lib.hid (Below.refl w.heap.size w)
  go_enter Tryz.func5, Tryz.ntmps5
  go_wp2_with (first
    | ((with_reducible refine gate_dst (N := 8) rfl ?_); refine blit (wr := w) [84, 105, 170, 110, 103] rfl (N := 8) rfl ?hr HB (by simp) ?_; (case hr => first | (go_simp; done) | (go_simp; rfl)); intro A1 c1 w1 g1 HB1 _)
    | (go_at_call 8; refine (H1.out w1 A1 c1 (R_C g1.out)).mono ?_; rintro e w2 ⟨v2, rfl, hb2, hR2⟩; obtain ⟨A2, c2, rfl⟩ := Kd.R_slice hR2; have HB2 := Lib.hid (below_step HB1.out hb2); replace hR2 := Lib.hid hR2; clear hb2 g1 HB1 H1)
    | ((with_reducible refine gate_store (t := 30) (p := 2) rfl ?_); refine store_ft rfl (.tmp 2) (.tmp 11) rfl rfl 0 0 0 rfl rfl info30 ?_; intro w3 hb3 F3; have HB3 := Lib.hid (below_step HB2.out hb3.out); replace hR2 := Lib.hid (Kd.R_below hR2.out hb3.out); clear hb3 HB2; generalize w2.heap.size = g2 at F3 ⊢; have hcv := Go.Lib.run_convert_bytes_const (P := Tryz.prog) w3 22 5 #[.int .u8 224, .int .u8 164, .int .u8 149, .int .u8 97, .int .u8 224, .int .u8 166, .int .u8 149] 7 7 Tryz.underlying22 Tryz.underlying5)
    | (go_at_call 8; refine (H2.out _ (some ⟨w3.heap.size, 0, none⟩) 7 (bytes_C [224, 164, 149, 97, 224, 166, 149] (blk_new _ _) (by decide))).mono ?_; rintro e w5 ⟨v5, rfl, hb5, hR5⟩; obtain ⟨A5, c5, rfl⟩ := Kd.R_slice hR5; replace hb5 := below_step (below_alloc (Below.refl _ _) _) hb5; have HB5 := Lib.hid (below_step HB3.out hb5); replace hR2 := Lib.hid (Kd.R_below hR2.out hb5); replace F3 := Lib.hid (F3.out.step hb5); replace hR5 := Lib.hid hR5; clear hb5 HB3 H2 hcv)
    | ((with_reducible refine gate_store (t := 30) (p := 5) rfl ?_); refine store_ft rfl (.tmp 5) (.tmp 18) rfl rfl 0 0 0 rfl rfl info30 ?_; intro w6 hb6 F6; have HB6 := Lib.hid (below_step HB5.out hb6.out); have e1 : (convert 22 9 (.slice A2 7 c2)).run Tryz.prog w6 = .ok (.string ⟨#[84, 105, 225, 186, 191, 110, 103]⟩) w6 := (Kd.C_string (P := Tryz.prog) (src := 22) (dst := 9) (c := c2) Tryz.underlying22 Tryz.underlying5 Tryz.underlying9 (R_C (Kd.R_below hR2.out hb6.out))).trans (show _ = Result.ok (Value.string ⟨#[84, 105, 225, 186, 191, 110, 103]⟩) w6 by kernel_rfl); have e2 : (convert 22 9 (.slice A5 5 c5)).run Tryz.prog w6 = .ok (.string ⟨#[179, 97, 239, 67, 179]⟩) w6 := (Kd.C_string (P := Tryz.prog) (src := 22) (dst := 9) (c := c5) Tryz.underlying22 Tryz.underlying5 Tryz.underlying9 (R_C (Kd.R_below hR5.out hb6.out))).trans (show _ = Result.ok (Value.string ⟨#[179, 97, 239, 67, 179]⟩) w6 by kernel_rfl); have z3 : w6.cell? ⟨g2, 2, none⟩ = some (.int .i64 0) := (blk_cell (F3.out.step hb6.out) 2).trans rfl; have z6 : w6.cell? ⟨w5.heap.size, 2, none⟩ = some (.int .i64 0) := (blk_cell F6.out 2).trans rfl; clear hb6 HB5 hR2 hR5 F3 F6))
  go_ret
  exact ⟨rfl, HB6.out⟩
end Go.Proofs.YtnfjgopcenpblaaGreatDoor.T

/- The checker of layers 7 and 8 (thai.Of, wtt.Kind, May, Check, Of, Put, Bad): the contracts of the other seat, over this one. No condition beyond the ranges of bytes. -/
namespace Go.Proofs.YtnfjgopcenpblaaGreatDoor.T
open Go.RowKit Go.Proofs.YtnfjgopcenpblaaGreatDoorW.PrintWords Go.Proofs.YtnfjgopcenpblaaGreatDoorW.PrintLast Go.Proofs.YtnfjgopcenpblaaGreatDoorW.PrintMore Go.Proofs.YtnfjgopcenpblaaGreatDoor
set_option linter.unusedVariables false
set_option linter.unusedSimpArgs false
namespace Th
theorem heap_alloc (w : World) (o : Obj) : (w.alloc o).heap = w.heap.push o := rfl
theorem cell_new (w : World) (cs : Array Value) (t : TypeId) (n : Nat) (v : Value) (h : cs[n]? = some v) : (w.alloc (.cells cs t)).cell? ⟨w.heap.size, n, none⟩ = some v := by
  simp [World.cell?, heap_alloc, h]
theorem cat {a b c : World} (h : Below a.heap.size a b) (k : Below b.heap.size b c) : Below a.heap.size a c := h.trans (k.mono h.size)
theorem dN {B : Nat} {w w' : World} (h : Below B w w') (n : Nat) : Below B w (w'.drewN n) := ⟨h.os, h.tape, h.output, h.size, h.block⟩
def ofTab : List Int := [4,15,4,4,14,16,15,16,7,8,9,1,1,1,1,1,3,3,3,3,3,5,1,12,10,10,10,10,11,11,13]
def ofArr : Array Value := (ofTab.map (Value.int .i64)).toArray
def zArr : Array Value := ((List.replicate 31 0).map (Value.int .i64)).toArray
theorem ofArr_size : ofArr.size = 31 := rfl
theorem ofArr_get (n : Nat) (h : n < 31) : ofArr[n]? = some (.int .i64 (ofTab.getD n 0)) := by
  have h' : n < ofTab.length := h
  simp [ofArr, h']
attribute [irreducible] ofArr zArr ofTab
set_option maxHeartbeats 400000 in
theorem of31 (n : Nat) (w : World) (h1 : n < 31) :
    Calls Tryz.prog 26 #[.int .u8 (208 + n)] w fun e w' => e = .returned (.int .i64 (ofTab.getD n 0)) ∧ Below w.heap.size w w' := by
  have hc := cell_new w ofArr 78 n _ (ofArr_get n h1)
  go_enter Tryz.func26, Tryz.ntmps26
  go_wp2_with (first
    | with_reducible refine runTo_ (o := ⟨some 4, .build 78 _, _, _, _, _⟩) rfl (some 4) rfl (.agg ofArr) w (by kernel_rfl) ?_
    | with_reducible refine runTo_ (o := ⟨some 3, .alloc 78, _, _, _, _⟩) rfl (some 3) rfl (.pointer (some ⟨w.heap.size, 0, none⟩)) (w.alloc (.cells zArr 78)) (by kernel_rfl) ?_
    | with_reducible refine wpList_store_fresh (o := ⟨none, .store 78 _ _, _, _, _, _⟩) rfl 78 _ _ rfl rfl ofArr zArr 78 (by kernel_rfl) (by kernel_rfl) (by kernel_rfl) (by kernel_rfl) (by kernel_rfl) ?_)
  go_ret
  exact ⟨rfl, (Below.refl _ _).alloc (Nat.le_refl _) _⟩


theorem ret_i {k : IntKind} {a b : Int} (h1 : a = b) : Ending.returned (.int k a) = .returned (.int k b) := by rw [h1]
theorem ret_b {x y : Bool} (h1 : x = y) : Ending.returned (.bool x) = .returned (.bool y) := by rw [h1]

def cls (c : Int) : Int :=
  if c < 32 ∨ 127 ≤ c ∧ c < 160 then 0 else if c = 196 ∨ c = 198 then 6 else if 161 ≤ c ∧ c ≤ 206 then 2
  else if 208 ≤ c ∧ c ≤ 238 then ofTab.getD (c - 208).toNat 0 else 1
theorem of31' (c : Int) (w : World) (h0 : 208 ≤ c) (h1 : c ≤ 238) :
    Calls Tryz.prog 26 #[.int .u8 c] w fun e w' => e = .returned (.int .i64 (ofTab.getD (c - 208).toNat 0)) ∧ Below w.heap.size w w' := by
  obtain ⟨n, hn⟩ := Int.eq_ofNat_of_zero_le (show 0 ≤ c - 208 by omega)
  obtain rfl : c = 208 + n := by omega
  have := of31 n w (by omega)
  rw [show ((208 + (n : Int)) - 208).toNat = n by omega]
  exact this
theorem of19 (c : Int) (w : World) (h0 : 0 ≤ c) (h1 : c < 256) :
    Calls Tryz.prog 19 #[.int .u8 c] w fun e w' => e = .returned (.int .i64 (cls c)) ∧ Below w.heap.size w w' := by
  go_enter Tryz.func19, Tryz.ntmps19
  go_wp2_with (go_at_call 26; refine (of31' _ _ (by omega) (by omega)).mono ?_; rintro e w' ⟨rfl, hb⟩)
  all_goals
    go_ret
    refine ⟨ret_i ?_, ?_⟩
    · try simp only [beq_iff_eq, beq_eq_false_iff_ne] at *
      unfold cls; (repeat' split) <;> first | omega | rfl
    · first | assumption | exact Below.refl _ _

def rowsT : List (List UInt8) := [
  [88,65,65,65,65,65,65,82,82,82,82,82,82,82,82,82,82],
  [88,65,65,65,83,83,65,82,82,82,82,82,82,82,82,82,82],
  [88,65,65,65,65,83,65,67,67,67,67,67,67,67,67,67,67],
  [88,83,65,83,83,83,83,82,82,82,82,82,82,82,82,82,82],
  [88,83,65,83,65,83,65,82,82,82,82,82,82,82,82,82,82],
  [88,65,65,65,65,83,65,82,82,82,82,82,82,82,82,82,82],
  [88,65,65,65,83,65,83,82,82,82,82,82,82,82,82,82,82],
  [88,65,65,65,65,83,65,82,82,82,67,67,82,82,82,82,82],
  [88,65,65,65,83,83,65,82,82,82,67,82,82,82,82,82,82],
  [88,65,65,65,83,83,65,82,82,82,82,82,82,82,82,82,82],
  [88,65,65,65,65,65,65,82,82,82,82,82,82,82,82,82,82],
  [88,65,65,65,83,83,65,82,82,82,82,82,82,82,82,82,82],
  [88,65,65,65,83,83,65,82,82,82,82,82,82,82,82,82,82],
  [88,65,65,65,83,83,65,82,82,82,82,82,82,82,82,82,82],
  [88,65,65,65,83,83,65,82,82,82,67,67,82,82,82,82,82],
  [88,65,65,65,83,83,65,82,82,82,67,82,82,82,82,82,82],
  [88,65,65,65,83,83,65,82,82,82,67,82,67,82,82,82,82]]
def rowS (a : Nat) : ByteArray := ⟨(rowsT.getD a []).toArray⟩
def rowsVal : Array Value := (rowsT.map fun l => Value.string ⟨l.toArray⟩).toArray
def zRow : Array Value := (List.replicate 17 (Value.string ⟨#[]⟩)).toArray
theorem idx69 (a : Nat) (h : a < 17) (w : World) : (Instr.index 69 (.agg rowsVal) (.int .i64 a)).run Tryz.prog w = .ok (.string (rowS a)) w := by
  rcases a with _ | _ | _ | _ | _ | _ | _ | _ | _ | _ | _ | _ | _ | _ | _ | _ | _ | a <;> first | omega | kernel_rfl
def kindT : List Int := rowsT.flatten.map fun c => (c.toNat : Int)
def kind (a b : Int) : Int := if 0 ≤ a ∧ a < 17 ∧ 0 ≤ b ∧ b < 17 then kindT.getD (17 * a.toNat + b.toNat) 0 else 82
theorem idx9 (a b : Nat) (h : a < 17) (hb : b < 17) (w : World) : (Instr.index 9 (.string (rowS a)) (.int .i64 b)).run Tryz.prog w = .ok (.int .u8 (kind a b)) w := by
  rcases a with _ | _ | _ | _ | _ | _ | _ | _ | _ | _ | _ | _ | _ | _ | _ | _ | _ | a <;> first | omega | (rcases b with _ | _ | _ | _ | _ | _ | _ | _ | _ | _ | _ | _ | _ | _ | _ | _ | _ | b <;> first | omega | kernel_rfl)
theorem cells69 : (Tryz.prog.info? 69).map (·.size) = some 17 := by kernel_rfl
attribute [irreducible] rowS rowsVal zRow rowsT kindT kind
set_option maxHeartbeats 400000 in
theorem rows32 (w : World) : Calls Tryz.prog 25 #[] w fun e w' => e = .returned (.agg rowsVal) ∧ Below w.heap.size w w' := by
  go_enter Tryz.func25, Tryz.ntmps25
  go_wp2_with (first
    | with_reducible refine runTo_ (o := ⟨some 1, .build 69 _, _, _, _, _⟩) rfl (some 1) rfl (.agg rowsVal) (w.alloc (.cells zRow 69)) (by kernel_rfl) ?_
    | with_reducible refine runTo_ (o := ⟨some 0, .alloc 69, _, _, _, _⟩) rfl (some 0) rfl (.pointer (some ⟨w.heap.size, 0, none⟩)) (w.alloc (.cells zRow 69)) (by kernel_rfl) ?_
    | with_reducible refine wpList_store_fresh (o := ⟨none, .store 69 _ _, _, _, _, _⟩) rfl 69 _ _ rfl rfl rowsVal zRow 69 (by kernel_rfl) (by kernel_rfl) (by kernel_rfl) (by kernel_rfl) (by kernel_rfl) ?_)
  refine bodyPost_ret (v := .agg rowsVal) (results_cell_row rfl _ _ w.heap.size 69 rowsVal (0, 0) _ rfl (by rw [heap_alloc]; simp) Tryz.underlying69 rfl (by kernel_rfl)) rfl ⟨rfl, (Below.refl _ _).alloc (Nat.le_refl _) _⟩

theorem kind_out {a b : Int} (h : ¬ (0 ≤ a ∧ a < 17 ∧ 0 ≤ b ∧ b < 17)) : kind a b = 82 := by
  unfold kind; rw [if_neg h]
theorem kind22 (a b : Int) (w : World) : Calls Tryz.prog 18 #[.int .i64 a, .int .i64 b] w fun e w' => e = .returned (.int .u8 (kind a b)) ∧ Below w.heap.size w w' := by
  by_cases h : 0 ≤ a ∧ a < 17 ∧ 0 ≤ b ∧ b < 17
  · obtain ⟨m, rfl⟩ := Int.eq_ofNat_of_zero_le h.1
    obtain ⟨n, rfl⟩ := Int.eq_ofNat_of_zero_le h.2.2.1
    have hm : m < 17 := by omega
    have hn : n < 17 := by omega
    have i1 := idx69 m hm
    have i2 := idx9 m n hm hn
    clear h
    go_enter Tryz.func18, Tryz.ntmps18
    go_wp2_with (go_at_call 25; refine (rows32 _).mono ?_; rintro e w' ⟨rfl, hb⟩)
    go_ret
    exact ⟨rfl, ‹_›⟩
  · have hk := Lib.hid (kind_out h)
    go_enter Tryz.func18, Tryz.ntmps18
    go_wp2_with (go_at_call 25; refine (rows32 _).mono ?_; rintro e w' ⟨rfl, hb⟩)
    all_goals first
      | (exfalso; omega)
      | (go_ret; exact ⟨ret_i hk.out.symm, Below.refl _ _⟩)
def mayB (a b l : Int) : Bool := if kind (cls a) (cls b) = 82 then decide (l ≤ 0) else if kind (cls a) (cls b) = 83 then decide (l ≤ 1) else true
theorem mayB_r {a b l : Int} (h : (kind (cls a) (cls b) == 82) = true) : mayB a b l = decide (l ≤ 0) := by
  unfold mayB; rw [if_pos (by simpa using h)]
theorem mayB_s {a b l : Int} (h : (kind (cls a) (cls b) == 82) = false) (h2 : (kind (cls a) (cls b) == 83) = true) : mayB a b l = decide (l ≤ 1) := by
  unfold mayB; rw [if_neg (by simpa using h), if_pos (by simpa using h2)]
theorem mayB_t {a b l : Int} (h : (kind (cls a) (cls b) == 82) = false) (h2 : (kind (cls a) (cls b) == 83) = false) : mayB a b l = true := by
  unfold mayB; rw [if_neg (by simpa using h), if_neg (by simpa using h2)]
theorem may24 (a b l : Int) (w : World) (h0 : 0 ≤ a) (h1 : a < 256) (h2 : 0 ≤ b) (h3 : b < 256) :
    Calls Tryz.prog 10 #[.int .u8 a, .int .u8 b, .int .i64 l] w fun e w' => e = .returned (.bool (mayB a b l)) ∧ Below w.heap.size w w' := by
  have hx : ((kind (cls a) (cls b) == 82) = true ∧ Hid (mayB a b l = decide (l ≤ 0))) ∨ ((kind (cls a) (cls b) == 82) = false ∧ (kind (cls a) (cls b) == 83) = true ∧ Hid (mayB a b l = decide (l ≤ 1))) ∨ ((kind (cls a) (cls b) == 82) = false ∧ (kind (cls a) (cls b) == 83) = false ∧ Hid (mayB a b l = true)) := by
    cases h : (kind (cls a) (cls b) == 82) with
    | true => exact .inl ⟨rfl, mayB_r h⟩
    | false =>
      cases h2 : (kind (cls a) (cls b) == 83) with
      | true => exact .inr (.inl ⟨rfl, rfl, mayB_s h h2⟩)
      | false => exact .inr (.inr ⟨rfl, rfl, mayB_t h h2⟩)
  rcases hx with ⟨e1, H⟩ | ⟨e1, e2, H⟩ | ⟨e1, e2, H⟩
  all_goals
    go_enter Tryz.func10, Tryz.ntmps10
    go_wp2_with (first
      | (go_at_call 19; refine (of19 _ _ (by omega) (by omega)).mono ?_; rintro e w' ⟨rfl, hb⟩)
      | (go_at_call 18; refine (kind22 _ _ _).mono ?_; rintro e w' ⟨rfl, hb⟩))
    rename_i b1 _ b2
    go_ret
    exact ⟨ret_b H.out.symm, cat b1 (cat b2 hb)⟩

def bad (l : List Int) (v : Int) : Nat → Nat → Int
  | _, 0 => -1
  | k, n + 1 => if mayB (l.getD (k - 1) 0) (l.getD k 0) v = false then k else bad l v (k + 1) n
/-- the first place, from 1 on, whose byte may not stand behind the one ahead; -1: there is none -/
def badOf (l : List Int) (v : Int) : Int := bad l v 1 (l.length - 1)
theorem bad_stop {l : List Int} {v : Int} {k : Nat} : bad l v k 0 = -1 := rfl
theorem bad_hit {l : List Int} {v : Int} {k n : Nat} (h : mayB (l.getD (k - 1) 0) (l.getD k 0) v = false) : bad l v k (n + 1) = k := by simp only [bad]; rw [if_pos h]
theorem bad_go {l : List Int} {v : Int} {k n : Nat} (h : mayB (l.getD (k - 1) 0) (l.getD k 0) v = true) : bad l v k (n + 1) = bad l v (k + 1) n := by simp only [bad]; rw [if_neg (by simp only [h]; decide)]
attribute [irreducible] mayB bad

theorem drewB {w : World} : Below w.heap.size w w.drew := (Below.refl _ _).drew
theorem cell_drew (w : World) (p : Addr) : w.drew.cell? p = w.cell? p := rfl
theorem held_start {w0 w : World} {p q : Addr} {x y : Value} (h : Below w0.heap.size w0 w) (h1 : w.cell? p = some x) (h2 : w.cell? q = some y) :
    Below w0.heap.size w0 w.drew ∧ w.drew.cell? p = some x ∧ w.drew.cell? q = some y := ⟨h.drew, h1, h2⟩
theorem held_step {w0 w w' : World} {p q : Addr} {x y : Value} (h : Below w0.heap.size w0 w ∧ w.cell? p = some x ∧ w.cell? q = some y) (hb : Below w.heap.size w w') :
    Below w0.heap.size w0 w' ∧ w'.cell? p = some x ∧ w'.cell? q = some y :=
  ⟨cat h.1 hb, by rw [hb.cell (cell_lt h.2.1)]; exact h.2.1, by rw [hb.cell (cell_lt h.2.2)]; exact h.2.2⟩
set_option maxHeartbeats 1000000 in
theorem check26 (a : Option Addr) (cap : Nat) (l : List Int) (v : Int) (w : World) (hr : RowAt .u8 w a l) (hB : Bytes l) (hs : l.length ≤ 140737488355328) :
    Calls Tryz.prog 12 #[.slice a l.length cap, .int .i64 v] w fun e w' => e = .returned (.int .i64 (badOf l v)) ∧ Below w.heap.size w w' := by
  go_enter Tryz.func12, Tryz.ntmps12
  go_wp2
  go_loopw [5] (fun i wr => ∃ m : Nat, m ≤ l.length - 1 ∧ i = .int .i64 (m + 1) ∧ badOf l v = bad l v (m + 1) (l.length - (m + 1)) ∧ Below w.heap.size w wr) (fun i _ => l.length - (intOf i).toNat)
  case atStart => exact ⟨0, by omega, rfl, rfl, Below.refl _ _⟩
  case round =>
    obtain ⟨m, hk, rfl, hq, hb⟩ := hrel
    have HQ := Lib.hid hq
    clear hq
    by_cases hlt : m + 1 < l.length
    · obtain ⟨b, off, rfl, hc⟩ := (hr.keep hb).cell (by intro h; simp [h] at hlt)
      have c0 := hc m (by omega)
      have c1 := hc (m + 1) hlt
      obtain ⟨x0, x1⟩ := hB.at m
      obtain ⟨y0, y1⟩ := hB.at (m + 1)
      have HN : Hid (l.length - (m + 1) = (l.length - (m + 2)) + 1) := by show _ = _; omega
      clear hc
      generalize hx : l.getD m 0 = x at *
      generalize hy : l.getD (m + 1) 0 = y at *
      have HX := Lib.hid hx
      have HY := Lib.hid hy
      clear hx hy
      rcases Bool.eq_false_or_eq_true (mayB x y v) with hm | hm
      · have HM := Lib.hid (fun W => may24 x y v W x0 x1 y0 y1)
        have n0 : (0 : Int) ≤ (m : Int) := by omega
        have n1 : (m : Int) < (l.length : Int) := by omega
        have n2 : (0 : Int) ≤ (m : Int) + 1 := by omega
        have n3 : (m : Int) + 1 < (l.length : Int) := by omega
        have n4 : IntKind.i64.wrap ((m : Int) + 1 - 1) = (m : Int) := by rw [show (m : Int) + 1 - 1 = m by omega]; exact IntWalk.i64_in _ (by omega)
        have n7 : IntKind.i64.wrap (m : Int) = (m : Int) := IntWalk.i64_in _ (by omega)
        have n5 : ((m : Int) + 1).toNat = m + 1 := by omega
        have n6 : ((m : Int)).toNat = m := by omega
        go_wp2_with fail
        go_region_held3 (fun w' => Below w.heap.size w w' ∧ w'.cell? ⟨b, off + m, none⟩ = some (.int .u8 x) ∧ w'.cell? ⟨b, off + (m + 1), none⟩ = some (.int .u8 y)) (first | exact held_start (by assumption) (by assumption) (by assumption) | exact held_step (by assumption) (by assumption)) (first | (go_at_call 10; refine (HM.out _).mono ?_; rintro e w' ⟨rfl, hb2⟩))
        clear n4 n7 n5 n6
        rename_i hHeld
        have HH := Lib.hid hHeld.1
        clear hHeld
        go_wp2
        go_roundw
        case rel => exact ⟨m + 1, by omega, by go_num, by rw [HQ.out, HN.out, bad_go (by show mayB (l.getD m 0) (l.getD (m + 1) 0) v = true; rw [HX.out, HY.out]; exact hm)], HH.out⟩
        case measure => simp [intOf]; omega
      · have HM := Lib.hid (fun W => may24 x y v W x0 x1 y0 y1)
        have n0 : (0 : Int) ≤ (m : Int) := by omega
        have n1 : (m : Int) < (l.length : Int) := by omega
        have n2 : (0 : Int) ≤ (m : Int) + 1 := by omega
        have n3 : (m : Int) + 1 < (l.length : Int) := by omega
        have n4 : IntKind.i64.wrap ((m : Int) + 1 - 1) = (m : Int) := by rw [show (m : Int) + 1 - 1 = m by omega]; exact IntWalk.i64_in _ (by omega)
        have n7 : IntKind.i64.wrap (m : Int) = (m : Int) := IntWalk.i64_in _ (by omega)
        have n5 : ((m : Int) + 1).toNat = m + 1 := by omega
        have n6 : ((m : Int)).toNat = m := by omega
        go_wp2_with fail
        go_region_held3 (fun w' => Below w.heap.size w w' ∧ w'.cell? ⟨b, off + m, none⟩ = some (.int .u8 x) ∧ w'.cell? ⟨b, off + (m + 1), none⟩ = some (.int .u8 y)) (first | exact held_start (by assumption) (by assumption) (by assumption) | exact held_step (by assumption) (by assumption)) (first | (go_at_call 10; refine (HM.out _).mono ?_; rintro e w' ⟨rfl, hb2⟩))
        clear n4 n7 n5 n6
        rename_i hHeld
        have HH := Lib.hid hHeld.1
        clear hHeld
        go_wp2
        go_ret
        exact ⟨ret_i (by rw [HQ.out, HN.out, bad_hit (by show mayB (l.getD m 0) (l.getD (m + 1) 0) v = false; rw [HX.out, HY.out]; exact hm)]; rfl), HH.out⟩
    · obtain rfl : m = l.length - 1 := by omega
      go_wp2
      all_goals first
        | (exfalso; omega)
        | (go_ret; exact ⟨ret_i (by rw [HQ.out, show l.length - (l.length - 1 + 1) = 0 by omega, bad_stop]), hb⟩)

/-- block b is a checker -/
def Chk (w : World) (b : Nat) (lv last at_ bd : Int) : Prop := w.heap[b]? = some (.cells #[.int .i64 lv, .int .u8 last, .int .i64 at_, .int .i64 bd] 57 (0, 0))
theorem Chk.lt {w : World} {b : Nat} {lv last at_ bd : Int} (h : Chk w b lv last at_ bd) : b < w.heap.size := by
  unfold Chk at h
  by_cases hb : b < w.heap.size
  · exact hb
  · rw [Array.getElem?_eq_none (by omega)] at h; cases h
theorem Chk.c0 {w : World} {b : Nat} {lv last at_ bd : Int} (h : Chk w b lv last at_ bd) : w.cell? ⟨b, 0, none⟩ = some (.int .i64 lv) := by rw [cell_of_row w b 0 _ _ _ h]; rfl
theorem Chk.c1 {w : World} {b : Nat} {lv last at_ bd : Int} (h : Chk w b lv last at_ bd) : w.cell? ⟨b, 1, none⟩ = some (.int .u8 last) := by rw [cell_of_row w b 1 _ _ _ h]; rfl
theorem Chk.c2 {w : World} {b : Nat} {lv last at_ bd : Int} (h : Chk w b lv last at_ bd) : w.cell? ⟨b, 2, none⟩ = some (.int .i64 at_) := by rw [cell_of_row w b 2 _ _ _ h]; rfl
theorem Chk.c3 {w : World} {b : Nat} {lv last at_ bd : Int} (h : Chk w b lv last at_ bd) : w.cell? ⟨b, 3, none⟩ = some (.int .i64 bd) := by rw [cell_of_row w b 3 _ _ _ h]; rfl
theorem Chk.free {w : World} {b : Nat} {lv last at_ bd : Int} (h : Chk w b lv last at_ bd) (i : Nat) : w.frozen? ⟨b, i, none⟩ = false := by simp [World.frozen?, show w.heap[b]? = _ from h]
theorem Chk.keep {w w' : World} {b : Nat} {lv last at_ bd : Int} (h : Chk w b lv last at_ bd) (hb : Below w.heap.size w w') : Chk w' b lv last at_ bd := by
  unfold Chk; rw [hb.block b h.lt]; exact h
theorem Chk.set1 {w : World} {b : Nat} {lv last at_ bd : Int} (h : Chk w b lv last at_ bd) (x : Int) : Chk (w.setCell ⟨b, 1, none⟩ (.int .u8 x)) b lv x at_ bd := by
  unfold Chk; rw [heap_setCell_same w b 1 _ _ _ h]; rfl
theorem Chk.set2 {w : World} {b : Nat} {lv last at_ bd : Int} (h : Chk w b lv last at_ bd) (x : Int) : Chk (w.setCell ⟨b, 2, none⟩ (.int .i64 x)) b lv last x bd := by
  unfold Chk; rw [heap_setCell_same w b 2 _ _ _ h]; rfl
theorem Chk.set3 {w : World} {b : Nat} {lv last at_ bd : Int} (h : Chk w b lv last at_ bd) (x : Int) : Chk (w.setCell ⟨b, 3, none⟩ (.int .i64 x)) b lv last at_ x := by
  unfold Chk; rw [heap_setCell_same w b 3 _ _ _ h]; rfl
theorem of28 (lv : Int) (w : World) : Calls Tryz.prog 9 #[.int .i64 lv] w fun e w' => e = .returned (.pointer (some ⟨w.heap.size, 0, none⟩)) ∧ Chk w' w.heap.size lv 0 0 (-1) ∧ Below w.heap.size w w' := by
  go_enter Tryz.func9, Tryz.ntmps9
  go_wp2
  go_ret
  exact ⟨rfl, by unfold Chk; rw [heap_alloc]; simp, (Below.refl _ _).alloc (Nat.le_refl _) _⟩
theorem bad29 (b : Nat) (lv last at_ bd : Int) (w : World) (h : Chk w b lv last at_ bd) : Calls Tryz.prog 13 #[.pointer (some ⟨b, 0, none⟩)] w fun e w' => e = .returned (.int .i64 bd) ∧ w = w' := by
  have c3 := h.c3
  have H := Lib.hid h
  clear h
  go_enter Tryz.func13, Tryz.ntmps13
  go_wp2
  go_ret
  exact ⟨rfl, rfl⟩
/-- the checker's first bad place behind a byte more -/
def next (lv last at_ bd x : Int) : Int := if bd < 0 ∧ 0 < at_ ∧ mayB last x lv = false then at_ else bd
theorem gB_below {w w' : World} (h : Below w.heap.size w w') (r : Option Nat) : w.grownBy w' r := ⟨h.os, h.tape, h.output, h.size, fun k hk _ => h.block k hk⟩
theorem gB_set {w w' : World} {b : Nat} (h : w.grownBy w' (some b)) (i : Nat) (u : Value) : w.grownBy (w'.setCell ⟨b, i, none⟩ u) (some b) :=
  ⟨h.os, h.tape, h.output, by simpa using h.size, fun k hk hne => by
    rw [Below.heap_setCell _ _ _ _ (fun e => hne (by rw [e]))]; exact h.block k hk hne⟩
theorem store3 {w0 w1 : World} {b : Nat} {lv last at_ bd : Int} (h1 : Chk w1 b lv last at_ bd) (hb : Below w0.heap.size w0 w1) (hlt : b < w0.heap.size) (x y z : Int) :
    Chk (((w1.setCell ⟨b, 3, none⟩ (.int .i64 z)).setCell ⟨b, 1, none⟩ (.int .u8 x)).setCell ⟨b, 2, none⟩ (.int .i64 y)) b lv x y z ∧ ∀ B, B ≤ b → Below B w0 (((w1.setCell ⟨b, 3, none⟩ (.int .i64 z)).setCell ⟨b, 1, none⟩ (.int .u8 x)).setCell ⟨b, 2, none⟩ (.int .i64 y)) :=
  ⟨((h1.set3 z).set1 x).set2 y, fun B hB => (((hb.mono (by omega)).setCell (p := ⟨b, 3, none⟩) hB _).setCell (p := ⟨b, 1, none⟩) hB _).setCell (p := ⟨b, 2, none⟩) hB _⟩
theorem Chk.drawn {w : World} {b : Nat} {lv last at_ bd : Int} (h : Chk w b lv last at_ bd) (n : Nat) : Chk (w.drewN n) b lv last at_ bd := h
theorem store2 {w0 w1 : World} {b : Nat} {lv last at_ bd : Int} (h1 : Chk w1 b lv last at_ bd) (hb : Below w0.heap.size w0 w1) (hlt : b < w0.heap.size) (x y : Int) :
    Chk ((w1.setCell ⟨b, 1, none⟩ (.int .u8 x)).setCell ⟨b, 2, none⟩ (.int .i64 y)) b lv x y bd ∧ ∀ B, B ≤ b → Below B w0 ((w1.setCell ⟨b, 1, none⟩ (.int .u8 x)).setCell ⟨b, 2, none⟩ (.int .i64 y)) :=
  ⟨(h1.set1 x).set2 y, fun B hB => ((hb.mono (by omega)).setCell (p := ⟨b, 1, none⟩) hB _).setCell (p := ⟨b, 2, none⟩) hB _⟩
def PutPost (w : World) (b : Nat) (lv at_ : Int) (x nb : Int) (w' : World) : Prop := (Chk w' b lv x (at_ + 1) nb ∧ ∀ B, B ≤ b → Below B w w') ∧ w.grownBy w' (some b)
theorem post2 {w w1 : World} {b : Nat} {lv last at_ bd x y nb : Int} (hc : Chk w1 b lv last at_ bd) (hb : Below w.heap.size w w1) (hlt : b < w.heap.size) (hn : nb = bd) (hy : y = at_ + 1) :
    PutPost w b lv at_ x nb ((w1.setCell ⟨b, 1, none⟩ (.int .u8 x)).setCell ⟨b, 2, none⟩ (.int .i64 y)) := by
  subst hn hy; exact ⟨store2 hc hb hlt x _, gB_set (gB_set (gB_below hb _) _ _) _ _⟩
theorem post3 {w w1 : World} {b : Nat} {lv last at_ bd x y z nb : Int} (hc : Chk w1 b lv last at_ bd) (hb : Below w.heap.size w w1) (hlt : b < w.heap.size) (hn : nb = z) (hy : y = at_ + 1) :
    PutPost w b lv at_ x nb (((w1.setCell ⟨b, 3, none⟩ (.int .i64 z)).setCell ⟨b, 1, none⟩ (.int .u8 x)).setCell ⟨b, 2, none⟩ (.int .i64 y)) := by
  subst hn hy; exact ⟨store3 hc hb hlt x _ _, gB_set (gB_set (gB_set (gB_below hb _) _ _) _ _) _ _⟩
theorem chk_start {w0 : World} {b : Nat} {p q r s : Value} (h0 : w0.cell? ⟨b, 0, none⟩ = some p) (h1 : w0.cell? ⟨b, 1, none⟩ = some q) (h2 : w0.cell? ⟨b, 2, none⟩ = some r) (h3 : w0.cell? ⟨b, 3, none⟩ = some s) :
    Below w0.heap.size w0 w0.drew ∧ w0.drew.cell? ⟨b, 0, none⟩ = some p ∧ w0.drew.cell? ⟨b, 1, none⟩ = some q ∧ w0.drew.cell? ⟨b, 2, none⟩ = some r ∧ w0.drew.cell? ⟨b, 3, none⟩ = some s := ⟨(Below.refl _ _).drew, h0, h1, h2, h3⟩
theorem chk_step {w0 w w' : World} {b : Nat} {p q r s : Value} (h : Below w0.heap.size w0 w ∧ w.cell? ⟨b, 0, none⟩ = some p ∧ w.cell? ⟨b, 1, none⟩ = some q ∧ w.cell? ⟨b, 2, none⟩ = some r ∧ w.cell? ⟨b, 3, none⟩ = some s) (hb : Below w.heap.size w w') :
    Below w0.heap.size w0 w' ∧ w'.cell? ⟨b, 0, none⟩ = some p ∧ w'.cell? ⟨b, 1, none⟩ = some q ∧ w'.cell? ⟨b, 2, none⟩ = some r ∧ w'.cell? ⟨b, 3, none⟩ = some s :=
  ⟨cat h.1 hb, by rw [hb.cell (cell_lt h.2.1)]; exact h.2.1, by rw [hb.cell (cell_lt h.2.2.1)]; exact h.2.2.1, by rw [hb.cell (cell_lt h.2.2.2.1)]; exact h.2.2.2.1, by rw [hb.cell (cell_lt h.2.2.2.2)]; exact h.2.2.2.2⟩
set_option maxRecDepth 100000 in
set_option maxHeartbeats 1000000 in
theorem put30 (b : Nat) (lv last : Int) (k : Nat) (bd x : Int) (w : World) (h : Chk w b lv last k bd) (l0 : 0 ≤ last) (l1 : last < 256) (x0 : 0 ≤ x) (x1 : x < 256) (hk : (k : Int) ≤ 140737488355328) :
    Calls Tryz.prog 11 #[.pointer (some ⟨b, 0, none⟩), .int .u8 x] w fun e w' => e = .returned (.bool (decide (next lv last k bd x < 0))) ∧ PutPost w b lv k x (next lv last k bd x) w' := by
  have hlt := h.lt
  have c0 := h.c0
  have c1 := h.c1
  have c2 := h.c2
  have c3 := h.c3
  have HC := Lib.hid h
  have f1 := h.free 1
  have f2 := h.free 2
  have f3 := h.free 3
  clear h
  by_cases hbd : bd < 0
  · rcases k with _ | j
    · have HN : Hid (next lv last (0 : Nat) bd x = bd) := by unfold Hid next; rw [if_neg (fun h => absurd h.2.1 (by simp))]
      go_enter Tryz.func11, Tryz.ntmps11
      go_wp2_with fail
      go_quiet (fail)
      go_wp2
      go_ret
      exact ⟨ret_b (by rw [HN.out]; symm; simpa using hbd), post2 (HC.out.drawn _) (dN (Below.refl _ _) _) hlt HN.out rfl⟩
    · have HM := Lib.hid (fun W => may24 last x lv W l0 l1 x0 x1)
      have n8 : (0 : Int) < (j : Int) + 1 := by omega
      rcases Bool.eq_false_or_eq_true (mayB last x lv) with hm | hm
      · have HN : Hid (next lv last (j + 1 : Nat) bd x = bd) := by unfold Hid next; rw [if_neg (fun h => by rw [hm] at h; cases h.2.2)]
        go_enter Tryz.func11, Tryz.ntmps11
        go_wp2_with fail
        go_region_held3 (fun w' => Below w.heap.size w w' ∧ w'.cell? ⟨b, 0, none⟩ = some (.int .i64 lv) ∧ w'.cell? ⟨b, 1, none⟩ = some (.int .u8 last) ∧ w'.cell? ⟨b, 2, none⟩ = some (.int .i64 (j + 1)) ∧ w'.cell? ⟨b, 3, none⟩ = some (.int .i64 bd)) (first | exact chk_start (by assumption) (by assumption) (by assumption) (by assumption) | exact chk_step (by assumption) (by assumption)) (first | (go_at_call 10; refine (HM.out _).mono ?_; rintro e w1 ⟨rfl, hb2⟩))
        rename_i hHeld
        obtain ⟨hB, d0, d1, d2, d3⟩ := hHeld
        have g1 : w1.frozen? ⟨b, 1, none⟩ = false := by rw [hB.frozen hlt]; exact f1
        have g2 : w1.frozen? ⟨b, 2, none⟩ = false := by rw [hB.frozen hlt]; exact f2
        go_wp2
        go_ret
        exact ⟨ret_b (by rw [HN.out]; symm; simpa using hbd), post2 (HC.out.keep hB) hB hlt HN.out (by simp)⟩
      · have HN : Hid (next lv last (j + 1 : Nat) bd x = (j + 1 : Nat)) := by unfold Hid next; rw [if_pos ⟨hbd, by omega, hm⟩]
        go_enter Tryz.func11, Tryz.ntmps11
        go_wp2_with fail
        go_region_held3 (fun w' => Below w.heap.size w w' ∧ w'.cell? ⟨b, 0, none⟩ = some (.int .i64 lv) ∧ w'.cell? ⟨b, 1, none⟩ = some (.int .u8 last) ∧ w'.cell? ⟨b, 2, none⟩ = some (.int .i64 (j + 1)) ∧ w'.cell? ⟨b, 3, none⟩ = some (.int .i64 bd)) (first | exact chk_start (by assumption) (by assumption) (by assumption) (by assumption) | exact chk_step (by assumption) (by assumption)) (first | (go_at_call 10; refine (HM.out _).mono ?_; rintro e w1 ⟨rfl, hb2⟩))
        rename_i hHeld
        obtain ⟨hB, d0, d1, d2, d3⟩ := hHeld
        have g1 : w1.frozen? ⟨b, 1, none⟩ = false := by rw [hB.frozen hlt]; exact f1
        have g2 : w1.frozen? ⟨b, 2, none⟩ = false := by rw [hB.frozen hlt]; exact f2
        have g3 : w1.frozen? ⟨b, 3, none⟩ = false := by rw [hB.frozen hlt]; exact f3
        go_wp2
        go_ret
        exact ⟨ret_b (by rw [HN.out]; rfl), post3 (HC.out.keep hB) hB hlt HN.out (by simp)⟩
  · have HN : Hid (next lv last k bd x = bd) := by unfold Hid next; rw [if_neg (fun h => hbd h.1)]
    have hd : decide (bd < 0) = false := by simpa using hbd
    go_enter Tryz.func11, Tryz.ntmps11
    go_wp2_with fail
    go_quiet (fail)
    go_wp2
    go_ret
    exact ⟨ret_b (by rw [HN.out, hd]), post2 (HC.out.drawn _) (dN (Below.refl _ _) _) hlt HN.out rfl⟩
theorem PutPost.chk {w w' : World} {b : Nat} {lv at_ x nb : Int} (h : PutPost w b lv at_ x nb w') : Chk w' b lv x (at_ + 1) nb := h.1.1
theorem PutPost.below {w w' : World} {b : Nat} {lv at_ x nb : Int} (h : PutPost w b lv at_ x nb w') {B : Nat} (hB : B ≤ b) : Below B w w' := h.1.2 B hB
attribute [irreducible] next
end Th
end Go.Proofs.YtnfjgopcenpblaaGreatDoor.T

/- The checker's plain laws, and what TopWtt keeps. No condition. -/
namespace Go.Proofs.YtnfjgopcenpblaaGreatDoor.T
open Go.RowKit Go.Proofs.YtnfjgopcenpblaaGreatDoorW.PrintWords Go.Proofs.YtnfjgopcenpblaaGreatDoorW.PrintLast Go.Proofs.YtnfjgopcenpblaaGreatDoorW.PrintMore Go.Proofs.YtnfjgopcenpblaaGreatDoor
set_option linter.unusedVariables false
set_option linter.unusedSimpArgs false
namespace Th
def OkUpto (l : List Int) (v : Int) (k : Nat) : Prop := ∀ j, j + 1 < k → mayB (l.getD j 0) (l.getD (j + 1) 0) v = true
theorem bad_cases (l : List Int) (v : Int) (n : Nat) : ∀ k, OkUpto l v (k + 1) →
    (bad l v (k + 1) n = -1 ∧ OkUpto l v (k + 1 + n)) ∨ (∃ j : Nat, bad l v (k + 1) n = ((j + 1 : Nat) : Int) ∧ k ≤ j ∧ j < k + n ∧ OkUpto l v (j + 1) ∧ mayB (l.getD j 0) (l.getD (j + 1) 0) v = false) := by
  induction n with
  | zero => intro k h; exact .inl ⟨bad_stop, h⟩
  | succ n ih =>
    intro k h
    cases hm : mayB (l.getD k 0) (l.getD (k + 1) 0) v with
    | false => exact .inr ⟨k, bad_hit (by simpa using hm), Nat.le_refl _, by omega, h, hm⟩
    | true =>
      have e : bad l v (k + 1) (n + 1) = bad l v (k + 1 + 1) n := bad_go (by simpa using hm)
      have h' : OkUpto l v (k + 1 + 1) := fun j hj => by
        by_cases hk : j = k
        · subst hk; exact hm
        · exact h j (by omega)
      rw [e]
      rcases ih (k + 1) h' with ⟨a, b⟩ | ⟨j, a, b, c, d, f⟩
      · exact .inl ⟨a, by rw [show k + 1 + (n + 1) = k + 1 + 1 + n by omega]; exact b⟩
      · exact .inr ⟨j, a, by omega, by omega, d, f⟩
theorem badOf_cases (l : List Int) (v : Int) :
    (badOf l v = -1 ∧ OkUpto l v l.length) ∨ (∃ j : Nat, badOf l v = ((j + 1 : Nat) : Int) ∧ j + 1 < l.length ∧ OkUpto l v (j + 1) ∧ mayB (l.getD j 0) (l.getD (j + 1) 0) v = false) := by
  rcases bad_cases l v (l.length - 1) 0 (fun j hj => by omega) with ⟨a, b⟩ | ⟨j, a, b, c, d, f⟩
  · refine .inl ⟨a, fun j hj => b j (by omega)⟩
  · exact .inr ⟨j, a, by omega, d, f⟩
theorem badOf_none {l : List Int} {v : Int} (h : OkUpto l v l.length) : badOf l v = -1 := by
  rcases badOf_cases l v with ⟨a, _⟩ | ⟨j, _, b, _, d⟩
  · exact a
  · rw [h j b] at d; cases d
theorem badOf_at {l : List Int} {v : Int} {j : Nat} (h1 : j + 1 < l.length) (h2 : OkUpto l v (j + 1)) (h3 : mayB (l.getD j 0) (l.getD (j + 1) 0) v = false) : badOf l v = ((j + 1 : Nat) : Int) := by
  rcases badOf_cases l v with ⟨_, b⟩ | ⟨i, a, b, c, d⟩
  · rw [b j h1] at h3; cases h3
  · rcases Nat.lt_trichotomy i j with h | h | h
    · rw [h2 i (by omega)] at d; cases d
    · rw [a, h]
    · rw [c j (by omega)] at h3; cases h3
theorem ok_app {l m : List Int} {v : Int} {k : Nat} (hk : k ≤ l.length) (h : OkUpto l v k) : OkUpto (l ++ m) v k := fun j hj => by
  rw [getD_app (by omega), getD_app (by omega)]; exact h j hj
theorem grows_yes {b : List Int} {c v : Int} (h : 0 ≤ badOf b v) : badOf (b ++ [c]) v = badOf b v := by
  rcases badOf_cases b v with ⟨a, _⟩ | ⟨j, a, q, r, s⟩
  · omega
  · rw [a]
    exact badOf_at (by simp; omega) (ok_app (by omega) r) (by rw [getD_app (by omega), getD_app (by omega)]; exact s)
theorem grows_no {b : List Int} {c v : Int} (h : ¬ 0 ≤ badOf b v) : badOf (b ++ [c]) v = -1 ∨ badOf (b ++ [c]) v = b.length := by
  rcases badOf_cases b v with ⟨_, ok⟩ | ⟨j, a, q, r, s⟩
  · rcases badOf_cases (b ++ [c]) v with ⟨a, _⟩ | ⟨j, a, q, r, s⟩
    · exact .inl a
    · refine .inr ?_
      rw [a]
      simp at q
      by_cases hj : j + 1 < b.length
      · rw [getD_app (by omega), getD_app (by omega), ok j hj] at s; cases s
      · omega
  · omega
theorem getD_snoc_last {L : List Int} {x : Int} : (L ++ [x]).getD L.length 0 = x := by simp
theorem badOf_nil (v : Int) : badOf [] v = -1 := badOf_none (fun j hj => by simp at hj)
theorem next_if (lv last at_ bd x : Int) : next lv last at_ bd x = if bd < 0 ∧ 0 < at_ ∧ mayB last x lv = false then at_ else bd := by unfold next; rfl
/-- the checker's step is the check of one byte more -/
theorem next_is (L : List Int) (x lv last : Int) (hl : L = [] ∨ last = L.getD (L.length - 1) 0) : next lv last L.length (badOf L lv) x = badOf (L ++ [x]) lv := by
  rw [next_if]
  by_cases hb : badOf L lv < 0
  · rcases badOf_cases L lv with ⟨e, ok⟩ | ⟨j, e, _⟩
    · by_cases h0 : L = []
      · subst h0
        rw [if_neg (fun h => by simp at h)]
        rw [badOf_nil, badOf_none (fun j hj => by simp at hj)]
      · have hpos : 0 < L.length := by
          rcases L with _ | ⟨y, ys⟩
          · exact absurd rfl h0
          · simp
        have hlast : last = L.getD (L.length - 1) 0 := by
          rcases hl with h | h
          · exact absurd h h0
          · exact h
        have hgl : (L ++ [x]).getD (L.length - 1) 0 = last := by rw [getD_app (by omega), hlast]
        have hgx : (L ++ [x]).getD (L.length - 1 + 1) 0 = x := by rw [show L.length - 1 + 1 = L.length by omega]; exact getD_snoc_last
        cases hm : mayB last x lv with
        | false =>
          rw [if_pos ⟨hb, by omega, rfl⟩]
          have := badOf_at (l := L ++ [x]) (v := lv) (j := L.length - 1) (by simp; omega) (ok_app (by omega) (fun j hj => ok j (by omega))) (by rw [hgl, hgx]; exact hm)
          rw [this]; omega
        | true =>
          rw [if_neg (fun h => by cases h.2.2), e]
          refine (badOf_none (fun j hj => ?_)).symm
          simp at hj
          by_cases hj2 : j = L.length - 1
          · subst hj2; rw [hgl, hgx]; exact hm
          · rw [getD_app (by omega), getD_app (by omega)]; exact ok j (by omega)
    · rw [e] at hb; omega
  · rw [if_neg (fun h => hb h.1)]
    exact (grows_yes (by omega)).symm
/-- x is told by a row that lies below block cb -/
def RW (W : World) (cb : Nat) (A : Option Addr) (X : List Int) : Prop := X = [] ∨ ∃ g, A = some ⟨g, 0, none⟩ ∧ g < cb ∧ ∀ j, j < X.length → W.cell? ⟨g, j, none⟩ = some (.int .u8 (X.getD j 0))
theorem RW.step {W W' : World} {cb : Nat} {A : Option Addr} {X : List Int} (h : RW W cb A X) (hb : Below cb W W') : RW W' cb A X := by
  rcases h with h | ⟨g, e, hg, hc⟩
  · exact .inl h
  · refine .inr ⟨g, e, hg, fun j hj => ?_⟩
    rw [← hc j hj]
    exact hb.cell hg
theorem RW.row {W : World} {cb : Nat} {A : Option Addr} {X : List Int} (h : RW W cb A X) : RowAt .u8 W A X := by
  rcases h with h | ⟨g, e, hg, hc⟩
  · exact .inl h
  · exact .inr ⟨g, 0, e, fun j hj => by rw [Nat.zero_add]; exact hc j hj⟩
theorem rw_own {W : World} {A : Option Addr} {c n : Nat} {X : List Int} (h : W.ownsRow 0 5 1 (.slice A n c) n (nums .u8 X)) (hn : X.length = n) : RW W W.heap.size A X := by
  rcases h.2 with ⟨he, h0⟩ | ⟨g, cap, cur, he, _, hh, _⟩
  · left
    have : X.length = 0 := by
      simp at he
      omega
    exact List.eq_nil_of_length_eq_zero this
  · right
    obtain ⟨rfl, _, _⟩ : A = some ⟨g, 0, none⟩ ∧ n = n ∧ c = cap := by simpa using he
    refine ⟨g, rfl, blk_lt hh, fun j hj => ?_⟩
    have := h.cells (g := g) rfl j (.int .u8 (X.getD j 0)) (by simp [nums, hj])
    rw [← this]
    congr 1
    cases j <;> simp [Addr.add]
/-- the law's byte -/
def tf (c : Int) : Int := 161 + c % 58
theorem tf_rng (c : Int) : 161 ≤ tf c ∧ tf c ≤ 218 := by unfold tf; omega
theorem set_map {t : List Int} {i : Nat} (h : i < t.length) : ((t.take i).map tf ++ t.drop i).set i (tf t[i]) = (t.take (i + 1)).map tf ++ t.drop (i + 1) := by
  have hl : ((t.take i).map tf).length = i := by rw [List.length_map, List.length_take]; omega
  rw [List.set_append_right _ _ (by omega), hl, Nat.sub_self, List.drop_eq_getElem_cons h, List.set_cons_zero, List.take_succ_eq_append_getElem h, List.map_append]
  simp
/-- the rules of those bytes -/
def tR (X : List Int) : List S150 := X.map fun c => ⟨[c], [dec c]⟩
theorem tR_mem {X : List Int} (h : ∀ c ∈ X, 161 ≤ c ∧ c ≤ 218) : ∀ r ∈ tR X, r ∈ tisR 256 := fun r hr => by
  obtain ⟨c, hc, rfl⟩ := List.mem_map.1 hr
  have := h c hc
  obtain ⟨n, rfl⟩ := Int.eq_ofNat_of_zero_le (by omega : 0 ≤ c)
  exact tisR_mem (by omega) (by unfold decB; simp; omega)
theorem tR_f0 (X : List Int) : (tR X).flatMap (·.f0) = X := by
  induction X with
  | nil => rfl
  | cons c X ih => exact congrArg (c :: ·) ih
theorem tR_f1 {X : List Int} (h : ∀ c ∈ X, 161 ≤ c ∧ c ≤ 218) : ∀ u ∈ (tR X).flatMap (·.f1), scalB u = true := fun u hu => by
  obtain ⟨r, hr, hu⟩ := List.mem_flatMap.1 hu
  obtain ⟨c, hc, rfl⟩ := List.mem_map.1 hr
  have := h c hc
  obtain rfl : u = dec c := by simpa using hu
  unfold dec scalB
  rw [if_neg (by omega), if_pos (by omega)]
  simp; omega
/-- the two conversions of such bytes -/
theorem tis_both {X : List Int} (h : ∀ c ∈ X, 161 ≤ c ∧ c ≤ 218) (hl : X.length ≤ 1000) : ∃ y : List Int, (∀ W A c, (Kd.int .u8).C W A X.length X → Calls Tryz.prog 8 #[.string nmT, .string nmU, .int .i64 0, .slice A X.length c] W (AllP W (y, st0))) ∧
    (∀ W A c, (Kd.int .u8).C W A y.length y → Calls Tryz.prog 8 #[.string nmU, .string nmT, .int .i64 0, .slice A y.length c] W (AllP W (X, st0))) := by
  have hR : (tR X).length ≤ 1000 := by unfold tR; rw [List.length_map]; exact hl
  refine ⟨((tR X).flatMap (·.f1)).flatMap encS, fun W A c hC => ?_, fun W A c hC => ?_⟩
  · have := tab_to_utf tisR_sg name_t (by kernel_rfl) (by kernel_rfl) tisR_tab W A c (tR X) (tR_mem h) hR (tR_f1 h)
    rw [tR_f0] at this
    exact this hC
  · have := utf_to_tab tisR_sg name_t (by kernel_rfl) (by kernel_rfl) tisR_tab W A c (tR X) (tR_mem h) hR (tR_f1 h) hC
    rw [tR_f0] at this
    exact this
end Th
end Go.Proofs.YtnfjgopcenpblaaGreatDoor.T
