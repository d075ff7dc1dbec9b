/- The walk of layer 1's law UtfParts: it returns true; no condition but what a row hands on. -/
import Derived.Test.YtdhpldiahgajcaaK12
namespace Go.Proofs.Ytdhpldiahgajcaa.PUtfAll
open Go.RowKit Go.Proofs.YtdhpldiahgajcaaW.PrintWords Go.Proofs.YtdhpldiahgajcaaW.PrintLast Go.Proofs.YtdhpldiahgajcaaW.PrintMore Go.Proofs.Ytdhpldiahgajcaa
set_option linter.unusedVariables false
theorem last_eF {xs : List S32} {a : Int} {l : List Int} (hl : l ≠ []) : ((xs ++ (eF a l).1).getD ((xs ++ (eF a l).1).length - 1) z32).f3 = 2 := by
  unfold eF
  rw [if_neg hl]
  simp
/-- bytes behind whole ones -/
theorem parts_pure {a b : List Int} (ha : Bytes a) (hb : Bytes b) (h : allF (a.length + 1) 0 a = [] ∨ ((allF (a.length + 1) 0 a).getD ((allF (a.length + 1) 0 a).length - 1) z32).f3 = 0) :
    allF ((a ++ b).length + 1) 0 (a ++ b) = allF (a.length + 1) 0 a ++ (allF (b.length + 1) 0 b).map (shf a.length) := by
  have e1 := all_is (a.length + 1) (a.length + 1) 0 a (by omega) (by omega) ha
  obtain ⟨ts, m, g1, g2, g3, g4, g5⟩ := pF_law (a.length + 1) 0 a (by omega) ha
  rw [g1] at e1
  simp only at e1
  have hd : a.drop m = [] := by
    by_cases hd : a.drop m = []
    · exact hd
    · exfalso
      rcases h with h | h
      · rw [e1] at h
        have := (List.append_eq_nil_iff.1 h).2
        unfold eF at this
        rw [if_neg hd] at this
        simp at this
      · rw [e1, last_eF hd] at h
        exact absurd h (by decide)
  have hm : m = a.length := by have := congrArg List.length hd; simp at this; omega
  rw [hd] at g1 e1
  have e2 : (eF ((0 : Int) + (m : Int)) []).1 = [] := rfl
  rw [e2, List.append_nil] at e1
  have hab : Bytes (a ++ b) := ha.app hb
  rw [all_is ((a ++ b).length + 1) ((a ++ b).length + 1) 0 (a ++ b) (by omega) (by omega) hab, pF_app (a.length + 1) ((a ++ b).length + 1) ((a ++ b).length + 1) 0 a b (by omega) (by omega) (by omega) hab, g1, e1]
  simp only [List.nil_append]
  rw [List.append_assoc, ← all_is (b.length + 1) ((a ++ b).length + 1) (0 + (m : Int)) b (by omega) (by simp; omega) hb, hm, all_shift]
theorem shf_back (d : Int) (l : List S32) : (l.map (shf d)).map (shf (-d)) = l := by
  have : ∀ t : S32, shf (-d) (shf d t) = t := fun t => by cases t; simp [shf]; omega
  induction l with
  | nil => rfl
  | cons x r ih => rw [List.map_cons, List.map_cons, ih, this]
/-- the second part's tokens while they are moved -/
structure PartNow (w5 w' : World) (uY : Value) (tc : List S32) (d : Int) (k kq : Nat) : Prop where
  sum : k + kq = tc.length
  Y : Kd.R k32 32 w' w5.heap.size (fun _ => True) uY (mixF (-d) tc k)
  below : Below w5.heap.size w5 w'
theorem PartNow.next {w6 w' w2 : World} {uY : Value} {tc : List S32} {d : Int} {k kq : Nat} (h : PartNow w6 w' uY tc d k (kq + 1)) (hY : Kd.R k32 32 w2 w6.heap.size (fun _ => True) uY (mixF (-d) tc (k + 1))) (hb : Below w6.heap.size w' w2) : PartNow w6 w2 uY tc d (k + 1) kq :=
  ⟨by have := h.sum; omega, hY, h.below.trans hb⟩
theorem PartNow.start {w6 w7 : World} {uY : Value} {tc tb : List S32} {d : Int} (h : Kd.R k32 32 w7 w6.heap.size (fun _ => True) uY tb) (hb : Below w6.heap.size w6 w7) (hbk : tc.map (shf (-d)) = tb) : PartNow w6 w7 uY tc d 0 tc.length :=
  ⟨by omega, by rw [mix_zero, hbk]; exact h, hb⟩
theorem PartNow.head {w5 w' : World} {A : Option Addr} {c : Nat} {tc : List S32} {d : Int} {k kq : Nat} (h : PartNow w5 w' (.slice A tc.length c) tc d k kq) (hp : 0 < tc.length) : ∃ gY, A = some ⟨gY, 0, none⟩ := by
  obtain ⟨g2, c2, e, _⟩ := Kd.R_form h.Y (by rw [mix_len]; exact hp)
  injection e with e1 _ _
  exact ⟨g2, e1⟩
theorem last_num {n : Nat} (h : ¬ n = 0) (hn : n ≤ 1048576) : wrap64 ((n : Int) - 1) = (n : Int) - 1 ∧ 0 ≤ (n : Int) - 1 ∧ (n : Int) - 1 < n ∧ ((n : Int) - 1).toNat = n - 1 := by unfold wrap64; omega
theorem last_cell {w : World} {A : Option Addr} {ta : List S32} (h : Kd.C k32 w A ta.length ta) (h1 : 0 ≤ (ta.length : Int) - 1) (h2 : (ta.length : Int) - 1 < ta.length) (h3 : ((ta.length : Int) - 1).toNat = ta.length - 1) {z : Int} (hz : (ta.getD (ta.length - 1) z32).f3 = z) :
    ∃ ad, A = some ad ∧ w.cell? ⟨(ad.add ((ta.length - 1) * 4)).block, (ad.add ((ta.length - 1) * 4)).off + 3, none⟩ = some (.int .i64 z) := by
  subst hz
  obtain ⟨ad, B2, d2, eA, _, _, _, k3, _, _⟩ := at_T32 h ((ta.length : Int) - 1) h1 h2
  rw [h3] at k3
  have e : rd_T32 ta ((ta.length : Int) - 1) = ta.getD (ta.length - 1) z32 := by unfold rd_T32; rw [h3]
  rw [e] at k3
  exact ⟨ad, eA, k3⟩
theorem part_len {ta tc tab : List S32} (h : tab = ta ++ tc) : (tab.drop ta.length) = tc ∧ tab.take ta.length = ta ∧ ta.length ≤ tab.length := by
  subst h; simp
theorem part_out {f : Nat} {a d : Int} {l : List Int} : ∀ t ∈ (allF f a l).map (shf d), t.f2.length ≤ 100 := by
  intro t ht
  obtain ⟨u, hu, rfl⟩ := List.mem_map.1 ht
  have := all_out f a l u hu
  exact Nat.le_trans this (by omega)
theorem C_cast {w : World} {A : Option Addr} {n : Nat} {xs ys : List S32} (h : Kd.C k32 w A n xs) (e : xs = ys) (hn : n = ys.length) : Kd.C k32 w A ys.length ys := by subst e; subst hn; exact h
theorem cut_first {tab ta tc : List S32} (h : tab = ta ++ tc) (A : Option Addr) (c : Nat) (hc : tab.length ≤ c) :
    (∀ W : World, (Instr.slice 27 (.slice A tab.length c) none (some (.int .i64 (ta.length : Int))) none).run Try.prog W = .ok (.slice A ta.length c) W) ∧ (∀ w, Kd.C k32 w A tab.length tab → Kd.C k32 w A ta.length ta) ∧ ta.length ≤ c := by
  obtain ⟨h1, h2, h3⟩ := part_len h
  obtain ⟨i0, hi, _, hsz, _⟩ := info_parts info32
  refine ⟨fun W => ?_, fun w hC => C_cast (Kd.C_take hC h3) h2 (by rw [h2]), by omega⟩
  have := cut_to (P := Try.prog) 27 32 .i64 Try.underlying27 hi A tab.length c (ta.length : Int) (by omega) (by omega) hc W
  rw [Int.toNat_natCast] at this
  exact this
theorem cut_rest {tab ta tc : List S32} (h : tab = ta ++ tc) (A : Option Addr) (c : Nat) (hc : tab.length ≤ c) :
    ∃ A' c', (∀ W : World, (Instr.slice 27 (.slice A tab.length c) (some (.int .i64 (ta.length : Int))) none none).run Try.prog W = .ok (.slice A' tc.length c') W) ∧ (∀ w, Kd.C k32 w A tab.length tab → Kd.C k32 w A' tc.length tc) ∧ tc.length ≤ c' := by
  obtain ⟨h1, h2, h3⟩ := part_len h
  have hl : tab.length - ta.length = tc.length := by rw [h]; simp
  obtain ⟨i0, hi, _, hsz, _⟩ := info_parts info32
  refine ⟨_, c - ta.length, fun W => ?_, fun w hC => C_cast (Kd.C_drop hC h3 hc) h1 (by rw [h1]), ?_⟩
  · have := cut_from (P := Try.prog) 27 32 .i64 Try.underlying27 hi 4 hsz A tab.length c (ta.length : Int) (by omega) (by omega) W
    rw [Int.toNat_natCast, hl] at this
    exact this
  · have := congrArg List.length h
    rw [List.length_append] at this
    omega
theorem tc_pos {tb : List S32} {n k : Nat} (h : ∀ t ∈ tb, 0 ≤ t.f0 ∧ t.f0 ≤ 1048576) (hn : n ≤ 1048576) (hk : k < (tb.map (shf (n : Int))).length) : wrap64 ((tb.map (shf (n : Int)))[k]).f0 = ((tb.map (shf (n : Int)))[k]).f0 := by
  rw [List.getElem_map]
  have := h (tb[k]'(by simpa using hk)) (List.getElem_mem _)
  show wrap64 (_ + (n : Int)) = _ + (n : Int)
  unfold wrap64; omega
theorem below_grown {W W2 : World} (hg : W.grownBy W2 none) : Below W.heap.size W W2 := ⟨hg.os, hg.tape, hg.output, hg.size, fun k hk => hg.block k hk (by simp)⟩
set_option maxHeartbeats 4000000 in
theorem UtfParts_row (W : World) (A : Option Addr) (cap : Nat) (la0 : List Int) (r : RowAt .u8 W A la0) (s : la0.length * 1 ≤ 140737488351232) (f : ∀ n ∈ la0, (Lit.int .u8 n).wf = true) (hca0 : la0.length ≤ cap)
    (A1 : Option Addr) (cap1 : Nat) (lb0 : List Int) (r1 : RowAt .u8 W A1 lb0) (s1 : lb0.length * 1 ≤ 140737488351232) (f1 : ∀ n ∈ lb0, (Lit.int .u8 n).wf = true) (hcb0 : lb0.length ≤ cap1) (hk : la0.length + lb0.length ≤ 1048576) :
    Calls Try.prog 9 #[.slice A la0.length cap, .slice A1 lb0.length cap1] W fun e w' => e = .returned (.bool true) ∧ Below W.heap.size W w' := by
  have HYYa := Lib.hid (bytes_wf f)
  have HYYb := Lib.hid (bytes_wf f1)
  have HCa := Lib.hid (C_of_row r (by omega))
  have HCb := Lib.hid (C_of_row r1 (by omega))
  have HKa := Lib.hid hca0
  have HKb := Lib.hid hcb0
  replace r := ()
  replace f := ()
  replace r1 := ()
  replace f1 := ()
  have hsa : la0.length ≤ 1048576 := by omega
  have hsb : lb0.length ≤ 1048576 := by omega
  have hsab : Hid ((la0.length + lb0.length) * 1 ≤ 140737488355328) := Lib.hid (by omega)
  have HB := Lib.hid (Below.refl W.heap.size W)
  have HYab := Lib.hid (HYYa.out.app HYYb.out)
  have hlab : (la0 ++ lb0).length = la0.length + lb0.length := List.length_append
  have Sa := Lib.hid (same_all (la0.length + 1) 0 HYYa.out (by omega))
  have Aa := Lib.hid (all_f HYYa.out (by omega))
  have Ab := Lib.hid (all_f HYYb.out (by omega))
  have Aab := Lib.hid (all_f HYab.out (by omega))
  have hta : (allF (la0.length + 1) 0 la0).length ≤ la0.length := all_len (la0.length + 1) 0 la0 HYYa.out
  have htb : (allF (lb0.length + 1) 0 lb0).length ≤ lb0.length := all_len (lb0.length + 1) 0 lb0 HYYb.out
  have hpp := Lib.hid (parts_pure HYYa.out HYYb.out)
  have hpos := all_pos (lb0.length + 1) 0 lb0 HYYb.out
  have hout := Lib.hid (part_out (f := lb0.length + 1) (a := 0) (d := la0.length) (l := lb0))
  replace hpos : Hid (∀ t ∈ allF (lb0.length + 1) 0 lb0, 0 ≤ t.f0 ∧ t.f0 ≤ 1048576) := Lib.hid (fun t ht => by have := hpos t ht; omega)
  have hal : Hid (0 < (allF (la0.length + 1) 0 la0).length → 0 < la0.length) := Lib.hid (fun h => by omega)
  clear s s1 hk hca0 hcb0
  generalize allF (la0.length + 1) 0 la0 = ta at *
  generalize allF (lb0.length + 1) 0 lb0 = tb at *
  generalize allF ((la0 ++ lb0).length + 1) 0 (la0 ++ lb0) = tab at *
  have hta2 : ta.length ≤ 1048576 := by omega
  generalize hz : (ta.getD (ta.length - 1) z32).f3 = z at *
  have hz := Lib.hid hz
  by_cases hbad : ¬ ta.length = 0 ∧ ¬ z = 0
  · obtain ⟨h0, h3⟩ := hbad
    obtain ⟨n1, n2, n3, n4⟩ := last_num h0 hta2
    have h0b : (0 : Int) < (ta.length : Int) := by omega
    have hl0 : (0 : Int) < (la0.length : Int) := by have := hal.out (by omega); omega
    have h3b : (z != 0) = true := bne_iff_ne.mpr h3
    have hl1 : 0 < la0.length := by omega
    clear h0 h3 hta hta2
    go_enter Try.func9, Try.ntmps9
    go_wp2_with (first
      | (go_at_call 20; refine (lontarlaw01_awake.calls 3 true _ (awake_is 0)).mono ?_; rintro e w1 ⟨rfl, hb⟩; replace HB := Lib.hid hb; clear hb)
      | (go_at_call 27; refine (utf_All.calls _ A _ la0 ta _ (Kd.C_below HCa.out HB.out) HKa.out Aa.out).mono ?_; rintro e w2 ⟨v2, rfl, hs7, hb⟩; obtain ⟨A2, c2, rfl, hc7, hC7⟩ := Kd.S_reads hs7; obtain ⟨ad2, rfl, hl3⟩ := last_cell hC7 n2 n3 n4 hz.out; have HB := Lib.hid (HB.out.trans (hb.mono HB.out.size)); clear hs7 hb hc7 hC7))
    all_goals go_ret
    all_goals exact ⟨by first | rfl | (simp [hl1]; done), HB.out⟩
  · have htab : tab = ta ++ tb.map (shf la0.length) := hpp.out (by
      by_cases h0 : ta.length = 0
      · exact .inl (List.eq_nil_of_length_eq_zero h0)
      · exact .inr (Decidable.byContradiction fun h => hbad ⟨h0, h⟩))
    have hw := Lib.hid (fun (k : Nat) hk => tc_pos (k := k) hpos.out hsa hk)
    have hbk := Lib.hid (shf_back (la0.length : Int) tb)
    have htc : (tb.map (shf la0.length)).length ≤ 1048576 := by simp; omega
    have Sc := Lib.hid (same_f (l := tb.map (shf la0.length)) (by omega) hout.out)
    have htcl : tb.length = (tb.map (shf la0.length)).length := by simp
    have htcl := Lib.hid htcl
    clear hpp hpos hout htb hta hlab HYab
    generalize hlg : la0 ++ lb0 = lab at *
    replace hlg := Lib.hid hlg
    generalize tb.map (shf la0.length) = tc at *
    have hle : ta.length ≤ tab.length := (part_len htab).2.2
    replace htab := Lib.hid htab
    go_enter Try.func9, Try.ntmps9
    by_cases h0 : ta.length = 0
    · have h0b : ¬ (0 : Int) < (ta.length : Int) := by omega
      have h0c := Lib.hid h0
      clear hbad h0
      go_wp2_with (first
        | (go_at_call 20; refine (lontarlaw01_awake.calls 3 true _ (awake_is 0)).mono ?_; rintro e w1 ⟨rfl, hb⟩; replace HB := Lib.hid hb; clear hb)
        | (go_at_call 27; (with_reducible refine at_sl1 (A := A) ?_); (with_reducible refine holdx Aa ?_); refine (utf_All.calls _ A _ la0 ta _ (Kd.C_below HCa.out HB.out) HKa.out Aa.out).mono ?_; rintro e w2 ⟨v2, rfl, hs7, hb⟩; obtain ⟨A2, c2, rfl, hc7, hC7⟩ := Kd.S_reads hs7; have HX := Lib.hid hC7; have HXc := Lib.hid hc7; replace HB := Lib.hid (HB.out.trans (hb.mono HB.out.size)); have HB2 := Lib.hid (Below.refl w2.heap.size w2); clear hs7 hb hc7 hC7 Aa)
        | ((with_reducible refine gate_builtin (b := .append) (xs := #[.const (.slice none 0 0), .tmp 29]) rfl ?_); at_builtin; refine Kd.R_append_row (Value.int .u8) 0 (w0 := w2) w2.heap.size rfl (.const (.slice none 0 0)) (.tmp 29) 22 5 (.int .u8 0) 1 rfl Try.underlying22 info5 rfl (by omega) (.slice none 0 0) [] la0 A la0.length cap (fun _ => True) rfl rfl (fun _ _ => trivial) (Kd.R_nil _ _ _ _ _) (Kd.C_below HCa.out HB.out) HB2.out (Nat.le_refl _) ?sz1 ?_; (case sz1 => have := hsab.out; simp; omega); intro v8 w3 ho hb hg hat; rw [List.nil_append] at ho; obtain ⟨A8, c8, rfl⟩ := Kd.R_slice ho; have HO := Lib.hid ho; have HB3 := Lib.hid hb; clear ho hb hg hat HB2)
        | ((with_reducible refine gate_builtin (b := .append) (xs := #[.tmp 30, .tmp 31]) rfl ?_); at_builtin; refine Kd.R_append_row (Value.int .u8) 0 (w0 := w2) w2.heap.size rfl (.tmp 30) (.tmp 31) 22 5 (.int .u8 0) 1 rfl Try.underlying22 info5 rfl (by omega) (.slice A8 la0.length c8) la0 lb0 A1 lb0.length cap1 (fun _ => True) rfl rfl (fun _ _ => trivial) HO.out (Kd.C_below HCb.out (HB.out.trans (HB3.out.mono HB.out.size))) HB3.out HB3.out.size hsab.out ?_; intro v9 w4 ho hb hg hat; rw [hlg.out] at ho; obtain ⟨A9, c9, rfl⟩ := Kd.R_slice ho; obtain ⟨_, hc9, hC9⟩ := Kd.R_reads' ho; have HO9 := Lib.hid hC9; have HO9c := Lib.hid hc9; have HX := Lib.hid (Kd.C_below HX.out hb); have HB := Lib.hid (HB.out.trans (hb.mono HB.out.size)); clear ho hb hg hat HO HB3 hc9 hC9)
        | (go_at_call 27; (with_reducible refine holdx HO9 ?_); refine (utf_All.calls _ A9 c9 lab tab _ HO9.out HO9c.out Aab.out).mono ?_; rintro e w5 ⟨v10, rfl, hs7, hb⟩; obtain ⟨A10, c10, rfl, hc7, hC7⟩ := Kd.S_reads hs7; obtain ⟨hcut1, hC1, hcc1⟩ := cut_first htab.out A10 c10 hc7; have HT := Lib.hid hC7; have HTc := Lib.hid hc7; have HT1 := Lib.hid (hC1 _ hC7); have HT1c := Lib.hid hcc1; have HX := Lib.hid (Kd.C_below HX.out hb); have HB := Lib.hid (HB.out.trans (hb.mono HB.out.size)); clear hs7 hb hc7 hC7 hC1 hcc1 HO9 HO9c)
        | (go_at_call 25; refine (lontarlaw01_Same.calls _ A10 c10 ta _ c2 ta true _ HT1.out HT1c.out HX.out HXc.out Sa.out).mono ?_; rintro e w6 ⟨rfl, hb⟩; have HT := Lib.hid (Kd.C_below HT.out hb); have HB := Lib.hid (HB.out.trans (hb.mono HB.out.size)); clear hb HX HT1 hcut1)
        | (go_at_call 27; (with_reducible refine at_sl1 (A := A1) ?_); refine (utf_All.calls _ A1 _ lb0 tb _ (Kd.C_below HCb.out HB.out) HKb.out Ab.out).mono ?_; rintro e w7 ⟨v12, rfl, hs7, hb⟩; have hR7 := Kd.S_R hs7; obtain ⟨A12, c12, e12⟩ := Kd.R_slice hR7; rw [htcl.out] at e12; subst e12; have Z := Lib.hid (PartNow.start hR7 hb hbk.out); have HB := Lib.hid HB.out; clear hs7 hb hR7))
      go_loopg [52] tc.length (fun kq v52 w' => ∃ (k : Nat), v52 = .int .i64 k ∧ Hid (PartNow w6 w' (.slice A12 tc.length c12) tc la0.length k kq))
      case atStart => exact ⟨0, rfl, Z⟩
      case round =>
        clear Z
        obtain ⟨k, rfl, Z⟩ := hrel
        cases gk with
        | zero =>
          have hkn : tc.length ≤ k := by have := Z.out.sum; omega
          have hbz := Z.out.below
          have hY := Z.out.Y
          rw [mix_all _ _ hkn] at hY
          obtain ⟨_, hcy, hCy⟩ := Kd.R_reads' hY
          have HY := Lib.hid hCy
          have HYc := Lib.hid hcy
          have HT := Lib.hid (Kd.C_below HT.out hbz)
          have HB := Lib.hid (HB.out.trans (hbz.mono HB.out.size))
          obtain ⟨A11, c11, hcut2, hC11, hc11⟩ := cut_rest htab.out A10 c10 HTc.out
          have HT11 := Lib.hid (hC11 _ HT.out)
          have hc11 := Lib.hid hc11
          have hkn2 : k = tc.length := by have := Z.out.sum; omega
          have hkn3 : ¬ (k : Int) < (tc.length : Int) := by omega
          clear Z hbz hY hcy hCy hC11 hkn hkn2
          go_wp2_with (first
            | (go_at_call 25; refine (lontarlaw01_Same.calls _ A11 c11 tc A12 c12 tc true _ HT11.out hc11.out HY.out HYc.out Sc.out).mono ?_; rintro e w8 ⟨rfl, hb⟩; have HB := Lib.hid (HB.out.trans (hb.mono HB.out.size)); clear hb))
          all_goals go_ret
          all_goals exact ⟨rfl, HB.out⟩
        | succ kq =>
          have hkl : k < tc.length := by have := Z.out.sum; omega
          have hkI : (k : Int) < (tc.length : Int) := by omega
          obtain ⟨gY, rfl⟩ := Z.out.head (by omega)
          have hgt := mix_get (-(la0.length : Int)) tc hkl
          have hset := mix_set (-(la0.length : Int)) tc hkl
          have hww := hw.out k hkl
          generalize tc[k] = tk at hgt hset hww
          obtain ⟨x0, hx0⟩ : ∃ x0, tk.f0 + -(la0.length : Int) = x0 := ⟨_, rfl⟩
          have hxe : wrap64 (x0 + (la0.length : Int)) = tk.f0 := by rw [← hx0, show tk.f0 + -(la0.length : Int) + (la0.length : Int) = tk.f0 by omega]; exact hww
          obtain ⟨v2, hcell, hcc, hM⟩ := tok_cells Z.out.Y hkl (wrap64 (x0 + (la0.length : Int)))
          rw [hgt] at hcell hcc hM
          have hxx : (⟨wrap64 (x0 + (la0.length : Int)), (shf (-(la0.length : Int)) tk).f1, (shf (-(la0.length : Int)) tk).f2, (shf (-(la0.length : Int)) tk).f3⟩ : S32) = tk := by rw [hxe]; rfl
          rw [hxx] at hM
          replace hcell : wr.cell? ⟨gY, k * 4, none⟩ = some (.int .i64 (tk.f0 + -(la0.length : Int))) := hcell
          rw [hx0] at hcell
          replace hcc : ∀ (j : Nat) u, [Value.int .i64 (tk.f0 + -(la0.length : Int)), .int .i64 tk.f1, v2, .int .i64 tk.f3][j]? = some u → wr.cell? ⟨gY, (k : Int).toNat * k32.sz + j, none⟩ = some u := hcc
          rw [hx0] at hcc
          clear hx0 hxe
          have hwk := twice_num hkl htc
          have HCC := Lib.hid hcc
          have HM := Lib.hid hM
          replace hset := Lib.hid hset
          clear hcc hM hgt hxx hww
          go_wp2_with (first
            | ((with_reducible refine gate_store (t := 3) (p := 64) rfl ?_); refine Kd.R_store k32 (w0 := wr) w6.heap.size rfl rfl 3 (.tmp 64) (.tmp 62) rfl 32 (g := gY) (n := tc.length) (cap := c12) (o' := k * 4) (k : Int) 0 (mixF (-(la0.length : Int)) tc k) tk (.int .i64 (wrap64 (x0 + (la0.length : Int)))) [.int .i64 (wrap64 (x0 + (la0.length : Int)))] [.int .i64 x0, .int .i64 tk.f1, v2, .int .i64 tk.f3] (fun _ => True) (fun k => True ∧ k ≠ gY) rfl ?hoff rfl rfl store3 (by simp [Value.oneCell']) Z.out.Y (by omega) (by omega) rfl HCC.out (show 0 + 1 ≤ 4 by omega) HM.out (fun _ hk => hk) (Below.refl _ _) ?_; (case hoff => rw [Int.toNat_natCast]; rfl); intro w15 hr hb hg; rw [Int.toNat_natCast, hset.out] at hr; replace Z := Lib.hid (Z.out.next hr hb); clear hr hb hg hset HCC HM))
          go_roundg kq
          case measure => exact Nat.lt_succ_self _
          case rel => exact ⟨k + 1, congrArg (Value.int .i64) (by first | exact hwk | rfl), Z⟩
    · have h3b : (z != 0) = false := bne_eq_false_iff_eq.mpr (Decidable.byContradiction fun h => hbad ⟨h0, h⟩)
      obtain ⟨n1, n2, n3, n4⟩ := last_num h0 hta2
      have h0b : (0 : Int) < (ta.length : Int) := by omega
      clear hbad h0
      go_wp2_with (first
        | (go_at_call 20; refine (lontarlaw01_awake.calls 3 true _ (awake_is 0)).mono ?_; rintro e w1 ⟨rfl, hb⟩; replace HB := Lib.hid hb; clear hb)
        | (go_at_call 27; (with_reducible refine at_sl1 (A := A) ?_); (with_reducible refine holdx Aa ?_); refine (utf_All.calls _ A _ la0 ta _ (Kd.C_below HCa.out HB.out) HKa.out Aa.out).mono ?_; rintro e w2 ⟨v2, rfl, hs7, hb⟩; obtain ⟨A2, c2, rfl, hc7, hC7⟩ := Kd.S_reads hs7; obtain ⟨ad2, rfl, hl3⟩ := last_cell hC7 n2 n3 n4 hz.out; have HX := Lib.hid hC7; have HXc := Lib.hid hc7; replace HB := Lib.hid (HB.out.trans (hb.mono HB.out.size)); have HB2 := Lib.hid (Below.refl w2.heap.size w2); clear hs7 hb hc7 hC7 Aa)
        | ((with_reducible refine gate_builtin (b := .append) (xs := #[.const (.slice none 0 0), .tmp 29]) rfl ?_); at_builtin; refine Kd.R_append_row (Value.int .u8) 0 (w0 := w2) w2.heap.size rfl (.const (.slice none 0 0)) (.tmp 29) 22 5 (.int .u8 0) 1 rfl Try.underlying22 info5 rfl (by omega) (.slice none 0 0) [] la0 A la0.length cap (fun _ => True) rfl rfl (fun _ _ => trivial) (Kd.R_nil _ _ _ _ _) (Kd.C_below HCa.out HB.out) HB2.out (Nat.le_refl _) ?sz1 ?_; (case sz1 => have := hsab.out; simp; omega); intro v8 w3 ho hb hg hat; rw [List.nil_append] at ho; obtain ⟨A8, c8, rfl⟩ := Kd.R_slice ho; have HO := Lib.hid ho; have HB3 := Lib.hid hb; clear ho hb hg hat HB2)
        | ((with_reducible refine gate_builtin (b := .append) (xs := #[.tmp 30, .tmp 31]) rfl ?_); at_builtin; refine Kd.R_append_row (Value.int .u8) 0 (w0 := w2) w2.heap.size rfl (.tmp 30) (.tmp 31) 22 5 (.int .u8 0) 1 rfl Try.underlying22 info5 rfl (by omega) (.slice A8 la0.length c8) la0 lb0 A1 lb0.length cap1 (fun _ => True) rfl rfl (fun _ _ => trivial) HO.out (Kd.C_below HCb.out (HB.out.trans (HB3.out.mono HB.out.size))) HB3.out HB3.out.size hsab.out ?_; intro v9 w4 ho hb hg hat; rw [hlg.out] at ho; obtain ⟨A9, c9, rfl⟩ := Kd.R_slice ho; obtain ⟨_, hc9, hC9⟩ := Kd.R_reads' ho; have HO9 := Lib.hid hC9; have HO9c := Lib.hid hc9; have HX := Lib.hid (Kd.C_below HX.out hb); have HB := Lib.hid (HB.out.trans (hb.mono HB.out.size)); clear ho hb hg hat HO HB3 hc9 hC9)
        | (go_at_call 27; (with_reducible refine holdx HO9 ?_); refine (utf_All.calls _ A9 c9 lab tab _ HO9.out HO9c.out Aab.out).mono ?_; rintro e w5 ⟨v10, rfl, hs7, hb⟩; obtain ⟨A10, c10, rfl, hc7, hC7⟩ := Kd.S_reads hs7; obtain ⟨hcut1, hC1, hcc1⟩ := cut_first htab.out A10 c10 hc7; have HT := Lib.hid hC7; have HTc := Lib.hid hc7; have HT1 := Lib.hid (hC1 _ hC7); have HT1c := Lib.hid hcc1; have HX := Lib.hid (Kd.C_below HX.out hb); have HB := Lib.hid (HB.out.trans (hb.mono HB.out.size)); clear hs7 hb hc7 hC7 hC1 hcc1 HO9 HO9c)
        | (go_at_call 25; refine (lontarlaw01_Same.calls _ A10 c10 ta _ c2 ta true _ HT1.out HT1c.out HX.out HXc.out Sa.out).mono ?_; rintro e w6 ⟨rfl, hb⟩; have HT := Lib.hid (Kd.C_below HT.out hb); have HB := Lib.hid (HB.out.trans (hb.mono HB.out.size)); clear hb HX HT1 hcut1)
        | (go_at_call 27; (with_reducible refine at_sl1 (A := A1) ?_); refine (utf_All.calls _ A1 _ lb0 tb _ (Kd.C_below HCb.out HB.out) HKb.out Ab.out).mono ?_; rintro e w7 ⟨v12, rfl, hs7, hb⟩; have hR7 := Kd.S_R hs7; obtain ⟨A12, c12, e12⟩ := Kd.R_slice hR7; rw [htcl.out] at e12; subst e12; have Z := Lib.hid (PartNow.start hR7 hb hbk.out); have HB := Lib.hid HB.out; clear hs7 hb hR7))
      go_loopg [52] tc.length (fun kq v52 w' => ∃ (k : Nat), v52 = .int .i64 k ∧ Hid (PartNow w6 w' (.slice A12 tc.length c12) tc la0.length k kq))
      case atStart => exact ⟨0, rfl, Z⟩
      case round =>
        clear Z
        obtain ⟨k, rfl, Z⟩ := hrel
        cases gk with
        | zero =>
          have hkn : tc.length ≤ k := by have := Z.out.sum; omega
          have hbz := Z.out.below
          have hY := Z.out.Y
          rw [mix_all _ _ hkn] at hY
          obtain ⟨_, hcy, hCy⟩ := Kd.R_reads' hY
          have HY := Lib.hid hCy
          have HYc := Lib.hid hcy
          have HT := Lib.hid (Kd.C_below HT.out hbz)
          have HB := Lib.hid (HB.out.trans (hbz.mono HB.out.size))
          obtain ⟨A11, c11, hcut2, hC11, hc11⟩ := cut_rest htab.out A10 c10 HTc.out
          have HT11 := Lib.hid (hC11 _ HT.out)
          have hc11 := Lib.hid hc11
          have hkn2 : k = tc.length := by have := Z.out.sum; omega
          have hkn3 : ¬ (k : Int) < (tc.length : Int) := by omega
          clear Z hbz hY hcy hCy hC11 hkn hkn2
          go_wp2_with (first
            | (go_at_call 25; refine (lontarlaw01_Same.calls _ A11 c11 tc A12 c12 tc true _ HT11.out hc11.out HY.out HYc.out Sc.out).mono ?_; rintro e w8 ⟨rfl, hb⟩; have HB := Lib.hid (HB.out.trans (hb.mono HB.out.size)); clear hb))
          all_goals go_ret
          all_goals exact ⟨rfl, HB.out⟩
        | succ kq =>
          have hkl : k < tc.length := by have := Z.out.sum; omega
          have hkI : (k : Int) < (tc.length : Int) := by omega
          obtain ⟨gY, rfl⟩ := Z.out.head (by omega)
          have hgt := mix_get (-(la0.length : Int)) tc hkl
          have hset := mix_set (-(la0.length : Int)) tc hkl
          have hww := hw.out k hkl
          generalize tc[k] = tk at hgt hset hww
          obtain ⟨x0, hx0⟩ : ∃ x0, tk.f0 + -(la0.length : Int) = x0 := ⟨_, rfl⟩
          have hxe : wrap64 (x0 + (la0.length : Int)) = tk.f0 := by rw [← hx0, show tk.f0 + -(la0.length : Int) + (la0.length : Int) = tk.f0 by omega]; exact hww
          obtain ⟨v2, hcell, hcc, hM⟩ := tok_cells Z.out.Y hkl (wrap64 (x0 + (la0.length : Int)))
          rw [hgt] at hcell hcc hM
          have hxx : (⟨wrap64 (x0 + (la0.length : Int)), (shf (-(la0.length : Int)) tk).f1, (shf (-(la0.length : Int)) tk).f2, (shf (-(la0.length : Int)) tk).f3⟩ : S32) = tk := by rw [hxe]; rfl
          rw [hxx] at hM
          replace hcell : wr.cell? ⟨gY, k * 4, none⟩ = some (.int .i64 (tk.f0 + -(la0.length : Int))) := hcell
          rw [hx0] at hcell
          replace hcc : ∀ (j : Nat) u, [Value.int .i64 (tk.f0 + -(la0.length : Int)), .int .i64 tk.f1, v2, .int .i64 tk.f3][j]? = some u → wr.cell? ⟨gY, (k : Int).toNat * k32.sz + j, none⟩ = some u := hcc
          rw [hx0] at hcc
          clear hx0 hxe
          have hwk := twice_num hkl htc
          have HCC := Lib.hid hcc
          have HM := Lib.hid hM
          replace hset := Lib.hid hset
          clear hcc hM hgt hxx hww
          go_wp2_with (first
            | ((with_reducible refine gate_store (t := 3) (p := 64) rfl ?_); refine Kd.R_store k32 (w0 := wr) w6.heap.size rfl rfl 3 (.tmp 64) (.tmp 62) rfl 32 (g := gY) (n := tc.length) (cap := c12) (o' := k * 4) (k : Int) 0 (mixF (-(la0.length : Int)) tc k) tk (.int .i64 (wrap64 (x0 + (la0.length : Int)))) [.int .i64 (wrap64 (x0 + (la0.length : Int)))] [.int .i64 x0, .int .i64 tk.f1, v2, .int .i64 tk.f3] (fun _ => True) (fun k => True ∧ k ≠ gY) rfl ?hoff rfl rfl store3 (by simp [Value.oneCell']) Z.out.Y (by omega) (by omega) rfl HCC.out (show 0 + 1 ≤ 4 by omega) HM.out (fun _ hk => hk) (Below.refl _ _) ?_; (case hoff => rw [Int.toNat_natCast]; rfl); intro w15 hr hb hg; rw [Int.toNat_natCast, hset.out] at hr; replace Z := Lib.hid (Z.out.next hr hb); clear hr hb hg hset HCC HM))
          go_roundg kq
          case measure => exact Nat.lt_succ_self _
          case rel => exact ⟨k + 1, congrArg (Value.int .i64) (by first | exact hwk | rfl), Z⟩
end Go.Proofs.Ytdhpldiahgajcaa.PUtfAll
