/- The walk of layer 2's law CarryFeed: it returns true; no condition but what a row hands on. -/
import Derived.Test.YtdhpldiahgajcaaK18
import Derived.Test.YtdhpldiahgajcaaV11
import Derived.Test.YtdhpldiahgajcaaV7
namespace Go.Proofs.Ytdhpldiahgajcaa.PUtfAll
open Go.RowKit Go.Proofs.YtdhpldiahgajcaaW.PrintWords Go.Proofs.YtdhpldiahgajcaaW.PrintLast Go.Proofs.YtdhpldiahgajcaaW.PrintMore Go.Proofs.Ytdhpldiahgajcaa
set_option linter.unusedVariables false
set_option linter.unusedSimpArgs false
theorem feed_app : ∀ (p r : List Int) (a : Int) (l : List Int), feedF a l (p ++ r) = ((feedF a l p).1 ++ (feedF (feedF a l p).2.2 (feedF a l p).2.1 r).1, (feedF (feedF a l p).2.2 (feedF a l p).2.1 r).2) := by
  intro p
  induction p with
  | nil => intro r a l; simp [feedF]
  | cons c p ih => intro r a l; rw [List.cons_append, feed_cons, feed_cons, ih]; simp
/-- how far a reader is in parts of x -/
structure PartsNow (x : List Int) (ls : List (List Int)) (k : Nat) (li : List Int) (ai : Int) (xs : List S32) : Prop where
  ans : feedF 0 [] x = (xs ++ (feedF ai li (ls.drop k).flatten).1, (feedF ai li (ls.drop k).flatten).2)
  waits : Waits li
  byt : Bytes li
  rest : Bytes (ls.drop k).flatten
  pos : 0 ≤ ai
  asum : ai + (li.length : Int) + ((ls.drop k).flatten.length : Int) = (x.length : Int)
theorem PartsNow.few {x : List Int} {ls : List (List Int)} {k : Nat} {li : List Int} {ai : Int} {xs : List S32} (h : PartsNow x ls k li ai xs) (hx : Bytes x) : xs.length ≤ x.length := by
  have h1 := (feed_at (bs := x) (a := 0) (l := []) waits_nil (by simpa using hx)).2.2.2.2.2
  rw [h.ans, List.length_append] at h1
  simp at h1
  omega
theorem PartsNow.next {x p : List Int} {ls : List (List Int)} {k : Nat} {li : List Int} {ai : Int} {xs : List S32} (h : PartsNow x ls k li ai xs) (hd : ls.drop k = p :: ls.drop (k + 1)) :
    ∃ q : List S32 × List Int × Int, feedF ai li p = q ∧ PartsNow x ls (k + 1) q.2.1 q.2.2 (xs ++ q.1) ∧ li.length ≤ 3 ∧ Bytes p ∧ ai + (li.length : Int) + (p.length : Int) ≤ (x.length : Int) := by
  have e1 : (ls.drop k).flatten = p ++ (ls.drop (k + 1)).flatten := by rw [hd]; rfl
  have hr := h.rest
  have ha := h.ans
  have hs := h.asum
  rw [e1] at hr ha hs
  have hp : Bytes p := fun n hn => hr n (List.mem_append_left _ hn)
  rw [feed_app] at ha
  obtain ⟨f1, f2, f3, f4, f5, f6⟩ := feed_at (bs := p) (a := ai) (l := li) h.waits (h.byt.app hp)
  rw [List.length_append] at f4 hs
  have := h.pos
  refine ⟨_, rfl, ⟨by rw [ha, List.append_assoc], f1, f3, fun n hn => hr n (List.mem_append_right _ hn), by omega, by omega⟩, h.waits.three h.byt, hp, by omega⟩
theorem PartsNow.start {x : List Int} {ls : List (List Int)} (h : ls.flatten = x) (hx : Bytes x) : PartsNow x ls 0 [] 0 [] :=
  ⟨by rw [List.drop_zero, h]; rfl, waits_nil, fun n hn => by simp at hn, by rw [List.drop_zero, h]; exact hx, by omega, by rw [List.drop_zero, h]; simp⟩
theorem PartsNow.end_ {x : List Int} {ls : List (List Int)} {k : Nat} {li : List Int} {ai : Int} {xs : List S32} (h : PartsNow x ls k li ai xs) (hx : Bytes x) (hk : ls.length ≤ k) (hl : x.length ≤ 5242880) :
    xs ++ (eF ai li).1 = allF (x.length + 1) 0 x ∧ li.length ≤ 100 ∧ 0 ≤ ai ∧ ai + (li.length : Int) ≤ 281474976710656 ∧ (xs.length + (eF ai li).1.length) * 48 ≤ 140737488355328 := by
  have h1 := h.ans
  have h4 := h.asum
  rw [List.drop_eq_nil_of_le hk] at h1 h4
  have h2 := feed_all x 0 (x.length + 1) hx (by omega)
  have h5 : feedF ai li ([] : List (List Int)).flatten = ([], li, ai) := rfl
  rw [h5, List.append_nil] at h1
  rw [h1] at h2
  have h3 := h.waits.three h.byt
  have hf := h.few hx
  have h6 : (eF ai li).1.length ≤ 1 := by unfold eF; split <;> simp
  have h7 : (([] : List (List Int)).flatten.length : Int) = 0 := rfl
  exact ⟨h2, by omega, h.pos, by omega, by omega⟩
theorem eF_w (a : Int) (l : List Int) : (eF a l).2.1 = [] := by
  unfold eF; split <;> rfl
theorem R_lenF {base : Nat} {ok : Nat → Prop} {w : World} {u : Value} {xs ys : List S32} (h : Kd.R k32 32 w base ok u xs) (e : xs = ys) : ∃ A c, u = .slice A ys.length c ∧ ys.length ≤ c ∧ Kd.C k32 w A ys.length ys := by
  subst e; exact Kd.R_reads h
theorem kL_at {w : World} {A : Option Addr} {n : Nat} {ps : List Sl} (h : kL.C w A n ps) {i : Nat} (hi : i < n) : ∃ ad, A = some ad ∧ w.cell? (ad.add i) = some (encL (ps.getD i ⟨none, 0, 0⟩)) := by
  obtain ⟨ad, c, e, _, hK, hc⟩ := Kd.C_get h (⟨none, 0, 0⟩ : Sl) (i : Int) (by omega) (by omega)
  have hc0 : ∀ j u, c[j]? = some u → w.cell? (ad.add ((i : Int).toNat * 1 + j)) = some u := hc
  rw [Int.toNat_natCast] at hK hc0
  have hcs : c = [encL (ps.getD i ⟨none, 0, 0⟩)] := hK
  subst hcs
  have := hc0 0 _ rfl
  rw [Nat.mul_one, Nat.add_zero] at this
  exact ⟨ad, e, this⟩
/-- the parts beside the reader that goes on -/
theorem parts_at {w4 w6 W : World} {B g : Nat} {Au : Option Addr} {cu : Nat} {ps : List Sl} {vi u : Value} {li : List Int} {ai : Int} {xs : List S32} {cells : Array Value} (h : kL.R 22 w6 w4.heap.size (fun _ => True) (.slice Au ps.length cu) ps) (hg : w6.heap[g]? = some (.cells cells 26 (0, 0)))
    (I : TokInv w6 B g (.slice none 0 0) W vi u li ai xs) {i : Nat} (hi : i < ps.length) : ∃ ad, Au = some ad ∧ W.cell? (ad.add i) = some (encL (ps.getD i ⟨none, 0, 0⟩)) := by
  have h1 := Kd.R_types h hg (by decide)
  have h2 := Kd.R_kept h1 I.kept (fun k hk h3 => h3.elim hk.2 (fun e => by simp [Value.ownBlock] at e))
  exact kL_at (Kd.R_reads' h2).2.2 hi
theorem holdy {p q : Prop} (_ : p) (h : q) : q := h
def TextsC (w : World) (g n M : Nat) : Prop := ∀ k, k < n → ∃ (A : Option Addr) (c : Nat) (l : List Int), w.cell? ⟨g, k, none⟩ = some (.slice A l.length c) ∧ Kd.C (Kd.int .u8) w A l.length l ∧ l.length ≤ c ∧ Bytes l ∧ l.length ≤ M
theorem TextsC.keep {w w' : World} {g n M : Nat} (h : TextsC w g n M) (hb : Below w.heap.size w w') : TextsC w' g n M := fun k hk => by
  obtain ⟨A, c, l, h1, h2, h3, h4, h5⟩ := h k hk
  exact ⟨A, c, l, cell_kept h1 (Kept.of_below hb (fun _ => False)) (fun h => h), Kd.C_below h2 hb, h3, h4, h5⟩
theorem textsC_3 {w : World} {g M : Nat} {A1 A2 A3 : Option Addr} {c1 c2 c3 : Nat} {l1 l2 l3 : List Int} (hg : w.heap[g]? = some (.cells #[.slice A1 l1.length c1, .slice A2 l2.length c2, .slice A3 l3.length c3] 22 (0, 0)))
    (h1 : l1.length ≤ c1 ∧ Kd.C (Kd.int .u8) w A1 l1.length l1) (h2 : l2.length ≤ c2 ∧ Kd.C (Kd.int .u8) w A2 l2.length l2) (h3 : l3.length ≤ c3 ∧ Kd.C (Kd.int .u8) w A3 l3.length l3)
    (b1 : Bytes l1 ∧ l1.length ≤ M) (b2 : Bytes l2 ∧ l2.length ≤ M) (b3 : Bytes l3 ∧ l3.length ≤ M) : TextsC w g 3 M := by
  intro k hk
  obtain rfl | rfl | rfl : k = 0 ∨ k = 1 ∨ k = 2 := by omega
  · exact ⟨A1, c1, l1, (blk_cell hg 0).trans rfl, h1.2, h1.1, b1⟩
  · exact ⟨A2, c2, l2, (blk_cell hg 1).trans rfl, h2.2, h2.1, b2⟩
  · exact ⟨A3, c3, l3, (blk_cell hg 2).trans rfl, h3.2, h3.1, b3⟩
set_option maxRecDepth 100000 in
set_option maxHeartbeats 4000000 in
theorem CarryFeed_row (W : World) (A : Option Addr) (cap : Nat) (l : List Int) (r : RowAt .u8 W A l) (s : l.length * 1 ≤ 140737488351232) (f : ∀ n ∈ l, (Lit.int .u8 n).wf = true) (hcap : l.length ≤ cap)
    (A1 : Option Addr) (cap1 : Nat) (l1 : List Int) (r1 : RowAt .i64 W A1 l1) (s1 : l1.length * 8 ≤ 140737488351232) (f1 : ∀ n ∈ l1, (Lit.int .i64 n).wf = true) (hcap1 : l1.length ≤ cap1)
    (A2 : Option Addr) (cap2 : Nat) (cs : List Int) (r2 : RowAt .u8 W A2 cs) (s2 : cs.length * 1 ≤ 140737488351232) (f2 : ∀ n ∈ cs, (Lit.int .u8 n).wf = true) (hcap2 : cs.length ≤ cap2) (hk : l.length + l1.length + cs.length ≤ 1048576) :
    Calls Try.prog 14 #[.slice A l.length cap, .slice A1 l1.length cap1, .slice A2 cs.length cap2] W fun e w' => e = .returned (.bool true) ∧ Below W.heap.size W w' := by
  have HY := Lib.hid (bytes_wf f)
  have HYc := Lib.hid (bytes_wf f2)
  have HC := Lib.hid (C_of_row r (by omega))
  have HC1 := Lib.hid (C_of_row r1 (by omega))
  have HCc := Lib.hid (C_of_row r2 (by omega))
  have HK := Lib.hid hcap
  have HK1 := Lib.hid hcap1
  have HB := Lib.hid (Below.refl W.heap.size W)
  have F1 := Lib.hid (bytes_f (l := l1) (by omega))
  have hbl := bsF_len l1
  have HYx := Lib.hid (bsF_bytes l1)
  replace r := ()
  replace f := ()
  replace r1 := ()
  replace f1 := ()
  replace r2 := ()
  replace f2 := ()
  clear s s1 s2 hcap hcap1 hcap2
  generalize bsF l1 = x at *
  have HSx : Hid (x.length ≤ 4194304) := Lib.hid (by omega)
  have HSl : Hid (l.length ≤ 1048576) := Lib.hid (by omega)
  have hcs : cs.length ≤ 1048576 := by omega
  clear hk hbl
  go_enter Try.func14, Try.ntmps14
  go_wp2_with (first
    | (go_at_call 15; refine (awake2_calls _).mono ?_; rintro e w1 ⟨rfl, hb⟩; replace HB := Lib.hid hb; clear hb; have H1 := Lib.hid True.intro)
    | (go_at_call 28; (with_reducible refine holdy H1 ?_); refine (utf_Bytes.calls _ A1 cap1 l1 x _ (Kd.C_below HC1.out HB.out) HK1.out F1.out).mono ?_; rintro e w2 ⟨v2, rfl, hR, hb⟩; obtain ⟨Ax, cx, rfl⟩ := Kd.R_slice hR; obtain ⟨_, hcx, hCx⟩ := Kd.R_reads' hR; have HCx := Lib.hid hCx; have HKx := Lib.hid hcx; have HB := Lib.hid (HB.out.trans (hb.mono HB.out.size)); have HBW2 := Lib.hid HB.out; clear hR hb hcx hCx H1)
    | (go_at_call 28; refine (utf_Bytes.calls _ A1 cap1 l1 x _ (Kd.C_below HC1.out HB.out) HK1.out F1.out).mono ?_; rintro e w3 ⟨v3, rfl, hR, hb⟩; obtain ⟨A3, c3, rfl⟩ := Kd.R_slice hR; have HR3 := Lib.hid hR; have HB := Lib.hid (HB.out.trans (hb.mono HB.out.size)); have HB23 := Lib.hid hb; clear hR hb)
    | ((with_reducible refine gate_builtin (b := .append) (xs := #[.tmp 19, .tmp 20]) rfl ?_); at_builtin; refine Kd.R_append_row (Value.int .u8) 0 (w0 := w3) w2.heap.size rfl (.tmp 19) (.tmp 20) 22 5 (.int .u8 0) 1 rfl Try.underlying22 info5 rfl (by omega) (.slice A3 x.length c3) x l A l.length cap (fun _ => True) rfl rfl (fun _ _ => trivial) HR3.out (Kd.C_below HC.out HB.out) (Below.refl _ _) HB23.out.size (by have := HSx.out; have := HSl.out; omega) ?_; intro v4 w4 ho hb hg hat; generalize hxl9 : x ++ l = xl at ho; obtain ⟨A4, c4, rfl⟩ := Kd.R_slice ho; obtain ⟨_, hc4, hC4⟩ := Kd.R_reads' ho; have H4 := Lib.hid (And.intro hc4 hC4); have HXL := Lib.hid hxl9; have HB34 := Lib.hid hb; clear ho hb hg hat hxl9 hc4 hC4)
    | ((with_reducible refine gate_dst (N := 22) rfl ?_); refine lits_event ?hg (N := 22) ?hd (cs := #[.slice A l.length cap, .slice Ax x.length cx, .slice A4 xl.length c4]) (t := 22) (n := 3) ?hr ?_; (case hd => rfl); (case hg => rfl); (case hr => first | (go_simp; done) | (go_simp; rfl)); intro gg hg w5 K hb; have hW2 := HBW2.out; have hB4 := hW2.trans ((HB23.out.trans HB34.out).mono hW2.size); have HT := Lib.hid (textsC_3 (M := 5242880) K ⟨HK.out, Kd.C_below (Kd.C_below HC.out hB4) hb⟩ ⟨HKx.out, Kd.C_below (Kd.C_below HCx.out (HB23.out.trans HB34.out)) hb⟩ ⟨H4.out.1, Kd.C_below H4.out.2 hb⟩ ⟨HY.out, by have := HSl.out; omega⟩ ⟨HYx.out, by have := HSx.out; omega⟩ ⟨by rw [← HXL.out]; exact HYx.out.app HY.out, by rw [← HXL.out, List.length_append]; have := HSx.out; have := HSl.out; omega⟩); have HB := Lib.hid (hB4.trans (hb.mono hB4.size)); clear K hb hg hW2 hB4 H4 HXL))
  clear HC1 HK1 F1 HYx HSx HSl HKx HCx HR3 HB23 HB34 HBW2 HY HC HK
  go_loopg [24] 3 (fun kq v24 w' => ∃ (k : Nat), v24 = .int .i64 k ∧ k + kq = 3 ∧ Hid (Below w5.heap.size w5 w'))
  case atStart => exact ⟨0, rfl, rfl, Lib.hid (Below.refl _ _)⟩
  case round =>
    obtain ⟨k, rfl, hsum, HB2⟩ := hrel
    cases gk with
    | zero =>
      obtain rfl : k = 3 := by omega
      go_wp2
      all_goals go_ret
      all_goals exact ⟨by first | rfl | (simp; done), HB.out.trans (HB2.out.mono HB.out.size)⟩
    | succ kq =>
      have hk : k < 3 := by omega
      have hkI : (k : Int) < 3 := by omega
      obtain ⟨Ak, ck, lk, e1, e2, e3, e4, e5⟩ := (HT.out.keep HB2.out) k hk
      have hwk : wrap64 ((k : Int) + 1) = ((k + 1 : Nat) : Int) := by rw [w64 (by omega) (by omega)]; rfl
      have HSUM := Lib.hid hsum
      have E2 := Lib.hid (And.intro e2 e3)
      have E4 := Lib.hid (And.intro e4 e5)
      have HCw := Lib.hid (Kd.C_below HCc.out (HB.out.trans (HB2.out.mono HB.out.size)))
      clear e2 e3 e4 e5 hsum hk
      generalize wr = w6 at *
      go_wp2_with (first
        | ((with_reducible refine gate_dst (N := 29) rfl ?_); refine box_event ?hg (N := 29) ?hd (cs := #[.slice none 0 0, .int .i64 0]) (t := 26) ?hr ?_; (case hd => rfl); (case hg => rfl); (case hr => first | (go_simp; done) | (go_simp; rfl)); intro g hg w7 K hb; have R := Lib.hid (Rdr.fresh (B := w6.heap.size) hg K (Nat.le_refl _)); have HB67 := Lib.hid hb; clear K hb hg)
        | (go_at_call 30; refine (Cut_calls w6 _ Ak ck lk A2 cap2 cs E2.out.1 E2.out.2 HB67.out (Kd.C_below HCw.out HB67.out) HYc.out hcs).mono ?_; rintro e w8 ⟨u8, ps, ls, rfl, hP, hV, hfl, hpl, hb⟩; obtain ⟨Au, cu, rfl⟩ := Kd.R_slice hP; have HP := Lib.hid hP; have HV := Lib.hid hV; have hpl := Lib.hid hpl; have R8 := Lib.hid (R.out.keep hb); have HB68 := Lib.hid (HB67.out.trans (hb.mono HB67.out.size)); have N0 := Lib.hid (PartsNow.start hfl E4.out.1); clear hP hV hb R))
      have I0 := Lib.hid (TokInv.start R8.out HB68.out.size)
      go_loopg [10, 34] ps.length (fun jq v10 v34 w' => ∃ (i : Nat) (xs : List S32) (li : List Int) (ai : Int) (vi : Value), v34 = .int .i64 i ∧ i + jq = ps.length ∧ Hid (TokInv w8 w6.heap.size g (.slice none 0 0) w' vi v10 li ai xs) ∧ Hid (PartsNow lk ls i li ai xs))
      case atStart => exact ⟨0, [], [], 0, _, rfl, by omega, I0, N0⟩
      case round =>
        clear I0 N0
        obtain ⟨i, xs, li, ai, vi, rfl, hsum, I, N⟩ := hrel
        cases gk with
        | zero =>
          have hil : ls.length ≤ i := by have := HV.out.len; omega
          have hiI : i = ps.length := by omega
          obtain ⟨p1, p2, p3, p4, p5⟩ := N.out.end_ E4.out.1 hil E4.out.2
          have EA := Lib.hid p1
          have LA := Lib.hid p2
          have PA := Lib.hid p3
          have UA := Lib.hid p4
          have XA := Lib.hid p5
          have SA := Lib.hid (same_all (lk.length + 1) 0 E4.out.1 (by have := E4.out.2; omega))
          have FA := Lib.hid (lall_f E4.out.1 (by have := E4.out.2; omega))
          generalize allF (lk.length + 1) 0 lk = ta at *
          clear p1 p2 p3 p4 p5 hil N HP HV
          subst hiI
          clear hsum
          go_wp2_with (first
            | (go_at_call 19; refine (End_calls _ w6.heap.size g vi li ai I.out.rdr (HB68.out.trans I.out.below).size LA.out PA.out UA.out).mono ?_; rintro e w9 ⟨u9, v9, rfl, I9⟩; have I9 := Lib.hid (TokInv.of I9))
            | ((with_reducible refine gate_builtin (b := .append) (xs := #[.tmp 44, .tmp 46]) rfl ?_); at_builtin; obtain ⟨q1, ⟨A3', c3', rfl, q2⟩, q3, q4, q5⟩ := I.out.app I9.out; refine Kd.R_append_rows k32 (w0 := w9) w8.heap.size rfl (.tmp 44) (.tmp 46) 27 32 (.agg #[(.int .i64 0), (.int .i64 0), (.slice none 0 0), (.int .i64 0)]) 48 rfl Try.underlying27 info32 rfl (by decide) (by omega) u10 xs (eF ai li).1 A3' _ c3' _ (okq wr g v9) rfl rfl q1 q2 (fun _ _ hm => hm) q3 q4 (Below.refl _ _) q5 XA.out ?_; intro v11 w11 ho hb hg hat; have I11 := I.out.next I9.out ho hg; rw [eF_w] at I11; obtain ⟨A12, c12, rfl, hc12, hC12⟩ := R_lenF I11.toks EA.out; have HD := Lib.hid (And.intro hc12 hC12); have R11 := Lib.hid I11.rdr; have HB11 := Lib.hid (HB68.out.trans I11.below); clear q1 q2 q3 q4 q5 ho hb hg hat I I9 I11 hc12 hC12)
            | (go_at_call 29; refine (lontarlaw01_All.calls _ Ak ck lk ta _ (Kd.C_below E2.out.1 HB11.out) E2.out.2 FA.out).mono ?_; rintro e w12 ⟨v12, rfl, hs7, hb⟩; obtain ⟨A13, c13, rfl, hc7, hC7⟩ := Kd.S_reads hs7; have HE := Lib.hid (And.intro hc7 hC7); have HD := Lib.hid (And.intro HD.out.1 (Kd.C_below HD.out.2 hb)); have R12 := Lib.hid (R11.out.keep hb); have HB12 := Lib.hid (HB11.out.trans (hb.mono HB11.out.size)); clear hs7 hb hc7 hC7)
            | (go_at_call 25; refine (lontarlaw01_Same.calls _ A12 c12 ta A13 c13 ta true _ HD.out.2 HD.out.1 HE.out.2 HE.out.1 SA.out).mono ?_; rintro e w13 ⟨rfl, hb⟩; have R13 := Lib.hid (R12.out.keep hb); have HB13 := Lib.hid (HB12.out.trans (hb.mono HB12.out.size)); clear hb)
            | (go_at_call 17; refine (Held_calls _ _ g _ _ _ R13.out).mono ?_; rintro e w14 ⟨rfl, rfl⟩))
          go_roundg kq
          case measure => exact Nat.lt_succ_self _
          case rel => exact ⟨k + 1, congrArg (Value.int .i64) (by first | exact hwk | rfl), by have := HSUM.out; omega, Lib.hid (HB2.out.trans (HB13.out.mono HB2.out.size))⟩
        | succ jq =>
          have hil : i < ps.length := by omega
          have hiI : (i : Int) < (ps.length : Int) := by omega
          obtain ⟨ad, rfl, hcell⟩ := parts_at HP.out R8.out.blk I.out hil
          obtain ⟨p, hd, hvn, hvC⟩ := HV.out.at i hil
          obtain ⟨q, hq, hN, h3, hyp, hu⟩ := N.out.next hd
          have hfw := hN.few E4.out.1
          have hx5 := E4.out.2
          rw [List.length_append] at hfw
          have hpos := N.out.pos
          have HX := Lib.hid (show (xs.length + q.1.length) * 48 ≤ 140737488355328 by omega)
          have HU := Lib.hid (show ai + (li.length : Int) + (p.length : Int) ≤ 200000000000000 by omega)
          have HU2 := Lib.hid (show p.length ≤ 2932031007000 by omega)
          have HQ := Lib.hid hq
          have HN := Lib.hid hN
          have HPP := Lib.hid (And.intro N.out.waits (And.intro N.out.byt (And.intro hyp (And.intro hpos hvC))))
          have hwi : wrap64 ((i : Int) + 1) = ((i + 1 : Nat) : Int) := by have := hpl.out; rw [w64 (by omega) (by omega)]; rfl
          have HJ := Lib.hid hsum
          unfold encL at hcell
          rw [hvn] at hcell
          generalize ps.getD i ⟨none, 0, 0⟩ = P at *
          obtain ⟨Ap, np, cp⟩ := P
          clear hd hvn hvC hq hN h3 hyp hu hfw hx5 hpos N hsum
          go_wp2_with (first
            | (go_at_call 26; refine (Feed_calls w6 wr w6.heap.size g vi li ai Ap cp p I.out.rdr (HB68.out.trans I.out.below).size HPP.out.2.2.2.2 (HB68.out.trans I.out.below) (Nat.le_refl _) HPP.out.1 HPP.out.2.1 HPP.out.2.2.1 HPP.out.2.2.2.1 HU.out HU2.out).mono ?_; rintro e w9 ⟨u9, v9, rfl, I9⟩; rw [HQ.out] at I9; have I9 := Lib.hid I9)
            | ((with_reducible refine gate_builtin (b := .append) (xs := #[.tmp 38, .tmp 41]) rfl ?_); at_builtin; obtain ⟨q1, ⟨A3', c3', rfl, q2⟩, q3, q4, q5⟩ := I.out.app I9.out; refine Kd.R_append_rows k32 (w0 := w9) w8.heap.size rfl (.tmp 38) (.tmp 41) 27 32 (.agg #[(.int .i64 0), (.int .i64 0), (.slice none 0 0), (.int .i64 0)]) 48 rfl Try.underlying27 info32 rfl (by decide) (by omega) u10 xs q.1 A3' _ c3' _ (okq wr g v9) rfl rfl q1 q2 (fun _ _ hm => hm) q3 q4 (Below.refl _ _) q5 HX.out ?_; intro v11 w11 ho hb hg hat; have I11 := Lib.hid (I.out.next I9.out ho hg); clear q1 q2 q3 q4 q5 ho hb hg hat I I9))
          go_roundg jq
          case measure => exact Nat.lt_succ_self _
          case rel => exact ⟨i + 1, _, _, _, _, congrArg (Value.int .i64) (by first | exact hwi | rfl), by have := HJ.out; omega, I11, HN⟩
end Go.Proofs.Ytdhpldiahgajcaa.PUtfAll
