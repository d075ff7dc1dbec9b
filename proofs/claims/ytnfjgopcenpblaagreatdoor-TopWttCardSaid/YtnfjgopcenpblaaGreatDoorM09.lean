/- Texts of this claim, one behind the other (merged by a program): TT1, TT2, TT3, TT4. No condition of their own. -/
import Derived.Test.YtnfjgopcenpblaaGreatDoorM08
/- A method called through an interface; the machine that reads bytes, by marks. No condition beyond the ranges. -/
namespace Go.Proofs.YtnfjgopcenpblaaGreatDoor.T
open Go.RowKit Go.Proofs.YtnfjgopcenpblaaGreatDoorW.PrintWords Go.Proofs.YtnfjgopcenpblaaGreatDoorW.PrintLast Go.Proofs.YtnfjgopcenpblaaGreatDoorW.PrintMore Go.Proofs.YtnfjgopcenpblaaGreatDoor
set_option linter.unusedVariables false
set_option linter.unusedSimpArgs false
section
variable {P : Program} {ops : Array Oper} {Q : Exit → Act → World → Prop}
/-- a method called through an interface value, in a plain region, as an arm of the walk -/
theorem goesI_ {rest : List Oper} {oi : Oper} {a : Act} {w : World} (N : Option Tmp) (hd : oi.dst = N) (hg : oi.guard = none) {r : Operand} {name : String} {ar : Array Operand} {ts : Array TypeId} {t : TypeId} {v rc : Value} {f : FuncId} {fn : Func} (hf : P.funcs[f]? = some fn) (hname : (fn.name == "runtime.NumGoroutine") = false) (hb : fn.body.isSome = true) (args : Array Value)
    (hop : oi.op = .call { callee := .invoke r name, args := ar, argTypes := ts }) (hr : a.eval r = .iface t v) (hm : (method (P.types.size + Made.depth) t v name).run P w = .ok (f, rc) w) (hargs : #[rc] ++ ar.map a.eval = args)
    (h : Calls P f args w fun e w' => ∃ v, e = .returned v ∧ wpList P ops Q rest (a.put N v) w') : wpList P ops Q (oi :: rest) a w := by
  refine wpList_plain hg fun K hK => ?_
  have he := enters_ hf hname hb args w
  have hrun : (execOp a.eval oi).run P w = .ok (.enter f args) w := by
    unfold execOp
    simp only [hop, resolve]
    have hx : (#[a.eval r] ++ ar.map a.eval).extract 1 (#[a.eval r] ++ ar.map a.eval).size = ar.map a.eval := by simp
    have h0 : (#[a.eval r] ++ ar.map a.eval)[0]? = some (a.eval r) := by rw [Array.getElem?_append_left (by simp)]; rfl
    have h2 : (#[Value.iface t v] ++ ar.map a.eval)[0]? = some (Value.iface t v) := by rw [Array.getElem?_append_left (by simp)]; rfl
    have h3 : (ar.map a.eval).extract 0 ar.size = ar.map a.eval := by
      have := Array.extract_size (xs := ar.map a.eval)
      rwa [Array.size_map] at this
    simp only [invoke, callMethod, hx, h0]
    simp only [hr]
    simp [h2, h3, hm, hargs, he]
  unfold Oper.wp
  rw [hrun, Oper.upon_enter]
  refine h.mono fun e w'' hh => ?_
  obtain ⟨v, rfl, hk⟩ := hh
  subst hd
  exact hK _ _ hk
theorem gate_invoke {rest : List Oper} {o : Oper} {a : Act} {W : World} {r : Operand} {name : String} {ar : Array Operand} {ts : Array TypeId} (_ho : o.op = .call { callee := .invoke r name, args := ar, argTypes := ts }) (h : wpList P ops Q (o :: rest) a W) : wpList P ops Q (o :: rest) a W := h
end
/-- a reader's block, by marks -/
structure Rd (w : World) (f : Nat → Nat) (x b : Nat) (l : List Int) (a : Int) : Prop where
  rdr : ∃ v, Rdr w 0 b v l a ∧ ∀ k, v.ownBlock = some k → f k = x
  fb : f b = x
theorem Rd.ext {T : Nat → Prop} {w w' : World} {f f' : Nat → Nat} {x b : Nat} {l : List Int} {a : Int} (h : Rd w f x b l a) (e : Ext T w w' f f') (hx : ¬ T x) : Rd w' f' x b l a := by
  obtain ⟨⟨v, r, hv⟩, hb⟩ := h
  exact ⟨⟨v, ⟨e.blk r.blk (by rw [hb]; exact hx), own_move r.own (fun k hk => e.keep k (own_lt r.own k hk) (by rw [hv k hk]; exact hx)), r.le⟩, fun k hk => (e.tag k (own_lt r.own k hk)).trans (hv k hk)⟩, (e.tg r.blk).trans hb⟩
theorem read_marks {w w' : World} {b x y : Nat} {v v' u : Value} {l : List Int} {a : Int} {xs : List S66} {f : Nat → Nat} (hy : y ≠ 0) (h : PutInv w 0 b v w' v' u l a xs) (hv : ∀ k, v.ownBlock = some k → f k = x) (hb : f b = x) :
    ∃ f', Ext (fun z => z = x) w w' f f' ∧ Toks w' f' y u xs ∧ Rd w' f' x b l a := by
  have hk := h.kept
  have hE : Ext (fun z => z = x) w w' f (takeMark f w.heap.size x y v' u) := by
    refine ⟨hk.1, fun k hl => if_pos hl, fun k hl hn => hk.2 k hl (fun hc => ?_), h.below.os, h.below.tape, h.below.output⟩
    rcases hc with hc | hc
    · subst hc; exact hn hb
    · exact hn (hv k hc.symm)
  have hv' : ∀ k, v'.ownBlock = some k → takeMark f w.heap.size x y v' u k = x := by
    intro k hk2
    unfold takeMark
    by_cases hl : k < w.heap.size
    · rw [if_pos hl]
      rcases h.new with hn | hn
      · exact hv k (hn ▸ hk2)
      · have := hn k hk2; omega
    · rw [if_neg hl, if_pos hk2.symm]
  refine ⟨takeMark f w.heap.size x y v' u, hE, ?_, ⟨⟨v', h.rdr, hv'⟩, (if_pos h.blt : takeMark f w.heap.size x y v' u b = f b).trans hb⟩⟩
  have hR := Kd.R_bound (Kd.S_R h.toks)
  refine Toks.of_R (Kd.R_lower hR (Nat.zero_le _)) (fun k hk2 => ?_) (fun k hk2 hne hl => ?_)
  · obtain ⟨⟨h1, h2⟩, h3, _⟩ := hR.1 k hk2
    unfold takeMark
    rw [if_neg (by omega), if_neg h1, if_pos hk2.symm]
  · obtain ⟨⟨h1, h2⟩, h3, _⟩ := hk2
    unfold takeMark
    rw [if_neg (by omega), if_neg h1, if_neg hne]
def bPut (l : List Int) (a c : Int) : List S66 × List Int × Int := pF (l.length + 2) a (l ++ [c])
theorem BPut_calls (w : World) (f : Nat → Nat) (x y b : Nat) (l : List Int) (a c : Int) (h : Rd w f x b l a) (hy : y ≠ 0) (hl : l.length ≤ 100) (hB : Bytes (l ++ [c])) (h0 : 0 ≤ a) (h1 : a + l.length ≤ 281474976710656) :
    Calls Tryz.prog 128 #[.pointer (some ⟨b, 0, none⟩), .int .i64 c] w (Gives (fun z => z = x) y w f (bPut l a c).1 (fun w' f' => Rd w' f' x b (bPut l a c).2.1 (bPut l a c).2.2)) := by
  obtain ⟨⟨v, r, hv⟩, hb⟩ := h
  have hc := hB c (by simp)
  have HP := Lib.hid (Put_calls w 0 b v l a c r (Nat.zero_le _) hl hB h0 h1)
  have HM := Lib.hid (fun w' v' u l' a' xs (h : PutInv w 0 b v w' v' u l' a' xs) => read_marks (x := x) (y := y) hy h hv hb)
  unfold bPut
  generalize pF (l.length + 2) a (l ++ [c]) = q at *
  have hcw : c % 256 = c := by omega
  replace hB := ()
  replace h1 := ()
  clear r hv hb hl
  go_enter Tryz.func128, Tryz.ntmps128
  go_wp2_with (first
    | (go_at_call 130; refine HP.out.mono ?_; rintro e w' ⟨u, v', rfl, hI⟩; replace HM := Lib.hid (HM.out w' v' u _ _ _ hI); clear hI))
  go_ret
  obtain ⟨f', e1, e2, e3⟩ := HM.out
  exact ⟨u, f', rfl, e1, e2, e3⟩
theorem BEnd_calls (w : World) (f : Nat → Nat) (x y b : Nat) (l : List Int) (a : Int) (h : Rd w f x b l a) (hy : y ≠ 0) (hl : l.length ≤ 100) (h0 : 0 ≤ a) (h1 : a + l.length ≤ 281474976710656) :
    Calls Tryz.prog 126 #[.pointer (some ⟨b, 0, none⟩)] w (Gives (fun z => z = x) y w f (eF a l).1 (fun w' f' => Rd w' f' x b (eF a l).2.1 (eF a l).2.2)) := by
  obtain ⟨⟨v, r, hv⟩, hb⟩ := h
  refine (End_calls w 0 b v l a r (Nat.zero_le _) hl h0 h1).mono ?_
  rintro e w' ⟨u, v', rfl, hI⟩
  obtain ⟨f', e1, e2, e3⟩ := read_marks (x := x) (y := y) hy hI hv hb
  exact ⟨u, f', rfl, e1, e2, e3⟩
end Go.Proofs.YtnfjgopcenpblaaGreatDoor.T

/- The machine that writes scalars, by marks. No condition beyond the ranges. -/
namespace Go.Proofs.YtnfjgopcenpblaaGreatDoor.T
open Go.RowKit Go.Proofs.YtnfjgopcenpblaaGreatDoorW.PrintWords Go.Proofs.YtnfjgopcenpblaaGreatDoorW.PrintLast Go.Proofs.YtnfjgopcenpblaaGreatDoorW.PrintMore Go.Proofs.YtnfjgopcenpblaaGreatDoor
set_option linter.unusedVariables false
set_option linter.unusedSimpArgs false
def markF (f : Nat → Nat) (n y : Nat) (u : Value) (k : Nat) : Nat := if k < n then f k else if some k = u.ownBlock then y else 0
theorem toks_new {w w' : World} {f : Nat → Nat} {y : Nat} {u : Value} {ts : List S66} (h : k66.R 66 w' 0 (fun k => w.heap.size ≤ k) u ts) : Toks w' (markF f w.heap.size y u) y u ts :=
  Toks.of_R h (fun k hk => by have := h.1 k hk; unfold markF; rw [if_neg (by omega), if_pos hk.symm]) (fun k hk hne _ => by unfold markF; rw [if_neg (by omega), if_neg hne])
/-- a machine that writes scalars, by marks -/
structure Sc (w : World) (f : Nat → Nat) (x b : Nat) (a : Int) : Prop where
  blk : w.heap[b]? = some (.cells #[.int .i64 a] 105 (0, 0))
  fb : f b = x
theorem Sc.ext {T : Nat → Prop} {w w' : World} {f f' : Nat → Nat} {x b : Nat} {a : Int} (h : Sc w f x b a) (e : Ext T w w' f f') (hx : ¬ T x) : Sc w' f' x b a :=
  ⟨e.blk h.blk (by rw [h.fb]; exact hx), (e.tg h.blk).trans h.fb⟩
def sTok (a u : Int) : S66 := if scalB u = true then ⟨a, 1, encS u, 0⟩ else ⟨a, 1, [], 3⟩
structure SLoop (w W : World) (gt : Nat) (a : Int) (vo vb : Value) (os bs : List Int) : Prop where
  tb : TokB w gt (.int .i64 a) (.int .i64 1) vo (.int .i64 0) W
  out : W.ownsRow w.heap.size 3 1 vo os.length (nums .i64 os)
  byt : (Kd.int .u8).R 5 W 0 (fun k => w.heap.size ≤ k) vb bs
theorem SLoop.next {w W W2 W3 : World} {gt : Nat} {a c : Int} {vo vb v2 : Value} {os bs l : List Int} (h : SLoop w W gt a vo vb os bs) (hg : W.grownBy W2 vo.ownBlock) (hl : os ++ [c] = l) (ho : W2.ownsRow w.heap.size 3 1 v2 (os ++ [c]).length (nums .i64 (os ++ [c]))) (h3 : W3 = W2.setCell ⟨gt, 2, none⟩ v2) : SLoop w W3 gt a v2 vb l bs := by
  subst h3 hl
  have hb := blk_grown h.tb.2.2 hg (own_ne h.out h.tb.2.2 (by decide))
  have hR : (Kd.int .i64).R 3 W w.heap.size (fun k => w.heap.size ≤ k) vo os := Kd.R_of_own (enc := Value.int .i64) h.out (fun k hk => own_base h.out k hk)
  exact ⟨⟨below_set (h.tb.1.grown hg h.tb.1.size (fun k hk => own_base h.out k hk)) h.tb.2.1, h.tb.2.1, blk_put hb 2 _ rfl⟩, own_setCell ho (own_ne ho hb (by decide)) _, Kd.R_set (Kd.R_over' h.byt (Kd.R_typed hR) (by decide) hg) hb (by decide) _ _⟩
theorem SLoop.step {w W W2 : World} {gt : Nat} {a : Int} {vo vb : Value} {os bs : List Int} (h : SLoop w W gt a vo vb os bs) (hb : Below W.heap.size W W2) : SLoop w W2 gt a vo vb os bs :=
  ⟨h.tb.step hb, own_move h.out (fun k hk => hb.block k (own_lt h.out k hk)), Kd.R_below h.byt hb⟩
theorem sloop_start {w W W2 : World} {gt : Nat} {a : Int} {vb : Value} {bs : List Int} {P : Nat → Prop} (h : TokB w gt (.int .i64 a) (.int .i64 1) (.slice none 0 0) (.int .i64 3) W) (hR : (Kd.int .u8).R 5 W2 (W.setCell ⟨gt, 3, none⟩ (.int .i64 0)).heap.size P vb bs)
    (hb : Below (W.setCell ⟨gt, 3, none⟩ (.int .i64 0)).heap.size (W.setCell ⟨gt, 3, none⟩ (.int .i64 0)) W2) : SLoop w W2 gt a (.slice none 0 0) vb (bs.take 0) bs := by
  have h3 := h.put3 (.int .i64 0)
  refine ⟨h3.step hb, own_nil _ _ _ _, Kd.R_lower (Kd.R_mono (Kd.R_bound hR) fun k hk => Nat.le_trans h3.1.size hk.2.1) (Nat.zero_le _)⟩
/-- what stands when the machine's place is stored -/
structure SEnds (w W : World) (b gt : Nat) (a : Int) (c0 c1 c3 vo : Value) (os : List Int) : Prop where
  lt : w.heap.size ≤ gt
  size : w.heap.size ≤ W.heap.size
  bb : W.heap[b]? = some (.cells #[.int .i64 (wrap64 (a + 1))] 105 (0, 0))
  tt : W.heap[gt]? = some (.cells #[c0, c1, vo, c3] 66 (0, 0))
  keep : ∀ k, k < w.heap.size → k ≠ b → W.heap[k]? = w.heap[k]?
  os_ : W.os = w.os
  tape : W.tape = w.tape
  output : W.output = w.output
  out : (Kd.int .i64).R 3 W 0 (fun k => w.heap.size ≤ k) vo os
theorem sput_ends {w W W2 : World} {b gt : Nat} {a : Int} {c0 c1 c3 vo : Value} {os : List Int} (h0 : w.heap[b]? = some (.cells #[.int .i64 a] 105 (0, 0))) (h : TokB w gt c0 c1 vo c3 W) (ho : (Kd.int .i64).R 3 W 0 (fun k => w.heap.size ≤ k) vo os) (hw : W2 = W.setCell ⟨b, 0, none⟩ (.int .i64 (wrap64 (a + 1)))) : SEnds w W2 b gt a c0 c1 c3 vo os := by
  subst hw
  have hb := blk_below h0 h.1
  have hl := blk_lt h0
  have hn : gt ≠ b := by have := h.2.1; omega
  refine ⟨h.2.1, by simpa using h.1.size, blk_put hb 0 _ rfl, (Below.heap_setCell W ⟨b, 0, none⟩ _ gt hn).trans h.2.2, fun k hk hkb => (Below.heap_setCell W ⟨b, 0, none⟩ _ k hkb).trans (h.1.block k hk), h.1.os, h.1.tape, h.1.output, Kd.R_set ho hb (by decide) _ _⟩
theorem sput_end {w W W2 : World} {f : Nat → Nat} {x b y gt : Nat} {a : Int} {u c0 c1 c3 vo : Value} {os : List Int} {tok : S66} (h : Sc w f x b a) (E : SEnds w W b gt a c0 c1 c3 vo os) (hg : W.grownBy W2 none) (hR : k66.R 66 W2 0 (fun k => w.heap.size ≤ k) u [tok]) :
    Gives (fun z => z = x) y w f [tok] (fun w' f' => Sc w' f' x b (wrap64 (a + 1))) (.returned u) W2 := by
  have hbl := blk_lt h.blk
  have hs := E.size
  refine ⟨u, markF f w.heap.size y u, rfl, ⟨Nat.le_trans hs hg.size, fun k hl => if_pos hl, fun k hl hn => (hg.block k (by omega) (by simp)).trans (E.keep k hl (fun e => hn (by rw [e]; exact h.fb))), hg.os.trans E.os_, hg.tape.trans E.tape, hg.output.trans E.output⟩, toks_new hR, ⟨(hg.block b (by omega) (by simp)).trans E.bb, (if_pos hbl : markF f w.heap.size y u b = f b).trans h.fb⟩⟩
theorem SEnd_calls (w : World) (f : Nat → Nat) (x y b : Nat) (a : Int) (h : Sc w f x b a) :
    Calls Tryz.prog 139 #[.pointer (some ⟨b, 0, none⟩)] w (Gives (fun z => z = x) y w f [] (fun w' f' => Sc w' f' x b a)) := by
  go_enter Tryz.func139, Tryz.ntmps139
  go_wp2
  go_ret
  exact ⟨_, f, rfl, Ext.refl _ _ _, Toks.nil _ _ _, h⟩
set_option maxRecDepth 100000 in
set_option maxHeartbeats 1000000 in
theorem SPut_calls (w : World) (f : Nat → Nat) (x y b : Nat) (a u : Int) (h : Sc w f x b a) (hx : x ≠ 0) :
    Calls Tryz.prog 141 #[.pointer (some ⟨b, 0, none⟩), .int .i64 u] w (Gives (fun z => z = x) y w f [sTok a u] (fun w' f' => Sc w' f' x b (wrap64 (a + 1)))) := by
  have c0 : w.cell? ⟨b, 0, none⟩ = some (.int .i64 a) := (blk_cell h.blk 0).trans rfl
  have hb0 := Lib.hid h.blk
  have hbl := blk_lt h.blk
  replace h := Lib.hid h
  have hsc := Lib.hid (scal_is u)
  unfold sTok
  by_cases hu : scalB u = true
  · rw [if_pos hu, ]
    rw [hu] at hsc
    have hput := Lib.hid (put_is u 0 [] (by simp))
    rw [List.nil_append, show encB u = encS u by unfold encB; rw [if_pos hu]] at hput
    have hbytes := Lib.hid (enc_bytes hu)
    have hlen := (enc_one_len (s := u)).2
    generalize encS u = bs at *
    replace hu := ()
    have T0 : ∀ nd, Hid (TokB w w.heap.size (.int .i64 a) (.int .i64 1) (.slice none 0 0) (.int .i64 3) ((w.alloc (.cells #[.int .i64 a, .int .i64 1, .slice none 0 0, .int .i64 3] 66)).drewN nd)) := fun nd => Lib.hid ((tokb_new w _ _ _ _).step (pw_below_drewN (Below.refl _ _) nd))
    obtain ⟨gt, hgt⟩ : ∃ gt, w.heap.size = gt := ⟨_, rfl⟩
    have hbg : b < gt := hgt ▸ hbl
    have hb8 : bs.length < 8 := by omega
    go_enter Tryz.func141, Tryz.ntmps141
    go_wp2_with (first
      | (go_at_call 27; refine (utf_Scalar.calls u true _ hsc.out).mono ?_; rintro e w' ⟨rfl, ⟨nd, rfl⟩⟩; replace T0 := T0 nd; rw [hgt] at T0; generalize (w.alloc (.cells #[.int .i64 a, .int .i64 1, .slice none 0 0, .int .i64 3] 66)).drewN nd = w1 at T0 ⊢; have f3 := T0.out.frozen 3; have e3 := T0.out.cells.2.2.2; clear c0)
      | (go_at_call 14; refine (utf_Put.calls 2 (fun _ => False) (.slice none 0 0) [] u bs _ _ (Below.refl _ _) (Kd.R_nil _ _ _ _ _) hput.out).mono ?_; rintro e w2 ⟨vb, rfl, hR, hb2, hk2⟩; have SL := Lib.hid (sloop_start T0.out hR hb2); obtain ⟨A, c, rfl⟩ := Kd.R_slice hR; clear hR hb2 hk2 f3 e3 T0))
    go_loopg [19] (bs.length + 1) (fun kq v w' => ∃ (i : Nat) (vo : Value), v = .int .i64 i ∧ Hid (SLoop w w' gt a vo (.slice A bs.length c) (bs.take i) bs) ∧ Hid (i ≤ bs.length ∧ bs.length + 1 = kq + i))
    case atStart => exact ⟨0, _, rfl, SL, Lib.hid ⟨Nat.zero_le _, rfl⟩⟩
    case round =>
      clear SL
      obtain ⟨i, vo, rfl, SL, HN⟩ := hrel
      have hbk := SL.out.tb.2.2
      have d2 : wr.cell? ⟨gt, 2, none⟩ = some vo := (blk_cell hbk 2).trans rfl
      cases gk with
      | zero => exact absurd HN.out (by omega)
      | succ gk =>
        by_cases hi : i < bs.length
        · have di : decide ((i : Int) < (bs.length : Int)) = true := decide_eq_true (by omega)
          have hrd := Kd.reads_of_C (d := (0 : Int)) (enc := Value.int .u8) (h1 := fun _ => rfl) (Kd.R_reads' SL.out.byt).2.2
          obtain ⟨ad, rfl, hc⟩ := hrd.2.2 (by omega)
          have hx := hc i hi
          have hg : bs.getD i 0 = bs[i] := by rw [List.getD_eq_getElem?_getD, List.getElem?_eq_getElem hi]; rfl
          have hu8 := hbytes.out _ (List.getElem_mem hi)
          have hl := Lib.hid (show bs.take i ++ [bs[i]] = bs.take (i + 1) by rw [List.take_add_one, List.getElem?_eq_getElem hi]; rfl)
          rw [hg] at hx
          clear hc hg hrd
          generalize bs[i] = cc at *
          have hL : (bs.take i ++ [cc]).length = i + 1 := by rw [List.length_append, List.length_take, Nat.min_eq_left (by omega)]; rfl
          have hn8 : ((bs.take i).length + 1) * 8 ≤ 140737488355328 := by rw [List.length_take]; omega
          have hw0 : wrap64 cc = cc := by unfold wrap64; omega
          have hw1 : wrap64 ((i : Int) + 1) = ((i + 1 : Nat) : Int) := by unfold wrap64; omega
          have p0 : (0 ≤ (i : Int)) = True := eq_true (by omega)
          have p1 : ((i : Int) < (bs.length : Int)) = True := eq_true (by omega)
          go_wp2_with (first
            | ((with_reducible refine gate_builtin (b := .append) (xs := #[.tmp 24, .tmp 27]) rfl ?_); at_builtin; refine print_append_num (w0 := w) w.heap.size rfl (.tmp 24) (.tmp 27) 25 3 .i64 8 rfl Tryz.underlying25 info3 (by omega) vo (bs.take i) cc rfl rfl SL.out.out SL.out.tb.1 SL.out.tb.1.size hn8 ?_; intro v1 w3 ho hb hg hat; obtain ⟨A1, d1, hv⟩ := own_slice ho; rw [hL] at hv; subst hv; have hbk3 := blk_grown hbk hg (own_ne SL.out.out hbk (by decide)); have f2 := blk_frozen hbk3 2; have e2 : w3.cell? ⟨gt, 2, none⟩ = some vo := (blk_cell hbk3 2).trans rfl; have SN := Lib.hid (SL.out.next hg hl.out ho rfl); clear ho hb hg hat hbk3 hx d2))
          go_roundg gk
          case measure => omega
          case rel => exact ⟨i + 1, _, rfl, SN, Lib.hid ⟨by omega, by have := HN.out; omega⟩⟩
        · have di : decide ((i : Int) < (bs.length : Int)) = false := decide_eq_false (by omega)
          have hii : i = bs.length := by have := HN.out; omega
          have hbb := blk_below hb0.out (below_step SL.out.tb.1 (Below.refl _ _))
          have cb : wr.cell? ⟨b, 0, none⟩ = some (.int .i64 a) := (blk_cell hbb 0).trans rfl
          have fb := blk_frozen hbb 0
          have hO := Lib.hid (show (Kd.int .i64).R 3 wr 0 (fun k => w.heap.size ≤ k) vo bs by
            have h : (Kd.int .i64).R 3 wr 0 (fun k => w.heap.size ≤ k) vo (bs.take i) := Kd.R_lower (Kd.R_of_own (ok := fun k => w.heap.size ≤ k) (enc := Value.int .i64) SL.out.out (fun k hk => own_base SL.out.out k hk)) (Nat.zero_le _)
            rw [hii, List.take_length] at h
            exact h)
          have T := Lib.hid SL.out.tb
          obtain ⟨Ao, co, rfl⟩ := Kd.R_slice hO.out
          clear hii hbb SL
          go_wp2_with (first
            | ((with_reducible refine gate_store (t := 3) (p := 37) rfl ?_); refine store_event (t := 3) (p := 37) (v := .tmp 35) (w1 := wr.setCell ⟨b, 0, none⟩ (.int .i64 (wrap64 (a + 1)))) ?hg ?ho ?hn ?hr ?_; (case ho => rfl); (case hg => rfl); (case hn => rfl); (case hr => first | (go_simp; done) | (go_simp; rfl)); intro w9 hw9; have E := Lib.hid (sput_ends hb0.out T.out hO.out hw9); have z0 : w9.cell? ⟨gt, 0, none⟩ = some (.int .i64 a) := (blk_cell E.out.tt 0).trans rfl; have z1 : w9.cell? ⟨gt, 1, none⟩ = some (.int .i64 1) := (blk_cell E.out.tt 1).trans rfl; have z2 : w9.cell? ⟨gt, 2, none⟩ = some (.slice Ao bs.length co) := (blk_cell E.out.tt 2).trans rfl; have z3 : w9.cell? ⟨gt, 3, none⟩ = some (.int .i64 0) := (blk_cell E.out.tt 3).trans rfl; clear hw9 cb fb d2 hbk)
            | ((with_reducible refine gate_dst (N := 39) rfl ?_); refine Kd.R_lit k66 (w0 := w9) 0 66 ?hg (N := 39) ?hd (xs := [(⟨a, 1, bs, 0⟩ : S66)]) (inner := [.int .i64 a, .int .i64 1, .slice Ao bs.length co, .int .i64 0]) (ok := fun k => w.heap.size ≤ k) (okp := fun k => w.heap.size ≤ k) ?hr ?hp (fun _ hk => hk) E.out.size (Below.refl _ _) (Nat.zero_le _) (by simp) ?_; (case hd => rfl); (case hg => rfl); (case hr => first | (go_simp; done) | (go_simp; rfl)); (case hp => exact Reps.c4 (k66_mkM _ _ _ ⟨a, 1, bs, 0⟩ E.out.out) (Reps.none _ _)); intro v10 w10 ho hb hg hn; have F := Lib.hid (sput_end (y := y) h.out E.out hg ho); clear ho hb hg hn))
          go_ret
          exact F.out
  · rw [if_neg hu]
    rw [Bool.not_eq_true] at hu
    rw [hu] at hsc
    replace hu := ()
    have T0 : ∀ nd, Hid (TokB w w.heap.size (.int .i64 a) (.int .i64 1) (.slice none 0 0) (.int .i64 3) ((w.alloc (.cells #[.int .i64 a, .int .i64 1, .slice none 0 0, .int .i64 3] 66)).drewN nd)) := fun nd => Lib.hid ((tokb_new w _ _ _ _).step (pw_below_drewN (Below.refl _ _) nd))
    obtain ⟨gt, hgt⟩ : ∃ gt, w.heap.size = gt := ⟨_, rfl⟩
    go_enter Tryz.func141, Tryz.ntmps141
    go_wp2_with (first
      | (go_at_call 27; refine (utf_Scalar.calls u false _ hsc.out).mono ?_; rintro e w' ⟨rfl, ⟨nd, rfl⟩⟩; replace T0 := T0 nd; rw [hgt] at T0; generalize (w.alloc (.cells #[.int .i64 a, .int .i64 1, .slice none 0 0, .int .i64 3] 66)).drewN nd = wr at T0 ⊢; have hbb := blk_below hb0.out T0.out.1; have cb : wr.cell? ⟨b, 0, none⟩ = some (.int .i64 a) := (blk_cell hbb 0).trans rfl; have fb := blk_frozen hbb 0; clear c0 hbb)
      | ((with_reducible refine gate_store (t := 3) (p := 37) rfl ?_); refine store_event (t := 3) (p := 37) (v := .tmp 35) (w1 := wr.setCell ⟨b, 0, none⟩ (.int .i64 (wrap64 (a + 1)))) ?hg ?ho ?hn ?hr ?_; (case ho => rfl); (case hg => rfl); (case hn => rfl); (case hr => first | (go_simp; done) | (go_simp; rfl)); intro w9 hw9; have E := Lib.hid (sput_ends hb0.out T0.out (Kd.R_nil (Kd.int .i64) 3 wr 0 _) hw9); have z0 : w9.cell? ⟨gt, 0, none⟩ = some (.int .i64 a) := (blk_cell E.out.tt 0).trans rfl; have z1 : w9.cell? ⟨gt, 1, none⟩ = some (.int .i64 1) := (blk_cell E.out.tt 1).trans rfl; have z2 : w9.cell? ⟨gt, 2, none⟩ = some (.slice none 0 0) := (blk_cell E.out.tt 2).trans rfl; have z3 : w9.cell? ⟨gt, 3, none⟩ = some (.int .i64 3) := (blk_cell E.out.tt 3).trans rfl; clear hw9 cb fb)
      | ((with_reducible refine gate_dst (N := 39) rfl ?_); refine Kd.R_lit k66 (w0 := w9) 0 66 ?hg (N := 39) ?hd (xs := [(⟨a, 1, [], 3⟩ : S66)]) (inner := [.int .i64 a, .int .i64 1, .slice none 0 0, .int .i64 3]) (ok := fun k => w.heap.size ≤ k) (okp := fun k => w.heap.size ≤ k) ?hr ?hp (fun _ hk => hk) E.out.size (Below.refl _ _) (Nat.zero_le _) (by simp) ?_; (case hd => rfl); (case hg => rfl); (case hr => first | (go_simp; done) | (go_simp; rfl)); (case hp => exact Reps.c4 (k66_mkM _ _ _ ⟨a, 1, [], 3⟩ E.out.out) (Reps.none _ _)); intro v10 w10 ho hb hg hn; have F := Lib.hid (sput_end (y := y) h.out E.out hg ho); clear ho hb hg hn))
    go_ret
    exact F.out
end Go.Proofs.YtnfjgopcenpblaaGreatDoor.T

/- iscii's reader: what its tokens mean. No condition beyond the ranges. -/
namespace Go.Proofs.YtnfjgopcenpblaaGreatDoor.T
open Go.RowKit Go.Proofs.YtnfjgopcenpblaaGreatDoorW.PrintWords Go.Proofs.YtnfjgopcenpblaaGreatDoorW.PrintLast Go.Proofs.YtnfjgopcenpblaaGreatDoorW.PrintMore Go.Proofs.YtnfjgopcenpblaaGreatDoor
set_option linter.unusedVariables false
set_option linter.unusedSimpArgs false
def indS (s u : Int) : Int := wrap64 (wrap64 (2304 + wrap64 (128 * s)) + u)
def meanO (s u : Int) : List Int := if 8192 ≤ u then [wrap64 (u - 8192)] else if 4096 ≤ u then [] else [indS s u]
def meanS (s u : Int) : Int := if 8192 ≤ u then s else if 4096 ≤ u then wrap64 (u - 4096) else s
def meanRow : Int → List Int → List Int × Int
  | s, [] => ([], s)
  | s, u :: us => (meanO s u ++ (meanRow (meanS s u) us).1, (meanRow (meanS s u) us).2)
def meanTok (s : Int) (x : S66) : S66 := ⟨x.f0, x.f1, (meanRow s x.f2).1, x.f3⟩
def meanGo : Int → List S66 → List S66 × Int
  | s, [] => ([], s)
  | s, x :: xs => (meanTok s x :: (meanGo (meanRow s x.f2).2 xs).1, (meanGo (meanRow s x.f2).2 xs).2)
theorem snoc_len (l : List Int) (c : Int) : (l ++ [c]).length = l.length + 1 := by simp
theorem Ind_calls (w : World) (s u : Int) : Calls Tryz.prog 137 #[.int .i64 s, .int .i64 u] w fun e w' => e = .returned (.int .i64 (indS s u)) ∧ w = w' := by
  unfold indS
  go_enter Tryz.func137, Tryz.ntmps137
  go_wp2
  go_ret
  exact ⟨rfl, rfl⟩
/-- one token's row: q is what comes out -/
structure RowN (is : List Int) (q : List Int × Int) (kq j : Nat) (os : List Int) (s : Int) : Prop where
  le : j ≤ is.length
  fuel : is.length + 1 = kq + j
  few : os.length ≤ j
  ans : q = (os ++ (meanRow s (is.drop j)).1, (meanRow s (is.drop j)).2)
theorem RowN.next {is os : List Int} {q : List Int × Int} {kq j : Nat} {s u : Int} (h : RowN is q (kq + 1) j os s) (hj : j < is.length) (hu : is[j] = u) : RowN is q kq (j + 1) (os ++ meanO s u) (meanS s u) := by
  obtain ⟨a, b, c, d⟩ := h
  have h1 : (meanO s u).length ≤ 1 := by unfold meanO; split; exact Nat.le_refl 1; split; exact Nat.zero_le 1; exact Nat.le_refl 1
  refine ⟨hj, by omega, by rw [List.length_append]; omega, ?_⟩
  rw [d, List.drop_eq_getElem_cons hj, hu, meanRow, List.append_assoc]
/-- what stands while a token's row is made -/
structure MnI (w0 W : World) (b : Nat) (ifc : Value) (s : Int) (vo : Value) (os : List Int) (vi : Value) (is : List Int) : Prop where
  size : w0.heap.size ≤ W.heap.size
  keep : ∀ k, k < w0.heap.size → k ≠ b → W.heap[k]? = w0.heap[k]?
  env : W.os = w0.os ∧ W.tape = w0.tape ∧ W.output = w0.output
  lt : b < w0.heap.size
  bb : W.heap[b]? = some (.cells #[ifc, .int .i64 s] 119 (0, 0))
  out : W.ownsRow w0.heap.size 3 1 vo os.length (nums .i64 os)
  inp : (Kd.int .i64).R 3 W 0 (fun k => k < w0.heap.size ∧ k ≠ b) vi is
theorem MnI.app {w0 W W2 : World} {b : Nat} {ifc vo vi v2 : Value} {s c : Int} {os is l : List Int} (h : MnI w0 W b ifc s vo os vi is) (hg : W.grownBy W2 vo.ownBlock) (ho : W2.ownsRow w0.heap.size 3 1 v2 (os ++ [c]).length (nums .i64 (os ++ [c]))) (hl : os ++ [c] = l) : MnI w0 W2 b ifc s v2 l vi is := by
  subst hl
  have hsz := h.size
  have hn : ∀ k, k < w0.heap.size → some k ≠ vo.ownBlock := fun k hk e => by have := own_base h.out k e.symm; omega
  exact ⟨Nat.le_trans h.size hg.size, fun k hk hb => (hg.block k (by omega) (hn k hk)).trans (h.keep k hk hb), ⟨hg.os.trans h.env.1, hg.tape.trans h.env.2.1, hg.output.trans h.env.2.2⟩, h.lt,
    (hg.block b (by have := h.lt; omega) (hn b h.lt)).trans h.bb, ho, Kd.R_step h.inp (fun k hk hlt => hg.block k hlt (hn k hk.1))⟩
theorem MnI.scr {w0 W W2 : World} {b : Nat} {ifc vo vi : Value} {s s2 : Int} {os is l : List Int} (h : MnI w0 W b ifc s vo os vi is) (hl : os = l) (hw : W2 = W.setCell ⟨b, 1, none⟩ (.int .i64 s2)) : MnI w0 W2 b ifc s2 vo l vi is := by
  subst hw hl
  have hk : ∀ k, k ≠ b → (W.setCell ⟨b, 1, none⟩ (.int .i64 s2)).heap[k]? = W.heap[k]? := fun k hk => Below.heap_setCell W ⟨b, 1, none⟩ _ k hk
  exact ⟨by simpa using h.size, fun k hl hb => (hk k hb).trans (h.keep k hl hb), h.env, h.lt, blk_put h.bb 1 _ rfl, own_setCell h.out (own_ne h.out h.bb (by decide)) _, Kd.R_step h.inp (fun k hk2 _ => hk k hk2.2)⟩
def MeanP (w : World) (f : Nat → Nat) (x y b : Nat) (ifc u : Value) (q : List S66 × Int) (en : Ending) (w' : World) : Prop := ∃ f', en = .returned u ∧ Ext (fun z => z = x ∨ z = y) w w' f f' ∧ Toks w' f' y u q.1 ∧ w'.heap[b]? = some (.cells #[ifc, .int .i64 q.2] 119 (0, 0)) ∧ f' b = x
structure MeanN (ts : List S66) (q : List S66 × Int) (kq i : Nat) (vs : List S66) (s : Int) : Prop where
  le : i ≤ ts.length
  fuel : ts.length + 1 = kq + i
  len : vs.length = ts.length
  rest : vs.drop i = ts.drop i
  ans : q = (vs.take i ++ (meanGo s (ts.drop i)).1, (meanGo s (ts.drop i)).2)
theorem MeanN.next {ts vs : List S66} {q : List S66 × Int} {kq i : Nat} {s : Int} {x : S66} (h : MeanN ts q (kq + 1) i vs s) (hi : i < ts.length) (hx : ts.drop i = x :: ts.drop (i + 1)) :
    MeanN ts q kq (i + 1) (vs.set i (meanTok s x)) (meanRow s x.f2).2 := by
  obtain ⟨a, b, c, d, g⟩ := h
  rw [hx, meanGo] at g
  have hiv : i < vs.length := by omega
  refine ⟨hi, by omega, by rw [List.length_set]; exact c, ?_, ?_⟩
  · rw [List.drop_set_of_lt (by omega)]
    have h1 := congrArg (List.drop 1) d
    rwa [List.drop_drop, List.drop_drop] at h1
  · have h2 : (vs.set i (meanTok s x)).take (i + 1) = vs.take i ++ [meanTok s x] := by
      rw [List.take_add_one, List.getElem?_set_self hiv, List.take_set_of_le (by omega)]; rfl
    rw [g, h2]
    simp
/-- a token's Out is stored -/
theorem store_out {W W2 : World} {f : Nat → Nat} {y g cap i : Nat} {vs : List S66} {a1 a2 a4 : Int} {l o : List Int} {vo : Value} (h : Toks W f y (.slice (some ⟨g, 0, none⟩) vs.length cap) vs) (hy : y ≠ 0) (hi : i < vs.length) (hx : rd_T66 vs i = ⟨a1, a2, l, a4⟩)
    (hM : IntZ W f vo o) (hw : W2 = W.setCell ⟨g, i * 4 + 2, none⟩ vo) :
    Toks W2 f y (.slice (some ⟨g, 0, none⟩) vs.length cap) (vs.set i ⟨a1, a2, o, a4⟩) ∧ Ext (fun z => z = y) W W2 f f := by
  have hR := h.R hy
  have hfg : f g = y := h.own g (by simp [Value.ownBlock])
  obtain ⟨c, hcl, hcM, hcc, _⟩ := Kd.R_elem hR z66 (i : Int) (Int.natCast_nonneg i) (Int.ofNat_lt.mpr hi)
  change k66.M W 0 _ (rd_T66 vs i) c at hcM
  rw [hx] at hcM
  obtain ⟨vv, rfl, _⟩ := k66_openM hcM
  have hseg := Kd.R_seg hR (i : Int) (Int.natCast_nonneg i) (Int.ofNat_lt.mpr hi) hcl hcc (seg := [vo]) (j := 2) (x' := (⟨a1, a2, o, a4⟩ : S66)) (okp := fun k => f k = 0) (by exact (by decide : 3 ≤ 4))
    (k66_mkM _ _ _ ⟨a1, a2, o, a4⟩ hM) (fun k hk => ⟨.inl hk, fun e => hy (by rw [← hfg, ← e]; exact hk)⟩)
  obtain ⟨h1, h2⟩ := hseg
  rw [Int.toNat_natCast] at h1 h2
  have hw2 : W2 = W.setCells g (i * k66.sz + 2) [vo] := hw
  rw [← hw2] at h1 h2
  have hE : Ext (fun z => z = y) W W2 f f := ⟨h2.size, fun _ _ => rfl, fun k hk hn => h2.block k hk (fun e => hn (by injection e with e; rw [e]; exact hfg)), h2.os, h2.tape, h2.output⟩
  exact ⟨Toks.of_R h1 (fun k hk => by have : g = k := by simpa [Value.ownBlock] using hk
                                      rw [← this]; exact hfg) (fun k hk hne _ => hk.resolve_right hne), hE⟩
theorem mean_next {w wr w5 W W2 : World} {f f1 : Nat → Nat} {x y b g cap i : Nat} {ifc vo vi : Value} {vs : List S66} {a1 a2 a4 s s2 : Int} {l is os : List Int}
    (E1 : Ext (fun z => z = x ∨ z = y) w wr f f1) (T1 : Toks wr f1 y (.slice (some ⟨g, 0, none⟩) vs.length cap) vs) (b1 : wr.heap[b]? = some (.cells #[ifc, .int .i64 s] 119 (0, 0))) (b5 : f1 b = x) (n1 : x ≠ 0) (n2 : y ≠ 0) (n3 : x ≠ y) (hi : i < vs.length) (hx : rd_T66 vs i = ⟨a1, a2, l, a4⟩)
    (hb : Below wr.heap.size wr w5) (M : MnI w5 W b ifc s2 vo os vi is) (hw : W2 = W.setCell ⟨g, i * 4 + 2, none⟩ vo) :
    ∃ f2, Ext (fun z => z = x ∨ z = y) w W2 f f2 ∧ Toks W2 f2 y (.slice (some ⟨g, 0, none⟩) vs.length cap) (vs.set i ⟨a1, a2, os, a4⟩) ∧ W2.heap[b]? = some (.cells #[ifc, .int .i64 s2] 119 (0, 0)) ∧ f2 b = x := by
  have hbl := blk_lt b1
  have hs1 := hb.size
  have hE : Ext (fun z => z = x) wr W f1 (newF f1 wr.heap.size 0) := ⟨Nat.le_trans hb.size M.size, fun k hk => newF_old hk, fun k hk hn => (M.keep k (by omega) (fun e => hn (by rw [e]; exact b5))).trans (hb.block k hk), M.env.1.trans hb.os, M.env.2.1.trans hb.tape, M.env.2.2.trans hb.output⟩
  have hO : IntZ W (newF f1 wr.heap.size 0) vo os := Kd.R_lower (Kd.R_of_own (enc := Value.int .i64) M.out (fun k hk => newF_new (by have := own_base M.out k hk; omega))) (Nat.zero_le _)
  obtain ⟨t1, e2⟩ := store_out (T1.ext hE (fun h => n1 h.symm) (fun h => n3 h.symm)) n2 hi hx hO hw
  have hfb : newF f1 wr.heap.size 0 b = x := (newF_old hbl).trans b5
  exact ⟨_, (E1.trans (hE.mono (fun z h => .inl h))).trans (e2.mono (fun z h => .inr h)), t1, e2.blk M.bb (by rw [hfb]; exact n3), hfb⟩
set_option maxRecDepth 100000 in
set_option maxHeartbeats 1000000 in
theorem Mean_calls (w : World) (f : Nat → Nat) (x y b : Nat) (ifc : Value) (s : Int) (u : Value) (ts : List S66) (h : w.heap[b]? = some (.cells #[ifc, .int .i64 s] 119 (0, 0))) (hf : f b = x) (ht : Toks w f y u ts) (n0 : x ≠ 0 ∧ y ≠ 0 ∧ x ≠ y) (h8 : ∀ x ∈ ts, x.f2.length ≤ 8) (hn : ts.length ≤ 1000) :
    Calls Tryz.prog 136 #[.pointer (some ⟨b, 0, none⟩), u] w (MeanP w f x y b ifc u (meanGo s ts)) := by
  obtain ⟨n1, n2, n3⟩ := n0
  by_cases hts : ts = []
  · subst hts
    obtain ⟨A, c, rfl, _, _⟩ := ht.rd
    have HE := Lib.hid (show MeanP w f x y b ifc (.slice A ([] : List S66).length c) (meanGo s []) (.returned (.slice A ([] : List S66).length c)) w from ⟨f, rfl, Ext.refl _ _ _, ht, h, hf⟩)
    clear h ht
    go_enter Tryz.func136, Tryz.ntmps136
    go_wp2
    go_loopg [12] 1 (fun kq v w' => v = .int .i64 0 ∧ w' = w)
    case atStart => exact ⟨rfl, rfl⟩
    case round =>
      obtain ⟨rfl, rfl⟩ := hrel
      go_wp2
      go_ret
      exact HE.out
  · have hpos : 0 < ts.length := List.length_pos_iff.2 hts
    obtain ⟨g, cap, rfl, _, _⟩ := Kd.R_form (ht.R n2) hpos
    have N := Lib.hid (show MeanN ts (meanGo s ts) (ts.length + 1) 0 ts s from ⟨by omega, by omega, rfl, rfl, by simp⟩)
    have W := Lib.hid (show ∃ f', Ext (fun z => z = x ∨ z = y) w w f f' ∧ Toks w f' y (.slice (some ⟨g, 0, none⟩) ts.length cap) ts ∧ w.heap[b]? = some (.cells #[ifc, .int .i64 s] 119 (0, 0)) ∧ f' b = x from ⟨f, Ext.refl _ _ _, ht, h, hf⟩)
    replace h8 := Lib.hid h8
    generalize meanGo s ts = q at *
    clear h ht hf
    go_enter Tryz.func136, Tryz.ntmps136
    go_wp2
    go_loopg [12] (ts.length + 1) (fun kq v9 w' => ∃ (i : Nat) (vs : List S66) (s : Int), v9 = .int .i64 i ∧ Hid (∃ f', Ext (fun z => z = x ∨ z = y) w w' f f' ∧ Toks w' f' y (.slice (some ⟨g, 0, none⟩) ts.length cap) vs ∧ w'.heap[b]? = some (.cells #[ifc, .int .i64 s] 119 (0, 0)) ∧ f' b = x) ∧ Hid (MeanN ts q kq i vs s))
    case atStart => exact ⟨0, ts, s, rfl, W, N⟩
    case round =>
      clear W N s
      obtain ⟨i, vs, s, rfl, W, N⟩ := hrel
      have hvl := N.out.len
      have i1 := N.out.fuel
      cases gk with
      | zero => exact absurd i1 (by have := N.out.le; omega)
      | succ gk =>
        by_cases hi : i < ts.length
        · have di := lt_dec hi
          have p0 := nat_tr i
          have p1 := lt_tr hi
          have hiv : i < vs.length := by omega
          obtain ⟨f1, E1, T1, b1, b5⟩ := W.out
          have hdr : vs.drop i = ts.drop i := N.out.rest
          have hx : rd_T66 vs i = rd_T66 ts i := by rw [tok_drop hiv, tok_drop hi] at hdr; exact (List.cons.inj hdr).1
          have hx8 := h8.out _ (tok_mem hi)
          have hT1 : Toks wr f1 y (.slice (some ⟨g, 0, none⟩) vs.length cap) vs := by rw [hvl]; exact T1
          obtain ⟨cs, hcl, hcM, hcc, hcf⟩ := Kd.R_elem (hT1.R n2) z66 (i : Int) (Int.natCast_nonneg i) (Int.ofNat_lt.mpr hiv)
          change k66.M wr 0 _ (rd_T66 vs i) cs at hcM
          have hN := Lib.hid (N.out.next hi (tok_drop hi))
          rw [← hx] at hx8 hN
          have hxx : ∃ z, z = rd_T66 vs i := ⟨_, rfl⟩
          obtain ⟨⟨v0, v2, v3, v4⟩, hz⟩ := hxx
          rw [← hz] at hcM hx8 hN
          obtain ⟨vv, rfl, hvv⟩ := k66_openM hcM
          dsimp only at hvv hx8
          have hvb : IntZ wr f1 vv v3 := Kd.R_mono hvv (fun k hk => hk.1.resolve_right (fun e => hk.2 (own_is e)))
          obtain ⟨Ao, co, rfl⟩ := Kd.R_slice hvv
          have hcc2 : ∀ j u, [Value.int .i64 v0, .int .i64 v2, .slice Ao v3.length co, .int .i64 v4][j]? = some u → wr.cell? ⟨g, i * 4 + j, none⟩ = some u := fun j u hj => by
            have := hcc j u hj
            rw [Int.toNat_natCast] at this
            exact this
          have hcf2 : ∀ j, wr.frozen? ⟨g, i * 4 + j, none⟩ = false := fun j => by
            have := hcf j
            rw [Int.toNat_natCast] at this
            exact this
          have z0 : wr.cell? ⟨g, i * 4, none⟩ = some (.int .i64 v0) := hcc2 0 _ rfl
          have z1 : wr.cell? ⟨g, i * 4 + 1, none⟩ = some (.int .i64 v2) := hcc2 1 _ rfl
          have z2 : wr.cell? ⟨g, i * 4 + 2, none⟩ = some (.slice Ao v3.length co) := hcc2 2 _ rfl
          have z3 : wr.cell? ⟨g, i * 4 + 3, none⟩ = some (.int .i64 v4) := hcc2 3 _ rfl
          have y2 := hcf2 2
          have kb : (wr.alloc (.cells #[.int .i64 v0, .int .i64 v2, .slice Ao v3.length co, .int .i64 v4] 66)).cell? ⟨wr.heap.size, 2, none⟩ = some (.slice Ao v3.length co) := (blk_cell (blk_new wr (.cells #[.int .i64 v0, .int .i64 v2, .slice Ao v3.length co, .int .i64 v4] 66)) 2).trans rfl
          have hgl : g < wr.heap.size := T1.lt g (by simp [Value.ownBlock])
          have hgb : g ≠ b := fun e => n3 (by rw [← b5, ← e]; exact T1.own g (by simp [Value.ownBlock]))
          clear hcc hcf hcl hcM hcc2 hcf2 hdr hx
          go_wp2
          have hb5 : Below wr.heap.size wr (wr.alloc (.cells #[.int .i64 v0, .int .i64 v2, .slice Ao v3.length co, .int .i64 v4] 66)) := below_alloc (Below.refl _ _) _
          generalize wr.alloc (.cells #[.int .i64 v0, .int .i64 v2, .slice Ao v3.length co, .int .i64 v4] 66) = w5 at hb5 kb ⊢
          have hbl := blk_lt b1
          have M := Lib.hid (show MnI w5 w5 b ifc s (.slice none 0 0) [] (.slice Ao v3.length co) v3 from ⟨Nat.le_refl _, fun _ _ _ => rfl, ⟨rfl, rfl, rfl⟩, by have := hb5.size; omega, blk_below b1 hb5, own_nil _ _ _ _,
            Kd.R_below (Kd.R_mono (Kd.R_bound hvb) (fun k hk => ⟨by have := hb5.size; have := hk.2.2.1; omega, fun e => n1 (by rw [← b5, ← e]; exact hk.1)⟩)) hb5⟩)
          have RN := Lib.hid (show RowN v3 (meanRow s v3) (v3.length + 1) 0 [] s from ⟨Nat.zero_le _, rfl, Nat.le_refl _, rfl⟩)
          have hJX := Lib.hid (fun W W2 s2 vo os M hw => mean_next (W := W) (W2 := W2) (s2 := s2) (vo := vo) (vi := .slice Ao v3.length co) (is := v3) (os := os) E1 hT1 b1 b5 n1 n2 n3 hiv hz.symm hb5 M hw)
          have hmr : (meanRow s v3).1 = (meanRow s v3).1 ∧ True := ⟨rfl, trivial⟩
          unfold meanTok at hN
          dsimp only at hN
          generalize meanRow s v3 = qr at *
          replace h8 := ()
          replace y2 := Lib.hid y2
          replace z2 := Lib.hid z2
          clear hmr hz hvv hvb z0 z1 z3 kb E1 T1 hT1 b1 W N
          obtain ⟨wo, rfl⟩ : ∃ wo, wo = wr := ⟨_, rfl⟩
          obtain ⟨ko, rfl⟩ : ∃ ko, ko = gk := ⟨_, rfl⟩
          go_loopg [7, 20] (v3.length + 1) (fun kq v7 v20 w' => ∃ (j : Nat) (os : List Int) (s2 : Int), v20 = .int .i64 j ∧ Hid (MnI w5 w' b ifc s2 v7 os (.slice Ao v3.length co) v3) ∧ Hid (RowN v3 qr kq j os s2))
          case atStart => exact ⟨0, [], s, rfl, M, RN⟩
          case round =>
            clear M RN
            obtain ⟨j, os, s2, rfl, M, RN⟩ := hrel
            have i2 := RN.out.fuel
            cases gk with
            | zero => exact absurd i2 (by have := RN.out.le; omega)
            | succ gk =>
              by_cases hj : j < v3.length
              · have dj := lt_dec hj
                have q0 := nat_tr j
                have q1 := lt_tr hj
                have hrd := Kd.reads_of_C (d := (0 : Int)) (enc := Value.int .i64) (h1 := fun _ => rfl) (Kd.R_reads' M.out.inp).2.2
                obtain ⟨ad, rfl, hc⟩ := hrd.2.2 (by omega)
                have hx := hc j hj
                have hg : v3.getD j 0 = v3[j] := by rw [List.getD_eq_getElem?_getD, List.getElem?_eq_getElem hj]; rfl
                have RX := Lib.hid (RN.out.next hj rfl)
                rw [hg] at hx
                clear hc hg hrd
                generalize v3[j] = u at *
                have hn8 : (os.length + 1) * 8 ≤ 140737488355328 := by have := RN.out.few; omega
                have hj9 : (j : Int) < 9 := by omega
                unfold meanO meanS at RX
                by_cases h1 : 8192 ≤ u
                · rw [if_pos h1, if_pos h1] at RX
                  have d1 : decide (8192 ≤ u) = true := decide_eq_true h1
                  go_wp2_with (first
                    | ((with_reducible refine gate_builtin (b := .append) (xs := #[.tmp 36, .tmp 39]) rfl ?_); at_builtin; refine print_append_num (w0 := wr) w5.heap.size rfl (.tmp 36) (.tmp 39) 25 3 .i64 8 rfl Tryz.underlying25 info3 (by omega) u7 os (wrap64 (u - 8192)) rfl rfl M.out.out (Below.refl _ _) M.out.size hn8 ?_; intro v1 w3 ho hb hg hat; obtain ⟨A1, d1, hv⟩ := own_slice ho; rw [snoc_len] at hv; subst hv; have MN := Lib.hid (M.out.app hg ho rfl); clear ho hb hg hat hx))
                  go_roundg gk
                  case measure => omega
                  case rel => exact ⟨j + 1, _, _, rfl, MN, RX⟩
                · rw [if_neg h1, if_neg h1] at RX
                  have d1 : decide (8192 ≤ u) = false := decide_eq_false h1
                  by_cases h2 : 4096 ≤ u
                  · rw [if_pos h2, if_pos h2, List.append_nil] at RX
                    have d2 : decide (4096 ≤ u) = true := decide_eq_true h2
                    have cb : wr.cell? ⟨b, 1, none⟩ = some (.int .i64 s2) := (blk_cell M.out.bb 1).trans rfl
                    have fb := blk_frozen M.out.bb 1
                    rw [show wrap64 (u - 4096) = u - 4096 by unfold wrap64; omega] at RX
                    have MN := Lib.hid (M.out.scr (s2 := u - 4096) rfl rfl)
                    go_wp2
                    go_roundg gk
                    case measure => omega
                    case rel => exact ⟨j + 1, _, _, rfl, MN, RX⟩
                  · rw [if_neg h2, if_neg h2] at RX
                    have d2 : decide (4096 ≤ u) = false := decide_eq_false h2
                    have cb : wr.cell? ⟨b, 1, none⟩ = some (.int .i64 s2) := (blk_cell M.out.bb 1).trans rfl
                    go_wp2_with (first
                      | (go_at_call 137; refine (Ind_calls wr s2 u).mono ?_; rintro e w' ⟨rfl, rfl⟩)
                      | ((with_reducible refine gate_builtin (b := .append) (xs := #[.tmp 24, .tmp 31]) rfl ?_); at_builtin; refine print_append_num (w0 := wr) w5.heap.size rfl (.tmp 24) (.tmp 31) 25 3 .i64 8 rfl Tryz.underlying25 info3 (by omega) u7 os (indS s2 u) rfl rfl M.out.out (Below.refl _ _) M.out.size hn8 ?_; intro v1 w3 ho hb hg hat; obtain ⟨A1, d1, hv⟩ := own_slice ho; rw [snoc_len] at hv; subst hv; have MN := Lib.hid (M.out.app hg ho rfl); clear ho hb hg hat hx))
                    go_roundg gk
                    case measure => omega
                    case rel => exact ⟨j + 1, _, _, rfl, MN, RX⟩
              · have dj := nlt_dec hj
                have hqr : qr = (os, s2) := by
                  have h := RN.out.ans
                  rwa [List.drop_eq_nil_of_le (by omega), meanRow, List.append_nil] at h
                subst hqr
                have hgk : wr.heap[g]? = wo.heap[g]? := (M.out.keep g (by have := hb5.size; omega) hgb).trans (hb5.block g hgl)
                have z2' : wr.cell? ⟨g, i * 4 + 2, none⟩ = some (.slice Ao v3.length co) := (World.cell?_of_block hgk).trans z2.out
                have y2' : wr.frozen? ⟨g, i * 4 + 2, none⟩ = false := (World.frozen?_of_block hgk).trans y2.out
                obtain ⟨Au, du, rfl⟩ := own_slice M.out.out
                have MN := Lib.hid (hJX.out wr _ s2 _ os M.out rfl)
                have p1' : ((i : Int) < (ts.length : Int)) = True := p1
                have hi9 : (i : Int) < 1001 := by omega
                go_wp2
                go_roundg ko
                case measure => omega
                case rel =>
                  refine ⟨i + 1, _, s2, rfl, Lib.hid ?_, hN⟩
                  have h := MN.out
                  rw [hvl] at h
                  exact h
        · have di := nlt_dec hi
          have hq := N.out.ans
          have hvi : vs.take i = vs := List.take_of_length_le (by omega)
          rw [List.drop_eq_nil_of_le (by omega), meanGo, List.append_nil, hvi] at hq
          replace hq := Lib.hid hq
          clear hvi
          go_wp2
          go_ret
          obtain ⟨f1, E1, T1, H1⟩ := W.out
          rw [hq.out]
          exact ⟨f1, rfl, E1, T1, H1⟩
end Go.Proofs.YtnfjgopcenpblaaGreatDoor.T

/- iscii's reader: Put and End. No condition beyond the ranges. -/
namespace Go.Proofs.YtnfjgopcenpblaaGreatDoor.T
open Go.RowKit Go.Proofs.YtnfjgopcenpblaaGreatDoorW.PrintWords Go.Proofs.YtnfjgopcenpblaaGreatDoorW.PrintLast Go.Proofs.YtnfjgopcenpblaaGreatDoorW.PrintMore Go.Proofs.YtnfjgopcenpblaaGreatDoor
set_option linter.unusedVariables false
set_option linter.unusedSimpArgs false
theorem meth_dput {w : World} {d m : Nat} (h : w.heap[d]? = some (.cells #[.pointer (some ⟨m, 0, none⟩)] 126 (0, 0))) : (method (Tryz.prog.types.size + Made.depth) 120 (.pointer (some ⟨d, 0, none⟩)) "Put").run Tryz.prog w = .ok (152, .pointer (some ⟨m, 0, none⟩)) w := by
  have hc : w.cell? ⟨d, 0, none⟩ = some (.pointer (some ⟨m, 0, none⟩)) := (blk_cell h 0).trans rfl
  have h1 : (method (Tryz.prog.types.size + Made.depth) 120 (.pointer (some ⟨d, 0, none⟩)) "Put").run Tryz.prog w = (loadVar 121 ⟨d, 0, none⟩ >>= fun x => pure (152, x)).run Tryz.prog w := by kernel_rfl
  rw [h1]
  clear h1 h
  go_simp
theorem meth_dend {w : World} {d m : Nat} (h : w.heap[d]? = some (.cells #[.pointer (some ⟨m, 0, none⟩)] 126 (0, 0))) : (method (Tryz.prog.types.size + Made.depth) 120 (.pointer (some ⟨d, 0, none⟩)) "End").run Tryz.prog w = .ok (151, .pointer (some ⟨m, 0, none⟩)) w := by
  have hc : w.cell? ⟨d, 0, none⟩ = some (.pointer (some ⟨m, 0, none⟩)) := (blk_cell h 0).trans rfl
  have h1 : (method (Tryz.prog.types.size + Made.depth) 120 (.pointer (some ⟨d, 0, none⟩)) "End").run Tryz.prog w = (loadVar 121 ⟨d, 0, none⟩ >>= fun x => pure (151, x)).run Tryz.prog w := by kernel_rfl
  rw [h1]
  clear h1 h
  go_simp
/-- a machine's reader, by marks: a block that holds the match -/
structure MD (w : World) (f : Nat → Nat) (x d : Nat) (us : List Int) (a : Int) (ns : List S183) (rs : List S150) : Prop where
  blk : ∃ m, w.heap[d]? = some (.cells #[.pointer (some ⟨m, 0, none⟩)] 126 (0, 0)) ∧ Mt w f x m us a ns rs
  fd : f d = 0
theorem MD.ext {T : Nat → Prop} {w w' : World} {f f' : Nat → Nat} {x d : Nat} {us : List Int} {a : Int} {ns : List S183} {rs : List S150} (h : MD w f x d us a ns rs) (e : Ext T w w' f f') (h0 : ¬ T 0) (hx : ¬ T x) : MD w' f' x d us a ns rs := by
  obtain ⟨⟨m, h1, h2⟩, h3⟩ := h
  exact ⟨⟨m, e.blk h1 (by rw [h3]; exact h0), h2.ext e h0 hx⟩, (e.tg h1).trans h3⟩
/-- iscii's reader, by marks -/
structure ID (w : World) (f : Nat → Nat) (x z b : Nat) (s : Int) (us : List Int) (a : Int) (ns : List S183) (rs : List S150) : Prop where
  blk : ∃ d, w.heap[b]? = some (.cells #[.iface 120 (.pointer (some ⟨d, 0, none⟩)), .int .i64 s] 119 (0, 0)) ∧ MD w f z d us a ns rs
  fb : f b = x
theorem ID.ext {T : Nat → Prop} {w w' : World} {f f' : Nat → Nat} {x z b : Nat} {s : Int} {us : List Int} {a : Int} {ns : List S183} {rs : List S150} (h : ID w f x z b s us a ns rs) (e : Ext T w w' f f') (h0 : ¬ T 0) (hx : ¬ T x) (hz : ¬ T z) : ID w' f' x z b s us a ns rs := by
  obtain ⟨⟨d, h1, h2⟩, h3⟩ := h
  exact ⟨⟨d, e.blk h1 (by rw [h3]; exact hx), h2.ext e h0 hz⟩, (e.tg h1).trans h3⟩
theorem id_mid {w w1 w2 : World} {f f1 : Nat → Nat} {x z y b d : Nat} {s s2 : Int} {us : List Int} {a : Int} {ns : List S183} {rs : List S150} {ts : List S66} {v u : Value} {en : Ending} (n : x ≠ 0 ∧ z ≠ 0 ∧ y ≠ 0 ∧ x ≠ y ∧ x ≠ z ∧ z ≠ y) (fd : f d = 0) (g1 : w.heap[d]? = some (.cells #[v] 126 (0, 0)))
    (E : Ext (fun k => k = z) w w1 f f1) (hm : ∃ m, v = .pointer (some ⟨m, 0, none⟩) ∧ Mt w1 f1 z m us a ns rs) (M : MeanP w1 f1 x y b (.iface 120 (.pointer (some ⟨d, 0, none⟩))) u (ts, s2) en w2) :
    Gives (fun k => k = x ∨ k = z ∨ k = y) y w f ts (fun w' f' => ID w' f' x z b s2 us a ns rs) en w2 := by
  obtain ⟨n1, n2, n3, n4, n5, n6⟩ := n
  obtain ⟨m, rfl, hm⟩ := hm
  obtain ⟨f', rfl, e, t, hb, hfb⟩ := M
  have h0 : ¬ ((0 : Nat) = x ∨ 0 = y) := fun h => h.elim (fun h => n1 h.symm) (fun h => n3 h.symm)
  have hd := E.blk g1 (by rw [fd]; exact fun h => n2 h.symm)
  have fd1 := (E.tg g1).trans fd
  refine ⟨u, f', rfl, (E.mono (fun k h => .inr (.inl h))).trans (e.mono (fun k h => h.elim .inl (fun h => .inr (.inr h)))), t, ⟨d, hb, ⟨m, e.blk hd (by rw [fd1]; exact h0), hm.ext e h0 (fun h => h.elim (fun h => n5 h.symm) n6)⟩, (e.tg hd).trans fd1⟩, hfb⟩
set_option maxRecDepth 100000 in
theorem IPut_calls (w : World) (f : Nat → Nat) (x z y b : Nat) (s : Int) (us : List Int) (a u : Int) (ns : List S183) (rs : List S150) (h : ID w f x z b s us a ns rs) (n : x ≠ 0 ∧ z ≠ 0 ∧ y ≠ 0 ∧ x ≠ y ∧ x ≠ z ∧ z ≠ y) (hf : Fit ns rs) (hp : 0 < rs.length) (hl : us.length ≤ 99) :
    Calls Tryz.prog 135 #[.pointer (some ⟨b, 0, none⟩), .int .i64 u] w (Gives (fun k => k = x ∨ k = z ∨ k = y) y w f (meanGo s (putF ns rs us a u).1).1 (fun w' f' => ID w' f' x z b (meanGo s (putF ns rs us a u).1).2 (putF ns rs us a u).2.1 (putF ns rs us a u).2.2 ns rs)) := by
  obtain ⟨⟨d, g1, ⟨m, g2, g3⟩, g4⟩, g5⟩ := h
  have n' := n
  obtain ⟨n1, n2, n3, n4, n5, n6⟩ := n
  have c0 : w.cell? ⟨b, 0, none⟩ = some (.iface 120 (.pointer (some ⟨d, 0, none⟩))) := (blk_cell g1 0).trans rfl
  have h8 := take_outs (fin := false) hf (us.length + 2) (us ++ [u]) a
  have hfew := (take_few ns rs false (us.length + 2) (us ++ [u]) a).1
  have HP := Lib.hid (MPut_calls w f z y m us a u ns rs g3 n2 n3 hf hp hl)
  have hm := Lib.hid (meth_dput g2)
  change ∀ x ∈ (putF ns rs us a u).1, x.f2.length ≤ 8 at h8
  change (putF ns rs us a u).1.length ≤ us.length + 2 at hfew
  replace h8 := Lib.hid h8
  generalize putF ns rs us a u = q at *
  obtain ⟨ts, us2, a2⟩ := q
  dsimp only at *
  have HM := Lib.hid (fun (w1 : World) (f1 : Nat → Nat) (u1 : Value) (E : Ext (fun k => k = z) w w1 f f1) (ht : Toks w1 f1 y u1 ts) => Mean_calls w1 f1 x y b (.iface 120 (.pointer (some ⟨d, 0, none⟩))) s u1 ts (E.blk g1 (by rw [g5]; exact n5)) ((E.tg g1).trans g5) ht ⟨n1, n3, n4⟩ h8.out (by omega))
  have HQ := Lib.hid (fun (w1 w2 : World) (f1 : Nat → Nat) (u1 : Value) (en : Ending) (E : Ext (fun k => k = z) w w1 f f1) (hm : Mt w1 f1 z m us2 a2 ns rs) (M : MeanP w1 f1 x y b (.iface 120 (.pointer (some ⟨d, 0, none⟩))) u1 (meanGo s ts) en w2) => id_mid (s := s) n' g4 g2 E ⟨m, rfl, hm⟩ M)
  replace h8 := ()
  generalize meanGo s ts = q2 at *
  clear g1 g2 g3 g4 g5 n' hf
  go_enter Tryz.func135, Tryz.ntmps135
  go_wp2_with (first
    | ((with_reducible refine gate_invoke (name := "Put") rfl ?_); refine goesI_ (some 11) rfl rfl Tryz.func152 (by kernel_rfl) rfl #[.pointer (some ⟨m, 0, none⟩), .int .i64 u] rfl rfl hm.out (by kernel_rfl) ?_; refine HP.out.mono ?_; rintro e w1 ⟨u1, f1, rfl, E1, T1, M1⟩; refine ⟨_, rfl, ?_⟩; replace E1 := Lib.hid E1; replace T1 := Lib.hid T1; replace M1 := Lib.hid M1)
    | (go_at_call 136; refine (HM.out w1 f1 u1 E1.out T1.out).mono ?_; rintro e w2 M2; have F := Lib.hid (HQ.out w1 w2 f1 u1 e E1.out M1.out M2); obtain ⟨f2, rfl, -⟩ := M2))
  go_ret
  exact F.out
set_option maxRecDepth 100000 in
theorem IEnd_calls (w : World) (f : Nat → Nat) (x z y b : Nat) (s : Int) (us : List Int) (a : Int) (ns : List S183) (rs : List S150) (h : ID w f x z b s us a ns rs) (n : x ≠ 0 ∧ z ≠ 0 ∧ y ≠ 0 ∧ x ≠ y ∧ x ≠ z ∧ z ≠ y) (hf : Fit ns rs) (hp : 0 < rs.length) (hl : us.length ≤ 100) :
    Calls Tryz.prog 133 #[.pointer (some ⟨b, 0, none⟩)] w (Gives (fun k => k = x ∨ k = z ∨ k = y) y w f (meanGo s (endF ns rs us a).1).1 (fun w' f' => ID w' f' x z b (meanGo s (endF ns rs us a).1).2 (endF ns rs us a).2.1 (endF ns rs us a).2.2 ns rs)) := by
  obtain ⟨⟨d, g1, ⟨m, g2, g3⟩, g4⟩, g5⟩ := h
  have n' := n
  obtain ⟨n1, n2, n3, n4, n5, n6⟩ := n
  have c0 : w.cell? ⟨b, 0, none⟩ = some (.iface 120 (.pointer (some ⟨d, 0, none⟩))) := (blk_cell g1 0).trans rfl
  have h8 := take_outs (fin := true) hf (us.length + 1) us a
  have hfew := (take_few ns rs true (us.length + 1) us a).1
  have HP := Lib.hid (MEnd_calls w f z y m us a ns rs g3 n2 n3 hf hp hl)
  have hm := Lib.hid (meth_dend g2)
  change ∀ x ∈ (endF ns rs us a).1, x.f2.length ≤ 8 at h8
  change (endF ns rs us a).1.length ≤ us.length + 1 at hfew
  replace h8 := Lib.hid h8
  generalize endF ns rs us a = q at *
  obtain ⟨ts, us2, a2⟩ := q
  dsimp only at *
  have HM := Lib.hid (fun (w1 : World) (f1 : Nat → Nat) (u1 : Value) (E : Ext (fun k => k = z) w w1 f f1) (ht : Toks w1 f1 y u1 ts) => Mean_calls w1 f1 x y b (.iface 120 (.pointer (some ⟨d, 0, none⟩))) s u1 ts (E.blk g1 (by rw [g5]; exact n5)) ((E.tg g1).trans g5) ht ⟨n1, n3, n4⟩ h8.out (by omega))
  have HQ := Lib.hid (fun (w1 w2 : World) (f1 : Nat → Nat) (u1 : Value) (en : Ending) (E : Ext (fun k => k = z) w w1 f f1) (hm : Mt w1 f1 z m us2 a2 ns rs) (M : MeanP w1 f1 x y b (.iface 120 (.pointer (some ⟨d, 0, none⟩))) u1 (meanGo s ts) en w2) => id_mid (s := s) n' g4 g2 E ⟨m, rfl, hm⟩ M)
  replace h8 := ()
  generalize meanGo s ts = q2 at *
  clear g1 g2 g3 g4 g5 n' hf
  go_enter Tryz.func133, Tryz.ntmps133
  go_wp2_with (first
    | ((with_reducible refine gate_invoke (name := "End") rfl ?_); refine goesI_ (some 8) rfl rfl Tryz.func151 (by kernel_rfl) rfl #[.pointer (some ⟨m, 0, none⟩)] rfl rfl hm.out (by kernel_rfl) ?_; refine HP.out.mono ?_; rintro e w1 ⟨u1, f1, rfl, E1, T1, M1⟩; refine ⟨_, rfl, ?_⟩; replace E1 := Lib.hid E1; replace T1 := Lib.hid T1; replace M1 := Lib.hid M1)
    | (go_at_call 136; refine (HM.out w1 f1 u1 E1.out T1.out).mono ?_; rintro e w2 M2; have F := Lib.hid (HQ.out w1 w2 f1 u1 e E1.out M1.out M2); obtain ⟨f2, rfl, -⟩ := M2))
  go_ret
  exact F.out
end Go.Proofs.YtnfjgopcenpblaaGreatDoor.T
