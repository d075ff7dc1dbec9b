/- Texts of this claim, one behind the other (merged by a program): TU1, TU2, TU3, TU4, TU5. No condition of their own. -/
import Derived.Test.YtnfjgopcenpblaaGreatDoorM10
/- Machines that are called through an interface; the stream's last. No condition beyond the ranges. -/
namespace Go.Proofs.YtnfjgopcenpblaaGreatDoor.T
open Go.RowKit Go.Proofs.YtnfjgopcenpblaaGreatDoorW.PrintWords Go.Proofs.YtnfjgopcenpblaaGreatDoorW.PrintLast Go.Proofs.YtnfjgopcenpblaaGreatDoorW.PrintMore Go.Proofs.YtnfjgopcenpblaaGreatDoor
set_option linter.unusedVariables false
set_option linter.unusedSimpArgs false
/-- a method is found for an interface value, and its call does Q -/
def Inv (name : String) (v : Value) (args : Array Value) (w : World) (Q : Ending → World → Prop) : Prop :=
  ∃ t p rc fid fn, v = .iface t p ∧ (method (Tryz.prog.types.size + Made.depth) t p name).run Tryz.prog w = .ok (fid, rc) w ∧ Tryz.prog.funcs[fid]? = some fn ∧ (fn.name == "runtime.NumGoroutine") = false ∧ fn.body.isSome = true ∧ Calls Tryz.prog fid (#[rc] ++ args) w Q
theorem Inv.mono {name : String} {v : Value} {args : Array Value} {w : World} {Q Q' : Ending → World → Prop} (h : Inv name v args w Q) (hq : ∀ e w', Q e w' → Q' e w') : Inv name v args w Q' := by
  obtain ⟨t, p, rc, fid, fn, h1, h2, h3, h4, h5, h6⟩ := h
  exact ⟨t, p, rc, fid, fn, h1, h2, h3, h4, h5, h6.mono hq⟩
section
variable {ops : Array Oper} {Q : Exit → Act → World → Prop}
theorem goesV_ {rest : List Oper} {oi : Oper} {a : Act} {w : World} (N : Option Tmp) (hd : oi.dst = N) (hg : oi.guard = none) {r : Operand} {name : String} {ar : Array Operand} {ts : Array TypeId} {v : Value} {args : Array Value} {Q1 : Ending → World → Prop}
    (hop : oi.op = .call { callee := .invoke r name, args := ar, argTypes := ts }) (hr : a.eval r = v) (ha : ar.map a.eval = args) (hi : Inv name v args w Q1)
    (h : ∀ e w', Q1 e w' → ∃ v, e = .returned v ∧ wpList Tryz.prog ops Q rest (a.put N v) w') : wpList Tryz.prog ops Q (oi :: rest) a w := by
  obtain ⟨t, p, rc, fid, fn, h1, h2, h3, h4, h5, h6⟩ := hi
  exact goesI_ N hd hg h3 h4 h5 (#[rc] ++ args) hop (hr.trans h1) h2 (by rw [ha]) (h6.mono h)
end
/-- a machine: its states, what it answers, where it lies -/
structure Mach (T : Nat → Prop) (y : Nat) where
  σ : Type
  put : σ → Int → List S66 × σ
  fin : σ → List S66 × σ
  ok : σ → Int → Prop
  okE : σ → Prop
  Rep : World → (Nat → Nat) → σ → Value → Prop
  ext : ∀ {w w' f f' s v T'}, Rep w f s v → Ext T' w w' f f' → ¬ T' 0 → (∀ z, T z → ¬ T' z) → Rep w' f' s v
  hput : ∀ w f s v u, Rep w f s v → ok s u → Inv "Put" v #[.int .i64 u] w (Gives T y w f (put s u).1 (fun w' f' => Rep w' f' (put s u).2 v))
  hfin : ∀ w f s v, Rep w f s v → okE s → Inv "End" v #[] w (Gives T y w f (fin s).1 (fun w' f' => Rep w' f' (fin s).2 v))
def T23 (z : Nat) : Prop := 20 ≤ z ∧ z ≤ 31
structure SSt (σ : Type) where
  out : List Int
  st : Stp
  m : σ
def TS (M : Mach T20 29) (w : World) (f : Nat → Nat) (b : Nat) (c0 c1 vr vw b1 b2 : Value) (q : SSt M.σ) (W : World) : Prop := ∃ f1 vo, Ext T23 w W f f1 ∧ SB W f1 b c0 c1 vr vw vo b1 b2 q.st q.out ∧ M.Rep W f1 q.m vw
def TSP (M : Mach T20 29) (w : World) (f : Nat → Nat) (b : Nat) (c0 c1 vr vw b1 b2 : Value) (q : SSt M.σ) (v : Value) (ts : List S66) (W : World) : Prop := ∃ f1 vo, Ext T23 w W f f1 ∧ SB W f1 b c0 c1 vr vw vo b1 b2 q.st q.out ∧ M.Rep W f1 q.m vw ∧ Toks W f1 29 v ts
section
variable {M : Mach T20 29}
def put1 (M : Mach T20 29) (q : SSt M.σ) (u : Int) : SSt M.σ := ⟨(wrF q.out q.st (M.put q.m u).1).1, (wrF q.out q.st (M.put q.m u).1).2, (M.put q.m u).2⟩
def end1 (M : Mach T20 29) (q : SSt M.σ) : SSt M.σ := ⟨(wrF q.out q.st (M.fin q.m).1).1, (wrF q.out q.st (M.fin q.m).1).2, (M.fin q.m).2⟩
def okPut1 (M : Mach T20 29) (q : SSt M.σ) (u : Int) : Prop := M.ok q.m u ∧ q.out.length + outsLen (M.put q.m u).1 ≤ 1000000
def okEnd1 (M : Mach T20 29) (q : SSt M.σ) : Prop := M.okE q.m ∧ q.out.length + outsLen (M.fin q.m).1 ≤ 1000000
variable {w W W2 : World} {f : Nat → Nat} {b : Nat} {c0 c1 vr vw b1 b2 : Value} {q : SSt M.σ}
theorem TS.ext {T : Nat → Prop} {f1 f2 : Nat → Nat} {vo : Value} (E : Ext T23 w W f f1) (S : SB W f1 b c0 c1 vr vw vo b1 b2 q.st q.out) (R : M.Rep W f1 q.m vw) (e : Ext T W W2 f1 f2) (h : ∀ z, T z → 1 ≤ z ∧ z ≤ 19) : TS M W2 f2 b c0 c1 vr vw b1 b2 q W2 :=
  ⟨f2, vo, Ext.refl _ _ _, S.ext e (fun h1 => by have := h _ h1; omega) (fun h1 => by have := h _ h1; omega), M.ext R e (fun h1 => by have := h _ h1; omega) (fun z hz h1 => by have := h _ h1; unfold T20 at hz; omega)⟩
theorem TS.below (h : TS M w f b c0 c1 vr vw b1 b2 q W) (hb : Below W.heap.size W W2) : TS M w f b c0 c1 vr vw b1 b2 q W2 := by
  obtain ⟨f1, vo, E, S, R⟩ := h
  have hE := Ext.new (T := fun _ => False) (f := f1) 0 hb
  exact ⟨_, vo, E.trans (hE.mono (fun _ h => h.elim)), S.ext hE (fun h => h) (fun h => h), M.ext R hE (fun h => h) (fun _ _ h => h)⟩
theorem TS.cells (h : TS M w f b c0 c1 vr vw b1 b2 q W) : W.cell? ⟨b, 2, none⟩ = some (.int .i64 0) ∧ W.cell? ⟨b, 3, none⟩ = some vr ∧ W.cell? ⟨b, 4, none⟩ = some vw ∧ W.cell? ⟨b, 6, none⟩ = some (.int .i64 q.st.1) ∧ W.cell? ⟨b, 7, none⟩ = some (.int .i64 q.st.2.1) ∧ W.cell? ⟨b, 8, none⟩ = some (.int .i64 q.st.2.2) := by
  obtain ⟨f1, vo, E, S, R⟩ := h
  obtain ⟨a, b, c, d, e, f, g⟩ := S.cells
  exact ⟨a, b, c, e, f, g⟩
theorem TS.frozen (h : TS M w f b c0 c1 vr vw b1 b2 q W) (i : Nat) : W.frozen? ⟨b, i, none⟩ = false := by
  obtain ⟨f1, vo, E, S, R⟩ := h
  exact S.frozen i
theorem TS.stop (h : TS M w f b c0 c1 vr vw b1 b2 q W) (s2 : Stp) (hw : W2 = ((W.setCell ⟨b, 6, none⟩ (.int .i64 s2.1)).setCell ⟨b, 7, none⟩ (.int .i64 s2.2.1)).setCell ⟨b, 8, none⟩ (.int .i64 s2.2.2)) : TS M w f b c0 c1 vr vw b1 b2 ⟨q.out, s2, q.m⟩ W2 := by
  obtain ⟨f1, vo, E, S, R⟩ := h
  obtain ⟨S2, e⟩ := S.stop s2 hw
  exact ⟨f1, vo, E.trans (e.mono (by rintro z h; unfold T23; omega)), S2, M.ext R e (by decide) (fun z hz h => by unfold T20 at hz; omega)⟩
theorem ts_put (h : TS M w f b c0 c1 vr vw b1 b2 q W) (u : Int) (hk : M.ok q.m u) : Inv "Put" vw #[.int .i64 u] W (fun e W2 => ∃ v, e = .returned v ∧ TSP M w f b c0 c1 vr vw b1 b2 ⟨q.out, q.st, (M.put q.m u).2⟩ v (M.put q.m u).1 W2) := by
  obtain ⟨f1, vo, E, S, R⟩ := h
  refine (M.hput W f1 q.m vw u R hk).mono ?_
  rintro e W2 ⟨v, f2, rfl, E2, T2, R2⟩
  exact ⟨v, rfl, f2, vo, E.trans (E2.mono (by rintro z h; unfold T20 at h; unfold T23; omega)), S.ext E2 (by unfold T20; omega) (by unfold T20; omega), R2, T2⟩
theorem ts_fin (h : TS M w f b c0 c1 vr vw b1 b2 q W) (hk : M.okE q.m) : Inv "End" vw #[] W (fun e W2 => ∃ v, e = .returned v ∧ TSP M w f b c0 c1 vr vw b1 b2 ⟨q.out, q.st, (M.fin q.m).2⟩ v (M.fin q.m).1 W2) := by
  obtain ⟨f1, vo, E, S, R⟩ := h
  refine (M.hfin W f1 q.m vw R hk).mono ?_
  rintro e W2 ⟨v, f2, rfl, E2, T2, R2⟩
  exact ⟨v, rfl, f2, vo, E.trans (E2.mono (by rintro z h; unfold T20 at h; unfold T23; omega)), S.ext E2 (by unfold T20; omega) (by unfold T20; omega), R2, T2⟩
theorem ts_written {m2 : M.σ} {v : Value} {ts : List S66} (h : TSP M w f b c0 c1 vr vw b1 b2 ⟨q.out, q.st, m2⟩ v ts W) (hf : q.out.length + outsLen ts ≤ 1000000) :
    Calls Tryz.prog 17 #[.pointer (some ⟨b, 0, none⟩), v] W (fun e W2 => e = .returned (.tuple #[]) ∧ TS M w f b c0 c1 vr vw b1 b2 ⟨(wrF q.out q.st ts).1, (wrF q.out q.st ts).2, m2⟩ W2) := by
  obtain ⟨f1, vo, E, S, R, T⟩ := h
  refine (Written_calls W f1 b 29 c0 c1 vr vw vo b1 b2 v q.st q.out ts S T (by decide) hf).mono ?_
  rintro e W2 ⟨rfl, f2, vo2, E2, S2⟩
  exact ⟨rfl, f2, vo2, E.trans (E2.mono (by rintro z h; unfold T30 at h; unfold T23; omega)), S2, M.ext R E2 (by unfold T30; omega) (fun z hz h => by unfold T20 at hz; unfold T30 at h; omega)⟩
end
end Go.Proofs.YtnfjgopcenpblaaGreatDoor.T

/- The stream's last. No condition beyond the ranges. -/
namespace Go.Proofs.YtnfjgopcenpblaaGreatDoor.T
open Go.RowKit Go.Proofs.YtnfjgopcenpblaaGreatDoorW.PrintWords Go.Proofs.YtnfjgopcenpblaaGreatDoorW.PrintLast Go.Proofs.YtnfjgopcenpblaaGreatDoorW.PrintMore Go.Proofs.YtnfjgopcenpblaaGreatDoor
set_option linter.unusedVariables false
set_option linter.unusedSimpArgs false
theorem Ext.late {T : Nat → Prop} {w W W2 : World} {f f1 : Nat → Nat} (h : Ext T w W f f1) (hs : W.heap.size ≤ W2.heap.size) (hk : ∀ k, k < w.heap.size → W2.heap[k]? = W.heap[k]?) (he : W2.os = W.os ∧ W2.tape = W.tape ∧ W2.output = W.output) : Ext T w W2 f f1 :=
  ⟨Nat.le_trans h.size hs, h.tag, fun k hl hn => (hk k hl).trans (h.keep k hl hn), he.1.trans h.os, he.2.1.trans h.tape, he.2.2.trans h.output⟩
theorem ext_set {W : World} {f : Nat → Nat} {g i n : Nat} {x : Value} (hf : f g = n) : Ext (fun z => z = n) W (W.setCell ⟨g, i, none⟩ x) f f :=
  ⟨by simp [World.setCell], fun _ _ => rfl, fun k hk hn => Below.heap_setCell W ⟨g, i, none⟩ x k (fun he => hn (by rw [show k = g from he]; exact hf)), rfl, rfl, rfl⟩
section
variable {M : Mach T20 29}
/-- what stands at last's end: both its own variables are new, the answer lies in the first -/
theorem last_end {w w3 W W2 : World} {f fo f5 : Nat → Nat} {b : Nat} {c0 c1 vr vw b1 b2 : Value} {z : SSt M.σ} {r : Stp} (E : Ext T23 w w f fo) (hs : w.heap.size ≤ w3.heap.size) (hf5 : ∀ k, k < w.heap.size → f5 k = fo k) (hk : ∀ k, k < w.heap.size → fo k ≠ 30 → w3.heap[k]? = w.heap[k]?) (he : w3.os = w.os ∧ w3.tape = w.tape ∧ w3.output = w.output)
    (hg : f5 w.heap.size = 32) (hl : w.heap.size < w3.heap.size) (h : TS M w3 f5 b c0 c1 vr vw b1 b2 z W) (hw : W2 = ((W.setCell ⟨w.heap.size, 0, none⟩ (.int .i64 r.1)).setCell ⟨w.heap.size, 1, none⟩ (.int .i64 r.2.1)).setCell ⟨w.heap.size, 2, none⟩ (.int .i64 r.2.2)) :
    TS M w f b c0 c1 vr vw b1 b2 z W2 := by
  obtain ⟨f6, vo, E6, S6, R6⟩ := h
  have hg6 : f6 w.heap.size = 32 := (E6.tag _ hl).trans hg
  have e : Ext (fun z => z = 32) W W2 f6 f6 := by
    subst hw
    exact ((ext_set hg6).trans (ext_set hg6)).trans (ext_set hg6)
  refine ⟨f6, vo, ?_, S6.ext e (by decide) (by decide), M.ext R6 e (by decide) (fun z hz h => by unfold T20 at hz; omega)⟩
  refine ⟨Nat.le_trans hs (Nat.le_trans E6.size e.size), fun k hk1 => ((E6.tag k (by omega)).trans (hf5 k hk1)).trans (E.tag k hk1), fun k hk1 hn => ?_, e.os.trans (E6.os.trans (he.1)), e.tape.trans (E6.tape.trans (he.2.1)), e.output.trans (E6.output.trans (he.2.2))⟩
  have h1 : f5 k = f k := (hf5 k hk1).trans (E.tag k hk1)
  have h2 : f6 k = f k := (E6.tag k (by omega)).trans h1
  have h3 : f k ≠ 30 := fun h => hn (by rw [h]; unfold T23; omega)
  have h4 : k ≠ w.heap.size := by omega
  have h5 : W2.heap[k]? = W.heap[k]? := by
    subst hw
    exact ((Below.heap_setCell _ ⟨w.heap.size, 2, none⟩ _ k h4).trans (Below.heap_setCell _ ⟨w.heap.size, 1, none⟩ _ k h4)).trans (Below.heap_setCell _ ⟨w.heap.size, 0, none⟩ _ k h4)
  exact h5.trans ((E6.keep k (by omega) (by rw [h1]; exact hn)).trans (hk k hk1 (by rw [E.tag k hk1]; exact h3)))
theorem TS.old {w W : World} {f : Nat → Nat} {b : Nat} {c0 c1 vr vw b1 b2 : Value} {q : SSt M.σ} (h : TS M w f b c0 c1 vr vw b1 b2 q W) {k n : Nat} (hk : k < w.heap.size) (hf : f k = n) (hn : ¬ T23 n) : W.heap[k]? = w.heap[k]? := by
  obtain ⟨f1, vo, E, S, R⟩ := h
  exact E.keep k hk (by rw [hf]; exact hn)
set_option maxRecDepth 100000 in
theorem Last_calls (w : World) (f : Nat → Nat) (b : Nat) (c0 c1 vr vw b1 b2 : Value) (q : SSt M.σ) (h : TS M w f b c0 c1 vr vw b1 b2 q w) (hk : okEnd1 M ⟨q.out, (0, 0, 0), q.m⟩) (z : SSt M.σ) (hz : end1 M ⟨q.out, (0, 0, 0), q.m⟩ = z) (r : Stp) (hr : (if z.st.2.2 ≠ 0 then z.st else q.st) = r) :
    Calls Tryz.prog 24 #[.pointer (some ⟨b, 0, none⟩)] w (fun e W => e = .returned (.agg #[.int .i64 r.1, .int .i64 r.2.1, .int .i64 r.2.2]) ∧ TS M w f b c0 c1 vr vw b1 b2 z W) := by
  obtain ⟨fo, vo, E, S, R⟩ := h
  obtain ⟨out, ⟨s0, s1, s2⟩, m⟩ := q
  dsimp only at S R hk hz hr
  have hb2 : Below w.heap.size w ((w.alloc (.cells #[.int .i64 0, .int .i64 0, .int .i64 0] 30)).alloc (.cells #[.int .i64 s0, .int .i64 s1, .int .i64 s2] 30)) := below_alloc (below_alloc (Below.refl _ _) _) _
  have k2 := blk_below (blk_new w (.cells #[.int .i64 0, .int .i64 0, .int .i64 0] 30)) (below_alloc (Below.refl (w.alloc (.cells #[.int .i64 0, .int .i64 0, .int .i64 0] 30)).heap.size _) (.cells #[.int .i64 s0, .int .i64 s1, .int .i64 s2] 30))
  have k3 := blk_new (w.alloc (.cells #[.int .i64 0, .int .i64 0, .int .i64 0] 30)) (.cells #[.int .i64 s0, .int .i64 s1, .int .i64 s2] 30)
  rw [show (w.alloc (.cells #[.int .i64 0, .int .i64 0, .int .i64 0] 30)).heap.size = w.heap.size + 1 by simp] at k3
  have e5 := Ext.new (T := fun _ => False) (f := fo) 32 hb2
  have S5 := S.ext e5 (fun h => h) (fun h => h)
  have R5 := M.ext R e5 (fun h => h) (fun _ _ h => h)
  obtain ⟨S6, e6⟩ := S5.stop (0, 0, 0) rfl
  have R6 := M.ext R5 e6 (by decide) (fun z hz h => by unfold T20 at hz; omega)
  have TS0 : TS M ((((((w.alloc (.cells #[.int .i64 0, .int .i64 0, .int .i64 0] 30)).alloc (.cells #[.int .i64 s0, .int .i64 s1, .int .i64 s2] 30)).setCell ⟨b, 6, none⟩ (.int .i64 0)).setCell ⟨b, 7, none⟩ (.int .i64 0)).setCell ⟨b, 8, none⟩ (.int .i64 0))) (newF fo w.heap.size 32) b c0 c1 vr vw b1 b2 ⟨out, (0, 0, 0), m⟩ ((((((w.alloc (.cells #[.int .i64 0, .int .i64 0, .int .i64 0] 30)).alloc (.cells #[.int .i64 s0, .int .i64 s1, .int .i64 s2] 30)).setCell ⟨b, 6, none⟩ (.int .i64 0)).setCell ⟨b, 7, none⟩ (.int .i64 0)).setCell ⟨b, 8, none⟩ (.int .i64 0))) := ⟨_, vo, Ext.refl _ _ _, S6, R6⟩
  have HI := Lib.hid (ts_fin TS0 hk.1)
  have hfew := hk.2
  have hbn : b ≠ w.heap.size := by have := blk_lt S.blk; omega
  have hbn3 : b ≠ w.heap.size + 1 := by have := blk_lt S.blk; omega
  have hsz : ((((((w.alloc (.cells #[.int .i64 0, .int .i64 0, .int .i64 0] 30)).alloc (.cells #[.int .i64 s0, .int .i64 s1, .int .i64 s2] 30)).setCell ⟨b, 6, none⟩ (.int .i64 0)).setCell ⟨b, 7, none⟩ (.int .i64 0)).setCell ⟨b, 8, none⟩ (.int .i64 0))).heap.size = w.heap.size + 2 := by simp [World.setCell]
  have k2' : ((((((w.alloc (.cells #[.int .i64 0, .int .i64 0, .int .i64 0] 30)).alloc (.cells #[.int .i64 s0, .int .i64 s1, .int .i64 s2] 30)).setCell ⟨b, 6, none⟩ (.int .i64 0)).setCell ⟨b, 7, none⟩ (.int .i64 0)).setCell ⟨b, 8, none⟩ (.int .i64 0))).heap[w.heap.size]? = some (.cells #[.int .i64 0, .int .i64 0, .int .i64 0] 30 (0, 0)) := (((Below.heap_setCell _ ⟨b, 8, none⟩ _ _ hbn.symm).trans (Below.heap_setCell _ ⟨b, 7, none⟩ _ _ hbn.symm)).trans (Below.heap_setCell _ ⟨b, 6, none⟩ _ _ hbn.symm)).trans k2
  have k3' : ((((((w.alloc (.cells #[.int .i64 0, .int .i64 0, .int .i64 0] 30)).alloc (.cells #[.int .i64 s0, .int .i64 s1, .int .i64 s2] 30)).setCell ⟨b, 6, none⟩ (.int .i64 0)).setCell ⟨b, 7, none⟩ (.int .i64 0)).setCell ⟨b, 8, none⟩ (.int .i64 0))).heap[w.heap.size + 1]? = some (.cells #[.int .i64 s0, .int .i64 s1, .int .i64 s2] 30 (0, 0)) := (((Below.heap_setCell _ ⟨b, 8, none⟩ _ _ hbn3.symm).trans (Below.heap_setCell _ ⟨b, 7, none⟩ _ _ hbn3.symm)).trans (Below.heap_setCell _ ⟨b, 6, none⟩ _ _ hbn3.symm)).trans k3
  have f2' : newF fo w.heap.size 32 w.heap.size = 32 := newF_new (Nat.le_refl _)
  have f3' : newF fo w.heap.size 32 (w.heap.size + 1) = 32 := newF_new (by omega)
  have hold : ∀ k, k < w.heap.size → fo k ≠ 30 → ((((((w.alloc (.cells #[.int .i64 0, .int .i64 0, .int .i64 0] 30)).alloc (.cells #[.int .i64 s0, .int .i64 s1, .int .i64 s2] 30)).setCell ⟨b, 6, none⟩ (.int .i64 0)).setCell ⟨b, 7, none⟩ (.int .i64 0)).setCell ⟨b, 8, none⟩ (.int .i64 0))).heap[k]? = w.heap[k]? := fun k hk hn => (e6.keep k (by have := hb2.size; omega) (by rw [newF_old hk]; exact hn)).trans (hb2.block k hk)
  have henv : ((((((w.alloc (.cells #[.int .i64 0, .int .i64 0, .int .i64 0] 30)).alloc (.cells #[.int .i64 s0, .int .i64 s1, .int .i64 s2] 30)).setCell ⟨b, 6, none⟩ (.int .i64 0)).setCell ⟨b, 7, none⟩ (.int .i64 0)).setCell ⟨b, 8, none⟩ (.int .i64 0))).os = w.os ∧ ((((((w.alloc (.cells #[.int .i64 0, .int .i64 0, .int .i64 0] 30)).alloc (.cells #[.int .i64 s0, .int .i64 s1, .int .i64 s2] 30)).setCell ⟨b, 6, none⟩ (.int .i64 0)).setCell ⟨b, 7, none⟩ (.int .i64 0)).setCell ⟨b, 8, none⟩ (.int .i64 0))).tape = w.tape ∧ ((((((w.alloc (.cells #[.int .i64 0, .int .i64 0, .int .i64 0] 30)).alloc (.cells #[.int .i64 s0, .int .i64 s1, .int .i64 s2] 30)).setCell ⟨b, 6, none⟩ (.int .i64 0)).setCell ⟨b, 7, none⟩ (.int .i64 0)).setCell ⟨b, 8, none⟩ (.int .i64 0))).output = w.output := ⟨e6.os.trans hb2.os, e6.tape.trans hb2.tape, e6.output.trans hb2.output⟩
  have HF := Lib.hid (fun (W W2 : World) (h : TS M ((((((w.alloc (.cells #[.int .i64 0, .int .i64 0, .int .i64 0] 30)).alloc (.cells #[.int .i64 s0, .int .i64 s1, .int .i64 s2] 30)).setCell ⟨b, 6, none⟩ (.int .i64 0)).setCell ⟨b, 7, none⟩ (.int .i64 0)).setCell ⟨b, 8, none⟩ (.int .i64 0))) (newF fo w.heap.size 32) b c0 c1 vr vw b1 b2 z W) hw => last_end (W2 := W2) (r := r) E (by omega) (fun k hk => newF_old hk) hold henv f2' (by omega) h hw)
  have HK := Lib.hid (fun (W : World) (h : TS M ((((((w.alloc (.cells #[.int .i64 0, .int .i64 0, .int .i64 0] 30)).alloc (.cells #[.int .i64 s0, .int .i64 s1, .int .i64 s2] 30)).setCell ⟨b, 6, none⟩ (.int .i64 0)).setCell ⟨b, 7, none⟩ (.int .i64 0)).setCell ⟨b, 8, none⟩ (.int .i64 0))) (newF fo w.heap.size 32) b c0 c1 vr vw b1 b2 z W) => (⟨(h.old (by omega) f2' (by unfold T23; omega)).trans k2', (h.old (by omega) f3' (by unfold T23; omega)).trans k3'⟩ : W.heap[w.heap.size]? = some (.cells #[.int .i64 0, .int .i64 0, .int .i64 0] 30 (0, 0)) ∧ W.heap[w.heap.size + 1]? = some (.cells #[.int .i64 s0, .int .i64 s1, .int .i64 s2] 30 (0, 0))))
  have HW := fun (v : Value) (W : World) (h : TSP M ((((((w.alloc (.cells #[.int .i64 0, .int .i64 0, .int .i64 0] 30)).alloc (.cells #[.int .i64 s0, .int .i64 s1, .int .i64 s2] 30)).setCell ⟨b, 6, none⟩ (.int .i64 0)).setCell ⟨b, 7, none⟩ (.int .i64 0)).setCell ⟨b, 8, none⟩ (.int .i64 0))) (newF fo w.heap.size 32) b c0 c1 vr vw b1 b2 ⟨out, (0, 0, 0), (M.fin m).2⟩ v (M.fin m).1 W) => ts_written (q := ⟨out, (0, 0, 0), m⟩) h hfew
  change ∀ v W, TSP M ((((((w.alloc (.cells #[.int .i64 0, .int .i64 0, .int .i64 0] 30)).alloc (.cells #[.int .i64 s0, .int .i64 s1, .int .i64 s2] 30)).setCell ⟨b, 6, none⟩ (.int .i64 0)).setCell ⟨b, 7, none⟩ (.int .i64 0)).setCell ⟨b, 8, none⟩ (.int .i64 0))) (newF fo w.heap.size 32) b c0 c1 vr vw b1 b2 ⟨out, (0, 0, 0), (M.fin m).2⟩ v (M.fin m).1 W → Calls Tryz.prog 17 #[.pointer (some ⟨b, 0, none⟩), v] W (fun e W2 => e = .returned (.tuple #[]) ∧ TS M ((((((w.alloc (.cells #[.int .i64 0, .int .i64 0, .int .i64 0] 30)).alloc (.cells #[.int .i64 s0, .int .i64 s1, .int .i64 s2] 30)).setCell ⟨b, 6, none⟩ (.int .i64 0)).setCell ⟨b, 7, none⟩ (.int .i64 0)).setCell ⟨b, 8, none⟩ (.int .i64 0))) (newF fo w.heap.size 32) b c0 c1 vr vw b1 b2 (end1 M ⟨out, (0, 0, 0), m⟩) W2) at HW
  rw [hz] at HW
  replace HW := Lib.hid HW
  have S1 := S.ext (Ext.new (T := fun _ => False) (f := fo) 32 (below_alloc (Below.refl w.heap.size w) (.cells #[.int .i64 0, .int .i64 0, .int .i64 0] 30))) (fun h => h) (fun h => h)
  obtain ⟨-, -, -, -, m6, m7, m8⟩ := S1.cells
  obtain ⟨-, -, n4, -, n6, n7, n8⟩ := S5.cells
  have g4 : ((((((w.alloc (.cells #[.int .i64 0, .int .i64 0, .int .i64 0] 30)).alloc (.cells #[.int .i64 s0, .int .i64 s1, .int .i64 s2] 30)).setCell ⟨b, 6, none⟩ (.int .i64 0)).setCell ⟨b, 7, none⟩ (.int .i64 0)).setCell ⟨b, 8, none⟩ (.int .i64 0))).cell? ⟨b, 4, none⟩ = some vw := S6.cells.2.2.1
  have g6 := S5.frozen 6
  have g7 := S5.frozen 7
  have g8 := S5.frozen 8
  clear hold henv k2' k3' k2 k3 hsz hfew S6 R6 e6 S5 R5 e5 S1 S R E hb2 TS0 f2' f3' hz hk hbn hbn3
  obtain ⟨zo, ⟨z0, z1, z2⟩, zm⟩ := z
  dsimp only at hr
  by_cases h0 : z2 = 0
  · subst h0
    rw [if_neg (by simp)] at hr
    subst hr
    go_enter Tryz.func24, Tryz.ntmps24
    go_wp2_with (first
      | ((with_reducible refine gate_invoke (name := "End") rfl ?_); refine goesV_ (args := #[]) (v := vw) (some 17) rfl rfl rfl rfl (by kernel_rfl) HI.out ?_; rintro e w4 ⟨v4, rfl, P4⟩; refine ⟨_, rfl, ?_⟩; replace P4 := Lib.hid P4; clear HI)
      | (go_at_call 17; refine (HW.out v4 w4 P4.out).mono ?_; rintro e w5 ⟨rfl, P5⟩; obtain ⟨x2, x3⟩ := HK.out w5 P5; obtain ⟨-, -, -, q6, q7, q8⟩ := P5.cells; have y0 := blk_frozen x2 0; have y1 := blk_frozen x2 1; have y2 := blk_frozen x2 2; have u0 : w5.cell? ⟨w.heap.size, 0, none⟩ = some (.int .i64 0) := (blk_cell x2 0).trans rfl; have u1 : w5.cell? ⟨w.heap.size, 1, none⟩ = some (.int .i64 0) := (blk_cell x2 1).trans rfl; have u2 : w5.cell? ⟨w.heap.size, 2, none⟩ = some (.int .i64 0) := (blk_cell x2 2).trans rfl; have t0 : w5.cell? ⟨w.heap.size + 1, 0, none⟩ = some (.int .i64 s0) := (blk_cell x3 0).trans rfl; have t1 : w5.cell? ⟨w.heap.size + 1, 1, none⟩ = some (.int .i64 s1) := (blk_cell x3 1).trans rfl; have t2 : w5.cell? ⟨w.heap.size + 1, 2, none⟩ = some (.int .i64 s2) := (blk_cell x3 2).trans rfl; have PE := Lib.hid (HF.out w5 _ P5 rfl); clear HF HW HK P4 P5 x2 x3 m6 m7 m8 n4 n6 n7 n8 g4 g6 g7 g8))
    refine bodyPost_ret (v := .agg #[.int .i64 s0, .int .i64 s1, .int .i64 s2]) ?_ rfl ⟨rfl, PE.out⟩
    simp only [results, show Tryz.f24.results = #[ResultVar.cell 2 30] from rfl]
    go_simp
  · have d0 : (z2 == 0) = false := beq_eq_false_iff_ne.mpr h0
    rw [if_pos h0] at hr
    subst hr
    go_enter Tryz.func24, Tryz.ntmps24
    go_wp2_with (first
      | ((with_reducible refine gate_invoke (name := "End") rfl ?_); refine goesV_ (args := #[]) (v := vw) (some 17) rfl rfl rfl rfl (by kernel_rfl) HI.out ?_; rintro e w4 ⟨v4, rfl, P4⟩; refine ⟨_, rfl, ?_⟩; replace P4 := Lib.hid P4; clear HI)
      | (go_at_call 17; refine (HW.out v4 w4 P4.out).mono ?_; rintro e w5 ⟨rfl, P5⟩; obtain ⟨x2, x3⟩ := HK.out w5 P5; obtain ⟨-, -, -, q6, q7, q8⟩ := P5.cells; have y0 := blk_frozen x2 0; have y1 := blk_frozen x2 1; have y2 := blk_frozen x2 2; have u0 : w5.cell? ⟨w.heap.size, 0, none⟩ = some (.int .i64 0) := (blk_cell x2 0).trans rfl; have u1 : w5.cell? ⟨w.heap.size, 1, none⟩ = some (.int .i64 0) := (blk_cell x2 1).trans rfl; have u2 : w5.cell? ⟨w.heap.size, 2, none⟩ = some (.int .i64 0) := (blk_cell x2 2).trans rfl; have t0 : w5.cell? ⟨w.heap.size + 1, 0, none⟩ = some (.int .i64 s0) := (blk_cell x3 0).trans rfl; have t1 : w5.cell? ⟨w.heap.size + 1, 1, none⟩ = some (.int .i64 s1) := (blk_cell x3 1).trans rfl; have t2 : w5.cell? ⟨w.heap.size + 1, 2, none⟩ = some (.int .i64 s2) := (blk_cell x3 2).trans rfl; have PE := Lib.hid (HF.out w5 _ P5 rfl); clear HF HW HK P4 P5 x2 x3 m6 m7 m8 n4 n6 n7 n8 g4 g6 g7 g8))
    refine bodyPost_ret (v := .agg #[.int .i64 z0, .int .i64 z1, .int .i64 z2]) ?_ rfl ⟨rfl, PE.out⟩
    simp only [results, show Tryz.f24.results = #[ResultVar.cell 2 30] from rfl]
    go_simp
end
end Go.Proofs.YtnfjgopcenpblaaGreatDoor.T

/- The stream's taken. No condition beyond the ranges. -/
namespace Go.Proofs.YtnfjgopcenpblaaGreatDoor.T
open Go.RowKit Go.Proofs.YtnfjgopcenpblaaGreatDoorW.PrintWords Go.Proofs.YtnfjgopcenpblaaGreatDoorW.PrintLast Go.Proofs.YtnfjgopcenpblaaGreatDoorW.PrintMore Go.Proofs.YtnfjgopcenpblaaGreatDoor
set_option linter.unusedVariables false
set_option linter.unusedSimpArgs false
section
variable {M : Mach T20 29}
def tkPuts (M : Mach T20 29) : SSt M.σ → List Int → SSt M.σ
  | q, [] => q
  | q, u :: us => tkPuts M (if q.st.2.2 = 0 then put1 M q u else q) us
def okPuts (M : Mach T20 29) : SSt M.σ → List Int → Prop
  | _, [] => True
  | q, u :: us => (q.st.2.2 = 0 → okPut1 M q u) ∧ okPuts M (if q.st.2.2 = 0 then put1 M q u else q) us
def last1 (M : Mach T20 29) (q : SSt M.σ) (t : S66) : SSt M.σ := ⟨(end1 M ⟨q.out, (0, 0, 0), q.m⟩).out, if (end1 M ⟨q.out, (0, 0, 0), q.m⟩).st.2.2 ≠ 0 then (end1 M ⟨q.out, (0, 0, 0), q.m⟩).st else (1, t.f0, t.f3), (end1 M ⟨q.out, (0, 0, 0), q.m⟩).m⟩
def tkF (M : Mach T20 29) : SSt M.σ → List S66 → SSt M.σ
  | q, [] => q
  | q, t :: ts => if t.f3 = 0 then tkF M (tkPuts M q t.f2) ts else if q.st.2.2 = 0 then last1 M q t else tkF M q ts
def okTk (M : Mach T20 29) : SSt M.σ → List S66 → Prop
  | _, [] => True
  | q, t :: ts => if t.f3 = 0 then okPuts M q t.f2 ∧ okTk M (tkPuts M q t.f2) ts else if q.st.2.2 = 0 then okEnd1 M ⟨q.out, (0, 0, 0), q.m⟩ else okTk M q ts
structure TkN (M : Mach T20 29) (ts : List S66) (z : SSt M.σ) (kq i : Nat) (q : SSt M.σ) : Prop where
  le : i ≤ ts.length
  fuel : ts.length + 1 = kq + i
  ans : tkF M q (ts.drop i) = z
  ok : okTk M q (ts.drop i)
theorem TkN.good {ts : List S66} {z q : SSt M.σ} {kq i : Nat} {x : S66} (h : TkN M ts z (kq + 1) i q) (hi : i < ts.length) (hx : rd_T66 ts i = x) (h1 : x.f3 = 0) : TkN M ts z kq (i + 1) (tkPuts M q x.f2) ∧ okPuts M q x.f2 := by
  obtain ⟨a, b, c, d⟩ := h
  rw [tok_drop hi, hx] at c d
  rw [tkF, if_pos h1] at c
  rw [okTk, if_pos h1] at d
  exact ⟨⟨hi, by omega, c, d.2⟩, d.1⟩
theorem TkN.skip {ts : List S66} {z q : SSt M.σ} {kq i : Nat} {x : S66} (h : TkN M ts z (kq + 1) i q) (hi : i < ts.length) (hx : rd_T66 ts i = x) (h1 : x.f3 ≠ 0) (h2 : q.st.2.2 ≠ 0) : TkN M ts z kq (i + 1) q := by
  obtain ⟨a, b, c, d⟩ := h
  rw [tok_drop hi, hx] at c d
  rw [tkF, if_neg h1, if_neg h2] at c
  rw [okTk, if_neg h1, if_neg h2] at d
  exact ⟨hi, by omega, c, d⟩
theorem TkN.bad {ts : List S66} {z q : SSt M.σ} {kq i : Nat} {x : S66} (h : TkN M ts z (kq + 1) i q) (hi : i < ts.length) (hx : rd_T66 ts i = x) (h1 : x.f3 ≠ 0) (h2 : q.st.2.2 = 0) : last1 M q x = z ∧ okEnd1 M ⟨q.out, (0, 0, 0), q.m⟩ := by
  obtain ⟨a, b, c, d⟩ := h
  rw [tok_drop hi, hx] at c d
  rw [tkF, if_neg h1, if_pos h2] at c
  rw [okTk, if_neg h1, if_pos h2] at d
  exact ⟨c, d⟩
theorem wrap_nat {j : Nat} (h : (j : Int) < 9223372036854775807) : wrap64 ((j : Int) + 1) = ((j + 1 : Nat) : Int) := by unfold wrap64; omega
structure PtN (M : Mach T20 29) (is : List Int) (z : SSt M.σ) (kq j : Nat) (q : SSt M.σ) : Prop where
  le : j ≤ is.length
  fuel : is.length + 1 = kq + j
  ans : tkPuts M q (is.drop j) = z
  ok : okPuts M q (is.drop j)
theorem PtN.next {is : List Int} {z q : SSt M.σ} {kq j : Nat} {u : Int} (h : PtN M is z (kq + 1) j q) (hj : j < is.length) (hu : is[j] = u) : PtN M is z kq (j + 1) (if q.st.2.2 = 0 then put1 M q u else q) ∧ (q.st.2.2 = 0 → okPut1 M q u) := by
  obtain ⟨a, b, c, d⟩ := h
  rw [List.drop_eq_getElem_cons hj, hu] at c d
  rw [tkPuts] at c
  rw [okPuts] at d
  exact ⟨⟨hj, by omega, c, d.2⟩, d.1⟩
variable {w w5 W W2 : World} {f f5 : Nat → Nat} {b : Nat} {c0 c1 vr vw b1 b2 : Value} {q : SSt M.σ}
theorem TS.rebase (E : Ext T23 w w5 f f5) (h : TS M w5 f5 b c0 c1 vr vw b1 b2 q W) : TS M w f b c0 c1 vr vw b1 b2 q W := by
  obtain ⟨f1, vo, E1, S, R⟩ := h
  exact ⟨f1, vo, E.trans E1, S, R⟩
theorem TS.intz {vi : Value} {is : List Int} (h : TS M w5 f5 b c0 c1 vr vw b1 b2 q W) (hv : IntZ w5 f5 vi is) : ∃ f1, IntZ W f1 vi is := by
  obtain ⟨f1, vo, E1, S, R⟩ := h
  exact ⟨f1, IntZ.ext hv E1 (by unfold T23; omega)⟩
theorem ts_wrong (h : TS M w f b c0 c1 vr vw b1 b2 q W) (a0 a1 a3 : Int) (A : Option Addr) (n c : Nat) :
    Calls Tryz.prog 23 #[.pointer (some ⟨b, 0, none⟩), .int .i64 1, .agg #[.int .i64 a0, .int .i64 a1, .slice A n c, .int .i64 a3]] W (fun e W2 => e = .returned (.bool true) ∧ TS M w f b c0 c1 vr vw b1 b2 ⟨q.out, (1, a0, a3), q.m⟩ W2) := by
  obtain ⟨f1, vo, E, S, R⟩ := h
  refine (Wrong_calls W f1 b c0 c1 vr vw vo b1 b2 q.st q.out 1 a0 a1 a3 A n c S).mono ?_
  rintro e W2 ⟨rfl, f2, E2, S2⟩
  exact ⟨rfl, f2, vo, E.trans (E2.mono (by rintro z h; unfold T23; omega)), S2, M.ext R E2 (by decide) (fun z hz h => by unfold T20 at hz; omega)⟩
theorem last_at (b : Nat) (c0 c1 vr vw b1 b2 : Value) (q : SSt M.σ) (h : TS M w f b c0 c1 vr vw b1 b2 q W) (hk : okEnd1 M ⟨q.out, (0, 0, 0), q.m⟩) (z : SSt M.σ) (hz : end1 M ⟨q.out, (0, 0, 0), q.m⟩ = z) (r : Stp) (hr : (if z.st.2.2 ≠ 0 then z.st else q.st) = r) :
    Calls Tryz.prog 24 #[.pointer (some ⟨b, 0, none⟩)] W (fun e W2 => e = .returned (.agg #[.int .i64 r.1, .int .i64 r.2.1, .int .i64 r.2.2]) ∧ TS M w f b c0 c1 vr vw b1 b2 z W2) := by
  obtain ⟨f1, vo, E, S, R⟩ := h
  refine (Last_calls W f1 b c0 c1 vr vw b1 b2 q ⟨f1, vo, Ext.refl _ _ _, S, R⟩ hk z hz r hr).mono ?_
  rintro e W2 ⟨he, P⟩
  exact ⟨he, P.rebase E⟩
/-- the box of a token: a world and marks to start from -/
theorem ts_box (h : TS M w f b c0 c1 vr vw b1 b2 q W) (hb : Below W.heap.size W W2) {vi : Value} {is : List Int} {y : Nat} {u : Value} {ts : List S66} (ht : Toks w f y u ts) (hy : y ≠ 0 ∧ ¬ T23 y) (hv : ∀ f1, Ext T23 w W f f1 → Toks W f1 y u ts → IntZ W f1 vi is) :
    ∃ f5, Ext T23 w W2 f f5 ∧ TS M W2 f5 b c0 c1 vr vw b1 b2 q W2 ∧ IntZ W2 f5 vi is ∧ (∀ k, W.heap.size ≤ k → f5 k = 32) := by
  obtain ⟨f1, vo, E, S, R⟩ := h
  have hE := Ext.new (T := fun _ => False) (f := f1) 32 hb
  exact ⟨newF f1 W.heap.size 32, E.trans (hE.mono (fun _ h => h.elim)), ⟨_, vo, Ext.refl _ _ _, S.ext hE (fun h => h) (fun h => h), M.ext R hE (fun h => h) (fun _ _ h => h)⟩, IntZ.ext (hv f1 E (ht.ext E (by unfold T23; omega) hy.2)) hE (fun h => h), fun k hk => newF_new hk⟩
set_option maxRecDepth 100000 in
set_option maxHeartbeats 1000000 in
theorem Taken_calls (w : World) (f : Nat → Nat) (b : Nat) (c0 c1 vr vw b1 b2 u : Value) (q : SSt M.σ) (ts : List S66) (y : Nat) (h : TS M w f b c0 c1 vr vw b1 b2 q w) (ht : Toks w f y u ts) (hy : y ≠ 0 ∧ ¬ T23 y) (hk : okTk M q ts) (hn : ts.length ≤ 1000000) :
    Calls Tryz.prog 16 #[.pointer (some ⟨b, 0, none⟩), u] w (fun e w' => e = .returned (.tuple #[]) ∧ TS M w f b c0 c1 vr vw b1 b2 (tkF M q ts) w') := by
  obtain ⟨A, c, rfl, _, hrd⟩ := ht.rd
  replace hn := Lib.hid hn
  clear hrd
  have N := Lib.hid (show TkN M ts (tkF M q ts) (ts.length + 1) 0 q from ⟨Nat.zero_le _, rfl, rfl, hk⟩)
  have S := Lib.hid h
  replace ht := Lib.hid ht
  generalize tkF M q ts = z at *
  clear h hk
  go_enter Tryz.func16, Tryz.ntmps16
  go_wp2
  go_loopg [11] (ts.length + 1) (fun kq v w' => ∃ (i : Nat) (q : SSt M.σ), v = .int .i64 i ∧ Hid (TS M w f b c0 c1 vr vw b1 b2 q w') ∧ Hid (TkN M ts z kq i q))
  case atStart => exact ⟨0, _, rfl, S, N⟩
  case round =>
    clear S N
    obtain ⟨i, q, rfl, S, N⟩ := hrel
    have i1 := N.out.fuel
    cases gk with
    | zero => exact absurd i1 (by have := N.out.le; omega)
    | succ gk =>
      by_cases hi : i < ts.length
      · have di := lt_dec hi
        have p0 := nat_tr i
        have p1 := lt_tr hi
        obtain ⟨g, Ao, co, rfl, z0, z1, z2, z3, hv⟩ : ∃ g Ao co, A = some ⟨g, 0, none⟩ ∧ wr.cell? ⟨g, i * 4, none⟩ = some (.int .i64 (rd_T66 ts i).f0) ∧ wr.cell? ⟨g, i * 4 + 1, none⟩ = some (.int .i64 (rd_T66 ts i).f1) ∧
            wr.cell? ⟨g, i * 4 + 2, none⟩ = some (.slice Ao (rd_T66 ts i).f2.length co) ∧ wr.cell? ⟨g, i * 4 + 3, none⟩ = some (.int .i64 (rd_T66 ts i).f3) ∧ (∀ f1, Ext T23 w wr f f1 → Toks wr f1 y (.slice A ts.length c) ts → IntZ wr f1 (.slice Ao (rd_T66 ts i).f2.length co) (rd_T66 ts i).f2) := by
          obtain ⟨f1, vo, E1, S1, R1⟩ := S.out
          obtain ⟨g, Ao, co, h0, h1, h2, h3, h4, h5⟩ := tok_read (ht.out.ext E1 (by unfold T23; omega) hy.2) hy.1 hi
          refine ⟨g, Ao, co, h0, h1, h2, h3, h4, fun f2 E2 T2 => ?_⟩
          obtain ⟨g', Ao', co', h0', h1', h2', h3', h4', h5'⟩ := tok_read T2 hy.1 hi
          have hgg : g' = g := by rw [h0] at h0'; injection h0' with h; injection h with h _; exact h.symm
          subst hgg
          have := h3.symm.trans h3'
          injection this with this
          rw [this]
          exact h5'
        obtain ⟨x, hx⟩ : ∃ x, rd_T66 ts i = x := ⟨_, rfl⟩
        rw [hx] at z0 z1 z2 z3 hv
        obtain ⟨x0, x1, x2, x3⟩ := x
        dsimp only at z0 z1 z2 z3 hv
        have hb5 : Below wr.heap.size wr (wr.alloc (.cells #[.int .i64 x0, .int .i64 x1, .slice Ao x2.length co, .int .i64 x3] 66)) := below_alloc (Below.refl _ _) _
        have kb := blk_new wr (.cells #[.int .i64 x0, .int .i64 x1, .slice Ao x2.length co, .int .i64 x3] 66)
        obtain ⟨f5, E5, S5, V5, hf5⟩ := ts_box S.out hb5 ht.out hy hv
        have k0 : (wr.alloc (.cells #[.int .i64 x0, .int .i64 x1, .slice Ao x2.length co, .int .i64 x3] 66)).cell? ⟨wr.heap.size, 0, none⟩ = some (.int .i64 x0) := (blk_cell kb 0).trans rfl
        have k1 : (wr.alloc (.cells #[.int .i64 x0, .int .i64 x1, .slice Ao x2.length co, .int .i64 x3] 66)).cell? ⟨wr.heap.size, 1, none⟩ = some (.int .i64 x1) := (blk_cell kb 1).trans rfl
        have k2 : (wr.alloc (.cells #[.int .i64 x0, .int .i64 x1, .slice Ao x2.length co, .int .i64 x3] 66)).cell? ⟨wr.heap.size, 2, none⟩ = some (.slice Ao x2.length co) := (blk_cell kb 2).trans rfl
        have k3 : (wr.alloc (.cells #[.int .i64 x0, .int .i64 x1, .slice Ao x2.length co, .int .i64 x3] 66)).cell? ⟨wr.heap.size, 3, none⟩ = some (.int .i64 x3) := (blk_cell kb 3).trans rfl
        obtain ⟨m2, m3, m4, m6, m7, m8⟩ := S5.cells
        obtain ⟨out, ⟨s0, s1, s2⟩, m⟩ := q
        dsimp only at m6 m7 m8
        by_cases h1 : x3 = 0
        · subst h1
          obtain ⟨NX, hkP⟩ := N.out.good hi hx rfl
          dsimp only at NX hkP
          have PT := Lib.hid (show PtN M x2 (tkPuts M ⟨out, (s0, s1, s2), m⟩ x2) (x2.length + 1) 0 ⟨out, (s0, s1, s2), m⟩ from ⟨Nat.zero_le _, rfl, rfl, hkP⟩)
          generalize tkPuts M ⟨out, (s0, s1, s2), m⟩ x2 = qz at *
          have hbx := hf5 wr.heap.size (Nat.le_refl _)
          have hbl : wr.heap.size < (wr.alloc (.cells #[.int .i64 x0, .int .i64 x1, .slice Ao x2.length co, .int .i64 0] 66)).heap.size := by simp
          have HC := Lib.hid (fun (q : SSt M.σ) (W : World) (P : TS M (wr.alloc (.cells #[.int .i64 x0, .int .i64 x1, .slice Ao x2.length co, .int .i64 0] 66)) f5 b c0 c1 vr vw b1 b2 q W) => (World.cell?_of_block (a := ⟨wr.heap.size, 3, none⟩) (P.old hbl hbx (by unfold T23; omega))).trans k3)
          replace S5 := Lib.hid S5
          replace E5 := Lib.hid E5
          replace V5 := Lib.hid V5
          replace NX := Lib.hid NX
          clear hv S N hb5 kb hf5 hbx hbl i1 hkP
          go_wp2
          generalize (wr.alloc (.cells #[.int .i64 x0, .int .i64 x1, .slice Ao x2.length co, .int .i64 0] 66)) = w5 at *
          obtain ⟨ko, rfl⟩ : ∃ ko, ko = gk := ⟨_, rfl⟩
          obtain ⟨wo, rfl⟩ : ∃ wo, wo = wr := ⟨_, rfl⟩
          clear z0 z1 z2 z3 k0 k1 k2 k3 m2 m3 m4 m6 m7 m8
          go_loopg [28] (x2.length + 1) (fun kq v w' => ∃ (j : Nat) (q : SSt M.σ), v = .int .i64 j ∧ Hid (TS M w5 f5 b c0 c1 vr vw b1 b2 q w') ∧ Hid (PtN M x2 qz kq j q))
          case atStart => exact ⟨0, _, rfl, S5, PT⟩
          case round =>
            clear S5 PT
            obtain ⟨j, ⟨out, ⟨s0, s1, s2⟩, m⟩, rfl, P, J⟩ := hrel
            have i2 := J.out.fuel
            obtain ⟨-, -, m4, -, -, m8⟩ := P.out.cells
            dsimp only at m8
            cases gk with
            | zero => exact absurd i2 (by have := J.out.le; omega)
            | succ gk =>
              by_cases hj : j < x2.length
              · have dj := lt_dec hj
                have q0 := nat_tr j
                have q1 := lt_tr hj
                obtain ⟨f2, V2⟩ := P.out.intz V5.out
                have hrd := Kd.reads_of_C (d := (0 : Int)) (enc := Value.int .i64) (h1 := fun _ => rfl) (Kd.R_reads' V2).2.2
                obtain ⟨ad, rfl, hc⟩ := hrd.2.2 (by omega)
                have hxx := hc j hj
                have hg : x2.getD j 0 = x2[j] := by rw [List.getD_eq_getElem?_getD, List.getElem?_eq_getElem hj]; rfl
                have hJ := J.out.next hj rfl
                rw [hg] at hxx
                have hj9 := Lib.hid (show (j : Int) < 9223372036854775807 by have := hrd.2.1; omega)
                clear hc hg hrd V2 J
                generalize x2[j] = u at *
                obtain ⟨JN, hok⟩ := hJ
                dsimp only at JN hok
                by_cases h3 : s2 = 0
                · subst h3
                  rw [if_pos rfl] at JN
                  have hok := hok rfl
                  have HI := Lib.hid (ts_put P.out u hok.1)
                  have HW := Lib.hid (fun v W (h : TSP M w5 f5 b c0 c1 vr vw b1 b2 ⟨out, (s0, s1, 0), (M.put m u).2⟩ v (M.put m u).1 W) => ts_written (q := ⟨out, (s0, s1, 0), m⟩) h hok.2)
                  replace JN := Lib.hid JN
                  unfold put1 at JN
                  dsimp only at JN
                  clear hok
                  go_wp2_with (first
                    | ((with_reducible refine gate_invoke (name := "Put") rfl ?_); refine goesV_ (args := #[.int .i64 u]) (v := vw) (some 44) rfl rfl rfl rfl (by kernel_rfl) HI.out ?_; rintro e w6 ⟨v6, rfl, P6⟩; refine ⟨_, rfl, ?_⟩; replace P6 := Lib.hid P6; clear HI hxx m4 m8)
                    | (go_at_call 17; refine (HW.out v6 w6 P6.out).mono ?_; rintro e w7 ⟨rfl, P7⟩; replace P7 := Lib.hid P7))
                  go_roundg gk
                  case measure => omega
                  case rel => exact ⟨j + 1, _, congrArg (Value.int .i64) (wrap_nat hj9.out), P7, JN⟩
                · rw [if_neg h3] at JN
                  have d3 : (s2 == 0) = false := beq_eq_false_iff_ne.mpr h3
                  replace JN := Lib.hid JN
                  clear hok
                  go_wp2
                  go_roundg gk
                  case measure => omega
                  case rel => exact ⟨j + 1, _, congrArg (Value.int .i64) (wrap_nat hj9.out), P, JN⟩
              · have dj := nlt_dec hj
                have hqz : qz = ⟨out, (s0, s1, s2), m⟩ := by
                  have h := J.out.ans
                  rw [List.drop_eq_nil_of_le (by omega), tkPuts] at h
                  exact h.symm
                subst hqz
                have k3 := HC.out _ _ P.out
                have PE := Lib.hid (TS.rebase E5.out P.out)
                clear P J HC
                go_wp2
                go_roundg ko
                case measure => omega
                case rel => exact ⟨i + 1, _, congrArg (Value.int .i64) (wrap_nat (by have := hn.out; omega)), PE, NX⟩
        · have d1 : (x3 == 0) = false := beq_eq_false_iff_ne.mpr h1
          by_cases h2 : s2 = 0
          · subst h2
            obtain ⟨hz, hkE⟩ := N.out.bad hi hx h1 rfl
            have PX := TS.rebase E5 S5
            have HW := Lib.hid (fun W (P : TS M w f b c0 c1 vr vw b1 b2 ⟨out, (s0, s1, 0), m⟩ W) => ts_wrong P x0 x1 x3 Ao x2.length co)
            have HL := fun (W : World) (P : TS M w f b c0 c1 vr vw b1 b2 ⟨out, (1, x0, x3), m⟩ W) => last_at b c0 c1 vr vw b1 b2 ⟨out, (1, x0, x3), m⟩ P hkE _ rfl _ rfl
            unfold last1 at hz
            dsimp only at hz hkE HL
            generalize end1 M ⟨out, (0, 0, 0), m⟩ = ze at *
            replace HL := Lib.hid HL
            replace hz := Lib.hid hz
            replace PX := Lib.hid PX
            have hr : ∃ r : Stp, (if ze.st.2.2 ≠ 0 then ze.st else (1, x0, x3)) = r := ⟨_, rfl⟩
            obtain ⟨⟨r0, r1, r2⟩, hr⟩ := hr
            replace HL := HL.out
            replace hz := hz.out
            rw [hr] at HL hz
            dsimp only at HL
            replace HL := Lib.hid HL
            subst hz
            clear S5 E5 V5 hv S N hb5 kb hf5 i1 hkE hr
            go_wp2
            generalize (wr.alloc (.cells #[.int .i64 x0, .int .i64 x1, .slice Ao x2.length co, .int .i64 x3] 66)) = w5 at *
            clear z0 z1 z2 z3
            go_loopg [28] 1 (fun kq v w' => v = .int .i64 0 ∧ w' = w5)
            case atStart => exact ⟨rfl, rfl⟩
            case round =>
              obtain ⟨rfl, rfl⟩ := hrel
              go_wp2_with (first
                | (go_at_call 23; refine (HW.out _ PX.out).mono ?_; rintro e w6 ⟨rfl, P6⟩; replace P6 := Lib.hid P6; clear k0 k1 k2 k3 m2 m3 m4 m6 m7 m8)
                | (go_at_call 24; refine (HL.out w6 P6.out).mono ?_; rintro e w7 ⟨rfl, P7⟩; obtain ⟨-, -, -, n6, n7, n8⟩ := P7.cells; have y6 := P7.frozen 6; have y7 := P7.frozen 7; have y8 := P7.frozen 8; have PE := Lib.hid (P7.stop (r0, r1, r2) rfl); clear P7))
              ((try simp only [Exit.inBlock, Exit.then]); refine bodyPost_ret (results_none rfl _ _ _) rfl ?_)
              exact ⟨rfl, PE.out⟩
          · have d2 : (s2 == 0) = false := beq_eq_false_iff_ne.mpr h2
            have NX := Lib.hid (N.out.skip hi hx h1 h2)
            have PX := Lib.hid (TS.rebase E5 S5)
            clear S5 E5 V5 hv S N hb5 kb hf5 i1
            go_wp2
            generalize (wr.alloc (.cells #[.int .i64 x0, .int .i64 x1, .slice Ao x2.length co, .int .i64 x3] 66)) = w5 at *
            obtain ⟨ko, rfl⟩ : ∃ ko, ko = gk := ⟨_, rfl⟩
            clear z0 z1 z2 z3
            go_loopg [28] 1 (fun kq v w' => v = .int .i64 0 ∧ w' = w5)
            case atStart => exact ⟨rfl, rfl⟩
            case round =>
              obtain ⟨rfl, rfl⟩ := hrel
              have hi63 : (i : Int) < 1000001 := by have := hn.out; omega
              go_wp2
              go_roundg ko
              case measure => omega
              case rel => exact ⟨i + 1, _, rfl, PX, NX⟩
      · have di := nlt_dec hi
        have hz : z = q := by
          have h := N.out.ans
          rw [List.drop_eq_nil_of_le (by omega), tkF] at h
          exact h.symm
        subst hz
        clear N
        go_wp2
        go_end0
        exact ⟨rfl, S.out⟩
end
end Go.Proofs.YtnfjgopcenpblaaGreatDoor.T

/- The stream's Reset and Open. No condition beyond the ranges. -/
namespace Go.Proofs.YtnfjgopcenpblaaGreatDoor.T
open Go.RowKit Go.Proofs.YtnfjgopcenpblaaGreatDoorW.PrintWords Go.Proofs.YtnfjgopcenpblaaGreatDoorW.PrintLast Go.Proofs.YtnfjgopcenpblaaGreatDoorW.PrintMore Go.Proofs.YtnfjgopcenpblaaGreatDoor
set_option linter.unusedVariables false
set_option linter.unusedSimpArgs false
def T10 (z : Nat) : Prop := 10 ≤ z ∧ z < 20
/-- a codec's reader and writer, made by their names -/
def DecS (R : Mach T10 19) (name : ByteArray) (r0 : R.σ) : Prop := ∀ w f, Calls Tryz.prog 32 #[.string name] w (fun e w' => ∃ t p f', e = .returned (.tuple #[.iface t p, .int .i64 0]) ∧ Ext (fun _ => False) w w' f f' ∧ R.Rep w' f' r0 (.iface t p))
def EncS (M : Mach T20 29) (name : ByteArray) (m0 : M.σ) : Prop := ∀ w f, Calls Tryz.prog 33 #[.string name] w (fun e w' => ∃ t p f', e = .returned (.tuple #[.iface t p, .int .i64 0]) ∧ Ext (fun _ => False) w w' f f' ∧ M.Rep w' f' m0 (.iface t p))
def NameS (name : ByteArray) : Prop := ∀ w, Calls Tryz.prog 21 #[.string name] w (fun e w' => e = .returned (.tuple #[.string name, .int .i64 0]) ∧ Below w.heap.size w w')
section
variable {R : Mach T10 19} {M : Mach T20 29}
/-- a block of the stream's alone is stored into -/
theorem rs_set {W : World} {f : Nat → Nat} {b i : Nat} {x : Value} {cs cs' : Array Value} (h : W.heap[b]? = some (.cells cs 53 (0, 0))) (hf : f b = 30) (hi : cs.set! i x = cs') : (W.setCell ⟨b, i, none⟩ x).heap[b]? = some (.cells cs' 53 (0, 0)) ∧ Ext (fun z => z = 30) W (W.setCell ⟨b, i, none⟩ x) f f :=
  ⟨blk_put h i x hi, ext_set hf⟩
def z53 (n1 n2 vr vw : Value) : Array Value := #[n1, n2, .int .i64 0, vr, vw, .slice none 0 0, .int .i64 0, .int .i64 0, .int .i64 0, .bool false, .bool false]
set_option maxRecDepth 100000 in
theorem Reset_calls (w : World) (f : Nat → Nat) (b : Nat) (n1 n2 : ByteArray) (r0 : R.σ) (m0 : M.σ) (h : w.heap[b]? = some (.cells (z53 (.string n1) (.string n2) .nilIface .nilIface) 53 (0, 0))) (hf : f b = 30) (hd : DecS R n1 r0) (he : EncS M n2 m0) :
    Calls Tryz.prog 22 #[.pointer (some ⟨b, 0, none⟩)] w (fun e w' => e = .returned (.tuple #[]) ∧ ∃ vr vw f', Ext (fun z => z = 30) w w' f f' ∧ SB w' f' b (.string n1) (.string n2) vr vw (.slice none 0 0) (.bool false) (.bool false) (0, 0, 0) [] ∧ R.Rep w' f' r0 vr ∧ M.Rep w' f' m0 vw) := by
  have c0 : w.cell? ⟨b, 0, none⟩ = some (.string n1) := (blk_cell h 0).trans rfl
  have c1 : w.cell? ⟨b, 1, none⟩ = some (.string n2) := (blk_cell h 1).trans rfl
  have H1 := Lib.hid h
  replace hd := Lib.hid hd
  replace he := Lib.hid he
  clear h
  go_enter Tryz.func22, Tryz.ntmps22
  go_wp2_with (first
    | (go_at_call 32; refine (hd.out w f).mono ?_; rintro e w1 ⟨t1, p1, f1, rfl, E1, R1⟩; have k1 := E1.blk H1.out (fun h => h); have hb1 := (E1.tg H1.out).trans hf; have x0 : w1.cell? ⟨b, 3, none⟩ = some .nilIface := (blk_cell k1 3).trans rfl; have y0 := blk_frozen k1 3; clear c0 c1)
    | ((with_reducible refine gate_store (t := 51) (p := 12) rfl ?_); refine store_event (t := 51) (p := 12) (v := .tmp 9) (w1 := w1.setCell ⟨b, 3, none⟩ (.iface t1 p1)) ?hg ?ho ?hn ?hr ?_; (case ho => rfl); (case hg => rfl); (case hn => rfl); (case hr => first | (go_simp; done) | (go_simp; rfl)); intro w2 hw; obtain ⟨k2, E2⟩ := rs_set (i := 3) (x := .iface t1 p1) (cs' := z53 (.string n1) (.string n2) (.iface t1 p1) .nilIface) k1 hb1 rfl; rw [← hw] at k2 E2; have R2 := Lib.hid (R.ext R1 E2 (by decide) (fun z hz h => by unfold T10 at hz; omega)); have hb2 := (E2.tg k1).trans hb1; have K2 := Lib.hid k2; have E12 := Lib.hid ((E1.mono (fun _ h => h.elim)).trans E2); have c1 : w2.cell? ⟨b, 1, none⟩ = some (.string n2) := (blk_cell k2 1).trans rfl; clear x0 y0 hw k1 k2 E1 E2 R1 hb1)
    | (go_at_call 33; refine (he.out w2 f1).mono ?_; rintro e w3 ⟨t2, p2, f3, rfl, E3, R3⟩; have k3 := E3.blk K2.out (fun h => h); have hb3 := (E3.tg K2.out).trans hb2; have RR3 := Lib.hid (R.ext R2.out E3 (fun h => h) (fun _ _ h => h)); have x0 : w3.cell? ⟨b, 4, none⟩ = some .nilIface := (blk_cell k3 4).trans rfl; have y0 := blk_frozen k3 4; replace E3 := Lib.hid (E12.out.trans (E3.mono (fun _ h => h.elim))); clear c1)
    | ((with_reducible refine gate_store (t := 51) (p := 23) rfl ?_); refine store_event (t := 51) (p := 23) (v := .tmp 20) (w1 := w3.setCell ⟨b, 4, none⟩ (.iface t2 p2)) ?hg ?ho ?hn ?hr ?_; (case ho => rfl); (case hg => rfl); (case hn => rfl); (case hr => first | (go_simp; done) | (go_simp; rfl)); intro w4 hw; obtain ⟨k4, E4⟩ := rs_set (i := 4) (x := .iface t2 p2) (cs' := z53 (.string n1) (.string n2) (.iface t1 p1) (.iface t2 p2)) k3 hb3 rfl; rw [← hw] at k4 E4; have M4 := Lib.hid (M.ext R3 E4 (by decide) (fun z hz h => by unfold T20 at hz; omega)); have R4 := Lib.hid (R.ext RR3.out E4 (by decide) (fun z hz h => by unfold T10 at hz; omega)); have hb4 := (E4.tg k3).trans hb3; have K4 := Lib.hid k4; replace E4 := Lib.hid (E3.out.trans E4); have c5 : w4.cell? ⟨b, 5, none⟩ = some (.slice none 0 0) := (blk_cell k4 5).trans rfl; have c6 : w4.cell? ⟨b, 6, none⟩ = some (.int .i64 0) := (blk_cell k4 6).trans rfl; have c7 : w4.cell? ⟨b, 7, none⟩ = some (.int .i64 0) := (blk_cell k4 7).trans rfl; have c8 : w4.cell? ⟨b, 8, none⟩ = some (.int .i64 0) := (blk_cell k4 8).trans rfl; have c9 : w4.cell? ⟨b, 9, none⟩ = some (.bool false) := (blk_cell k4 9).trans rfl; have c10 : w4.cell? ⟨b, 10, none⟩ = some (.bool false) := (blk_cell k4 10).trans rfl; have y5 := blk_frozen k4 5; have y6 := blk_frozen k4 6; have y7 := blk_frozen k4 7; have y8 := blk_frozen k4 8; have y9 := blk_frozen k4 9; have y10 := blk_frozen k4 10; clear x0 y0 hw k3 k4 E3 R3 hb3 RR3 K2 R2 E12 hb2))
  go_end0
  refine ⟨rfl, .iface t1 p1, .iface t2 p2, f3, ?_⟩
  have k4 := K4.out
  obtain ⟨k5, e5⟩ := rs_set (i := 5) (x := .slice none 0 0) (cs' := z53 (.string n1) (.string n2) (.iface t1 p1) (.iface t2 p2)) k4 hb4 rfl
  obtain ⟨k6, e6⟩ := rs_set (i := 6) (x := .int .i64 0) (cs' := z53 (.string n1) (.string n2) (.iface t1 p1) (.iface t2 p2)) k5 hb4 rfl
  obtain ⟨k7, e7⟩ := rs_set (i := 7) (x := .int .i64 0) (cs' := z53 (.string n1) (.string n2) (.iface t1 p1) (.iface t2 p2)) k6 hb4 rfl
  obtain ⟨k8, e8⟩ := rs_set (i := 8) (x := .int .i64 0) (cs' := z53 (.string n1) (.string n2) (.iface t1 p1) (.iface t2 p2)) k7 hb4 rfl
  obtain ⟨k9, e9⟩ := rs_set (i := 9) (x := .bool false) (cs' := z53 (.string n1) (.string n2) (.iface t1 p1) (.iface t2 p2)) k8 hb4 rfl
  obtain ⟨k10, e10⟩ := rs_set (i := 10) (x := .bool false) (cs' := z53 (.string n1) (.string n2) (.iface t1 p1) (.iface t2 p2)) k9 hb4 rfl
  have e := ((((e5.trans e6).trans e7).trans e8).trans e9).trans e10
  exact ⟨E4.out.trans e, ⟨k10, hb4, own_nil _ _ _ _, fun k hk => by simp [Value.ownBlock] at hk⟩, R.ext R4.out e (by decide) (fun z hz h => by unfold T10 at hz; omega), M.ext M4.out e (by decide) (fun z hz h => by unfold T20 at hz; omega)⟩
theorem Open_calls (w : World) (f : Nat → Nat) (n1 n2 : ByteArray) (r0 : R.σ) (m0 : M.σ) (hn1 : NameS n1) (hn2 : NameS n2) (hd : DecS R n1 r0) (he : EncS M n2 m0) :
    Calls Tryz.prog 15 #[.string n1, .string n2, .int .i64 0] w (fun e w' => ∃ b vr vw f', e = .returned (.tuple #[.pointer (some ⟨b, 0, none⟩), .int .i64 0]) ∧ Ext (fun z => z = 30) w w' f f' ∧ SB w' f' b (.string n1) (.string n2) vr vw (.slice none 0 0) (.bool false) (.bool false) (0, 0, 0) [] ∧ R.Rep w' f' r0 vr ∧ M.Rep w' f' m0 vw) := by
  replace hn1 := Lib.hid hn1
  replace hn2 := Lib.hid hn2
  replace hd := Lib.hid hd
  replace he := Lib.hid he
  go_enter Tryz.func15, Tryz.ntmps15
  go_wp2_with (first
    | (go_at_call 21; refine (hn1.out w).mono ?_; rintro e w1 ⟨rfl, hb1⟩; replace hb1 := Lib.hid hb1; clear hn1)
    | (go_at_call 21; refine (hn2.out w1).mono ?_; rintro e w2 ⟨rfl, hb2⟩; replace hb2 := Lib.hid (below_step hb1.out hb2); clear hn2)
    | (go_at_call 22; have hb3 := below_alloc hb2.out (.cells (z53 (.string n1) (.string n2) .nilIface .nilIface) 53); have k3 := blk_new w2 (.cells (z53 (.string n1) (.string n2) .nilIface .nilIface) 53); have hE := Lib.hid (Ext.new (T := fun z => z = 30) (f := f) 30 hb3); refine (Reset_calls _ (newF f w.heap.size 30) w2.heap.size n1 n2 r0 m0 k3 (newF_new hb2.out.size) hd.out he.out).mono ?_; rintro e w4 ⟨rfl, vr, vw, f4, E4, S4, R4, M4⟩; replace E4 := Lib.hid (hE.out.trans E4); replace S4 := Lib.hid S4; replace R4 := Lib.hid R4; replace M4 := Lib.hid M4; clear hb3 k3))
  go_ret2
  exact ⟨_, _, _, _, rfl, E4.out, S4.out, R4.out, M4.out⟩
end
end Go.Proofs.YtnfjgopcenpblaaGreatDoor.T

/- The stream's All. No condition beyond the ranges. -/
namespace Go.Proofs.YtnfjgopcenpblaaGreatDoor.T
open Go.RowKit Go.Proofs.YtnfjgopcenpblaaGreatDoorW.PrintWords Go.Proofs.YtnfjgopcenpblaaGreatDoorW.PrintLast Go.Proofs.YtnfjgopcenpblaaGreatDoorW.PrintMore Go.Proofs.YtnfjgopcenpblaaGreatDoor
set_option linter.unusedVariables false
set_option linter.unusedSimpArgs false
def T12 (z : Nat) : Prop := 10 ≤ z ∧ z ≤ 31
section
variable {R : Mach T10 19} {M : Mach T20 29}
structure ASt (R : Mach T10 19) (M : Mach T20 29) where
  r : R.σ
  q : SSt M.σ
def rd1 (a : ASt R M) (c : Int) : ASt R M := ⟨(R.put a.r c).2, tkF M a.q (R.put a.r c).1⟩
def rdE (a : ASt R M) : ASt R M := ⟨(R.fin a.r).2, tkF M a.q (R.fin a.r).1⟩
def okRd1 (a : ASt R M) (c : Int) : Prop := R.ok a.r c ∧ (R.put a.r c).1.length ≤ 1000000 ∧ okTk M a.q (R.put a.r c).1
def okRdE (a : ASt R M) : Prop := R.okE a.r ∧ (R.fin a.r).1.length ≤ 1000000 ∧ okTk M a.q (R.fin a.r).1
/-- at the input's end -/
def allE (a : ASt R M) : SSt M.σ := if (rdE a).q.st.2.2 = 0 then end1 M (rdE a).q else (rdE a).q
def okAllE (a : ASt R M) : Prop := okRdE a ∧ ((rdE a).q.st.2.2 = 0 → okEnd1 M (rdE a).q)
def allF : ASt R M → List Int → SSt M.σ
  | a, [] => allE a
  | a, c :: cs => if (rd1 a c).q.st.2.2 ≠ 0 then (rd1 a c).q else allF (rd1 a c) cs
def okAll : ASt R M → List Int → Prop
  | a, [] => okAllE a
  | a, c :: cs => okRd1 a c ∧ ((rd1 a c).q.st.2.2 = 0 → okAll (rd1 a c) cs)
structure AlN (bs : List Int) (z : SSt M.σ) (kq i : Nat) (a : ASt R M) : Prop where
  le : i ≤ bs.length
  fuel : bs.length + 1 = kq + i
  ans : allF a (bs.drop i) = z
  ok : okAll a (bs.drop i)
theorem AlN.next {bs : List Int} {z : SSt M.σ} {kq i : Nat} {a : ASt R M} {c : Int} (h : AlN bs z (kq + 1) i a) (hi : i < bs.length) (hc : bs[i] = c) : okRd1 a c ∧ ((rd1 a c).q.st.2.2 = 0 → AlN bs z kq (i + 1) (rd1 a c)) ∧ ((rd1 a c).q.st.2.2 ≠ 0 → (rd1 a c).q = z) := by
  obtain ⟨h1, h2, h3, h4⟩ := h
  rw [List.drop_eq_getElem_cons hi, hc] at h3 h4
  rw [allF] at h3
  rw [okAll] at h4
  refine ⟨h4.1, fun h0 => ⟨hi, by omega, ?_, h4.2 h0⟩, fun h0 => ?_⟩
  · rwa [if_neg (by simpa using h0)] at h3
  · rwa [if_pos h0] at h3
/-- the whole stream's state -/
def AS (w : World) (f : Nat → Nat) (b : Nat) (c0 c1 vr vw b1 b2 : Value) (a : ASt R M) (W : World) : Prop :=
  ∃ f1 vo, Ext T12 w W f f1 ∧ SB W f1 b c0 c1 vr vw vo b1 b2 a.q.st a.q.out ∧ M.Rep W f1 a.q.m vw ∧ R.Rep W f1 a.r vr
/-- behind the reader's call -/
def ASP (w : World) (f : Nat → Nat) (b : Nat) (c0 c1 vr vw b1 b2 : Value) (q : SSt M.σ) (r : R.σ) (v : Value) (ts : List S66) (W : World) : Prop :=
  ∃ f1, Ext T12 w W f f1 ∧ TS M W f1 b c0 c1 vr vw b1 b2 q W ∧ R.Rep W f1 r vr ∧ Toks W f1 19 v ts
variable {w W : World} {f : Nat → Nat} {b : Nat} {c0 c1 vr vw b1 b2 : Value} {a : ASt R M}
theorem as_inv {name : String} {args : Array Value} {r2 : R.σ} {ts : List S66} (h : AS w f b c0 c1 vr vw b1 b2 a W) (hi : ∀ f1, R.Rep W f1 a.r vr → Inv name vr args W (Gives T10 19 W f1 ts (fun w' f' => R.Rep w' f' r2 vr))) :
    Inv name vr args W (fun e W2 => ∃ v, e = .returned v ∧ ASP w f b c0 c1 vr vw b1 b2 a.q r2 v ts W2) := by
  obtain ⟨f1, vo, E, S, RM, RR⟩ := h
  refine (hi f1 RR).mono ?_
  rintro e W2 ⟨v, f2, rfl, E2, T2, R2⟩
  exact ⟨v, rfl, f2, E.trans (E2.mono (by rintro z h; unfold T10 at h; unfold T12; omega)), ⟨f2, vo, Ext.refl _ _ _, S.ext E2 (by unfold T10; omega) (by unfold T10; omega), M.ext RM E2 (by unfold T10; omega) (fun z hz h => by unfold T20 at hz; unfold T10 at h; omega)⟩, R2, T2⟩
theorem as_put (h : AS w f b c0 c1 vr vw b1 b2 a W) (c : Int) (hk : R.ok a.r c) : Inv "Put" vr #[.int .i64 c] W (fun e W2 => ∃ v, e = .returned v ∧ ASP w f b c0 c1 vr vw b1 b2 a.q (R.put a.r c).2 v (R.put a.r c).1 W2) :=
  as_inv h (fun f1 hR => R.hput W f1 a.r vr c hR hk)
theorem as_fin (h : AS w f b c0 c1 vr vw b1 b2 a W) (hk : R.okE a.r) : Inv "End" vr #[] W (fun e W2 => ∃ v, e = .returned v ∧ ASP w f b c0 c1 vr vw b1 b2 a.q (R.fin a.r).2 v (R.fin a.r).1 W2) :=
  as_inv h (fun f1 hR => R.hfin W f1 a.r vr hR hk)
theorem as_taken {q : SSt M.σ} {r : R.σ} {v : Value} {ts : List S66} (h : ASP w f b c0 c1 vr vw b1 b2 q r v ts W) (hk : okTk M q ts) (hn : ts.length ≤ 1000000) :
    Calls Tryz.prog 16 #[.pointer (some ⟨b, 0, none⟩), v] W (fun e W2 => e = .returned (.tuple #[]) ∧ AS w f b c0 c1 vr vw b1 b2 (⟨r, tkF M q ts⟩ : ASt R M) W2) := by
  obtain ⟨f1, E, S, RR, T⟩ := h
  refine (Taken_calls W f1 b c0 c1 vr vw b1 b2 v q ts 19 S T ⟨by decide, by unfold T23; omega⟩ hk hn).mono ?_
  rintro e W2 ⟨rfl, f2, vo, E2, S2, R2⟩
  exact ⟨rfl, f2, vo, E.trans (E2.mono (by rintro z h; unfold T23 at h; unfold T12; omega)), S2, R2, R.ext RR E2 (by unfold T23; omega) (fun z hz h => by unfold T10 at hz; unfold T23 at h; omega)⟩
/-- the writer's end -/
def AWP (w : World) (f : Nat → Nat) (b : Nat) (c0 c1 vr vw b1 b2 : Value) (q : SSt M.σ) (m : M.σ) (v : Value) (ts : List S66) (W : World) : Prop :=
  ∃ f1, Ext T12 w W f f1 ∧ TSP M W f1 b c0 c1 vr vw b1 b2 ⟨q.out, q.st, m⟩ v ts W
theorem as_wfin (h : AS w f b c0 c1 vr vw b1 b2 a W) (hk : M.okE a.q.m) : Inv "End" vw #[] W (fun e W2 => ∃ v, e = .returned v ∧ AWP w f b c0 c1 vr vw b1 b2 a.q (M.fin a.q.m).2 v (M.fin a.q.m).1 W2) := by
  obtain ⟨f1, vo, E, S, RM, RR⟩ := h
  refine (M.hfin W f1 a.q.m vw RM hk).mono ?_
  rintro e W2 ⟨v, f2, rfl, E2, T2, R2⟩
  exact ⟨v, rfl, f2, E.trans (E2.mono (by rintro z h; unfold T20 at h; unfold T12; omega)), f2, vo, Ext.refl _ _ _, S.ext E2 (by unfold T20; omega) (by unfold T20; omega), R2, T2⟩
def AEnd (w : World) (f : Nat → Nat) (b : Nat) (c0 c1 vr vw b1 b2 : Value) (q : SSt M.σ) (W : World) : Prop := ∃ f1, Ext T12 w W f f1 ∧ TS M W f1 b c0 c1 vr vw b1 b2 q W
theorem as_end (h : AS w f b c0 c1 vr vw b1 b2 a W) : AEnd w f b c0 c1 vr vw b1 b2 a.q W := by
  obtain ⟨f1, vo, E, S, RM, RR⟩ := h
  exact ⟨f1, E, f1, vo, Ext.refl _ _ _, S, RM⟩
theorem as_wend {q : SSt M.σ} {m : M.σ} {v : Value} {ts : List S66} (h : AWP w f b c0 c1 vr vw b1 b2 q m v ts W) (hf : q.out.length + outsLen ts ≤ 1000000) :
    Calls Tryz.prog 17 #[.pointer (some ⟨b, 0, none⟩), v] W (fun e W2 => e = .returned (.tuple #[]) ∧ AEnd w f b c0 c1 vr vw b1 b2 (⟨(wrF q.out q.st ts).1, (wrF q.out q.st ts).2, m⟩ : SSt M.σ) W2) := by
  obtain ⟨f1, E, P⟩ := h
  refine (ts_written P hf).mono ?_
  rintro e W2 ⟨rfl, f2, vo, E2, S2, R2⟩
  exact ⟨rfl, f2, E.trans (E2.mono (by rintro z h; unfold T23 at h; unfold T12; omega)), f2, vo, Ext.refl _ _ _, S2, R2⟩
/-- what the caller sees: nothing old has changed, the row is new -/
theorem as_seen {vo : Value} {q : SSt M.σ} (h : ∃ f1, Ext T12 w W (fun _ => 0) f1 ∧ SB W f1 b c0 c1 vr vw vo b1 b2 q.st q.out ∧ M.Rep W f1 q.m vw) : Below w.heap.size w W ∧ (Kd.int .u8).R 5 W 0 (fun k => w.heap.size ≤ k) vo q.out := by
  obtain ⟨f1, E, S, _⟩ := h
  refine ⟨⟨E.os, E.tape, E.output, E.size, fun k hk => E.keep k hk (by unfold T12; omega)⟩, Kd.R_of_own (enc := Value.int .u8) S.out (fun k hk => ?_)⟩
  rcases Nat.lt_or_ge k w.heap.size with hl | hl
  · have h1 := S.tag k hk
    have h2 := E.tag k hl
    omega
  · exact hl
end
end Go.Proofs.YtnfjgopcenpblaaGreatDoor.T
