/- The walk of the reader's End: what waits is short. No condition beyond the ranges. -/
import Derived.Test.YtdhpldiahgajcaaK2
namespace Go.Proofs.Ytdhpldiahgajcaa.PUtfAll
open Go.RowKit Go.Proofs.YtdhpldiahgajcaaW.PrintWords Go.Proofs.YtdhpldiahgajcaaW.PrintLast Go.Proofs.YtdhpldiahgajcaaW.PrintMore Go.Proofs.Ytdhpldiahgajcaa
set_option linter.unusedVariables false
def eF (a : Int) (l : List Int) : List S32 × List Int × Int := if l = [] then ([], [], a) else ([⟨a, l.length, [], 2⟩], [], a + l.length)
theorem PutInv.start {w : World} {B b : Nat} {v : Value} {l : List Int} {at_ : Int} (h : Rdr w B b v l at_) (hB : B ≤ w.heap.size) : PutInv w B b v w v (.slice none 0 0) l at_ [] :=
  ⟨h, Kd.S_nil _ _ _ _ _, Kept.refl _ _, .inl rfl, Below.refl _ _, h.lt, hB⟩
theorem lit_M {W : World} {tok : S32} {cs : List Value} {base : Nat} {p : Nat → Prop} (h : k32.M W base p tok cs) (hc : cs.length = 4) : ∀ j x, [tok][j]? = some x → k32.M W base ((fun j k => j = 0 ∧ p k) j) x ((cs.drop (j * k32.sz)).take k32.sz) := by
  intro j x hj
  have hj0 : j = 0 := by
    cases j with
    | zero => rfl
    | succ j => simp at hj
  subst hj0
  have hx : tok = x := by simpa using hj
  subst hx
  have : (cs.drop (0 * k32.sz)).take k32.sz = cs := by
    rw [Nat.zero_mul, List.drop_zero]
    exact List.take_of_length_le (by rw [hc]; exact Nat.le_refl _)
  rw [this]
  exact k32.M_mono (fun k hk => ⟨rfl, hk⟩) h
set_option maxHeartbeats 1000000 in
theorem End_calls (w : World) (B b : Nat) (v : Value) (l : List Int) (at_ : Int) (h : Rdr w B b v l at_) (hB : B ≤ w.heap.size) (hl : l.length ≤ 100) (h0 : 0 ≤ at_) (h1 : at_ + l.length ≤ 281474976710656) :
    Calls Try.prog 19 #[.pointer (some ⟨b, 0, none⟩)] w (PutP w B b v (eF at_ l)) := by
  obtain ⟨A, cc, rfl⟩ := h.form
  have c0 := blk_cell h.blk 0
  replace c0 : w.cell? ⟨b, 0, none⟩ = some (.slice A l.length cc) := c0.trans rfl
  have I := Lib.hid (PutInv.start h hB)
  replace h := ()
  by_cases hli : l = []
  · subst hli
    go_enter Try.func19, Try.ntmps19
    go_wp2
    go_ret
    exact ⟨_, _, rfl, I.out⟩
  · have hpos : ((l.length : Int) == 0) = false := by
      have : l.length ≠ 0 := fun h => hli (List.eq_nil_of_length_eq_zero h)
      exact beq_eq_false_iff_ne.mpr (by omega)
    have hw : wrap64 (at_ + l.length) = at_ + l.length := by unfold wrap64; omega
    have hd : l.drop (l.length : Int).toNat = [] := by simp
    have hans : Hid (eF at_ l = ([⟨at_, l.length, [], 2⟩], [], at_ + l.length)) := by unfold eF; rw [if_neg hli]; exact rfl
    have hfl : l.length ≤ 140737488355328 := by omega
    go_enter Try.func19, Try.ntmps19
    go_wp2_with (first
      | ((with_reducible refine gate_callee (f := 31) rfl ?_); refine goesL_ (some 15) rfl rfl Try.func31 (by kernel_rfl) rfl #[.pointer (some ⟨b, 0, none⟩), .int .i64 0, .int .i64 l.length, .int .i64 2] rfl (by (try simp only [List.map_toArray, List.map_cons, List.map_nil]); first | done | rfl) ?_; refine (take_calls w B b _ l at_ 0 l.length 2 I.out.rdr (by omega) (by omega) hB hfl).mono ?_; rintro e2 w5 ⟨cs, v', rfl, hM, hr, hk, hn, hbl⟩; rw [if_neg (by decide)] at hM; rw [hd, hw] at hr; obtain ⟨v2, rfl, hv2⟩ := k32_openM hM; obtain ⟨Ao, co, rfl⟩ := Kd.R_slice hv2; refine ⟨_, rfl, ?_⟩; have hM := Lib.hid hM; have hr := Lib.hid hr; have hk := Lib.hid hk; have hn := Lib.hid hn; have hbl := Lib.hid hbl)
      | ((with_reducible refine gate_dst (N := 16) rfl ?_); obtain ⟨q1, q2, q3, q4⟩ := tok_in I.out hr.out hk.out hn.out hM.out; refine Kd.S_lits k32 (w0 := w5) w.heap.size 32 rfl (N := 16) rfl (xs := [(⟨at_, l.length, [], 2⟩ : S32)]) (inner := [.int .i64 at_, .int .i64 l.length, .slice Ao 0 co, .int .i64 2]) (ok := fun k => some k ≠ v'.ownBlock ∧ k ≠ b) (fun j k => j = 0 ∧ okp w w5 k) ?hr rfl (lit_M q1 rfl) (fun i j k hi hj => hi.1.trans hj.1.symm) (fun j k hk => (q2 k hk.2).1) (q3 _ (Nat.le_refl _)) (Below.refl _ _) hk.out.1 (by simp) ?_; (case hr => first | (go_simp; done) | (go_simp; rfl)); intro v6 w6 ho hb hg hat; have I2 := Lib.hid (I.out.step (xs := []) hr.out hk.out hn.out hbl.out ho hg); clear q1 q2 q3 q4 ho hb hg hat hM hr hk hn hbl I))
    go_ret
    exact ⟨_, _, rfl, by rw [hans.out]; exact I2.out⟩
end Go.Proofs.Ytdhpldiahgajcaa.PUtfAll
