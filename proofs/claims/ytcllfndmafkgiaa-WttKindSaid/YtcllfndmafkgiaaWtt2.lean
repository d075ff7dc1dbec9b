/- Contracts of layer 8's law: its check; the checker; the examples. No condition beyond the ranges of bytes and the size of a slice that came in. -/
import Derived.Test.YtcllfndmafkgiaaWtt
namespace Go.Proofs.Ytcllfndmafkgiaa.Th
open Go.RowKit
theorem dN {B : Nat} {w w' : World} (h : Below B w w') (n : Nat) : Below B w (w'.drewN n) := ⟨h.os, h.tape, h.output, h.size, h.block⟩
set_option maxHeartbeats 1000000 in
theorem check27 (a : Option Addr) (cap : Nat) (l : List Int) (v : Int) (w : World) (hr : RowAt .u8 w a l) (hB : Bytes l) (hs : l.length ≤ 140737488355328) :
    Calls Try.prog 27 #[.slice a l.length cap, .int .i64 v] w fun e w' => e = .returned (.int .i64 (badOf l v)) ∧ Below w.heap.size w w' := by
  go_enter Try.func27, Try.ntmps27
  go_wp2
  go_loopw [8] (fun i wr => ∃ m : Nat, m ≤ l.length ∧ i = .int .i64 m ∧ (m = 0 ∨ badOf l v = bad l v m (l.length - m)) ∧ Below w.heap.size w wr) (fun i _ => l.length - (intOf i).toNat)
  case atStart => exact ⟨0, by omega, rfl, .inl rfl, Below.refl _ _⟩
  case round =>
    obtain ⟨m, hk, rfl, hq, hb⟩ := hrel
    have HQ := Lib.hid hq
    clear hq
    by_cases hlt : m < l.length
    · by_cases h0 : m = 0
      · subst h0
        go_wp2_with fail
        go_quiet (fail)
        go_wp2
        go_roundw
        case rel => exact ⟨1, by omega, by go_num, .inr rfl, dN hb _⟩
        case measure => simp [intOf]; omega
      · obtain ⟨j, rfl⟩ : ∃ j, m = j + 1 := ⟨m - 1, by omega⟩
        obtain ⟨b, off, rfl, hc⟩ := (hr.keep hb).cell (by intro h; simp [h] at hlt)
        have c0 := hc j (by omega)
        have c1 := hc (j + 1) hlt
        obtain ⟨x0, x1⟩ := hB.at j
        obtain ⟨y0, y1⟩ := hB.at (j + 1)
        have HN : Hid (l.length - (j + 1) = (l.length - (j + 2)) + 1) := by show _ = _; omega
        have HR : Hid (badOf l v = bad l v (j + 1) (l.length - (j + 1))) := by
          rcases HQ.out with h | h
          · omega
          · exact h
        clear hc HQ
        generalize hx : l.getD j 0 = x at *
        generalize hy : l.getD (j + 1) 0 = y at *
        have HX := Lib.hid hx
        have HY := Lib.hid hy
        clear hx hy h0
        have HM := Lib.hid (fun W => may25 x y v W x0 x1 y0 y1)
        have n0 : (0 : Int) ≤ (j : Int) := by omega
        have n1 : (j : Int) < (l.length : Int) := by omega
        have n2 : (0 : Int) ≤ (j : Int) + 1 := by omega
        have n3 : (j : Int) + 1 < (l.length : Int) := by omega
        have n8 : (0 : Int) < (j : Int) + 1 := by omega
        have n4 : IntKind.i64.wrap ((j : Int) + 1 - 1) = (j : Int) := by rw [show (j : Int) + 1 - 1 = j by omega]; exact IntWalk.i64_in _ (by omega)
        have n7 : IntKind.i64.wrap (j : Int) = (j : Int) := IntWalk.i64_in _ (by omega)
        have n5 : ((j : Int) + 1).toNat = j + 1 := by omega
        have n6 : ((j : Int)).toNat = j := by omega
        rcases Bool.eq_false_or_eq_true (mayB x y v) with hm | hm
        · go_wp2_with fail
          go_region_held3 (fun w' => Below w.heap.size w w' ∧ w'.cell? ⟨b, off + j, none⟩ = some (.int .u8 x) ∧ w'.cell? ⟨b, off + (j + 1), none⟩ = some (.int .u8 y)) (first | exact held_start (by assumption) (by assumption) (by assumption) | exact held_step (by assumption) (by assumption)) (first | (go_at_call 25; refine (HM.out _).mono ?_; rintro e w' ⟨rfl, hb2⟩))
          clear n4 n7 n5 n6
          rename_i hHeld
          have HH := Lib.hid hHeld.1
          clear hHeld
          go_wp2
          go_roundw
          case rel => exact ⟨j + 2, by omega, by go_num, .inr (by rw [HR.out, HN.out, bad_go (by show mayB (l.getD j 0) (l.getD (j + 1) 0) v = true; rw [HX.out, HY.out]; exact hm)]), HH.out⟩
          case measure => simp [intOf]; omega
        · go_wp2_with fail
          go_region_held3 (fun w' => Below w.heap.size w w' ∧ w'.cell? ⟨b, off + j, none⟩ = some (.int .u8 x) ∧ w'.cell? ⟨b, off + (j + 1), none⟩ = some (.int .u8 y)) (first | exact held_start (by assumption) (by assumption) (by assumption) | exact held_step (by assumption) (by assumption)) (first | (go_at_call 25; refine (HM.out _).mono ?_; rintro e w' ⟨rfl, hb2⟩))
          clear n4 n7 n5 n6
          rename_i hHeld
          have HH := Lib.hid hHeld.1
          clear hHeld
          go_wp2
          go_ret
          exact ⟨ret_i (by rw [HR.out, HN.out, bad_hit (by show mayB (l.getD j 0) (l.getD (j + 1) 0) v = false; rw [HX.out, HY.out]; exact hm)]; rfl), HH.out⟩
    · obtain rfl : m = l.length := by omega
      have HE : Hid (badOf l v = -1) := by
        rcases HQ.out with h | h
        · unfold badOf; rw [h]; exact bad_stop
        · rw [h, Nat.sub_self]; exact bad_stop
      clear HQ
      go_wp2
      all_goals first
        | (exfalso; omega)
        | (go_ret; exact ⟨ret_i (by rw [HE.out]), hb⟩)
end Go.Proofs.Ytcllfndmafkgiaa.Th
