/- window.Over: its answer at every input. -/
import Derived.Test.YtdiepeomhnkgpaaProg
import Derived.Test.YtdiepeomhnkgpaaShelf
import Derived.Laws.Externs
import Derived.WalkKit
import Derived.Lib.Hide
import Derived.Outline
namespace Go.Proofs.Ytdiepeomhnkgpaa
open Go.RowKit Go.Shelf

/-- Is a window over? -/
def overB (w wd lt mk : Int) : Bool := decide (0 < wd ∧ (w + 1) * wd + lt ≤ mk)

theorem over_arith (w wd lt mk nx c p hi lo a m : Int) (h0 : 0 ≤ w) (h1 : w < 18446744073709551616) (h3 : wd < 18446744073709551616) (h4 : 0 ≤ lt) (h5 : lt < 18446744073709551616) (h7 : mk < 18446744073709551616) (hwd : 0 < wd)
    (e1 : nx = (w + 1) % 18446744073709551616) (e2 : c = (w + 1) / 18446744073709551616) (ep : p = nx * wd) (e3 : hi = p / 18446744073709551616) (e4 : lo = p % 18446744073709551616) (e5 : a = (lo + lt) % 18446744073709551616) (e6 : m = (lo + lt) / 18446744073709551616) :
    ((IntKind.u64.wrap (IntKind.u64.wrap (c + hi) + m) == 0) && decide (a ≤ mk)) = overB w wd lt mk := by
  unfold overB
  by_cases hw : w + 1 < 18446744073709551616
  · have en : nx = w + 1 := by omega
    have ec : c = 0 := by omega
    have hp0 : 0 ≤ p := by rw [ep]; exact Int.mul_nonneg (by omega) (by omega)
    have hp1 : p ≤ 18446744073709551615 * 18446744073709551615 := by
      rw [ep]; exact Int.mul_le_mul (by omega) (by omega) (by omega) (by omega)
    have hs : p + lt = (hi + m) * 18446744073709551616 + a := by omega
    rw [ec, IntWalk.u64_in (0 + hi) ⟨by omega, by omega⟩, IntWalk.u64_in (0 + hi + m) ⟨by omega, by omega⟩]
    have ep2 : (w + 1) * wd = p := by rw [ep, en]
    rw [ep2]
    rw [Bool.eq_iff_iff]
    simp only [Bool.and_eq_true, beq_iff_eq, decide_eq_true_eq]
    omega
  · have hw2 : w = 18446744073709551615 := by omega
    have en : nx = 0 := by omega
    have ec : c = 1 := by omega
    have hp0 : p = 0 := by rw [ep, en]; simp
    have hh : hi = 0 := by omega
    have hm : m = 0 := by omega
    rw [ec, hh, hm]
    have : ¬ (0 < wd ∧ (w + 1) * wd + lt ≤ mk) := by
      intro ⟨_, h⟩
      have : 18446744073709551616 * 1 ≤ (w + 1) * wd := Int.mul_le_mul (by omega) (by omega) (by omega) (by omega)
      omega
    rw [decide_eq_false this]
    rfl

theorem add64_run (x y : Int) (hx : 0 ≤ x) (hy : 0 ≤ y) (w : World) :
    (callFunc 29 #[.int .u64 x, .int .u64 y, .int .u64 0]).run Try.prog w =
      .ok (.value (.tuple #[.int .u64 ((x + y) % 18446744073709551616), .int .u64 ((x + y) / 18446744073709551616)])) w := by
  rw [run_callFunc_extern Try.func29 (by kernel_rfl) (by kernel_rfl) (by kernel_rfl) (e := add64Entry) (by kernel_rfl), run_add64 x y 0 hx hy (by omega) (by omega)]
  simp only [Result.andThen, Int.add_zero]

theorem mul64_calls (x y : Int) (h0 : 0 ≤ x) (h1 : x < 18446744073709551616) (h2 : 0 ≤ y) (h3 : y < 18446744073709551616) (w : World) :
    Calls Try.prog 30 #[.int .u64 x, .int .u64 y] w fun e w' => e = .returned (.tuple #[.int .u64 (x * y / 18446744073709551616), .int .u64 (x * y % 18446744073709551616)]) ∧ w = w' := by
  obtain ⟨X, rfl⟩ := Int.eq_ofNat_of_zero_le h0
  obtain ⟨Y, rfl⟩ := Int.eq_ofNat_of_zero_le h2
  refine (Try.bits_Mul64 X Y (by omega) (by omega) w).mono ?_
  rintro e w' ⟨rfl, rfl⟩
  exact ⟨by simp, rfl⟩

set_option maxHeartbeats 1000000 in
theorem over_calls (w wd lt mk : Int) (h0 : 0 ≤ w) (h1 : w < 18446744073709551616) (h2 : 0 ≤ wd) (h3 : wd < 18446744073709551616) (h4 : 0 ≤ lt) (h5 : lt < 18446744073709551616) (h7 : mk < 18446744073709551616) (W : World) :
    Calls Try.prog 8 #[.int .u64 w, .int .u64 wd, .int .u64 lt, .int .u64 mk] W fun e w' => e = .returned (.bool (overB w wd lt mk)) ∧ W = w' := by
  obtain ⟨nx, e1⟩ : ∃ x, x = (w + 1) % 18446744073709551616 := ⟨_, rfl⟩
  obtain ⟨c, e2⟩ : ∃ x, x = (w + 1) / 18446744073709551616 := ⟨_, rfl⟩
  obtain ⟨p, ep⟩ : ∃ x, x = nx * wd := ⟨_, rfl⟩
  obtain ⟨hi, e3⟩ : ∃ x, x = p / 18446744073709551616 := ⟨_, rfl⟩
  obtain ⟨lo, e4⟩ : ∃ x, x = p % 18446744073709551616 := ⟨_, rfl⟩
  obtain ⟨a, e5⟩ : ∃ x, x = (lo + lt) % 18446744073709551616 := ⟨_, rfl⟩
  obtain ⟨m, e6⟩ : ∃ x, x = (lo + lt) / 18446744073709551616 := ⟨_, rfl⟩
  have hadd1 := add64_run w 1 h0 (by omega) W
  have hadd2 := add64_run lo lt (by omega) h4 W
  rw [← e1, ← e2] at hadd1
  rw [← e5, ← e6] at hadd2
  have hmul := mul64_calls nx wd (by omega) (by omega) h2 h3 W
  rw [← ep, ← e3, ← e4] at hmul
  by_cases hwd : 0 < wd
  · have hf := over_arith w wd lt mk nx c p hi lo a m h0 h1 h3 h4 h5 h7 hwd e1 e2 ep e3 e4 e5 e6
    have hgt : decide (wd > 0) = true := decide_eq_true hwd
    clear e1 e2 ep e3 e4 e5 e6 h0 h1 h2 h3 h4 h5 h7 hwd
    have HM := Lib.hid hmul
    clear hmul
    cases hz : (IntKind.u64.wrap (IntKind.u64.wrap (c + hi) + m) == 0) with
    | false =>
      rw [hz, Bool.false_and] at hf
      rw [← hf]
      clear hf
      go_enter Try.func8, Try.ntmps8
      go_wp2_with (go_at_call 30; refine HM.out.mono ?_; rintro e w' ⟨rfl, rfl⟩)
      go_ret
      exact ⟨rfl, rfl⟩
    | true =>
      rw [hz, Bool.true_and] at hf
      rw [← hf]
      clear hf
      go_enter Try.func8, Try.ntmps8
      go_wp2_with (go_at_call 30; refine HM.out.mono ?_; rintro e w' ⟨rfl, rfl⟩)
      go_ret
      exact ⟨rfl, rfl⟩
  · have hf : overB w wd lt mk = false := by unfold overB; exact decide_eq_false (fun h => hwd h.1)
    rw [hf]
    have hgt : decide (wd > 0) = false := decide_eq_false hwd
    clear e1 e2 ep e3 e4 e5 e6 h0 h1 h2 h3 h4 h5 h7 hwd hf
    have HM := Lib.hid hmul
    clear hmul
    go_enter Try.func8, Try.ntmps8
    go_wp2_with (go_at_call 30; refine HM.out.mono ?_; rintro e w' ⟨rfl, rfl⟩)
    go_ret
    exact ⟨rfl, rfl⟩
end Go.Proofs.Ytdiepeomhnkgpaa
