/- WindowPlays: the walk. -/
import Derived.Test.YtdiepeomhnkgpaaPlaysC
import Derived.Test.YtdiepeomhnkgpaaMA
import Derived.Deep.DeepCutAuto
namespace Go.Proofs.Ytdiepeomhnkgpaa
open Go.Proofs Go.Maps Go.RowKit Go.Sort Go.Shelf
set_option linter.unusedVariables false

set_option maxHeartbeats 2000000 in
set_option maxRecDepth 100000 in
theorem windowPlays_bad (wd lt most : Int) (A : Option Addr) (cap : Nat) (n : Nat) (W : World) (hn : n ≤ 9223372036854775807) (h : wd < 1 ∨ 4611686018427387904 < wd ∨ 4611686018427387904 < lt ∨ most < 1 ∨ 65536 < most) :
    Calls Try.prog 5 #[.int .u64 wd, .int .u64 lt, .int .i64 most, .slice A n cap] W fun e w' => e = .returned (.bool true) ∧ Below W.heap.size W w' := by
  have HAl := Lib.hid (alive_calls W)
  by_cases hbig : 100 < n
  · have hd : decide ((100 : Int) < (n : Int)) = true := decide_eq_true (by omega)
    clear h hbig hn
    go_enter Try.func5, Try.ntmps5
    go_wp2_with (go_at_call 7; refine HAl.out.mono ?_; rintro e W1 ⟨rfl, hb1⟩)
    go_ret
    exact ⟨rfl, hb1⟩
  have hd : decide ((100 : Int) < (n : Int)) = false := decide_eq_false (by omega)
  have HN := fun X => Lib.hid ((new_no wd lt most X h).mono (R' := fun e w' => e = .returned (.tuple #[.pointer none, .int .i64 1]) ∧ X = w') (fun e w' ⟨a, c⟩ => ⟨a, c.symm⟩))
  clear hbig hn
  have fin : ∀ (d0 d1 d2 d3 d4 : Bool), decide (wd < 1) = d0 → decide (4611686018427387904 < wd) = d1 → decide (4611686018427387904 < lt) = d2 → decide (most < 1) = d3 → decide (65536 < most) = d4 → (d0 = true ∨ d1 = true ∨ d2 = true ∨ d3 = true ∨ d4 = true) →
      Calls Try.prog 5 #[.int .u64 wd, .int .u64 lt, .int .i64 most, .slice A n cap] W fun e w' => e = .returned (.bool true) ∧ Below W.heap.size W w' := by
    intro d0 d1 d2 d3 d4 e0 e1 e2 e3 e4 hor
    clear h
    cases d0 <;> cases d1 <;> cases d2 <;> cases d3 <;> cases d4 <;> first
      | (exfalso; simp at hor; done)
      | (clear hor
         go_enter Try.func5, Try.ntmps5
         go_wp2_with (first
           | (go_at_call 7; refine HAl.out.mono ?_; rintro e W1 ⟨rfl, hb1⟩)
           | (go_at_call 11; refine (HN _).out.mono ?_; rintro e W2 ⟨rfl, rfl⟩))
         go_ret
         exact ⟨rfl, hb1⟩)
  exact fin _ _ _ _ _ rfl rfl rfl rfl rfl (by simp only [decide_eq_true_eq]; exact h)
end Go.Proofs.Ytdiepeomhnkgpaa
