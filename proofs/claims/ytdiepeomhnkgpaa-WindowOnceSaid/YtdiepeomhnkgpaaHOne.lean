/- slices.Sort of one uint64, or of none. -/
import Derived.Test.YtdiepeomhnkgpaaProg
import Derived.Test.YtdiepeomhnkgpaaShelf
import Derived.WalkKit
import Derived.LoopN
import Derived.Lib.Hide
import Derived.Deep.LoopGhost
import Derived.Outline
namespace Go.Proofs.Ytdiepeomhnkgpaa
open Go Go.RowKit

set_option maxHeartbeats 1000000 in
theorem ins_one (A : Option Addr) (c : Nat) (W : World) :
    Calls Try.prog 47 #[.slice A 1 c, .int .i64 0, .int .i64 1] W fun e w' => e = .returned (.tuple #[]) ∧ W = w' := by
  go_enter Try.func47, Try.ntmps47
  go_wp2
  refine wp_loop_rounds 1 ?_
  rw [rounds_succ]
  go_wp2
  go_end0
  exact ⟨rfl, rfl⟩

set_option maxHeartbeats 1000000 in
theorem pdq_one (A : Option Addr) (c : Nat) (k : Int) (W : World) :
    Calls Try.prog 45 #[.slice A 1 c, .int .i64 0, .int .i64 1, .int .i64 k] W fun e w' => e = .returned (.tuple #[]) ∧ W = w' := by
  have HI := Lib.hid (ins_one A c W)
  go_enter Try.func45, Try.ntmps45
  go_wp2
  refine wp_loop_rounds 1 ?_
  rw [rounds_succ]
  go_wp2_with (go_at_call 47; refine HI.out.mono ?_; rintro e w' ⟨rfl, rfl⟩)
  refine bodyPost_ret (results_none rfl _ _ _) rfl ?_
  exact ⟨rfl, rfl⟩

theorem sort_one (A : Option Addr) (c : Nat) (W : World) :
    Calls Try.prog 41 #[.slice A 1 c] W fun e w' => e = .returned (.tuple #[]) ∧ W = w' := by
  have HP := fun k => Lib.hid (pdq_one A c k W)
  have HL := Lib.hid ((Try.bits_Len 1 W (by omega) (by omega)).mono (R' := fun e w' => (∃ k, e = .returned (.int .i64 k)) ∧ W = w') (fun e w' ⟨a, b⟩ => ⟨⟨_, a⟩, b.symm⟩))
  go_enter Try.func41, Try.ntmps41
  go_wp2_with (first
    | (go_at_call 46; refine HL.out.mono ?_; rintro e w' ⟨⟨k, rfl⟩, rfl⟩)
    | (go_at_call 45; refine (HP _).out.mono ?_; rintro e w' ⟨rfl, rfl⟩))
  go_end0
  exact ⟨rfl, rfl⟩
end Go.Proofs.Ytdiepeomhnkgpaa
