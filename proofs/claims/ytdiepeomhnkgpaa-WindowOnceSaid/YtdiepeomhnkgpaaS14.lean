/- Walks of the library's sort at []uint64: Sort. Turned by a program from the worked walks at []int. -/
import Derived.Test.YtdiepeomhnkgpaaS13
import Derived.Test.YtdiepeomhnkgpaaSA6
import Derived.Test.YtdiepeomhnkgpaaSC
import Derived.Test.YtdiepeomhnkgpaaSC4
import Derived.Test.YtdiepeomhnkgpaaS7
import Derived.Test.YtdiepeomhnkgpaaS11
import Derived.Sort.AssemblyPlain
import Derived.Sort.WalkA14
import Derived.LoopN
import Derived.Lib.Hide
namespace Go.Proofs.Ytdiepeomhnkgpaa
open Go Go.Proofs Go.Sort Go.RowKit
set_option linter.unusedVariables false
theorem callees13u : Callees13u where
  ins := Us.insertionSort_u
  brk := Us.breakPatterns_u
  piv := Us.choosePivot_u
  par := Us.partialInsertionSort_u
  peq := Us.partitionEqualOrdered_u
  prt := Us.partitionOrdered_u

theorem plain13u : Plain13 where
  swo := swo_ltInt
  ins := insertionSort_holds
  par := partialInsertionSort_holds
  prt := partition_holds _
  peq := partitionEqual_holds _
  pdq := pdq_sorts _

theorem Us.Sort_u (blk off cap : Nat) (d : Array Int) (w : World) (hH : Holds (Value.int .u64) w blk off d) (hblk : blk < w.heap.size) (hsz : d.size < 4611686018427387904) :
    Calls Try.prog 41 #[.slice (some ⟨blk, off, none⟩) d.size cap] w fun e w' => e = .returned (.tuple #[]) ∧ ∃ n os, w' = grow (putRow (Value.int .u64) (Sort.ahead w n) blk off (Sort.sort ltInt d)) os := by
  have HH : Hid (Holds (Value.int .u64) w blk off d) := hH
  clear hH
  have hLen : ∀ w, Calls Try.prog 46 #[.int .u64 (d.size : Int)] w fun e w' => e = .returned (.int .i64 (bitsLen d.size : Nat)) ∧ w' = w := fun w => by
    have h := Try.bits_Len (d.size : Int) w (by omega) (by omega)
    rwa [Int.toNat_natCast, bitLen_eq _ (by omega)] at h
  have hk : bitsLen d.size ≤ 62 := (bitsLen_le_iff d.size 62).2 (by omega)
  go_enter Try.func41, Try.ntmps41
  go_wp2_with (first
    | (go_at_call 46; refine (hLen _).mono ?_; rintro e w' ⟨rfl, rfl⟩)
    | (go_at_call 45; refine (Us.pdqsort_u callees13u plain13u (d.size - 0 + 1) blk off cap 0 d.size (bitsLen d.size) d _ (by omega) (by exact HH.out) (by exact hblk) (Nat.zero_le _) (Nat.le_refl _) hsz (by omega) (Or.inl rfl)).mono ?_; rintro e w' ⟨rfl, n, os, rfl⟩))
  go_end0
  exact ⟨rfl, n, os, rfl⟩

theorem sort_u_eq (zs : List Int) : Sort.sort ltInt zs.toArray = (zs.mergeSort fun x y => decide (x ≤ y)).toArray := by
  rw [← sortInt zs]

/-- slices.Sort at []uint64. -/
theorem sort_many (blk off cap : Nat) (zs : List Int) (w : World) (hH : Holds (Value.int .u64) w blk off zs.toArray) (hblk : blk < w.heap.size) (hsz : zs.length < 4611686018427387904) :
    Calls Try.prog 41 #[.slice (some ⟨blk, off, none⟩) zs.length cap] w fun e w' =>
      e = .returned (.tuple #[]) ∧ ∃ n os, w' = grow (putRow (Value.int .u64) (Sort.ahead w n) blk off (zs.mergeSort fun x y => decide (x ≤ y)).toArray) os := by
  have h := Us.Sort_u blk off cap zs.toArray w hH hblk (by simpa using hsz)
  rw [sort_u_eq] at h
  simpa using h

set_option maxHeartbeats 1000000 in
theorem ins_none (A : Option Addr) (c : Nat) (W : World) :
    Calls Try.prog 47 #[.slice A 0 c, .int .i64 0, .int .i64 0] W fun e w' => e = .returned (.tuple #[]) ∧ w' = W := by
  go_enter Try.func47, Try.ntmps47
  go_wp2
  refine wp_loop_rounds 1 ?_
  rw [rounds_succ]
  go_wp2
  go_end0
  exact ⟨rfl, rfl⟩

set_option maxHeartbeats 1000000 in
theorem pdq_none (A : Option Addr) (c : Nat) (k : Int) (W : World) :
    Calls Try.prog 45 #[.slice A 0 c, .int .i64 0, .int .i64 0, .int .i64 k] W fun e w' => e = .returned (.tuple #[]) ∧ w' = W := by
  have HI := Lib.hid (ins_none A c W)
  go_enter Try.func45, Try.ntmps45
  go_wp2
  refine wp_loop_rounds 1 ?_
  rw [rounds_succ]
  go_wp2_with (go_at_call 47; refine HI.out.mono ?_; rintro e w' ⟨rfl, rfl⟩)
  refine bodyPost_ret (results_none rfl _ _ _) rfl ?_
  exact ⟨rfl, rfl⟩

theorem sort_none (A : Option Addr) (c : Nat) (W : World) :
    Calls Try.prog 41 #[.slice A 0 c] W fun e w' => e = .returned (.tuple #[]) ∧ w' = W := by
  have HP := fun k => Lib.hid (pdq_none A c k W)
  have HL := Lib.hid ((Try.bits_Len 0 W (by omega) (by omega)).mono (R' := fun e w' => (∃ k, e = .returned (.int .i64 k)) ∧ w' = W) (fun e w' ⟨a, b⟩ => ⟨⟨_, a⟩, b⟩))
  go_enter Try.func41, Try.ntmps41
  go_wp2_with (first
    | (go_at_call 46; refine HL.out.mono ?_; rintro e w' ⟨⟨k, rfl⟩, rfl⟩)
    | (go_at_call 45; refine (HP _).out.mono ?_; rintro e w' ⟨rfl, rfl⟩))
  go_end0
  exact ⟨rfl, rfl⟩
end Go.Proofs.Ytdiepeomhnkgpaa
