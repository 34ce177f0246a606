/- slices.DeleteFunc of the library at []uint64: a laying of the shelf's contract, in plain words. -/
import Derived.Shelf.SlicesE.DeleteFunc
import Derived.Test.YtdiepeomhnkgpaaProg
namespace Go.Proofs
open Go.Shelf
def Try.l32_ren : Go.Shelf.Ren := ⟨fun | 10 => 32 | 6 => 39 | n => n, fun | 22 => 32 | 23 => 22 | 25 => 57 | 3 => 3 | 4 => 4 | 0 => 0 | n => n, fun | n => n⟩
theorem Try.l32 : Go.Proofs.SlLaysH.n10 Try.prog Try.l32_ren := {
  mixed := by kernel_rfl
  f6 := ⟨Try.f39.name, by decide, Try.func39.trans (congrArg some (by kernel_rfl))⟩
  f10 := ⟨Try.f32.name, by decide, Try.func32.trans (congrArg some (by kernel_rfl))⟩
  t0 := Try.underlying0
  a0 := Try.isAgg0
  z0 := Try.sizeOf0
  v0 := Try.zeroValue0
  t3 := Try.underlying3
  a3 := Try.isAgg3
  z3 := Try.sizeOf3
  v3 := Try.zeroValue3
  t4 := Try.underlying4
  a4 := Try.isAgg4
  z4 := Try.sizeOf4
  v4 := Try.zeroValue4
  t22 := Try.underlying32
  a22 := Try.isAgg32
  z22 := Try.sizeOf32
  v22 := Try.zeroValue32
  a23 := Try.isAgg22
  z23 := Try.sizeOf22
  t25 := Try.underlying57
  a25 := Try.isAgg57
  z25 := Try.sizeOf57
  v25 := Try.zeroValue57 }
end Go.Proofs
