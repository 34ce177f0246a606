/- The chapter's example, and a book: alive answers true. -/
import Derived.Test.YtdiepeomhnkgpaaHOpen1
namespace Go.Proofs.Ytdiepeomhnkgpaa
open Go Go.Maps Go.RowKit

theorem pw {B : Nat} {w W : World} (h : Below B w W) (n : Nat) : Below B w (W.drewN n) := ⟨h.os, h.tape, h.output, h.size, h.block⟩

set_option maxHeartbeats 2000000 in
theorem alive_calls (W : World) :
    Calls Try.prog 7 #[] W fun e w' => e = .returned (.bool true) ∧ Below W.heap.size W w' := by
  have HN := Lib.hid (new_ok 10 0 2 (by omega) (by omega) (by omega) (by omega) (by omega) W)
  have HX := fun X => Lib.hid (new_no 0 0 2 X (by omega))
  have HOf9 := fun X => Lib.hid (of_calls 9 10 (by omega) (by omega) (by omega) (by omega) X)
  have HOf10 := fun X => Lib.hid (of_calls 10 10 (by omega) (by omega) (by omega) (by omega) X)
  have HOv1 := fun X => Lib.hid (over_calls 0 10 0 10 (by omega) (by omega) (by omega) (by omega) (by omega) (by omega) (by omega) X)
  have HOv2 := fun X => Lib.hid (over_calls 0 10 0 9 (by omega) (by omega) (by omega) (by omega) (by omega) (by omega) (by omega) X)
  rw [show overB 0 10 0 10 = true from by decide] at HOv1
  rw [show overB 0 10 0 9 = false from by decide] at HOv2
  rw [show (9 : Int) / 10 = 0 from by decide] at HOf9
  rw [show (10 : Int) / 10 = 1 from by decide] at HOf10
  go_enter Try.func7, Try.ntmps7
  go_wp2_with fail
  refine HN.out.mono ?_
  rintro e w1 ⟨rfl, hB, hb1, hs1⟩
  have HA := Lib.hid (at_put hB ⟨by omega, by omega, by omega, by omega, by omega, by omega⟩ 5 (by omega) (by omega) (by decide) (by simp) (by simp) (by decide))
  have HS := Lib.hid hs1
  clear hB hs1
  go_wp2_with fail
  refine HA.out.mono ?_
  rintro e w2 ⟨rfl, hB2, q, hg2⟩
  have hb2 : Below W.heap.size W w2 := Below.grown (pw hb1 q) hg2 hb1.size (fun k hk => by injection hk with hk; omega)
  have HO := Lib.hid (open_one hB2)
  clear hB2 hg2
  go_wp2_with fail
  refine (HX _).out.mono ?_
  rintro e w' ⟨rfl, rfl⟩
  go_wp2_with fail
  refine HO.out.mono ?_
  rintro e w3 ⟨A, c, rfl, hb3⟩
  go_wp2_with fail
  refine (HOf9 _).out.mono ?_
  rintro e w' ⟨rfl, rfl⟩
  go_wp2_with fail
  refine (HOf10 _).out.mono ?_
  rintro e w' ⟨rfl, rfl⟩
  go_wp2_with fail
  refine (HOv1 _).out.mono ?_
  rintro e w' ⟨rfl, rfl⟩
  go_wp2_with fail
  refine (HOv2 _).out.mono ?_
  rintro e w' ⟨rfl, rfl⟩
  go_wp2
  go_ret
  exact ⟨rfl, hb2.trans (hb3.mono hb2.size)⟩
end Go.Proofs.Ytdiepeomhnkgpaa
