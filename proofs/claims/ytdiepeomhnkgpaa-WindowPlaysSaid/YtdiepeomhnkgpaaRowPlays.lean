/- The law WindowPlays holds of the given program, for every input. -/
import Derived.Test.YtdiepeomhnkgpaaRows
import Derived.Test.YtdiepeomhnkgpaaPlaysE
import Derived.Test.YtdiepeomhnkgpaaMD
import Derived.WalkKit
import Derived.ProofKit
import Derived.OpenShut
import Derived.ShutString
import Derived.ChangeOld
import Derived.Below
import Derived.SizedLaws
namespace Go.Proofs.Ytdiepeomhnkgpaa.windowPlays
open Go.ChangeShapes Go.WideShapes Go.ChangeAt Go.RowKit
set_option linter.unusedVariables false
theorem own : ownKnob Try.prog.godebug = none := by kernel_rfl
theorem laidOut : laidOutB Try.prog = true := by kernel_rfl
set_option maxRecDepth 100000 in
theorem lifted (os : Os) (started : os.Started) (H : Type) (enc : TypeId × Value → H) :
    ReturnsInHanded {} Try.checked os 5 .any (Rows.windowPlaysSpec.pre6 enc Try.prog Try.f5 Rows.windowPlaysRow.domain false) (Rows.windowPlaysSpec.post enc Try.prog Try.f5 false true false false) := by
  refine returnsInHanded_of_change_sized (C := Try.checked) own started (by kernel_rfl) Try.func5
    (ChangeSpec.witness6 (enc := enc) (C := Try.checked) false ⟨#[], #[.int .u64 0, .int .u64 0, .int .i64 0, .slice none 0 0], []⟩ 8 (by kernel_rfl) (by kernel_rfl) (by kernel_rfl) (by kernel_rfl)) ?_
  intro W base args ds gs before hval0 hW hcnd hsz0 _
  have hval : ∀ (j : Nat) t v, Try.f5.params[j]? = some t → args[j]? = some v → Value.okWide Try.prog W .any base t v := hval0
  have hW' := hW
  obtain ⟨p, q, hA0, hV, rfl, hfz, hnd⟩ := hW
  have hA : DataW.TrodAll enc Try.prog W 0 (fun _ => true) true Try.f5.params.toList args.toList ds p := hA0
  rw [Try.params5] at hA hval
  obtain ⟨v0, vs0, d0, ds0, p0, q0, hargs, rfl, rfl, h0, r0⟩ := trodAll_cons hA
  obtain ⟨v1, vs1, d1, ds1, p1, q1, rfl, rfl, rfl, h1, r1⟩ := trodAll_cons r0
  obtain ⟨v2, vs2, d2, ds2, p2, q2, rfl, rfl, rfl, h2, r2⟩ := trodAll_cons r1
  obtain ⟨v3, vs3, d3, ds3, p3, q3, rfl, rfl, rfl, h3, r3⟩ := trodAll_cons r2
  obtain ⟨rfl, rfl, rfl⟩ := trodAll_nil r3
  obtain rfl : args = #[v0, v1, v2, v3] := by cases args; simp_all
  obtain ⟨rfl, rfl⟩ := trodVars_none hV
  obtain ⟨a0, rfl, rfl, rfl, w0⟩ := open_int Try.underlying22 (hval 0 22 v0 rfl rfl) h0
  obtain ⟨a1, rfl, rfl, rfl, w1⟩ := open_int Try.underlying22 (hval 1 22 v1 rfl rfl) h1
  obtain ⟨a2, rfl, rfl, rfl, w2⟩ := open_int Try.underlying3 (hval 2 3 v2 rfl rfl) h2
  obtain ⟨A, cap, l, rfl, hl⟩ := open_acts (hval 3 27 v3 rfl rfl) h3
  have hlt : ∀ x ∈ p3, x.block < W.heap.size := by
    obtain ⟨n, hn⟩ := h3
    exact DataW.trod_lt n _ _ _ hn
  clear hA0 hval0 hsz0
  have b0 := u64_wf' w0
  have b1 := u64_wf' w1
  have b2 := i64_wf' w2
  have hwalk : Calls Try.prog 5 #[.int .u64 a0, .int .u64 a1, .int .i64 a2, .slice A l.length cap] W fun e w' => e = .returned (.bool true) ∧ Below W.heap.size W w' := by
    by_cases hbad : a0 < 1 ∨ 4611686018427387904 < a0 ∨ 4611686018427387904 < a1 ∨ a2 < 1 ∨ 65536 < a2
    · exact windowPlays_bad a0 a1 a2 A cap l.length W hl.len hbad
    · exact windowPlays_walk a0 a1 a2 (by omega) (by omega) (by omega) (by omega) (by omega) (by omega) A cap l W hl
  refine hwalk.mono fun e W' ⟨he, bel⟩ => ?_
  subst he
  exact ⟨_, rfl, _, _, _, [], _, [], hW', trodAll_mk1 (shut_bool Try.underlying4 _), (trodAll_cons_mk (shut_int Try.underlying22 w0) (trodAll_cons_mk (shut_int Try.underlying22 w1) (trodAll_cons_mk (shut_int Try.underlying3 w2) (trodAll_cons_mk (Below.trod laidOut (by kernel_rfl) (by decide) h3 bel hlt) trodAll_mk0)))), rfl, bel.frame _, fun h => by cases h⟩
theorem over : Rows.windowPlaysRow.holds Try.pinned (OpenSpec.ofChange Rows.windowPlaysSpec) :=
  OpenClaim.holds_of_wide 5 Try.f5 rfl rfl rfl rfl rfl rfl rfl ⟨rfl, rfl, rfl, rfl, rfl⟩ rfl rfl rfl rfl rfl (by kernel_rfl) Try.func5 (by kernel_rfl)
    (of_decide_eq_true (by kernel_rfl)) (by unfold Func.isWrapper; first | (rw [if_pos (by decide +kernel)]; kernel_rfl) | (rw [if_neg (by decide +kernel)]; exact ⟨rfl, rfl⟩))
    (fun os started H enc _ => lifted os started H enc)
theorem proved : Rows.WindowPlaysSaid := over
end Go.Proofs.Ytdiepeomhnkgpaa.windowPlays
namespace Go.Proofs.Ytdiepeomhnkgpaa
theorem windowPlays_holds : Rows.WindowPlaysSaid := windowPlays.proved
#print axioms windowPlays_holds
end Go.Proofs.Ytdiepeomhnkgpaa
