-- Printed by print.sh; its case aR turned by wip/fixtake.py.
import Derived.Test.YtdiepeomhnkgpaaPWindowPlaysx0
namespace Go.Proofs.Ytdiepeomhnkgpaa.PWindowPlays
open Go.RowKit Go.Proofs.YtdiepeomhnkgpaaW.PrintWords Go.Proofs.YtdiepeomhnkgpaaW.PrintLast Go.Proofs.YtdiepeomhnkgpaaW.PrintMore
attribute [local go_sem] max2_int min2_int max_two min_two max_three min_three max_four min_four   -- for this text's walks alone
set_option linter.unusedVariables false
set_option linter.unusedSimpArgs false

/-! ### tallyroomref19_Book_Drop: function 21 -/
def tallyroomref19_Book_Drop.f (a0_0 : Int) (a0_1 : Int) (a0_2 : Int) (a0_3 : Int) (l0_4 : List Int) (l0_5 : List Int) (a1 : Int) : Option (Int × Int × Int × Int × List Int × List Int) := (some (([] : List Int) : List Int)).bind fun y286 => (if 0 ≤ a1 then (if a1 ≤ (l0_4.length : Int) then (if y286.length + (l0_4.take (a1 : Int).toNat).length < 17592186044416 then ((some (y286 ++ (l0_4.take (a1 : Int).toNat) : List Int)).bind fun y290 => (if 0 ≤ (wrap64 (a1 + 1)) then (if (wrap64 (a1 + 1)) ≤ (l0_4.length : Int) then (if y290.length + (l0_4.drop ((wrap64 (a1 + 1)) : Int).toNat).length < 17592186044416 then ((some (([] : List Int) : List Int)).bind fun y297 => (if a1 ≤ (l0_5.length : Int) then (if y297.length + (l0_5.take (a1 : Int).toNat).length < 17592186044416 then ((some (y297 ++ (l0_5.take (a1 : Int).toNat) : List Int)).bind fun y301 => (if (wrap64 (a1 + 1)) ≤ (l0_5.length : Int) then (if y301.length + (l0_5.drop ((wrap64 (a1 + 1)) : Int).toNat).length < 17592186044416 then (some (a0_0, a0_1, a0_2, a0_3, (y290 ++ (l0_4.drop ((wrap64 (a1 + 1)) : Int).toNat)), (y301 ++ (l0_5.drop ((wrap64 (a1 + 1)) : Int).toNat)))) else (none)) else (none))) else (none)) else (none))) else (none)) else (none)) else (none))) else (none)) else (none)) else (none))
def tallyroomref19_Book_Drop.T1 : Bool × List (List Nat × List Nat) := (true, [([], []), ([], []), ([1], [1]), ([], []), ([2, 3], [2, 3]), ([0, 4], [0, 4]), ([], []), ([6], [6]), ([], []), ([8], [8]), ([7, 9], [7, 9]), ([5, 10, 5], [5, 10]), ([0, 1, 2, 3, 4, 5, 6, 7, 8, 9, 10, 11], []), ([12, 11, 11, 0, 1, 2, 3, 4, 5, 6, 7, 8, 9, 10, 11], [11, 12])])
def tallyroomref19_Book_Drop.B1 : List Nat := [0, 0, 2, 0, 14, 31, 0, 64, 0, 256, 960, 2047, 4095, 8191]
theorem tallyroomref19_Book_Drop.tab1 : rtab .any (opsOf Try.f21 1) = tallyroomref19_Book_Drop.T1 := by kernel_rfl
theorem tallyroomref19_Book_Drop.bits1 : waitsOk tallyroomref19_Book_Drop.T1.2 tallyroomref19_Book_Drop.B1 = true := by kernel_rfl
def tallyroomref19_Book_Drop.T2 : Bool × List (List Nat × List Nat) := (true, [([], []), ([], []), ([1], [1]), ([], []), ([2, 3], [2, 3]), ([0, 4], [0, 4]), ([], []), ([6], [6]), ([], []), ([8], [8]), ([7, 9], [7, 9]), ([5, 10, 5], [5, 10]), ([0, 1, 2, 3, 4, 5, 6, 7, 8, 9, 10, 11], []), ([12, 11, 11, 0, 1, 2, 3, 4, 5, 6, 7, 8, 9, 10, 11], [11, 12])])
def tallyroomref19_Book_Drop.B2 : List Nat := [0, 0, 2, 0, 14, 31, 0, 64, 0, 256, 960, 2047, 4095, 8191]
theorem tallyroomref19_Book_Drop.tab2 : rtab .any (opsOf Try.f21 2) = tallyroomref19_Book_Drop.T2 := by kernel_rfl
theorem tallyroomref19_Book_Drop.bits2 : waitsOk tallyroomref19_Book_Drop.T2.2 tallyroomref19_Book_Drop.B2 = true := by kernel_rfl
set_option maxHeartbeats 8000000 in
set_option maxRecDepth 100000 in
theorem tallyroomref19_Book_Drop.calls (a0_0 : Int) (a0_1 : Int) (a0_2 : Int) (a0_3 : Int) (A0_4 : Option Addr) (c0_4 : Nat) (l0_4 : List Int) (A0_5 : Option Addr) (c0_5 : Nat) (l0_5 : List Int) (a1 : Int) (r1 : Int) (r2 : Int) (r3 : Int) (r4 : Int) (r5 : List Int) (r6 : List Int) (w : World) (hr0_4 : Kd.C (Kd.int .u64) w A0_4 l0_4.length l0_4) (hc0_4 : l0_4.length ≤ c0_4) (hr0_5 : Kd.C (Kd.int .i64) w A0_5 l0_5.length l0_5) (hc0_5 : l0_5.length ≤ c0_5) (h : tallyroomref19_Book_Drop.f a0_0 a0_1 a0_2 a0_3 l0_4 l0_5 a1 = some (r1, r2, r3, r4, r5, r6)) :
    Calls Try.prog 21 #[.agg #[.int .u64 a0_0, .int .u64 a0_1, .int .i64 a0_2, .int .u64 a0_3, .slice A0_4 l0_4.length c0_4, .slice A0_5 l0_5.length c0_5], .int .i64 a1] w fun e w' => ∃ v4_ v5_ : Value, e = .returned (.agg #[.int .u64 r1, .int .u64 r2, .int .i64 r3, .int .u64 r4, v4_, v5_]) ∧ Kd.R (Kd.int .u64) 22 w' w.heap.size (fun _ => True) v4_ r5 ∧ Kd.R (Kd.int .i64) 3 w' w.heap.size (fun _ => True) v5_ r6 ∧ Below w.heap.size w w' := by
  have hu45 := Try.underlying45
  have HR0_4 := Aside0.mk hr0_4
  have HC0_4 := Aside0.mk hc0_4
  clear hr0_4 hc0_4
  have HR0_5 := Aside0.mk hr0_5
  have HC0_5 := Aside0.mk hc0_5
  clear hr0_5 hc0_5
  have HB := Aside0.mk (Below.refl w.heap.size w)
  have H : ((some (([] : List Int) : List Int)).bind fun y286 => (if 0 ≤ a1 then (if a1 ≤ (l0_4.length : Int) then (if y286.length + (l0_4.take (a1 : Int).toNat).length < 17592186044416 then ((some (y286 ++ (l0_4.take (a1 : Int).toNat) : List Int)).bind fun y290 => (if 0 ≤ (wrap64 (a1 + 1)) then (if (wrap64 (a1 + 1)) ≤ (l0_4.length : Int) then (if y290.length + (l0_4.drop ((wrap64 (a1 + 1)) : Int).toNat).length < 17592186044416 then ((some (([] : List Int) : List Int)).bind fun y297 => (if a1 ≤ (l0_5.length : Int) then (if y297.length + (l0_5.take (a1 : Int).toNat).length < 17592186044416 then ((some (y297 ++ (l0_5.take (a1 : Int).toNat) : List Int)).bind fun y301 => (if (wrap64 (a1 + 1)) ≤ (l0_5.length : Int) then (if y301.length + (l0_5.drop ((wrap64 (a1 + 1)) : Int).toNat).length < 17592186044416 then (some (a0_0, a0_1, a0_2, a0_3, (y290 ++ (l0_4.drop ((wrap64 (a1 + 1)) : Int).toNat)), (y301 ++ (l0_5.drop ((wrap64 (a1 + 1)) : Int).toNat)))) else (none)) else (none))) else (none)) else (none))) else (none)) else (none)) else (none))) else (none)) else (none)) else (none))) = some (r1, r2, r3, r4, r5, r6) := h
  clear h
  obtain ⟨y286, hy286⟩ : ∃ y_ : List Int, y_ = (([] : List Int)) := ⟨_, rfl⟩
  replace H : (if 0 ≤ a1 then (if a1 ≤ (l0_4.length : Int) then (if y286.length + (l0_4.take (a1 : Int).toNat).length < 17592186044416 then ((some (y286 ++ (l0_4.take (a1 : Int).toNat) : List Int)).bind fun y290 => (if 0 ≤ (wrap64 (a1 + 1)) then (if (wrap64 (a1 + 1)) ≤ (l0_4.length : Int) then (if y290.length + (l0_4.drop ((wrap64 (a1 + 1)) : Int).toNat).length < 17592186044416 then ((some (([] : List Int) : List Int)).bind fun y297 => (if a1 ≤ (l0_5.length : Int) then (if y297.length + (l0_5.take (a1 : Int).toNat).length < 17592186044416 then ((some (y297 ++ (l0_5.take (a1 : Int).toNat) : List Int)).bind fun y301 => (if (wrap64 (a1 + 1)) ≤ (l0_5.length : Int) then (if y301.length + (l0_5.drop ((wrap64 (a1 + 1)) : Int).toNat).length < 17592186044416 then (some (a0_0, a0_1, a0_2, a0_3, (y290 ++ (l0_4.drop ((wrap64 (a1 + 1)) : Int).toNat)), (y301 ++ (l0_5.drop ((wrap64 (a1 + 1)) : Int).toNat)))) else (none)) else (none))) else (none)) else (none))) else (none)) else (none)) else (none))) else (none)) else (none)) else (none)) = some (r1, r2, r3, r4, r5, r6) := by first | (rw [hy286]; with_reducible exact H) | (have H2_ := (Option.bind_some _ _).symm.trans H; rw [hy286]; with_reducible exact H2_) | (have H2_ := (Option.bind_some _ _).symm.trans H; with_reducible exact H2_) | with_reducible exact H | (rw [hy286]; exact H) | exact H
  have Ny286 := Aside0.mk hy286
  clear hy286
  by_cases c3 : 0 ≤ a1
  · rw [if_pos c3] at H
    have c3b0 := eq_true c3
    have c3b1 : decide (0 ≤ a1) = true := decide_eq_true c3
    clear c3
    by_cases c4 : a1 ≤ (l0_4.length : Int)
    · rw [if_pos c4] at H
      have c4b0 := eq_true c4
      have c4b1 : decide (a1 ≤ (l0_4.length : Int)) = true := decide_eq_true c4
      clear c4
      by_cases c5 : y286.length + (l0_4.take (a1 : Int).toNat).length < 17592186044416
      · rw [if_pos c5] at H
        have LMc5 := Aside0.mk c5
        clear c5
        obtain ⟨y290, hy290⟩ : ∃ y_ : List Int, y_ = (y286 ++ (l0_4.take (a1 : Int).toNat)) := ⟨_, rfl⟩
        replace H : (if 0 ≤ (wrap64 (a1 + 1)) then (if (wrap64 (a1 + 1)) ≤ (l0_4.length : Int) then (if y290.length + (l0_4.drop ((wrap64 (a1 + 1)) : Int).toNat).length < 17592186044416 then ((some (([] : List Int) : List Int)).bind fun y297 => (if a1 ≤ (l0_5.length : Int) then (if y297.length + (l0_5.take (a1 : Int).toNat).length < 17592186044416 then ((some (y297 ++ (l0_5.take (a1 : Int).toNat) : List Int)).bind fun y301 => (if (wrap64 (a1 + 1)) ≤ (l0_5.length : Int) then (if y301.length + (l0_5.drop ((wrap64 (a1 + 1)) : Int).toNat).length < 17592186044416 then (some (a0_0, a0_1, a0_2, a0_3, (y290 ++ (l0_4.drop ((wrap64 (a1 + 1)) : Int).toNat)), (y301 ++ (l0_5.drop ((wrap64 (a1 + 1)) : Int).toNat)))) else (none)) else (none))) else (none)) else (none))) else (none)) else (none)) else (none)) = some (r1, r2, r3, r4, r5, r6) := by first | (rw [hy290]; with_reducible exact H) | (have H2_ := (Option.bind_some _ _).symm.trans H; rw [hy290]; with_reducible exact H2_) | (have H2_ := (Option.bind_some _ _).symm.trans H; with_reducible exact H2_) | with_reducible exact H | (rw [hy290]; exact H) | exact H
        have Ny290 := Aside0.mk hy290
        clear hy290
        obtain ⟨ji6, hji6⟩ : ∃ j_ : Int, (wrap64 (a1 + 1)) = j_ := ⟨_, rfl⟩
        replace H : (if 0 ≤ (ji6) then (if (ji6) ≤ (l0_4.length : Int) then (if y290.length + (l0_4.drop ((ji6) : Int).toNat).length < 17592186044416 then ((some (([] : List Int) : List Int)).bind fun y297 => (if a1 ≤ (l0_5.length : Int) then (if y297.length + (l0_5.take (a1 : Int).toNat).length < 17592186044416 then ((some (y297 ++ (l0_5.take (a1 : Int).toNat) : List Int)).bind fun y301 => (if (ji6) ≤ (l0_5.length : Int) then (if y301.length + (l0_5.drop ((ji6) : Int).toNat).length < 17592186044416 then (some (a0_0, a0_1, a0_2, a0_3, (y290 ++ (l0_4.drop ((ji6) : Int).toNat)), (y301 ++ (l0_5.drop ((ji6) : Int).toNat)))) else (none)) else (none))) else (none)) else (none))) else (none)) else (none)) else (none)) = some (r1, r2, r3, r4, r5, r6) := by first | (rw [hji6] at H; exact H) | (simp only [hji6] at H ⊢; exact H)
        have hji6w : (IntKind.i64.wrap (a1 + 1)) = ji6 := (i64_w _).trans hji6
        by_cases c7 : 0 ≤ (ji6)
        · rw [if_pos c7] at H
          have c7b0 := eq_true c7
          have c7b1 : decide (0 ≤ (ji6)) = true := decide_eq_true c7
          clear c7
          by_cases c8 : (ji6) ≤ (l0_4.length : Int)
          · rw [if_pos c8] at H
            have c8b0 := eq_true c8
            have c8b1 : decide ((ji6) ≤ (l0_4.length : Int)) = true := decide_eq_true c8
            clear c8
            by_cases c9 : y290.length + (l0_4.drop ((ji6) : Int).toNat).length < 17592186044416
            · rw [if_pos c9] at H
              have LMc9 := Aside0.mk c9
              clear c9
              obtain ⟨y294, hy294⟩ : ∃ y_ : List Int, y_ = (y290 ++ (l0_4.drop ((ji6) : Int).toNat)) := ⟨_, rfl⟩
              replace H : ((some (([] : List Int) : List Int)).bind fun y297 => (if a1 ≤ (l0_5.length : Int) then (if y297.length + (l0_5.take (a1 : Int).toNat).length < 17592186044416 then ((some (y297 ++ (l0_5.take (a1 : Int).toNat) : List Int)).bind fun y301 => (if (ji6) ≤ (l0_5.length : Int) then (if y301.length + (l0_5.drop ((ji6) : Int).toNat).length < 17592186044416 then (some (a0_0, a0_1, a0_2, a0_3, y294, (y301 ++ (l0_5.drop ((ji6) : Int).toNat)))) else (none)) else (none))) else (none)) else (none))) = some (r1, r2, r3, r4, r5, r6) := by first | (rw [hy294]; with_reducible exact H) | (have H2_ := (Option.bind_some _ _).symm.trans H; rw [hy294]; with_reducible exact H2_) | (have H2_ := (Option.bind_some _ _).symm.trans H; with_reducible exact H2_) | with_reducible exact H | (rw [hy294]; exact H) | exact H
              have Ny294 := Aside0.mk hy294
              clear hy294
              obtain ⟨y297, hy297⟩ : ∃ y_ : List Int, y_ = (([] : List Int)) := ⟨_, rfl⟩
              replace H : (if a1 ≤ (l0_5.length : Int) then (if y297.length + (l0_5.take (a1 : Int).toNat).length < 17592186044416 then ((some (y297 ++ (l0_5.take (a1 : Int).toNat) : List Int)).bind fun y301 => (if (ji6) ≤ (l0_5.length : Int) then (if y301.length + (l0_5.drop ((ji6) : Int).toNat).length < 17592186044416 then (some (a0_0, a0_1, a0_2, a0_3, y294, (y301 ++ (l0_5.drop ((ji6) : Int).toNat)))) else (none)) else (none))) else (none)) else (none)) = some (r1, r2, r3, r4, r5, r6) := by first | (rw [hy297]; with_reducible exact H) | (have H2_ := (Option.bind_some _ _).symm.trans H; rw [hy297]; with_reducible exact H2_) | (have H2_ := (Option.bind_some _ _).symm.trans H; with_reducible exact H2_) | with_reducible exact H | (rw [hy297]; exact H) | exact H
              have Ny297 := Aside0.mk hy297
              clear hy297
              have c10b0 := eq_true (of_decide_eq_true (by first | (with_reducible assumption) | assumption) : 0 ≤ a1)
              by_cases c11 : a1 ≤ (l0_5.length : Int)
              · rw [if_pos c11] at H
                have c11b0 := eq_true c11
                have c11b1 : decide (a1 ≤ (l0_5.length : Int)) = true := decide_eq_true c11
                clear c11
                by_cases c12 : y297.length + (l0_5.take (a1 : Int).toNat).length < 17592186044416
                · rw [if_pos c12] at H
                  have LMc12 := Aside0.mk c12
                  clear c12
                  obtain ⟨y301, hy301⟩ : ∃ y_ : List Int, y_ = (y297 ++ (l0_5.take (a1 : Int).toNat)) := ⟨_, rfl⟩
                  replace H : (if (ji6) ≤ (l0_5.length : Int) then (if y301.length + (l0_5.drop ((ji6) : Int).toNat).length < 17592186044416 then (some (a0_0, a0_1, a0_2, a0_3, y294, (y301 ++ (l0_5.drop ((ji6) : Int).toNat)))) else (none)) else (none)) = some (r1, r2, r3, r4, r5, r6) := by first | (rw [hy301]; with_reducible exact H) | (have H2_ := (Option.bind_some _ _).symm.trans H; rw [hy301]; with_reducible exact H2_) | (have H2_ := (Option.bind_some _ _).symm.trans H; with_reducible exact H2_) | with_reducible exact H | (rw [hy301]; exact H) | exact H
                  have Ny301 := Aside0.mk hy301
                  clear hy301
                  have c13b0 := eq_true (of_decide_eq_true (by first | (with_reducible assumption) | assumption) : 0 ≤ (ji6))
                  by_cases c14 : (ji6) ≤ (l0_5.length : Int)
                  · rw [if_pos c14] at H
                    have c14b0 := eq_true c14
                    have c14b1 : decide ((ji6) ≤ (l0_5.length : Int)) = true := decide_eq_true c14
                    clear c14
                    by_cases c15 : y301.length + (l0_5.drop ((ji6) : Int).toNat).length < 17592186044416
                    · rw [if_pos c15] at H
                      have LMc15 := Aside0.mk c15
                      clear c15
                      obtain ⟨y305, hy305⟩ : ∃ y_ : List Int, y_ = (y301 ++ (l0_5.drop ((ji6) : Int).toNat)) := ⟨_, rfl⟩
                      replace H : (some (a0_0, a0_1, a0_2, a0_3, y294, y305)) = some (r1, r2, r3, r4, r5, r6) := by first | (rw [hy305]; with_reducible exact H) | (have H2_ := (Option.bind_some _ _).symm.trans H; rw [hy305]; with_reducible exact H2_) | (have H2_ := (Option.bind_some _ _).symm.trans H; with_reducible exact H2_) | with_reducible exact H | (rw [hy305]; exact H) | exact H
                      have Ny305 := Aside0.mk hy305
                      clear hy305
                      simp only [Option.some.injEq, Prod.mk.injEq] at H
                      obtain ⟨rfl, rfl, rfl, rfl, rfl, rfl⟩ := H
                      go_enter Try.func21, Try.ntmps21
                      try go_wp2_with (first | ((with_reducible refine gate_dst (N := 2) rfl ?_); refine box_event ?hg (N := 2) ?hd (cs := #[.int .u64 a0_0, .int .u64 a0_1, .int .i64 a0_2, .int .u64 a0_3, .slice A0_4 l0_4.length c0_4, .slice A0_5 l0_5.length c0_5]) (t := 45) ?hr ?_; (case hd => rfl); (case hg => rfl); (case hr => first | (go_simp; done) | (go_simp; rfl)); intro gb284 hg w16 hbox hb; have n0_ := Aside0.mk (below_step (by repeat (first | (with_reducible first | exact HB.out | apply below_alloc | apply pw_below_drewN | apply below_drew1) | exact HB.out)) hb); have n1_ := Aside0.mk (hbox); have n2_ := Aside0.mk ((by rw [hg]; exact (below_size (by repeat (first | (with_reducible first | exact HB.out | apply below_alloc | apply pw_below_drewN | apply below_drew1) | exact HB.out))) : w.heap.size ≤ gb284)); have n3_ := Aside0.mk ((by rw [hg]; exact (below_size (by repeat (first | (with_reducible first | exact HB.out | apply below_alloc | apply pw_below_drewN | apply below_drew1) | exact HB.out))) : w.heap.size ≤ gb284)); clear HB; have HB := n0_; have BK284 := n1_; have GW284 := n2_; have GE284 := n3_; clear n0_ n1_ n2_ n3_; clear hb hbox hg) | ((with_reducible refine gate_dst (N := 4) rfl ?_); refine box_event ?hg (N := 4) ?hd (cs := #[.int .u64 0, .int .u64 0, .int .i64 0, .int .u64 0, .slice none 0 0, .slice none 0 0]) (t := 45) ?hr ?_; (case hd => rfl); (case hg => rfl); (case hr => first | (go_simp; done) | (go_simp; rfl)); intro gb285 hg w17 hbox hb; have n0_ := Aside0.mk (blk_below (g := gb284) (o := .cells #[.int .u64 a0_0, .int .u64 a0_1, .int .i64 a0_2, .int .u64 a0_3, .slice A0_4 l0_4.length c0_4, .slice A0_5 l0_5.length c0_5] 45 (0, 0)) (by (with_reducible repeat (first | refine blk_drewN ?_ _ | refine blk_drew ?_ | refine blk_alloc ?_ _)); exact BK284.out) hb); have n1_ := Aside0.mk (below_step (by repeat (first | (with_reducible first | exact HB.out | apply below_alloc | apply pw_below_drewN | apply below_drew1 | refine below_set ?_ GE284.out) | exact HB.out)) hb); have n2_ := Aside0.mk (hbox); have n3_ := Aside0.mk ((by rw [hg]; exact (below_size (by repeat (first | (with_reducible first | exact HB.out | apply below_alloc | apply pw_below_drewN | apply below_drew1 | refine below_set ?_ GE284.out) | exact HB.out))) : w.heap.size ≤ gb285)); have n4_ := Aside0.mk ((by rw [hg]; exact (below_size (by repeat (first | (with_reducible first | exact HB.out | apply below_alloc | apply pw_below_drewN | apply below_drew1 | refine below_set ?_ GE284.out) | exact HB.out))) : w.heap.size ≤ gb285)); have n5_ := Aside0.mk ((by rw [hg]; exact Nat.ne_of_lt (blk_lt (g := gb284) (o := .cells #[.int .u64 a0_0, .int .u64 a0_1, .int .i64 a0_2, .int .u64 a0_3, .slice A0_4 l0_4.length c0_4, .slice A0_5 l0_5.length c0_5] 45 (0, 0)) (by (with_reducible repeat (first | refine blk_drewN ?_ _ | refine blk_drew ?_ | refine blk_alloc ?_ _)); exact BK284.out)) : gb284 ≠ gb285)); have n6_ := Aside0.mk ((by rw [hg]; exact Nat.ne_of_gt (blk_lt (g := gb284) (o := .cells #[.int .u64 a0_0, .int .u64 a0_1, .int .i64 a0_2, .int .u64 a0_3, .slice A0_4 l0_4.length c0_4, .slice A0_5 l0_5.length c0_5] 45 (0, 0)) (by (with_reducible repeat (first | refine blk_drewN ?_ _ | refine blk_drew ?_ | refine blk_alloc ?_ _)); exact BK284.out)) : gb285 ≠ gb284)); clear BK284; clear HB; have BK284 := n0_; have HB := n1_; have BK285 := n2_; have GW285 := n3_; have GE285 := n4_; have NB284_285 := n5_; have NB285_284 := n6_; clear n0_ n1_ n2_ n3_ n4_ n5_ n6_; clear hb hbox hg))
                      have n0_ := Aside0.mk (blk_drew BK284.out)
                      have n1_ := Aside0.mk (blk_drew BK285.out)
                      have n2_ := Aside0.mk (below_drew1 HB.out)
                      clear BK284
                      clear BK285
                      clear HB
                      have BK284 := n0_
                      have BK285 := n1_
                      have HB := n2_
                      clear n0_ n1_ n2_
                      obtain ⟨i019, hi019, _, hsz19, _⟩ := info_parts info22
                      obtain ⟨hcut19, hA19, hC19⟩ := print_take_of (P := Try.prog) (Value.int .u64) 0 32 22 .i64 Try.underlying32 hi019 hsz19 A0_4 c0_4 l0_4 a1 (of_decide_eq_true (by first | (with_reducible assumption) | assumption)) (of_decide_eq_true (by first | (with_reducible assumption) | assumption)) HC0_4.out
                      have HR289 := Aside0.mk (Kd.C_of_reads (h1 := fun _ => rfl) (hA19 _ (Kd.reads_of_C HR0_4.out)))
                      have HC289 := Aside0.mk hC19
                      clear hA19 hC19 hi019 hsz19
                      obtain ⟨i020, hi020, _, hsz20, _⟩ := info_parts info22
                      obtain ⟨A20, hcut20, hA20, hC20⟩ := print_drop_of (P := Try.prog) (Value.int .u64) 0 32 22 .i64 Try.underlying32 hi020 hsz20 A0_4 c0_4 l0_4 (ji6) (of_decide_eq_true (by first | (with_reducible assumption) | assumption)) (of_decide_eq_true (by first | (with_reducible assumption) | assumption)) HC0_4.out
                      have HR293 := Aside0.mk (Kd.C_of_reads (h1 := fun _ => rfl) (hA20 _ (Kd.reads_of_C HR0_4.out)))
                      have HC293 := Aside0.mk hC20
                      clear hA20 hC20 hi020 hsz20
                      refine start_ (n := 14) (S := fun w' => w'.cell? ⟨gb284, 0, none⟩ = some (.int .u64 a0_0) ∧ w'.cell? ⟨gb284, 1, none⟩ = some (.int .u64 a0_1) ∧ w'.cell? ⟨gb284, 2, none⟩ = some (.int .i64 a0_2) ∧ w'.cell? ⟨gb284, 3, none⟩ = some (.int .u64 a0_3) ∧ w'.cell? ⟨gb284, 4, none⟩ = some (.slice A0_4 l0_4.length c0_4) ∧ w'.cell? ⟨gb284, 5, none⟩ = some (.slice A0_5 l0_5.length c0_5)) (ds := [13]) #[false, false, false, false, false, false, false, false, false, false, false, false, false, false] (by kernel_rfl) rfl rfl ⟨(blk_cell BK284.out 0).trans rfl, (blk_cell BK284.out 1).trans rfl, (blk_cell BK284.out 2).trans rfl, (blk_cell BK284.out 3).trans rfl, (blk_cell BK284.out 4).trans rfl, (blk_cell BK284.out 5).trans rfl⟩ (fun hHeld => ?_); refine with_tabW tallyroomref19_Book_Drop.tab1 tallyroomref19_Book_Drop.bits1 (fun HT_ HW_ => ?_)
                      generalize w17.drew = w18 at BK284 BK285 HB HR289 HR293 hHeld ⊢
                      refine pure_ (i := 1) (N := some 6) (v := ?_) (a' := ?_) #[false, true, false, false, false, false, false, false, false, false, false, false, false, false] rfl rfl (any_of HT_.out (by kernel_rfl)) (fun _ _ _ h => h) (Or.inl ⟨by rfl, ?_⟩) ?_ ?_
                      rotate_left
                      · intro w'
                        go_simp
                        with_reducible rfl
                      rotate_left
                      · simp only [Act.put, List.setIfInBounds_toArray, List.set_cons_zero, List.set_cons_succ, i64_w, i32_w]
                        rfl
                      refine pure_ (i := 3) (N := some 8) (v := ?_) (a' := ?_) #[false, true, false, true, false, false, false, false, false, false, false, false, false, false] rfl rfl (any_of HT_.out (by kernel_rfl)) (fun _ _ _ h => h) (Or.inl ⟨by rfl, ?_⟩) ?_ ?_
                      rotate_left
                      · intro w'
                        go_simp
                        with_reducible rfl
                      rotate_left
                      · simp only [Act.put, List.setIfInBounds_toArray, List.set_cons_zero, List.set_cons_succ, i64_w, i32_w]
                        rfl
                      refine pure_ (i := 6) (N := some 11) (v := ?_) (a' := ?_) #[false, true, false, true, false, false, true, false, false, false, false, false, false, false] rfl rfl (any_of HT_.out (by kernel_rfl)) (fun _ _ _ h => h) (Or.inl ⟨by rfl, ?_⟩) ?_ ?_
                      rotate_left
                      · intro w'
                        go_simp
                        with_reducible rfl
                      rotate_left
                      · simp only [Act.put, List.setIfInBounds_toArray, List.set_cons_zero, List.set_cons_succ, i64_w, i32_w]
                        rfl
                      refine pure_ (i := 8) (N := some 13) (v := ?_) (a' := ?_) #[false, true, false, true, false, false, true, false, true, false, false, false, false, false] rfl rfl (any_of HT_.out (by kernel_rfl)) (fun _ _ _ h => h) (Or.inl ⟨by rfl, ?_⟩) ?_ ?_
                      rotate_left
                      · intro w'
                        go_simp
                        with_reducible rfl
                      rotate_left
                      · simp only [Act.put, List.setIfInBounds_toArray, List.set_cons_zero, List.set_cons_succ, i64_w, i32_w]
                        rfl
                      refine pure_ (i := 9) (N := some 14) (v := ?_) (a' := ?_) #[false, true, false, true, false, false, true, false, true, true, false, false, false, false] rfl rfl (any_of HT_.out (by kernel_rfl)) (fun _ _ _ h => h) (Or.inl ⟨by rfl, ?_⟩) ?_ ?_
                      rotate_left
                      · intro w'
                        go_simp
                        with_reducible rfl
                      rotate_left
                      · simp only [Act.put, List.setIfInBounds_toArray, List.set_cons_zero, List.set_cons_succ, i64_w, i32_w]
                        rfl
                      refine take_ (i := 2) (N := some 7) (v := ?_) (a' := ?_) #[false, true, true, true, false, false, true, false, true, true, false, false, false, false] rfl rfl (take_ofW HT_.out HW_.out (by kernel_rfl)) (fun _ _ _ h => h) (Or.inl ⟨by rfl, ?_⟩) hHeld ?_ ?_
                      rotate_left
                      · rintro w' ⟨s0, s1, s2, s3, s4, s5⟩
                        go_simp
                        with_reducible rfl
                      rotate_left
                      · simp only [Act.put, List.setIfInBounds_toArray, List.set_cons_zero, List.set_cons_succ, i64_w, i32_w]
                        rfl
                      refine pure_ (i := 4) (N := some 9) (v := ?_) (a' := ?_) #[false, true, true, true, true, false, true, false, true, true, false, false, false, false] rfl rfl (any_of HT_.out (by kernel_rfl)) (fun _ _ _ h => h) (Or.inl ⟨by rfl, ?_⟩) ?_ ?_
                      rotate_left
                      · intro w'
                        go_simp
                        with_reducible rfl
                      rotate_left
                      · simp only [Act.put, List.setIfInBounds_toArray, List.set_cons_zero, List.set_cons_succ, i64_w, i32_w]
                        rfl
                      refine take_ (i := 7) (N := some 12) (v := ?_) (a' := ?_) #[false, true, true, true, true, false, true, true, true, true, false, false, false, false] rfl rfl (take_ofW HT_.out HW_.out (by kernel_rfl)) (fun _ _ _ h => h) (Or.inl ⟨by rfl, ?_⟩) hHeld ?_ ?_
                      rotate_left
                      · rintro w' ⟨s0, s1, s2, s3, s4, s5⟩
                        go_simp
                        with_reducible rfl
                      rotate_left
                      · simp only [Act.put, List.setIfInBounds_toArray, List.set_cons_zero, List.set_cons_succ, i64_w, i32_w]
                        rfl
                      refine pure_ (i := 10) (N := some 15) (v := ?_) (a' := ?_) #[false, true, true, true, true, false, true, true, true, true, true, false, false, false] rfl rfl (any_of HT_.out (by kernel_rfl)) (fun _ _ _ h => h) (Or.inl ⟨by rfl, ?_⟩) ?_ ?_
                      rotate_left
                      · intro w'
                        go_simp
                        with_reducible rfl
                      rotate_left
                      · simp only [Act.put, List.setIfInBounds_toArray, List.set_cons_zero, List.set_cons_succ, i64_w, i32_w]
                        rfl
                      refine one_ (i := 0) (N := some 5) #[true, true, true, true, true, false, true, true, true, true, true, false, false, false] rfl rfl (one_of HT_.out (by kernel_rfl)) (by decide) (fun K hK => ?_)
                      refine Kd.R_lit_step (Kd.int .u64) _ 22 ?hg (N := 5) ?hd (xs := ([] : List Int)) (inner := []) (ok := fun _ => True) (okp := fun _ => True) ?hr ?hp (fun _ hk => hk) trivial (Below.refl _ _) (Nat.le_refl _) (by simp) ?_; (case hd => rfl); (case hg => rfl); (case hr => first | (go_simp; done) | (go_simp; rfl)); (case hp => exact (Reps.none _ _))
                      intro v287 w21 ho22 hb hg_ hnew_
                      clear hg_ hnew_
                      (first | rw [← Ny286.out] at ho22 | (simp only [Int.reduceToNat] at ho22; rw [← Ny286.out] at ho22))
                      have n0_ := Aside0.mk (Kd.R_lower ho22 (below_size (by repeat (first | (with_reducible first | exact HB.out | apply below_alloc | apply pw_below_drewN | apply below_drew1 | refine below_set ?_ GE284.out | refine below_set ?_ GE285.out) | exact HB.out))))
                      have n1_ := Aside0.mk (blk_below (g := gb284) (o := .cells #[.int .u64 a0_0, .int .u64 a0_1, .int .i64 a0_2, .int .u64 a0_3, .slice A0_4 l0_4.length c0_4, .slice A0_5 l0_5.length c0_5] 45 (0, 0)) (by (with_reducible repeat (first | refine blk_drewN ?_ _ | refine blk_drew ?_ | refine blk_alloc ?_ _)); exact BK284.out) hb)
                      have n2_ := Aside0.mk (blk_below (g := gb285) (o := .cells #[.int .u64 0, .int .u64 0, .int .i64 0, .int .u64 0, .slice none 0 0, .slice none 0 0] 45 (0, 0)) (by (with_reducible repeat (first | refine blk_drewN ?_ _ | refine blk_drew ?_ | refine blk_alloc ?_ _)); exact BK285.out) hb)
                      have n3_ := Aside0.mk (below_step (by repeat (first | (with_reducible first | exact HB.out | apply below_alloc | apply pw_below_drewN | apply below_drew1 | refine below_set ?_ GE284.out | refine below_set ?_ GE285.out) | exact HB.out)) hb)
                      clear BK284
                      clear BK285
                      clear HB
                      have HO288 := n0_
                      have BK284 := n1_
                      have BK285 := n2_
                      have HB := n3_
                      clear n0_ n1_ n2_ n3_
                      clear hb ho22
                      refine hK.out _ _ ⟨(blk_cell BK284.out 0).trans rfl, (blk_cell BK284.out 1).trans rfl, (blk_cell BK284.out 2).trans rfl, (blk_cell BK284.out 3).trans rfl, (blk_cell BK284.out 4).trans rfl, (blk_cell BK284.out 5).trans rfl⟩ (fun hHeld => ?_)
                      clear hK K
                      refine norm_ (a' := ?_) ?_ ?_
                      rotate_left
                      · show Act.put _ (some 5) _ = _
                        simp only [Act.put, List.setIfInBounds_toArray, List.set_cons_zero, List.set_cons_succ, i64_w, i32_w]
                        rfl
                      refine one_ (i := 5) (N := some 10) #[true, true, true, true, true, true, true, true, true, true, true, false, false, false] rfl rfl (one_of HT_.out (by kernel_rfl)) (by decide) (fun K hK => ?_)
                      refine Kd.R_append_rows_step (Kd.int .u64) (w0 := w) w.heap.size (by rfl) (.tmp 5) (.tmp 9) 32 22 (.int .u64 0) 8 rfl Try.underlying32 info22 rfl (by decide) (by omega) v287 y286 (l0_4.take (a1 : Int).toNat) _ _ _ (fun _ => True) (fun _ => False) rfl rfl ?aO ?aR (fun _ _ h => h) (fun _ h => h.elim) ?aF ?aB ?aS ?aL ?_
                      (case aR => first | (have hR_ := HR289.out; rw [show (l0_4.take (a1 : Int).toNat).length = a1.toNat from (by rw [List.length_take]; have h_ : (a1 : Int) ≤ (l0_4.length : Int) := of_decide_eq_true (by first | (with_reducible assumption) | assumption); omega)] at hR_; repeat (first | exact (Kd.C_below hR_ HB.out) | (with_reducible refine Kd.C_alloc ?_ _) | (with_reducible refine Kd.C_drewN ?_ _) | (with_reducible refine Kd.C_drew ?_))) | (repeat (first | exact (Kd.C_below HR289.out HB.out) | (with_reducible refine Kd.C_alloc ?_ _) | (with_reducible refine Kd.C_drewN ?_ _) | (with_reducible refine Kd.C_drew ?_))))
                      (case aB => exact (by repeat (first | (with_reducible first | exact HB.out | apply below_alloc | apply pw_below_drewN | apply below_drew1 | refine below_set ?_ GE284.out | refine below_set ?_ GE285.out) | exact HB.out)))
                      (case aF => exact (fun _ _ => trivial))
                      (case aO => exact (by (with_reducible repeat (first | apply Kd.R_alloc | apply Kd.R_drewN | apply Kd.R_drew)); exact HO288.out))
                      (case aS => exact (below_size (by repeat (first | (with_reducible first | exact HB.out | apply below_alloc | apply pw_below_drewN | apply below_drew1 | refine below_set ?_ GE284.out | refine below_set ?_ GE285.out) | exact HB.out))))
                      (case aL => have := LMc5.out; have hlx_ := (show (l0_4.take (a1 : Int).toNat).length = a1.toNat from (by rw [List.length_take]; have h_ : (a1 : Int) ≤ (l0_4.length : Int) := of_decide_eq_true (by first | (with_reducible assumption) | assumption); omega)); omega)
                      intro v291 w23 ho hb hg hat
                      rw [← Ny290.out] at ho
                      have n0_ := Aside0.mk (blk_grown (g := gb284) (o := .cells #[.int .u64 a0_0, .int .u64 a0_1, .int .i64 a0_2, .int .u64 a0_3, .slice A0_4 l0_4.length c0_4, .slice A0_5 l0_5.length c0_5] 45 (0, 0)) (by (with_reducible repeat (first | refine blk_drewN ?_ _ | refine blk_drew ?_ | refine blk_alloc ?_ _)); exact BK284.out) hg (Kd.R_ne HO288.out BK284.out (by decide)))
                      have n1_ := Aside0.mk (blk_grown (g := gb285) (o := .cells #[.int .u64 0, .int .u64 0, .int .i64 0, .int .u64 0, .slice none 0 0, .slice none 0 0] 45 (0, 0)) (by (with_reducible repeat (first | refine blk_drewN ?_ _ | refine blk_drew ?_ | refine blk_alloc ?_ _)); exact BK285.out) hg (Kd.R_ne HO288.out BK285.out (by decide)))
                      have n2_ := Aside0.mk (hb)
                      have n3_ := Aside0.mk (ho)
                      clear BK284
                      clear BK285
                      clear HB
                      clear HO288
                      have BK284 := n0_
                      have BK285 := n1_
                      have HB := n2_
                      have HO292 := n3_
                      clear n0_ n1_ n2_ n3_
                      clear ho hb hg hat
                      refine hK.out _ _ ⟨(blk_cell BK284.out 0).trans rfl, (blk_cell BK284.out 1).trans rfl, (blk_cell BK284.out 2).trans rfl, (blk_cell BK284.out 3).trans rfl, (blk_cell BK284.out 4).trans rfl, (blk_cell BK284.out 5).trans rfl⟩ (fun hHeld => ?_)
                      clear hK K
                      refine norm_ (a' := ?_) ?_ ?_
                      rotate_left
                      · show Act.put _ (some 10) _ = _
                        simp only [Act.put, List.setIfInBounds_toArray, List.set_cons_zero, List.set_cons_succ, i64_w, i32_w]
                        rfl
                      refine one_ (i := 11) (N := some 16) #[true, true, true, true, true, true, true, true, true, true, true, true, false, false] rfl rfl (one_of HT_.out (by kernel_rfl)) (by decide) (fun K hK => ?_)
                      refine Kd.R_append_rows_step (Kd.int .u64) (w0 := w) w.heap.size (by rfl) (.tmp 10) (.tmp 15) 32 22 (.int .u64 0) 8 rfl Try.underlying32 info22 rfl (by decide) (by omega) v291 y290 (l0_4.drop ((ji6) : Int).toNat) _ _ _ (fun _ => True) (fun _ => False) rfl rfl ?aO ?aR (fun _ _ h => h) (fun _ h => h.elim) ?aF ?aB ?aS ?aL ?_
                      (case aR => first | (rw [← show (l0_4.drop ((ji6) : Int).toNat).length = (l0_4.length - (ji6).toNat) from List.length_drop]; repeat (first | exact (Kd.C_below HR293.out HB.out) | (with_reducible refine Kd.C_alloc ?_ _) | (with_reducible refine Kd.C_drewN ?_ _) | (with_reducible refine Kd.C_drew ?_))) | (repeat (first | exact (Kd.C_below HR293.out HB.out) | (with_reducible refine Kd.C_alloc ?_ _) | (with_reducible refine Kd.C_drewN ?_ _) | (with_reducible refine Kd.C_drew ?_))))
                      (case aB => exact (by repeat (first | (with_reducible first | exact HB.out | apply below_alloc | apply pw_below_drewN | apply below_drew1 | refine below_set ?_ GE284.out | refine below_set ?_ GE285.out) | exact HB.out)))
                      (case aF => exact (fun _ _ => trivial))
                      (case aO => exact (by (with_reducible repeat (first | apply Kd.R_alloc | apply Kd.R_drewN | apply Kd.R_drew)); exact HO292.out))
                      (case aS => exact (below_size (by repeat (first | (with_reducible first | exact HB.out | apply below_alloc | apply pw_below_drewN | apply below_drew1 | refine below_set ?_ GE284.out | refine below_set ?_ GE285.out) | exact HB.out))))
                      (case aL => have := LMc9.out; have hlx_ := (show (l0_4.drop ((ji6) : Int).toNat).length = (l0_4.length - (ji6).toNat) from List.length_drop); omega)
                      intro v295 w24 ho hb hg hat
                      rw [← Ny294.out] at ho
                      have n0_ := Aside0.mk (blk_grown (g := gb284) (o := .cells #[.int .u64 a0_0, .int .u64 a0_1, .int .i64 a0_2, .int .u64 a0_3, .slice A0_4 l0_4.length c0_4, .slice A0_5 l0_5.length c0_5] 45 (0, 0)) (by (with_reducible repeat (first | refine blk_drewN ?_ _ | refine blk_drew ?_ | refine blk_alloc ?_ _)); exact BK284.out) hg (Kd.R_ne HO292.out BK284.out (by decide)))
                      have n1_ := Aside0.mk (blk_grown (g := gb285) (o := .cells #[.int .u64 0, .int .u64 0, .int .i64 0, .int .u64 0, .slice none 0 0, .slice none 0 0] 45 (0, 0)) (by (with_reducible repeat (first | refine blk_drewN ?_ _ | refine blk_drew ?_ | refine blk_alloc ?_ _)); exact BK285.out) hg (Kd.R_ne HO292.out BK285.out (by decide)))
                      have n2_ := Aside0.mk (hb)
                      have n3_ := Aside0.mk (ho)
                      clear BK284
                      clear BK285
                      clear HB
                      clear HO292
                      have BK284 := n0_
                      have BK285 := n1_
                      have HB := n2_
                      have HO296 := n3_
                      clear n0_ n1_ n2_ n3_
                      clear ho hb hg hat
                      obtain ⟨Ao25, co25, eo25⟩ := Kd.R_slice HO296.out
                      (first | subst eo25 | (injection eo25 with f1_ f2_ f3_; have f4_ := f1_.symm; have f5_ := f3_.symm; clear f1_ f2_ f3_; subst f4_; subst f5_))
                      refine hK.out _ _ ⟨(blk_cell BK284.out 0).trans rfl, (blk_cell BK284.out 1).trans rfl, (blk_cell BK284.out 2).trans rfl, (blk_cell BK284.out 3).trans rfl, (blk_cell BK284.out 4).trans rfl, (blk_cell BK284.out 5).trans rfl⟩ (fun hHeld => ?_)
                      clear hK K
                      refine norm_ (a' := ?_) ?_ ?_
                      rotate_left
                      · show Act.put _ (some 16) _ = _
                        simp only [Act.put, List.setIfInBounds_toArray, List.set_cons_zero, List.set_cons_succ, i64_w, i32_w]
                        rfl
                      refine pure_ (i := 12) (N := some 17) (v := ?_) (a' := ?_) #[true, true, true, true, true, true, true, true, true, true, true, true, true, false] rfl rfl (any_of HT_.out (by kernel_rfl)) (fun _ _ _ h => h) (Or.inl ⟨by rfl, ?_⟩) ?_ ?_
                      rotate_left
                      · intro w'
                        go_simp
                        with_reducible rfl
                      rotate_left
                      · simp only [Act.put, List.setIfInBounds_toArray, List.set_cons_zero, List.set_cons_succ, i64_w, i32_w]
                        rfl
                      refine last_ (i := 13) (N := none) #[true, true, true, true, true, true, true, true, true, true, true, true, true, true] rfl rfl (one_of HT_.out (by kernel_rfl)) (by decide) (fun K hK => ?_)
                      have hs26 : w24.cell? ⟨gb284, 4, none⟩ = some (.slice A0_4 l0_4.length c0_4) := (blk_cell BK284.out 4).trans rfl
                      have hfs26 := blk_frozen BK284.out 4
                      have hns26_1 := NB285_284.out
                      have hms26_1 := NB284_285.out
                      refine skip_ (w1 := ?_) (by rfl) rfl ?_ ?_
                      rotate_left
                      · go_simp
                        rfl
                      refine hK.out _ _ ?_
                      clear hK K
                      refine done_ (done_of HT_.out (by kernel_rfl)) ?_
                      try go_wp2
                      have n0_ : Aside0 (Kd.R (Kd.int .u64) 22 (w24.setCell ⟨gb284, 4, none⟩ (.slice Ao25 y294.length co25)) w.heap.size (fun _ => True) (.slice Ao25 y294.length co25) y294) := ⟨by (with_reducible repeat (first | apply Kd.R_alloc | apply Kd.R_drewN | apply Kd.R_drew)); exact Kd.R_mono (Kd.R_far (p := ⟨gb284, 4, none⟩) (Kd.R_types HO296.out BK284.out (by decide)) (fun _ hk => hk.2) (.slice Ao25 y294.length co25)) (fun _ hk => trivial)⟩
                      have n1_ : Aside0 ((w24.setCell ⟨gb284, 4, none⟩ (.slice Ao25 y294.length co25)).heap[gb284]? = some (.cells #[.int .u64 a0_0, .int .u64 a0_1, .int .i64 a0_2, .int .u64 a0_3, .slice Ao25 y294.length co25, .slice A0_5 l0_5.length c0_5] 45 (0, 0))) := ⟨by (with_reducible repeat (first | refine blk_drewN ?_ _ | refine blk_drew ?_ | refine blk_alloc ?_ _)); refine blk_put (cs := #[.int .u64 a0_0, .int .u64 a0_1, .int .i64 a0_2, .int .u64 a0_3, .slice A0_4 l0_4.length c0_4, .slice A0_5 l0_5.length c0_5]) ?_ 4 _ rfl; (with_reducible repeat (first | refine blk_drewN ?_ _ | refine blk_drew ?_ | refine blk_alloc ?_ _)); exact BK284.out⟩
                      have n2_ : Aside0 ((w24.setCell ⟨gb284, 4, none⟩ (.slice Ao25 y294.length co25)).heap[gb285]? = some (.cells #[.int .u64 0, .int .u64 0, .int .i64 0, .int .u64 0, .slice none 0 0, .slice none 0 0] 45 (0, 0))) := ⟨by (with_reducible repeat (first | refine blk_drewN ?_ _ | refine blk_drew ?_ | refine blk_alloc ?_ _)); refine blk_far ?_ NB285_284.out _; (with_reducible repeat (first | refine blk_drewN ?_ _ | refine blk_drew ?_ | refine blk_alloc ?_ _)); exact BK285.out⟩
                      have n3_ : Aside0 (Below w.heap.size w (w24.setCell ⟨gb284, 4, none⟩ (.slice Ao25 y294.length co25))) := ⟨by repeat (first | (with_reducible first | exact HB.out | apply below_alloc | apply pw_below_drewN | apply below_drew1 | refine below_set ?_ GE284.out | refine below_set ?_ GE285.out) | exact HB.out)⟩
                      (try clear HO296)
                      (try clear BK284)
                      (try clear BK285)
                      (try clear HB)
                      generalize (w24.setCell ⟨gb284, 4, none⟩ (.slice Ao25 y294.length co25)) = w27 at n0_ n1_ n2_ n3_ ⊢
                      have HO296 := n0_
                      have BK284 := n1_
                      have BK285 := n2_
                      have HB := n3_
                      clear n0_ n1_ n2_ n3_
                      have n0_ := Aside0.mk (Kd.R_drew HO296.out)
                      have n1_ := Aside0.mk (blk_drew BK284.out)
                      have n2_ := Aside0.mk (blk_drew BK285.out)
                      have n3_ := Aside0.mk (below_drew1 HB.out)
                      clear HO296
                      clear BK284
                      clear BK285
                      clear HB
                      have HO296 := n0_
                      have BK284 := n1_
                      have BK285 := n2_
                      have HB := n3_
                      clear n0_ n1_ n2_ n3_
                      obtain ⟨i029, hi029, _, hsz29, _⟩ := info_parts info3
                      obtain ⟨hcut29, hA29, hC29⟩ := print_take_of (P := Try.prog) (Value.int .i64) 0 43 3 .i64 Try.underlying43 hi029 hsz29 A0_5 c0_5 l0_5 a1 (of_decide_eq_true (by first | (with_reducible assumption) | assumption)) (of_decide_eq_true (by first | (with_reducible assumption) | assumption)) HC0_5.out
                      have HR300 := Aside0.mk (Kd.C_of_reads (h1 := fun _ => rfl) (hA29 _ (Kd.reads_of_C HR0_5.out)))
                      have HC300 := Aside0.mk hC29
                      clear hA29 hC29 hi029 hsz29
                      obtain ⟨i030, hi030, _, hsz30, _⟩ := info_parts info3
                      obtain ⟨A30, hcut30, hA30, hC30⟩ := print_drop_of (P := Try.prog) (Value.int .i64) 0 43 3 .i64 Try.underlying43 hi030 hsz30 A0_5 c0_5 l0_5 (ji6) (of_decide_eq_true (by first | (with_reducible assumption) | assumption)) (of_decide_eq_true (by first | (with_reducible assumption) | assumption)) HC0_5.out
                      have HR304 := Aside0.mk (Kd.C_of_reads (h1 := fun _ => rfl) (hA30 _ (Kd.reads_of_C HR0_5.out)))
                      have HC304 := Aside0.mk hC30
                      clear hA30 hC30 hi030 hsz30
                      refine start_ (n := 14) (S := fun w' => w'.cell? ⟨gb284, 0, none⟩ = some (.int .u64 a0_0) ∧ w'.cell? ⟨gb284, 1, none⟩ = some (.int .u64 a0_1) ∧ w'.cell? ⟨gb284, 2, none⟩ = some (.int .i64 a0_2) ∧ w'.cell? ⟨gb284, 3, none⟩ = some (.int .u64 a0_3) ∧ w'.cell? ⟨gb284, 4, none⟩ = some (.slice Ao25 y294.length co25) ∧ w'.cell? ⟨gb284, 5, none⟩ = some (.slice A0_5 l0_5.length c0_5)) (ds := [13]) #[false, false, false, false, false, false, false, false, false, false, false, false, false, false] (by kernel_rfl) rfl rfl ⟨(blk_cell BK284.out 0).trans rfl, (blk_cell BK284.out 1).trans rfl, (blk_cell BK284.out 2).trans rfl, (blk_cell BK284.out 3).trans rfl, (blk_cell BK284.out 4).trans rfl, (blk_cell BK284.out 5).trans rfl⟩ (fun hHeld => ?_); refine with_tabW tallyroomref19_Book_Drop.tab2 tallyroomref19_Book_Drop.bits2 (fun HT_ HW_ => ?_)
                      generalize w27.drew = w28 at HO296 BK284 BK285 HB HR300 HR304 hHeld ⊢
                      refine pure_ (i := 1) (N := some 19) (v := ?_) (a' := ?_) #[false, true, false, false, false, false, false, false, false, false, false, false, false, false] rfl rfl (any_of HT_.out (by kernel_rfl)) (fun _ _ _ h => h) (Or.inl ⟨by rfl, ?_⟩) ?_ ?_
                      rotate_left
                      · intro w'
                        go_simp
                        with_reducible rfl
                      rotate_left
                      · simp only [Act.put, List.setIfInBounds_toArray, List.set_cons_zero, List.set_cons_succ, i64_w, i32_w]
                        rfl
                      refine pure_ (i := 3) (N := some 21) (v := ?_) (a' := ?_) #[false, true, false, true, false, false, false, false, false, false, false, false, false, false] rfl rfl (any_of HT_.out (by kernel_rfl)) (fun _ _ _ h => h) (Or.inl ⟨by rfl, ?_⟩) ?_ ?_
                      rotate_left
                      · intro w'
                        go_simp
                        with_reducible rfl
                      rotate_left
                      · simp only [Act.put, List.setIfInBounds_toArray, List.set_cons_zero, List.set_cons_succ, i64_w, i32_w]
                        rfl
                      refine pure_ (i := 6) (N := some 24) (v := ?_) (a' := ?_) #[false, true, false, true, false, false, true, false, false, false, false, false, false, false] rfl rfl (any_of HT_.out (by kernel_rfl)) (fun _ _ _ h => h) (Or.inl ⟨by rfl, ?_⟩) ?_ ?_
                      rotate_left
                      · intro w'
                        go_simp
                        with_reducible rfl
                      rotate_left
                      · simp only [Act.put, List.setIfInBounds_toArray, List.set_cons_zero, List.set_cons_succ, i64_w, i32_w]
                        rfl
                      refine pure_ (i := 8) (N := some 26) (v := ?_) (a' := ?_) #[false, true, false, true, false, false, true, false, true, false, false, false, false, false] rfl rfl (any_of HT_.out (by kernel_rfl)) (fun _ _ _ h => h) (Or.inl ⟨by rfl, ?_⟩) ?_ ?_
                      rotate_left
                      · intro w'
                        go_simp
                        with_reducible rfl
                      rotate_left
                      · simp only [Act.put, List.setIfInBounds_toArray, List.set_cons_zero, List.set_cons_succ, i64_w, i32_w]
                        rfl
                      refine pure_ (i := 9) (N := some 27) (v := ?_) (a' := ?_) #[false, true, false, true, false, false, true, false, true, true, false, false, false, false] rfl rfl (any_of HT_.out (by kernel_rfl)) (fun _ _ _ h => h) (Or.inl ⟨by rfl, ?_⟩) ?_ ?_
                      rotate_left
                      · intro w'
                        go_simp
                        with_reducible rfl
                      rotate_left
                      · simp only [Act.put, List.setIfInBounds_toArray, List.set_cons_zero, List.set_cons_succ, i64_w, i32_w]
                        rfl
                      refine take_ (i := 2) (N := some 20) (v := ?_) (a' := ?_) #[false, true, true, true, false, false, true, false, true, true, false, false, false, false] rfl rfl (take_ofW HT_.out HW_.out (by kernel_rfl)) (fun _ _ _ h => h) (Or.inl ⟨by rfl, ?_⟩) hHeld ?_ ?_
                      rotate_left
                      · rintro w' ⟨s0, s1, s2, s3, s4, s5⟩
                        go_simp
                        with_reducible rfl
                      rotate_left
                      · simp only [Act.put, List.setIfInBounds_toArray, List.set_cons_zero, List.set_cons_succ, i64_w, i32_w]
                        rfl
                      refine pure_ (i := 4) (N := some 22) (v := ?_) (a' := ?_) #[false, true, true, true, true, false, true, false, true, true, false, false, false, false] rfl rfl (any_of HT_.out (by kernel_rfl)) (fun _ _ _ h => h) (Or.inl ⟨by rfl, ?_⟩) ?_ ?_
                      rotate_left
                      · intro w'
                        go_simp
                        with_reducible rfl
                      rotate_left
                      · simp only [Act.put, List.setIfInBounds_toArray, List.set_cons_zero, List.set_cons_succ, i64_w, i32_w]
                        rfl
                      refine take_ (i := 7) (N := some 25) (v := ?_) (a' := ?_) #[false, true, true, true, true, false, true, true, true, true, false, false, false, false] rfl rfl (take_ofW HT_.out HW_.out (by kernel_rfl)) (fun _ _ _ h => h) (Or.inl ⟨by rfl, ?_⟩) hHeld ?_ ?_
                      rotate_left
                      · rintro w' ⟨s0, s1, s2, s3, s4, s5⟩
                        go_simp
                        with_reducible rfl
                      rotate_left
                      · simp only [Act.put, List.setIfInBounds_toArray, List.set_cons_zero, List.set_cons_succ, i64_w, i32_w]
                        rfl
                      refine pure_ (i := 10) (N := some 28) (v := ?_) (a' := ?_) #[false, true, true, true, true, false, true, true, true, true, true, false, false, false] rfl rfl (any_of HT_.out (by kernel_rfl)) (fun _ _ _ h => h) (Or.inl ⟨by rfl, ?_⟩) ?_ ?_
                      rotate_left
                      · intro w'
                        go_simp
                        with_reducible rfl
                      rotate_left
                      · simp only [Act.put, List.setIfInBounds_toArray, List.set_cons_zero, List.set_cons_succ, i64_w, i32_w]
                        rfl
                      refine one_ (i := 0) (N := some 18) #[true, true, true, true, true, false, true, true, true, true, true, false, false, false] rfl rfl (one_of HT_.out (by kernel_rfl)) (by decide) (fun K hK => ?_)
                      refine Kd.R_lit_step (Kd.int .i64) _ 3 ?hg (N := 18) ?hd (xs := ([] : List Int)) (inner := []) (ok := fun _ => True) (okp := fun _ => True) ?hr ?hp (fun _ hk => hk) trivial (Below.refl _ _) (Nat.le_refl _) (by simp) ?_; (case hd => rfl); (case hg => rfl); (case hr => first | (go_simp; done) | (go_simp; rfl)); (case hp => exact (Reps.none _ _))
                      intro v298 w31 ho32 hb hg_ hnew_
                      clear hg_ hnew_
                      (first | rw [← Ny297.out] at ho32 | (simp only [Int.reduceToNat] at ho32; rw [← Ny297.out] at ho32))
                      have n0_ := Aside0.mk (Kd.R_below (by (with_reducible repeat (first | apply Kd.R_alloc | apply Kd.R_drewN | apply Kd.R_drew)); exact HO296.out) hb)
                      have n1_ := Aside0.mk (Kd.R_lower ho32 (below_size (by repeat (first | (with_reducible first | exact HB.out | apply below_alloc | apply pw_below_drewN | apply below_drew1 | refine below_set ?_ GE284.out | refine below_set ?_ GE285.out) | exact HB.out))))
                      have n2_ := Aside0.mk (blk_below (g := gb284) (o := .cells #[.int .u64 a0_0, .int .u64 a0_1, .int .i64 a0_2, .int .u64 a0_3, .slice Ao25 y294.length co25, .slice A0_5 l0_5.length c0_5] 45 (0, 0)) (by (with_reducible repeat (first | refine blk_drewN ?_ _ | refine blk_drew ?_ | refine blk_alloc ?_ _)); exact BK284.out) hb)
                      have n3_ := Aside0.mk (blk_below (g := gb285) (o := .cells #[.int .u64 0, .int .u64 0, .int .i64 0, .int .u64 0, .slice none 0 0, .slice none 0 0] 45 (0, 0)) (by (with_reducible repeat (first | refine blk_drewN ?_ _ | refine blk_drew ?_ | refine blk_alloc ?_ _)); exact BK285.out) hb)
                      have n4_ := Aside0.mk (below_step (by repeat (first | (with_reducible first | exact HB.out | apply below_alloc | apply pw_below_drewN | apply below_drew1 | refine below_set ?_ GE284.out | refine below_set ?_ GE285.out) | exact HB.out)) hb)
                      clear HO296
                      clear BK284
                      clear BK285
                      clear HB
                      have HO296 := n0_
                      have HO299 := n1_
                      have BK284 := n2_
                      have BK285 := n3_
                      have HB := n4_
                      clear n0_ n1_ n2_ n3_ n4_
                      clear hb ho32
                      refine hK.out _ _ ⟨(blk_cell BK284.out 0).trans rfl, (blk_cell BK284.out 1).trans rfl, (blk_cell BK284.out 2).trans rfl, (blk_cell BK284.out 3).trans rfl, (blk_cell BK284.out 4).trans rfl, (blk_cell BK284.out 5).trans rfl⟩ (fun hHeld => ?_)
                      clear hK K
                      refine norm_ (a' := ?_) ?_ ?_
                      rotate_left
                      · show Act.put _ (some 18) _ = _
                        simp only [Act.put, List.setIfInBounds_toArray, List.set_cons_zero, List.set_cons_succ, i64_w, i32_w]
                        rfl
                      refine one_ (i := 5) (N := some 23) #[true, true, true, true, true, true, true, true, true, true, true, false, false, false] rfl rfl (one_of HT_.out (by kernel_rfl)) (by decide) (fun K hK => ?_)
                      refine Kd.R_append_rows_step (Kd.int .i64) (w0 := w) w.heap.size (by rfl) (.tmp 18) (.tmp 22) 43 3 (.int .i64 0) 8 rfl Try.underlying43 info3 rfl (by decide) (by omega) v298 y297 (l0_5.take (a1 : Int).toNat) _ _ _ (fun _ => True) (fun _ => False) rfl rfl ?aO ?aR (fun _ _ h => h) (fun _ h => h.elim) ?aF ?aB ?aS ?aL ?_
                      (case aR => first | (have hR_ := HR300.out; rw [show (l0_5.take (a1 : Int).toNat).length = a1.toNat from (by rw [List.length_take]; have h_ : (a1 : Int) ≤ (l0_5.length : Int) := of_decide_eq_true (by first | (with_reducible assumption) | assumption); omega)] at hR_; repeat (first | exact (Kd.C_below hR_ HB.out) | (with_reducible refine Kd.C_alloc ?_ _) | (with_reducible refine Kd.C_drewN ?_ _) | (with_reducible refine Kd.C_drew ?_))) | (repeat (first | exact (Kd.C_below HR300.out HB.out) | (with_reducible refine Kd.C_alloc ?_ _) | (with_reducible refine Kd.C_drewN ?_ _) | (with_reducible refine Kd.C_drew ?_))))
                      (case aB => exact (by repeat (first | (with_reducible first | exact HB.out | apply below_alloc | apply pw_below_drewN | apply below_drew1 | refine below_set ?_ GE284.out | refine below_set ?_ GE285.out) | exact HB.out)))
                      (case aF => exact (fun _ _ => trivial))
                      (case aO => exact (by (with_reducible repeat (first | apply Kd.R_alloc | apply Kd.R_drewN | apply Kd.R_drew)); exact HO299.out))
                      (case aS => exact (below_size (by repeat (first | (with_reducible first | exact HB.out | apply below_alloc | apply pw_below_drewN | apply below_drew1 | refine below_set ?_ GE284.out | refine below_set ?_ GE285.out) | exact HB.out))))
                      (case aL => have := LMc12.out; have hlx_ := (show (l0_5.take (a1 : Int).toNat).length = a1.toNat from (by rw [List.length_take]; have h_ : (a1 : Int) ≤ (l0_5.length : Int) := of_decide_eq_true (by first | (with_reducible assumption) | assumption); omega)); omega)
                      intro v302 w33 ho hb hg hat
                      rw [← Ny301.out] at ho
                      have n0_ := Aside0.mk (blk_grown (g := gb284) (o := .cells #[.int .u64 a0_0, .int .u64 a0_1, .int .i64 a0_2, .int .u64 a0_3, .slice Ao25 y294.length co25, .slice A0_5 l0_5.length c0_5] 45 (0, 0)) (by (with_reducible repeat (first | refine blk_drewN ?_ _ | refine blk_drew ?_ | refine blk_alloc ?_ _)); exact BK284.out) hg (Kd.R_ne HO299.out BK284.out (by decide)))
                      have n1_ := Aside0.mk (blk_grown (g := gb285) (o := .cells #[.int .u64 0, .int .u64 0, .int .i64 0, .int .u64 0, .slice none 0 0, .slice none 0 0] 45 (0, 0)) (by (with_reducible repeat (first | refine blk_drewN ?_ _ | refine blk_drew ?_ | refine blk_alloc ?_ _)); exact BK285.out) hg (Kd.R_ne HO299.out BK285.out (by decide)))
                      have n2_ := Aside0.mk (Kd.R_over' (by (with_reducible repeat (first | apply Kd.R_alloc | apply Kd.R_drewN | apply Kd.R_drew)); exact HO296.out) (Kd.R_typed (by (with_reducible repeat (first | apply Kd.R_alloc | apply Kd.R_drewN | apply Kd.R_drew)); exact HO299.out)) (by decide) hg)
                      have n3_ := Aside0.mk (hb)
                      have n4_ := Aside0.mk (ho)
                      clear BK284
                      clear BK285
                      clear HO296
                      clear HB
                      clear HO299
                      have BK284 := n0_
                      have BK285 := n1_
                      have HO296 := n2_
                      have HB := n3_
                      have HO303 := n4_
                      clear n0_ n1_ n2_ n3_ n4_
                      clear ho hb hg hat
                      refine hK.out _ _ ⟨(blk_cell BK284.out 0).trans rfl, (blk_cell BK284.out 1).trans rfl, (blk_cell BK284.out 2).trans rfl, (blk_cell BK284.out 3).trans rfl, (blk_cell BK284.out 4).trans rfl, (blk_cell BK284.out 5).trans rfl⟩ (fun hHeld => ?_)
                      clear hK K
                      refine norm_ (a' := ?_) ?_ ?_
                      rotate_left
                      · show Act.put _ (some 23) _ = _
                        simp only [Act.put, List.setIfInBounds_toArray, List.set_cons_zero, List.set_cons_succ, i64_w, i32_w]
                        rfl
                      refine one_ (i := 11) (N := some 29) #[true, true, true, true, true, true, true, true, true, true, true, true, false, false] rfl rfl (one_of HT_.out (by kernel_rfl)) (by decide) (fun K hK => ?_)
                      refine Kd.R_append_rows_step (Kd.int .i64) (w0 := w) w.heap.size (by rfl) (.tmp 23) (.tmp 28) 43 3 (.int .i64 0) 8 rfl Try.underlying43 info3 rfl (by decide) (by omega) v302 y301 (l0_5.drop ((ji6) : Int).toNat) _ _ _ (fun _ => True) (fun _ => False) rfl rfl ?aO ?aR (fun _ _ h => h) (fun _ h => h.elim) ?aF ?aB ?aS ?aL ?_
                      (case aR => first | (rw [← show (l0_5.drop ((ji6) : Int).toNat).length = (l0_5.length - (ji6).toNat) from List.length_drop]; repeat (first | exact (Kd.C_below HR304.out HB.out) | (with_reducible refine Kd.C_alloc ?_ _) | (with_reducible refine Kd.C_drewN ?_ _) | (with_reducible refine Kd.C_drew ?_))) | (repeat (first | exact (Kd.C_below HR304.out HB.out) | (with_reducible refine Kd.C_alloc ?_ _) | (with_reducible refine Kd.C_drewN ?_ _) | (with_reducible refine Kd.C_drew ?_))))
                      (case aB => exact (by repeat (first | (with_reducible first | exact HB.out | apply below_alloc | apply pw_below_drewN | apply below_drew1 | refine below_set ?_ GE284.out | refine below_set ?_ GE285.out) | exact HB.out)))
                      (case aF => exact (fun _ _ => trivial))
                      (case aO => exact (by (with_reducible repeat (first | apply Kd.R_alloc | apply Kd.R_drewN | apply Kd.R_drew)); exact HO303.out))
                      (case aS => exact (below_size (by repeat (first | (with_reducible first | exact HB.out | apply below_alloc | apply pw_below_drewN | apply below_drew1 | refine below_set ?_ GE284.out | refine below_set ?_ GE285.out) | exact HB.out))))
                      (case aL => have := LMc15.out; have hlx_ := (show (l0_5.drop ((ji6) : Int).toNat).length = (l0_5.length - (ji6).toNat) from List.length_drop); omega)
                      intro v306 w34 ho hb hg hat
                      rw [← Ny305.out] at ho
                      have n0_ := Aside0.mk (blk_grown (g := gb284) (o := .cells #[.int .u64 a0_0, .int .u64 a0_1, .int .i64 a0_2, .int .u64 a0_3, .slice Ao25 y294.length co25, .slice A0_5 l0_5.length c0_5] 45 (0, 0)) (by (with_reducible repeat (first | refine blk_drewN ?_ _ | refine blk_drew ?_ | refine blk_alloc ?_ _)); exact BK284.out) hg (Kd.R_ne HO303.out BK284.out (by decide)))
                      have n1_ := Aside0.mk (blk_grown (g := gb285) (o := .cells #[.int .u64 0, .int .u64 0, .int .i64 0, .int .u64 0, .slice none 0 0, .slice none 0 0] 45 (0, 0)) (by (with_reducible repeat (first | refine blk_drewN ?_ _ | refine blk_drew ?_ | refine blk_alloc ?_ _)); exact BK285.out) hg (Kd.R_ne HO303.out BK285.out (by decide)))
                      have n2_ := Aside0.mk (Kd.R_over' (by (with_reducible repeat (first | apply Kd.R_alloc | apply Kd.R_drewN | apply Kd.R_drew)); exact HO296.out) (Kd.R_typed (by (with_reducible repeat (first | apply Kd.R_alloc | apply Kd.R_drewN | apply Kd.R_drew)); exact HO303.out)) (by decide) hg)
                      have n3_ := Aside0.mk (hb)
                      have n4_ := Aside0.mk (ho)
                      clear BK284
                      clear BK285
                      clear HO296
                      clear HB
                      clear HO303
                      have BK284 := n0_
                      have BK285 := n1_
                      have HO296 := n2_
                      have HB := n3_
                      have HO307 := n4_
                      clear n0_ n1_ n2_ n3_ n4_
                      clear ho hb hg hat
                      obtain ⟨Ao35, co35, eo35⟩ := Kd.R_slice HO307.out
                      (first | subst eo35 | (injection eo35 with f1_ f2_ f3_; have f4_ := f1_.symm; have f5_ := f3_.symm; clear f1_ f2_ f3_; subst f4_; subst f5_))
                      refine hK.out _ _ ⟨(blk_cell BK284.out 0).trans rfl, (blk_cell BK284.out 1).trans rfl, (blk_cell BK284.out 2).trans rfl, (blk_cell BK284.out 3).trans rfl, (blk_cell BK284.out 4).trans rfl, (blk_cell BK284.out 5).trans rfl⟩ (fun hHeld => ?_)
                      clear hK K
                      refine norm_ (a' := ?_) ?_ ?_
                      rotate_left
                      · show Act.put _ (some 29) _ = _
                        simp only [Act.put, List.setIfInBounds_toArray, List.set_cons_zero, List.set_cons_succ, i64_w, i32_w]
                        rfl
                      refine pure_ (i := 12) (N := some 30) (v := ?_) (a' := ?_) #[true, true, true, true, true, true, true, true, true, true, true, true, true, false] rfl rfl (any_of HT_.out (by kernel_rfl)) (fun _ _ _ h => h) (Or.inl ⟨by rfl, ?_⟩) ?_ ?_
                      rotate_left
                      · intro w'
                        go_simp
                        with_reducible rfl
                      rotate_left
                      · simp only [Act.put, List.setIfInBounds_toArray, List.set_cons_zero, List.set_cons_succ, i64_w, i32_w]
                        rfl
                      refine last_ (i := 13) (N := none) #[true, true, true, true, true, true, true, true, true, true, true, true, true, true] rfl rfl (one_of HT_.out (by kernel_rfl)) (by decide) (fun K hK => ?_)
                      have hs36 : w34.cell? ⟨gb284, 5, none⟩ = some (.slice A0_5 l0_5.length c0_5) := (blk_cell BK284.out 5).trans rfl
                      have hfs36 := blk_frozen BK284.out 5
                      have hns36_1 := NB285_284.out
                      have hms36_1 := NB284_285.out
                      refine skip_ (w1 := ?_) (by rfl) rfl ?_ ?_
                      rotate_left
                      · go_simp
                        rfl
                      refine hK.out _ _ ?_
                      clear hK K
                      refine done_ (done_of HT_.out (by kernel_rfl)) ?_
                      have hnb37 := NB284_285.out
                      have hnc37 := NB285_284.out
                      have hcz38_0 : w34.cell? ⟨gb284, 0, none⟩ = some (.int .u64 a0_0) := (blk_cell BK284.out 0).trans rfl
                      have hcz38_1 : w34.cell? ⟨gb284, 1, none⟩ = some (.int .u64 a0_1) := (blk_cell BK284.out 1).trans rfl
                      have hcz38_2 : w34.cell? ⟨gb284, 2, none⟩ = some (.int .i64 a0_2) := (blk_cell BK284.out 2).trans rfl
                      have hcz38_3 : w34.cell? ⟨gb284, 3, none⟩ = some (.int .u64 a0_3) := (blk_cell BK284.out 3).trans rfl
                      have hcz38_4 : w34.cell? ⟨gb284, 4, none⟩ = some (.slice Ao25 y294.length co25) := (blk_cell BK284.out 4).trans rfl
                      have hcz38_5 : w34.cell? ⟨gb284, 5, none⟩ = some (.slice A0_5 l0_5.length c0_5) := (blk_cell BK284.out 5).trans rfl
                      have hfz38_0 := blk_frozen BK284.out 0
                      have hfz38_1 := blk_frozen BK284.out 1
                      have hfz38_2 := blk_frozen BK284.out 2
                      have hfz38_3 := blk_frozen BK284.out 3
                      have hfz38_4 := blk_frozen BK284.out 4
                      have hfz38_5 := blk_frozen BK284.out 5
                      have hcz39_0 : w34.cell? ⟨gb285, 0, none⟩ = some (.int .u64 0) := (blk_cell BK285.out 0).trans rfl
                      have hcz39_1 : w34.cell? ⟨gb285, 1, none⟩ = some (.int .u64 0) := (blk_cell BK285.out 1).trans rfl
                      have hcz39_2 : w34.cell? ⟨gb285, 2, none⟩ = some (.int .i64 0) := (blk_cell BK285.out 2).trans rfl
                      have hcz39_3 : w34.cell? ⟨gb285, 3, none⟩ = some (.int .u64 0) := (blk_cell BK285.out 3).trans rfl
                      have hcz39_4 : w34.cell? ⟨gb285, 4, none⟩ = some (.slice none 0 0) := (blk_cell BK285.out 4).trans rfl
                      have hcz39_5 : w34.cell? ⟨gb285, 5, none⟩ = some (.slice none 0 0) := (blk_cell BK285.out 5).trans rfl
                      have hfz39_0 := blk_frozen BK285.out 0
                      have hfz39_1 := blk_frozen BK285.out 1
                      have hfz39_2 := blk_frozen BK285.out 2
                      have hfz39_3 := blk_frozen BK285.out 3
                      have hfz39_4 := blk_frozen BK285.out 4
                      have hfz39_5 := blk_frozen BK285.out 5
                      try go_wp2
                      refine bodyPost_ret (results_cell_row rfl _ _ gb285 45 #[.int .u64 a0_0, .int .u64 a0_1, .int .i64 a0_2, .int .u64 a0_3, .slice Ao25 y294.length co25, .slice Ao35 y305.length co35] (0, 0) _ rfl (by (with_reducible repeat (first | refine blk_drewN ?_ _ | refine blk_drew ?_ | refine blk_alloc ?_ _)); refine blk_put (cs := #[.int .u64 a0_0, .int .u64 a0_1, .int .i64 a0_2, .int .u64 a0_3, .slice Ao25 y294.length co25, .slice none 0 0]) ?_ 5 _ rfl; (with_reducible repeat (first | refine blk_drewN ?_ _ | refine blk_drew ?_ | refine blk_alloc ?_ _)); refine blk_put (cs := #[.int .u64 a0_0, .int .u64 a0_1, .int .i64 a0_2, .int .u64 a0_3, .slice none 0 0, .slice none 0 0]) ?_ 4 _ rfl; (with_reducible repeat (first | refine blk_drewN ?_ _ | refine blk_drew ?_ | refine blk_alloc ?_ _)); refine blk_put (cs := #[.int .u64 a0_0, .int .u64 a0_1, .int .i64 a0_2, .int .u64 0, .slice none 0 0, .slice none 0 0]) ?_ 3 _ rfl; (with_reducible repeat (first | refine blk_drewN ?_ _ | refine blk_drew ?_ | refine blk_alloc ?_ _)); refine blk_put (cs := #[.int .u64 a0_0, .int .u64 a0_1, .int .i64 0, .int .u64 0, .slice none 0 0, .slice none 0 0]) ?_ 2 _ rfl; (with_reducible repeat (first | refine blk_drewN ?_ _ | refine blk_drew ?_ | refine blk_alloc ?_ _)); refine blk_put (cs := #[.int .u64 a0_0, .int .u64 0, .int .i64 0, .int .u64 0, .slice none 0 0, .slice none 0 0]) ?_ 1 _ rfl; (with_reducible repeat (first | refine blk_drewN ?_ _ | refine blk_drew ?_ | refine blk_alloc ?_ _)); refine blk_put (cs := #[.int .u64 0, .int .u64 0, .int .i64 0, .int .u64 0, .slice none 0 0, .slice none 0 0]) ?_ 0 _ rfl; (with_reducible repeat (first | refine blk_drewN ?_ _ | refine blk_drew ?_ | refine blk_alloc ?_ _)); refine blk_far ?_ NB285_284.out _; (with_reducible repeat (first | refine blk_drewN ?_ _ | refine blk_drew ?_ | refine blk_alloc ?_ _)); exact BK285.out) Try.underlying45 rfl (by kernel_rfl)) rfl ?_
                      exact ⟨_, _, by first | rfl | (simp [errW_none, errW_some] <;> rfl) | (simp only [← hji6]; first | rfl | (simp [errW_none, errW_some] <;> rfl)) | (simp [*, errW_none, errW_some] <;> rfl), by (with_reducible repeat (first | apply Kd.R_alloc | apply Kd.R_drewN | apply Kd.R_drew)); exact Kd.R_mono (Kd.R_far (p := ⟨gb285, 5, none⟩) (Kd.R_far (p := ⟨gb285, 4, none⟩) (Kd.R_far (p := ⟨gb285, 3, none⟩) (Kd.R_far (p := ⟨gb285, 2, none⟩) (Kd.R_far (p := ⟨gb285, 1, none⟩) (Kd.R_far (p := ⟨gb285, 0, none⟩) (Kd.R_far (p := ⟨gb284, 5, none⟩) (Kd.R_types (Kd.R_types HO296.out BK284.out (by decide)) BK285.out (by decide)) (fun _ hk => hk.1.2) (.slice Ao35 y305.length co35)) (fun _ hk => hk.2) (.int .u64 a0_0)) (fun _ hk => hk.2) (.int .u64 a0_1)) (fun _ hk => hk.2) (.int .i64 a0_2)) (fun _ hk => hk.2) (.int .u64 a0_3)) (fun _ hk => hk.2) (.slice Ao25 y294.length co25)) (fun _ hk => hk.2) (.slice Ao35 y305.length co35)) (fun _ hk => trivial), by (with_reducible repeat (first | apply Kd.R_alloc | apply Kd.R_drewN | apply Kd.R_drew)); exact Kd.R_mono (Kd.R_far (p := ⟨gb285, 5, none⟩) (Kd.R_far (p := ⟨gb285, 4, none⟩) (Kd.R_far (p := ⟨gb285, 3, none⟩) (Kd.R_far (p := ⟨gb285, 2, none⟩) (Kd.R_far (p := ⟨gb285, 1, none⟩) (Kd.R_far (p := ⟨gb285, 0, none⟩) (Kd.R_far (p := ⟨gb284, 5, none⟩) (Kd.R_types (Kd.R_types HO307.out BK284.out (by decide)) BK285.out (by decide)) (fun _ hk => hk.1.2) (.slice Ao35 y305.length co35)) (fun _ hk => hk.2) (.int .u64 a0_0)) (fun _ hk => hk.2) (.int .u64 a0_1)) (fun _ hk => hk.2) (.int .i64 a0_2)) (fun _ hk => hk.2) (.int .u64 a0_3)) (fun _ hk => hk.2) (.slice Ao25 y294.length co25)) (fun _ hk => hk.2) (.slice Ao35 y305.length co35)) (fun _ hk => trivial), by repeat (first | (with_reducible first | exact HB.out | apply below_alloc | apply pw_below_drewN | apply below_drew1 | refine below_set ?_ GE284.out | refine below_set ?_ GE285.out) | exact HB.out)⟩
                    · rw [if_neg c15] at H
                      exact absurd H (by simp)
                  · rw [if_neg c14] at H
                    exact absurd H (by simp)
                · rw [if_neg c12] at H
                  exact absurd H (by simp)
              · rw [if_neg c11] at H
                exact absurd H (by simp)
            · rw [if_neg c9] at H
              exact absurd H (by simp)
          · rw [if_neg c8] at H
            exact absurd H (by simp)
        · rw [if_neg c7] at H
          exact absurd H (by simp)
      · rw [if_neg c5] at H
        exact absurd H (by simp)
    · rw [if_neg c4] at H
      exact absurd H (by simp)
  · rw [if_neg c3] at H
    exact absurd H (by simp)

-- NOT PRINTED: function 22 (window_Book_int_Look)

-- NOT PRINTED: function 5 (tallyroomlaw19_WindowPlays)

end Go.Proofs.Ytdiepeomhnkgpaa.PWindowPlays