-- Printed by print.sh: two functions of one of its texts.
import Derived.Test.YtdiepeomhnkgpaaPWindowPlaysx0
namespace Go.Proofs.Ytdiepeomhnkgpaa.PWindowPlays
open Go.RowKit Go.Proofs.YtdiepeomhnkgpaaW.PrintWords Go.Proofs.YtdiepeomhnkgpaaW.PrintLast Go.Proofs.YtdiepeomhnkgpaaW.PrintMore
attribute [local go_sem] max2_int min2_int max_two min_two max_three min_three max_four min_four   -- for this text's walks alone
set_option linter.unusedVariables false
set_option linter.unusedSimpArgs false

/-! ### tallyroomref19_Book_Find: function 18 -/
def tallyroomref19_Book_Find.l0 : Nat → Int → Int → Int → Int → Int → Int → List Int → List Int → Option (Int)
  | 0, _, _, _, _, _, _, _, _ => none
  | k + 1, x1, x5, x222000, x222001, x222002, x222003, x222004, x222005 => if x5 < (x222004.length : Int) then (if 0 ≤ x5 then (if (rd x222004 x5) = x1 then (some x5) else (tallyroomref19_Book_Find.l0 k x1 (wrap64 (x5 + 1)) x222000 x222001 x222002 x222003 x222004 x222005)) else (none)) else (some (-1))
def tallyroomref19_Book_Find.f (k : Nat) (a0_0 : Int) (a0_1 : Int) (a0_2 : Int) (a0_3 : Int) (l0_4 : List Int) (l0_5 : List Int) (a1 : Int) : Option (Int) := tallyroomref19_Book_Find.l0 k a1 0 a0_0 a0_1 a0_2 a0_3 l0_4 l0_5
theorem tallyroomref19_Book_Find.mono_l : ∀ k, (∀ y0 y1 y2 y3 y4 y5 y6 y7, LeO (tallyroomref19_Book_Find.l0 k y0 y1 y2 y3 y4 y5 y6 y7) (tallyroomref19_Book_Find.l0 (k + 1) y0 y1 y2 y3 y4 y5 y6 y7))
  | 0 => fun _ _ _ _ _ _ _ _ r h => by simp [tallyroomref19_Book_Find.l0] at h
  | k + 1 => by
    have ih0 := tallyroomref19_Book_Find.mono_l k
    · intro y0 y1 y2 y3 y4 y5 y6 y7
      unfold tallyroomref19_Book_Find.l0
      repeat' first
      | (with_reducible exact ih0 _ _ _ _ _ _ _ _)
      | (with_reducible exact LeO.refl _)
      | (with_reducible exact LeO.none _)
      | (with_reducible refine LeO.ite ?_ ?_)
      | (with_reducible refine LeO.bind ?_ (fun _ => ?_))
      | exact ih0 _ _ _ _ _ _ _ _
      | exact LeO.none _
      | refine LeO.ite ?_ ?_
      | refine LeO.bind ?_ (fun _ => ?_)
theorem tallyroomref19_Book_Find.mono : ∀ a0 a1 a2 a3 a4 a5 a6 k, LeO (tallyroomref19_Book_Find.f k a0 a1 a2 a3 a4 a5 a6) (tallyroomref19_Book_Find.f (k + 1) a0 a1 a2 a3 a4 a5 a6) := by
  intro a0 a1 a2 a3 a4 a5 a6 k
  have ih0 := tallyroomref19_Book_Find.mono_l k
  unfold tallyroomref19_Book_Find.f
  repeat' first
      | (with_reducible exact ih0 _ _ _ _ _ _ _ _)
      | (with_reducible exact LeO.refl _)
      | (with_reducible exact LeO.none _)
      | (with_reducible refine LeO.ite ?_ ?_)
      | (with_reducible refine LeO.bind ?_ (fun _ => ?_))
      | exact ih0 _ _ _ _ _ _ _ _
      | exact LeO.none _
      | refine LeO.ite ?_ ?_
      | refine LeO.bind ?_ (fun _ => ?_)
set_option maxHeartbeats 8000000 in
set_option maxRecDepth 100000 in
theorem tallyroomref19_Book_Find.calls (k : Nat) (a0_0 : Int) (a0_1 : Int) (a0_2 : Int) (a0_3 : Int) (A0_4 : Option Addr) (c0_4 : Nat) (l0_4 : List Int) (A0_5 : Option Addr) (c0_5 : Nat) (l0_5 : List Int) (a1 : Int) (r : Int) (w : World) (hr0_4 : Kd.C (Kd.int .u64) w A0_4 l0_4.length l0_4) (hc0_4 : l0_4.length ≤ c0_4) (hr0_5 : Kd.C (Kd.int .i64) w A0_5 l0_5.length l0_5) (hc0_5 : l0_5.length ≤ c0_5) (h : tallyroomref19_Book_Find.f k a0_0 a0_1 a0_2 a0_3 l0_4 l0_5 a1 = some r) :
    Calls Try.prog 18 #[.agg #[.int .u64 a0_0, .int .u64 a0_1, .int .i64 a0_2, .int .u64 a0_3, .slice A0_4 l0_4.length c0_4, .slice A0_5 l0_5.length c0_5], .int .u64 a1] w fun e w' => e = .returned (.int .i64 r) ∧ Below w.heap.size w w' := by
  have hu45 := Try.underlying45
  have HR0_4 := Aside0.mk hr0_4
  have HC0_4 := Aside0.mk hc0_4
  clear hr0_4 hc0_4
  have HR0_5 := Aside0.mk hr0_5
  have HC0_5 := Aside0.mk hc0_5
  clear hr0_5 hc0_5
  have HB := Aside0.mk (Below.refl w.heap.size w)
  have H : (tallyroomref19_Book_Find.l0 k a1 0 a0_0 a0_1 a0_2 a0_3 l0_4 l0_5) = some r := h
  clear h
  have H' := Aside0.mk H
  clear H
  go_enter Try.func18, Try.ntmps18
  go_wp2_with (first | ((with_reducible refine gate_dst (N := 2) rfl ?_); refine box_event ?hg (N := 2) ?hd (cs := #[.int .u64 a0_0, .int .u64 a0_1, .int .i64 a0_2, .int .u64 a0_3, .slice A0_4 l0_4.length c0_4, .slice A0_5 l0_5.length c0_5]) (t := 45) ?hr ?_; (case hd => rfl); (case hg => rfl); (case hr => first | (go_simp; done) | (go_simp; rfl)); intro gb221 hg w3 hbox hb; have n0_ := Aside0.mk (below_step (by repeat (first | (with_reducible first | exact HB.out | apply below_alloc | apply pw_below_drewN | apply below_drew1) | exact HB.out)) hb); have n1_ := Aside0.mk (hbox); have n2_ := Aside0.mk ((by rw [hg]; exact (below_size (by repeat (first | (with_reducible first | exact HB.out | apply below_alloc | apply pw_below_drewN | apply below_drew1) | exact HB.out))) : w.heap.size ≤ gb221)); have n3_ := Aside0.mk ((by rw [hg]; exact (below_size (by repeat (first | (with_reducible first | exact HB.out | apply below_alloc | apply pw_below_drewN | apply below_drew1) | exact HB.out))) : w.heap.size ≤ gb221)); clear HB; have HB := n0_; have BK221 := n1_; have GW221 := n2_; have GE221 := n3_; clear n0_ n1_ n2_ n3_; clear hb hbox hg))
  go_loopg [5] k (fun kq v5 w' => ∃ (x5_1 : Int), v5 = .int .i64 x5_1 ∧ Aside0 (tallyroomref19_Book_Find.l0 kq a1 x5_1 a0_0 a0_1 a0_2 a0_3 l0_4 l0_5 = some r) ∧ Aside0 (kq ≤ k) ∧ Aside0 (w'.heap[gb221]? = some (.cells #[.int .u64 a0_0, .int .u64 a0_1, .int .i64 a0_2, .int .u64 a0_3, (.slice A0_4 l0_4.length c0_4), (.slice A0_5 l0_5.length c0_5)] 45 (0, 0))) ∧ Aside0 (Below w.heap.size w w'))
  case atStart => exact ⟨(0), (by first | rfl | (simp; done) | (simp [*]; done)), H', ⟨Nat.le_refl _⟩, ⟨by (with_reducible repeat (first | refine blk_drewN ?_ _ | refine blk_drew ?_ | refine blk_alloc ?_ _)); exact BK221.out⟩, ⟨by repeat (first | (with_reducible first | exact HB.out | apply below_alloc | apply pw_below_drewN | apply below_drew1 | refine below_set ?_ GE221.out) | exact HB.out)⟩⟩
  case round =>
    clear H'
    try clear c1
    try clear p2
    obtain ⟨x5_1, rfl, HA, HK1, BK221, HB⟩ := hrel
    cases gk with
    | zero => exact absurd HA.out (by simp [tallyroomref19_Book_Find.l0])
    | succ k1 =>
      have H := HA.out
      clear HA
      simp only [tallyroomref19_Book_Find.l0] at H
      by_cases c4 : x5_1 < (l0_4.length : Int)
      · rw [if_pos c4] at H
        have c4b0 : decide (x5_1 < (l0_4.length : Int)) = true := decide_eq_true c4
        clear c4
        by_cases c5 : 0 ≤ x5_1
        · rw [if_pos c5] at H
          have c5b0 : decide (0 ≤ x5_1) = true := decide_eq_true c5
          clear c5
          by_cases c6 : (rd l0_4 x5_1) = a1
          · rw [if_pos c6] at H
            have c6b0 : ((rd l0_4 x5_1) == a1) = true := beq_iff_eq.mpr c6
            have c6b1 : ((rd l0_4 x5_1) != a1) = false := bne_eq_false_iff_eq.mpr c6
            clear c6
            obtain rfl := Option.some.inj H
            have hcz7_0 : wr.cell? ⟨gb221, 0, none⟩ = some (.int .u64 a0_0) := (blk_cell BK221.out 0).trans rfl
            have hcz7_1 : wr.cell? ⟨gb221, 1, none⟩ = some (.int .u64 a0_1) := (blk_cell BK221.out 1).trans rfl
            have hcz7_2 : wr.cell? ⟨gb221, 2, none⟩ = some (.int .i64 a0_2) := (blk_cell BK221.out 2).trans rfl
            have hcz7_3 : wr.cell? ⟨gb221, 3, none⟩ = some (.int .u64 a0_3) := (blk_cell BK221.out 3).trans rfl
            have hcz7_4 : wr.cell? ⟨gb221, 4, none⟩ = some (.slice A0_4 l0_4.length c0_4) := (blk_cell BK221.out 4).trans rfl
            have hcz7_5 : wr.cell? ⟨gb221, 5, none⟩ = some (.slice A0_5 l0_5.length c0_5) := (blk_cell BK221.out 5).trans rfl
            have hfz7_0 := blk_frozen BK221.out 0
            have hfz7_1 := blk_frozen BK221.out 1
            have hfz7_2 := blk_frozen BK221.out 2
            have hfz7_3 := blk_frozen BK221.out 3
            have hfz7_4 := blk_frozen BK221.out 4
            have hfz7_5 := blk_frozen BK221.out 5
            have p222 : 0 ≤ (x5_1 : Int) := of_decide_eq_true (by first | (with_reducible assumption) | assumption)
            have q222 : x5_1 < (l0_4.length : Int) := of_decide_eq_true (by first | (with_reducible assumption) | assumption)
            obtain ⟨ad222, e222, hx222_0⟩ := Kd.at_int HR0_4.out x5_1 p222 q222
            cases e222
            replace hx222_0 := (HB.out.cell (World.block_lt_of_cell? w _ hx222_0)).trans hx222_0
            replace p222 := eq_true p222
            replace q222 := eq_true q222
            go_wp2
            go_ret
            exact ⟨by first | rfl | (simp [errW_none, errW_some] <;> rfl) | (simp [*, errW_none, errW_some] <;> rfl), by repeat (first | (with_reducible first | exact HB.out | apply below_alloc | apply pw_below_drewN | apply below_drew1 | refine below_set ?_ GE221.out) | exact HB.out)⟩
          · rw [if_neg c6] at H
            have c6b0 : ((rd l0_4 x5_1) == a1) = false := beq_eq_false_iff_ne.mpr c6
            have c6b1 : ((rd l0_4 x5_1) != a1) = true := bne_iff_ne.mpr c6
            have H' := Aside0.mk H
            clear H
            have hcz8_0 : wr.cell? ⟨gb221, 0, none⟩ = some (.int .u64 a0_0) := (blk_cell BK221.out 0).trans rfl
            have hcz8_1 : wr.cell? ⟨gb221, 1, none⟩ = some (.int .u64 a0_1) := (blk_cell BK221.out 1).trans rfl
            have hcz8_2 : wr.cell? ⟨gb221, 2, none⟩ = some (.int .i64 a0_2) := (blk_cell BK221.out 2).trans rfl
            have hcz8_3 : wr.cell? ⟨gb221, 3, none⟩ = some (.int .u64 a0_3) := (blk_cell BK221.out 3).trans rfl
            have hcz8_4 : wr.cell? ⟨gb221, 4, none⟩ = some (.slice A0_4 l0_4.length c0_4) := (blk_cell BK221.out 4).trans rfl
            have hcz8_5 : wr.cell? ⟨gb221, 5, none⟩ = some (.slice A0_5 l0_5.length c0_5) := (blk_cell BK221.out 5).trans rfl
            have hfz8_0 := blk_frozen BK221.out 0
            have hfz8_1 := blk_frozen BK221.out 1
            have hfz8_2 := blk_frozen BK221.out 2
            have hfz8_3 := blk_frozen BK221.out 3
            have hfz8_4 := blk_frozen BK221.out 4
            have hfz8_5 := blk_frozen BK221.out 5
            have p222 : 0 ≤ (x5_1 : Int) := of_decide_eq_true (by first | (with_reducible assumption) | assumption)
            have q222 : x5_1 < (l0_4.length : Int) := of_decide_eq_true (by first | (with_reducible assumption) | assumption)
            obtain ⟨ad222, e222, hx222_0⟩ := Kd.at_int HR0_4.out x5_1 p222 q222
            cases e222
            replace hx222_0 := (HB.out.cell (World.block_lt_of_cell? w _ hx222_0)).trans hx222_0
            replace p222 := eq_true p222
            replace q222 := eq_true q222
            go_wp2
            go_roundg k1
            case measure => have := HK1.out; omega
            case rel => exact ⟨(wrap64 (x5_1 + 1)), (by first | rfl | (simp; done) | (simp [*]; done)), H', ⟨by have := HK1.out; omega⟩, ⟨by (with_reducible repeat (first | refine blk_drewN ?_ _ | refine blk_drew ?_ | refine blk_alloc ?_ _)); exact BK221.out⟩, ⟨by repeat (first | (with_reducible first | exact HB.out | apply below_alloc | apply pw_below_drewN | apply below_drew1 | refine below_set ?_ GE221.out) | exact HB.out)⟩⟩
        · rw [if_neg c5] at H
          exact absurd H (by simp)
      · rw [if_neg c4] at H
        have c4b0 : decide (x5_1 < (l0_4.length : Int)) = false := decide_eq_false c4
        clear c4
        obtain rfl := Option.some.inj H
        have hcz9_0 : wr.cell? ⟨gb221, 0, none⟩ = some (.int .u64 a0_0) := (blk_cell BK221.out 0).trans rfl
        have hcz9_1 : wr.cell? ⟨gb221, 1, none⟩ = some (.int .u64 a0_1) := (blk_cell BK221.out 1).trans rfl
        have hcz9_2 : wr.cell? ⟨gb221, 2, none⟩ = some (.int .i64 a0_2) := (blk_cell BK221.out 2).trans rfl
        have hcz9_3 : wr.cell? ⟨gb221, 3, none⟩ = some (.int .u64 a0_3) := (blk_cell BK221.out 3).trans rfl
        have hcz9_4 : wr.cell? ⟨gb221, 4, none⟩ = some (.slice A0_4 l0_4.length c0_4) := (blk_cell BK221.out 4).trans rfl
        have hcz9_5 : wr.cell? ⟨gb221, 5, none⟩ = some (.slice A0_5 l0_5.length c0_5) := (blk_cell BK221.out 5).trans rfl
        have hfz9_0 := blk_frozen BK221.out 0
        have hfz9_1 := blk_frozen BK221.out 1
        have hfz9_2 := blk_frozen BK221.out 2
        have hfz9_3 := blk_frozen BK221.out 3
        have hfz9_4 := blk_frozen BK221.out 4
        have hfz9_5 := blk_frozen BK221.out 5
        go_wp2
        go_ret
        exact ⟨by first | rfl | (simp [errW_none, errW_some] <;> rfl) | (simp [*, errW_none, errW_some] <;> rfl), by repeat (first | (with_reducible first | exact HB.out | apply below_alloc | apply pw_below_drewN | apply below_drew1 | refine below_set ?_ GE221.out) | exact HB.out)⟩

/-! ### tallyroomlaw15_Ints: function 20 -/
def tallyroomlaw15_Ints.l0 : Nat → List Int → List Int → Int → Option (Bool)
  | 0, _, _, _ => none
  | k + 1, x0, x1, x5 => if x5 < (x0.length : Int) then (if 0 ≤ x5 then (if x5 < (x1.length : Int) then (if (rd x0 x5) = (rd x1 x5) then (tallyroomlaw15_Ints.l0 k x0 x1 (wrap64 (x5 + 1))) else (some false)) else (none)) else (none)) else (some true)
def tallyroomlaw15_Ints.f (k : Nat) (l0 : List Int) (l1 : List Int) : Option (Bool) := if (l0.length : Int) = (l1.length : Int) then (tallyroomlaw15_Ints.l0 k l0 l1 0) else (some false)
theorem tallyroomlaw15_Ints.mono_l : ∀ k, (∀ y0 y1 y2, LeO (tallyroomlaw15_Ints.l0 k y0 y1 y2) (tallyroomlaw15_Ints.l0 (k + 1) y0 y1 y2))
  | 0 => fun _ _ _ r h => by simp [tallyroomlaw15_Ints.l0] at h
  | k + 1 => by
    have ih0 := tallyroomlaw15_Ints.mono_l k
    · intro y0 y1 y2
      unfold tallyroomlaw15_Ints.l0
      repeat' first
      | (with_reducible exact ih0 _ _ _)
      | (with_reducible exact LeO.refl _)
      | (with_reducible exact LeO.none _)
      | (with_reducible refine LeO.ite ?_ ?_)
      | (with_reducible refine LeO.bind ?_ (fun _ => ?_))
      | exact ih0 _ _ _
      | exact LeO.none _
      | refine LeO.ite ?_ ?_
      | refine LeO.bind ?_ (fun _ => ?_)
theorem tallyroomlaw15_Ints.mono : ∀ a0 a1 k, LeO (tallyroomlaw15_Ints.f k a0 a1) (tallyroomlaw15_Ints.f (k + 1) a0 a1) := by
  intro a0 a1 k
  have ih0 := tallyroomlaw15_Ints.mono_l k
  unfold tallyroomlaw15_Ints.f
  repeat' first
      | (with_reducible exact ih0 _ _ _)
      | (with_reducible exact LeO.refl _)
      | (with_reducible exact LeO.none _)
      | (with_reducible refine LeO.ite ?_ ?_)
      | (with_reducible refine LeO.bind ?_ (fun _ => ?_))
      | exact ih0 _ _ _
      | exact LeO.none _
      | refine LeO.ite ?_ ?_
      | refine LeO.bind ?_ (fun _ => ?_)
set_option maxHeartbeats 8000000 in
set_option maxRecDepth 100000 in
theorem tallyroomlaw15_Ints.calls (k : Nat) (A0 : Option Addr) (c0 : Nat) (l0 : List Int) (A1 : Option Addr) (c1 : Nat) (l1 : List Int) (r : Bool) (w : World) (hr0 : Kd.C (Kd.int .u64) w A0 l0.length l0) (hc0 : l0.length ≤ c0) (hr1 : Kd.C (Kd.int .u64) w A1 l1.length l1) (hc1 : l1.length ≤ c1) (h : tallyroomlaw15_Ints.f k l0 l1 = some r) :
    Calls Try.prog 20 #[.slice A0 l0.length c0, .slice A1 l1.length c1] w fun e w' => e = .returned (.bool r) ∧ Drawn0 w w' := by
  have HR0 := Aside0.mk hr0
  have HC0 := Aside0.mk hc0
  clear hr0 hc0
  have HR1 := Aside0.mk hr1
  have HC1 := Aside0.mk hc1
  clear hr1 hc1
  have H : (if (l0.length : Int) = (l1.length : Int) then (tallyroomlaw15_Ints.l0 k l0 l1 0) else (some false)) = some r := h
  clear h
  by_cases c3 : (l0.length : Int) = (l1.length : Int)
  · rw [if_pos c3] at H
    have c3b0 : ((l0.length : Int) == (l1.length : Int)) = true := beq_iff_eq.mpr c3
    have c3b1 : ((l0.length : Int) != (l1.length : Int)) = false := bne_eq_false_iff_eq.mpr c3
    have c3b2 : (l0.length == l1.length) = true := by first | simpa using c3 | (simp at c3 ⊢; omega)
    clear c3
    have H' := Aside0.mk H
    clear H
    go_enter Try.func20, Try.ntmps20
    go_wp2
    repeat (go_quiet (fail); try go_wp2)
    go_loopg [5] k (fun kq v5 w' => ∃ (x5_1 : Int), v5 = .int .i64 x5_1 ∧ Aside0 (tallyroomlaw15_Ints.l0 kq l0 l1 x5_1 = some r) ∧ Aside0 (kq ≤ k) ∧ Drawn0 w w')
    case atStart => exact ⟨(0), (by first | rfl | (simp; done) | (simp [*]; done)), H', ⟨Nat.le_refl _⟩, by repeat (first | exact Drawn0.refl _ | apply Drawn0.step)⟩
    case round =>
      clear H'
      try clear c1
      try clear c2
      try clear p2
      try clear c3
      try clear c3b0
      try clear c3b1
      try clear c3b2
      obtain ⟨x5_1, rfl, HA, HK1, ⟨m1, rfl⟩⟩ := hrel
      cases gk with
      | zero => exact absurd HA.out (by simp [tallyroomlaw15_Ints.l0])
      | succ k1 =>
        have H := HA.out
        clear HA
        simp only [tallyroomlaw15_Ints.l0] at H
        by_cases c4 : x5_1 < (l0.length : Int)
        · rw [if_pos c4] at H
          have c4b0 : decide (x5_1 < (l0.length : Int)) = true := decide_eq_true c4
          clear c4
          by_cases c5 : 0 ≤ x5_1
          · rw [if_pos c5] at H
            have c5b0 : decide (0 ≤ x5_1) = true := decide_eq_true c5
            clear c5
            by_cases c6 : x5_1 < (l1.length : Int)
            · rw [if_pos c6] at H
              have c6b0 : decide (x5_1 < (l1.length : Int)) = true := decide_eq_true c6
              clear c6
              by_cases c7 : (rd l0 x5_1) = (rd l1 x5_1)
              · rw [if_pos c7] at H
                have c7b0 : ((rd l0 x5_1) == (rd l1 x5_1)) = true := beq_iff_eq.mpr c7
                have c7b1 : ((rd l0 x5_1) != (rd l1 x5_1)) = false := bne_eq_false_iff_eq.mpr c7
                clear c7
                have H' := Aside0.mk H
                clear H
                have p282 : 0 ≤ (x5_1 : Int) := of_decide_eq_true (by first | (with_reducible assumption) | assumption)
                have q282 : x5_1 < (l0.length : Int) := of_decide_eq_true (by first | (with_reducible assumption) | assumption)
                obtain ⟨ad282, e282, hx282_0⟩ := Kd.at_int HR0.out x5_1 p282 q282
                cases e282
                replace p282 := eq_true p282
                replace q282 := eq_true q282
                have p283 : 0 ≤ (x5_1 : Int) := of_decide_eq_true (by first | (with_reducible assumption) | assumption)
                have q283 : x5_1 < (l1.length : Int) := of_decide_eq_true (by first | (with_reducible assumption) | assumption)
                obtain ⟨ad283, e283, hx283_0⟩ := Kd.at_int HR1.out x5_1 p283 q283
                cases e283
                replace p283 := eq_true p283
                replace q283 := eq_true q283
                go_wp2
                repeat (go_quiet (fail); try go_wp2)
                go_roundg k1
                case measure => have := HK1.out; omega
                case rel => exact ⟨(wrap64 (x5_1 + 1)), (by first | rfl | (simp; done) | (simp [*]; done)), H', ⟨by have := HK1.out; omega⟩, by repeat (first | exact Drawn0.refl _ | apply Drawn0.step)⟩
              · rw [if_neg c7] at H
                have c7b0 : ((rd l0 x5_1) == (rd l1 x5_1)) = false := beq_eq_false_iff_ne.mpr c7
                have c7b1 : ((rd l0 x5_1) != (rd l1 x5_1)) = true := bne_iff_ne.mpr c7
                obtain rfl := Option.some.inj H
                have p282 : 0 ≤ (x5_1 : Int) := of_decide_eq_true (by first | (with_reducible assumption) | assumption)
                have q282 : x5_1 < (l0.length : Int) := of_decide_eq_true (by first | (with_reducible assumption) | assumption)
                obtain ⟨ad282, e282, hx282_0⟩ := Kd.at_int HR0.out x5_1 p282 q282
                cases e282
                replace p282 := eq_true p282
                replace q282 := eq_true q282
                have p283 : 0 ≤ (x5_1 : Int) := of_decide_eq_true (by first | (with_reducible assumption) | assumption)
                have q283 : x5_1 < (l1.length : Int) := of_decide_eq_true (by first | (with_reducible assumption) | assumption)
                obtain ⟨ad283, e283, hx283_0⟩ := Kd.at_int HR1.out x5_1 p283 q283
                cases e283
                replace p283 := eq_true p283
                replace q283 := eq_true q283
                go_wp2
                repeat (go_quiet (fail); try go_wp2)
                go_ret
                exact ⟨by first | rfl | (simp; done) | (simp [*]; done), by repeat (first | exact Drawn0.refl _ | apply Drawn0.step)⟩
            · rw [if_neg c6] at H
              exact absurd H (by simp)
          · rw [if_neg c5] at H
            exact absurd H (by simp)
        · rw [if_neg c4] at H
          have c4b0 : decide (x5_1 < (l0.length : Int)) = false := decide_eq_false c4
          clear c4
          obtain rfl := Option.some.inj H
          go_wp2
          repeat (go_quiet (fail); try go_wp2)
          go_ret
          exact ⟨by first | rfl | (simp; done) | (simp [*]; done), by repeat (first | exact Drawn0.refl _ | apply Drawn0.step)⟩
  · rw [if_neg c3] at H
    have c3b0 : ((l0.length : Int) == (l1.length : Int)) = false := beq_eq_false_iff_ne.mpr c3
    have c3b1 : ((l0.length : Int) != (l1.length : Int)) = true := bne_iff_ne.mpr c3
    have c3b2 : (l0.length == l1.length) = false := by first | simpa using c3 | (simp at c3 ⊢; omega)
    obtain rfl := Option.some.inj H
    go_enter Try.func20, Try.ntmps20
    go_wp2
    repeat (go_quiet (fail); try go_wp2)
    go_ret
    exact ⟨by first | rfl | (simp; done) | (simp [*]; done), by repeat (first | exact Drawn0.refl _ | apply Drawn0.step)⟩

end Go.Proofs.Ytdiepeomhnkgpaa.PWindowPlays
