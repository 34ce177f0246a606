/- The walks of WindowNil and WindowOver: each answers true. -/
import Derived.Test.YtdiepeomhnkgpaaHAlive
namespace Go.Proofs.Ytdiepeomhnkgpaa
open Go Go.Maps Go.RowKit
set_option linter.unusedVariables false

set_option maxHeartbeats 1000000 in
theorem windowNil_walk (t : Int) (W : World) :
    Calls Try.prog 6 #[.int .u64 t] W fun e w' => e = .returned (.bool true) ∧ Below W.heap.size W w' := by
  have HA := Lib.hid (alive_calls W)
  go_enter Try.func6, Try.ntmps6
  go_wp2_with (first | (go_at_call 7; refine HA.out.mono ?_; rintro e w1 ⟨rfl, hb1⟩) | go_in)
  go_ret
  exact ⟨rfl, hb1.alloc hb1.size _⟩

theorem refOver_arith (w wd lt mk : Int) (h0 : 0 ≤ w) (hwd : 0 < wd) (hle : lt ≤ mk) : decide (w < (mk - lt) / wd) = overB w wd lt mk := by
  unfold overB
  rw [decide_eq_decide]
  rw [show (w < (mk - lt) / wd) ↔ (w + 1 ≤ (mk - lt) / wd) from by omega, Int.le_ediv_iff_mul_le hwd]
  omega

theorem refOver_small (w wd lt mk : Int) (h0 : 0 ≤ w) (hwd : 0 < wd) (hle : mk < lt) : overB w wd lt mk = false := by
  unfold overB
  have : 0 ≤ (w + 1) * wd := Int.mul_nonneg (by omega) (by omega)
  exact decide_eq_false (fun h => by omega)

set_option maxHeartbeats 1000000 in
theorem refOver_calls (w wd lt mk : Int) (h0 : 0 ≤ w) (h2 : 0 ≤ wd) (h3 : wd < 18446744073709551616) (h4 : 0 ≤ lt) (h7 : mk < 18446744073709551616) (W : World) :
    Calls Try.prog 9 #[.int .u64 w, .int .u64 wd, .int .u64 lt, .int .u64 mk] W fun e w' => e = .returned (.bool (overB w wd lt mk)) ∧ W = w' := by
  by_cases hz : wd = 0
  · have hf : overB w wd lt mk = false := by unfold overB; exact decide_eq_false (fun h => by omega)
    rw [hf]
    have hzb : (wd == 0) = true := beq_iff_eq.2 hz
    clear hz h2 h3 hf h0 h4 h7
    go_enter Try.func9, Try.ntmps9
    go_wp2
    go_ret
    exact ⟨rfl, rfl⟩
  have hzb : (wd == 0) = false := beq_eq_false_iff_ne.2 hz
  by_cases hl : mk < lt
  · rw [refOver_small w wd lt mk h0 (by omega) hl]
    have hlb : decide (mk < lt) = true := decide_eq_true hl
    clear hz h2 h3 h0 h4 h7 hl
    go_enter Try.func9, Try.ntmps9
    go_wp2
    go_ret
    exact ⟨rfl, rfl⟩
  · rw [← refOver_arith w wd lt mk h0 (by omega) (by omega)]
    have hlb : decide (mk < lt) = false := decide_eq_false hl
    have hd1 : 0 ≤ mk - lt := by omega
    have hd2 : mk - lt ≤ 18446744073709551615 := by omega
    have hw1 : 1 ≤ wd := by omega
    clear hz h2 h3 h0 h4 h7 hl
    go_enter Try.func9, Try.ntmps9
    go_wp2
    go_ret
    exact ⟨rfl, rfl⟩

theorem of_zero (t : Int) (W : World) : Calls Try.prog 10 #[.int .u64 t, .int .u64 0] W fun e w' => e = .returned (.int .u64 0) ∧ W = w' := by
  go_enter Try.func10, Try.ntmps10
  go_wp2
  go_ret
  exact ⟨rfl, rfl⟩

theorem over_more (w wd lt mk : Int) (h : overB w wd lt mk = true) : overB w wd lt (mk + 1) = true := by
  unfold overB at *
  have h := of_decide_eq_true h
  exact decide_eq_true (by omega)

theorem over_late (t wd lt mk : Int) (hwd : 0 < wd) (h4 : 0 ≤ lt) (h : overB (t / wd) wd lt mk = true) : t < mk := by
  unfold overB at h
  have h := of_decide_eq_true h
  have := Int.lt_ediv_add_one_mul_self t hwd
  omega

set_option maxHeartbeats 2000000 in
theorem windowOver_walk (t w wd lt mk : Int) (t0 : 0 ≤ t) (t1 : t < 18446744073709551616) (h0 : 0 ≤ w) (h1 : w < 18446744073709551616) (h2 : 0 ≤ wd) (h3 : wd < 18446744073709551616) (h4 : 0 ≤ lt) (h5 : lt < 18446744073709551616) (h6 : 0 ≤ mk) (h7 : mk < 18446744073709551616) (W : World) :
    Calls Try.prog 3 #[.int .u64 t, .int .u64 w, .int .u64 wd, .int .u64 lt, .int .u64 mk] W fun e w' => e = .returned (.bool true) ∧ Below W.heap.size W w' := by
  have HA := Lib.hid (alive_calls W)
  have HO := fun X => Lib.hid (over_calls w wd lt mk h0 h1 h2 h3 h4 h5 h7 X)
  have HR := fun X => Lib.hid (refOver_calls w wd lt mk h0 h2 h3 h4 h7 X)
  by_cases hz : wd = 0
  · subst hz
    have HZ := fun X => Lib.hid (of_zero t X)
    have ho : overB w 0 lt mk = false := by unfold overB; exact decide_eq_false (fun h => by omega)
    rw [ho] at HO HR
    clear t0 t1 h0 h1 h2 h3 h4 h5 h6 h7 ho
    go_enter Try.func3, Try.ntmps3
    go_wp2_with fail
    refine HA.out.mono ?_
    rintro e w1 ⟨rfl, hb1⟩
    go_wp2_with fail
    refine (HO _).out.mono ?_
    rintro e w' ⟨rfl, rfl⟩
    go_wp2_with fail
    refine (HR _).out.mono ?_
    rintro e w' ⟨rfl, rfl⟩
    go_wp2_with fail
    refine (HZ _).out.mono ?_
    rintro e w' ⟨rfl, rfl⟩
    go_wp2_with fail
    refine (HO _).out.mono ?_
    rintro e w' ⟨rfl, rfl⟩
    go_wp2
    go_ret
    exact ⟨rfl, hb1⟩
  have hzb : (wd == 0) = false := beq_eq_false_iff_ne.2 hz
  have HF := fun X => Lib.hid (of_calls t wd t0 t1 (by omega) h3 X)
  have hq0 : 0 ≤ t / wd := Int.ediv_nonneg t0 h2
  have hq1 : t / wd < 18446744073709551616 := by have := Int.ediv_le_self wd t0; omega
  have HN := fun X => Lib.hid (over_calls (t / wd) wd lt mk hq0 hq1 h2 h3 h4 h5 h7 X)
  have hM := fun (hmk : mk < 18446744073709551615) X => Lib.hid (over_calls w wd lt (mk + 1) h0 h1 h2 h3 h4 h5 (by omega) X)
  have hp0 : 0 ≤ t / wd * wd := Int.mul_nonneg hq0 h2
  have hp1 : t / wd * wd ≤ t := Int.ediv_mul_le t hz
  have hp2 : t < t / wd * wd + wd := by have := Int.lt_ediv_add_one_mul_self t (show 0 < wd by omega); rw [Int.add_mul, Int.one_mul] at this; exact this
  have hlate := fun h => over_late t wd lt mk (by omega) h4 h
  obtain ⟨p, hp⟩ : ∃ p, p = t / wd * wd := ⟨_, rfl⟩
  rw [← hp] at hp0 hp1 hp2
  have hpw : IntKind.u64.wrap (t / wd * wd) = p := by rw [← hp]; exact IntWalk.u64_in _ ⟨hp0, by omega⟩
  have hps : IntKind.u64.wrap (t - p) = t - p := IntWalk.u64_in _ ⟨by omega, by omega⟩
  clear hp
  generalize hx : t / wd = x at *
  have hmo := over_more w wd lt mk
  have f1 : decide (t < p) = false := decide_eq_false (by omega)
  have f2 : decide (wd ≤ t - p) = false := decide_eq_false (by omega)
  clear t0 t1 h0 h1 h2 h3 h4 h5 hq0 hq1 hp0 hp1 hp2 hz hx
  cases ho : overB w wd lt mk with
  | false =>
    rw [ho] at HO HR
    clear ho hmo hM h6
    cases hn : overB x wd lt mk with
    | false =>
      rw [hn] at HN
      clear hn hlate h7
      go_enter Try.func3, Try.ntmps3
      go_wp2_with fail
      refine HA.out.mono ?_
      rintro e w1 ⟨rfl, hb1⟩
      go_wp2_with fail
      refine (HO _).out.mono ?_
      rintro e w' ⟨rfl, rfl⟩
      go_wp2_with fail
      refine (HR _).out.mono ?_
      rintro e w' ⟨rfl, rfl⟩
      go_wp2_with fail
      refine (HF _).out.mono ?_
      rintro e w' ⟨rfl, rfl⟩
      go_wp2_with fail
      refine (HO _).out.mono ?_
      rintro e w' ⟨rfl, rfl⟩
      go_wp2_with fail
      refine (HN _).out.mono ?_
      rintro e w' ⟨rfl, rfl⟩
      go_wp2
      go_ret
      exact ⟨rfl, hb1⟩
    | true =>
      rw [hn] at HN
      have hl := hlate hn
      have f3 : decide (t < mk) = true := decide_eq_true hl
      clear hn hlate h7 hl
      go_enter Try.func3, Try.ntmps3
      go_wp2_with fail
      refine HA.out.mono ?_
      rintro e w1 ⟨rfl, hb1⟩
      go_wp2_with fail
      refine (HO _).out.mono ?_
      rintro e w' ⟨rfl, rfl⟩
      go_wp2_with fail
      refine (HR _).out.mono ?_
      rintro e w' ⟨rfl, rfl⟩
      go_wp2_with fail
      refine (HF _).out.mono ?_
      rintro e w' ⟨rfl, rfl⟩
      go_wp2_with fail
      refine (HO _).out.mono ?_
      rintro e w' ⟨rfl, rfl⟩
      go_wp2_with fail
      refine (HN _).out.mono ?_
      rintro e w' ⟨rfl, rfl⟩
      go_wp2
      go_ret
      exact ⟨rfl, hb1⟩
  | true =>
    have hmo := hmo ho
    rw [ho] at HO HR
    clear ho
    by_cases hmk : mk < 18446744073709551615
    · have hM := hM hmk
      rw [hmo] at hM
      have f4 : decide (mk < 18446744073709551615) = true := decide_eq_true hmk
      have f5 : IntKind.u64.wrap (mk + 1) = mk + 1 := IntWalk.u64_in _ ⟨by omega, by omega⟩
      clear hmk h6
      cases hn : overB x wd lt mk with
      | false =>
        rw [hn] at HN
        clear hn hlate h7
        go_enter Try.func3, Try.ntmps3
        go_wp2_with fail
        refine HA.out.mono ?_
        rintro e w1 ⟨rfl, hb1⟩
        go_wp2_with fail
        refine (HO _).out.mono ?_
        rintro e w' ⟨rfl, rfl⟩
        go_wp2_with fail
        refine (HR _).out.mono ?_
        rintro e w' ⟨rfl, rfl⟩
        go_wp2_with fail
        refine (HF _).out.mono ?_
        rintro e w' ⟨rfl, rfl⟩
        go_wp2_with fail
        refine (HO _).out.mono ?_
        rintro e w' ⟨rfl, rfl⟩
        go_wp2_with fail
        refine (hM _).out.mono ?_
        rintro e w' ⟨rfl, rfl⟩
        go_wp2_with fail
        refine (HN _).out.mono ?_
        rintro e w' ⟨rfl, rfl⟩
        go_wp2
        go_ret
        exact ⟨rfl, hb1⟩
      | true =>
        rw [hn] at HN
        have hl := hlate hn
        have f3 : decide (t < mk) = true := decide_eq_true hl
        clear hn hlate h7 hl
        go_enter Try.func3, Try.ntmps3
        go_wp2_with fail
        refine HA.out.mono ?_
        rintro e w1 ⟨rfl, hb1⟩
        go_wp2_with fail
        refine (HO _).out.mono ?_
        rintro e w' ⟨rfl, rfl⟩
        go_wp2_with fail
        refine (HR _).out.mono ?_
        rintro e w' ⟨rfl, rfl⟩
        go_wp2_with fail
        refine (HF _).out.mono ?_
        rintro e w' ⟨rfl, rfl⟩
        go_wp2_with fail
        refine (HO _).out.mono ?_
        rintro e w' ⟨rfl, rfl⟩
        go_wp2_with fail
        refine (hM _).out.mono ?_
        rintro e w' ⟨rfl, rfl⟩
        go_wp2_with fail
        refine (HN _).out.mono ?_
        rintro e w' ⟨rfl, rfl⟩
        go_wp2
        go_ret
        exact ⟨rfl, hb1⟩
    · have f4 : decide (mk < 18446744073709551615) = false := decide_eq_false hmk
      clear hmk hM h6
      cases hn : overB x wd lt mk with
      | false =>
        rw [hn] at HN
        clear hn hlate h7
        go_enter Try.func3, Try.ntmps3
        go_wp2_with fail
        refine HA.out.mono ?_
        rintro e w1 ⟨rfl, hb1⟩
        go_wp2_with fail
        refine (HO _).out.mono ?_
        rintro e w' ⟨rfl, rfl⟩
        go_wp2_with fail
        refine (HR _).out.mono ?_
        rintro e w' ⟨rfl, rfl⟩
        go_wp2_with fail
        refine (HF _).out.mono ?_
        rintro e w' ⟨rfl, rfl⟩
        go_wp2_with fail
        refine (HO _).out.mono ?_
        rintro e w' ⟨rfl, rfl⟩
        go_wp2_with fail
        refine (HN _).out.mono ?_
        rintro e w' ⟨rfl, rfl⟩
        go_wp2
        go_ret
        exact ⟨rfl, hb1⟩
      | true =>
        rw [hn] at HN
        have hl := hlate hn
        have f3 : decide (t < mk) = true := decide_eq_true hl
        clear hn hlate h7 hl
        go_enter Try.func3, Try.ntmps3
        go_wp2_with fail
        refine HA.out.mono ?_
        rintro e w1 ⟨rfl, hb1⟩
        go_wp2_with fail
        refine (HO _).out.mono ?_
        rintro e w' ⟨rfl, rfl⟩
        go_wp2_with fail
        refine (HR _).out.mono ?_
        rintro e w' ⟨rfl, rfl⟩
        go_wp2_with fail
        refine (HF _).out.mono ?_
        rintro e w' ⟨rfl, rfl⟩
        go_wp2_with fail
        refine (HO _).out.mono ?_
        rintro e w' ⟨rfl, rfl⟩
        go_wp2_with fail
        refine (HN _).out.mono ?_
        rintro e w' ⟨rfl, rfl⟩
        go_wp2
        go_ret
        exact ⟨rfl, hb1⟩
/-- A uint64's bounds out of its form. -/
theorem u64_of_wf {x : Int} (h : (Lit.int .u64 x).wf = true) : 0 ≤ x ∧ x < 18446744073709551616 := by
  have h' : (decide (IntKind.u64.min ≤ x) && decide (x ≤ IntKind.u64.max)) = true := h
  simp only [Bool.and_eq_true, decide_eq_true_eq] at h'
  have e1 : IntKind.u64.min = 0 := by decide
  have e2 : IntKind.u64.max = 18446744073709551615 := by decide
  omega

theorem windowOver_row (t w wd lt mk : Int) (ht : (Lit.int .u64 t).wf = true) (hw : (Lit.int .u64 w).wf = true) (hwd : (Lit.int .u64 wd).wf = true) (hlt : (Lit.int .u64 lt).wf = true) (hmk : (Lit.int .u64 mk).wf = true) (W : World) :
    Calls Try.prog 3 #[.int .u64 t, .int .u64 w, .int .u64 wd, .int .u64 lt, .int .u64 mk] W fun e w' => e = .returned (.bool true) ∧ Below W.heap.size W w' := by
  have := u64_of_wf ht; have := u64_of_wf hw; have := u64_of_wf hwd; have := u64_of_wf hlt; have := u64_of_wf hmk
  exact windowOver_walk t w wd lt mk (by omega) (by omega) (by omega) (by omega) (by omega) (by omega) (by omega) (by omega) (by omega) (by omega) W
theorem windowNil_row (t : Int) (_ : (Lit.int .u64 t).wf = true) (W : World) :
    Calls Try.prog 6 #[.int .u64 t] W fun e w' => e = .returned (.bool true) ∧ Below W.heap.size W w' := windowNil_walk t W

end Go.Proofs.Ytdiepeomhnkgpaa
