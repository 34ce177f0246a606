/- A parameter []Act, opened. -/
import Derived.Test.YtdiepeomhnkgpaaOnceA
import Derived.Deep.Slices
import Derived.Deep.Strs
import Derived.WideShapes
import Derived.ChangeShapes
import Derived.Carry
import Derived.ChangeOld
import Derived.Lib.Walk
namespace Go.Proofs.Ytdiepeomhnkgpaa
open Go Go.RowKit Go.ChangeShapes Go.WideShapes
set_option linter.unusedVariables false

theorem u64_wf' {x : Int} (h : (Lit.int .u64 x).wf = true) : 0 ≤ x ∧ x < 18446744073709551616 := by
  have h' : (decide (IntKind.u64.min ≤ x) && decide (x ≤ IntKind.u64.max)) = true := h
  simp only [Bool.and_eq_true, decide_eq_true_eq] at h'
  have e1 : IntKind.u64.min = 0 := by decide
  have e2 : IntKind.u64.max = 18446744073709551615 := by decide
  omega
theorem i64_wf' {x : Int} (h : (Lit.int .i64 x).wf = true) : -9223372036854775808 ≤ x ∧ x ≤ 9223372036854775807 := by
  have h' : (decide (IntKind.i64.min ≤ x) && decide (x ≤ IntKind.i64.max)) = true := h
  simp only [Bool.and_eq_true, decide_eq_true_eq] at h'
  have e1 : IntKind.i64.min = -9223372036854775808 := by decide
  have e2 : IntKind.i64.max = 9223372036854775807 := by decide
  omega
theorem u8_wf' {x : Int} (h : (Lit.int .u8 x).wf = true) : 0 ≤ x ∧ x ≤ 255 := by
  have h' : (decide (IntKind.u8.min ≤ x) && decide (x ≤ IntKind.u8.max)) = true := h
  simp only [Bool.and_eq_true, decide_eq_true_eq] at h'
  have e1 : IntKind.u8.min = 0 := by decide
  have e2 : IntKind.u8.max = 255 := by decide
  omega

theorem add_block (a : Addr) (j : Nat) : (a.add j).block = a.block := by unfold Addr.add; split <;> rfl

theorem underlyingAct : ∃ f0 f1 f2 : Field, Try.prog.underlying 34 = some (.struct #[f0, f1, f2]) ∧ f0.type = 3 ∧ f1.type = 22 ∧ f2.type = 3 ∧ f0.offset = 0 ∧ f1.offset = 1 ∧ f2.offset = 2 := by
  refine ⟨_, _, _, Try.underlying34.trans rfl, ?_⟩
  exact ⟨rfl, rfl, rfl, rfl, rfl, rfl⟩
theorem cellsAct : Try.prog.cellsOf 34 = 3 := by kernel_rfl
theorem cells3 : Try.prog.cellsOf 3 = 1 := by kernel_rfl
theorem cells22 : Try.prog.cellsOf 22 = 1 := by kernel_rfl

theorem open_acts {H : Type} {enc : TypeId × Value → H} {W : World} {r : Reach} {b0 : Nat} {v : Value} {d : DataW H} {ps : List MemPlace} (hval : Value.okWide Try.prog W r b0 27 v) (hd : DataW.Trod enc Try.prog W 0 (fun _ => true) true 27 v d ps) :
    ∃ (A : Option Addr) (cap : Nat) (l : List (Int × Int × Int)), v = .slice A l.length cap ∧ Acts W A l := by
  obtain ⟨A, len, cap, rfl⟩ := okWide_slice Try.underlying27 hval
  obtain ⟨fuel, hf⟩ := hd
  simp only [Value.cells, List.toList_toArray] at hf
  rcases Deep.open_slice Try.underlying27 hf with ⟨h0, _⟩ | ⟨a, len', cap', m, n, D, Pl, h0, _, hl, hm, hmm, hx0, hx⟩
  · simp only [List.cons.injEq, Value.slice.injEq, and_true] at h0
    obtain ⟨rfl, rfl, rfl⟩ := h0
    exact ⟨none, 0, [], rfl, by simp, fun i x h => by simp at h⟩
  · simp only [List.cons.injEq, Value.slice.injEq, and_true] at h0
    obtain ⟨rfl, rfl, rfl⟩ := h0
    simp only [if_true] at hmm
    subst hmm
    obtain ⟨f0, f1, f2, hu, t0, t1, t2, o0, o1, o2⟩ := underlyingAct
    have hsp : 0 < len → a.spot = none := fun h => by
      obtain ⟨cs', h1, h2⟩ := hx 0 (by omega)
      rw [cellsAct] at h1
      obtain ⟨_, hlen, hcell⟩ := World.cells?_some h1
      have c0 := hcell 0 (by omega)
      match cs', hlen with
      | [v0, v1, v2], _ =>
        rw [Deep.add_add] at c0
        have e0 : a.add (0 * 3 + 0) = a := by simp [Addr.add]
        rw [e0] at c0
        exact World.cell?_spot c0
    have each : ∀ i, i < len → ∃ x : Int × Int × Int, ∃ b off, a = ⟨b, off, none⟩ ∧ b < W.heap.size ∧ W.cell? ⟨b, off + i * 3, none⟩ = some (.int .i64 x.1) ∧ W.cell? ⟨b, off + i * 3 + 1, none⟩ = some (.int .u64 x.2.1) ∧ W.cell? ⟨b, off + i * 3 + 2, none⟩ = some (.int .i64 x.2.2) ∧
        (0 ≤ x.2.1 ∧ x.2.1 < 18446744073709551616) ∧ (-9223372036854775808 ≤ x.2.2 ∧ x.2.2 ≤ 9223372036854775807) := by
      intro i hi
      obtain ⟨cs', h1, h2⟩ := hx i (by omega)
      rw [cellsAct] at h1
      obtain ⟨_, hlen, hcell⟩ := World.cells?_some h1
      obtain ⟨y0, y1, y2, k, _, _, g0, g1, g2⟩ := Deep.trod_struct3 hu h2
      rw [t0, o0, cells3] at g0
      rw [t1, o1, cells22] at g1
      rw [t2, o2, cells3] at g2
      match cs', hlen with
      | [v0, v1, v2], _ =>
        simp only [List.drop_zero, List.take_succ_cons, List.take_zero, List.drop_succ_cons] at g0 g1 g2
        obtain ⟨n0, e0, _, w0⟩ := DataW.trod_int Try.underlying3 g0
        obtain ⟨n1, e1, _, w1⟩ := DataW.trod_int Try.underlying22 g1
        obtain ⟨n2, e2, _, w2⟩ := DataW.trod_int Try.underlying3 g2
        simp only [List.cons.injEq, and_true] at e0 e1 e2
        subst e0 e1 e2
        have c0 := hcell 0 (by omega)
        have c1 := hcell 1 (by omega)
        have c2 := hcell 2 (by omega)
        rw [Deep.add_add] at c0 c1 c2
        simp only [List.getElem?_cons_zero, List.getElem?_cons_succ] at c0 c1 c2
        obtain ⟨b, off, o⟩ := a
        have hb : b < W.heap.size := by have := World.block_lt_of_cell? _ _ c0; rwa [add_block] at this
        have ho : o = none := hsp (by omega)
        subst ho
        have ad : ∀ j, (⟨b, off, none⟩ : Addr).add j = ⟨b, off + j, none⟩ := fun j => by unfold Addr.add; split <;> simp_all
        rw [ad] at c0 c1 c2
        have b1 := u64_wf' w1
        have b2 := i64_wf' w2
        exact ⟨(n0, n1, n2), b, off, rfl, hb, c0, c1, c2, by omega, by omega⟩
    obtain ⟨f, hfe⟩ := Deep.choose_lt each
    refine ⟨some a, m, (List.range len).map f, by simp, by simp; unfold maxLen at hm; omega, fun i x h => ?_⟩
    have hi : i < len := by
      have := (List.getElem?_eq_some_iff.1 h).1
      simpa using this
    obtain rfl : f i = x := by simpa [hi] using h
    obtain ⟨b, off, e, rest⟩ := hfe i hi
    exact ⟨b, off, by rw [e], rest⟩
end Go.Proofs.Ytdiepeomhnkgpaa
