/- The book's methods: New, over, At (with nothing fresh), Take, Look, Mark. -/
import Derived.Test.YtdiepeomhnkgpaaHRep
import Derived.Test.YtdiepeomhnkgpaaHOver
import Derived.Below
import Derived.Maps.OwnSet
import Derived.Deep.Draws
import Derived.Deep.QuietTactic
import Derived.BigQuiet
import Derived.Carry
namespace Go.Proofs.Ytdiepeomhnkgpaa
open Go Go.Maps Go.RowKit

theorem law22 : Keyed Try.prog 22 := int_keyed Try.underlying22
theorem zero3 (w : World) : (zeroValue 3).run Try.prog w = .ok (.int .i64 0) w := by kernel_rfl

/-- Block g is a book; what it keeps lies in block b. -/
structure IsBook (W : World) (g b nn : Nat) (wd lt most mk : Int) (m : List (Int × Int)) : Prop where
  blk : W.heap[g]? = some (.cells #[.int .u64 wd, .int .u64 lt, .int .i64 most, .int .u64 mk, .map (some b)] 63 (0, 0))
  map : ∃ D : DataW Unit, W.ownsMap Try.prog 22 (plainElem Try.prog 3) b nn D ∧ Rep D m

theorem cellOf {W : World} {g t : Nat} {cs : Array Value} (h : W.heap[g]? = some (.cells cs t (0, 0))) (j : Nat) : W.cell? ⟨g, j, none⟩ = cs[j]? := by
  simp [World.cell?, h]
theorem freeOf {W : World} {g t : Nat} {cs : Array Value} (h : W.heap[g]? = some (.cells cs t (0, 0))) (j : Nat) : W.frozen? ⟨g, j, none⟩ = false := by
  simp [World.frozen?, h]

theorem newBlk (w : World) (o : Obj) : (w.alloc o).heap[w.heap.size]? = some o := by
  show (w.heap.push o)[w.heap.size]? = some o
  simp

theorem IsBook.below {W W' : World} {g b nn : Nat} {wd lt most mk : Int} {m : List (Int × Int)} (h : IsBook W g b nn wd lt most mk m) (hb : Below W.heap.size W W') : IsBook W' g b nn wd lt most mk m := by
  obtain ⟨hblk, D, hown, hr⟩ := h
  have hg : g < W.heap.size := (Array.getElem?_eq_some_iff.1 hblk).1
  exact ⟨(hb.block g hg).trans hblk, D, hown.kept (row := none) ⟨hb.os, hb.tape, hb.output, hb.size, fun i hi _ => hb.block i hi⟩ (by simp), hr⟩
theorem IsBook.drewN {W : World} {g b nn : Nat} {wd lt most mk : Int} {m : List (Int × Int)} (h : IsBook W g b nn wd lt most mk m) (n : Nat) : IsBook (W.drewN n) g b nn wd lt most mk m := by
  obtain ⟨hblk, D, hown, hr⟩ := h
  exact ⟨hblk, D, hown, hr⟩

set_option maxHeartbeats 1000000 in
theorem new_ok (wd lt most : Int) (h0 : 1 ≤ wd) (h1 : wd ≤ 4611686018427387904) (h2 : lt ≤ 4611686018427387904) (h3 : 1 ≤ most) (h4 : most ≤ 65536) (W : World) :
    Calls Try.prog 11 #[.int .u64 wd, .int .u64 lt, .int .i64 most] W fun e w' => e = .returned (.tuple #[.pointer (some ⟨W.heap.size + 1, 0, none⟩), .int .i64 0]) ∧ IsBook w' (W.heap.size + 1) W.heap.size 0 wd lt most 0 [] ∧ Below W.heap.size W w' ∧ w'.heap.size = W.heap.size + 2 := by
  have hmm := @run_makeMap Try.prog
  have d0 : decide (wd < 1) = false := decide_eq_false (by omega)
  have d1 : decide (4611686018427387904 < wd) = false := decide_eq_false (by omega)
  have d2 : decide (4611686018427387904 < lt) = false := decide_eq_false (by omega)
  have d3 : decide (most < 1) = false := decide_eq_false (by omega)
  have d4 : decide (65536 < most) = false := decide_eq_false (by omega)
  clear h0 h1 h2 h3 h4
  go_enter Try.func11, Try.ntmps11
  go_wp2
  go_ret2
  refine ⟨rfl, ⟨by rw [show W.heap.size + 1 = (W.alloc (.map #[] 0)).heap.size from by simp]; exact newBlk _ _, .map [], (World.ownsMap_made W Try.prog 22 _).alloc _, rep_empty⟩, ((Below.refl _ W).alloc (Nat.le_refl _) _).alloc (by simp) _, by simp⟩

/-- New at what can't be: any of the five tests. -/
theorem new_no (wd lt most : Int) (W : World) (h : wd < 1 ∨ 4611686018427387904 < wd ∨ 4611686018427387904 < lt ∨ most < 1 ∨ 65536 < most) :
    Calls Try.prog 11 #[.int .u64 wd, .int .u64 lt, .int .i64 most] W fun e w' => e = .returned (.tuple #[.pointer none, .int .i64 1]) ∧ w' = W := by
  by_cases c0 : wd < 1
  · have d0 : decide (wd < 1) = true := decide_eq_true c0
    clear h c0
    go_enter Try.func11, Try.ntmps11
    go_wp2
    go_ret2
    exact ⟨rfl, rfl⟩
  have d0 : decide (wd < 1) = false := decide_eq_false c0
  by_cases c1 : 4611686018427387904 < wd
  · have d1 : decide (4611686018427387904 < wd) = true := decide_eq_true c1
    clear h c0 c1
    go_enter Try.func11, Try.ntmps11
    go_wp2
    go_ret2
    exact ⟨rfl, rfl⟩
  have d1 : decide (4611686018427387904 < wd) = false := decide_eq_false c1
  by_cases c2 : 4611686018427387904 < lt
  · have d2 : decide (4611686018427387904 < lt) = true := decide_eq_true c2
    clear h c0 c1 c2
    go_enter Try.func11, Try.ntmps11
    go_wp2
    go_ret2
    exact ⟨rfl, rfl⟩
  have d2 : decide (4611686018427387904 < lt) = false := decide_eq_false c2
  by_cases c3 : most < 1
  · have d3 : decide (most < 1) = true := decide_eq_true c3
    clear h c0 c1 c2 c3
    go_enter Try.func11, Try.ntmps11
    go_wp2
    go_ret2
    exact ⟨rfl, rfl⟩
  have d3 : decide (most < 1) = false := decide_eq_false c3
  have c4 : 65536 < most := by omega
  have d4 : decide (65536 < most) = true := decide_eq_true c4
  clear h c0 c1 c2 c3 c4
  go_enter Try.func11, Try.ntmps11
  go_wp2
  go_ret2
  exact ⟨rfl, rfl⟩

/-- Who has which bounds. -/
structure Fine (wd lt mk : Int) : Prop where
  w0 : 1 ≤ wd
  w1 : wd < 18446744073709551616
  l0 : 0 ≤ lt
  l1 : lt < 18446744073709551616
  m0 : 0 ≤ mk
  m1 : mk < 18446744073709551616

set_option maxHeartbeats 1000000 in
theorem bover_calls {W : World} {g b nn : Nat} {wd lt most mk : Int} {m : List (Int × Int)} (hB : IsBook W g b nn wd lt most mk m) (hF : Fine wd lt mk) (x : Int) (h0 : 0 ≤ x) (h1 : x < 18446744073709551616) :
    Calls Try.prog 31 #[.pointer (some ⟨g, 0, none⟩), .int .u64 x] W fun e w' => e = .returned (.bool (overB x wd lt mk)) ∧ ∃ q, w' = W.drewN q := by
  have c0 : W.cell? ⟨g, 0, none⟩ = some (.int .u64 wd) := cellOf hB.blk 0
  have c1 : W.cell? ⟨g, 1, none⟩ = some (.int .u64 lt) := cellOf hB.blk 1
  have c3 : W.cell? ⟨g, 3, none⟩ = some (.int .u64 mk) := cellOf hB.blk 3
  have hO := fun X => (over_calls x wd lt mk h0 h1 (by have := hF.w0; omega) hF.w1 hF.l0 hF.l1 hF.m1 X).mono (R' := fun e w' => e = .returned (.bool (overB x wd lt mk)) ∧ w' = X) (fun e w' ⟨a, c⟩ => ⟨a, c.symm⟩)
  generalize overB x wd lt mk = r at hO ⊢
  have HO := Lib.hid hO
  clear hO hB hF h0 h1
  go_enter Try.func31, Try.ntmps31
  go_wp2
  go_quiet ((go_at_call 8; exact Calls.quiet_of_same (HO.out _)))
  go_wp2
  go_ret
  exact ⟨rfl, _, rfl⟩

end Go.Proofs.Ytdiepeomhnkgpaa
