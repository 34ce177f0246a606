/- Texts put together: HU, HKeys, HCol, HRep, HOver, HBook, HAt, HOne, HOpen1, HAlive, WNil. -/
import Derived.Sort.KeysCollected
import Derived.Sort.OwnSorted
import Derived.Lib.SlKeysI
import Derived.Test.YtdiepeomhnkgpaaProg
import Derived.RangeFuncStops
import Derived.Shelf.AbstractIn
import Derived.RangeFuncSeq
import Derived.RangeFuncBox
import Derived.RangeFuncLeaves
import Derived.RangeFuncBound
import Derived.Sort.MapsRangeIn
import Derived.Maps.AppendAt
import Derived.WalkKit
import Derived.OwnWalkIn
import Derived.TacticsInMore
import Derived.RegionIn
import Derived.LoopNIn
import Derived.LoopIn
import Derived.Maps.OwnSet
import Derived.Maps.OwnOps
import Derived.Test.YtdiepeomhnkgpaaShelf
import Derived.Laws.Externs
import Derived.Lib.Hide
import Derived.Outline
import Derived.Below
import Derived.Deep.Draws
import Derived.Deep.QuietTactic
import Derived.BigQuiet
import Derived.Carry
import Derived.LoopN
import Derived.Deep.LoopGhost
/- Keys of a map that are of the kind uint64, collected in whatever order: the plain layer, over any program. -/
namespace Go.Proofs.Ytdiepeomhnkgpaa
open Go Go.Maps

/-- A uint64 as a value. -/
abbrev encU : Int → Value := Value.int .u64
theorem encU_inj {x y : Int} (h : encU x = encU y) : x = y := by simpa [encU] using h

theorem keyOf_u64 {P : Program} {k : TypeId} (hk : P.underlying k = some (.int .u64)) {key : Value} {kl : Lit} (h : keyOf P k key = some kl) : ∃ x : Int, key = encU x ∧ kl = .int .u64 x ∧ (Lit.int .u64 x).wf = true := by
  cases key <;> simp [keyOf, hk, mapKey] at h
  rename_i q a
  obtain ⟨⟨rfl, hw⟩, rfl⟩ := h
  exact ⟨a, rfl, rfl, hw⟩

/-- No key twice; a key is on the list just where the map has it and it is no longer to come. -/
def CollectedU {H : Type} (D0 : DataW H) (left : Lit → Bool) (ss : List Int) : Prop := ss.Nodup ∧ ∀ x, x ∈ ss ↔ (has D0 (.int .u64 x) = true ∧ left (.int .u64 x) = false)

section
variable {H : Type} {D0 : DataW H} {left : Lit → Bool} {ss : List Int}

theorem CollectedU.start (D0 : DataW H) : CollectedU D0 (has D0) [] := ⟨List.nodup_nil, fun x => by cases has D0 (.int .u64 x) <;> simp⟩

theorem CollectedU.step (h : CollectedU D0 left ss) {x : Int} {y : DataW H} (hlk : left (.int .u64 x) = true) (hat : ∀ zd, D0.atKey (.int .u64 x) zd = y) : CollectedU D0 (fun z => left z && !z.sameKey (.int .u64 x)) (ss ++ [x]) := by
  have hhas : has D0 (.int .u64 x) = true := has_true_of_atKey hat
  have hnew : x ∉ ss := fun hx => by have := ((h.2 x).1 hx).2; rw [hlk] at this; cases this
  refine ⟨List.nodup_append.2 ⟨h.1, by simp, fun a ha b hb => by simp at hb; subst hb; exact fun e => hnew (e ▸ ha)⟩, fun y => ?_⟩
  by_cases hy : y = x
  · subst hy; simp [hhas, Lit.sameKey]
  · simp [h.2 y, hy, Lit.sameKey]

end
end Go.Proofs.Ytdiepeomhnkgpaa

/- maps.Keys at map[uint64]int: the iterator and its closure, by contract; slices.AppendSeq, Collect over it. -/
namespace Go.Proofs.Ytdiepeomhnkgpaa
open Go.RowKit Go.Maps Go.Sort Go.Shelf

set_option maxRecDepth 100000 in
set_option maxHeartbeats 1000000 in
/-- The closure of maps.Keys: the keys come, each once, in some order; or a round has said 'no more'. -/
theorem keys1 {H : Type} (F : Fence) (n : Nat) (h42 : F.fn 42) (hro : F.round = none) (hn : 1 ≤ n) (l Bm b nn : Nat) (D0 : DataW H) {R : Value → Option (DataW H × List MemPlace)} (J Jx : List Int → World → Prop)
    (hY : ∀ pre x W, J pre W → pre.length < Maps.size D0 → YieldAt F (n - 1) Try.prog l #[encU x] W fun e W' => (e = .returned (.bool true) ∧ J (pre ++ [x]) W' ∧ KeepsWalks W W') ∨ (e = .returned (.bool false) ∧ Jx (pre ++ [x]) W'))
    (W : World) (hJ : AbidesFrom W.heap.size J) (hm : W.cell? ⟨Bm, 0, none⟩ = some (.map (some b))) (hown : W.ownsMap Try.prog 22 R b nn D0) (h0 : J [] W) :
    CallsIn F n Try.prog 42 #[.func (.yield l) #[] #[], .pointer (some ⟨Bm, 0, none⟩)] W fun e W' => (∃ v, e = .returned v) ∧
      ((∃ ss : List Int, (ss.Nodup ∧ ∀ x, x ∈ ss ↔ Maps.has D0 (.int .u64 x) = true) ∧ J ss W') ∨ (∃ pre : List Int, True ∧ Jx pre W')) := by
  refine callsIn_of_wp Try.func42 rfl h42 ?_ hro
  simp only [Try.ntmps42, List.size_toArray, List.length_cons, List.length_nil, Nat.reduceAdd, Nat.reduceSub, Array.replicate_succ, Array.replicate_zero, List.push_toArray, List.append_toArray, List.nil_append, List.cons_append]
  gi_wp2_with (first
    | (gi_at_range; refine wpListIn_range_own _ rfl _ 61 rfl 22 3 (int_keyed Try.underlying22) Try.underlying61 _ b nn _ rfl hown ?_; intro w0 hrg0 hg0 hs0)
    | gi_in)
  go_frame
  gi_loopw [3] (fun _ wr => ∃ (left : Lit → Bool) (cnt : Nat) (ss : List Int), wr.ranges Try.prog 22 R b W.heap.size nn D0 left cnt ∧ ss.length + cnt ≤ Maps.size D0 ∧ CollectedU D0 left ss ∧ J ss wr)
    (fun _ wr => wr.rangeLeft b W.heap.size)
  case atStart =>
    exact ⟨_, _, [], hrg0, by simp, CollectedU.start D0, hJ [] W w0 none h0 hg0 (fun r e => by cases e)⟩
  case round =>
    obtain ⟨left, cnt, ss, hrg, hcs, hC, hJs⟩ := hrel
    gi_wp2_with (first
      | (gi_at_next; refine wpListIn_next_ranges _ rfl _ rfl 22 (int_keyed Try.underlying22) R encU id (fun key kl hk => by obtain ⟨x, hx, _⟩ := keyOf_u64 Try.underlying22 hk; exact ⟨x, hx⟩) (fun v _ _ => ⟨v, rfl⟩) b W.heap.size nn _ _ _ rfl hrg ?_ ?_)
      | gi_in)
    · intro hc0 hl0
      gi_wp2
      go_end0
      exact ⟨⟨_, rfl⟩, .inl ⟨ss, ⟨hC.1, fun x => by rw [hC.2 x, hl0]; simp⟩, hJs⟩⟩
    · intro x c kl yd yp w2 cnt2 hkey hlk hv hat hrg2 hlt hg2 hs2 hen
      obtain ⟨x', ex, rfl, _⟩ := keyOf_u64 Try.underlying22 hkey
      obtain rfl : x = x' := encU_inj ex
      have hJ2 : J ss w2 := hJ ss wr w2 (some W.heap.size) hJs hg2 (fun r e => by cases e; exact ⟨Nat.le_refl _, hrg.iter_walk⟩)
      obtain ⟨fn, tmps, assign, body, hy, hR⟩ := hY ss x w2 hJ2 (by omega)
      clear hs2
      gi_wp2
      refine hR.mono ?_
      have hC2 := hC.step hlk hat
      rintro e W3 (⟨rfl, hJ3, hk3⟩ | ⟨rfl, hJx3⟩)
      · gi_wp2
        have hrg3 := hrg2.of_walks hk3
        go_roundw
        case rel => exact ⟨_, cnt2, ss ++ [x], hrg3, by simp; omega, hC2, hJ3⟩
        case measure => rw [hrg3.left_eq, hrg.left_eq]; exact hlt
      · gi_wp2
        refine bodyPost_ret (results_none rfl _ _ _) rfl ?_
        exact ⟨⟨_, rfl⟩, .inr ⟨ss ++ [x], trivial, hJx3⟩⟩

/-- maps.Keys(m): the map is boxed; the function value captures the box. -/
theorem keys_in (F : Fence) (n : Nat) (h35 : F.fn 35) (hro : F.round = none) (mb : Option Nat) (w : World) :
    CallsIn F n Try.prog 35 #[.map mb] w fun e w' => e = .returned (.func (.func 42) #[] #[.pointer (some ⟨w.heap.size, 0, none⟩)]) ∧ w' = w.alloc (.cells #[.map mb] 61) := by
  refine callsIn_of_wp Try.func35 rfl h35 ?_ hro
  simp only [Try.ntmps35, List.size_toArray, List.length_cons, List.length_nil, Nat.reduceAdd, Nat.reduceSub, Array.replicate_succ, Array.replicate_zero, List.push_toArray, List.append_toArray, List.nil_append, List.cons_append]
  gi_wp2
  go_ret
  exact ⟨rfl, rfl⟩

/-- maps.Keys(m) hands back an iterator over m's keys. -/
theorem keys_stops {H : Type} (F : Fence) (n : Nat) (h42 : F.fn 42) (hro : F.round = none) (hn : 1 ≤ n) (Bm b nn : Nat) (D0 : DataW H) {R : Value → Option (DataW H × List MemPlace)} (w : World) (hBm : Bm < w.heap.size)
    (hm : w.cell? ⟨Bm, 0, none⟩ = some (.map (some b))) (hown : w.ownsMap Try.prog 22 R b nn D0) :
    SeqStops F n Try.prog 42 #[.pointer (some ⟨Bm, 0, none⟩)] encU (fun ss => ss.Nodup ∧ ∀ x, x ∈ ss ↔ Maps.has D0 (.int .u64 x) = true) (fun _ => True) (Maps.size D0) w := fun l J Jx W hW hJ _ hY h0 => by
  have hown' : W.ownsMap Try.prog 22 R b nn D0 := by
    have hbl := hown.lt
    obtain ⟨es, clock, hb, Ft, hs, hD⟩ := hown
    exact ⟨es, clock, (hW.block b hbl).trans hb, Ft, hs, hD⟩
  exact keys1 F n h42 hro hn l Bm b nn D0 J Jx hY W hJ ((hW.cell (p := ⟨Bm, 0, none⟩) hBm).trans hm) hown' h0

end Go.Proofs.Ytdiepeomhnkgpaa

/- slices.AppendSeq, slices.Collect at []uint64, over whatever iterator that stops. -/
namespace Go.Proofs.Ytdiepeomhnkgpaa
open Go.RowKit Go.Maps Go.Sort Go.Shelf
attribute [local go_sem] Oper.semAt_some

theorem info22u : (Try.prog.info? 22).map (fun i => (i.zero, i.size, i.bytes)) = some (some (.int .u64 0), 1, 8) := by kernel_rfl

set_option maxRecDepth 100000 in
set_option maxHeartbeats 2000000 in
theorem appendSeq_in (F : Fence) (n : Nat) (h44 : F.fn 44) (hro : F.round = none) (hn : 3 ≤ n) (g : Nat) (lb : Array Value) (hFg : F.fn g) (eg : ∀ args w, (callFunc g args).run Try.prog w = .ok (.enter g args) w)
    (S Sp : List Int → Prop) (N : Nat) (hN : N ≤ maxLen) (hNb : N * 8 ≤ 140737488355328) (w w0 : World) (hb0 : Below w0.heap.size w0 w) (hseq : SeqStops F (n - 1) Try.prog g lb encU S Sp N w0) :
    CallsIn F n Try.prog 44 #[.slice none 0 0, .func (.func g) #[] lb] w fun e w' => ∃ (v : Value) (ss : List Int), e = .returned v ∧ S ss ∧
      w'.ownsRow w.heap.size 22 1 v ss.length (ss.map encU) ∧ (v = .slice none 0 0 ↔ ss = []) ∧ Below w.heap.size w w' := by
  have h1 : 1 ≤ n := by omega
  obtain ⟨i0, hi, hz0, hz1, hz2⟩ := info_parts info22u
  refine callsIn_of_wp_marks Try.func44 rfl h44 ?_ hro
  simp only [Try.ntmps44, List.size_toArray, List.length_cons, List.length_nil, Nat.reduceAdd, Nat.reduceSub, Array.replicate_succ, Array.replicate_zero, List.push_toArray, List.append_toArray, List.nil_append, List.cons_append]
  gi_wp2
  have bO := Boxed.new w 32 (.slice none 0 0)
  have hB0 : Below w.heap.size w (w.alloc (.cells #[.slice none 0 0] 32)) := (Below.refl _ w).alloc (Nat.le_refl _) _
  refine wpIn_rangeFunc_ownG hro h1 (gf := g) (lb := lb) rfl hFg eg hseq walksK_t walksK_b (hb0.trans (hB0.mono hb0.size)) (fun _ => rfl)
    (fun pre W => (∃ v, Boxed W w.heap.size 32 v ∧ W.ownsRow w.heap.size 22 1 v pre.length (pre.map encU) ∧ (v = .slice none 0 0 ↔ pre = [])) ∧ Below w.heap.size w W)
    (fun _ _ _ => False)
    (OwnFrom.and (Own.from (holdsRow_own w.heap.size w.heap.size 32 22 1 (fun pre => pre.length) (fun pre => pre.map encU) (fun pre v => v = .slice none 0 0 ↔ pre = [])) _) (ownFrom_below (Nat.le_refl _) (by simp)))
    (fun _ _ _ _ _ hs _ _ => hs)
    ⟨⟨_, bO, World.ownsRow_nil _ _ _ _, by simp⟩, hB0⟩
    (fun x => { tmps := #[.slice none 0 0, .func (.func g) #[] lb, .pointer (some ⟨w.heap.size, 0, none⟩), undef, .slice none 0 0, .int .u64 x, .func (.func g) #[] lb, .int .u64 x, undef, undef, undef, undef, undef], defers := [] }) ?assign ?body ?done ?stop
  case assign =>
    intro l x W K hK
    gi_wp2
    exact hK
  case body =>
    rintro l pre x W ⟨⟨v, hv, hrow, hnil⟩, hB⟩ hlt
    have hc := hv.cell
    gi_wp2_with (gi_at_builtin; refine wpListIn_append_own _ rfl _ _ 32 rfl w.heap.size 22 i0 (.int .u64 0) 1 8 Try.underlying32 hi hz0 hz1 hz2 rfl (by decide) _ _ _ rfl (hrow.alloc _) ⟨W.heap.size, 0, none⟩ 1 1 [.int .u64 x] rfl rfl (cell_one_new _ _ _) (by simp [Value.oneCell']) (by omega) (by omega) (by have := hB.size; simp; omega) ?_; intro v' w1 hown' hgrow _; obtain ⟨g', cap', rfl⟩ := ownsRow_succ hown'; obtain ⟨hv1, hv2, hr2, hk2, hb2⟩ := hv.appended (by decide) hrow hB.size (Nat.le_refl _) hown' hgrow; have hc1 := hv1.cell; have hf1 := hv1.frozen)
    exact ⟨hk2.from _, hk2.walks, ⟨_, hv2, by simpa using hr2, by simp⟩, hB.trans hb2⟩
  case done =>
    rintro D ys W hD hS' ⟨⟨v, hv, hrow, hnil⟩, hB⟩ hK
    have hc := hv.cell
    gi_wp2
    refine ⟨by simp, .inl ⟨_, _, rfl, run_takeDeferred hK, ?_⟩⟩
    exact ⟨_, results_tmp rfl _ _ _, v, ys, rfl, hS', ownsRow_putObj hrow _ hK rfl, hnil, hB.trans (belowK_b (w := w) (Nat.le_refl _) W D _ _ (by simp at hD; omega) hK rfl rfl)⟩
  case stop =>
    rintro D c pre W _ _ h _
    exact h.elim

set_option maxHeartbeats 1000000 in
theorem collect_in (F : Fence) (n : Nat) (h40 : F.fn 40) (h44 : F.fn 44) (hro : F.round = none) (hn : 4 ≤ n) (g : Nat) (lb : Array Value) (hFg : F.fn g) (eg : ∀ args w, (callFunc g args).run Try.prog w = .ok (.enter g args) w)
    (S Sp : List Int → Prop) (N : Nat) (hN : N ≤ maxLen) (hNb : N * 8 ≤ 140737488355328) (w w0 : World) (hb0 : Below w0.heap.size w0 w) (hseq : SeqStops F (n - 1 - 1) Try.prog g lb encU S Sp N w0) :
    CallsIn F n Try.prog 40 #[.func (.func g) #[] lb] w fun e w' => ∃ (v : Value) (ss : List Int), e = .returned v ∧ S ss ∧
      w'.ownsRow w.heap.size 22 1 v ss.length (ss.map encU) ∧ (v = .slice none 0 0 ↔ ss = []) ∧ Below w.heap.size w w' := by
  have h1 : 1 ≤ n := by omega
  have cA := fun W (hb : Below w0.heap.size w0 W) => appendSeq_in F (n - 1) h44 hro (by omega) g lb hFg eg S Sp N hN hNb W w0 hb hseq
  refine callsIn_of_wp Try.func40 rfl h40 ?_ hro
  simp only [Try.ntmps40, List.size_toArray, List.length_cons, List.length_nil, Nat.reduceAdd, Nat.reduceSub, Array.replicate_succ, Array.replicate_zero, List.push_toArray, List.append_toArray, List.nil_append, List.cons_append]
  gi_wp2_with (gi_at_call 44; refine (cA _ hb0).mono ?_; rintro e w' ⟨v, ss, rfl, hS, hrow, hnil, hb⟩)
  go_ret
  exact ⟨v, ss, rfl, hS, hrow, hnil, hb⟩

end Go.Proofs.Ytdiepeomhnkgpaa

/- A map of numbers by numbers, read as a list of pairs. -/
namespace Go.Proofs.Ytdiepeomhnkgpaa
open Go Go.Maps Go.RowKit

/-- The datum D holds just the pairs of m, each key once; keys are uint64s, elements ints. -/
structure Rep (D : DataW Unit) (m : List (Int × Int)) : Prop where
  tidy : Tidy D
  nodup : (m.map Prod.fst).Nodup
  keys : ∀ x, Maps.has D (.int .u64 x) = true ↔ x ∈ m.map Prod.fst
  vals : ∀ p, p ∈ m → ∀ z, D.atKey (.int .u64 p.1) z = .lit (.int .i64 p.2)
  size : Maps.size D = m.length
  wf : ∀ p, p ∈ m → (0 ≤ p.1 ∧ p.1 < 18446744073709551616) ∧ (Lit.int .i64 p.2).wf = true

theorem wf_u64 {x : Int} (h0 : 0 ≤ x) (h1 : x < 18446744073709551616) : (Lit.int .u64 x).wf = true := by
  exact WalkArith.wf_u64 ⟨h0, by omega⟩

theorem isKey_u64 (x : Int) : WideAt.IsKeyLit (Lit.int .u64 x) := by
  first | exact trivial | exact ⟨_, rfl⟩ | simp [WideAt.IsKeyLit]

theorem rep_empty : Rep (.map []) [] := ⟨tidy_empty, by simp, fun x => by simp [Maps.has], by simp, rfl, by simp⟩

theorem rep_perm {D : DataW Unit} {m m' : List (Int × Int)} (h : Rep D m) (hp : m.Perm m') : Rep D m' :=
  ⟨h.tidy, (hp.map _).nodup_iff.1 h.nodup, fun x => (h.keys x).trans (hp.map _).mem_iff, fun p hp' => h.vals p (hp.mem_iff.2 hp'), h.size.trans hp.length_eq, fun p hp' => h.wf p (hp.mem_iff.2 hp')⟩

theorem rep_not {D : DataW Unit} {m : List (Int × Int)} (h : Rep D m) {x : Int} (hx : x ∉ m.map Prod.fst) : Maps.has D (.int .u64 x) = false := by
  cases e : Maps.has D (.int .u64 x) with
  | false => rfl
  | true => exact absurd ((h.keys x).1 e) hx

theorem rep_put {D : DataW Unit} {m : List (Int × Int)} (h : Rep D m) {x v : Int} (hx : x ∉ m.map Prod.fst) (h0 : 0 ≤ x) (h1 : x < 18446744073709551616) (hv : (Lit.int .i64 v).wf = true) :
    Rep (D.put (.int .u64 x) (.lit (.int .i64 v))) ((x, v) :: m) := by
  have hn := rep_not h hx
  have hne : ∀ y, y ≠ x → (Lit.int .u64 y) ≠ Lit.int .u64 x := fun y hy e => hy (by injection e)
  refine ⟨h.tidy.put (isKey_u64 x) _, ?_, fun y => ?_, fun p hp z => ?_, ?_, fun p hp => ?_⟩
  · simp only [List.map_cons, List.nodup_cons]; exact ⟨hx, h.nodup⟩
  · by_cases hy : y = x
    · subst hy; simp [has_put_same h.tidy.isMap (isKey_u64 _)]
    · rw [has_put_other (hne y hy), h.keys y]; simp [hy]
  · rcases List.mem_cons.1 hp with rfl | hp'
    · exact atKey_put_same h.tidy.isMap (isKey_u64 _) _ _
    · have hy : p.1 ≠ x := fun e => hx (e ▸ List.mem_map_of_mem hp')
      rw [atKey_put_other (hne _ hy)]; exact h.vals p hp' z
  · rw [size_put h.tidy, hn, h.size]; simp
  · rcases List.mem_cons.1 hp with rfl | hp'
    · exact ⟨⟨h0, h1⟩, hv⟩
    · exact h.wf p hp'

theorem rep_del {D : DataW Unit} {m : List (Int × Int)} (h : Rep D m) (x : Int) : Rep (D.del (.int .u64 x)) (m.filter fun p => p.1 ≠ x) := by
  have hne : ∀ y, y ≠ x → (Lit.int .u64 y) ≠ Lit.int .u64 x := fun y hy e => hy (by injection e)
  have hsub : (m.filter fun p => p.1 ≠ x).Sublist m := List.filter_sublist
  refine ⟨h.tidy.del _, (hsub.map _).nodup h.nodup, fun y => ?_, fun p hp z => ?_, ?_, fun p hp => h.wf p (List.mem_filter.1 hp).1⟩
  · by_cases hy : y = x
    · subst hy
      rw [has_del_same]
      simp
    · rw [has_del_other (hne y hy), h.keys y]
      simp only [List.mem_map, List.mem_filter]
      constructor
      · rintro ⟨p, hp, rfl⟩; exact ⟨p, ⟨hp, by simpa using hy⟩, rfl⟩
      · rintro ⟨p, ⟨hp, _⟩, rfl⟩; exact ⟨p, hp, rfl⟩
  · obtain ⟨hp1, hp2⟩ := List.mem_filter.1 hp
    have hy : p.1 ≠ x := by simpa using hp2
    rw [atKey_del_other (hne _ hy)]; exact h.vals p hp1 z
  · have hs := size_del h.tidy (k := .int .u64 x)
    rw [h.size] at hs
    have hl : ∀ l : List (Int × Int), (l.map Prod.fst).Nodup → (l.filter fun p => p.1 ≠ x).length + (if x ∈ l.map Prod.fst then 1 else 0) = l.length := by
      intro l hl
      induction l with
      | nil => simp
      | cons a l ih =>
        simp only [List.map_cons, List.nodup_cons] at hl
        have ih := ih hl.2
        by_cases ha : a.1 = x
        · have hx : x ∉ l.map Prod.fst := ha ▸ hl.1
          rw [if_neg hx] at ih
          simp [ha]; simpa using ih
        · by_cases hx : x ∈ l.map Prod.fst
          · rw [if_pos hx] at ih
            have : x ∈ (a :: l).map Prod.fst := by simp only [List.map_cons]; exact List.mem_cons_of_mem _ hx
            rw [if_pos this, List.filter_cons_of_pos (by simpa using ha)]
            simp only [List.length_cons]; omega
          · rw [if_neg hx] at ih
            have : x ∉ (a :: l).map Prod.fst := by simp only [List.map_cons, List.mem_cons, not_or]; exact ⟨fun e => ha e.symm, hx⟩
            rw [if_neg this, List.filter_cons_of_pos (by simpa using ha)]
            simp only [List.length_cons]; omega
    have hl' := hl m h.nodup
    by_cases hx : x ∈ m.map Prod.fst
    · rw [if_pos ((h.keys x).2 hx)] at hs; rw [if_pos hx] at hl'; omega
    · rw [rep_not h hx] at hs; rw [if_neg hx] at hl'; simp at hs; omega

end Go.Proofs.Ytdiepeomhnkgpaa

/- window.Over: its answer at every input. -/
namespace Go.Proofs.Ytdiepeomhnkgpaa
open Go.RowKit Go.Shelf

/-- Is a window over? -/
def overB (w wd lt mk : Int) : Bool := decide (0 < wd ∧ (w + 1) * wd + lt ≤ mk)

theorem over_arith (w wd lt mk nx c p hi lo a m : Int) (h0 : 0 ≤ w) (h1 : w < 18446744073709551616) (h3 : wd < 18446744073709551616) (h4 : 0 ≤ lt) (h5 : lt < 18446744073709551616) (h7 : mk < 18446744073709551616) (hwd : 0 < wd)
    (e1 : nx = (w + 1) % 18446744073709551616) (e2 : c = (w + 1) / 18446744073709551616) (ep : p = nx * wd) (e3 : hi = p / 18446744073709551616) (e4 : lo = p % 18446744073709551616) (e5 : a = (lo + lt) % 18446744073709551616) (e6 : m = (lo + lt) / 18446744073709551616) :
    ((IntKind.u64.wrap (IntKind.u64.wrap (c + hi) + m) == 0) && decide (a ≤ mk)) = overB w wd lt mk := by
  unfold overB
  by_cases hw : w + 1 < 18446744073709551616
  · have en : nx = w + 1 := by omega
    have ec : c = 0 := by omega
    have hp0 : 0 ≤ p := by rw [ep]; exact Int.mul_nonneg (by omega) (by omega)
    have hp1 : p ≤ 18446744073709551615 * 18446744073709551615 := by
      rw [ep]; exact Int.mul_le_mul (by omega) (by omega) (by omega) (by omega)
    have hs : p + lt = (hi + m) * 18446744073709551616 + a := by omega
    rw [ec, IntWalk.u64_in (0 + hi) ⟨by omega, by omega⟩, IntWalk.u64_in (0 + hi + m) ⟨by omega, by omega⟩]
    have ep2 : (w + 1) * wd = p := by rw [ep, en]
    rw [ep2]
    rw [Bool.eq_iff_iff]
    simp only [Bool.and_eq_true, beq_iff_eq, decide_eq_true_eq]
    omega
  · have hw2 : w = 18446744073709551615 := by omega
    have en : nx = 0 := by omega
    have ec : c = 1 := by omega
    have hp0 : p = 0 := by rw [ep, en]; simp
    have hh : hi = 0 := by omega
    have hm : m = 0 := by omega
    rw [ec, hh, hm]
    have : ¬ (0 < wd ∧ (w + 1) * wd + lt ≤ mk) := by
      intro ⟨_, h⟩
      have : 18446744073709551616 * 1 ≤ (w + 1) * wd := Int.mul_le_mul (by omega) (by omega) (by omega) (by omega)
      omega
    rw [decide_eq_false this]
    rfl

theorem add64_run (x y : Int) (hx : 0 ≤ x) (hy : 0 ≤ y) (w : World) :
    (callFunc 29 #[.int .u64 x, .int .u64 y, .int .u64 0]).run Try.prog w =
      .ok (.value (.tuple #[.int .u64 ((x + y) % 18446744073709551616), .int .u64 ((x + y) / 18446744073709551616)])) w := by
  rw [run_callFunc_extern Try.func29 (by kernel_rfl) (by kernel_rfl) (by kernel_rfl) (e := add64Entry) (by kernel_rfl), run_add64 x y 0 hx hy (by omega) (by omega)]
  simp only [Result.andThen, Int.add_zero]

theorem mul64_calls (x y : Int) (h0 : 0 ≤ x) (h1 : x < 18446744073709551616) (h2 : 0 ≤ y) (h3 : y < 18446744073709551616) (w : World) :
    Calls Try.prog 30 #[.int .u64 x, .int .u64 y] w fun e w' => e = .returned (.tuple #[.int .u64 (x * y / 18446744073709551616), .int .u64 (x * y % 18446744073709551616)]) ∧ w = w' := by
  obtain ⟨X, rfl⟩ := Int.eq_ofNat_of_zero_le h0
  obtain ⟨Y, rfl⟩ := Int.eq_ofNat_of_zero_le h2
  refine (Try.bits_Mul64 X Y (by omega) (by omega) w).mono ?_
  rintro e w' ⟨rfl, rfl⟩
  exact ⟨by simp, rfl⟩

set_option maxHeartbeats 1000000 in
theorem over_calls (w wd lt mk : Int) (h0 : 0 ≤ w) (h1 : w < 18446744073709551616) (h2 : 0 ≤ wd) (h3 : wd < 18446744073709551616) (h4 : 0 ≤ lt) (h5 : lt < 18446744073709551616) (h7 : mk < 18446744073709551616) (W : World) :
    Calls Try.prog 8 #[.int .u64 w, .int .u64 wd, .int .u64 lt, .int .u64 mk] W fun e w' => e = .returned (.bool (overB w wd lt mk)) ∧ W = w' := by
  obtain ⟨nx, e1⟩ : ∃ x, x = (w + 1) % 18446744073709551616 := ⟨_, rfl⟩
  obtain ⟨c, e2⟩ : ∃ x, x = (w + 1) / 18446744073709551616 := ⟨_, rfl⟩
  obtain ⟨p, ep⟩ : ∃ x, x = nx * wd := ⟨_, rfl⟩
  obtain ⟨hi, e3⟩ : ∃ x, x = p / 18446744073709551616 := ⟨_, rfl⟩
  obtain ⟨lo, e4⟩ : ∃ x, x = p % 18446744073709551616 := ⟨_, rfl⟩
  obtain ⟨a, e5⟩ : ∃ x, x = (lo + lt) % 18446744073709551616 := ⟨_, rfl⟩
  obtain ⟨m, e6⟩ : ∃ x, x = (lo + lt) / 18446744073709551616 := ⟨_, rfl⟩
  have hadd1 := add64_run w 1 h0 (by omega) W
  have hadd2 := add64_run lo lt (by omega) h4 W
  rw [← e1, ← e2] at hadd1
  rw [← e5, ← e6] at hadd2
  have hmul := mul64_calls nx wd (by omega) (by omega) h2 h3 W
  rw [← ep, ← e3, ← e4] at hmul
  by_cases hwd : 0 < wd
  · have hf := over_arith w wd lt mk nx c p hi lo a m h0 h1 h3 h4 h5 h7 hwd e1 e2 ep e3 e4 e5 e6
    have hgt : decide (wd > 0) = true := decide_eq_true hwd
    clear e1 e2 ep e3 e4 e5 e6 h0 h1 h2 h3 h4 h5 h7 hwd
    have HM := Lib.hid hmul
    clear hmul
    cases hz : (IntKind.u64.wrap (IntKind.u64.wrap (c + hi) + m) == 0) with
    | false =>
      rw [hz, Bool.false_and] at hf
      rw [← hf]
      clear hf
      go_enter Try.func8, Try.ntmps8
      go_wp2_with (go_at_call 30; refine HM.out.mono ?_; rintro e w' ⟨rfl, rfl⟩)
      go_ret
      exact ⟨rfl, rfl⟩
    | true =>
      rw [hz, Bool.true_and] at hf
      rw [← hf]
      clear hf
      go_enter Try.func8, Try.ntmps8
      go_wp2_with (go_at_call 30; refine HM.out.mono ?_; rintro e w' ⟨rfl, rfl⟩)
      go_ret
      exact ⟨rfl, rfl⟩
  · have hf : overB w wd lt mk = false := by unfold overB; exact decide_eq_false (fun h => hwd h.1)
    rw [hf]
    have hgt : decide (wd > 0) = false := decide_eq_false hwd
    clear e1 e2 ep e3 e4 e5 e6 h0 h1 h2 h3 h4 h5 h7 hwd hf
    have HM := Lib.hid hmul
    clear hmul
    go_enter Try.func8, Try.ntmps8
    go_wp2_with (go_at_call 30; refine HM.out.mono ?_; rintro e w' ⟨rfl, rfl⟩)
    go_ret
    exact ⟨rfl, rfl⟩
end Go.Proofs.Ytdiepeomhnkgpaa

/- The book's methods: New, over, At (with nothing fresh), Take, Look, Mark. -/
namespace Go.Proofs.Ytdiepeomhnkgpaa
open Go Go.Maps Go.RowKit

theorem law22 : Keyed Try.prog 22 := int_keyed Try.underlying22
theorem zero3 (w : World) : (zeroValue 3).run Try.prog w = .ok (.int .i64 0) w := by kernel_rfl

/-- Block g is a book; what it keeps lies in block b. -/
structure IsBook (W : World) (g b nn : Nat) (wd lt most mk : Int) (m : List (Int × Int)) : Prop where
  blk : W.heap[g]? = some (.cells #[.int .u64 wd, .int .u64 lt, .int .i64 most, .int .u64 mk, .map (some b)] 63 (0, 0))
  map : ∃ D : DataW Unit, W.ownsMap Try.prog 22 (plainElem Try.prog 3) b nn D ∧ Rep D m

theorem cellOf {W : World} {g t : Nat} {cs : Array Value} (h : W.heap[g]? = some (.cells cs t (0, 0))) (j : Nat) : W.cell? ⟨g, j, none⟩ = cs[j]? := by
  simp [World.cell?, h]
theorem freeOf {W : World} {g t : Nat} {cs : Array Value} (h : W.heap[g]? = some (.cells cs t (0, 0))) (j : Nat) : W.frozen? ⟨g, j, none⟩ = false := by
  simp [World.frozen?, h]

theorem newBlk (w : World) (o : Obj) : (w.alloc o).heap[w.heap.size]? = some o := by
  show (w.heap.push o)[w.heap.size]? = some o
  simp

theorem IsBook.below {W W' : World} {g b nn : Nat} {wd lt most mk : Int} {m : List (Int × Int)} (h : IsBook W g b nn wd lt most mk m) (hb : Below W.heap.size W W') : IsBook W' g b nn wd lt most mk m := by
  obtain ⟨hblk, D, hown, hr⟩ := h
  have hg : g < W.heap.size := (Array.getElem?_eq_some_iff.1 hblk).1
  exact ⟨(hb.block g hg).trans hblk, D, hown.kept (row := none) ⟨hb.os, hb.tape, hb.output, hb.size, fun i hi _ => hb.block i hi⟩ (by simp), hr⟩
theorem IsBook.drewN {W : World} {g b nn : Nat} {wd lt most mk : Int} {m : List (Int × Int)} (h : IsBook W g b nn wd lt most mk m) (n : Nat) : IsBook (W.drewN n) g b nn wd lt most mk m := by
  obtain ⟨hblk, D, hown, hr⟩ := h
  exact ⟨hblk, D, hown, hr⟩

set_option maxHeartbeats 1000000 in
theorem new_ok (wd lt most : Int) (h0 : 1 ≤ wd) (h1 : wd ≤ 4611686018427387904) (h2 : lt ≤ 4611686018427387904) (h3 : 1 ≤ most) (h4 : most ≤ 65536) (W : World) :
    Calls Try.prog 11 #[.int .u64 wd, .int .u64 lt, .int .i64 most] W fun e w' => e = .returned (.tuple #[.pointer (some ⟨W.heap.size + 1, 0, none⟩), .int .i64 0]) ∧ IsBook w' (W.heap.size + 1) W.heap.size 0 wd lt most 0 [] ∧ Below W.heap.size W w' ∧ w'.heap.size = W.heap.size + 2 := by
  have hmm := @run_makeMap Try.prog
  have d0 : decide (wd < 1) = false := decide_eq_false (by omega)
  have d1 : decide (4611686018427387904 < wd) = false := decide_eq_false (by omega)
  have d2 : decide (4611686018427387904 < lt) = false := decide_eq_false (by omega)
  have d3 : decide (most < 1) = false := decide_eq_false (by omega)
  have d4 : decide (65536 < most) = false := decide_eq_false (by omega)
  clear h0 h1 h2 h3 h4
  go_enter Try.func11, Try.ntmps11
  go_wp2
  go_ret2
  refine ⟨rfl, ⟨by rw [show W.heap.size + 1 = (W.alloc (.map #[] 0)).heap.size from by simp]; exact newBlk _ _, .map [], (World.ownsMap_made W Try.prog 22 _).alloc _, rep_empty⟩, ((Below.refl _ W).alloc (Nat.le_refl _) _).alloc (by simp) _, by simp⟩

/-- New at what can't be: any of the five tests. -/
theorem new_no (wd lt most : Int) (W : World) (h : wd < 1 ∨ 4611686018427387904 < wd ∨ 4611686018427387904 < lt ∨ most < 1 ∨ 65536 < most) :
    Calls Try.prog 11 #[.int .u64 wd, .int .u64 lt, .int .i64 most] W fun e w' => e = .returned (.tuple #[.pointer none, .int .i64 1]) ∧ w' = W := by
  by_cases c0 : wd < 1
  · have d0 : decide (wd < 1) = true := decide_eq_true c0
    clear h c0
    go_enter Try.func11, Try.ntmps11
    go_wp2
    go_ret2
    exact ⟨rfl, rfl⟩
  have d0 : decide (wd < 1) = false := decide_eq_false c0
  by_cases c1 : 4611686018427387904 < wd
  · have d1 : decide (4611686018427387904 < wd) = true := decide_eq_true c1
    clear h c0 c1
    go_enter Try.func11, Try.ntmps11
    go_wp2
    go_ret2
    exact ⟨rfl, rfl⟩
  have d1 : decide (4611686018427387904 < wd) = false := decide_eq_false c1
  by_cases c2 : 4611686018427387904 < lt
  · have d2 : decide (4611686018427387904 < lt) = true := decide_eq_true c2
    clear h c0 c1 c2
    go_enter Try.func11, Try.ntmps11
    go_wp2
    go_ret2
    exact ⟨rfl, rfl⟩
  have d2 : decide (4611686018427387904 < lt) = false := decide_eq_false c2
  by_cases c3 : most < 1
  · have d3 : decide (most < 1) = true := decide_eq_true c3
    clear h c0 c1 c2 c3
    go_enter Try.func11, Try.ntmps11
    go_wp2
    go_ret2
    exact ⟨rfl, rfl⟩
  have d3 : decide (most < 1) = false := decide_eq_false c3
  have c4 : 65536 < most := by omega
  have d4 : decide (65536 < most) = true := decide_eq_true c4
  clear h c0 c1 c2 c3 c4
  go_enter Try.func11, Try.ntmps11
  go_wp2
  go_ret2
  exact ⟨rfl, rfl⟩

/-- Who has which bounds. -/
structure Fine (wd lt mk : Int) : Prop where
  w0 : 1 ≤ wd
  w1 : wd < 18446744073709551616
  l0 : 0 ≤ lt
  l1 : lt < 18446744073709551616
  m0 : 0 ≤ mk
  m1 : mk < 18446744073709551616

set_option maxHeartbeats 1000000 in
theorem bover_calls {W : World} {g b nn : Nat} {wd lt most mk : Int} {m : List (Int × Int)} (hB : IsBook W g b nn wd lt most mk m) (hF : Fine wd lt mk) (x : Int) (h0 : 0 ≤ x) (h1 : x < 18446744073709551616) :
    Calls Try.prog 31 #[.pointer (some ⟨g, 0, none⟩), .int .u64 x] W fun e w' => e = .returned (.bool (overB x wd lt mk)) ∧ ∃ q, w' = W.drewN q := by
  have c0 : W.cell? ⟨g, 0, none⟩ = some (.int .u64 wd) := cellOf hB.blk 0
  have c1 : W.cell? ⟨g, 1, none⟩ = some (.int .u64 lt) := cellOf hB.blk 1
  have c3 : W.cell? ⟨g, 3, none⟩ = some (.int .u64 mk) := cellOf hB.blk 3
  have hO := fun X => (over_calls x wd lt mk h0 h1 (by have := hF.w0; omega) hF.w1 hF.l0 hF.l1 hF.m1 X).mono (R' := fun e w' => e = .returned (.bool (overB x wd lt mk)) ∧ w' = X) (fun e w' ⟨a, c⟩ => ⟨a, c.symm⟩)
  generalize overB x wd lt mk = r at hO ⊢
  have HO := Lib.hid hO
  clear hO hB hF h0 h1
  go_enter Try.func31, Try.ntmps31
  go_wp2
  go_quiet ((go_at_call 8; exact Calls.quiet_of_same (HO.out _)))
  go_wp2
  go_ret
  exact ⟨rfl, _, rfl⟩

end Go.Proofs.Ytdiepeomhnkgpaa

/- The book's At with nothing fresh; Take, Look, Mark. -/
namespace Go.Proofs.Ytdiepeomhnkgpaa
open Go Go.Maps Go.RowKit

/-- What is no map's block stands as it stood. -/
theorem blk_past_map {W W1 w' : World} {g b nn : Nat} {D : DataW Unit} {o : Array Value} {t : TypeId} {fr : Nat × Nat} (hg : W.heap[g]? = some (.cells o t fr)) (hown : W1.ownsMap Try.prog 22 (plainElem Try.prog 3) b nn D) (hgr : W1.grownBy w' (some b)) (h1 : W1.heap = W.heap := by rfl) : w'.heap[g]? = some (.cells o t fr) := by
  have hgl : g < W.heap.size := (Array.getElem?_eq_some_iff.1 hg).1
  refine (hgr.block g (by rw [h1]; exact hgl) ?_).trans (by rw [h1]; exact hg)
  intro e
  obtain rfl : g = b := by injection e
  obtain ⟨es, clock, hb, _⟩ := hown
  rw [h1, hg] at hb
  cases hb

theorem of_calls (t wd : Int) (h0 : 0 ≤ t) (h1 : t < 18446744073709551616) (hw : 1 ≤ wd) (hw1 : wd < 18446744073709551616) (W : World) :
    Calls Try.prog 10 #[.int .u64 t, .int .u64 wd] W fun e w' => e = .returned (.int .u64 (t / wd)) ∧ W = w' := by
  have hz : (wd == 0) = false := beq_eq_false_iff_ne.2 (by omega)
  have ht : t ≤ 18446744073709551615 := by omega
  clear h1 hw1
  go_enter Try.func10, Try.ntmps10
  go_wp2
  go_ret
  exact ⟨rfl, rfl⟩

set_option maxHeartbeats 1000000 in
theorem at_over {W : World} {g b nn : Nat} {wd lt most mk : Int} {m : List (Int × Int)} (hB : IsBook W g b nn wd lt most mk m) (hF : Fine wd lt mk) (t : Int) (h0 : 0 ≤ t) (h1 : t < 18446744073709551616) (f : Value)
    (ho : overB (t / wd) wd lt mk = true) :
    Calls Try.prog 12 #[.pointer (some ⟨g, 0, none⟩), .int .u64 t, f] W fun e w' => e = .returned (.tuple #[.int .i64 0, .int .i64 40]) ∧ ∃ q, w' = W.drewN q := by
  have c0 : W.cell? ⟨g, 0, none⟩ = some (.int .u64 wd) := cellOf hB.blk 0
  have hq0 : 0 ≤ t / wd := Int.ediv_nonneg h0 (by have := hF.w0; omega)
  have hq1 : t / wd < 18446744073709551616 := by have := Int.ediv_le_self wd h0; omega
  have HO := Lib.hid (of_calls t wd h0 h1 hF.w0 hF.w1 W)
  have HV := Lib.hid (bover_calls hB hF (t / wd) hq0 hq1)
  rw [ho] at HV
  generalize t / wd = x at HO HV
  clear hB hF h0 h1 hq0 hq1 ho
  go_enter Try.func12, Try.ntmps12
  go_wp2_with (first
    | (go_at_call 10; refine HO.out.mono ?_; rintro e w' ⟨rfl, rfl⟩)
    | (go_at_call 31; refine HV.out.mono ?_; rintro e w' ⟨rfl, q, rfl⟩))
  go_ret2
  exact ⟨rfl, q, rfl⟩

set_option maxHeartbeats 1000000 in
theorem at_there {W : World} {g b nn : Nat} {wd lt most mk : Int} {m : List (Int × Int)} (hB : IsBook W g b nn wd lt most mk m) (hF : Fine wd lt mk) (t : Int) (h0 : 0 ≤ t) (h1 : t < 18446744073709551616) (f : Value)
    (ho : overB (t / wd) wd lt mk = false) (v : Int) (hm : (t / wd, v) ∈ m) :
    Calls Try.prog 12 #[.pointer (some ⟨g, 0, none⟩), .int .u64 t, f] W fun e w' => e = .returned (.tuple #[.int .i64 v, .int .i64 0]) ∧ ∃ q, w' = W.drewN q := by
  have c0 : W.cell? ⟨g, 0, none⟩ = some (.int .u64 wd) := cellOf hB.blk 0
  have c4 : W.cell? ⟨g, 4, none⟩ = some (.map (some b)) := cellOf hB.blk 4
  have hq0 : 0 ≤ t / wd := Int.ediv_nonneg h0 (by have := hF.w0; omega)
  have hq1 : t / wd < 18446744073709551616 := by have := Int.ediv_le_self wd h0; omega
  have HO := Lib.hid (of_calls t wd h0 h1 hF.w0 hF.w1 W)
  have HV := Lib.hid (bover_calls hB hF (t / wd) hq0 hq1)
  rw [ho] at HV
  obtain ⟨_, D, hown, hr⟩ := hB
  have hh : Maps.has D (.int .u64 (t / wd)) = true := (hr.keys _).2 (List.mem_map.2 ⟨_, hm, rfl⟩)
  have hkey := keyOf_int_mk Try.underlying22 (wf_u64 hq0 hq1)
  have hat0 := hr.vals _ hm (.lit (.int .i64 0))
  dsimp only at hat0
  generalize t / wd = x at HO HV hh hkey hat0
  have HA := Lib.hid hat0
  clear hF h0 h1 hq0 hq1 ho hat0 hr hm
  go_enter Try.func12, Try.ntmps12
  go_wp2_with (first
    | (go_at_call 10; refine HO.out.mono ?_; rintro e w' ⟨rfl, rfl⟩)
    | (go_at_call 31; refine HV.out.mono ?_; rintro e w' ⟨rfl, q, rfl⟩)
    | (at_lookup; refine wpList_lookup_own_ok_int _ rfl _ _ 61 rfl 22 3 .i64 law22 Try.underlying61 Try.underlying3 (zero3 _) b nn D rfl hown _ _ rfl hkey ?_; intro c hat hwc))
  rw [HA.out] at hat
  obtain rfl : v = c := by simpa using hat
  go_ret2
  exact ⟨rfl, q, rfl⟩

set_option maxHeartbeats 1000000 in
theorem at_full {W : World} {g b nn : Nat} {wd lt most mk : Int} {m : List (Int × Int)} (hB : IsBook W g b nn wd lt most mk m) (hF : Fine wd lt mk) (t : Int) (h0 : 0 ≤ t) (h1 : t < 18446744073709551616) (f : Value)
    (ho : overB (t / wd) wd lt mk = false) (hm : t / wd ∉ m.map Prod.fst) (hl : most ≤ m.length) :
    Calls Try.prog 12 #[.pointer (some ⟨g, 0, none⟩), .int .u64 t, f] W fun e w' => e = .returned (.tuple #[.int .i64 0, .int .i64 31]) ∧ ∃ q, w' = W.drewN q := by
  have c0 : W.cell? ⟨g, 0, none⟩ = some (.int .u64 wd) := cellOf hB.blk 0
  have c2 : W.cell? ⟨g, 2, none⟩ = some (.int .i64 most) := cellOf hB.blk 2
  have c4 : W.cell? ⟨g, 4, none⟩ = some (.map (some b)) := cellOf hB.blk 4
  have hq0 : 0 ≤ t / wd := Int.ediv_nonneg h0 (by have := hF.w0; omega)
  have hq1 : t / wd < 18446744073709551616 := by have := Int.ediv_le_self wd h0; omega
  have HO := Lib.hid (of_calls t wd h0 h1 hF.w0 hF.w1 W)
  have HV := Lib.hid (bover_calls hB hF (t / wd) hq0 hq1)
  rw [ho] at HV
  obtain ⟨_, D, hown, hr⟩ := hB
  have hh : Maps.has D (.int .u64 (t / wd)) = false := rep_not hr hm
  have hkey := keyOf_int_mk Try.underlying22 (wf_u64 hq0 hq1)
  have hlen : ∀ q, (Builtin.len_ #[61] 3 #[.map (some b)]).run Try.prog (W.drewN q) = .ok (.int .i64 (m.length : Int)) (W.drewN q) := fun q => by
    have := World.ownsMap.len (w := W.drewN q) (show (W.drewN q).ownsMap Try.prog 22 (plainElem Try.prog 3) b nn D from hown) Try.underlying61 3
    rw [hr.size] at this
    exact this
  have hge : decide (most ≤ (m.length : Int)) = true := decide_eq_true hl
  generalize (m.length : Int) = len at hlen hge
  generalize t / wd = x at HO HV hh hkey
  clear hF h0 h1 hq0 hq1 ho hr hm hl
  go_enter Try.func12, Try.ntmps12
  go_wp2_with (first
    | (go_at_call 10; refine HO.out.mono ?_; rintro e w' ⟨rfl, rfl⟩)
    | (go_at_call 31; refine HV.out.mono ?_; rintro e w' ⟨rfl, q, rfl⟩)
    | (at_lookup; refine wpList_lookup_own_ok_int _ rfl _ _ 61 rfl 22 3 .i64 law22 Try.underlying61 Try.underlying3 (zero3 _) b nn D rfl hown _ _ rfl hkey ?_; intro c hat hwc))
  go_quiet (fail)
  go_wp2
  go_ret2
  exact ⟨rfl, _, World.drewN_drewN _ _ _⟩

set_option maxHeartbeats 1000000 in
theorem at_put {W : World} {g b nn : Nat} {wd lt most mk : Int} {m : List (Int × Int)} (hB : IsBook W g b nn wd lt most mk m) (hF : Fine wd lt mk) (t : Int) (h0 : 0 ≤ t) (h1 : t < 18446744073709551616)
    (ho : overB (t / wd) wd lt mk = false) (hm : t / wd ∉ m.map Prod.fst) (hl : (m.length : Int) < most) (hn : nn < maxLen) :
    Calls Try.prog 12 #[.pointer (some ⟨g, 0, none⟩), .int .u64 t, .nilFunc] W fun e w' => e = .returned (.tuple #[.int .i64 0, .int .i64 0]) ∧ IsBook w' g b (nn + 1) wd lt most mk ((t / wd, 0) :: m) ∧ ∃ q, (W.drewN q).grownBy w' (some b) := by
  have c0 : W.cell? ⟨g, 0, none⟩ = some (.int .u64 wd) := cellOf hB.blk 0
  have c2 : W.cell? ⟨g, 2, none⟩ = some (.int .i64 most) := cellOf hB.blk 2
  have c4 : W.cell? ⟨g, 4, none⟩ = some (.map (some b)) := cellOf hB.blk 4
  have hq0 : 0 ≤ t / wd := Int.ediv_nonneg h0 (by have := hF.w0; omega)
  have hq1 : t / wd < 18446744073709551616 := by have := Int.ediv_le_self wd h0; omega
  have HO := Lib.hid (of_calls t wd h0 h1 hF.w0 hF.w1 W)
  have HV := Lib.hid (bover_calls hB hF (t / wd) hq0 hq1)
  rw [ho] at HV
  obtain ⟨hblk, D, hown, hr⟩ := hB
  have hh : Maps.has D (.int .u64 (t / wd)) = false := rep_not hr hm
  have hkey := keyOf_int_mk Try.underlying22 (wf_u64 hq0 hq1)
  have hlen : ∀ q, (Builtin.len_ #[61] 3 #[.map (some b)]).run Try.prog (W.drewN q) = .ok (.int .i64 (m.length : Int)) (W.drewN q) := fun q => by
    have := World.ownsMap.len (w := W.drewN q) (show (W.drewN q).ownsMap Try.prog 22 (plainElem Try.prog 3) b nn D from hown) Try.underlying61 3
    rw [hr.size] at this
    exact this
  have hge : decide (most ≤ (m.length : Int)) = false := decide_eq_false (by omega)
  have hnf : ∀ w, Sem.run Try.prog (binOp .neq 46 .nilFunc .nilFunc) w = .ok (.bool false) w := fun w => by kernel_rfl
  have HR := Lib.hid (rep_put (v := 0) hr hm hq0 hq1 (by decide))
  have HB := Lib.hid hblk
  generalize (m.length : Int) = len at hlen hge
  generalize t / wd = x at HO HV hh hkey HR ⊢
  clear hF h0 h1 hq0 hq1 ho hr hm hl hblk
  go_enter Try.func12, Try.ntmps12
  go_wp2_with (first
    | (go_at_call 10; refine HO.out.mono ?_; rintro e w' ⟨rfl, rfl⟩)
    | (go_at_call 31; refine HV.out.mono ?_; rintro e w' ⟨rfl, q, rfl⟩)
    | (at_lookup; refine wpList_lookup_own_ok_int _ rfl _ _ 61 rfl 22 3 .i64 law22 Try.underlying61 Try.underlying3 (zero3 _) b nn D rfl hown _ _ rfl hkey ?_; intro c hat hwc))
  go_quiet (fail)
  go_wp2_with (at_mapUpdate; refine wpList_mapUpdate_own _ rfl _ _ _ 61 rfl 22 3 law22 Try.underlying61 _ b nn D rfl hown hn _ _ _ rfl rfl hkey _ [] (plainElem_int Try.underlying3 (by decide)) ?_; intro w1 hown1 hgrow1)
  go_ret2
  refine ⟨rfl, ⟨?_, _, hown1, HR.out⟩, _, hgrow1⟩
  exact blk_past_map HB.out (W1 := W.drewN (q + nq)) hown hgrow1

set_option maxHeartbeats 1000000 in
theorem take_there {W : World} {g b nn : Nat} {wd lt most mk : Int} {m : List (Int × Int)} (hB : IsBook W g b nn wd lt most mk m) (x v : Int) (hm : (x, v) ∈ m) :
    Calls Try.prog 14 #[.pointer (some ⟨g, 0, none⟩), .int .u64 x] W fun e w' => e = .returned (.tuple #[.int .i64 v, .bool true]) ∧ IsBook w' g b nn wd lt most mk (m.filter fun p => p.1 ≠ x) ∧ W.mapTurned w' b := by
  have c4 : W.cell? ⟨g, 4, none⟩ = some (.map (some b)) := cellOf hB.blk 4
  obtain ⟨hblk, D, hown, hr⟩ := hB
  have hwf := hr.wf _ hm
  have hh : Maps.has D (.int .u64 x) = true := (hr.keys _).2 (List.mem_map.2 ⟨_, hm, rfl⟩)
  have hkey := keyOf_int_mk Try.underlying22 (wf_u64 hwf.1.1 hwf.1.2)
  have hat0 := hr.vals _ hm (.lit (.int .i64 0))
  dsimp only at hat0 hwf hkey
  have HA := Lib.hid hat0
  have HR := Lib.hid (rep_del hr x)
  have HB := Lib.hid hblk
  clear hat0 hr hm hwf hblk
  go_enter Try.func14, Try.ntmps14
  go_wp2_with (first
    | (at_lookup; refine wpList_lookup_own_ok_int _ rfl _ _ 61 rfl 22 3 .i64 law22 Try.underlying61 Try.underlying3 (zero3 _) b nn D rfl hown _ _ rfl hkey ?_; intro c hat hwc)
    | (at_delete; refine wpList_delete_own _ rfl _ _ 61 22 rfl 3 law22 Try.underlying61 _ b nn D rfl hown _ _ rfl hkey ?_; intro w1 hown1 hturn1))
  rw [HA.out] at hat
  obtain rfl : v = c := by simpa using hat
  go_ret2
  exact ⟨rfl, ⟨blk_past_map HB.out hown (hturn1.grown), _, hown1, HR.out⟩, hturn1⟩

set_option maxHeartbeats 1000000 in
theorem take_not {W : World} {g b nn : Nat} {wd lt most mk : Int} {m : List (Int × Int)} (hB : IsBook W g b nn wd lt most mk m) (x : Int) (h0 : 0 ≤ x) (h1 : x < 18446744073709551616) (hm : x ∉ m.map Prod.fst) :
    Calls Try.prog 14 #[.pointer (some ⟨g, 0, none⟩), .int .u64 x] W fun e w' => e = .returned (.tuple #[.int .i64 0, .bool false]) ∧ IsBook w' g b nn wd lt most mk m ∧ W.mapTurned w' b := by
  have c4 : W.cell? ⟨g, 4, none⟩ = some (.map (some b)) := cellOf hB.blk 4
  obtain ⟨hblk, D, hown, hr⟩ := hB
  have hh : Maps.has D (.int .u64 x) = false := rep_not hr hm
  have hkey := keyOf_int_mk Try.underlying22 (wf_u64 h0 h1)
  have hat0 := atKey_of_not_has hh (.lit (.int .i64 0))
  have hd := del_of_not_has hh
  have HA := Lib.hid hat0
  have HD := Lib.hid hd
  have HR := Lib.hid hr
  have HB := Lib.hid hblk
  clear hat0 hr hm hblk h0 h1 hd
  go_enter Try.func14, Try.ntmps14
  go_wp2_with (first
    | (at_lookup; refine wpList_lookup_own_ok_int _ rfl _ _ 61 rfl 22 3 .i64 law22 Try.underlying61 Try.underlying3 (zero3 _) b nn D rfl hown _ _ rfl hkey ?_; intro c hat hwc)
    | (at_delete; refine wpList_delete_own _ rfl _ _ 61 22 rfl 3 law22 Try.underlying61 _ b nn D rfl hown _ _ rfl hkey ?_; intro w1 hown1 hturn1))
  rw [HA.out] at hat
  obtain rfl : 0 = c := by simpa using hat
  rw [HD.out] at hown1
  go_ret2
  exact ⟨rfl, ⟨blk_past_map HB.out hown (hturn1.grown), _, hown1, HR.out⟩, hturn1⟩

set_option maxHeartbeats 1000000 in
theorem look_there {W : World} {g b nn : Nat} {wd lt most mk : Int} {m : List (Int × Int)} (hB : IsBook W g b nn wd lt most mk m) (x v : Int) (hm : (x, v) ∈ m) :
    Calls Try.prog 22 #[.pointer (some ⟨g, 0, none⟩), .int .u64 x] W fun e w' => e = .returned (.tuple #[.int .i64 v, .bool true]) ∧ W = w' := by
  have c4 : W.cell? ⟨g, 4, none⟩ = some (.map (some b)) := cellOf hB.blk 4
  obtain ⟨hblk, D, hown, hr⟩ := hB
  have hwf := hr.wf _ hm
  have hh : Maps.has D (.int .u64 x) = true := (hr.keys _).2 (List.mem_map.2 ⟨_, hm, rfl⟩)
  have hkey := keyOf_int_mk Try.underlying22 (wf_u64 hwf.1.1 hwf.1.2)
  have hat0 := hr.vals _ hm (.lit (.int .i64 0))
  dsimp only at hat0 hwf hkey
  have HA := Lib.hid hat0
  clear hat0 hr hm hwf hblk
  go_enter Try.func22, Try.ntmps22
  go_wp2_with (at_lookup; refine wpList_lookup_own_ok_int _ rfl _ _ 61 rfl 22 3 .i64 law22 Try.underlying61 Try.underlying3 (zero3 _) b nn D rfl hown _ _ rfl hkey ?_; intro c hat hwc)
  rw [HA.out] at hat
  obtain rfl : v = c := by simpa using hat
  go_ret2
  exact ⟨rfl, rfl⟩

set_option maxHeartbeats 1000000 in
theorem look_not {W : World} {g b nn : Nat} {wd lt most mk : Int} {m : List (Int × Int)} (hB : IsBook W g b nn wd lt most mk m) (x : Int) (h0 : 0 ≤ x) (h1 : x < 18446744073709551616) (hm : x ∉ m.map Prod.fst) :
    Calls Try.prog 22 #[.pointer (some ⟨g, 0, none⟩), .int .u64 x] W fun e w' => e = .returned (.tuple #[.int .i64 0, .bool false]) ∧ W = w' := by
  have c4 : W.cell? ⟨g, 4, none⟩ = some (.map (some b)) := cellOf hB.blk 4
  obtain ⟨hblk, D, hown, hr⟩ := hB
  have hh : Maps.has D (.int .u64 x) = false := rep_not hr hm
  have hkey := keyOf_int_mk Try.underlying22 (wf_u64 h0 h1)
  have hat0 := atKey_of_not_has hh (.lit (.int .i64 0))
  have HA := Lib.hid hat0
  clear hat0 hr hm hblk h0 h1
  go_enter Try.func22, Try.ntmps22
  go_wp2_with (at_lookup; refine wpList_lookup_own_ok_int _ rfl _ _ 61 rfl 22 3 .i64 law22 Try.underlying61 Try.underlying3 (zero3 _) b nn D rfl hown _ _ rfl hkey ?_; intro c hat hwc)
  rw [HA.out] at hat
  obtain rfl : 0 = c := by simpa using hat
  go_ret2
  exact ⟨rfl, rfl⟩

theorem mark_calls {W : World} {g b nn : Nat} {wd lt most mk : Int} {m : List (Int × Int)} (hB : IsBook W g b nn wd lt most mk m) :
    Calls Try.prog 16 #[.pointer (some ⟨g, 0, none⟩)] W fun e w' => e = .returned (.int .u64 mk) ∧ W = w' := by
  have c3 : W.cell? ⟨g, 3, none⟩ = some (.int .u64 mk) := cellOf hB.blk 3
  clear hB
  go_enter Try.func16, Try.ntmps16
  go_wp2
  go_ret
  exact ⟨rfl, rfl⟩

end Go.Proofs.Ytdiepeomhnkgpaa

/- slices.Sort of one uint64, or of none. -/
namespace Go.Proofs.Ytdiepeomhnkgpaa
open Go Go.RowKit

set_option maxHeartbeats 1000000 in
theorem ins_one (A : Option Addr) (c : Nat) (W : World) :
    Calls Try.prog 47 #[.slice A 1 c, .int .i64 0, .int .i64 1] W fun e w' => e = .returned (.tuple #[]) ∧ W = w' := by
  go_enter Try.func47, Try.ntmps47
  go_wp2
  refine wp_loop_rounds 1 ?_
  rw [rounds_succ]
  go_wp2
  go_end0
  exact ⟨rfl, rfl⟩

set_option maxHeartbeats 1000000 in
theorem pdq_one (A : Option Addr) (c : Nat) (k : Int) (W : World) :
    Calls Try.prog 45 #[.slice A 1 c, .int .i64 0, .int .i64 1, .int .i64 k] W fun e w' => e = .returned (.tuple #[]) ∧ W = w' := by
  have HI := Lib.hid (ins_one A c W)
  go_enter Try.func45, Try.ntmps45
  go_wp2
  refine wp_loop_rounds 1 ?_
  rw [rounds_succ]
  go_wp2_with (go_at_call 47; refine HI.out.mono ?_; rintro e w' ⟨rfl, rfl⟩)
  refine bodyPost_ret (results_none rfl _ _ _) rfl ?_
  exact ⟨rfl, rfl⟩

theorem sort_one (A : Option Addr) (c : Nat) (W : World) :
    Calls Try.prog 41 #[.slice A 1 c] W fun e w' => e = .returned (.tuple #[]) ∧ W = w' := by
  have HP := fun k => Lib.hid (pdq_one A c k W)
  have HL := Lib.hid ((Try.bits_Len 1 W (by omega) (by omega)).mono (R' := fun e w' => (∃ k, e = .returned (.int .i64 k)) ∧ W = w') (fun e w' ⟨a, b⟩ => ⟨⟨_, a⟩, b.symm⟩))
  go_enter Try.func41, Try.ntmps41
  go_wp2_with (first
    | (go_at_call 46; refine HL.out.mono ?_; rintro e w' ⟨⟨k, rfl⟩, rfl⟩)
    | (go_at_call 45; refine (HP _).out.mono ?_; rintro e w' ⟨rfl, rfl⟩))
  go_end0
  exact ⟨rfl, rfl⟩
end Go.Proofs.Ytdiepeomhnkgpaa

/- The book's Open where one window is open at most. -/
namespace Go.Proofs.Ytdiepeomhnkgpaa
open Go Go.Maps Go.RowKit Go.Sort Go.Shelf

set_option maxHeartbeats 1000000 in
/-- slices.Sorted over an iterator that gives one number. -/
theorem sorted_one (n : Nat) (hn : 5 ≤ n) (g : Nat) (lb : Array Value) (eg : ∀ args w, (callFunc g args).run Try.prog w = .ok (.enter g args) w)
    (S Sp : List Int → Prop) (N : Nat) (hN : N ≤ maxLen) (hNb : N * 8 ≤ 140737488355328) (h1 : ∀ ss, S ss → ss.length = 1) (w w0 : World) (hb0 : Below w0.heap.size w0 w) (hseq : SeqStops Fence.wide (n - 1 - 1 - 1) Try.prog g lb encU S Sp N w0) :
    CallsIn Fence.wide n Try.prog 34 #[.func (.func g) #[] lb] w fun e w' => ∃ (v : Value) (ss : List Int), e = .returned v ∧ S ss ∧
      (∃ A c, v = .slice A 1 c) ∧ w'.ownsRow w.heap.size 22 1 v 1 (ss.map encU) ∧ Below w.heap.size w w' := by
  have hn1 : 1 ≤ n := by omega
  have hf40 : Fence.wide.fn 40 := trivial
  have hf41 : Fence.wide.fn 41 := trivial
  have cC := fun W (hb : Below w0.heap.size w0 W) => collect_in Fence.wide (n - 1) trivial trivial rfl (by omega) g lb trivial eg S Sp N hN hNb W w0 hb hseq
  have cS : ∀ A c W, CallsIn Fence.wide (n - 1) Try.prog 41 #[.slice A 1 c] W fun e w' => e = .returned (.tuple #[]) ∧ W = w' := fun A c W => callsIn_wide.2 (sort_one A c W)
  refine callsIn_of_wp Try.func34 rfl trivial ?_ rfl
  simp only [Try.ntmps34, List.size_toArray, List.length_cons, List.length_nil, Nat.reduceAdd, Nat.reduceSub, Array.replicate_succ, Array.replicate_zero, List.push_toArray, List.append_toArray, List.nil_append, List.cons_append]
  gi_wp2_with (first
    | (gi_at_call 40; refine (cC _ hb0).mono ?_; rintro e w' ⟨v, ss, rfl, hS, hrow, hnil, hb⟩; rw [h1 ss hS] at hrow; obtain ⟨g', cap', rfl⟩ := ownsRow_succ hrow)
    | (gi_at_call 41; refine (cS _ _ _).mono ?_; rintro e w' ⟨rfl, rfl⟩))
  go_ret
  exact ⟨_, ss, rfl, hS, ⟨_, _, rfl⟩, hrow, hb⟩

set_option maxHeartbeats 1000000 in
theorem open_one {W : World} {g b nn : Nat} {wd lt most mk : Int} {p : Int × Int} (hB : IsBook W g b nn wd lt most mk [p]) :
    Calls Try.prog 15 #[.pointer (some ⟨g, 0, none⟩)] W fun e w' => ∃ A c, e = .returned (.slice A 1 c) ∧ Below W.heap.size W w' := by
  refine (callsIn_wide (n := 8)).1 ?_
  have c4 : W.cell? ⟨g, 4, none⟩ = some (.map (some b)) := cellOf hB.blk 4
  obtain ⟨hblk, D, hown, hr⟩ := hB
  have hsz : Maps.size D = 1 := hr.size
  have hbl := hown.lt
  have hseq := keys_stops Fence.wide 4 trivial rfl (by omega) W.heap.size b nn D (R := plainElem Try.prog 3) (W.alloc (.cells #[.map (some b)] 61)) (by simp) (by rw [cellOf (newBlk W _)]; rfl) (hown.alloc _)
  have cK := fun W' => keys_in Fence.wide 7 trivial rfl (some b) W'
  have cS := sorted_one 7 (by omega) 42 #[.pointer (some ⟨W.heap.size, 0, none⟩)] (enters_of Try.func42 (by kernel_rfl) rfl) _ _ (Maps.size D) (by rw [hsz]; decide) (by rw [hsz]; decide) (fun ss ⟨hnd, hk⟩ => by
    have hm : ∀ x, x ∈ ss ↔ x = p.1 := fun x => by rw [hk x, hr.keys x]; simp
    match ss, hnd, hm with
    | [], _, hm => exact absurd ((hm p.1).2 rfl) (by simp)
    | [x], _, _ => rfl
    | x :: y :: r, hnd, hm =>
      have e1 := (hm x).1 (by simp)
      have e2 := (hm y).1 (by simp)
      rw [e1, e2] at hnd
      simp at hnd) _ _ (Below.refl _ _) hseq
  have hfK : Fence.wide.fn 35 := trivial
  have hfS : Fence.wide.fn 34 := trivial
  clear hblk hown hr hsz hseq
  refine callsIn_of_wp Try.func15 rfl trivial ?_ rfl
  simp only [Try.ntmps15, List.size_toArray, List.length_cons, List.length_nil, Nat.reduceAdd, Nat.reduceSub, Array.replicate_succ, Array.replicate_zero, List.push_toArray, List.append_toArray, List.nil_append, List.cons_append]
  gi_wp2_with (first
    | (gi_at_call 35; refine (cK _).mono ?_; rintro e w' ⟨rfl, rfl⟩)
    | (gi_at_call 34; refine cS.mono ?_; rintro e w' ⟨_, ss, rfl, hS, ⟨A, c, rfl⟩, hrow, hb⟩))
  go_ret
  exact ⟨A, c, rfl, ((Below.refl _ W).alloc (Nat.le_refl _) _).trans (hb.mono (by simp))⟩
end Go.Proofs.Ytdiepeomhnkgpaa

/- The chapter's example, and a book: alive answers true. -/
namespace Go.Proofs.Ytdiepeomhnkgpaa
open Go Go.Maps Go.RowKit

theorem pw {B : Nat} {w W : World} (h : Below B w W) (n : Nat) : Below B w (W.drewN n) := ⟨h.os, h.tape, h.output, h.size, h.block⟩

set_option maxHeartbeats 2000000 in
theorem alive_calls (W : World) :
    Calls Try.prog 7 #[] W fun e w' => e = .returned (.bool true) ∧ Below W.heap.size W w' := by
  have HN := Lib.hid (new_ok 10 0 2 (by omega) (by omega) (by omega) (by omega) (by omega) W)
  have HX := fun X => Lib.hid (new_no 0 0 2 X (by omega))
  have HOf9 := fun X => Lib.hid (of_calls 9 10 (by omega) (by omega) (by omega) (by omega) X)
  have HOf10 := fun X => Lib.hid (of_calls 10 10 (by omega) (by omega) (by omega) (by omega) X)
  have HOv1 := fun X => Lib.hid (over_calls 0 10 0 10 (by omega) (by omega) (by omega) (by omega) (by omega) (by omega) (by omega) X)
  have HOv2 := fun X => Lib.hid (over_calls 0 10 0 9 (by omega) (by omega) (by omega) (by omega) (by omega) (by omega) (by omega) X)
  rw [show overB 0 10 0 10 = true from by decide] at HOv1
  rw [show overB 0 10 0 9 = false from by decide] at HOv2
  rw [show (9 : Int) / 10 = 0 from by decide] at HOf9
  rw [show (10 : Int) / 10 = 1 from by decide] at HOf10
  go_enter Try.func7, Try.ntmps7
  go_wp2_with fail
  refine HN.out.mono ?_
  rintro e w1 ⟨rfl, hB, hb1, hs1⟩
  have HA := Lib.hid (at_put hB ⟨by omega, by omega, by omega, by omega, by omega, by omega⟩ 5 (by omega) (by omega) (by decide) (by simp) (by simp) (by decide))
  have HS := Lib.hid hs1
  clear hB hs1
  go_wp2_with fail
  refine HA.out.mono ?_
  rintro e w2 ⟨rfl, hB2, q, hg2⟩
  have hb2 : Below W.heap.size W w2 := Below.grown (pw hb1 q) hg2 hb1.size (fun k hk => by injection hk with hk; omega)
  have HO := Lib.hid (open_one hB2)
  clear hB2 hg2
  go_wp2_with fail
  refine (HX _).out.mono ?_
  rintro e w' ⟨rfl, rfl⟩
  go_wp2_with fail
  refine HO.out.mono ?_
  rintro e w3 ⟨A, c, rfl, hb3⟩
  go_wp2_with fail
  refine (HOf9 _).out.mono ?_
  rintro e w' ⟨rfl, rfl⟩
  go_wp2_with fail
  refine (HOf10 _).out.mono ?_
  rintro e w' ⟨rfl, rfl⟩
  go_wp2_with fail
  refine (HOv1 _).out.mono ?_
  rintro e w' ⟨rfl, rfl⟩
  go_wp2_with fail
  refine (HOv2 _).out.mono ?_
  rintro e w' ⟨rfl, rfl⟩
  go_wp2
  go_ret
  exact ⟨rfl, hb2.trans (hb3.mono hb2.size)⟩
end Go.Proofs.Ytdiepeomhnkgpaa

/- The walks of WindowNil and WindowOver: each answers true. -/
namespace Go.Proofs.Ytdiepeomhnkgpaa
open Go Go.Maps Go.RowKit
set_option linter.unusedVariables false

set_option maxHeartbeats 1000000 in
theorem windowNil_walk (t : Int) (W : World) :
    Calls Try.prog 6 #[.int .u64 t] W fun e w' => e = .returned (.bool true) ∧ Below W.heap.size W w' := by
  have HA := Lib.hid (alive_calls W)
  go_enter Try.func6, Try.ntmps6
  go_wp2_with (first | (go_at_call 7; refine HA.out.mono ?_; rintro e w1 ⟨rfl, hb1⟩) | go_in)
  go_ret
  exact ⟨rfl, hb1.alloc hb1.size _⟩

theorem refOver_arith (w wd lt mk : Int) (h0 : 0 ≤ w) (hwd : 0 < wd) (hle : lt ≤ mk) : decide (w < (mk - lt) / wd) = overB w wd lt mk := by
  unfold overB
  rw [decide_eq_decide]
  rw [show (w < (mk - lt) / wd) ↔ (w + 1 ≤ (mk - lt) / wd) from by omega, Int.le_ediv_iff_mul_le hwd]
  omega

theorem refOver_small (w wd lt mk : Int) (h0 : 0 ≤ w) (hwd : 0 < wd) (hle : mk < lt) : overB w wd lt mk = false := by
  unfold overB
  have : 0 ≤ (w + 1) * wd := Int.mul_nonneg (by omega) (by omega)
  exact decide_eq_false (fun h => by omega)

set_option maxHeartbeats 1000000 in
theorem refOver_calls (w wd lt mk : Int) (h0 : 0 ≤ w) (h2 : 0 ≤ wd) (h3 : wd < 18446744073709551616) (h4 : 0 ≤ lt) (h7 : mk < 18446744073709551616) (W : World) :
    Calls Try.prog 9 #[.int .u64 w, .int .u64 wd, .int .u64 lt, .int .u64 mk] W fun e w' => e = .returned (.bool (overB w wd lt mk)) ∧ W = w' := by
  by_cases hz : wd = 0
  · have hf : overB w wd lt mk = false := by unfold overB; exact decide_eq_false (fun h => by omega)
    rw [hf]
    have hzb : (wd == 0) = true := beq_iff_eq.2 hz
    clear hz h2 h3 hf h0 h4 h7
    go_enter Try.func9, Try.ntmps9
    go_wp2
    go_ret
    exact ⟨rfl, rfl⟩
  have hzb : (wd == 0) = false := beq_eq_false_iff_ne.2 hz
  by_cases hl : mk < lt
  · rw [refOver_small w wd lt mk h0 (by omega) hl]
    have hlb : decide (mk < lt) = true := decide_eq_true hl
    clear hz h2 h3 h0 h4 h7 hl
    go_enter Try.func9, Try.ntmps9
    go_wp2
    go_ret
    exact ⟨rfl, rfl⟩
  · rw [← refOver_arith w wd lt mk h0 (by omega) (by omega)]
    have hlb : decide (mk < lt) = false := decide_eq_false hl
    have hd1 : 0 ≤ mk - lt := by omega
    have hd2 : mk - lt ≤ 18446744073709551615 := by omega
    have hw1 : 1 ≤ wd := by omega
    clear hz h2 h3 h0 h4 h7 hl
    go_enter Try.func9, Try.ntmps9
    go_wp2
    go_ret
    exact ⟨rfl, rfl⟩

theorem of_zero (t : Int) (W : World) : Calls Try.prog 10 #[.int .u64 t, .int .u64 0] W fun e w' => e = .returned (.int .u64 0) ∧ W = w' := by
  go_enter Try.func10, Try.ntmps10
  go_wp2
  go_ret
  exact ⟨rfl, rfl⟩

theorem over_more (w wd lt mk : Int) (h : overB w wd lt mk = true) : overB w wd lt (mk + 1) = true := by
  unfold overB at *
  have h := of_decide_eq_true h
  exact decide_eq_true (by omega)

theorem over_late (t wd lt mk : Int) (hwd : 0 < wd) (h4 : 0 ≤ lt) (h : overB (t / wd) wd lt mk = true) : t < mk := by
  unfold overB at h
  have h := of_decide_eq_true h
  have := Int.lt_ediv_add_one_mul_self t hwd
  omega

set_option maxHeartbeats 2000000 in
theorem windowOver_walk (t w wd lt mk : Int) (t0 : 0 ≤ t) (t1 : t < 18446744073709551616) (h0 : 0 ≤ w) (h1 : w < 18446744073709551616) (h2 : 0 ≤ wd) (h3 : wd < 18446744073709551616) (h4 : 0 ≤ lt) (h5 : lt < 18446744073709551616) (h6 : 0 ≤ mk) (h7 : mk < 18446744073709551616) (W : World) :
    Calls Try.prog 3 #[.int .u64 t, .int .u64 w, .int .u64 wd, .int .u64 lt, .int .u64 mk] W fun e w' => e = .returned (.bool true) ∧ Below W.heap.size W w' := by
  have HA := Lib.hid (alive_calls W)
  have HO := fun X => Lib.hid (over_calls w wd lt mk h0 h1 h2 h3 h4 h5 h7 X)
  have HR := fun X => Lib.hid (refOver_calls w wd lt mk h0 h2 h3 h4 h7 X)
  by_cases hz : wd = 0
  · subst hz
    have HZ := fun X => Lib.hid (of_zero t X)
    have ho : overB w 0 lt mk = false := by unfold overB; exact decide_eq_false (fun h => by omega)
    rw [ho] at HO HR
    clear t0 t1 h0 h1 h2 h3 h4 h5 h6 h7 ho
    go_enter Try.func3, Try.ntmps3
    go_wp2_with fail
    refine HA.out.mono ?_
    rintro e w1 ⟨rfl, hb1⟩
    go_wp2_with fail
    refine (HO _).out.mono ?_
    rintro e w' ⟨rfl, rfl⟩
    go_wp2_with fail
    refine (HR _).out.mono ?_
    rintro e w' ⟨rfl, rfl⟩
    go_wp2_with fail
    refine (HZ _).out.mono ?_
    rintro e w' ⟨rfl, rfl⟩
    go_wp2_with fail
    refine (HO _).out.mono ?_
    rintro e w' ⟨rfl, rfl⟩
    go_wp2
    go_ret
    exact ⟨rfl, hb1⟩
  have hzb : (wd == 0) = false := beq_eq_false_iff_ne.2 hz
  have HF := fun X => Lib.hid (of_calls t wd t0 t1 (by omega) h3 X)
  have hq0 : 0 ≤ t / wd := Int.ediv_nonneg t0 h2
  have hq1 : t / wd < 18446744073709551616 := by have := Int.ediv_le_self wd t0; omega
  have HN := fun X => Lib.hid (over_calls (t / wd) wd lt mk hq0 hq1 h2 h3 h4 h5 h7 X)
  have hM := fun (hmk : mk < 18446744073709551615) X => Lib.hid (over_calls w wd lt (mk + 1) h0 h1 h2 h3 h4 h5 (by omega) X)
  have hp0 : 0 ≤ t / wd * wd := Int.mul_nonneg hq0 h2
  have hp1 : t / wd * wd ≤ t := Int.ediv_mul_le t hz
  have hp2 : t < t / wd * wd + wd := by have := Int.lt_ediv_add_one_mul_self t (show 0 < wd by omega); rw [Int.add_mul, Int.one_mul] at this; exact this
  have hlate := fun h => over_late t wd lt mk (by omega) h4 h
  obtain ⟨p, hp⟩ : ∃ p, p = t / wd * wd := ⟨_, rfl⟩
  rw [← hp] at hp0 hp1 hp2
  have hpw : IntKind.u64.wrap (t / wd * wd) = p := by rw [← hp]; exact IntWalk.u64_in _ ⟨hp0, by omega⟩
  have hps : IntKind.u64.wrap (t - p) = t - p := IntWalk.u64_in _ ⟨by omega, by omega⟩
  clear hp
  generalize hx : t / wd = x at *
  have hmo := over_more w wd lt mk
  have f1 : decide (t < p) = false := decide_eq_false (by omega)
  have f2 : decide (wd ≤ t - p) = false := decide_eq_false (by omega)
  clear t0 t1 h0 h1 h2 h3 h4 h5 hq0 hq1 hp0 hp1 hp2 hz hx
  cases ho : overB w wd lt mk with
  | false =>
    rw [ho] at HO HR
    clear ho hmo hM h6
    cases hn : overB x wd lt mk with
    | false =>
      rw [hn] at HN
      clear hn hlate h7
      go_enter Try.func3, Try.ntmps3
      go_wp2_with fail
      refine HA.out.mono ?_
      rintro e w1 ⟨rfl, hb1⟩
      go_wp2_with fail
      refine (HO _).out.mono ?_
      rintro e w' ⟨rfl, rfl⟩
      go_wp2_with fail
      refine (HR _).out.mono ?_
      rintro e w' ⟨rfl, rfl⟩
      go_wp2_with fail
      refine (HF _).out.mono ?_
      rintro e w' ⟨rfl, rfl⟩
      go_wp2_with fail
      refine (HO _).out.mono ?_
      rintro e w' ⟨rfl, rfl⟩
      go_wp2_with fail
      refine (HN _).out.mono ?_
      rintro e w' ⟨rfl, rfl⟩
      go_wp2
      go_ret
      exact ⟨rfl, hb1⟩
    | true =>
      rw [hn] at HN
      have hl := hlate hn
      have f3 : decide (t < mk) = true := decide_eq_true hl
      clear hn hlate h7 hl
      go_enter Try.func3, Try.ntmps3
      go_wp2_with fail
      refine HA.out.mono ?_
      rintro e w1 ⟨rfl, hb1⟩
      go_wp2_with fail
      refine (HO _).out.mono ?_
      rintro e w' ⟨rfl, rfl⟩
      go_wp2_with fail
      refine (HR _).out.mono ?_
      rintro e w' ⟨rfl, rfl⟩
      go_wp2_with fail
      refine (HF _).out.mono ?_
      rintro e w' ⟨rfl, rfl⟩
      go_wp2_with fail
      refine (HO _).out.mono ?_
      rintro e w' ⟨rfl, rfl⟩
      go_wp2_with fail
      refine (HN _).out.mono ?_
      rintro e w' ⟨rfl, rfl⟩
      go_wp2
      go_ret
      exact ⟨rfl, hb1⟩
  | true =>
    have hmo := hmo ho
    rw [ho] at HO HR
    clear ho
    by_cases hmk : mk < 18446744073709551615
    · have hM := hM hmk
      rw [hmo] at hM
      have f4 : decide (mk < 18446744073709551615) = true := decide_eq_true hmk
      have f5 : IntKind.u64.wrap (mk + 1) = mk + 1 := IntWalk.u64_in _ ⟨by omega, by omega⟩
      clear hmk h6
      cases hn : overB x wd lt mk with
      | false =>
        rw [hn] at HN
        clear hn hlate h7
        go_enter Try.func3, Try.ntmps3
        go_wp2_with fail
        refine HA.out.mono ?_
        rintro e w1 ⟨rfl, hb1⟩
        go_wp2_with fail
        refine (HO _).out.mono ?_
        rintro e w' ⟨rfl, rfl⟩
        go_wp2_with fail
        refine (HR _).out.mono ?_
        rintro e w' ⟨rfl, rfl⟩
        go_wp2_with fail
        refine (HF _).out.mono ?_
        rintro e w' ⟨rfl, rfl⟩
        go_wp2_with fail
        refine (HO _).out.mono ?_
        rintro e w' ⟨rfl, rfl⟩
        go_wp2_with fail
        refine (hM _).out.mono ?_
        rintro e w' ⟨rfl, rfl⟩
        go_wp2_with fail
        refine (HN _).out.mono ?_
        rintro e w' ⟨rfl, rfl⟩
        go_wp2
        go_ret
        exact ⟨rfl, hb1⟩
      | true =>
        rw [hn] at HN
        have hl := hlate hn
        have f3 : decide (t < mk) = true := decide_eq_true hl
        clear hn hlate h7 hl
        go_enter Try.func3, Try.ntmps3
        go_wp2_with fail
        refine HA.out.mono ?_
        rintro e w1 ⟨rfl, hb1⟩
        go_wp2_with fail
        refine (HO _).out.mono ?_
        rintro e w' ⟨rfl, rfl⟩
        go_wp2_with fail
        refine (HR _).out.mono ?_
        rintro e w' ⟨rfl, rfl⟩
        go_wp2_with fail
        refine (HF _).out.mono ?_
        rintro e w' ⟨rfl, rfl⟩
        go_wp2_with fail
        refine (HO _).out.mono ?_
        rintro e w' ⟨rfl, rfl⟩
        go_wp2_with fail
        refine (hM _).out.mono ?_
        rintro e w' ⟨rfl, rfl⟩
        go_wp2_with fail
        refine (HN _).out.mono ?_
        rintro e w' ⟨rfl, rfl⟩
        go_wp2
        go_ret
        exact ⟨rfl, hb1⟩
    · have f4 : decide (mk < 18446744073709551615) = false := decide_eq_false hmk
      clear hmk hM h6
      cases hn : overB x wd lt mk with
      | false =>
        rw [hn] at HN
        clear hn hlate h7
        go_enter Try.func3, Try.ntmps3
        go_wp2_with fail
        refine HA.out.mono ?_
        rintro e w1 ⟨rfl, hb1⟩
        go_wp2_with fail
        refine (HO _).out.mono ?_
        rintro e w' ⟨rfl, rfl⟩
        go_wp2_with fail
        refine (HR _).out.mono ?_
        rintro e w' ⟨rfl, rfl⟩
        go_wp2_with fail
        refine (HF _).out.mono ?_
        rintro e w' ⟨rfl, rfl⟩
        go_wp2_with fail
        refine (HO _).out.mono ?_
        rintro e w' ⟨rfl, rfl⟩
        go_wp2_with fail
        refine (HN _).out.mono ?_
        rintro e w' ⟨rfl, rfl⟩
        go_wp2
        go_ret
        exact ⟨rfl, hb1⟩
      | true =>
        rw [hn] at HN
        have hl := hlate hn
        have f3 : decide (t < mk) = true := decide_eq_true hl
        clear hn hlate h7 hl
        go_enter Try.func3, Try.ntmps3
        go_wp2_with fail
        refine HA.out.mono ?_
        rintro e w1 ⟨rfl, hb1⟩
        go_wp2_with fail
        refine (HO _).out.mono ?_
        rintro e w' ⟨rfl, rfl⟩
        go_wp2_with fail
        refine (HR _).out.mono ?_
        rintro e w' ⟨rfl, rfl⟩
        go_wp2_with fail
        refine (HF _).out.mono ?_
        rintro e w' ⟨rfl, rfl⟩
        go_wp2_with fail
        refine (HO _).out.mono ?_
        rintro e w' ⟨rfl, rfl⟩
        go_wp2_with fail
        refine (HN _).out.mono ?_
        rintro e w' ⟨rfl, rfl⟩
        go_wp2
        go_ret
        exact ⟨rfl, hb1⟩
/-- A uint64's bounds out of its form. -/
theorem u64_of_wf {x : Int} (h : (Lit.int .u64 x).wf = true) : 0 ≤ x ∧ x < 18446744073709551616 := by
  have h' : (decide (IntKind.u64.min ≤ x) && decide (x ≤ IntKind.u64.max)) = true := h
  simp only [Bool.and_eq_true, decide_eq_true_eq] at h'
  have e1 : IntKind.u64.min = 0 := by decide
  have e2 : IntKind.u64.max = 18446744073709551615 := by decide
  omega

theorem windowOver_row (t w wd lt mk : Int) (ht : (Lit.int .u64 t).wf = true) (hw : (Lit.int .u64 w).wf = true) (hwd : (Lit.int .u64 wd).wf = true) (hlt : (Lit.int .u64 lt).wf = true) (hmk : (Lit.int .u64 mk).wf = true) (W : World) :
    Calls Try.prog 3 #[.int .u64 t, .int .u64 w, .int .u64 wd, .int .u64 lt, .int .u64 mk] W fun e w' => e = .returned (.bool true) ∧ Below W.heap.size W w' := by
  have := u64_of_wf ht; have := u64_of_wf hw; have := u64_of_wf hwd; have := u64_of_wf hlt; have := u64_of_wf hmk
  exact windowOver_walk t w wd lt mk (by omega) (by omega) (by omega) (by omega) (by omega) (by omega) (by omega) (by omega) (by omega) (by omega) W
theorem windowNil_row (t : Int) (_ : (Lit.int .u64 t).wf = true) (W : World) :
    Calls Try.prog 6 #[.int .u64 t] W fun e w' => e = .returned (.bool true) ∧ Below W.heap.size W w' := windowNil_walk t W

end Go.Proofs.Ytdiepeomhnkgpaa
