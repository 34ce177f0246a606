/- The book's Open: what is open, rising. -/
import Derived.Test.YtdiepeomhnkgpaaHCol
import Derived.Test.YtdiepeomhnkgpaaHAt
import Derived.Test.YtdiepeomhnkgpaaS14
namespace Go.Proofs.Ytdiepeomhnkgpaa
open Go.Proofs Go.Maps Go.RowKit Go.Sort Go.Shelf
set_option linter.unusedVariables false

theorem holds_of_block_u {w : World} {g : Nat} {cur : Array Value} {e : TypeId} {ss : List Int} (hb : w.heap[g]? = some (.cells cur e (0, 0))) (ht : cur.toList.take ss.length = ss.map encU) : Holds encU w g 0 ss.toArray := by
  intro j hj
  have hj' : j < ss.length := by simpa using hj
  refine ⟨?_, by simp [World.frozen?, hb]⟩
  have h1 : (cur.toList.take ss.length)[j]? = (ss.map encU)[j]? := by rw [ht]
  rw [List.getElem?_take_of_lt hj'] at h1
  simp only [World.cell?, hb, Nat.zero_add]
  simp only [Option.isSome_none, Bool.false_eq_true, if_false]
  rw [← Array.getElem?_toList, h1]
  simp [hj']

theorem heap_sorted_u {w : World} {g n : Nat} {os : Array Obj} {cur : Array Value} {e : TypeId} {fr : Nat × Nat} (d : Array Int) (hb : w.heap[g]? = some (.cells cur e fr)) :
    (grow (putRow encU (Sort.ahead w n) g 0 d) os).heap[g]? = some (.cells (putCells encU 0 d cur) e fr) := by
  have hg : g < w.heap.size := (Array.getElem?_eq_some_iff.1 hb).1
  rw [heap_grow_old _ _ (by simpa using hg)]
  simp [putRow, mapBlock, Sort.ahead, Array.getElem?_modify, hb, onCells]

theorem grownBy_sorted_u {w : World} {g n : Nat} {os : Array Obj} (d : Array Int) : w.grownBy (grow (putRow encU (Sort.ahead w n) g 0 d) os) (some g) := by
  refine ⟨rfl, rfl, rfl, by simp, fun k hk hne => ?_⟩
  rw [heap_grow_old _ _ (by simpa using hk)]
  have : g ≠ k := fun e => hne (by rw [e])
  simp [putRow, mapBlock, Sort.ahead, Array.getElem?_modify, this]

theorem take_putCells_u (cur : Array Value) (ts : List Int) (h : ts.length ≤ cur.size) : (putCells encU 0 ts.toArray cur).toList.take ts.length = ts.map encU := by
  apply List.ext_getElem?
  intro j
  by_cases hj : j < ts.length
  · rw [List.getElem?_take_of_lt hj, Array.getElem?_toList]
    simp [putCells, hj, show j < cur.size by omega]
  · rw [List.getElem?_take_eq_none (by omega), List.getElem?_eq_none (by simp; omega)]

theorem ownsRow_sorted_u {w : World} {base g cap n : Nat} {e : TypeId} {os : Array Obj} {cur : Array Value} {ss ts : List Int} (hl : ts.length = ss.length) (hbase : base ≤ g) (hb : w.heap[g]? = some (.cells cur e (0, 0)))
    (h1 : ss.length ≤ cap) (h2 : cap ≤ maxLen) (h3 : cur.size = cap * 1) :
    (grow (putRow encU (Sort.ahead w n) g 0 ts.toArray) os).ownsRow base e 1 (.slice (some ⟨g, 0, none⟩) ss.length cap) ss.length (ts.map encU) :=
  ⟨by simp [hl], .inr ⟨g, cap, _, rfl, hbase, heap_sorted_u _ hb, h1, h2, by simp [putCells, h3], by rw [Nat.mul_one, ← hl]; exact take_putCells_u cur ts (by omega)⟩⟩

set_option maxHeartbeats 1000000 in
/-- slices.Sorted over an iterator. -/
theorem sorted_any (n : Nat) (hn : 5 ≤ n) (g : Nat) (lb : Array Value) (eg : ∀ args w, (callFunc g args).run Try.prog w = .ok (.enter g args) w)
    (S Sp : List Int → Prop) (N : Nat) (hN : N ≤ maxLen) (hNb : N * 8 ≤ 140737488355328) (hS2 : ∀ ss, S ss → ss.length < 4611686018427387904) (w w0 : World) (hb0 : Below w0.heap.size w0 w) (hseq : SeqStops Fence.wide (n - 1 - 1 - 1) Try.prog g lb encU S Sp N w0) :
    CallsIn Fence.wide n Try.prog 34 #[.func (.func g) #[] lb] w fun e w' => ∃ (v : Value) (ss : List Int), e = .returned v ∧ S ss ∧
      w'.ownsRow w.heap.size 22 1 v ss.length ((ss.mergeSort fun x y => decide (x ≤ y)).map encU) ∧ Below w.heap.size w w' := by
  have hn1 : 1 ≤ n := by omega
  have hf40 : Fence.wide.fn 40 := trivial
  have hf41 : Fence.wide.fn 41 := trivial
  have cC := fun W (hb : Below w0.heap.size w0 W) => collect_in Fence.wide (n - 1) trivial trivial rfl (by omega) g lb trivial eg S Sp N hN hNb W w0 hb hseq
  have cN : ∀ A c W, CallsIn Fence.wide (n - 1) Try.prog 41 #[.slice A 0 c] W fun e w' => e = .returned (.tuple #[]) ∧ w' = W := fun A c W => callsIn_wide.2 (sort_none A c W)
  refine callsIn_of_wp Try.func34 rfl trivial ?_ rfl
  simp only [Try.ntmps34, List.size_toArray, List.length_cons, List.length_nil, Nat.reduceAdd, Nat.reduceSub, Array.replicate_succ, Array.replicate_zero, List.push_toArray, List.append_toArray, List.nil_append, List.cons_append]
  gi_wp2_with (gi_at_call 40; refine (cC _ hb0).mono ?_; rintro e W ⟨v, ss, rfl, hS, hrow, hnil, hb⟩)
  rcases hrow.2 with ⟨rfl, hz⟩ | ⟨gb, cap, cur, rfl, hbase, hgb, r1, r2, r3, r4⟩
  · have hss : ss = [] := List.eq_nil_of_length_eq_zero hz
    subst hss
    gi_wp2_with (gi_at_call 41; refine (cN none 0 W).mono ?_; rintro e w' ⟨rfl, rfl⟩)
    go_ret
    exact ⟨.slice none 0 0, [], rfl, hS, by simpa using hrow, hb⟩
  · have hH : Holds encU W gb 0 ss.toArray := holds_of_block_u hgb (by simpa using r4)
    have hgl : gb < W.heap.size := (Array.getElem?_eq_some_iff.1 hgb).1
    have cS := (callsIn_wide (n := n - 1)).2 (sort_many gb 0 cap ss W hH hgl (hS2 ss hS))
    gi_wp2_with (gi_at_call 41; refine cS.mono ?_; rintro e w' ⟨rfl, nn, os, rfl⟩)
    go_ret
    exact ⟨_, ss, rfl, hS, ownsRow_sorted_u (by simp) hbase hgb r1 r2 r3, hb.grown (grownBy_sorted_u _) hb.size (fun j hj => by cases hj; exact hbase)⟩

theorem ownsRow_base_u {W : World} {base base' : Nat} {e : TypeId} {size : Nat} {v : Value} {k : Nat} {xs : List Value} (h : W.ownsRow base e size v k xs) (hb : base' ≤ base) : W.ownsRow base' e size v k xs := by
  refine ⟨h.1, ?_⟩
  rcases h.2 with hn | ⟨g, cap, cur, hv, hbg, rest⟩
  · exact .inl hn
  · exact .inr ⟨g, cap, cur, hv, Nat.le_trans hb hbg, rest⟩

/-- What is open, rising. -/
def keysOf (m : List (Int × Int)) : List Int := (m.map Prod.fst).mergeSort fun x y => decide (x ≤ y)

set_option maxHeartbeats 1000000 in
theorem open_calls {W : World} {g b nn : Nat} {wd lt most mk : Int} {m : List (Int × Int)} (hB : IsBook W g b nn wd lt most mk m) (hm : m.length ≤ 1000000) :
    Calls Try.prog 15 #[.pointer (some ⟨g, 0, none⟩)] W fun e w' => ∃ v, e = .returned v ∧ w'.ownsRow W.heap.size 22 1 v (keysOf m).length ((keysOf m).map encU) ∧ Below W.heap.size W w' := by
  refine (callsIn_wide (n := 8)).1 ?_
  have c4 : W.cell? ⟨g, 4, none⟩ = some (.map (some b)) := cellOf hB.blk 4
  obtain ⟨hblk, D, hown, hr⟩ := hB
  have hsz : Maps.size D = m.length := hr.size
  have hseq := keys_stops Fence.wide 4 trivial rfl (by omega) W.heap.size b nn D (R := plainElem Try.prog 3) (W.alloc (.cells #[.map (some b)] 61)) (by simp) (by rw [cellOf (newBlk W _)]; rfl) (hown.alloc _)
  have cK := fun W' => keys_in Fence.wide 7 trivial rfl (some b) W'
  have hperm : ∀ ss : List Int, (ss.Nodup ∧ ∀ x, x ∈ ss ↔ Maps.has D (.int .u64 x) = true) → ss.Perm (m.map Prod.fst) := fun ss ⟨hnd, hk⟩ =>
    (List.perm_ext_iff_of_nodup hnd hr.nodup).2 fun x => (hk x).trans (hr.keys x)
  have cS := sorted_any 7 (by omega) 42 #[.pointer (some ⟨W.heap.size, 0, none⟩)] (enters_of Try.func42 (by kernel_rfl) rfl) _ _ (Maps.size D) (by rw [hsz]; unfold maxLen; omega) (by rw [hsz]; omega) (fun ss h => by
    have := (hperm ss h).length_eq; rw [List.length_map] at this; omega) _ _ (Below.refl _ _) hseq
  have hfK : Fence.wide.fn 35 := trivial
  have hfS : Fence.wide.fn 34 := trivial
  have HP := Lib.hid hperm
  clear hblk hown hr hsz hseq hperm
  refine callsIn_of_wp Try.func15 rfl trivial ?_ rfl
  simp only [Try.ntmps15, List.size_toArray, List.length_cons, List.length_nil, Nat.reduceAdd, Nat.reduceSub, Array.replicate_succ, Array.replicate_zero, List.push_toArray, List.append_toArray, List.nil_append, List.cons_append]
  gi_wp2_with (first
    | (gi_at_call 35; refine (cK _).mono ?_; rintro e w' ⟨rfl, rfl⟩)
    | (gi_at_call 34; refine cS.mono ?_; rintro e w' ⟨v, ss, rfl, hS, hrow, hb⟩))
  go_ret
  have e1 : ss.mergeSort (fun x y => decide (x ≤ y)) = keysOf m := mergeSort_of_perm_i (HP.out ss hS)
  rw [e1] at hrow
  have e2 : ss.length = (keysOf m).length := by rw [← e1]; simp
  rw [e2] at hrow
  exact ⟨v, rfl, ownsRow_base_u hrow (by simp), ((Below.refl _ W).alloc (Nat.le_refl _) _).trans (hb.mono (by simp))⟩
end Go.Proofs.Ytdiepeomhnkgpaa
