/- Texts put together: HOpen, Lay, HSeal, OnceA, Acts. -/
import Derived.Test.YtdiepeomhnkgpaaMA
import Derived.Test.YtdiepeomhnkgpaaMC
import Derived.Shelf.SlicesE.DeleteFunc
import Derived.Test.YtdiepeomhnkgpaaProg
import Derived.BigRegion
import Derived.Maps.AppendAt
import Derived.Deep.Slices
import Derived.Deep.Strs
import Derived.WideShapes
import Derived.ChangeShapes
import Derived.Carry
import Derived.ChangeOld
import Derived.Lib.Walk
/- The book's Open: what is open, rising. -/
namespace Go.Proofs.Ytdiepeomhnkgpaa
open Go.Proofs Go.Maps Go.RowKit Go.Sort Go.Shelf
set_option linter.unusedVariables false

theorem holds_of_block_u {w : World} {g : Nat} {cur : Array Value} {e : TypeId} {ss : List Int} (hb : w.heap[g]? = some (.cells cur e (0, 0))) (ht : cur.toList.take ss.length = ss.map encU) : Holds encU w g 0 ss.toArray := by
  intro j hj
  have hj' : j < ss.length := by simpa using hj
  refine ⟨?_, by simp [World.frozen?, hb]⟩
  have h1 : (cur.toList.take ss.length)[j]? = (ss.map encU)[j]? := by rw [ht]
  rw [List.getElem?_take_of_lt hj'] at h1
  simp only [World.cell?, hb, Nat.zero_add]
  simp only [Option.isSome_none, Bool.false_eq_true, if_false]
  rw [← Array.getElem?_toList, h1]
  simp [hj']

theorem heap_sorted_u {w : World} {g n : Nat} {os : Array Obj} {cur : Array Value} {e : TypeId} {fr : Nat × Nat} (d : Array Int) (hb : w.heap[g]? = some (.cells cur e fr)) :
    (grow (putRow encU (Sort.ahead w n) g 0 d) os).heap[g]? = some (.cells (putCells encU 0 d cur) e fr) := by
  have hg : g < w.heap.size := (Array.getElem?_eq_some_iff.1 hb).1
  rw [heap_grow_old _ _ (by simpa using hg)]
  simp [putRow, mapBlock, Sort.ahead, Array.getElem?_modify, hb, onCells]

theorem grownBy_sorted_u {w : World} {g n : Nat} {os : Array Obj} (d : Array Int) : w.grownBy (grow (putRow encU (Sort.ahead w n) g 0 d) os) (some g) := by
  refine ⟨rfl, rfl, rfl, by simp, fun k hk hne => ?_⟩
  rw [heap_grow_old _ _ (by simpa using hk)]
  have : g ≠ k := fun e => hne (by rw [e])
  simp [putRow, mapBlock, Sort.ahead, Array.getElem?_modify, this]

theorem take_putCells_u (cur : Array Value) (ts : List Int) (h : ts.length ≤ cur.size) : (putCells encU 0 ts.toArray cur).toList.take ts.length = ts.map encU := by
  apply List.ext_getElem?
  intro j
  by_cases hj : j < ts.length
  · rw [List.getElem?_take_of_lt hj, Array.getElem?_toList]
    simp [putCells, hj, show j < cur.size by omega]
  · rw [List.getElem?_take_eq_none (by omega), List.getElem?_eq_none (by simp; omega)]

theorem ownsRow_sorted_u {w : World} {base g cap n : Nat} {e : TypeId} {os : Array Obj} {cur : Array Value} {ss ts : List Int} (hl : ts.length = ss.length) (hbase : base ≤ g) (hb : w.heap[g]? = some (.cells cur e (0, 0)))
    (h1 : ss.length ≤ cap) (h2 : cap ≤ maxLen) (h3 : cur.size = cap * 1) :
    (grow (putRow encU (Sort.ahead w n) g 0 ts.toArray) os).ownsRow base e 1 (.slice (some ⟨g, 0, none⟩) ss.length cap) ss.length (ts.map encU) :=
  ⟨by simp [hl], .inr ⟨g, cap, _, rfl, hbase, heap_sorted_u _ hb, h1, h2, by simp [putCells, h3], by rw [Nat.mul_one, ← hl]; exact take_putCells_u cur ts (by omega)⟩⟩

set_option maxHeartbeats 1000000 in
/-- slices.Sorted over an iterator. -/
theorem sorted_any (n : Nat) (hn : 5 ≤ n) (g : Nat) (lb : Array Value) (eg : ∀ args w, (callFunc g args).run Try.prog w = .ok (.enter g args) w)
    (S Sp : List Int → Prop) (N : Nat) (hN : N ≤ maxLen) (hNb : N * 8 ≤ 140737488355328) (hS2 : ∀ ss, S ss → ss.length < 4611686018427387904) (w w0 : World) (hb0 : Below w0.heap.size w0 w) (hseq : SeqStops Fence.wide (n - 1 - 1 - 1) Try.prog g lb encU S Sp N w0) :
    CallsIn Fence.wide n Try.prog 34 #[.func (.func g) #[] lb] w fun e w' => ∃ (v : Value) (ss : List Int), e = .returned v ∧ S ss ∧
      w'.ownsRow w.heap.size 22 1 v ss.length ((ss.mergeSort fun x y => decide (x ≤ y)).map encU) ∧ Below w.heap.size w w' := by
  have hn1 : 1 ≤ n := by omega
  have hf40 : Fence.wide.fn 40 := trivial
  have hf41 : Fence.wide.fn 41 := trivial
  have cC := fun W (hb : Below w0.heap.size w0 W) => collect_in Fence.wide (n - 1) trivial trivial rfl (by omega) g lb trivial eg S Sp N hN hNb W w0 hb hseq
  have cN : ∀ A c W, CallsIn Fence.wide (n - 1) Try.prog 41 #[.slice A 0 c] W fun e w' => e = .returned (.tuple #[]) ∧ w' = W := fun A c W => callsIn_wide.2 (sort_none A c W)
  refine callsIn_of_wp Try.func34 rfl trivial ?_ rfl
  simp only [Try.ntmps34, List.size_toArray, List.length_cons, List.length_nil, Nat.reduceAdd, Nat.reduceSub, Array.replicate_succ, Array.replicate_zero, List.push_toArray, List.append_toArray, List.nil_append, List.cons_append]
  gi_wp2_with (gi_at_call 40; refine (cC _ hb0).mono ?_; rintro e W ⟨v, ss, rfl, hS, hrow, hnil, hb⟩)
  rcases hrow.2 with ⟨rfl, hz⟩ | ⟨gb, cap, cur, rfl, hbase, hgb, r1, r2, r3, r4⟩
  · have hss : ss = [] := List.eq_nil_of_length_eq_zero hz
    subst hss
    gi_wp2_with (gi_at_call 41; refine (cN none 0 W).mono ?_; rintro e w' ⟨rfl, rfl⟩)
    go_ret
    exact ⟨.slice none 0 0, [], rfl, hS, by simpa using hrow, hb⟩
  · have hH : Holds encU W gb 0 ss.toArray := holds_of_block_u hgb (by simpa using r4)
    have hgl : gb < W.heap.size := (Array.getElem?_eq_some_iff.1 hgb).1
    have cS := (callsIn_wide (n := n - 1)).2 (sort_many gb 0 cap ss W hH hgl (hS2 ss hS))
    gi_wp2_with (gi_at_call 41; refine cS.mono ?_; rintro e w' ⟨rfl, nn, os, rfl⟩)
    go_ret
    exact ⟨_, ss, rfl, hS, ownsRow_sorted_u (by simp) hbase hgb r1 r2 r3, hb.grown (grownBy_sorted_u _) hb.size (fun j hj => by cases hj; exact hbase)⟩

theorem ownsRow_base_u {W : World} {base base' : Nat} {e : TypeId} {size : Nat} {v : Value} {k : Nat} {xs : List Value} (h : W.ownsRow base e size v k xs) (hb : base' ≤ base) : W.ownsRow base' e size v k xs := by
  refine ⟨h.1, ?_⟩
  rcases h.2 with hn | ⟨g, cap, cur, hv, hbg, rest⟩
  · exact .inl hn
  · exact .inr ⟨g, cap, cur, hv, Nat.le_trans hb hbg, rest⟩

/-- What is open, rising. -/
def keysOf (m : List (Int × Int)) : List Int := (m.map Prod.fst).mergeSort fun x y => decide (x ≤ y)

set_option maxHeartbeats 1000000 in
theorem open_calls {W : World} {g b nn : Nat} {wd lt most mk : Int} {m : List (Int × Int)} (hB : IsBook W g b nn wd lt most mk m) (hm : m.length ≤ 1000000) :
    Calls Try.prog 15 #[.pointer (some ⟨g, 0, none⟩)] W fun e w' => ∃ v, e = .returned v ∧ w'.ownsRow W.heap.size 22 1 v (keysOf m).length ((keysOf m).map encU) ∧ Below W.heap.size W w' := by
  refine (callsIn_wide (n := 8)).1 ?_
  have c4 : W.cell? ⟨g, 4, none⟩ = some (.map (some b)) := cellOf hB.blk 4
  obtain ⟨hblk, D, hown, hr⟩ := hB
  have hsz : Maps.size D = m.length := hr.size
  have hseq := keys_stops Fence.wide 4 trivial rfl (by omega) W.heap.size b nn D (R := plainElem Try.prog 3) (W.alloc (.cells #[.map (some b)] 61)) (by simp) (by rw [cellOf (newBlk W _)]; rfl) (hown.alloc _)
  have cK := fun W' => keys_in Fence.wide 7 trivial rfl (some b) W'
  have hperm : ∀ ss : List Int, (ss.Nodup ∧ ∀ x, x ∈ ss ↔ Maps.has D (.int .u64 x) = true) → ss.Perm (m.map Prod.fst) := fun ss ⟨hnd, hk⟩ =>
    (List.perm_ext_iff_of_nodup hnd hr.nodup).2 fun x => (hk x).trans (hr.keys x)
  have cS := sorted_any 7 (by omega) 42 #[.pointer (some ⟨W.heap.size, 0, none⟩)] (enters_of Try.func42 (by kernel_rfl) rfl) _ _ (Maps.size D) (by rw [hsz]; unfold maxLen; omega) (by rw [hsz]; omega) (fun ss h => by
    have := (hperm ss h).length_eq; rw [List.length_map] at this; omega) _ _ (Below.refl _ _) hseq
  have hfK : Fence.wide.fn 35 := trivial
  have hfS : Fence.wide.fn 34 := trivial
  have HP := Lib.hid hperm
  clear hblk hown hr hsz hseq hperm
  refine callsIn_of_wp Try.func15 rfl trivial ?_ rfl
  simp only [Try.ntmps15, List.size_toArray, List.length_cons, List.length_nil, Nat.reduceAdd, Nat.reduceSub, Array.replicate_succ, Array.replicate_zero, List.push_toArray, List.append_toArray, List.nil_append, List.cons_append]
  gi_wp2_with (first
    | (gi_at_call 35; refine (cK _).mono ?_; rintro e w' ⟨rfl, rfl⟩)
    | (gi_at_call 34; refine cS.mono ?_; rintro e w' ⟨v, ss, rfl, hS, hrow, hb⟩))
  go_ret
  have e1 : ss.mergeSort (fun x y => decide (x ≤ y)) = keysOf m := mergeSort_of_perm_i (HP.out ss hS)
  rw [e1] at hrow
  have e2 : ss.length = (keysOf m).length := by rw [← e1]; simp
  rw [e2] at hrow
  exact ⟨v, rfl, ownsRow_base_u hrow (by simp), ((Below.refl _ W).alloc (Nat.le_refl _) _).trans (hb.mono (by simp))⟩
end Go.Proofs.Ytdiepeomhnkgpaa

/- slices.DeleteFunc of the library at []uint64: a laying of the shelf's contract, in plain words. -/
namespace Go.Proofs
open Go.Shelf
def Try.l32_ren : Go.Shelf.Ren := ⟨fun | 10 => 32 | 6 => 39 | n => n, fun | 22 => 32 | 23 => 22 | 25 => 57 | 3 => 3 | 4 => 4 | 0 => 0 | n => n, fun | n => n⟩
theorem Try.l32 : Go.Proofs.SlLaysH.n10 Try.prog Try.l32_ren := {
  mixed := by kernel_rfl
  f6 := ⟨Try.f39.name, by decide, Try.func39.trans (congrArg some (by kernel_rfl))⟩
  f10 := ⟨Try.f32.name, by decide, Try.func32.trans (congrArg some (by kernel_rfl))⟩
  t0 := Try.underlying0
  a0 := Try.isAgg0
  z0 := Try.sizeOf0
  v0 := Try.zeroValue0
  t3 := Try.underlying3
  a3 := Try.isAgg3
  z3 := Try.sizeOf3
  v3 := Try.zeroValue3
  t4 := Try.underlying4
  a4 := Try.isAgg4
  z4 := Try.sizeOf4
  v4 := Try.zeroValue4
  t22 := Try.underlying32
  a22 := Try.isAgg32
  z22 := Try.sizeOf32
  v22 := Try.zeroValue32
  a23 := Try.isAgg22
  z23 := Try.sizeOf22
  t25 := Try.underlying57
  a25 := Try.isAgg57
  z25 := Try.sizeOf57
  v25 := Try.zeroValue57 }
end Go.Proofs

/- The book's Seal: what is over at a mark, rising. -/
namespace Go.Proofs.Ytdiepeomhnkgpaa
open Go.Proofs Go.Maps Go.RowKit Go.Sort Go.Shelf
set_option linter.unusedVariables false

theorem IsBook.ne {W : World} {g b nn : Nat} {wd lt most mk : Int} {m : List (Int × Int)} (h : IsBook W g b nn wd lt most mk m) : g ≠ b := by
  rintro rfl
  obtain ⟨hblk, D, ⟨es, clock, hb, _⟩, _⟩ := h
  rw [hblk] at hb
  cases hb

theorem IsBook.lt {W : World} {g b nn : Nat} {wd lt most mk : Int} {m : List (Int × Int)} (h : IsBook W g b nn wd lt most mk m) : g < W.heap.size ∧ b < W.heap.size := by
  obtain ⟨hblk, D, ⟨es, clock, hb, _⟩, _⟩ := h
  exact ⟨(Array.getElem?_eq_some_iff.1 hblk).1, (Array.getElem?_eq_some_iff.1 hb).1⟩

theorem IsBook.kept {W W' : World} {g b nn : Nat} {wd lt most mk : Int} {m : List (Int × Int)} {row : Option Nat} (h : IsBook W g b nn wd lt most mk m) (hg : W.grownBy W' row) (h1 : some g ≠ row) (h2 : some b ≠ row) : IsBook W' g b nn wd lt most mk m := by
  have hl := h.lt
  obtain ⟨hblk, D, hown, hr⟩ := h
  exact ⟨(hg.block g hl.1 h1).trans hblk, D, hown.kept hg h2, hr⟩

theorem IsBook.marked {W : World} {g b nn : Nat} {wd lt most mk : Int} {m : List (Int × Int)} (h : IsBook W g b nn wd lt most mk m) (x : Int) : IsBook (W.setCell ⟨g, 3, none⟩ (.int .u64 x)) g b nn wd lt most x m ∧ W.grownBy (W.setCell ⟨g, 3, none⟩ (.int .u64 x)) (some g) := by
  have hl := h.lt
  have hne := h.ne
  obtain ⟨hblk, D, hown, hr⟩ := h
  have hg : W.grownBy (W.setCell ⟨g, 3, none⟩ (.int .u64 x)) (some g) := by
    refine ⟨rfl, rfl, rfl, by simp [World.setCell], fun i hi hne => ?_⟩
    have : g ≠ i := fun e => hne (by rw [e])
    simp [World.setCell, Array.getElem?_modify, this]
  refine ⟨⟨?_, D, hown.kept hg (by intro e; cases e; exact hne rfl), hr⟩, hg⟩
  simp [World.setCell, Array.getElem?_modify, hblk]

/-- The element as the shelf's row has it: whatever the whole number, its remainder. -/
def encM (x : Int) : Value := .int .u64 (x % 18446744073709551616)

theorem seal1_calls {W : World} {g b nn : Nat} {wd lt most mk : Int} {m : List (Int × Int)} (hB : IsBook W g b nn wd lt most mk m) (hF : Fine wd lt mk) (B : Nat) (hc : W.cell? ⟨B, 0, none⟩ = some (.pointer (some ⟨g, 0, none⟩))) (x : Int) :
    FnGives Try.prog 33 #[.pointer (some ⟨B, 0, none⟩)] #[encM x] (.bool (!overB (x % 18446744073709551616) wd lt mk)) W := by
  have HV := Lib.hid (bover_calls hB hF (x % 18446744073709551616) (by omega) (by omega))
  show Calls Try.prog 33 #[.int .u64 (x % 18446744073709551616), .pointer (some ⟨B, 0, none⟩)] W _
  generalize x % 18446744073709551616 = y at HV ⊢
  clear hB hF
  go_enter Try.func33, Try.ntmps33
  go_wp2_with (go_at_call 31; refine HV.out.mono ?_; rintro e w' ⟨rfl, q, rfl⟩)
  go_ret
  exact ⟨rfl, _, rfl⟩


theorem encM_eq {x : Int} (h0 : 0 ≤ x) (h1 : x < 18446744073709551616) : encM x = encU x := by
  unfold encM encU; rw [Int.emod_eq_of_lt h0 h1]

theorem ownsRow_cut_u {w : World} {base g cap n : Nat} {e : TypeId} {os : Array Obj} {cur : Array Value} {enc : Int → Value} {ts : List Int} (hbase : base ≤ g) (hb : w.heap[g]? = some (.cells cur e (0, 0)))
    (k : Nat) (hk : k ≤ ts.length) (h1 : ts.length ≤ cap) (h2 : cap ≤ maxLen) (h3 : cur.size = cap * 1) :
    (grow (putRow enc (Sort.ahead w n) g 0 ts.toArray) os).ownsRow base e 1 (.slice (some ⟨g, 0, none⟩) k cap) k ((ts.take k).map enc) := by
  have hg : g < w.heap.size := (Array.getElem?_eq_some_iff.1 hb).1
  refine ⟨by simp; omega, .inr ⟨g, cap, putCells enc 0 ts.toArray cur, rfl, hbase, ?_, by omega, h2, by simp [putCells, h3], ?_⟩⟩
  · rw [heap_grow_old _ _ (by simpa using hg)]
    simp [putRow, mapBlock, Sort.ahead, Array.getElem?_modify, hb, onCells]
  · rw [Nat.mul_one]
    apply List.ext_getElem?
    intro j
    by_cases hj : j < k
    · rw [List.getElem?_take_of_lt hj, Array.getElem?_toList]
      have : j < ts.length := by omega
      simp [putCells, this, show j < cur.size by omega, List.getElem?_take_of_lt hj]
    · rw [List.getElem?_take_eq_none (by omega), List.getElem?_eq_none (by simp; omega)]

theorem grownBy_sorted_e {w : World} {g n : Nat} {os : Array Obj} {enc : Int → Value} (d : Array Int) : w.grownBy (grow (putRow enc (Sort.ahead w n) g 0 d) os) (some g) := by
  refine ⟨rfl, rfl, rfl, by simp, fun k hk hne => ?_⟩
  rw [heap_grow_old _ _ (by simpa using hk)]
  have : g ≠ k := fun e => hne (by rw [e])
  simp [putRow, mapBlock, Sort.ahead, Array.getElem?_modify, this]

theorem cell_of_block {W : World} {g t : Nat} {cs : Array Value} {fr : Nat × Nat} (h : W.heap[g]? = some (.cells cs t fr)) (j : Nat) : W.cell? ⟨g, j, none⟩ = cs[j]? := by
  simp [World.cell?, h]

theorem index_nil (f : Value) (W : World) : Calls Try.prog 39 #[.slice none 0 0, f] W fun e w' => e = .returned (.int .i64 (-1)) ∧ W = w' := by
  go_enter Try.func39, Try.ntmps39
  go_wp2
  refine wp_loop_rounds 1 ?_
  rw [rounds_succ]
  go_wp2
  go_ret
  exact ⟨rfl, rfl⟩
theorem cut_nil (f : Value) (W : World) : Calls Try.prog 32 #[.slice none 0 0, f] W fun e w' => e = .returned (.slice none 0 0) ∧ W = w' := by
  have H := Lib.hid (index_nil f W)
  go_enter Try.func32, Try.ntmps32
  go_wp2_with (go_at_call 39; refine H.out.mono ?_; rintro e w' ⟨rfl, rfl⟩)
  go_ret
  exact ⟨rfl, rfl⟩

/-- DeleteFunc at a row that the callee owns, with the closure. -/
theorem cut_calls {W : World} {base g b nn : Nat} {wd lt most mk : Int} {m : List (Int × Int)} (hB : IsBook W g b nn wd lt most mk m) (hF : Fine wd lt mk) (B : Nat) (hb : W.heap[B]? = some (.cells #[.pointer (some ⟨g, 0, none⟩)] 28 (0, 0)))
    (v : Value) (ss : List Int) (hss : ∀ x ∈ ss, 0 ≤ x ∧ x < 18446744073709551616) (hl : ss.length ≤ 1000000) (hv : W.ownsRow base 22 1 v ss.length (ss.map encU)) (hbase : g < base ∧ b < base ∧ B < base) :
    Calls Try.prog 32 #[v, .func (.func 33) #[] #[.pointer (some ⟨B, 0, none⟩)]] W fun e w' => ∃ v', e = .returned v' ∧ w'.ownsRow base 22 1 v' (ss.filter fun x => overB x wd lt mk).length ((ss.filter fun x => overB x wd lt mk).map encU) ∧ W.grownBy w' v.ownBlock := by
  have eg : ∀ args w, (callFunc 33 args).run Try.prog w = .ok (.enter 33 args) w := enters_of Try.func33 (by kernel_rfl) rfl
  have hBl : B < W.heap.size := (Array.getElem?_eq_some_iff.1 hb).1
  have hp : PredAt Try.prog 33 #[.pointer (some ⟨B, 0, none⟩)] encM (fun x => !overB (x % 18446744073709551616) wd lt mk) W := fun W' x hb' =>
    seal1_calls (hB.below hb') hF B (by rw [cell_of_block ((hb'.block B hBl).trans hb)]; rfl) x
  have hmap : ss.map encU = ss.map encM := List.map_congr_left fun x hx => (encM_eq (hss x hx).1 (hss x hx).2).symm
  have hfil : (ss.filter fun x => overB x wd lt mk) = ss.filter fun x => !(!overB (x % 18446744073709551616) wd lt mk) := List.filter_congr fun x hx => by
    rw [Int.emod_eq_of_lt (hss x hx).1 (hss x hx).2, Bool.not_not]
  have hmap2 : (ss.filter fun x => overB x wd lt mk).map encU = (ss.filter fun x => overB x wd lt mk).map encM := List.map_congr_left fun x hx => by
    have := hss x (List.mem_filter.1 hx).1
    exact (encM_eq this.1 this.2).symm
  rw [hmap2, hfil]
  rw [hmap] at hv
  rcases hv.2 with ⟨rfl, hz⟩ | ⟨gb, cap, cur, rfl, hgb0, hgb, r1, r2, r3, r4⟩
  · obtain rfl : ss = [] := List.eq_nil_of_length_eq_zero hz
    refine (cut_nil _ W).mono ?_
    rintro e w' ⟨rfl, rfl⟩
    exact ⟨_, rfl, World.ownsRow_nil _ _ _ _, World.grownBy.refl _ _⟩
  · have hgl : gb < W.heap.size := (Array.getElem?_eq_some_iff.1 hgb).1
    have hH : Holds encM W gb 0 ss.toArray := by
      intro j hj
      have hj' : j < ss.length := by simpa using hj
      refine ⟨?_, by simp [World.frozen?, hgb]⟩
      have h1 : (cur.toList.take ss.length)[j]? = (ss.map encM)[j]? := by rw [← r4, Nat.mul_one]
      rw [List.getElem?_take_of_lt hj'] at h1
      simp only [World.cell?, hgb, Nat.zero_add]
      simp only [Option.isSome_none, Bool.false_eq_true, if_false]
      rw [← Array.getElem?_toList, h1]
      simp [hj']
    have hpo : PredOver Try.prog 33 #[.pointer (some ⟨B, 0, none⟩)] encM (fun x => !overB (x % 18446744073709551616) wd lt mk) gb 0 ss.toArray.size W := fun n os dk x hs => by
      have hg : W.grownBy (grow (putRow encM (Sort.ahead W n) gb 0 dk) os) (some gb) := grownBy_sorted_e dk
      have hne : ∀ k, k < base → some k ≠ some gb := fun k hk e => by cases e; omega
      exact seal1_calls (hB.kept hg (hne _ hbase.1) (hne _ hbase.2.1)) hF B (by
        show (grow (putRow encM (Sort.ahead W n) gb 0 dk) os).cell? _ = _
        rw [cell_of_block ((hg.block B hBl (hne _ hbase.2.2)).trans hb)]; rfl) x
    have hD := AnyE.slices_DeleteFunc Try.l32 encM (fun _ => rfl) (fun x => !overB (x % 18446744073709551616) wd lt mk) 33 #[.pointer (some ⟨B, 0, none⟩)] eg 0 Try.zeroValue22 gb 0 cap ss.toArray W hp hpo hH (by simp; omega) (by simpa using r1)
    change Calls Try.prog 32 _ _ _ at hD
    simp only [List.size_toArray] at hD
    refine hD.mono ?_
    rintro e w' ⟨rfl, q, rfl⟩
    refine ⟨_, rfl, ?_, grownBy_sorted_e (os := #[]) _⟩
    have hle := List.length_filter_le (fun x => !(!overB (x % 18446744073709551616) wd lt mk)) ss
    have := ownsRow_cut_u (n := q) (os := #[]) (enc := encM) (ts := (ss.filter fun x => !(!overB (x % 18446744073709551616) wd lt mk)) ++ List.replicate (ss.length - (ss.filter fun x => !(!overB (x % 18446744073709551616) wd lt mk)).length) 0) hgb0 hgb (ss.filter fun x => !(!overB (x % 18446744073709551616) wd lt mk)).length (by rw [List.length_append]; omega) (by rw [List.length_append, List.length_replicate]; omega) r2 r3
    rw [List.take_left' rfl, grow_empty] at this
    exact this

set_option maxHeartbeats 1000000 in
theorem seal_calls {W : World} {g b nn : Nat} {wd lt most mk : Int} {m : List (Int × Int)} (hB : IsBook W g b nn wd lt most mk m) (hF : Fine wd lt mk) (x : Int) (hx0 : 0 ≤ x) (hx : x < 18446744073709551616) (hm : m.length ≤ 1000000)
    (hk : ∀ y ∈ keysOf m, 0 ≤ y ∧ y < 18446744073709551616) :
    Calls Try.prog 13 #[.pointer (some ⟨g, 0, none⟩), .int .u64 x] W fun e w' => ∃ v, e = .returned v ∧ w'.ownsRow W.heap.size 22 1 v ((keysOf m).filter fun y => overB y wd lt (max mk x)).length (((keysOf m).filter fun y => overB y wd lt (max mk x)).map encU) ∧
      IsBook w' g b nn wd lt most (max mk x) m ∧ W.grownBy w' (some g) := by
  have hlt := hB.lt
  have hne := hB.ne
  have c3 : W.cell? ⟨g, 3, none⟩ = some (.int .u64 mk) := cellOf hB.blk 3
  have f3 : W.frozen? ⟨g, 3, none⟩ = false := freeOf hB.blk 3
  replace hk := Lib.hid hk
  have hmk : 0 ≤ max mk x ∧ max mk x < 18446744073709551616 := by have := hF.m0; have := hF.m1; omega
  have hF2 : Fine wd lt (max mk x) := ⟨hF.w0, hF.w1, hF.l0, hF.l1, hmk.1, hmk.2⟩
  have hM := hB.marked (max mk x)
  generalize hmx : max mk x = mx at hM hF2 ⊢
  have hs1 : (W.setCell ⟨g, 3, none⟩ (.int .u64 mx)).heap.size = W.heap.size := by simp [World.setCell]
  have hW2 : ∀ W2, W2 = ((W.setCell ⟨g, 3, none⟩ (.int .u64 mx)).alloc (.cells #[.pointer (some ⟨g, 0, none⟩)] 28)).drew → IsBook W2 g b nn wd lt most mx m ∧ W.grownBy W2 (some g) ∧ W2.heap[W.heap.size]? = some (.cells #[.pointer (some ⟨g, 0, none⟩)] 28 (0, 0)) ∧ W2.heap.size = W.heap.size + 1 ∧ W2.cell? ⟨W.heap.size, 0, none⟩ = some (.pointer (some ⟨g, 0, none⟩)) := by
    rintro W2 rfl
    have e0 : ((W.setCell ⟨g, 3, none⟩ (.int .u64 mx)).alloc (.cells #[.pointer (some ⟨g, 0, none⟩)] 28)).heap[W.heap.size]? = some (.cells #[.pointer (some ⟨g, 0, none⟩)] 28 (0, 0)) := by
      rw [← hs1]; exact newBlk _ _
    refine ⟨(hM.1.kept (World.grownBy_alloc _ _ none) (by simp) (by simp)).drewN 1, ?_, e0, by simp [World.drew, hs1], cell_of_block e0 0⟩
    exact hM.2.trans ⟨rfl, rfl, rfl, by simp [World.drew], fun i hi _ => by show ((W.setCell _ _).heap.push _)[i]? = _; rw [Array.getElem?_push_lt hi, Array.getElem?_eq_getElem hi]⟩
  have HW := Lib.hid hW2
  have HO := fun W2 (h : IsBook W2 g b nn wd lt most mx m) => Lib.hid (open_calls h hm)
  clear hB hM hW2 hs1 hmk hF
  go_enter Try.func13, Try.ntmps13
  go_wp2
  go_region
  generalize hW2 : World.drew _ = W2
  obtain ⟨k1, k2, k3, k4, k5⟩ := HW.out W2 hW2.symm
  clear hW2 c3 f3
  go_wp2_with (go_at_call 15; refine (HO W2 k1).out.mono ?_; rintro e W3 ⟨v, rfl, hv, hb3⟩)
  have hcut := cut_calls (k1.below hb3) hF2 W.heap.size ((hb3.block W.heap.size (by omega)).trans k3) v (keysOf m) hk.out (by unfold keysOf; simpa using hm) hv (by omega)
  have c5 : W3.cell? ⟨W.heap.size, 0, none⟩ = some (.pointer (some ⟨g, 0, none⟩)) := cell_of_block ((hb3.block W.heap.size (by omega)).trans k3) 0
  have HC := Lib.hid hcut
  have HV := Lib.hid hv
  clear hcut hv
  go_wp2_with (go_at_call 32; refine HC.out.mono ?_; rintro e W4 ⟨v4, rfl, hv4, hg4⟩)
  go_ret
  have hvb : ∀ k, v.ownBlock = some k → W2.heap.size ≤ k := fun k hk => (HV.out.lt k hk).1
  have hg3 : W2.grownBy W3 none := ⟨hb3.os, hb3.tape, hb3.output, hb3.size, fun i hi _ => hb3.block i hi⟩
  have hne1 : ∀ k, k < W2.heap.size → some k ≠ v.ownBlock := fun k hk e => by have := hvb k e.symm; omega
  refine ⟨v4, rfl, ownsRow_base_u hv4 (by omega), (k1.below hb3).kept hg4 (hne1 _ (by omega)) (hne1 _ (by omega)), (k2.andThen hg3 (by simp)).andThen hg4 (fun j hj => .inl (by have := hvb j hj; omega))⟩
end Go.Proofs.Ytdiepeomhnkgpaa

/- WindowOnce: the state of its loop, and what each step makes of it. -/
namespace Go.Proofs.Ytdiepeomhnkgpaa
open Go.Proofs Go.Maps Go.RowKit Go.Sort Go.Shelf
set_option linter.unusedVariables false

/-- The elements of a slice of calls. -/
structure Acts (W : World) (A : Option Addr) (l : List (Int × Int × Int)) : Prop where
  len : l.length ≤ 9223372036854775807
  at_ : ∀ i x, l[i]? = some x → ∃ b off, A = some ⟨b, off, none⟩ ∧ b < W.heap.size ∧ W.cell? ⟨b, off + i * 3, none⟩ = some (.int .i64 x.1) ∧ W.cell? ⟨b, off + i * 3 + 1, none⟩ = some (.int .u64 x.2.1) ∧ W.cell? ⟨b, off + i * 3 + 2, none⟩ = some (.int .i64 x.2.2) ∧
    (0 ≤ x.2.1 ∧ x.2.1 < 18446744073709551616) ∧ (-9223372036854775808 ≤ x.2.2 ∧ x.2.2 ≤ 9223372036854775807)

theorem keysOf_mem {m : List (Int × Int)} {y : Int} : y ∈ keysOf m ↔ y ∈ m.map Prod.fst := by
  unfold keysOf; exact (List.mergeSort_perm _ _).mem_iff
theorem keysOf_length (m : List (Int × Int)) : (keysOf m).length = m.length := by
  unfold keysOf; simp
theorem keysOf_nodup {m : List (Int × Int)} (h : (m.map Prod.fst).Nodup) : (keysOf m).Nodup := by
  unfold keysOf; exact (List.mergeSort_perm _ _).nodup_iff.2 h

theorem IsBook.bounds {W : World} {g b nn : Nat} {wd lt most mk : Int} {m : List (Int × Int)} (h : IsBook W g b nn wd lt most mk m) : ∀ y ∈ keysOf m, 0 ≤ y ∧ y < 18446744073709551616 := by
  obtain ⟨_, D, _, hr⟩ := h
  intro y hy
  obtain ⟨p, hp, rfl⟩ := List.mem_map.1 (keysOf_mem.1 hy)
  exact (hr.wf p hp).1
theorem IsBook.nodup {W : World} {g b nn : Nat} {wd lt most mk : Int} {m : List (Int × Int)} (h : IsBook W g b nn wd lt most mk m) : (m.map Prod.fst).Nodup := by
  obtain ⟨_, D, _, hr⟩ := h
  exact hr.nodup

/-- At with nothing fresh, whatever it is. -/
theorem at_nil {W : World} {g b nn : Nat} {wd lt most mk : Int} {m : List (Int × Int)} (hB : IsBook W g b nn wd lt most mk m) (hF : Fine wd lt mk) (t : Int) (h0 : 0 ≤ t) (h1 : t < 18446744073709551616) (hn : nn < maxLen) (hr : (m.length : Int) ≤ most)
    (hc : ∀ p ∈ m, overB p.1 wd lt mk = false) :
    Calls Try.prog 12 #[.pointer (some ⟨g, 0, none⟩), .int .u64 t, .nilFunc] W fun e w' => ∃ (v f : Int) (nn' : Nat) (m' : List (Int × Int)), e = .returned (.tuple #[.int .i64 v, .int .i64 f]) ∧ IsBook w' g b nn' wd lt most mk m' ∧ nn' ≤ nn + 1 ∧ m'.length ≤ m.length + 1 ∧ (m'.length : Int) ≤ most ∧ (∀ p ∈ m', overB p.1 wd lt mk = false) ∧ W.grownBy w' (some b) := by
  have gd : ∀ q, W.grownBy (W.drewN q) (some b) := fun q => ⟨rfl, rfl, rfl, Nat.le_refl _, fun _ _ _ => rfl⟩
  cases ho : overB (t / wd) wd lt mk with
  | true =>
    refine (at_over hB hF t h0 h1 .nilFunc ho).mono ?_
    rintro e w' ⟨rfl, q, rfl⟩
    exact ⟨_, _, nn, m, rfl, hB.drewN q, by omega, by omega, hr, hc, gd q⟩
  | false =>
    by_cases hm : t / wd ∈ m.map Prod.fst
    · obtain ⟨p, hp, hpe⟩ := List.mem_map.1 hm
      obtain ⟨k, v⟩ := p
      dsimp only at hpe
      subst hpe
      refine (at_there hB hF t h0 h1 .nilFunc ho v hp).mono ?_
      rintro e w' ⟨rfl, q, rfl⟩
      exact ⟨_, _, nn, m, rfl, hB.drewN q, by omega, by omega, hr, hc, gd q⟩
    · by_cases hl : most ≤ (m.length : Int)
      · refine (at_full hB hF t h0 h1 .nilFunc ho hm hl).mono ?_
        rintro e w' ⟨rfl, q, rfl⟩
        exact ⟨_, _, nn, m, rfl, hB.drewN q, by omega, by omega, hr, hc, gd q⟩
      · refine (at_put hB hF t h0 h1 ho hm (by omega) hn).mono ?_
        rintro e w' ⟨rfl, hB', q, hg⟩
        refine ⟨_, _, nn + 1, _, rfl, hB', Nat.le_refl _, by simp, by simp; omega, ?_, ⟨hg.os, hg.tape, hg.output, hg.size, hg.block⟩⟩
        intro p hp
        rcases List.mem_cons.1 hp with rfl | hp'
        · exact ho
        · exact hc p hp'

theorem overB_mono {x wd lt mk mk' : Int} (h : overB x wd lt mk = true) (hle : mk ≤ mk') : overB x wd lt mk' = true := by
  unfold overB at *
  have := of_decide_eq_true h
  exact decide_eq_true ⟨this.1, by omega⟩

/-- The state of the law's loop. -/
structure St (W0 : World) (g b : Nat) (wd lt most : Int) (w : World) (vg : Value) (gone : List Int) (k : Nat) (nn : Nat) (mk : Int) (m : List (Int × Int)) : Prop where
  below : Below W0.heap.size W0 w
  book : IsBook w g b nn wd lt most mk m
  fine : Fine wd lt mk
  gb : W0.heap.size ≤ g ∧ W0.heap.size ≤ b
  row : w.ownsRow W0.heap.size 22 1 vg gone.length (gone.map encU)
  far : vg.ownBlock ≠ some g ∧ vg.ownBlock ≠ some b
  nn : nn ≤ k
  cnt : gone.length + m.length ≤ k
  room : (m.length : Int) ≤ most
  low : ∀ x ∈ gone, overB x wd lt mk = true

theorem grownBy_of_below {W W' : World} (h : Below W.heap.size W W') (row : Option Nat) : W.grownBy W' row := ⟨h.os, h.tape, h.output, h.size, fun i hi _ => h.block i hi⟩

theorem ownFar {v : Value} {g : Nat} (h : v.ownBlock ≠ some g) : v.ownBlock = none ∨ v.ownBlock ≠ some g := .inr h

/-- A step that leaves the rows alone and keeps the book. -/
theorem St.step {W0 : World} {g b : Nat} {wd lt most : Int} {w : World} {vg : Value} {gone : List Int} {k nn : Nat} {mk : Int} {m : List (Int × Int)} (h : St W0 g b wd lt most w vg gone k nn mk m)
    {w' : World} {row : Option Nat} (hg : w.grownBy w' row) (hrow : row = none ∨ row = some g ∨ row = some b) {nn' k' : Nat} {mk' : Int} {m' : List (Int × Int)} (hb : IsBook w' g b nn' wd lt most mk' m') (hmk : mk ≤ mk') (hmk' : mk' < 18446744073709551616)
    (h1 : nn' ≤ k') (h2 : gone.length + m'.length ≤ k') (h3 : (m'.length : Int) ≤ most) : St W0 g b wd lt most w' vg gone k' nn' mk' m' := by
  have hgb := h.gb
  refine ⟨h.below.grown hg h.below.size ?_, hb, ⟨h.fine.w0, h.fine.w1, h.fine.l0, h.fine.l1, by have := h.fine.m0; omega, hmk'⟩, h.gb, h.row.kept hg ?_, h.far, h1, h2, h3, fun x hx => overB_mono (h.low x hx) hmk⟩
  · rintro j rfl
    rcases hrow with h | h | h
    · cases h
    · cases h; exact hgb.1
    · cases h; exact hgb.2
  · rcases hrow with rfl | rfl | rfl
    · cases vg.ownBlock <;> simp
    · exact .inr h.far.1
    · exact .inr h.far.2

theorem St.later {W0 : World} {g b : Nat} {wd lt most : Int} {w : World} {vg : Value} {gone : List Int} {k nn : Nat} {mk : Int} {m : List (Int × Int)} (h : St W0 g b wd lt most w vg gone k nn mk m) : St W0 g b wd lt most w vg gone (k + 1) nn mk m :=
  ⟨h.below, h.book, h.fine, h.gb, h.row, h.far, by have := h.nn; omega, by have := h.cnt; omega, h.room, h.low⟩

/-- What is to be taken yet. -/
structure Rest (wd lt mk : Int) (m : List (Int × Int)) (ys : List Int) : Prop where
  nodup : ys.Nodup
  sub : ∀ x ∈ ys, x ∈ m.map Prod.fst
  over : ∀ x ∈ ys, overB x wd lt mk = true
  all : ∀ p ∈ m, overB p.1 wd lt mk = true → p.1 ∈ ys

theorem Rest.start {wd lt mk : Int} {m : List (Int × Int)} (hn : (m.map Prod.fst).Nodup) : Rest wd lt mk m ((keysOf m).filter fun y => overB y wd lt mk) :=
  ⟨(keysOf_nodup hn).filter _, fun x hx => keysOf_mem.1 (List.mem_filter.1 hx).1, fun x hx => (List.mem_filter.1 hx).2, fun p hp ho => List.mem_filter.2 ⟨keysOf_mem.2 (List.mem_map_of_mem hp), ho⟩⟩

theorem Rest.next {wd lt mk : Int} {m : List (Int × Int)} {x : Int} {ys : List Int} (h : Rest wd lt mk m (x :: ys)) : Rest wd lt mk (m.filter fun p => p.1 ≠ x) ys := by
  have hnd := List.nodup_cons.1 h.nodup
  refine ⟨hnd.2, fun y hy => ?_, fun y hy => h.over y (List.mem_cons_of_mem _ hy), fun p hp ho => ?_⟩
  · obtain ⟨p, hp, rfl⟩ := List.mem_map.1 (h.sub y (List.mem_cons_of_mem _ hy))
    exact List.mem_map_of_mem (List.mem_filter.2 ⟨hp, by
      simp only [ne_eq, decide_eq_true_eq]
      intro e
      rw [e] at hy
      exact hnd.1 hy⟩)
  · obtain ⟨hp1, hp2⟩ := List.mem_filter.1 hp
    rcases List.mem_cons.1 (h.all p hp1 ho) with e | e
    · simp [e] at hp2
    · exact e

theorem Rest.clean {wd lt mk : Int} {m : List (Int × Int)} (h : Rest wd lt mk m []) : ∀ p ∈ m, overB p.1 wd lt mk = false := by
  intro p hp
  cases ho : overB p.1 wd lt mk with
  | false => rfl
  | true => exact absurd (h.all p hp ho) (by simp)

theorem filter_short {m : List (Int × Int)} {x : Int} (h : x ∈ m.map Prod.fst) : (m.filter fun p => p.1 ≠ x).length + 1 ≤ m.length := by
  obtain ⟨p, hp, rfl⟩ := List.mem_map.1 h
  have := List.length_filter_lt_length_iff_exists (p := fun q : Int × Int => decide (q.1 ≠ p.1)) (l := m)
  have := this.2 ⟨p, hp, by simp⟩
  omega

/-- gone grows by one. -/
theorem St.grow {W0 : World} {g b : Nat} {wd lt most : Int} {w : World} {vg : Value} {gone : List Int} {k nn : Nat} {mk : Int} {m : List (Int × Int)} (h : St W0 g b wd lt most w vg gone k nn mk m)
    {w' : World} {vg' : Value} (hg : w.grownBy w' vg.ownBlock) (x : Int) (hrow : w'.ownsRow W0.heap.size 22 1 vg' (gone.length + 1) (gone.map encU ++ [.int .u64 x])) (hat : vg'.ownBlock = vg.ownBlock ∨ ∃ j, vg'.ownBlock = some j ∧ w.heap.size ≤ j) (hx : overB x wd lt mk = true)
    (hk : gone.length + 1 + m.length ≤ k) : St W0 g b wd lt most w' vg' (gone ++ [x]) k nn mk m := by
  have hl := h.book.lt
  refine ⟨h.below.grown hg h.below.size ?_, h.book.kept hg (fun e => h.far.1 e.symm) (fun e => h.far.2 e.symm), h.fine, h.gb, by simpa [encU] using hrow, ?_, h.nn, by simpa using hk, h.room, ?_⟩
  · intro j hj
    exact (h.row.lt j hj).1
  · rcases hat with e | ⟨j, e, hj⟩
    · rw [e]; exact h.far
    · rw [e]
      refine ⟨fun e => ?_, fun e => ?_⟩ <;> (injection e; omega)
  · intro y hy
    rcases List.mem_append.1 hy with hy | hy
    · exact h.low y hy
    · obtain rfl : y = x := by simpa using hy
      exact hx

/-- A row as a slice of some address. -/
theorem ownsRow_form {w : World} {base n : Nat} {e : TypeId} {v : Value} {xs : List Value} (h : w.ownsRow base e 1 v n xs) : ∃ V cap, v = .slice V n cap ∧ ∀ j u, xs[j]? = some u → ∃ g, V = some ⟨g, 0, none⟩ ∧ base ≤ g ∧ w.cell? ⟨g, j, none⟩ = some u := by
  have hl := h.1
  have hc := fun g hg => World.ownsRow.cells h (g := g) hg
  rcases h.2 with ⟨rfl, rfl⟩ | ⟨g, cap, cur, rfl, hb, _⟩
  · exact ⟨none, 0, rfl, fun j u hj => by have := (List.getElem?_eq_some_iff.1 hj).1; omega⟩
  · refine ⟨_, cap, rfl, fun j u hj => ⟨g, rfl, hb, ?_⟩⟩
    have := hc g rfl j u hj
    have hadd : (⟨g, 0, none⟩ : Addr).add j = ⟨g, j, none⟩ := by unfold Addr.add; split <;> simp_all
    rwa [hadd] at this

/-- The sealed ones, beside what is gone. -/
structure Sl (w : World) (base : Nat) (v vg : Value) (g b : Nat) (ss : List Int) : Prop where
  row : w.ownsRow base 22 1 v ss.length (ss.map encU)
  g : v.ownBlock ≠ some g
  b : v.ownBlock ≠ some b
  vg : v.ownBlock = none ∨ v.ownBlock ≠ vg.ownBlock

theorem Sl.cell {w : World} {base : Nat} {v vg : Value} {g b : Nat} {ss : List Int} (h : Sl w base v vg g b ss) (done rest : List Int) (x : Int) (hs : ss = done ++ x :: rest) : ∃ gb cap, v = .slice (some ⟨gb, 0, none⟩) ss.length cap ∧ w.cell? ⟨gb, done.length, none⟩ = some (.int .u64 x) := by
  obtain ⟨V, cap, rfl, hc⟩ := ownsRow_form h.row
  obtain ⟨gb, rfl, _, hcell⟩ := hc done.length (.int .u64 x) (by rw [hs]; simp [encU])
  exact ⟨gb, cap, rfl, hcell⟩

theorem Sl.kept {w w' : World} {base : Nat} {v vg vg' : Value} {g b : Nat} {ss : List Int} {row : Option Nat} (h : Sl w base v vg g b ss) (hg : w.grownBy w' row) (hrow : row = none ∨ row = some g ∨ row = some b ∨ row = vg.ownBlock) (hat : vg'.ownBlock = vg.ownBlock ∨ ∃ j, vg'.ownBlock = some j ∧ w.heap.size ≤ j) : Sl w' base v vg' g b ss := by
  refine ⟨h.row.kept hg ?_, h.g, h.b, ?_⟩
  · rcases hrow with rfl | rfl | rfl | rfl
    · cases v.ownBlock <;> simp
    · exact .inr h.g
    · exact .inr h.b
    · exact h.vg
  · rcases hat with e | ⟨j, e, hj⟩
    · rw [e]; exact h.vg
    · rw [e]
      cases hv : v.ownBlock with
      | none => exact .inl rfl
      | some k => exact .inr (fun e => by cases e; have := (h.row.lt _ hv).2; omega)

end Go.Proofs.Ytdiepeomhnkgpaa

/- A parameter []Act, opened. -/
namespace Go.Proofs.Ytdiepeomhnkgpaa
open Go Go.RowKit Go.ChangeShapes Go.WideShapes
set_option linter.unusedVariables false

theorem u64_wf' {x : Int} (h : (Lit.int .u64 x).wf = true) : 0 ≤ x ∧ x < 18446744073709551616 := by
  have h' : (decide (IntKind.u64.min ≤ x) && decide (x ≤ IntKind.u64.max)) = true := h
  simp only [Bool.and_eq_true, decide_eq_true_eq] at h'
  have e1 : IntKind.u64.min = 0 := by decide
  have e2 : IntKind.u64.max = 18446744073709551615 := by decide
  omega
theorem i64_wf' {x : Int} (h : (Lit.int .i64 x).wf = true) : -9223372036854775808 ≤ x ∧ x ≤ 9223372036854775807 := by
  have h' : (decide (IntKind.i64.min ≤ x) && decide (x ≤ IntKind.i64.max)) = true := h
  simp only [Bool.and_eq_true, decide_eq_true_eq] at h'
  have e1 : IntKind.i64.min = -9223372036854775808 := by decide
  have e2 : IntKind.i64.max = 9223372036854775807 := by decide
  omega
theorem u8_wf' {x : Int} (h : (Lit.int .u8 x).wf = true) : 0 ≤ x ∧ x ≤ 255 := by
  have h' : (decide (IntKind.u8.min ≤ x) && decide (x ≤ IntKind.u8.max)) = true := h
  simp only [Bool.and_eq_true, decide_eq_true_eq] at h'
  have e1 : IntKind.u8.min = 0 := by decide
  have e2 : IntKind.u8.max = 255 := by decide
  omega

theorem add_block (a : Addr) (j : Nat) : (a.add j).block = a.block := by unfold Addr.add; split <;> rfl

theorem underlyingAct : ∃ f0 f1 f2 : Field, Try.prog.underlying 34 = some (.struct #[f0, f1, f2]) ∧ f0.type = 3 ∧ f1.type = 22 ∧ f2.type = 3 ∧ f0.offset = 0 ∧ f1.offset = 1 ∧ f2.offset = 2 := by
  refine ⟨_, _, _, Try.underlying34.trans rfl, ?_⟩
  exact ⟨rfl, rfl, rfl, rfl, rfl, rfl⟩
theorem cellsAct : Try.prog.cellsOf 34 = 3 := by kernel_rfl
theorem cells3 : Try.prog.cellsOf 3 = 1 := by kernel_rfl
theorem cells22 : Try.prog.cellsOf 22 = 1 := by kernel_rfl

theorem open_acts {H : Type} {enc : TypeId × Value → H} {W : World} {r : Reach} {b0 : Nat} {v : Value} {d : DataW H} {ps : List MemPlace} (hval : Value.okWide Try.prog W r b0 27 v) (hd : DataW.Trod enc Try.prog W 0 (fun _ => true) true 27 v d ps) :
    ∃ (A : Option Addr) (cap : Nat) (l : List (Int × Int × Int)), v = .slice A l.length cap ∧ Acts W A l := by
  obtain ⟨A, len, cap, rfl⟩ := okWide_slice Try.underlying27 hval
  obtain ⟨fuel, hf⟩ := hd
  simp only [Value.cells, List.toList_toArray] at hf
  rcases Deep.open_slice Try.underlying27 hf with ⟨h0, _⟩ | ⟨a, len', cap', m, n, D, Pl, h0, _, hl, hm, hmm, hx0, hx⟩
  · simp only [List.cons.injEq, Value.slice.injEq, and_true] at h0
    obtain ⟨rfl, rfl, rfl⟩ := h0
    exact ⟨none, 0, [], rfl, by simp, fun i x h => by simp at h⟩
  · simp only [List.cons.injEq, Value.slice.injEq, and_true] at h0
    obtain ⟨rfl, rfl, rfl⟩ := h0
    simp only [if_true] at hmm
    subst hmm
    obtain ⟨f0, f1, f2, hu, t0, t1, t2, o0, o1, o2⟩ := underlyingAct
    have hsp : 0 < len → a.spot = none := fun h => by
      obtain ⟨cs', h1, h2⟩ := hx 0 (by omega)
      rw [cellsAct] at h1
      obtain ⟨_, hlen, hcell⟩ := World.cells?_some h1
      have c0 := hcell 0 (by omega)
      match cs', hlen with
      | [v0, v1, v2], _ =>
        rw [Deep.add_add] at c0
        have e0 : a.add (0 * 3 + 0) = a := by simp [Addr.add]
        rw [e0] at c0
        exact World.cell?_spot c0
    have each : ∀ i, i < len → ∃ x : Int × Int × Int, ∃ b off, a = ⟨b, off, none⟩ ∧ b < W.heap.size ∧ W.cell? ⟨b, off + i * 3, none⟩ = some (.int .i64 x.1) ∧ W.cell? ⟨b, off + i * 3 + 1, none⟩ = some (.int .u64 x.2.1) ∧ W.cell? ⟨b, off + i * 3 + 2, none⟩ = some (.int .i64 x.2.2) ∧
        (0 ≤ x.2.1 ∧ x.2.1 < 18446744073709551616) ∧ (-9223372036854775808 ≤ x.2.2 ∧ x.2.2 ≤ 9223372036854775807) := by
      intro i hi
      obtain ⟨cs', h1, h2⟩ := hx i (by omega)
      rw [cellsAct] at h1
      obtain ⟨_, hlen, hcell⟩ := World.cells?_some h1
      obtain ⟨y0, y1, y2, k, _, _, g0, g1, g2⟩ := Deep.trod_struct3 hu h2
      rw [t0, o0, cells3] at g0
      rw [t1, o1, cells22] at g1
      rw [t2, o2, cells3] at g2
      match cs', hlen with
      | [v0, v1, v2], _ =>
        simp only [List.drop_zero, List.take_succ_cons, List.take_zero, List.drop_succ_cons] at g0 g1 g2
        obtain ⟨n0, e0, _, w0⟩ := DataW.trod_int Try.underlying3 g0
        obtain ⟨n1, e1, _, w1⟩ := DataW.trod_int Try.underlying22 g1
        obtain ⟨n2, e2, _, w2⟩ := DataW.trod_int Try.underlying3 g2
        simp only [List.cons.injEq, and_true] at e0 e1 e2
        subst e0 e1 e2
        have c0 := hcell 0 (by omega)
        have c1 := hcell 1 (by omega)
        have c2 := hcell 2 (by omega)
        rw [Deep.add_add] at c0 c1 c2
        simp only [List.getElem?_cons_zero, List.getElem?_cons_succ] at c0 c1 c2
        obtain ⟨b, off, o⟩ := a
        have hb : b < W.heap.size := by have := World.block_lt_of_cell? _ _ c0; rwa [add_block] at this
        have ho : o = none := hsp (by omega)
        subst ho
        have ad : ∀ j, (⟨b, off, none⟩ : Addr).add j = ⟨b, off + j, none⟩ := fun j => by unfold Addr.add; split <;> simp_all
        rw [ad] at c0 c1 c2
        have b1 := u64_wf' w1
        have b2 := i64_wf' w2
        exact ⟨(n0, n1, n2), b, off, rfl, hb, c0, c1, c2, by omega, by omega⟩
    obtain ⟨f, hfe⟩ := Deep.choose_lt each
    refine ⟨some a, m, (List.range len).map f, by simp, by simp; unfold maxLen at hm; omega, fun i x h => ?_⟩
    have hi : i < len := by
      have := (List.getElem?_eq_some_iff.1 h).1
      simpa using this
    obtain rfl : f i = x := by simpa [hi] using h
    obtain ⟨b, off, e, rest⟩ := hfe i hi
    exact ⟨b, off, by rw [e], rest⟩
end Go.Proofs.Ytdiepeomhnkgpaa
