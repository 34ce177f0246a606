/- The book's Seal: what is over at a mark, rising. -/
import Derived.Test.YtdiepeomhnkgpaaHOpen
import Derived.Test.YtdiepeomhnkgpaaLay
import Derived.BigRegion
namespace Go.Proofs.Ytdiepeomhnkgpaa
open Go.Proofs Go.Maps Go.RowKit Go.Sort Go.Shelf
set_option linter.unusedVariables false

theorem IsBook.ne {W : World} {g b nn : Nat} {wd lt most mk : Int} {m : List (Int × Int)} (h : IsBook W g b nn wd lt most mk m) : g ≠ b := by
  rintro rfl
  obtain ⟨hblk, D, ⟨es, clock, hb, _⟩, _⟩ := h
  rw [hblk] at hb
  cases hb

theorem IsBook.lt {W : World} {g b nn : Nat} {wd lt most mk : Int} {m : List (Int × Int)} (h : IsBook W g b nn wd lt most mk m) : g < W.heap.size ∧ b < W.heap.size := by
  obtain ⟨hblk, D, ⟨es, clock, hb, _⟩, _⟩ := h
  exact ⟨(Array.getElem?_eq_some_iff.1 hblk).1, (Array.getElem?_eq_some_iff.1 hb).1⟩

theorem IsBook.kept {W W' : World} {g b nn : Nat} {wd lt most mk : Int} {m : List (Int × Int)} {row : Option Nat} (h : IsBook W g b nn wd lt most mk m) (hg : W.grownBy W' row) (h1 : some g ≠ row) (h2 : some b ≠ row) : IsBook W' g b nn wd lt most mk m := by
  have hl := h.lt
  obtain ⟨hblk, D, hown, hr⟩ := h
  exact ⟨(hg.block g hl.1 h1).trans hblk, D, hown.kept hg h2, hr⟩

theorem IsBook.marked {W : World} {g b nn : Nat} {wd lt most mk : Int} {m : List (Int × Int)} (h : IsBook W g b nn wd lt most mk m) (x : Int) : IsBook (W.setCell ⟨g, 3, none⟩ (.int .u64 x)) g b nn wd lt most x m ∧ W.grownBy (W.setCell ⟨g, 3, none⟩ (.int .u64 x)) (some g) := by
  have hl := h.lt
  have hne := h.ne
  obtain ⟨hblk, D, hown, hr⟩ := h
  have hg : W.grownBy (W.setCell ⟨g, 3, none⟩ (.int .u64 x)) (some g) := by
    refine ⟨rfl, rfl, rfl, by simp [World.setCell], fun i hi hne => ?_⟩
    have : g ≠ i := fun e => hne (by rw [e])
    simp [World.setCell, Array.getElem?_modify, this]
  refine ⟨⟨?_, D, hown.kept hg (by intro e; cases e; exact hne rfl), hr⟩, hg⟩
  simp [World.setCell, Array.getElem?_modify, hblk]

/-- The element as the shelf's row has it: whatever the whole number, its remainder. -/
def encM (x : Int) : Value := .int .u64 (x % 18446744073709551616)

theorem seal1_calls {W : World} {g b nn : Nat} {wd lt most mk : Int} {m : List (Int × Int)} (hB : IsBook W g b nn wd lt most mk m) (hF : Fine wd lt mk) (B : Nat) (hc : W.cell? ⟨B, 0, none⟩ = some (.pointer (some ⟨g, 0, none⟩))) (x : Int) :
    FnGives Try.prog 33 #[.pointer (some ⟨B, 0, none⟩)] #[encM x] (.bool (!overB (x % 18446744073709551616) wd lt mk)) W := by
  have HV := Lib.hid (bover_calls hB hF (x % 18446744073709551616) (by omega) (by omega))
  show Calls Try.prog 33 #[.int .u64 (x % 18446744073709551616), .pointer (some ⟨B, 0, none⟩)] W _
  generalize x % 18446744073709551616 = y at HV ⊢
  clear hB hF
  go_enter Try.func33, Try.ntmps33
  go_wp2_with (go_at_call 31; refine HV.out.mono ?_; rintro e w' ⟨rfl, q, rfl⟩)
  go_ret
  exact ⟨rfl, _, rfl⟩


theorem encM_eq {x : Int} (h0 : 0 ≤ x) (h1 : x < 18446744073709551616) : encM x = encU x := by
  unfold encM encU; rw [Int.emod_eq_of_lt h0 h1]

theorem ownsRow_cut_u {w : World} {base g cap n : Nat} {e : TypeId} {os : Array Obj} {cur : Array Value} {enc : Int → Value} {ts : List Int} (hbase : base ≤ g) (hb : w.heap[g]? = some (.cells cur e (0, 0)))
    (k : Nat) (hk : k ≤ ts.length) (h1 : ts.length ≤ cap) (h2 : cap ≤ maxLen) (h3 : cur.size = cap * 1) :
    (grow (putRow enc (Sort.ahead w n) g 0 ts.toArray) os).ownsRow base e 1 (.slice (some ⟨g, 0, none⟩) k cap) k ((ts.take k).map enc) := by
  have hg : g < w.heap.size := (Array.getElem?_eq_some_iff.1 hb).1
  refine ⟨by simp; omega, .inr ⟨g, cap, putCells enc 0 ts.toArray cur, rfl, hbase, ?_, by omega, h2, by simp [putCells, h3], ?_⟩⟩
  · rw [heap_grow_old _ _ (by simpa using hg)]
    simp [putRow, mapBlock, Sort.ahead, Array.getElem?_modify, hb, onCells]
  · rw [Nat.mul_one]
    apply List.ext_getElem?
    intro j
    by_cases hj : j < k
    · rw [List.getElem?_take_of_lt hj, Array.getElem?_toList]
      have : j < ts.length := by omega
      simp [putCells, this, show j < cur.size by omega, List.getElem?_take_of_lt hj]
    · rw [List.getElem?_take_eq_none (by omega), List.getElem?_eq_none (by simp; omega)]

theorem grownBy_sorted_e {w : World} {g n : Nat} {os : Array Obj} {enc : Int → Value} (d : Array Int) : w.grownBy (grow (putRow enc (Sort.ahead w n) g 0 d) os) (some g) := by
  refine ⟨rfl, rfl, rfl, by simp, fun k hk hne => ?_⟩
  rw [heap_grow_old _ _ (by simpa using hk)]
  have : g ≠ k := fun e => hne (by rw [e])
  simp [putRow, mapBlock, Sort.ahead, Array.getElem?_modify, this]

theorem cell_of_block {W : World} {g t : Nat} {cs : Array Value} {fr : Nat × Nat} (h : W.heap[g]? = some (.cells cs t fr)) (j : Nat) : W.cell? ⟨g, j, none⟩ = cs[j]? := by
  simp [World.cell?, h]

theorem index_nil (f : Value) (W : World) : Calls Try.prog 39 #[.slice none 0 0, f] W fun e w' => e = .returned (.int .i64 (-1)) ∧ W = w' := by
  go_enter Try.func39, Try.ntmps39
  go_wp2
  refine wp_loop_rounds 1 ?_
  rw [rounds_succ]
  go_wp2
  go_ret
  exact ⟨rfl, rfl⟩
theorem cut_nil (f : Value) (W : World) : Calls Try.prog 32 #[.slice none 0 0, f] W fun e w' => e = .returned (.slice none 0 0) ∧ W = w' := by
  have H := Lib.hid (index_nil f W)
  go_enter Try.func32, Try.ntmps32
  go_wp2_with (go_at_call 39; refine H.out.mono ?_; rintro e w' ⟨rfl, rfl⟩)
  go_ret
  exact ⟨rfl, rfl⟩

/-- DeleteFunc at a row that the callee owns, with the closure. -/
theorem cut_calls {W : World} {base g b nn : Nat} {wd lt most mk : Int} {m : List (Int × Int)} (hB : IsBook W g b nn wd lt most mk m) (hF : Fine wd lt mk) (B : Nat) (hb : W.heap[B]? = some (.cells #[.pointer (some ⟨g, 0, none⟩)] 28 (0, 0)))
    (v : Value) (ss : List Int) (hss : ∀ x ∈ ss, 0 ≤ x ∧ x < 18446744073709551616) (hl : ss.length ≤ 1000000) (hv : W.ownsRow base 22 1 v ss.length (ss.map encU)) (hbase : g < base ∧ b < base ∧ B < base) :
    Calls Try.prog 32 #[v, .func (.func 33) #[] #[.pointer (some ⟨B, 0, none⟩)]] W fun e w' => ∃ v', e = .returned v' ∧ w'.ownsRow base 22 1 v' (ss.filter fun x => overB x wd lt mk).length ((ss.filter fun x => overB x wd lt mk).map encU) ∧ W.grownBy w' v.ownBlock := by
  have eg : ∀ args w, (callFunc 33 args).run Try.prog w = .ok (.enter 33 args) w := enters_of Try.func33 (by kernel_rfl) rfl
  have hBl : B < W.heap.size := (Array.getElem?_eq_some_iff.1 hb).1
  have hp : PredAt Try.prog 33 #[.pointer (some ⟨B, 0, none⟩)] encM (fun x => !overB (x % 18446744073709551616) wd lt mk) W := fun W' x hb' =>
    seal1_calls (hB.below hb') hF B (by rw [cell_of_block ((hb'.block B hBl).trans hb)]; rfl) x
  have hmap : ss.map encU = ss.map encM := List.map_congr_left fun x hx => (encM_eq (hss x hx).1 (hss x hx).2).symm
  have hfil : (ss.filter fun x => overB x wd lt mk) = ss.filter fun x => !(!overB (x % 18446744073709551616) wd lt mk) := List.filter_congr fun x hx => by
    rw [Int.emod_eq_of_lt (hss x hx).1 (hss x hx).2, Bool.not_not]
  have hmap2 : (ss.filter fun x => overB x wd lt mk).map encU = (ss.filter fun x => overB x wd lt mk).map encM := List.map_congr_left fun x hx => by
    have := hss x (List.mem_filter.1 hx).1
    exact (encM_eq this.1 this.2).symm
  rw [hmap2, hfil]
  rw [hmap] at hv
  rcases hv.2 with ⟨rfl, hz⟩ | ⟨gb, cap, cur, rfl, hgb0, hgb, r1, r2, r3, r4⟩
  · obtain rfl : ss = [] := List.eq_nil_of_length_eq_zero hz
    refine (cut_nil _ W).mono ?_
    rintro e w' ⟨rfl, rfl⟩
    exact ⟨_, rfl, World.ownsRow_nil _ _ _ _, World.grownBy.refl _ _⟩
  · have hgl : gb < W.heap.size := (Array.getElem?_eq_some_iff.1 hgb).1
    have hH : Holds encM W gb 0 ss.toArray := by
      intro j hj
      have hj' : j < ss.length := by simpa using hj
      refine ⟨?_, by simp [World.frozen?, hgb]⟩
      have h1 : (cur.toList.take ss.length)[j]? = (ss.map encM)[j]? := by rw [← r4, Nat.mul_one]
      rw [List.getElem?_take_of_lt hj'] at h1
      simp only [World.cell?, hgb, Nat.zero_add]
      simp only [Option.isSome_none, Bool.false_eq_true, if_false]
      rw [← Array.getElem?_toList, h1]
      simp [hj']
    have hpo : PredOver Try.prog 33 #[.pointer (some ⟨B, 0, none⟩)] encM (fun x => !overB (x % 18446744073709551616) wd lt mk) gb 0 ss.toArray.size W := fun n os dk x hs => by
      have hg : W.grownBy (grow (putRow encM (Sort.ahead W n) gb 0 dk) os) (some gb) := grownBy_sorted_e dk
      have hne : ∀ k, k < base → some k ≠ some gb := fun k hk e => by cases e; omega
      exact seal1_calls (hB.kept hg (hne _ hbase.1) (hne _ hbase.2.1)) hF B (by
        show (grow (putRow encM (Sort.ahead W n) gb 0 dk) os).cell? _ = _
        rw [cell_of_block ((hg.block B hBl (hne _ hbase.2.2)).trans hb)]; rfl) x
    have hD := AnyE.slices_DeleteFunc Try.l32 encM (fun _ => rfl) (fun x => !overB (x % 18446744073709551616) wd lt mk) 33 #[.pointer (some ⟨B, 0, none⟩)] eg 0 Try.zeroValue22 gb 0 cap ss.toArray W hp hpo hH (by simp; omega) (by simpa using r1)
    change Calls Try.prog 32 _ _ _ at hD
    simp only [List.size_toArray] at hD
    refine hD.mono ?_
    rintro e w' ⟨rfl, q, rfl⟩
    refine ⟨_, rfl, ?_, grownBy_sorted_e (os := #[]) _⟩
    have hle := List.length_filter_le (fun x => !(!overB (x % 18446744073709551616) wd lt mk)) ss
    have := ownsRow_cut_u (n := q) (os := #[]) (enc := encM) (ts := (ss.filter fun x => !(!overB (x % 18446744073709551616) wd lt mk)) ++ List.replicate (ss.length - (ss.filter fun x => !(!overB (x % 18446744073709551616) wd lt mk)).length) 0) hgb0 hgb (ss.filter fun x => !(!overB (x % 18446744073709551616) wd lt mk)).length (by rw [List.length_append]; omega) (by rw [List.length_append, List.length_replicate]; omega) r2 r3
    rw [List.take_left' rfl, grow_empty] at this
    exact this

set_option maxHeartbeats 1000000 in
theorem seal_calls {W : World} {g b nn : Nat} {wd lt most mk : Int} {m : List (Int × Int)} (hB : IsBook W g b nn wd lt most mk m) (hF : Fine wd lt mk) (x : Int) (hx0 : 0 ≤ x) (hx : x < 18446744073709551616) (hm : m.length ≤ 1000000)
    (hk : ∀ y ∈ keysOf m, 0 ≤ y ∧ y < 18446744073709551616) :
    Calls Try.prog 13 #[.pointer (some ⟨g, 0, none⟩), .int .u64 x] W fun e w' => ∃ v, e = .returned v ∧ w'.ownsRow W.heap.size 22 1 v ((keysOf m).filter fun y => overB y wd lt (max mk x)).length (((keysOf m).filter fun y => overB y wd lt (max mk x)).map encU) ∧
      IsBook w' g b nn wd lt most (max mk x) m ∧ W.grownBy w' (some g) := by
  have hlt := hB.lt
  have hne := hB.ne
  have c3 : W.cell? ⟨g, 3, none⟩ = some (.int .u64 mk) := cellOf hB.blk 3
  have f3 : W.frozen? ⟨g, 3, none⟩ = false := freeOf hB.blk 3
  replace hk := Lib.hid hk
  have hmk : 0 ≤ max mk x ∧ max mk x < 18446744073709551616 := by have := hF.m0; have := hF.m1; omega
  have hF2 : Fine wd lt (max mk x) := ⟨hF.w0, hF.w1, hF.l0, hF.l1, hmk.1, hmk.2⟩
  have hM := hB.marked (max mk x)
  generalize hmx : max mk x = mx at hM hF2 ⊢
  have hs1 : (W.setCell ⟨g, 3, none⟩ (.int .u64 mx)).heap.size = W.heap.size := by simp [World.setCell]
  have hW2 : ∀ W2, W2 = ((W.setCell ⟨g, 3, none⟩ (.int .u64 mx)).alloc (.cells #[.pointer (some ⟨g, 0, none⟩)] 28)).drew → IsBook W2 g b nn wd lt most mx m ∧ W.grownBy W2 (some g) ∧ W2.heap[W.heap.size]? = some (.cells #[.pointer (some ⟨g, 0, none⟩)] 28 (0, 0)) ∧ W2.heap.size = W.heap.size + 1 ∧ W2.cell? ⟨W.heap.size, 0, none⟩ = some (.pointer (some ⟨g, 0, none⟩)) := by
    rintro W2 rfl
    have e0 : ((W.setCell ⟨g, 3, none⟩ (.int .u64 mx)).alloc (.cells #[.pointer (some ⟨g, 0, none⟩)] 28)).heap[W.heap.size]? = some (.cells #[.pointer (some ⟨g, 0, none⟩)] 28 (0, 0)) := by
      rw [← hs1]; exact newBlk _ _
    refine ⟨(hM.1.kept (World.grownBy_alloc _ _ none) (by simp) (by simp)).drewN 1, ?_, e0, by simp [World.drew, hs1], cell_of_block e0 0⟩
    exact hM.2.trans ⟨rfl, rfl, rfl, by simp [World.drew], fun i hi _ => by show ((W.setCell _ _).heap.push _)[i]? = _; rw [Array.getElem?_push_lt hi, Array.getElem?_eq_getElem hi]⟩
  have HW := Lib.hid hW2
  have HO := fun W2 (h : IsBook W2 g b nn wd lt most mx m) => Lib.hid (open_calls h hm)
  clear hB hM hW2 hs1 hmk hF
  go_enter Try.func13, Try.ntmps13
  go_wp2
  go_region
  generalize hW2 : World.drew _ = W2
  obtain ⟨k1, k2, k3, k4, k5⟩ := HW.out W2 hW2.symm
  clear hW2 c3 f3
  go_wp2_with (go_at_call 15; refine (HO W2 k1).out.mono ?_; rintro e W3 ⟨v, rfl, hv, hb3⟩)
  have hcut := cut_calls (k1.below hb3) hF2 W.heap.size ((hb3.block W.heap.size (by omega)).trans k3) v (keysOf m) hk.out (by unfold keysOf; simpa using hm) hv (by omega)
  have c5 : W3.cell? ⟨W.heap.size, 0, none⟩ = some (.pointer (some ⟨g, 0, none⟩)) := cell_of_block ((hb3.block W.heap.size (by omega)).trans k3) 0
  have HC := Lib.hid hcut
  have HV := Lib.hid hv
  clear hcut hv
  go_wp2_with (go_at_call 32; refine HC.out.mono ?_; rintro e W4 ⟨v4, rfl, hv4, hg4⟩)
  go_ret
  have hvb : ∀ k, v.ownBlock = some k → W2.heap.size ≤ k := fun k hk => (HV.out.lt k hk).1
  have hg3 : W2.grownBy W3 none := ⟨hb3.os, hb3.tape, hb3.output, hb3.size, fun i hi _ => hb3.block i hi⟩
  have hne1 : ∀ k, k < W2.heap.size → some k ≠ v.ownBlock := fun k hk e => by have := hvb k e.symm; omega
  refine ⟨v4, rfl, ownsRow_base_u hv4 (by omega), (k1.below hb3).kept hg4 (hne1 _ (by omega)) (hne1 _ (by omega)), (k2.andThen hg3 (by simp)).andThen hg4 (fun j hj => .inl (by have := hvb j hj; omega))⟩
end Go.Proofs.Ytdiepeomhnkgpaa
