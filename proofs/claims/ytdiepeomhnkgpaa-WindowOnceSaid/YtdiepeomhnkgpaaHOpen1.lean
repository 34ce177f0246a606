/- The book's Open where one window is open at most. -/
import Derived.Test.YtdiepeomhnkgpaaHCol
import Derived.Test.YtdiepeomhnkgpaaHAt
import Derived.Test.YtdiepeomhnkgpaaHOne
namespace Go.Proofs.Ytdiepeomhnkgpaa
open Go Go.Maps Go.RowKit Go.Sort Go.Shelf

set_option maxHeartbeats 1000000 in
/-- slices.Sorted over an iterator that gives one number. -/
theorem sorted_one (n : Nat) (hn : 5 ≤ n) (g : Nat) (lb : Array Value) (eg : ∀ args w, (callFunc g args).run Try.prog w = .ok (.enter g args) w)
    (S Sp : List Int → Prop) (N : Nat) (hN : N ≤ maxLen) (hNb : N * 8 ≤ 140737488355328) (h1 : ∀ ss, S ss → ss.length = 1) (w w0 : World) (hb0 : Below w0.heap.size w0 w) (hseq : SeqStops Fence.wide (n - 1 - 1 - 1) Try.prog g lb encU S Sp N w0) :
    CallsIn Fence.wide n Try.prog 34 #[.func (.func g) #[] lb] w fun e w' => ∃ (v : Value) (ss : List Int), e = .returned v ∧ S ss ∧
      (∃ A c, v = .slice A 1 c) ∧ w'.ownsRow w.heap.size 22 1 v 1 (ss.map encU) ∧ Below w.heap.size w w' := by
  have hn1 : 1 ≤ n := by omega
  have hf40 : Fence.wide.fn 40 := trivial
  have hf41 : Fence.wide.fn 41 := trivial
  have cC := fun W (hb : Below w0.heap.size w0 W) => collect_in Fence.wide (n - 1) trivial trivial rfl (by omega) g lb trivial eg S Sp N hN hNb W w0 hb hseq
  have cS : ∀ A c W, CallsIn Fence.wide (n - 1) Try.prog 41 #[.slice A 1 c] W fun e w' => e = .returned (.tuple #[]) ∧ W = w' := fun A c W => callsIn_wide.2 (sort_one A c W)
  refine callsIn_of_wp Try.func34 rfl trivial ?_ rfl
  simp only [Try.ntmps34, List.size_toArray, List.length_cons, List.length_nil, Nat.reduceAdd, Nat.reduceSub, Array.replicate_succ, Array.replicate_zero, List.push_toArray, List.append_toArray, List.nil_append, List.cons_append]
  gi_wp2_with (first
    | (gi_at_call 40; refine (cC _ hb0).mono ?_; rintro e w' ⟨v, ss, rfl, hS, hrow, hnil, hb⟩; rw [h1 ss hS] at hrow; obtain ⟨g', cap', rfl⟩ := ownsRow_succ hrow)
    | (gi_at_call 41; refine (cS _ _ _).mono ?_; rintro e w' ⟨rfl, rfl⟩))
  go_ret
  exact ⟨_, ss, rfl, hS, ⟨_, _, rfl⟩, hrow, hb⟩

set_option maxHeartbeats 1000000 in
theorem open_one {W : World} {g b nn : Nat} {wd lt most mk : Int} {p : Int × Int} (hB : IsBook W g b nn wd lt most mk [p]) :
    Calls Try.prog 15 #[.pointer (some ⟨g, 0, none⟩)] W fun e w' => ∃ A c, e = .returned (.slice A 1 c) ∧ Below W.heap.size W w' := by
  refine (callsIn_wide (n := 8)).1 ?_
  have c4 : W.cell? ⟨g, 4, none⟩ = some (.map (some b)) := cellOf hB.blk 4
  obtain ⟨hblk, D, hown, hr⟩ := hB
  have hsz : Maps.size D = 1 := hr.size
  have hbl := hown.lt
  have hseq := keys_stops Fence.wide 4 trivial rfl (by omega) W.heap.size b nn D (R := plainElem Try.prog 3) (W.alloc (.cells #[.map (some b)] 61)) (by simp) (by rw [cellOf (newBlk W _)]; rfl) (hown.alloc _)
  have cK := fun W' => keys_in Fence.wide 7 trivial rfl (some b) W'
  have cS := sorted_one 7 (by omega) 42 #[.pointer (some ⟨W.heap.size, 0, none⟩)] (enters_of Try.func42 (by kernel_rfl) rfl) _ _ (Maps.size D) (by rw [hsz]; decide) (by rw [hsz]; decide) (fun ss ⟨hnd, hk⟩ => by
    have hm : ∀ x, x ∈ ss ↔ x = p.1 := fun x => by rw [hk x, hr.keys x]; simp
    match ss, hnd, hm with
    | [], _, hm => exact absurd ((hm p.1).2 rfl) (by simp)
    | [x], _, _ => rfl
    | x :: y :: r, hnd, hm =>
      have e1 := (hm x).1 (by simp)
      have e2 := (hm y).1 (by simp)
      rw [e1, e2] at hnd
      simp at hnd) _ _ (Below.refl _ _) hseq
  have hfK : Fence.wide.fn 35 := trivial
  have hfS : Fence.wide.fn 34 := trivial
  clear hblk hown hr hsz hseq
  refine callsIn_of_wp Try.func15 rfl trivial ?_ rfl
  simp only [Try.ntmps15, List.size_toArray, List.length_cons, List.length_nil, Nat.reduceAdd, Nat.reduceSub, Array.replicate_succ, Array.replicate_zero, List.push_toArray, List.append_toArray, List.nil_append, List.cons_append]
  gi_wp2_with (first
    | (gi_at_call 35; refine (cK _).mono ?_; rintro e w' ⟨rfl, rfl⟩)
    | (gi_at_call 34; refine cS.mono ?_; rintro e w' ⟨_, ss, rfl, hS, ⟨A, c, rfl⟩, hrow, hb⟩))
  go_ret
  exact ⟨A, c, rfl, ((Below.refl _ W).alloc (Nat.le_refl _) _).trans (hb.mono (by simp))⟩
end Go.Proofs.Ytdiepeomhnkgpaa
