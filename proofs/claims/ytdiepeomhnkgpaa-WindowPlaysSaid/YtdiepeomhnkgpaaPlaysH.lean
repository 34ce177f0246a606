/- WindowPlays: taking all that is wanted. -/
import Derived.Test.YtdiepeomhnkgpaaPlaysG
import Derived.StillTailTactics
import Derived.Deep.RegionHeld3
namespace Go.Proofs.Ytdiepeomhnkgpaa
open Go.Proofs Go.Maps Go.RowKit Go.Sort Go.Shelf
set_option linter.unusedVariables false

theorem RowOf.cellAt {w : World} {base : Nat} {A : Option Addr} {n c : Nat} {ss : List Int} (h : RowOf w base .u64 22 (.slice A n c) ss) {j : Nat} {x : Int} (hj : ss[j]? = some x) : ∃ ga, A = some ⟨ga, 0, none⟩ ∧ w.cell? ⟨ga, j, none⟩ = some (.int .u64 x) := by
  obtain ⟨A', c', e, hf⟩ := ownsRow_form h
  cases e
  obtain ⟨ga, e1, _, hc⟩ := hf j (.int .u64 x) (by rw [List.getElem?_map, hj]; rfl)
  exact ⟨ga, e1, hc⟩

theorem RowOf.kept {w w' : World} {base : Nat} {k : IntKind} {e : Nat} {v : Value} {xs : List Int} {row : Option Nat} (h : RowOf w base k e v xs) (hg : w.grownBy w' row) (hne : v.ownBlock = none ∨ v.ownBlock ≠ row) : RowOf w' base k e v xs := World.ownsRow.kept h hg hne

theorem ks_filter_mem {pl : List (Int × Int)} {x y : Int} (h : y ∈ ks pl) (hne : y ≠ x) : y ∈ ks (pl.filter fun p => p.1 ≠ x) := by
  obtain ⟨p, hp, rfl⟩ := List.mem_map.1 h
  exact List.mem_map_of_mem (List.mem_filter.2 ⟨hp, by simpa using hne⟩)

/-- The loop that takes. -/
structure Tk (W0 : World) (g b R cx : Nat) (wd lt most : Int) (w : World) (k nn : Nat) (mk : Int) (pl : List (Int × Int)) (v1 v2 : Value) (vw : Value) (ss done rest : List Int) (cs : Array Value) : Prop where
  eq : ss = done ++ rest
  nodup : ss.Nodup
  st : Pl W0 g b R wd lt most w k nn mk pl v1 v2
  row : RowOf w W0.heap.size .u64 22 vw ss
  mem : ∀ x ∈ rest, x ∈ ks pl
  cx : w.heap[cx]? = some (.cells cs 34 (0, 0))

theorem Tk.find {W0 : World} {g b R cx : Nat} {wd lt most : Int} {w : World} {k nn : Nat} {mk : Int} {pl : List (Int × Int)} {v1 v2 vw : Value} {ss done rest : List Int} {x : Int} {cs : Array Value} (h : Tk W0 g b R cx wd lt most w k nn mk pl v1 v2 vw ss done (x :: rest) cs) :
    ∃ (j : Nat) (pv : Int), pl[j]? = some (x, pv) ∧ ss[done.length]? = some x := by
  obtain ⟨p, hp, e⟩ := List.mem_map.1 (h.mem x (by simp))
  obtain ⟨j, hj⟩ := List.getElem?_of_mem hp
  obtain ⟨a, pv⟩ := p
  dsimp only at e
  subst e
  exact ⟨j, pv, hj, by rw [h.eq]; simp⟩

theorem Tk.next {W0 : World} {g b R cx : Nat} {wd lt most : Int} {w w' : World} {k nn : Nat} {mk : Int} {pl pl' : List (Int × Int)} {v1 v2 v1' v2' vw : Value} {ss done rest : List Int} {x : Int} {cs : Array Value} (h : Tk W0 g b R cx wd lt most w k nn mk pl v1 v2 vw ss done (x :: rest) cs)
    (hp : Pl W0 g b R wd lt most w' k nn mk pl' v1' v2') (he : pl' = pl.filter fun p => p.1 ≠ x) (hr : RowOf w' W0.heap.size .u64 22 vw ss) (hc : w'.heap[cx]? = some (.cells cs 34 (0, 0))) : Tk W0 g b R cx wd lt most w' k nn mk pl' v1' v2' vw ss (done ++ [x]) rest cs := by
  refine ⟨by rw [h.eq]; simp, h.nodup, hp, hr, fun y hy => ?_, hc⟩
  rw [he]
  refine ks_filter_mem (h.mem y (List.mem_cons_of_mem _ hy)) ?_
  have hn := h.nodup
  rw [h.eq, List.nodup_append] at hn
  rintro rfl
  exact (List.nodup_cons.1 hn.2.1).1 hy
end Go.Proofs.Ytdiepeomhnkgpaa
