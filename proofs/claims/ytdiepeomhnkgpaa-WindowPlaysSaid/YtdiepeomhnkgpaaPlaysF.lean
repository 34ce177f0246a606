/- WindowPlays: what the law stores into the document's book. -/
import Derived.Test.YtdiepeomhnkgpaaPlaysC
namespace Go.Proofs.Ytdiepeomhnkgpaa
open Go.Proofs Go.Maps Go.RowKit Go.Sort Go.Shelf
set_option linter.unusedVariables false

theorem set_grown (w : World) (R j : Nat) (u : Value) : w.grownBy (w.setCell ⟨R, j, none⟩ u) (some R) := by
  refine ⟨rfl, rfl, rfl, by simp [World.setCell], fun i hi hne => ?_⟩
  have : R ≠ i := fun e => hne (by rw [e])
  simp [World.setCell, Array.getElem?_modify, this]

theorem set_block {w : World} {R t : Nat} {cs : Array Value} {fr : Nat × Nat} (h : w.heap[R]? = some (.cells cs t fr)) (j : Nat) (u : Value) : (w.setCell ⟨R, j, none⟩ u).heap[R]? = some (.cells (cs.setIfInBounds j u) t fr) := by
  simp [World.setCell, Array.getElem?_modify, h]

/-- The document's book stored whole. -/
theorem Rf.store {base R : Nat} {wd lt most mk : Int} {w : World} {c0 c1 c2 c3 c4 c5 v1 v2 : Value} {pl : List (Int × Int)} (hR : w.heap[R]? = some (.cells #[c0, c1, c2, c3, c4, c5] 45 (0, 0)))
    (r1 : RowOf w base .u64 22 v1 (ks pl)) (r2 : RowOf w base .i64 3 v2 (vsOf pl)) (hs : (ks pl).Pairwise (· < ·)) :
    Rf base R wd lt most ((((((w.setCell ⟨R, 0, none⟩ (.int .u64 wd)).setCell ⟨R, 1, none⟩ (.int .u64 lt)).setCell ⟨R, 2, none⟩ (.int .i64 most)).setCell ⟨R, 3, none⟩ (.int .u64 mk)).setCell ⟨R, 4, none⟩ v1).setCell ⟨R, 5, none⟩ v2) mk pl v1 v2 ∧
      w.grownBy ((((((w.setCell ⟨R, 0, none⟩ (.int .u64 wd)).setCell ⟨R, 1, none⟩ (.int .u64 lt)).setCell ⟨R, 2, none⟩ (.int .i64 most)).setCell ⟨R, 3, none⟩ (.int .u64 mk)).setCell ⟨R, 4, none⟩ v1).setCell ⟨R, 5, none⟩ v2) (some R) := by
  have g := (((((set_grown w R 0 (.int .u64 wd)).trans (set_grown _ R 1 (.int .u64 lt))).trans (set_grown _ R 2 (.int .i64 most))).trans (set_grown _ R 3 (.int .u64 mk))).trans (set_grown _ R 4 v1)).trans (set_grown _ R 5 v2)
  refine ⟨⟨?_, World.ownsRow.kept r1 g (.inr (row_ne_blk r1 hR (by decide))), World.ownsRow.kept r2 g (.inr (row_ne_blk r2 hR (by decide))), hs⟩, g⟩
  exact (set_block (set_block (set_block (set_block (set_block (set_block hR 0 _) 1 _) 2 _) 3 _) 4 _) 5 _)

/-- The mark alone. -/
theorem Rf.marked {base R : Nat} {wd lt most mk : Int} {w : World} {v1 v2 : Value} {pl : List (Int × Int)} (h : Rf base R wd lt most w mk pl v1 v2) (x : Int) :
    Rf base R wd lt most (w.setCell ⟨R, 3, none⟩ (.int .u64 x)) x pl v1 v2 ∧ w.grownBy (w.setCell ⟨R, 3, none⟩ (.int .u64 x)) (some R) := by
  have g := set_grown w R 3 (.int .u64 x)
  exact ⟨⟨set_block h.ref 3 _, World.ownsRow.kept h.r1 g (.inr (row_ne_blk h.r1 h.ref (by decide))), World.ownsRow.kept h.r2 g (.inr (row_ne_blk h.r2 h.ref (by decide))), h.rising⟩, g⟩

theorem RowOf.base {w : World} {base base' : Nat} {k : IntKind} {e : Nat} {v : Value} {xs : List Int} (h : RowOf w base k e v xs) (hb : base' ≤ base) : RowOf w base' k e v xs := ownsRow_base_u h hb

/-- The book's blocks are none of the document's. -/
theorem book_ne {base R g b nn : Nat} {wd lt most mk0 mk : Int} {w : World} {pl m : List (Int × Int)} {v1 v2 : Value} (h : Rf base R wd lt most w mk pl v1 v2) (hb : IsBook w g b nn wd lt most mk0 m) : g ≠ R ∧ b ≠ R := by
  obtain ⟨hblk, D, ⟨es, ck, hbb, _⟩, _⟩ := hb
  refine ⟨fun e => ?_, fun e => ?_⟩
  · subst e; have := h.ref; rw [hblk] at this; cases this
  · subst e; have := h.ref; rw [hbb] at this; cases this

/-- Past the book's At with a closure: what the closure wrote, then the map. -/
theorem Pl.mid {W0 : World} {g b R : Nat} {wd lt most : Int} {w W1 w2 : World} {k nn : Nat} {mk : Int} {pl : List (Int × Int)} {v1 v2 : Value} {ca : Nat} {cs : Array Value} (h : Pl W0 g b R wd lt most w k nn mk pl v1 v2)
    (ha0 : w.heap[ca]? = some (.cells cs 3 (0, 0))) (hca : W0.heap.size ≤ ca) (hR : R ≠ ca) (n1 : v1.ownBlock ≠ some ca) (n2 : v2.ownBlock ≠ some ca) (hg1 : w.grownBy W1 (some ca)) (hg2 : W1.grownBy w2 (some b)) :
    Below W0.heap.size W0 w2 ∧ Rf W0.heap.size R wd lt most w2 mk pl v1 v2 := by
  have hgb := h.gb
  have e1 : some g ≠ some ca := fun e => by cases e; have := h.book.blk; rw [ha0] at this; cases this
  have e2 : some b ≠ some ca := fun e => by
    cases e
    obtain ⟨_, D, ⟨es, ck, hbb, _⟩, _⟩ := h.book
    rw [ha0] at hbb; cases hbb
  have hb1 := h.book.kept hg1 e1 e2
  have r1 := h.rf.kept hg1 (by simpa using hR) (.inr n1) (.inr n2)
  have hB1 := h.below.grown hg1 h.below.size (fun j hj => by cases hj; exact hca)
  exact ⟨hB1.grown hg2 hB1.size (fun j hj => by cases hj; exact hgb.2.1), r1.map hb1 hg2⟩

/-- The state behind the document's book's storing. -/
theorem Pl.stored {W0 : World} {g b R : Nat} {wd lt most : Int} {w : World} {k nn base : Nat} {mk : Int} {pl m pl' : List (Int × Int)} {v1 v2 v1' v2' : Value} (hB : Below W0.heap.size W0 w) (hb : IsBook w g b nn wd lt most mk m) (hF : Fine wd lt mk) (gb : W0.heap.size ≤ g ∧ W0.heap.size ≤ b ∧ W0.heap.size ≤ R)
    (hR : Rf W0.heap.size R wd lt most w mk pl v1 v2) (r1 : RowOf w base .u64 22 v1' (ks pl')) (r2 : RowOf w base .i64 3 v2' (vsOf pl')) (hbase : W0.heap.size ≤ base) (hs : (ks pl').Pairwise (· < ·)) (hp : m.Perm pl') (h1 : nn ≤ k) (h2 : pl'.length ≤ k) :
    Pl W0 g b R wd lt most ((((((w.setCell ⟨R, 0, none⟩ (.int .u64 wd)).setCell ⟨R, 1, none⟩ (.int .u64 lt)).setCell ⟨R, 2, none⟩ (.int .i64 most)).setCell ⟨R, 3, none⟩ (.int .u64 mk)).setCell ⟨R, 4, none⟩ v1').setCell ⟨R, 5, none⟩ v2') k nn mk pl' v1' v2' ∧
      w.grownBy ((((((w.setCell ⟨R, 0, none⟩ (.int .u64 wd)).setCell ⟨R, 1, none⟩ (.int .u64 lt)).setCell ⟨R, 2, none⟩ (.int .i64 most)).setCell ⟨R, 3, none⟩ (.int .u64 mk)).setCell ⟨R, 4, none⟩ v1').setCell ⟨R, 5, none⟩ v2') (some R) := by
  have hne := book_ne hR hb
  obtain ⟨hst, hg⟩ := Rf.store (wd := wd) (lt := lt) (most := most) (mk := mk) hR.ref (r1.base hbase) (r2.base hbase) hs
  exact ⟨⟨hB.grown hg hB.size (fun j hj => by cases hj; exact gb.2.2), (hb.kept hg (by simpa using hne.1) (by simpa using hne.2)).perm hp, hF, gb, hst, h1, h2⟩, hg⟩

/-- Past what turns the book's map. -/
theorem Pl.turn {W0 : World} {g b R : Nat} {wd lt most : Int} {w w' : World} {k nn : Nat} {mk : Int} {pl : List (Int × Int)} {v1 v2 : Value} (h : Pl W0 g b R wd lt most w k nn mk pl v1 v2) (hg : w.grownBy w' (some b)) :
    Below W0.heap.size W0 w' ∧ Rf W0.heap.size R wd lt most w' mk pl v1 v2 :=
  ⟨h.below.grown hg h.below.size (fun j hj => by cases hj; exact h.gb.2.1), h.rf.map h.book hg⟩

/-- A number that is kept. -/
theorem Rf.vcell {base R : Nat} {wd lt most : Int} {w : World} {mk : Int} {pl : List (Int × Int)} {v1 : Value} {gv n c : Nat} (h : Rf base R wd lt most w mk pl v1 (.slice (some ⟨gv, 0, none⟩) n c)) {j : Nat} {x pv : Int} (hj : pl[j]? = some (x, pv)) : w.cell? ⟨gv, j, none⟩ = some (.int .i64 pv) := by
  have := World.ownsRow.cells h.r2 (g := gv) rfl j (.int .i64 pv) (by simp [vsOf, hj])
  have hadd : (⟨gv, 0, none⟩ : Addr).add j = ⟨gv, j, none⟩ := by unfold Addr.add; split <;> simp_all
  rwa [hadd] at this

theorem cx_ne {W0 : World} {g b R : Nat} {wd lt most : Int} {w : World} {k nn : Nat} {mk : Int} {pl : List (Int × Int)} {v1 v2 : Value} (h : Pl W0 g b R wd lt most w k nn mk pl v1 v2) {cx : Nat} {cs : Array Value} (hc : w.heap[cx]? = some (.cells cs 34 (0, 0))) : cx ≠ b ∧ cx ≠ R ∧ cx ≠ g := by
  refine ⟨fun e => ?_, fun e => ?_, fun e => ?_⟩
  · subst e
    obtain ⟨_, D, ⟨es, ck, hbb, _⟩, _⟩ := h.book
    rw [hc] at hbb; cases hbb
  · subst e; have h1 := h.rf.ref; rw [hc] at h1; cases h1
  · subst e; have h1 := h.book.blk; rw [hc] at h1; cases h1
end Go.Proofs.Ytdiepeomhnkgpaa
