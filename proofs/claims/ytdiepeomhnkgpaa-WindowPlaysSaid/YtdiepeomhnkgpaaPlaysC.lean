/- WindowPlays: the state of the loop. -/
import Derived.Test.YtdiepeomhnkgpaaPlaysB
namespace Go.Proofs.Ytdiepeomhnkgpaa
open Go.Proofs Go.Maps Go.RowKit Go.Sort Go.Shelf
set_option linter.unusedVariables false

theorem IsBook.perm {W : World} {g b nn : Nat} {wd lt most mk : Int} {m m' : List (Int × Int)} (h : IsBook W g b nn wd lt most mk m) (hp : m.Perm m') : IsBook W g b nn wd lt most mk m' := by
  obtain ⟨hblk, D, hown, hr⟩ := h
  exact ⟨hblk, D, hown, rep_perm hr hp⟩

theorem keysOf_rising {pl : List (Int × Int)} (h : (ks pl).Pairwise (· < ·)) : keysOf pl = ks pl := by
  unfold keysOf
  exact List.mergeSort_of_pairwise (h.imp fun h => by simp; omega)

theorem nodup_rising {pl : List (Int × Int)} (h : (ks pl).Pairwise (· < ·)) : (ks pl).Nodup := h.imp fun h => by omega

theorem rising_filter {pl : List (Int × Int)} (h : (ks pl).Pairwise (· < ·)) (f : Int × Int → Bool) : (ks (pl.filter f)).Pairwise (· < ·) := h.sublist ((List.filter_sublist).map _)

theorem row_ne_blk {w : World} {base e : Nat} {v : Value} {n : Nat} {xs : List Value} (h : w.ownsRow base e 1 v n xs) {B t : Nat} {cs : Array Value} {fr : Nat × Nat} (hb : w.heap[B]? = some (.cells cs t fr)) (ht : t ≠ e) : v.ownBlock ≠ some B := by
  intro e1
  rcases h.2 with ⟨rfl, _⟩ | ⟨g, cap, cur, rfl, _, hg, _⟩
  · simp [Value.ownBlock] at e1
  · simp [Value.ownBlock] at e1
    subst e1
    rw [hg] at hb
    cases hb
    exact ht rfl
theorem row_ne_map {w : World} {base e : Nat} {v : Value} {n : Nat} {xs : List Value} (h : w.ownsRow base e 1 v n xs) {B : Nat} {es : Array MapEntry} {ck : Nat} (hb : w.heap[B]? = some (.map es ck)) : v.ownBlock ≠ some B := by
  intro e1
  rcases h.2 with ⟨rfl, _⟩ | ⟨g, cap, cur, rfl, _, hg, _⟩
  · simp [Value.ownBlock] at e1
  · simp [Value.ownBlock] at e1
    subst e1
    rw [hg] at hb
    cases hb

/-- The document's book, in the law's own variable. -/
structure Rf (base R : Nat) (wd lt most : Int) (w : World) (mk : Int) (pl : List (Int × Int)) (v1 v2 : Value) : Prop where
  ref : w.heap[R]? = some (.cells #[.int .u64 wd, .int .u64 lt, .int .i64 most, .int .u64 mk, v1, v2] 45 (0, 0))
  r1 : RowOf w base .u64 22 v1 (ks pl)
  r2 : RowOf w base .i64 3 v2 (vsOf pl)
  rising : (ks pl).Pairwise (· < ·)

theorem Rf.lt {base R : Nat} {wd lt most : Int} {w : World} {mk : Int} {pl : List (Int × Int)} {v1 v2 : Value} (h : Rf base R wd lt most w mk pl v1 v2) : R < w.heap.size := (Array.getElem?_eq_some_iff.1 h.ref).1

theorem Rf.kept {base R : Nat} {wd lt most : Int} {w w' : World} {mk : Int} {pl : List (Int × Int)} {v1 v2 : Value} {row : Option Nat} (h : Rf base R wd lt most w mk pl v1 v2) (hg : w.grownBy w' row) (h0 : some R ≠ row) (h1 : v1.ownBlock = none ∨ v1.ownBlock ≠ row) (h2 : v2.ownBlock = none ∨ v2.ownBlock ≠ row) : Rf base R wd lt most w' mk pl v1 v2 :=
  ⟨(hg.block R h.lt h0).trans h.ref, World.ownsRow.kept h.r1 hg h1, World.ownsRow.kept h.r2 hg h2, h.rising⟩

theorem Rf.old {base R : Nat} {wd lt most : Int} {w w' : World} {mk : Int} {pl : List (Int × Int)} {v1 v2 : Value} (h : Rf base R wd lt most w mk pl v1 v2) (hg : w.grownBy w' none) : Rf base R wd lt most w' mk pl v1 v2 :=
  h.kept hg (by simp) (by cases v1.ownBlock <;> simp) (by cases v2.ownBlock <;> simp)

/-- .. past what turns the book's own block. -/
theorem Rf.book {base R g b nn : Nat} {wd lt most mk0 : Int} {w w' : World} {mk : Int} {pl m : List (Int × Int)} {v1 v2 : Value} (h : Rf base R wd lt most w mk pl v1 v2) (hb : IsBook w g b nn wd lt most mk0 m) (hg : w.grownBy w' (some g)) : Rf base R wd lt most w' mk pl v1 v2 :=
  h.kept hg (fun e => by cases e; have h1 := h.ref; rw [hb.blk] at h1; cases h1) (.inr (row_ne_blk h.r1 hb.blk (by decide))) (.inr (row_ne_blk h.r2 hb.blk (by decide)))
/-- .. past what turns the book's map. -/
theorem Rf.map {base R g b nn : Nat} {wd lt most mk0 : Int} {w w' : World} {mk : Int} {pl m : List (Int × Int)} {v1 v2 : Value} (h : Rf base R wd lt most w mk pl v1 v2) (hb : IsBook w g b nn wd lt most mk0 m) (hg : w.grownBy w' (some b)) : Rf base R wd lt most w' mk pl v1 v2 := by
  obtain ⟨_, D, ⟨es, ck, hbb, _⟩, _⟩ := hb
  exact h.kept hg (fun e => by cases e; have h1 := h.ref; rw [hbb] at h1; cases h1) (.inr (row_ne_map h.r1 hbb)) (.inr (row_ne_map h.r2 hbb))

/-- The state of the law's loop. -/
structure Pl (W0 : World) (g b R : Nat) (wd lt most : Int) (w : World) (k nn : Nat) (mk : Int) (pl : List (Int × Int)) (v1 v2 : Value) : Prop where
  below : Below W0.heap.size W0 w
  book : IsBook w g b nn wd lt most mk pl
  fine : Fine wd lt mk
  gb : W0.heap.size ≤ g ∧ W0.heap.size ≤ b ∧ W0.heap.size ≤ R
  rf : Rf W0.heap.size R wd lt most w mk pl v1 v2
  nn : nn ≤ k
  cnt : pl.length ≤ k

theorem Pl.old {W0 : World} {g b R : Nat} {wd lt most : Int} {w w' : World} {k nn : Nat} {mk : Int} {pl : List (Int × Int)} {v1 v2 : Value} (h : Pl W0 g b R wd lt most w k nn mk pl v1 v2) (hg : w.grownBy w' none) : Pl W0 g b R wd lt most w' k nn mk pl v1 v2 :=
  ⟨h.below.grown hg h.below.size (by simp), h.book.kept hg (by simp) (by simp), h.fine, h.gb, h.rf.old hg, h.nn, h.cnt⟩
/-- The cells of the document's book. -/
theorem Rf.cells {base R : Nat} {wd lt most : Int} {w : World} {mk : Int} {pl : List (Int × Int)} {v1 v2 : Value} (h : Rf base R wd lt most w mk pl v1 v2) :
    w.cell? ⟨R, 0, none⟩ = some (.int .u64 wd) ∧ w.cell? ⟨R, 1, none⟩ = some (.int .u64 lt) ∧ w.cell? ⟨R, 2, none⟩ = some (.int .i64 most) ∧ w.cell? ⟨R, 3, none⟩ = some (.int .u64 mk) ∧ w.cell? ⟨R, 4, none⟩ = some v1 ∧ w.cell? ⟨R, 5, none⟩ = some v2 :=
  ⟨cell_of_block h.ref 0, cell_of_block h.ref 1, cell_of_block h.ref 2, cell_of_block h.ref 3, cell_of_block h.ref 4, cell_of_block h.ref 5⟩

theorem drew_grown (w : World) (q : Nat) (row : Option Nat) : w.grownBy (w.drewN q) row := ⟨rfl, rfl, rfl, Nat.le_refl _, fun _ _ _ => rfl⟩

theorem Pl.later {W0 : World} {g b R : Nat} {wd lt most : Int} {w : World} {k nn : Nat} {mk : Int} {pl : List (Int × Int)} {v1 v2 : Value} (h : Pl W0 g b R wd lt most w k nn mk pl v1 v2) : Pl W0 g b R wd lt most w (k + 1) nn mk pl v1 v2 :=
  ⟨h.below, h.book, h.fine, h.gb, h.rf, by have := h.nn; omega, by have := h.cnt; omega⟩
end Go.Proofs.Ytdiepeomhnkgpaa
