/- WindowPlays: what is sealed, and what is wanted. -/
import Derived.Test.YtdiepeomhnkgpaaPlaysF
namespace Go.Proofs.Ytdiepeomhnkgpaa
open Go.Proofs Go.Maps Go.RowKit Go.Sort Go.Shelf
set_option linter.unusedVariables false

theorem ne_or {v : Value} {row : Option Nat} (h : row = none) : v.ownBlock = none ∨ v.ownBlock ≠ row := by
  subst h; cases v.ownBlock <;> simp

/-- The law's state, what Seal answered, and what is wanted. -/
structure Sw (W0 : World) (g b R : Nat) (wd lt most : Int) (w : World) (k nn : Nat) (mk : Int) (pl : List (Int × Int)) (v1 v2 : Value) (vs : Value) (ss : List Int) (vw : Value) (ws : List Int) : Prop where
  pl : Pl W0 g b R wd lt most w k nn mk pl v1 v2
  srow : RowOf w W0.heap.size .u64 22 vs ss
  wrow : RowOf w W0.heap.size .u64 22 vw ws
  a1 : v1.ownBlock = none ∨ v1.ownBlock ≠ vw.ownBlock
  a2 : v2.ownBlock = none ∨ v2.ownBlock ≠ vw.ownBlock
  a3 : vs.ownBlock = none ∨ vs.ownBlock ≠ vw.ownBlock

theorem Pl.past {W0 : World} {g b R : Nat} {wd lt most : Int} {w w' : World} {k nn : Nat} {mk : Int} {pl : List (Int × Int)} {v1 v2 vw : Value} {n : Nat} {xs : List Value} (h : Pl W0 g b R wd lt most w k nn mk pl v1 v2) (hw : w.ownsRow W0.heap.size 22 1 vw n xs)
    (a1 : v1.ownBlock = none ∨ v1.ownBlock ≠ vw.ownBlock) (a2 : v2.ownBlock = none ∨ v2.ownBlock ≠ vw.ownBlock) (hg : w.grownBy w' vw.ownBlock) : Pl W0 g b R wd lt most w' k nn mk pl v1 v2 := by
  have e1 : some g ≠ vw.ownBlock := fun e => row_ne_blk hw h.book.blk (by decide) e.symm
  have e2 : some b ≠ vw.ownBlock := fun e => by
    obtain ⟨_, D, ⟨es, ck, hbb, _⟩, _⟩ := h.book
    exact row_ne_map hw hbb e.symm
  have e3 : some R ≠ vw.ownBlock := fun e => row_ne_blk hw h.rf.ref (by decide) e.symm
  exact ⟨h.below.grown hg h.below.size (fun j hj => (hw.lt j hj).1), h.book.kept hg e1 e2, h.fine, h.gb, h.rf.kept hg e3 a1 a2, h.nn, h.cnt⟩

theorem Sw.old {W0 : World} {g b R : Nat} {wd lt most : Int} {w w' : World} {k nn : Nat} {mk : Int} {pl : List (Int × Int)} {v1 v2 vs vw : Value} {ss ws : List Int} (h : Sw W0 g b R wd lt most w k nn mk pl v1 v2 vs ss vw ws) (hg : w.grownBy w' none) : Sw W0 g b R wd lt most w' k nn mk pl v1 v2 vs ss vw ws :=
  ⟨h.pl.old hg, World.ownsRow.kept h.srow hg (ne_or rfl), World.ownsRow.kept h.wrow hg (ne_or rfl), h.a1, h.a2, h.a3⟩

theorem Sw.grow {W0 : World} {g b R : Nat} {wd lt most : Int} {w w' : World} {k nn : Nat} {mk : Int} {pl : List (Int × Int)} {v1 v2 vs vw vw' : Value} {ss ws : List Int} (h : Sw W0 g b R wd lt most w k nn mk pl v1 v2 vs ss vw ws) (hg : w.grownBy w' vw.ownBlock) (x : Int)
    (hown : w'.ownsRow W0.heap.size 22 1 vw' (ws.length + 1) (ws.map (Value.int .u64) ++ [.int .u64 x])) (hat : vw'.ownBlock = vw.ownBlock ∨ ∃ j, vw'.ownBlock = some j ∧ w.heap.size ≤ j) : Sw W0 g b R wd lt most w' k nn mk pl v1 v2 vs ss vw' (ws ++ [x]) := by
  have apart : ∀ (v : Value) (e : Nat) (n : Nat) (xs : List Value), w.ownsRow W0.heap.size e 1 v n xs → (v.ownBlock = none ∨ v.ownBlock ≠ vw.ownBlock) → (v.ownBlock = none ∨ v.ownBlock ≠ vw'.ownBlock) := fun v e n xs hv ha => by
    rcases hat with e | ⟨j, e, hj⟩
    · rw [e]; exact ha
    · rw [e]
      cases hb : v.ownBlock with
      | none => exact .inl rfl
      | some k => exact .inr (fun e => by cases e; have := (hv.lt _ hb).2; omega)
  refine ⟨h.pl.past h.wrow h.a1 h.a2 hg, World.ownsRow.kept h.srow hg h.a3, ?_, apart _ _ _ _ h.pl.rf.r1 h.a1, apart _ _ _ _ h.pl.rf.r2 h.a2, apart _ _ _ _ h.srow h.a3⟩
  show w'.ownsRow _ _ _ _ _ _
  simpa using hown

/-- The head of m.W's cells. -/
theorem Rf.wcell {base R : Nat} {wd lt most : Int} {w : World} {mk : Int} {pl : List (Int × Int)} {v1 v2 : Value} (h : Rf base R wd lt most w mk pl v1 v2) : ∃ A c, v1 = .slice A pl.length c ∧ ∀ j x, (ks pl)[j]? = some x → ∃ gw, A = some ⟨gw, 0, none⟩ ∧ w.cell? ⟨gw, j, none⟩ = some (.int .u64 x) := by
  obtain ⟨A, c, e, hf⟩ := ownsRow_form h.r1
  refine ⟨A, c, by rw [e]; simp [ks], fun j x hj => ?_⟩
  obtain ⟨gw, e1, _, hc⟩ := hf j (.int .u64 x) (by rw [List.getElem?_map, hj]; rfl)
  exact ⟨gw, e1, hc⟩

/-- Behind Seal and the mark. -/
theorem Sw.start {W0 : World} {g b R : Nat} {wd lt most : Int} {w w2 : World} {k nn : Nat} {mk mk2 : Int} {pl : List (Int × Int)} {v1 v2 vs : Value} {ss : List Int} (h : Pl W0 g b R wd lt most w k nn mk pl v1 v2) (hg : w.grownBy w2 (some g)) (hb : IsBook w2 g b nn wd lt most mk2 pl) (hF : Fine wd lt mk2)
    (hs : w2.ownsRow w.heap.size 22 1 vs ss.length (ss.map encU)) :
    Sw W0 g b R wd lt most (w2.setCell ⟨R, 3, none⟩ (.int .u64 mk2)) k nn mk2 pl v1 v2 vs ss (.slice none 0 0) [] := by
  have hB2 := h.below.grown hg h.below.size (fun j hj => by cases hj; exact h.gb.1)
  have hR2 := h.rf.book h.book hg
  obtain ⟨hR3, hg3⟩ := hR2.marked mk2
  have hne := book_ne hR2 hb
  have hs' : w2.ownsRow W0.heap.size 22 1 vs ss.length (ss.map (Value.int .u64)) := ownsRow_base_u hs h.below.size
  exact ⟨⟨hB2.grown hg3 hB2.size (fun j hj => by cases hj; exact h.gb.2.2), hb.kept hg3 (by simpa using hne.1) (by simpa using hne.2), hF, h.gb, hR3, h.nn, h.cnt⟩, World.ownsRow.kept hs' hg3 (.inr (row_ne_blk hs' hR2.ref (by decide))), World.ownsRow_nil _ _ _ _, ne_or rfl, ne_or rfl, ne_or rfl⟩

theorem Rf.wcell' {base R : Nat} {wd lt most : Int} {w : World} {mk : Int} {pl : List (Int × Int)} {A : Option Addr} {n c : Nat} {v2 : Value} (h : Rf base R wd lt most w mk pl (.slice A n c) v2) {j : Nat} {x : Int} (hj : (ks pl)[j]? = some x) : ∃ gw, A = some ⟨gw, 0, none⟩ ∧ w.cell? ⟨gw, j, none⟩ = some (.int .u64 x) := by
  obtain ⟨A', c', e, hf⟩ := h.wcell
  cases e
  exact hf j x hj

theorem filter_snoc {l : List Int} {j : Nat} {x : Int} (hx : l[j]? = some x) (p : Int → Bool) : (l.take (j + 1)).filter p = (l.take j).filter p ++ (if p x = true then [x] else []) := by
  rw [List.take_add_one, hx, List.filter_append]
  cases h : p x <;> simp [h]
end Go.Proofs.Ytdiepeomhnkgpaa
