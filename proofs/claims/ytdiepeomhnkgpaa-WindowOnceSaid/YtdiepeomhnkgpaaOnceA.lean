/- WindowOnce: the state of its loop, and what each step makes of it. -/
import Derived.Test.YtdiepeomhnkgpaaHSeal
import Derived.Maps.AppendAt
namespace Go.Proofs.Ytdiepeomhnkgpaa
open Go.Proofs Go.Maps Go.RowKit Go.Sort Go.Shelf
set_option linter.unusedVariables false

/-- The elements of a slice of calls. -/
structure Acts (W : World) (A : Option Addr) (l : List (Int × Int × Int)) : Prop where
  len : l.length ≤ 9223372036854775807
  at_ : ∀ i x, l[i]? = some x → ∃ b off, A = some ⟨b, off, none⟩ ∧ b < W.heap.size ∧ W.cell? ⟨b, off + i * 3, none⟩ = some (.int .i64 x.1) ∧ W.cell? ⟨b, off + i * 3 + 1, none⟩ = some (.int .u64 x.2.1) ∧ W.cell? ⟨b, off + i * 3 + 2, none⟩ = some (.int .i64 x.2.2) ∧
    (0 ≤ x.2.1 ∧ x.2.1 < 18446744073709551616) ∧ (-9223372036854775808 ≤ x.2.2 ∧ x.2.2 ≤ 9223372036854775807)

theorem keysOf_mem {m : List (Int × Int)} {y : Int} : y ∈ keysOf m ↔ y ∈ m.map Prod.fst := by
  unfold keysOf; exact (List.mergeSort_perm _ _).mem_iff
theorem keysOf_length (m : List (Int × Int)) : (keysOf m).length = m.length := by
  unfold keysOf; simp
theorem keysOf_nodup {m : List (Int × Int)} (h : (m.map Prod.fst).Nodup) : (keysOf m).Nodup := by
  unfold keysOf; exact (List.mergeSort_perm _ _).nodup_iff.2 h

theorem IsBook.bounds {W : World} {g b nn : Nat} {wd lt most mk : Int} {m : List (Int × Int)} (h : IsBook W g b nn wd lt most mk m) : ∀ y ∈ keysOf m, 0 ≤ y ∧ y < 18446744073709551616 := by
  obtain ⟨_, D, _, hr⟩ := h
  intro y hy
  obtain ⟨p, hp, rfl⟩ := List.mem_map.1 (keysOf_mem.1 hy)
  exact (hr.wf p hp).1
theorem IsBook.nodup {W : World} {g b nn : Nat} {wd lt most mk : Int} {m : List (Int × Int)} (h : IsBook W g b nn wd lt most mk m) : (m.map Prod.fst).Nodup := by
  obtain ⟨_, D, _, hr⟩ := h
  exact hr.nodup

/-- At with nothing fresh, whatever it is. -/
theorem at_nil {W : World} {g b nn : Nat} {wd lt most mk : Int} {m : List (Int × Int)} (hB : IsBook W g b nn wd lt most mk m) (hF : Fine wd lt mk) (t : Int) (h0 : 0 ≤ t) (h1 : t < 18446744073709551616) (hn : nn < maxLen) (hr : (m.length : Int) ≤ most)
    (hc : ∀ p ∈ m, overB p.1 wd lt mk = false) :
    Calls Try.prog 12 #[.pointer (some ⟨g, 0, none⟩), .int .u64 t, .nilFunc] W fun e w' => ∃ (v f : Int) (nn' : Nat) (m' : List (Int × Int)), e = .returned (.tuple #[.int .i64 v, .int .i64 f]) ∧ IsBook w' g b nn' wd lt most mk m' ∧ nn' ≤ nn + 1 ∧ m'.length ≤ m.length + 1 ∧ (m'.length : Int) ≤ most ∧ (∀ p ∈ m', overB p.1 wd lt mk = false) ∧ W.grownBy w' (some b) := by
  have gd : ∀ q, W.grownBy (W.drewN q) (some b) := fun q => ⟨rfl, rfl, rfl, Nat.le_refl _, fun _ _ _ => rfl⟩
  cases ho : overB (t / wd) wd lt mk with
  | true =>
    refine (at_over hB hF t h0 h1 .nilFunc ho).mono ?_
    rintro e w' ⟨rfl, q, rfl⟩
    exact ⟨_, _, nn, m, rfl, hB.drewN q, by omega, by omega, hr, hc, gd q⟩
  | false =>
    by_cases hm : t / wd ∈ m.map Prod.fst
    · obtain ⟨p, hp, hpe⟩ := List.mem_map.1 hm
      obtain ⟨k, v⟩ := p
      dsimp only at hpe
      subst hpe
      refine (at_there hB hF t h0 h1 .nilFunc ho v hp).mono ?_
      rintro e w' ⟨rfl, q, rfl⟩
      exact ⟨_, _, nn, m, rfl, hB.drewN q, by omega, by omega, hr, hc, gd q⟩
    · by_cases hl : most ≤ (m.length : Int)
      · refine (at_full hB hF t h0 h1 .nilFunc ho hm hl).mono ?_
        rintro e w' ⟨rfl, q, rfl⟩
        exact ⟨_, _, nn, m, rfl, hB.drewN q, by omega, by omega, hr, hc, gd q⟩
      · refine (at_put hB hF t h0 h1 ho hm (by omega) hn).mono ?_
        rintro e w' ⟨rfl, hB', q, hg⟩
        refine ⟨_, _, nn + 1, _, rfl, hB', Nat.le_refl _, by simp, by simp; omega, ?_, ⟨hg.os, hg.tape, hg.output, hg.size, hg.block⟩⟩
        intro p hp
        rcases List.mem_cons.1 hp with rfl | hp'
        · exact ho
        · exact hc p hp'

theorem overB_mono {x wd lt mk mk' : Int} (h : overB x wd lt mk = true) (hle : mk ≤ mk') : overB x wd lt mk' = true := by
  unfold overB at *
  have := of_decide_eq_true h
  exact decide_eq_true ⟨this.1, by omega⟩

/-- The state of the law's loop. -/
structure St (W0 : World) (g b : Nat) (wd lt most : Int) (w : World) (vg : Value) (gone : List Int) (k : Nat) (nn : Nat) (mk : Int) (m : List (Int × Int)) : Prop where
  below : Below W0.heap.size W0 w
  book : IsBook w g b nn wd lt most mk m
  fine : Fine wd lt mk
  gb : W0.heap.size ≤ g ∧ W0.heap.size ≤ b
  row : w.ownsRow W0.heap.size 22 1 vg gone.length (gone.map encU)
  far : vg.ownBlock ≠ some g ∧ vg.ownBlock ≠ some b
  nn : nn ≤ k
  cnt : gone.length + m.length ≤ k
  room : (m.length : Int) ≤ most
  low : ∀ x ∈ gone, overB x wd lt mk = true

theorem grownBy_of_below {W W' : World} (h : Below W.heap.size W W') (row : Option Nat) : W.grownBy W' row := ⟨h.os, h.tape, h.output, h.size, fun i hi _ => h.block i hi⟩

theorem ownFar {v : Value} {g : Nat} (h : v.ownBlock ≠ some g) : v.ownBlock = none ∨ v.ownBlock ≠ some g := .inr h

/-- A step that leaves the rows alone and keeps the book. -/
theorem St.step {W0 : World} {g b : Nat} {wd lt most : Int} {w : World} {vg : Value} {gone : List Int} {k nn : Nat} {mk : Int} {m : List (Int × Int)} (h : St W0 g b wd lt most w vg gone k nn mk m)
    {w' : World} {row : Option Nat} (hg : w.grownBy w' row) (hrow : row = none ∨ row = some g ∨ row = some b) {nn' k' : Nat} {mk' : Int} {m' : List (Int × Int)} (hb : IsBook w' g b nn' wd lt most mk' m') (hmk : mk ≤ mk') (hmk' : mk' < 18446744073709551616)
    (h1 : nn' ≤ k') (h2 : gone.length + m'.length ≤ k') (h3 : (m'.length : Int) ≤ most) : St W0 g b wd lt most w' vg gone k' nn' mk' m' := by
  have hgb := h.gb
  refine ⟨h.below.grown hg h.below.size ?_, hb, ⟨h.fine.w0, h.fine.w1, h.fine.l0, h.fine.l1, by have := h.fine.m0; omega, hmk'⟩, h.gb, h.row.kept hg ?_, h.far, h1, h2, h3, fun x hx => overB_mono (h.low x hx) hmk⟩
  · rintro j rfl
    rcases hrow with h | h | h
    · cases h
    · cases h; exact hgb.1
    · cases h; exact hgb.2
  · rcases hrow with rfl | rfl | rfl
    · cases vg.ownBlock <;> simp
    · exact .inr h.far.1
    · exact .inr h.far.2

theorem St.later {W0 : World} {g b : Nat} {wd lt most : Int} {w : World} {vg : Value} {gone : List Int} {k nn : Nat} {mk : Int} {m : List (Int × Int)} (h : St W0 g b wd lt most w vg gone k nn mk m) : St W0 g b wd lt most w vg gone (k + 1) nn mk m :=
  ⟨h.below, h.book, h.fine, h.gb, h.row, h.far, by have := h.nn; omega, by have := h.cnt; omega, h.room, h.low⟩

/-- What is to be taken yet. -/
structure Rest (wd lt mk : Int) (m : List (Int × Int)) (ys : List Int) : Prop where
  nodup : ys.Nodup
  sub : ∀ x ∈ ys, x ∈ m.map Prod.fst
  over : ∀ x ∈ ys, overB x wd lt mk = true
  all : ∀ p ∈ m, overB p.1 wd lt mk = true → p.1 ∈ ys

theorem Rest.start {wd lt mk : Int} {m : List (Int × Int)} (hn : (m.map Prod.fst).Nodup) : Rest wd lt mk m ((keysOf m).filter fun y => overB y wd lt mk) :=
  ⟨(keysOf_nodup hn).filter _, fun x hx => keysOf_mem.1 (List.mem_filter.1 hx).1, fun x hx => (List.mem_filter.1 hx).2, fun p hp ho => List.mem_filter.2 ⟨keysOf_mem.2 (List.mem_map_of_mem hp), ho⟩⟩

theorem Rest.next {wd lt mk : Int} {m : List (Int × Int)} {x : Int} {ys : List Int} (h : Rest wd lt mk m (x :: ys)) : Rest wd lt mk (m.filter fun p => p.1 ≠ x) ys := by
  have hnd := List.nodup_cons.1 h.nodup
  refine ⟨hnd.2, fun y hy => ?_, fun y hy => h.over y (List.mem_cons_of_mem _ hy), fun p hp ho => ?_⟩
  · obtain ⟨p, hp, rfl⟩ := List.mem_map.1 (h.sub y (List.mem_cons_of_mem _ hy))
    exact List.mem_map_of_mem (List.mem_filter.2 ⟨hp, by
      simp only [ne_eq, decide_eq_true_eq]
      intro e
      rw [e] at hy
      exact hnd.1 hy⟩)
  · obtain ⟨hp1, hp2⟩ := List.mem_filter.1 hp
    rcases List.mem_cons.1 (h.all p hp1 ho) with e | e
    · simp [e] at hp2
    · exact e

theorem Rest.clean {wd lt mk : Int} {m : List (Int × Int)} (h : Rest wd lt mk m []) : ∀ p ∈ m, overB p.1 wd lt mk = false := by
  intro p hp
  cases ho : overB p.1 wd lt mk with
  | false => rfl
  | true => exact absurd (h.all p hp ho) (by simp)

theorem filter_short {m : List (Int × Int)} {x : Int} (h : x ∈ m.map Prod.fst) : (m.filter fun p => p.1 ≠ x).length + 1 ≤ m.length := by
  obtain ⟨p, hp, rfl⟩ := List.mem_map.1 h
  have := List.length_filter_lt_length_iff_exists (p := fun q : Int × Int => decide (q.1 ≠ p.1)) (l := m)
  have := this.2 ⟨p, hp, by simp⟩
  omega

/-- gone grows by one. -/
theorem St.grow {W0 : World} {g b : Nat} {wd lt most : Int} {w : World} {vg : Value} {gone : List Int} {k nn : Nat} {mk : Int} {m : List (Int × Int)} (h : St W0 g b wd lt most w vg gone k nn mk m)
    {w' : World} {vg' : Value} (hg : w.grownBy w' vg.ownBlock) (x : Int) (hrow : w'.ownsRow W0.heap.size 22 1 vg' (gone.length + 1) (gone.map encU ++ [.int .u64 x])) (hat : vg'.ownBlock = vg.ownBlock ∨ ∃ j, vg'.ownBlock = some j ∧ w.heap.size ≤ j) (hx : overB x wd lt mk = true)
    (hk : gone.length + 1 + m.length ≤ k) : St W0 g b wd lt most w' vg' (gone ++ [x]) k nn mk m := by
  have hl := h.book.lt
  refine ⟨h.below.grown hg h.below.size ?_, h.book.kept hg (fun e => h.far.1 e.symm) (fun e => h.far.2 e.symm), h.fine, h.gb, by simpa [encU] using hrow, ?_, h.nn, by simpa using hk, h.room, ?_⟩
  · intro j hj
    exact (h.row.lt j hj).1
  · rcases hat with e | ⟨j, e, hj⟩
    · rw [e]; exact h.far
    · rw [e]
      refine ⟨fun e => ?_, fun e => ?_⟩ <;> (injection e; omega)
  · intro y hy
    rcases List.mem_append.1 hy with hy | hy
    · exact h.low y hy
    · obtain rfl : y = x := by simpa using hy
      exact hx

/-- A row as a slice of some address. -/
theorem ownsRow_form {w : World} {base n : Nat} {e : TypeId} {v : Value} {xs : List Value} (h : w.ownsRow base e 1 v n xs) : ∃ V cap, v = .slice V n cap ∧ ∀ j u, xs[j]? = some u → ∃ g, V = some ⟨g, 0, none⟩ ∧ base ≤ g ∧ w.cell? ⟨g, j, none⟩ = some u := by
  have hl := h.1
  have hc := fun g hg => World.ownsRow.cells h (g := g) hg
  rcases h.2 with ⟨rfl, rfl⟩ | ⟨g, cap, cur, rfl, hb, _⟩
  · exact ⟨none, 0, rfl, fun j u hj => by have := (List.getElem?_eq_some_iff.1 hj).1; omega⟩
  · refine ⟨_, cap, rfl, fun j u hj => ⟨g, rfl, hb, ?_⟩⟩
    have := hc g rfl j u hj
    have hadd : (⟨g, 0, none⟩ : Addr).add j = ⟨g, j, none⟩ := by unfold Addr.add; split <;> simp_all
    rwa [hadd] at this

/-- The sealed ones, beside what is gone. -/
structure Sl (w : World) (base : Nat) (v vg : Value) (g b : Nat) (ss : List Int) : Prop where
  row : w.ownsRow base 22 1 v ss.length (ss.map encU)
  g : v.ownBlock ≠ some g
  b : v.ownBlock ≠ some b
  vg : v.ownBlock = none ∨ v.ownBlock ≠ vg.ownBlock

theorem Sl.cell {w : World} {base : Nat} {v vg : Value} {g b : Nat} {ss : List Int} (h : Sl w base v vg g b ss) (done rest : List Int) (x : Int) (hs : ss = done ++ x :: rest) : ∃ gb cap, v = .slice (some ⟨gb, 0, none⟩) ss.length cap ∧ w.cell? ⟨gb, done.length, none⟩ = some (.int .u64 x) := by
  obtain ⟨V, cap, rfl, hc⟩ := ownsRow_form h.row
  obtain ⟨gb, rfl, _, hcell⟩ := hc done.length (.int .u64 x) (by rw [hs]; simp [encU])
  exact ⟨gb, cap, rfl, hcell⟩

theorem Sl.kept {w w' : World} {base : Nat} {v vg vg' : Value} {g b : Nat} {ss : List Int} {row : Option Nat} (h : Sl w base v vg g b ss) (hg : w.grownBy w' row) (hrow : row = none ∨ row = some g ∨ row = some b ∨ row = vg.ownBlock) (hat : vg'.ownBlock = vg.ownBlock ∨ ∃ j, vg'.ownBlock = some j ∧ w.heap.size ≤ j) : Sl w' base v vg' g b ss := by
  refine ⟨h.row.kept hg ?_, h.g, h.b, ?_⟩
  · rcases hrow with rfl | rfl | rfl | rfl
    · cases v.ownBlock <;> simp
    · exact .inr h.g
    · exact .inr h.b
    · exact h.vg
  · rcases hat with e | ⟨j, e, hj⟩
    · rw [e]; exact h.vg
    · rw [e]
      cases hv : v.ownBlock with
      | none => exact .inl rfl
      | some k => exact .inr (fun e => by cases e; have := (h.row.lt _ hv).2; omega)

end Go.Proofs.Ytdiepeomhnkgpaa
