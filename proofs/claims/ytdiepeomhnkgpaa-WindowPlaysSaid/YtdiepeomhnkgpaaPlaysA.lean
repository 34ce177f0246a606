/- The document's book (tallyroomref19.Book): what Find, Put, Drop and Ints answer at a rising list of pairs. -/
import Derived.Test.YtdiepeomhnkgpaaPFind
import Derived.Test.YtdiepeomhnkgpaaPPut
import Derived.Test.YtdiepeomhnkgpaaPDrop
namespace Go.Proofs.Ytdiepeomhnkgpaa
open Go.RowKit Go.Proofs.YtdiepeomhnkgpaaW.PrintWords PWindowPlays
set_option linter.unusedVariables false

theorem wrapUp (i : Nat) (h : i < 1000000) : wrap64 ((i : Int) + 1) = ((i + 1 : Nat) : Int) := by unfold wrap64; omega

theorem rd_at {l : List Int} {i : Nat} {x : Int} (h : l[i]? = some x) : rd l (i : Int) = x := by
  unfold rd; simp [List.getD, h]

theorem find_there (wd lt mo mk x : Int) (ws vs : List Int) (j : Nat) (hl : ws.length < 1000000) (hj : ws[j]? = some x) (hf : ∀ t, t < j → ws[t]? ≠ some x) : ∀ (n i : Nat), i + n = j →
    tallyroomref19_Book_Find.l0 (n + 1) x (i : Int) wd lt mo mk ws vs = some (j : Int) := by
  have hjl : j < ws.length := (List.getElem?_eq_some_iff.1 hj).1
  intro n
  induction n with
  | zero =>
    intro i hi
    obtain rfl : i = j := by omega
    unfold tallyroomref19_Book_Find.l0
    rw [if_pos (by omega), if_pos (by omega), if_pos (rd_at hj)]
  | succ n ih =>
    intro i hi
    obtain ⟨y, hy⟩ : ∃ y, ws[i]? = some y := ⟨_, List.getElem?_eq_getElem (by omega)⟩
    unfold tallyroomref19_Book_Find.l0
    rw [if_pos (by omega), if_pos (by omega), if_neg (by rw [rd_at hy]; intro e; exact hf i (by omega) (by rw [hy, e])), wrapUp i (by omega)]
    exact ih (i + 1) (by omega)

theorem find_not (wd lt mo mk x : Int) (ws vs : List Int) (hl : ws.length < 1000000) (hf : x ∉ ws) : ∀ (n i : Nat), i + n = ws.length →
    tallyroomref19_Book_Find.l0 (n + 1) x (i : Int) wd lt mo mk ws vs = some (-1) := by
  intro n
  induction n with
  | zero =>
    intro i hi
    unfold tallyroomref19_Book_Find.l0
    rw [if_neg (by omega)]
  | succ n ih =>
    intro i hi
    obtain ⟨y, hy⟩ : ∃ y, ws[i]? = some y := ⟨_, List.getElem?_eq_getElem (by omega)⟩
    unfold tallyroomref19_Book_Find.l0
    rw [if_pos (by omega), if_pos (by omega), if_neg (by rw [rd_at hy]; intro e; exact hf (e ▸ List.mem_of_getElem? hy)), wrapUp i (by omega)]
    exact ih (i + 1) (by omega)

theorem ints_same (l : List Int) (hl : l.length < 1000000) : ∀ (n i : Nat), i + n = l.length → tallyroomlaw15_Ints.l0 (n + 1) l l (i : Int) = some true := by
  intro n
  induction n with
  | zero =>
    intro i hi
    unfold tallyroomlaw15_Ints.l0
    rw [if_neg (by omega)]
  | succ n ih =>
    intro i hi
    unfold tallyroomlaw15_Ints.l0
    rw [if_pos (by omega), if_pos (by omega), if_pos (by omega), if_pos rfl, wrapUp i (by omega)]
    exact ih (i + 1) (by omega)

theorem put_done (wd lt mo mk x v : Int) (ws vs : List Int) (i : Nat) (hl : ws.length < 1000000) (hvl : vs.length = ws.length) (hi : i ≤ ws.length) (hge : ∀ y, ws[i]? = some y → x ≤ y) :
    tallyroomref19_Book_Put.l0 1 x v (i : Int) wd lt mo mk ws vs = some (wd, lt, mo, mk, ws.take i ++ [x] ++ ws.drop i, vs.take i ++ [v] ++ vs.drop i) := by
  have ln : ∀ (l : List Int) (k : Nat), (l.take k).length ≤ l.length := fun l k => by rw [List.length_take]; omega
  have ld : ∀ (l : List Int) (k : Nat), (l.drop k).length ≤ l.length := fun l k => by rw [List.length_drop]; omega
  have h1 := ln ws i
  have h2 := ln vs i
  have h3 := ld ws i
  have h4 := ld vs i
  unfold tallyroomref19_Book_Put.l0
  simp only [Option.bind_some, List.nil_append, Int.toNat_natCast, List.length_append, List.length_cons, List.length_nil]
  by_cases hlt : i < ws.length
  · obtain ⟨y, hy⟩ : ∃ y, ws[i]? = some y := ⟨_, List.getElem?_eq_getElem hlt⟩
    rw [if_pos (by omega), if_pos (by omega), if_neg (by rw [rd_at hy]; have := hge y hy; omega)]
    rw [if_pos (by omega), if_pos (by omega), if_pos (by omega), if_pos (by omega), if_pos (by omega), if_pos (by omega), if_pos (by omega), if_pos (by omega)]
  · rw [if_neg (by omega), if_pos (by omega)]
    rw [if_pos (by omega), if_pos (by omega), if_pos (by omega), if_pos (by omega), if_pos (by omega), if_pos (by omega), if_pos (by omega), if_pos (by omega)]

theorem put_at (wd lt mo mk x v : Int) (ws vs : List Int) (j : Nat) (hl : ws.length < 1000000) (hvl : vs.length = ws.length) (hj : j ≤ ws.length) (hge : ∀ y, ws[j]? = some y → x ≤ y) (hlt : ∀ t y, t < j → ws[t]? = some y → y < x) : ∀ (n i : Nat), i + n = j →
    tallyroomref19_Book_Put.l0 (n + 1) x v (i : Int) wd lt mo mk ws vs = some (wd, lt, mo, mk, ws.take j ++ [x] ++ ws.drop j, vs.take j ++ [v] ++ vs.drop j) := by
  intro n
  induction n with
  | zero =>
    intro i hi
    obtain rfl : i = j := by omega
    exact put_done wd lt mo mk x v ws vs i hl hvl hj hge
  | succ n ih =>
    intro i hi
    obtain ⟨y, hy⟩ : ∃ y, ws[i]? = some y := ⟨_, List.getElem?_eq_getElem (by omega)⟩
    unfold tallyroomref19_Book_Put.l0
    rw [if_pos (by omega), if_pos (by omega), if_pos (by rw [rd_at hy]; exact hlt i y (by omega) hy), wrapUp i (by omega)]
    exact ih (i + 1) (by omega)

theorem drop_at (wd lt mo mk : Int) (ws vs : List Int) (j : Nat) (hl : ws.length < 1000000) (hvl : vs.length = ws.length) (hj : j < ws.length) :
    tallyroomref19_Book_Drop.f wd lt mo mk ws vs (j : Int) = some (wd, lt, mo, mk, ws.take j ++ ws.drop (j + 1), vs.take j ++ vs.drop (j + 1)) := by
  have ln : ∀ (l : List Int) (k : Nat), (l.take k).length ≤ l.length := fun l k => by rw [List.length_take]; omega
  have ld : ∀ (l : List Int) (k : Nat), (l.drop k).length ≤ l.length := fun l k => by rw [List.length_drop]; omega
  have h1 := ln ws j
  have h2 := ln vs j
  have h3 := ld ws (j + 1)
  have h4 := ld vs (j + 1)
  unfold tallyroomref19_Book_Drop.f
  rw [wrapUp j (by omega)]
  simp only [Option.bind_some, List.nil_append, Int.toNat_natCast, List.length_nil, Nat.zero_add]
  rw [if_pos (by omega), if_pos (by omega), if_pos (by omega), if_pos (by omega), if_pos (by omega), if_pos (by omega), if_pos (by omega), if_pos (by omega), if_pos (by omega), if_pos (by omega)]

/-- Where a number is to go into a rising list. -/
theorem place (ws : List Int) (x : Int) (hs : ws.Pairwise (· < ·)) : ∃ j, j ≤ ws.length ∧ (∀ y, ws[j]? = some y → x ≤ y) ∧ (∀ t y, t < j → ws[t]? = some y → y < x) := by
  refine ⟨(ws.takeWhile fun y => decide (y < x)).length, ?_, ?_, ?_⟩
  · exact (List.takeWhile_sublist _).length_le
  · intro y hy
    by_cases h : x ≤ y
    · exact h
    · exfalso
      have h1 := List.takeWhile_append_dropWhile (p := fun y => decide (y < x)) (l := ws)
      have e1 : ws[(ws.takeWhile fun y => decide (y < x)).length]? = (ws.dropWhile fun y => decide (y < x))[0]? :=
        (congrArg (fun l : List Int => l[(ws.takeWhile fun y => decide (y < x)).length]?) h1.symm).trans (by show (List.takeWhile _ _ ++ List.dropWhile _ _)[_]? = _; rw [List.getElem?_append_right (Nat.le_refl _), Nat.sub_self])
      rw [e1] at hy
      have h2 : (ws.dropWhile fun y => decide (y < x)).head? = some y := by rw [List.head?_eq_getElem?]; exact hy
      have h3 := List.head?_dropWhile_not (fun y => decide (y < x)) ws
      rw [h2] at h3
      simp at h3
      omega
  · intro t y ht hy
    have h1 := List.takeWhile_append_dropWhile (p := fun y => decide (y < x)) (l := ws)
    have e1 : ws[t]? = (ws.takeWhile fun y => decide (y < x))[t]? :=
      (congrArg (fun l : List Int => l[t]?) h1.symm).trans (by show (List.takeWhile _ _ ++ List.dropWhile _ _)[_]? = _; rw [List.getElem?_append_left ht])
    rw [e1] at hy
    have := List.mem_of_getElem? hy
    have h2 := List.all_takeWhile (p := fun y => decide (y < x)) (l := ws)
    have := (List.all_eq_true.1 h2) y this
    simpa using this

/-! As pairs. -/
abbrev ks (pl : List (Int × Int)) : List Int := pl.map Prod.fst
abbrev vsOf (pl : List (Int × Int)) : List Int := pl.map Prod.snd

theorem encs_u (l : List Int) : encs (Value.int .u64) l = l.map (Value.int .u64) := rfl

/-- A row of whole numbers that the call may read. -/
def RowOf (w : World) (base : Nat) (k : IntKind) (e : Nat) (v : Value) (xs : List Int) : Prop := w.ownsRow base e 1 v xs.length (xs.map (Value.int k))

theorem RowOf.reads {w : World} {base : Nat} {k : IntKind} {e : Nat} {v : Value} {xs : List Int} (h : RowOf w base k e v xs) : ∃ A c, v = .slice A xs.length c ∧ xs.length ≤ c ∧ Kd.C (Kd.int k) w A xs.length xs :=
  Kd.R_reads (Kd.R_of_own (ok := fun _ => True) (h1 := fun _ => rfl) h (fun _ _ => trivial))

/-- The document's book as a value. -/
def refV (wd lt mo mk : Int) (v1 v2 : Value) : Value := .agg #[.int .u64 wd, .int .u64 lt, .int .i64 mo, .int .u64 mk, v1, v2]

theorem refFind_there {w : World} {b1 b2 : Nat} {v1 v2 : Value} {pl : List (Int × Int)} (wd lt mo mk : Int) (r1 : RowOf w b1 .u64 22 v1 (ks pl)) (r2 : RowOf w b2 .i64 3 v2 (vsOf pl)) (hl : pl.length < 1000000) (j : Nat) (x : Int) (hj : (ks pl)[j]? = some x) (hn : (ks pl).Nodup) :
    Calls Try.prog 18 #[refV wd lt mo mk v1 v2, .int .u64 x] w fun e w' => e = .returned (.int .i64 j) ∧ Below w.heap.size w w' := by
  obtain ⟨A1, c1, rfl, h1, C1⟩ := r1.reads
  obtain ⟨A2, c2, rfl, h2, C2⟩ := r2.reads
  have hjl := (List.getElem?_eq_some_iff.1 hj).1
  exact tallyroomref19_Book_Find.calls (j + 1) wd lt mo mk A1 c1 (ks pl) A2 c2 (vsOf pl) x j w C1 h1 C2 h2 (find_there wd lt mo mk x (ks pl) (vsOf pl) j (by simpa using hl) hj (fun t ht e => by
    have h1 := (List.getElem?_eq_some_iff.1 e).1
    have h2 := (List.pairwise_iff_getElem.1 hn) t j h1 hjl ht
    exact h2 ((List.getElem?_eq_some_iff.1 e).2.trans (List.getElem?_eq_some_iff.1 hj).2.symm)) j 0 (by omega))

theorem refFind_not {w : World} {b1 b2 : Nat} {v1 v2 : Value} {pl : List (Int × Int)} (wd lt mo mk : Int) (r1 : RowOf w b1 .u64 22 v1 (ks pl)) (r2 : RowOf w b2 .i64 3 v2 (vsOf pl)) (hl : pl.length < 1000000) (x : Int) (hx : x ∉ ks pl) :
    Calls Try.prog 18 #[refV wd lt mo mk v1 v2, .int .u64 x] w fun e w' => e = .returned (.int .i64 (-1)) ∧ Below w.heap.size w w' := by
  obtain ⟨A1, c1, rfl, h1, C1⟩ := r1.reads
  obtain ⟨A2, c2, rfl, h2, C2⟩ := r2.reads
  exact tallyroomref19_Book_Find.calls ((ks pl).length + 1) wd lt mo mk A1 c1 (ks pl) A2 c2 (vsOf pl) x (-1) w C1 h1 C2 h2 (find_not wd lt mo mk x (ks pl) (vsOf pl) (by simpa using hl) hx (ks pl).length 0 (by omega))

theorem ints_calls {w : World} {b1 b2 : Nat} {v1 v2 : Value} {l : List Int} (r1 : RowOf w b1 .u64 22 v1 l) (r2 : RowOf w b2 .u64 22 v2 l) (hl : l.length < 1000000) :
    Calls Try.prog 20 #[v1, v2] w fun e w' => e = .returned (.bool true) ∧ ∃ q, w' = w.drewN q := by
  obtain ⟨A1, c1, rfl, h1, C1⟩ := r1.reads
  obtain ⟨A2, c2, rfl, h2, C2⟩ := r2.reads
  have := tallyroomlaw15_Ints.calls (l.length + 1) A1 c1 l A2 c2 l true w C1 h1 C2 h2 (by unfold tallyroomlaw15_Ints.f; rw [if_pos rfl]; exact ints_same l hl l.length 0 (by omega))
  exact this.mono fun e w' ⟨a, b⟩ => ⟨a, b.out⟩

theorem refPut_calls {w : World} {b1 b2 : Nat} {v1 v2 : Value} {pl : List (Int × Int)} (wd lt mo mk : Int) (r1 : RowOf w b1 .u64 22 v1 (ks pl)) (r2 : RowOf w b2 .i64 3 v2 (vsOf pl)) (hl : pl.length < 1000000) (hs : (ks pl).Pairwise (· < ·)) (x v : Int) (hx : x ∉ ks pl) :
    Calls Try.prog 19 #[refV wd lt mo mk v1 v2, .int .u64 x, .int .i64 v] w fun e w' => ∃ (pl' : List (Int × Int)) (v1' v2' : Value), e = .returned (refV wd lt mo mk v1' v2') ∧ (ks pl').Pairwise (· < ·) ∧ ((x, v) :: pl).Perm pl' ∧ RowOf w' w.heap.size .u64 22 v1' (ks pl') ∧ RowOf w' w.heap.size .i64 3 v2' (vsOf pl') ∧ Below w.heap.size w w' := by
  obtain ⟨A1, c1, rfl, h1, C1⟩ := r1.reads
  obtain ⟨A2, c2, rfl, h2, C2⟩ := r2.reads
  obtain ⟨j, hj, hge, hlt⟩ := place (ks pl) x hs
  have hc := tallyroomref19_Book_Put.calls (j + 1) wd lt mo mk A1 c1 (ks pl) A2 c2 (vsOf pl) x v _ _ _ _ _ _ w C1 h1 C2 h2 (put_at wd lt mo mk x v (ks pl) (vsOf pl) j (by simpa using hl) (by simp) hj hge hlt j 0 (by omega))
  refine hc.mono ?_
  rintro e w' ⟨v1', v2', rfl, R1, R2, hb⟩
  have e1 : (ks pl).take j ++ [x] ++ (ks pl).drop j = ks (pl.take j ++ (x, v) :: pl.drop j) := by simp [ks]
  have e2 : (vsOf pl).take j ++ [v] ++ (vsOf pl).drop j = vsOf (pl.take j ++ (x, v) :: pl.drop j) := by simp [vsOf]
  rw [e1] at R1
  rw [e2] at R2
  refine ⟨pl.take j ++ (x, v) :: pl.drop j, v1', v2', rfl, ?_, ?_, Kd.own_of_R R1, Kd.own_of_R R2, hb⟩
  · rw [← e1, List.append_assoc, List.pairwise_append]
    have hsp := hs
    rw [← List.take_append_drop j (ks pl), List.pairwise_append] at hsp
    refine ⟨hsp.1, ?_, ?_⟩
    · rw [List.singleton_append, List.pairwise_cons]
      refine ⟨fun y hy => ?_, hsp.2.1⟩
      have hxy : x ≤ y := by
        obtain ⟨t, ht⟩ := List.getElem?_of_mem hy
        rw [List.getElem?_drop] at ht
        obtain ⟨z, hz⟩ : ∃ z, (ks pl)[j]? = some z := ⟨_, List.getElem?_eq_getElem (by have := (List.getElem?_eq_some_iff.1 ht).1; omega)⟩
        have h1 := hge z hz
        rcases Nat.eq_zero_or_pos t with rfl | hp
        · rw [Nat.add_zero, hz] at ht; cases ht; exact h1
        · have := (List.pairwise_iff_getElem.1 hs) j (j + t) (List.getElem?_eq_some_iff.1 hz).1 (List.getElem?_eq_some_iff.1 ht).1 (by omega)
          rw [(List.getElem?_eq_some_iff.1 hz).2, (List.getElem?_eq_some_iff.1 ht).2] at this
          omega
      have hne : y ≠ x := fun e => hx (e ▸ List.mem_of_mem_drop hy)
      omega
    · intro a ha b hb
      obtain ⟨t, ht⟩ := List.getElem?_of_mem ha
      have htj : t < j := by
        have := (List.getElem?_eq_some_iff.1 ht).1
        rw [List.length_take] at this; omega
      rw [List.getElem?_take_of_lt htj] at ht
      have hax := hlt t a htj ht
      rcases List.mem_append.1 hb with hb | hb
      · obtain rfl : b = x := by simpa using hb
        exact hax
      · exact hsp.2.2 a ha b hb
  · have := (List.perm_middle (a := (x, v)) (l₁ := pl.take j) (l₂ := pl.drop j)).symm
    rwa [List.take_append_drop] at this

theorem filter_of_nodup {pl : List (Int × Int)} {j : Nat} {x v : Int} (hj : pl[j]? = some (x, v)) (hn : (ks pl).Nodup) : pl.take j ++ pl.drop (j + 1) = pl.filter fun p => p.1 ≠ x := by
  obtain ⟨hlt, he⟩ := List.getElem?_eq_some_iff.1 hj
  have e0 : pl = pl.take j ++ (x, v) :: pl.drop (j + 1) := by
    rw [← he, List.getElem_cons_drop, List.take_append_drop]
  have hn' : (ks (pl.take j ++ (x, v) :: pl.drop (j + 1))).Nodup := by rw [← e0]; exact hn
  simp only [ks, List.map_append, List.map_cons] at hn'
  rw [List.nodup_append] at hn'
  obtain ⟨_, h2, h3⟩ := hn'
  have h2 := (List.nodup_cons.1 h2).1
  generalize pl.take j = a at e0 h3 ⊢
  generalize pl.drop (j + 1) = c at e0 h2 ⊢
  rw [e0, List.filter_append, List.filter_cons]
  have f1 : a.filter (fun p => decide (p.1 ≠ x)) = a := List.filter_eq_self.2 fun p hp => by
    have := h3 p.1 (List.mem_map_of_mem hp) x (by simp)
    simpa using this
  have f2 : c.filter (fun p => decide (p.1 ≠ x)) = c := List.filter_eq_self.2 fun p hp => by
    have : p.1 ≠ x := fun e => h2 (e ▸ List.mem_map_of_mem hp)
    simpa using this
  rw [f1, f2]
  simp

theorem refDrop_calls {w : World} {b1 b2 : Nat} {v1 v2 : Value} {pl : List (Int × Int)} (wd lt mo mk : Int) (r1 : RowOf w b1 .u64 22 v1 (ks pl)) (r2 : RowOf w b2 .i64 3 v2 (vsOf pl)) (hl : pl.length < 1000000) (hn : (ks pl).Nodup) (j : Nat) (x v : Int) (hj : pl[j]? = some (x, v)) :
    Calls Try.prog 21 #[refV wd lt mo mk v1 v2, .int .i64 j] w fun e w' => ∃ (v1' v2' : Value), e = .returned (refV wd lt mo mk v1' v2') ∧ RowOf w' w.heap.size .u64 22 v1' (ks (pl.filter fun p => p.1 ≠ x)) ∧ RowOf w' w.heap.size .i64 3 v2' (vsOf (pl.filter fun p => p.1 ≠ x)) ∧ Below w.heap.size w w' := by
  obtain ⟨A1, c1, rfl, h1, C1⟩ := r1.reads
  obtain ⟨A2, c2, rfl, h2, C2⟩ := r2.reads
  have hjl := (List.getElem?_eq_some_iff.1 hj).1
  have hc := tallyroomref19_Book_Drop.calls wd lt mo mk A1 c1 (ks pl) A2 c2 (vsOf pl) j _ _ _ _ _ _ w C1 h1 C2 h2 (drop_at wd lt mo mk (ks pl) (vsOf pl) j (by simpa using hl) (by simp) (by simpa using hjl))
  refine hc.mono ?_
  rintro e w' ⟨v1', v2', rfl, R1, R2, hb⟩
  have e1 : (ks pl).take j ++ (ks pl).drop (j + 1) = ks (pl.filter fun p => p.1 ≠ x) := by rw [← filter_of_nodup hj hn]; simp [ks]
  have e2 : (vsOf pl).take j ++ (vsOf pl).drop (j + 1) = vsOf (pl.filter fun p => p.1 ≠ x) := by rw [← filter_of_nodup hj hn]; simp [vsOf]
  rw [e1] at R1
  rw [e2] at R2
  exact ⟨v1', v2', rfl, Kd.own_of_R R1, Kd.own_of_R R2, hb⟩
end Go.Proofs.Ytdiepeomhnkgpaa
