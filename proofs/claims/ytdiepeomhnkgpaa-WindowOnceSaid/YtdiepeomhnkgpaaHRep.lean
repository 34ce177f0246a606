/- A map of numbers by numbers, read as a list of pairs. -/
import Derived.Test.YtdiepeomhnkgpaaHU
import Derived.Maps.OwnSet
import Derived.Maps.OwnOps
import Derived.WalkKit
namespace Go.Proofs.Ytdiepeomhnkgpaa
open Go Go.Maps Go.RowKit

/-- The datum D holds just the pairs of m, each key once; keys are uint64s, elements ints. -/
structure Rep (D : DataW Unit) (m : List (Int × Int)) : Prop where
  tidy : Tidy D
  nodup : (m.map Prod.fst).Nodup
  keys : ∀ x, Maps.has D (.int .u64 x) = true ↔ x ∈ m.map Prod.fst
  vals : ∀ p, p ∈ m → ∀ z, D.atKey (.int .u64 p.1) z = .lit (.int .i64 p.2)
  size : Maps.size D = m.length
  wf : ∀ p, p ∈ m → (0 ≤ p.1 ∧ p.1 < 18446744073709551616) ∧ (Lit.int .i64 p.2).wf = true

theorem wf_u64 {x : Int} (h0 : 0 ≤ x) (h1 : x < 18446744073709551616) : (Lit.int .u64 x).wf = true := by
  exact WalkArith.wf_u64 ⟨h0, by omega⟩

theorem isKey_u64 (x : Int) : WideAt.IsKeyLit (Lit.int .u64 x) := by
  first | exact trivial | exact ⟨_, rfl⟩ | simp [WideAt.IsKeyLit]

theorem rep_empty : Rep (.map []) [] := ⟨tidy_empty, by simp, fun x => by simp [Maps.has], by simp, rfl, by simp⟩

theorem rep_perm {D : DataW Unit} {m m' : List (Int × Int)} (h : Rep D m) (hp : m.Perm m') : Rep D m' :=
  ⟨h.tidy, (hp.map _).nodup_iff.1 h.nodup, fun x => (h.keys x).trans (hp.map _).mem_iff, fun p hp' => h.vals p (hp.mem_iff.2 hp'), h.size.trans hp.length_eq, fun p hp' => h.wf p (hp.mem_iff.2 hp')⟩

theorem rep_not {D : DataW Unit} {m : List (Int × Int)} (h : Rep D m) {x : Int} (hx : x ∉ m.map Prod.fst) : Maps.has D (.int .u64 x) = false := by
  cases e : Maps.has D (.int .u64 x) with
  | false => rfl
  | true => exact absurd ((h.keys x).1 e) hx

theorem rep_put {D : DataW Unit} {m : List (Int × Int)} (h : Rep D m) {x v : Int} (hx : x ∉ m.map Prod.fst) (h0 : 0 ≤ x) (h1 : x < 18446744073709551616) (hv : (Lit.int .i64 v).wf = true) :
    Rep (D.put (.int .u64 x) (.lit (.int .i64 v))) ((x, v) :: m) := by
  have hn := rep_not h hx
  have hne : ∀ y, y ≠ x → (Lit.int .u64 y) ≠ Lit.int .u64 x := fun y hy e => hy (by injection e)
  refine ⟨h.tidy.put (isKey_u64 x) _, ?_, fun y => ?_, fun p hp z => ?_, ?_, fun p hp => ?_⟩
  · simp only [List.map_cons, List.nodup_cons]; exact ⟨hx, h.nodup⟩
  · by_cases hy : y = x
    · subst hy; simp [has_put_same h.tidy.isMap (isKey_u64 _)]
    · rw [has_put_other (hne y hy), h.keys y]; simp [hy]
  · rcases List.mem_cons.1 hp with rfl | hp'
    · exact atKey_put_same h.tidy.isMap (isKey_u64 _) _ _
    · have hy : p.1 ≠ x := fun e => hx (e ▸ List.mem_map_of_mem hp')
      rw [atKey_put_other (hne _ hy)]; exact h.vals p hp' z
  · rw [size_put h.tidy, hn, h.size]; simp
  · rcases List.mem_cons.1 hp with rfl | hp'
    · exact ⟨⟨h0, h1⟩, hv⟩
    · exact h.wf p hp'

theorem rep_del {D : DataW Unit} {m : List (Int × Int)} (h : Rep D m) (x : Int) : Rep (D.del (.int .u64 x)) (m.filter fun p => p.1 ≠ x) := by
  have hne : ∀ y, y ≠ x → (Lit.int .u64 y) ≠ Lit.int .u64 x := fun y hy e => hy (by injection e)
  have hsub : (m.filter fun p => p.1 ≠ x).Sublist m := List.filter_sublist
  refine ⟨h.tidy.del _, (hsub.map _).nodup h.nodup, fun y => ?_, fun p hp z => ?_, ?_, fun p hp => h.wf p (List.mem_filter.1 hp).1⟩
  · by_cases hy : y = x
    · subst hy
      rw [has_del_same]
      simp
    · rw [has_del_other (hne y hy), h.keys y]
      simp only [List.mem_map, List.mem_filter]
      constructor
      · rintro ⟨p, hp, rfl⟩; exact ⟨p, ⟨hp, by simpa using hy⟩, rfl⟩
      · rintro ⟨p, ⟨hp, _⟩, rfl⟩; exact ⟨p, hp, rfl⟩
  · obtain ⟨hp1, hp2⟩ := List.mem_filter.1 hp
    have hy : p.1 ≠ x := by simpa using hp2
    rw [atKey_del_other (hne _ hy)]; exact h.vals p hp1 z
  · have hs := size_del h.tidy (k := .int .u64 x)
    rw [h.size] at hs
    have hl : ∀ l : List (Int × Int), (l.map Prod.fst).Nodup → (l.filter fun p => p.1 ≠ x).length + (if x ∈ l.map Prod.fst then 1 else 0) = l.length := by
      intro l hl
      induction l with
      | nil => simp
      | cons a l ih =>
        simp only [List.map_cons, List.nodup_cons] at hl
        have ih := ih hl.2
        by_cases ha : a.1 = x
        · have hx : x ∉ l.map Prod.fst := ha ▸ hl.1
          rw [if_neg hx] at ih
          simp [ha]; simpa using ih
        · by_cases hx : x ∈ l.map Prod.fst
          · rw [if_pos hx] at ih
            have : x ∈ (a :: l).map Prod.fst := by simp only [List.map_cons]; exact List.mem_cons_of_mem _ hx
            rw [if_pos this, List.filter_cons_of_pos (by simpa using ha)]
            simp only [List.length_cons]; omega
          · rw [if_neg hx] at ih
            have : x ∉ (a :: l).map Prod.fst := by simp only [List.map_cons, List.mem_cons, not_or]; exact ⟨fun e => ha e.symm, hx⟩
            rw [if_neg this, List.filter_cons_of_pos (by simpa using ha)]
            simp only [List.length_cons]; omega
    have hl' := hl m h.nodup
    by_cases hx : x ∈ m.map Prod.fst
    · rw [if_pos ((h.keys x).2 hx)] at hs; rw [if_pos hx] at hl'; omega
    · rw [rep_not h hx] at hs; rw [if_neg hx] at hl'; simp at hs; omega

end Go.Proofs.Ytdiepeomhnkgpaa
