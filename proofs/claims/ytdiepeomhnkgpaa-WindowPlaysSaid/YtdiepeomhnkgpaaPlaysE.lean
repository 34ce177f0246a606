/- WindowPlays: the walk, its cases joined. -/
import Derived.Test.YtdiepeomhnkgpaaPlaysD
import Derived.Test.YtdiepeomhnkgpaaPlaysH
import Derived.Test.YtdiepeomhnkgpaaPcElse
import Derived.Test.YtdiepeomhnkgpaaPcOver
import Derived.Test.YtdiepeomhnkgpaaPcThere
import Derived.Test.YtdiepeomhnkgpaaPcFull
import Derived.Test.YtdiepeomhnkgpaaPcPut
import Derived.Test.YtdiepeomhnkgpaaPcOne
import Derived.Test.YtdiepeomhnkgpaaPcThree
import Derived.Test.YtdiepeomhnkgpaaPcTwoN
import Derived.Test.YtdiepeomhnkgpaaPcTwoT
import Derived.Deep.RegionHeld3
import Derived.Test.YtdiepeomhnkgpaaMA
import Derived.Deep.CutBlock
namespace Go.Proofs.Ytdiepeomhnkgpaa
open Go.Proofs Go.Maps Go.RowKit Go.Sort Go.Shelf
set_option linter.unusedVariables false

theorem drew_grown1 (w : World) (row : Option Nat) : w.grownBy w.drew row := ⟨rfl, rfl, rfl, Nat.le_refl _, fun _ _ _ => rfl⟩
theorem keep_pl {W : World} {g b R : Nat} {wd lt most : Int} {w : World} {k nn : Nat} {mk : Int} {pl : List (Int × Int)} {v1 v2 : Value} (h : Hid (Pl W g b R wd lt most w k nn mk pl v1 v2)) : w.cell? ⟨R, 4, none⟩ = some v1 ∧ w.cell? ⟨R, 3, none⟩ = some (.int .u64 mk) ∧ Hid (Pl W g b R wd lt most w k nn mk pl v1 v2) :=
  ⟨h.out.rf.cells.2.2.2.2.1, h.out.rf.cells.2.2.2.1, h⟩
theorem keep_pl_drew {W : World} {g b R : Nat} {wd lt most : Int} {w : World} {k nn : Nat} {mk : Int} {pl : List (Int × Int)} {v1 v2 : Value} (h : Hid (Pl W g b R wd lt most w k nn mk pl v1 v2)) : w.drew.cell? ⟨R, 4, none⟩ = some v1 ∧ w.drew.cell? ⟨R, 3, none⟩ = some (.int .u64 mk) ∧ Hid (Pl W g b R wd lt most w.drew k nn mk pl v1 v2) :=
  keep_pl (Lib.hid (h.out.old (drew_grown1 w none)))
theorem keep_pl_drewN {W : World} {g b R : Nat} {wd lt most : Int} {w : World} {k nn q : Nat} {mk : Int} {pl : List (Int × Int)} {v1 v2 : Value} (h : Hid (Pl W g b R wd lt most w k nn mk pl v1 v2)) : (w.drewN q).cell? ⟨R, 4, none⟩ = some v1 ∧ (w.drewN q).cell? ⟨R, 3, none⟩ = some (.int .u64 mk) ∧ Hid (Pl W g b R wd lt most (w.drewN q) k nn mk pl v1 v2) :=
  keep_pl (Lib.hid (h.out.old (drew_grown w q none)))
theorem keep_pl_below {W : World} {g b R : Nat} {wd lt most : Int} {w w' : World} {k nn : Nat} {mk : Int} {pl : List (Int × Int)} {v1 v2 : Value} (h : Hid (Pl W g b R wd lt most w k nn mk pl v1 v2)) (hb : Below w.heap.size w w') : Hid (Pl W g b R wd lt most w' k nn mk pl v1 v2) :=
  Lib.hid (h.out.old (grownBy_of_below hb none))

set_option maxHeartbeats 4000000 in
set_option maxRecDepth 100000 in
theorem windowPlays_walk (wd lt most : Int) (g0 : 1 ≤ wd) (g1 : wd ≤ 4611686018427387904) (g2 : 0 ≤ lt) (g3 : lt ≤ 4611686018427387904) (g4 : 1 ≤ most) (g5 : most ≤ 65536) (A : Option Addr) (cap : Nat) (l : List (Int × Int × Int)) (W : World) (hA : Acts W A l) :
    Calls Try.prog 5 #[.int .u64 wd, .int .u64 lt, .int .i64 most, .slice A l.length cap] W fun e w' => e = .returned (.bool true) ∧ Below W.heap.size W w' := by
  have HAl := Lib.hid (alive_calls W)
  have hlen := hA.len
  by_cases hbig : 100 < l.length
  · have hd : decide ((100 : Int) < (l.length : Int)) = true := decide_eq_true (by omega)
    clear hA hlen hbig g0 g1 g2 g3 g4 g5
    go_enter Try.func5, Try.ntmps5
    go_wp2_with (go_at_call 7; refine HAl.out.mono ?_; rintro e W1 ⟨rfl, hb1⟩)
    go_ret
    exact ⟨rfl, hb1⟩
  have hd : decide ((100 : Int) < (l.length : Int)) = false := decide_eq_false (by omega)
  have HN := fun X => Lib.hid (new_ok wd lt most (by omega) (by omega) (by omega) (by omega) (by omega) X)
  have d0 : decide (wd < 1) = false := decide_eq_false (by omega)
  have d1 : decide (4611686018427387904 < wd) = false := decide_eq_false (by omega)
  have d2 : decide (4611686018427387904 < lt) = false := decide_eq_false (by omega)
  have d3 : decide (most < 1) = false := decide_eq_false (by omega)
  have d4 : decide (65536 < most) = false := decide_eq_false (by omega)
  have HAc := Lib.hid hA
  have HG := Lib.hid (And.intro g0 (And.intro g1 (And.intro g2 (And.intro g3 (And.intro g4 g5)))))
  clear hA hlen g0 g1 g2 g3 g4 g5
  go_enter Try.func5, Try.ntmps5
  go_wp2_with (first
    | (go_at_call 7; refine HAl.out.mono ?_; rintro e W1 ⟨rfl, hb1⟩)
    | (go_at_call 11; refine (HN _).out.mono ?_; rintro e W2 ⟨rfl, hB2, hb2, hs2⟩))
  have hgo := World.grownBy_alloc W2 (.cells #[.int .u64 wd, .int .u64 lt, .int .i64 most, .int .u64 0, .slice none 0 0, .slice none 0 0] 45) none
  have S0 : Pl W (W1.heap.size + 1) W1.heap.size (W1.heap.size + 2) wd lt most (W2.alloc (.cells #[.int .u64 wd, .int .u64 lt, .int .i64 most, .int .u64 0, .slice none 0 0, .slice none 0 0] 45)) 0 0 0 [] (.slice none 0 0) (.slice none 0 0) := by
    have hs := hb1.size
    have HG := HG.out
    refine ⟨(hb1.trans (hb2.mono hb1.size)).grown hgo (by omega) (by simp), hB2.kept hgo (by simp) (by simp), ⟨by omega, by omega, by omega, by omega, by omega, by omega⟩, by omega, ⟨?_, World.ownsRow_nil _ _ _ _, World.ownsRow_nil _ _ _ _, by simp⟩, Nat.le_refl _, by simp⟩
    rw [← hs2]; exact newBlk _ _
  have SH := Lib.hid S0
  clear S0 hgo hB2 hb2 hb1 HN HAl
  rw [← hs2] at SH
  generalize hW3 : W2.alloc (.cells #[.int .u64 wd, .int .u64 lt, .int .i64 most, .int .u64 0, .slice none 0 0, .slice none 0 0] 45) = W3 at SH ⊢
  clear hW3
  rw [hs2] at SH
  generalize W1.heap.size + 1 = g at SH
  generalize W1.heap.size + 2 = R at SH hs2
  generalize W1.heap.size = b at SH
  clear hs2
  go_loopg [12] l.length (fun k s12 wr => ∃ (i nn : Nat) (mk : Int) (pl : List (Int × Int)) (v1 v2 : Value), i ≤ l.length ∧ k = l.length - i ∧ s12 = .int .i64 i ∧ Hid (Pl W g b R wd lt most wr i nn mk pl v1 v2))
  case atStart => exact ⟨0, 0, 0, [], _, _, by omega, by omega, by first | rfl | simp, SH⟩
  case round =>
    clear SH
    obtain ⟨i, nn, mk, pl, v1, v2, hil, rfl, rfl, hst⟩ := hrel
    by_cases hlt : i < l.length
    · have hltz : (i : Int) < (l.length : Int) := by omega
      obtain ⟨⟨kind, T, V⟩, hx⟩ : ∃ x, l[i]? = some x := ⟨_, List.getElem?_eq_getElem hlt⟩
      obtain ⟨ab, off, rfl, hab, k1, k2, k3, hT, hV⟩ := HAc.out.at_ i _ hx
      have k1' := (hst.out.below.cell (p := ⟨ab, off + i * 3, none⟩) hab).trans k1
      have k2' := (hst.out.below.cell (p := ⟨ab, off + i * 3 + 1, none⟩) hab).trans k2
      have k3' := (hst.out.below.cell (p := ⟨ab, off + i * 3 + 2, none⟩) hab).trans k3
      dsimp only at k1' k2' k3' hT hV
      clear k1 k2 k3 hx
      go_upto_block 2 with (fail)
      have hS1 := Lib.hid (hst.out.old (World.grownBy_alloc wr (.cells #[.int .i64 kind, .int .u64 T, .int .i64 V] 34) none))
      have hc13 : (wr.alloc (.cells #[.int .i64 kind, .int .u64 T, .int .i64 V] 34)).heap[wr.heap.size]? = some (.cells #[.int .i64 kind, .int .u64 T, .int .i64 V] 34 (0, 0)) := newBlk _ _
      have hwr := hst.out.rf.lt
      generalize hwx : wr.alloc (.cells #[.int .i64 kind, .int .u64 T, .int .i64 V] 34) = wx at hS1 hc13 ⊢
      have hwx2 : wx.heap.size = wr.heap.size + 1 := by rw [← hwx]; simp
      clear hwx hst k1' k2' k3'
      generalize wr.heap.size = cx at hc13 hwx2 hwr ⊢
      have x0 : wx.cell? ⟨cx, 0, none⟩ = some (.int .i64 kind) := cell_of_block hc13 0
      have x1 : wx.cell? ⟨cx, 1, none⟩ = some (.int .u64 T) := cell_of_block hc13 1
      have x2 : wx.cell? ⟨cx, 2, none⟩ = some (.int .i64 V) := cell_of_block hc13 2
      go_cut [] (fun wc => ∃ (nn' : Nat) (mk' : Int) (pl' : List (Int × Int)) (v1' v2' : Value), Hid (Pl W g b R wd lt most wc (i + 1) nn' mk' pl' v1' v2'))
      case first =>
        rename_i JJ KK hJJ hKK
        change Code.wp Try.prog playsSwitch _ _ _
        clear x0 x1 x2
        by_cases hk0 : kind = 0
        · have e0 : (kind == 0) = true := beq_iff_eq.2 hk0
          clear hk0
          cases ho : overB (T / wd) wd lt mk with
          | true => exact pc_over wd lt most cap l W g R b i nn mk pl v1 v2 kind T V ab off cx wx HG hT hV (by omega) hS1 hc13 e0 ho _ _ _ _ _ _ _ _ _ _ _ _ _ _ _ _ _ _ _ _ _ _ _ _ _ _ _ _ _ _ _ _ _ _ _ _ _ _ _ _ _ _ _ _ _ _ _ _ _ _ _ _ _ _ _ _ _ _ _ _ _ _ _ _ _ _ _ _ _ _ _ _ _ _ _ _ _ _ _ _ _ _ _ _ _ _ _ _ _ _ _ _ _ _ _ _ _ _ _ _ _ _ _ _ _ _ _ _ _ _ _ _ _ _ _ _ _ _ _ _ _ _ _ _ _ _ _ _ _ _ _ _ _ _ _ _ _ _ _ _ _ _ _ _ _ _ _ _ _ _ _ _ _ _ _ _ _ _ _ _ _ _ _ _ _ _ _ _ _ _ _ _ _ _ _ _ _ _ _ _ _ _ _ _ _ _ _ _ _ _ _ _ _ _ _ _ _ _ _ _ _ _ _ _ _ _ _ _ _ _ _ _ _ _ _ _ _ _ _ _ _ _ _ _ _ _ _ _ _ _ _ _ _ _ _ _ _ _ _ _ _ _ _ _ _ _ _ _ _ _ _ _ _ _ _ _ JJ KK _ hJJ hKK
          | false =>
            by_cases hm : T / wd ∈ ks pl
            · obtain ⟨⟨a, pv⟩, hp, ea⟩ := List.mem_map.1 hm
              obtain ⟨j, hj⟩ := List.getElem?_of_mem hp
              dsimp only at ea
              subst ea
              exact pc_there wd lt most cap l W g R b i nn mk pl v1 v2 kind T V ab off cx wx HG hT hV (by omega) hS1 hc13 e0 ho j pv hj _ _ _ _ _ _ _ _ _ _ _ _ _ _ _ _ _ _ _ _ _ _ _ _ _ _ _ _ _ _ _ _ _ _ _ _ _ _ _ _ _ _ _ _ _ _ _ _ _ _ _ _ _ _ _ _ _ _ _ _ _ _ _ _ _ _ _ _ _ _ _ _ _ _ _ _ _ _ _ _ _ _ _ _ _ _ _ _ _ _ _ _ _ _ _ _ _ _ _ _ _ _ _ _ _ _ _ _ _ _ _ _ _ _ _ _ _ _ _ _ _ _ _ _ _ _ _ _ _ _ _ _ _ _ _ _ _ _ _ _ _ _ _ _ _ _ _ _ _ _ _ _ _ _ _ _ _ _ _ _ _ _ _ _ _ _ _ _ _ _ _ _ _ _ _ _ _ _ _ _ _ _ _ _ _ _ _ _ _ _ _ _ _ _ _ _ _ _ _ _ _ _ _ _ _ _ _ _ _ _ _ _ _ _ _ _ _ _ _ _ _ _ _ _ _ _ _ _ _ _ _ _ _ _ _ _ _ _ _ _ _ _ _ _ _ _ _ _ _ _ _ _ _ _ _ _ JJ KK _ hJJ hKK
            · by_cases hfull : most ≤ (pl.length : Int)
              · exact pc_full wd lt most cap l W g R b i nn mk pl v1 v2 kind T V ab off cx wx HG hT hV (by omega) hS1 hc13 e0 ho hm hfull _ _ _ _ _ _ _ _ _ _ _ _ _ _ _ _ _ _ _ _ _ _ _ _ _ _ _ _ _ _ _ _ _ _ _ _ _ _ _ _ _ _ _ _ _ _ _ _ _ _ _ _ _ _ _ _ _ _ _ _ _ _ _ _ _ _ _ _ _ _ _ _ _ _ _ _ _ _ _ _ _ _ _ _ _ _ _ _ _ _ _ _ _ _ _ _ _ _ _ _ _ _ _ _ _ _ _ _ _ _ _ _ _ _ _ _ _ _ _ _ _ _ _ _ _ _ _ _ _ _ _ _ _ _ _ _ _ _ _ _ _ _ _ _ _ _ _ _ _ _ _ _ _ _ _ _ _ _ _ _ _ _ _ _ _ _ _ _ _ _ _ _ _ _ _ _ _ _ _ _ _ _ _ _ _ _ _ _ _ _ _ _ _ _ _ _ _ _ _ _ _ _ _ _ _ _ _ _ _ _ _ _ _ _ _ _ _ _ _ _ _ _ _ _ _ _ _ _ _ _ _ _ _ _ _ _ _ _ _ _ _ _ _ _ _ _ _ _ _ _ _ _ _ _ _ _ JJ KK _ hJJ hKK
              · exact pc_put wd lt most cap l W g R b i nn mk pl v1 v2 kind T V ab off cx wx HG hT hV (by omega) hS1 hc13 e0 ho hm (by omega) _ _ _ _ _ _ _ _ _ _ _ _ _ _ _ _ _ _ _ _ _ _ _ _ _ _ _ _ _ _ _ _ _ _ _ _ _ _ _ _ _ _ _ _ _ _ _ _ _ _ _ _ _ _ _ _ _ _ _ _ _ _ _ _ _ _ _ _ _ _ _ _ _ _ _ _ _ _ _ _ _ _ _ _ _ _ _ _ _ _ _ _ _ _ _ _ _ _ _ _ _ _ _ _ _ _ _ _ _ _ _ _ _ _ _ _ _ _ _ _ _ _ _ _ _ _ _ _ _ _ _ _ _ _ _ _ _ _ _ _ _ _ _ _ _ _ _ _ _ _ _ _ _ _ _ _ _ _ _ _ _ _ _ _ _ _ _ _ _ _ _ _ _ _ _ _ _ _ _ _ _ _ _ _ _ _ _ _ _ _ _ _ _ _ _ _ _ _ _ _ _ _ _ _ _ _ _ _ _ _ _ _ _ _ _ _ _ _ _ _ _ _ _ _ _ _ _ _ _ _ _ _ _ _ _ _ _ _ _ _ _ _ _ _ _ _ _ _ _ _ _ _ _ _ _ _ JJ KK _ hJJ hKK
        have e0 : (kind == 0) = false := beq_eq_false_iff_ne.2 hk0
        by_cases hk1 : kind = 1
        · have e1 : (kind == 1) = true := beq_iff_eq.2 hk1
          have e3 : (kind == 3) = false := beq_eq_false_iff_ne.2 (by omega)
          exact pc_one wd lt most cap l W g R b i nn mk pl v1 v2 kind T V ab off cx wx HG hT hV (by omega) hS1 hc13 e0 e1 e3 _ _ _ _ _ _ _ _ _ _ _ _ _ _ _ _ _ _ _ _ _ _ _ _ _ _ _ _ _ _ _ _ _ _ _ _ _ _ _ _ _ _ _ _ _ _ _ _ _ _ _ _ _ _ _ _ _ _ _ _ _ _ _ _ _ _ _ _ _ _ _ _ _ _ _ _ _ _ _ _ _ _ _ _ _ _ _ _ _ _ _ _ _ _ _ _ _ _ _ _ _ _ _ _ _ _ _ _ _ _ _ _ _ _ _ _ _ _ _ _ _ _ _ _ _ _ _ _ _ _ _ _ _ _ _ _ _ _ _ _ _ _ _ _ _ _ _ _ _ _ _ _ _ _ _ _ _ _ _ _ _ _ _ _ _ _ _ _ _ _ _ _ _ _ _ _ _ _ _ _ _ _ _ _ _ _ _ _ _ _ _ _ _ _ _ _ _ _ _ _ _ _ _ _ _ _ _ _ _ _ _ _ _ _ _ _ _ _ _ _ _ _ _ _ _ _ _ _ _ _ _ _ _ _ _ _ _ _ _ _ _ _ _ _ _ _ _ _ _ _ _ _ _ _ _ _ JJ KK _ hJJ hKK
        have e1 : (kind == 1) = false := beq_eq_false_iff_ne.2 hk1
        by_cases hk3 : kind = 3
        · have e3 : (kind == 3) = true := beq_iff_eq.2 hk3
          exact pc_three wd lt most cap l W g R b i nn mk pl v1 v2 kind T V ab off cx wx HG hT hV (by omega) hS1 hc13 e0 e1 e3 _ _ _ _ _ _ _ _ _ _ _ _ _ _ _ _ _ _ _ _ _ _ _ _ _ _ _ _ _ _ _ _ _ _ _ _ _ _ _ _ _ _ _ _ _ _ _ _ _ _ _ _ _ _ _ _ _ _ _ _ _ _ _ _ _ _ _ _ _ _ _ _ _ _ _ _ _ _ _ _ _ _ _ _ _ _ _ _ _ _ _ _ _ _ _ _ _ _ _ _ _ _ _ _ _ _ _ _ _ _ _ _ _ _ _ _ _ _ _ _ _ _ _ _ _ _ _ _ _ _ _ _ _ _ _ _ _ _ _ _ _ _ _ _ _ _ _ _ _ _ _ _ _ _ _ _ _ _ _ _ _ _ _ _ _ _ _ _ _ _ _ _ _ _ _ _ _ _ _ _ _ _ _ _ _ _ _ _ _ _ _ _ _ _ _ _ _ _ _ _ _ _ _ _ _ _ _ _ _ _ _ _ _ _ _ _ _ _ _ _ _ _ _ _ _ _ _ _ _ _ _ _ _ _ _ _ _ _ _ _ _ _ _ _ _ _ _ _ _ _ _ _ _ _ _ _ JJ KK _ hJJ hKK
        have e3 : (kind == 3) = false := beq_eq_false_iff_ne.2 hk3
        by_cases hk2 : kind = 2
        · have e2 : (kind == 2) = true := beq_iff_eq.2 hk2
          by_cases hm : T ∈ ks pl
          · obtain ⟨⟨a, pv⟩, hp, ea⟩ := List.mem_map.1 hm
            obtain ⟨j, hj⟩ := List.getElem?_of_mem hp
            dsimp only at ea
            have ea2 := ea.symm
            subst ea2
            exact pc_two_there wd lt most cap l W g R b i nn mk pl v1 v2 kind T V ab off cx wx HG hT hV (by omega) hS1 hc13 e0 e1 e3 e2 j pv hj _ _ _ _ _ _ _ _ _ _ _ _ _ _ _ _ _ _ _ _ _ _ _ _ _ _ _ _ _ _ _ _ _ _ _ _ _ _ _ _ _ _ _ _ _ _ _ _ _ _ _ _ _ _ _ _ _ _ _ _ _ _ _ _ _ _ _ _ _ _ _ _ _ _ _ _ _ _ _ _ _ _ _ _ _ _ _ _ _ _ _ _ _ _ _ _ _ _ _ _ _ _ _ _ _ _ _ _ _ _ _ _ _ _ _ _ _ _ _ _ _ _ _ _ _ _ _ _ _ _ _ _ _ _ _ _ _ _ _ _ _ _ _ _ _ _ _ _ _ _ _ _ _ _ _ _ _ _ _ _ _ _ _ _ _ _ _ _ _ _ _ _ _ _ _ _ _ _ _ _ _ _ _ _ _ _ _ _ _ _ _ _ _ _ _ _ _ _ _ _ _ _ _ _ _ _ _ _ _ _ _ _ _ _ _ _ _ _ _ _ _ _ _ _ _ _ _ _ _ _ _ _ _ _ _ _ _ _ _ _ _ _ _ _ _ _ _ _ _ _ _ _ _ _ _ _ JJ KK _ hJJ hKK
          · exact pc_two_not wd lt most cap l W g R b i nn mk pl v1 v2 kind T V ab off cx wx HG hT hV (by omega) hS1 hc13 e0 e1 e3 e2 hm _ _ _ _ _ _ _ _ _ _ _ _ _ _ _ _ _ _ _ _ _ _ _ _ _ _ _ _ _ _ _ _ _ _ _ _ _ _ _ _ _ _ _ _ _ _ _ _ _ _ _ _ _ _ _ _ _ _ _ _ _ _ _ _ _ _ _ _ _ _ _ _ _ _ _ _ _ _ _ _ _ _ _ _ _ _ _ _ _ _ _ _ _ _ _ _ _ _ _ _ _ _ _ _ _ _ _ _ _ _ _ _ _ _ _ _ _ _ _ _ _ _ _ _ _ _ _ _ _ _ _ _ _ _ _ _ _ _ _ _ _ _ _ _ _ _ _ _ _ _ _ _ _ _ _ _ _ _ _ _ _ _ _ _ _ _ _ _ _ _ _ _ _ _ _ _ _ _ _ _ _ _ _ _ _ _ _ _ _ _ _ _ _ _ _ _ _ _ _ _ _ _ _ _ _ _ _ _ _ _ _ _ _ _ _ _ _ _ _ _ _ _ _ _ _ _ _ _ _ _ _ _ _ _ _ _ _ _ _ _ _ _ _ _ _ _ _ _ _ _ _ _ _ _ _ _ JJ KK _ hJJ hKK
        have e2 : (kind == 2) = false := beq_eq_false_iff_ne.2 hk2
        exact pc_else wd lt most cap l W g R b i nn mk pl v1 v2 kind T V ab off cx wx HG hT hV (by omega) hS1 hc13 e0 e1 e3 e2 _ _ _ _ _ _ _ _ _ _ _ _ _ _ _ _ _ _ _ _ _ _ _ _ _ _ _ _ _ _ _ _ _ _ _ _ _ _ _ _ _ _ _ _ _ _ _ _ _ _ _ _ _ _ _ _ _ _ _ _ _ _ _ _ _ _ _ _ _ _ _ _ _ _ _ _ _ _ _ _ _ _ _ _ _ _ _ _ _ _ _ _ _ _ _ _ _ _ _ _ _ _ _ _ _ _ _ _ _ _ _ _ _ _ _ _ _ _ _ _ _ _ _ _ _ _ _ _ _ _ _ _ _ _ _ _ _ _ _ _ _ _ _ _ _ _ _ _ _ _ _ _ _ _ _ _ _ _ _ _ _ _ _ _ _ _ _ _ _ _ _ _ _ _ _ _ _ _ _ _ _ _ _ _ _ _ _ _ _ _ _ _ _ _ _ _ _ _ _ _ _ _ _ _ _ _ _ _ _ _ _ _ _ _ _ _ _ _ _ _ _ _ _ _ _ _ _ _ _ _ _ _ _ _ _ _ _ _ _ _ _ _ _ _ _ _ _ _ _ _ _ _ _ _ _ _ JJ KK _ hJJ hKK
      case rest =>
        obtain ⟨nn', mk', pl', v1', v2', hst⟩ := hcut
        clear hS1 hc13 x0 x1 x2 hT hV
        obtain ⟨A1, c1, rfl, _⟩ := hst.out.rf.wcell
        obtain ⟨s0, s1, s2, s3, s4, s5⟩ := hst.out.rf.cells
        have hcn := hst.out.cnt
        have HRW := fun w' (h : Hid (Pl W g b R wd lt most w' (i + 1) nn' mk' pl' (.slice A1 pl'.length c1) v2')) => h.out.rf.r1
        have hkr : keysOf pl' = ks pl' := keysOf_rising hst.out.rf.rising
        have HO := fun w' (h : Hid (Pl W g b R wd lt most w' (i + 1) nn' mk' pl' (.slice A1 pl'.length c1) v2')) => Lib.hid (open_calls h.out.book (by omega))
        rw [hkr] at HO
        have HM := fun w' (h : Hid (Pl W g b R wd lt most w' (i + 1) nn' mk' pl' (.slice A1 pl'.length c1) v2')) => Lib.hid (mark_calls h.out.book)
        clear hkr s0 s1 s2 s5
        go_wp2_with fail
        go_region_held3 (fun w' => w'.cell? ⟨R, 4, none⟩ = some (.slice A1 pl'.length c1) ∧ w'.cell? ⟨R, 3, none⟩ = some (.int .u64 mk') ∧ Hid (Pl W g b R wd lt most w' (i + 1) nn' mk' pl' (.slice A1 pl'.length c1) v2'))
          (first | exact keep_pl (by assumption) | (go_split_ands; first | exact keep_pl_drew (by assumption) | exact keep_pl_drewN (by assumption)))
          (first
            | (go_at_call 15; go_split_ands; refine (HO _ (by assumption)).out.mono ?_; rintro e w5 ⟨v5, rfl, hrow5, hb5⟩; have hS5 := keep_pl_below (by assumption) hb5)
            | (go_at_call 20; go_split_ands; refine (ints_calls (hrow5) (HRW _ (by assumption)) (by simp [ks]; omega)).mono ?_; rintro e w6 ⟨rfl, q, rfl⟩)
            | (go_at_call 16; go_split_ands; refine (HM _ (by assumption)).out.mono ?_; rintro e w7 ⟨rfl, rfl⟩))
        go_wp2
        go_roundg (l.length - (i + 1))
        case measure => omega
        case rel => exact ⟨i + 1, nn', mk', pl', _, _, by omega, rfl, by go_num, by assumption⟩
    · have hltz : ¬ (i : Int) < (l.length : Int) := by omega
      go_wp2
      go_ret
      exact ⟨rfl, hst.out.below⟩
end Go.Proofs.Ytdiepeomhnkgpaa
