/- WindowPlays: At with a closure; the state of the loop. -/
import Derived.Test.YtdiepeomhnkgpaaPlaysA
import Derived.Test.YtdiepeomhnkgpaaMD
namespace Go.Proofs.Ytdiepeomhnkgpaa
open Go.Proofs Go.Maps Go.RowKit Go.Sort Go.Shelf
set_option linter.unusedVariables false

theorem fresh_calls (W : World) (ca cx : Nat) (V : Int) (h0 : W.heap[ca]? = some (.cells #[.int .i64 0] 3 (0, 0))) (hx : W.cell? ⟨cx, 2, none⟩ = some (.int .i64 V)) (hne : cx ≠ ca) :
    Calls Try.prog 17 #[.pointer (some ⟨ca, 0, none⟩), .pointer (some ⟨cx, 0, none⟩)] W fun e w' => e = .returned (.int .i64 V) ∧ W.setCell ⟨ca, 0, none⟩ (.int .i64 1) = w' := by
  have c0 : W.cell? ⟨ca, 0, none⟩ = some (.int .i64 0) := cell_of_block h0 0
  have f0 : W.frozen? ⟨ca, 0, none⟩ = false := freeOf h0 0
  have c1 : (W.setCell ⟨ca, 0, none⟩ (.int .i64 1)).cell? ⟨cx, 2, none⟩ = some (.int .i64 V) := (World.cell?_setCell_other _ _ _ _ (by simp)).trans hx
  clear h0
  go_enter Try.func17, Try.ntmps17
  go_wp2
  go_ret
  exact ⟨rfl, rfl⟩

set_option maxHeartbeats 1000000 in
theorem at_putf {W : World} {g b nn : Nat} {wd lt most mk : Int} {m : List (Int × Int)} (hB : IsBook W g b nn wd lt most mk m) (hF : Fine wd lt mk) (t : Int) (h0 : 0 ≤ t) (h1 : t < 18446744073709551616)
    (ho : overB (t / wd) wd lt mk = false) (hm : t / wd ∉ m.map Prod.fst) (hl : (m.length : Int) < most) (hn : nn < maxLen)
    (ca cx : Nat) (V : Int) (hV : -9223372036854775808 ≤ V ∧ V ≤ 9223372036854775807) (ha0 : W.heap[ca]? = some (.cells #[.int .i64 0] 3 (0, 0))) (hx : W.cell? ⟨cx, 2, none⟩ = some (.int .i64 V)) (hne : cx ≠ ca) :
    Calls Try.prog 12 #[.pointer (some ⟨g, 0, none⟩), .int .u64 t, .func (.func 17) #[] #[.pointer (some ⟨ca, 0, none⟩), .pointer (some ⟨cx, 0, none⟩)]] W fun e w' => e = .returned (.tuple #[.int .i64 V, .int .i64 0]) ∧ IsBook w' g b (nn + 1) wd lt most mk ((t / wd, V) :: m) ∧ w'.heap[ca]? = some (.cells #[.int .i64 1] 3 (0, 0)) ∧ ∃ W1, W.grownBy W1 (some ca) ∧ W1.grownBy w' (some b) := by
  have hlt := hB.lt
  have c0 : W.cell? ⟨g, 0, none⟩ = some (.int .u64 wd) := cellOf hB.blk 0
  have c2 : W.cell? ⟨g, 2, none⟩ = some (.int .i64 most) := cellOf hB.blk 2
  have c4 : W.cell? ⟨g, 4, none⟩ = some (.map (some b)) := cellOf hB.blk 4
  have hga : g ≠ ca := fun e => by have := hB.blk; rw [e, ha0] at this; cases this
  have hq0 : 0 ≤ t / wd := Int.ediv_nonneg h0 (by have := hF.w0; omega)
  have hq1 : t / wd < 18446744073709551616 := by have := Int.ediv_le_self wd h0; omega
  have HO := Lib.hid (of_calls t wd h0 h1 hF.w0 hF.w1 W)
  have HV := Lib.hid (bover_calls hB hF (t / wd) hq0 hq1)
  rw [ho] at HV
  obtain ⟨hblk, D, hown, hr⟩ := hB
  have hba : b ≠ ca := fun e => by obtain ⟨es, ck, hb, _⟩ := hown; rw [e, ha0] at hb; cases hb
  have hh : Maps.has D (.int .u64 (t / wd)) = false := rep_not hr hm
  have hkey := keyOf_int_mk Try.underlying22 (wf_u64 hq0 hq1)
  have hlen : ∀ q, (Builtin.len_ #[61] 3 #[.map (some b)]).run Try.prog (W.drewN q) = .ok (.int .i64 (m.length : Int)) (W.drewN q) := fun q => by
    have := World.ownsMap.len (w := W.drewN q) (show (W.drewN q).ownsMap Try.prog 22 (plainElem Try.prog 3) b nn D from hown) Try.underlying61 3
    rw [hr.size] at this
    exact this
  have hge : decide (most ≤ (m.length : Int)) = false := decide_eq_false (by omega)
  have hnf : ∀ f w, Sem.run Try.prog (binOp .neq 46 (.func (.func 17) #[] f) .nilFunc) w = .ok (.bool true) w := fun f w => by kernel_rfl
  have HR := Lib.hid (rep_put (v := V) hr hm hq0 hq1 (WalkArith.wf_i64 hV))
  have HVw := Lib.hid (WalkArith.wf_i64 hV)
  have HB := Lib.hid hblk
  have HFr := fun q => Lib.hid (fresh_calls (W.drewN q) ca cx V ha0 hx hne)
  have gset : ∀ q, (W.drewN q).grownBy ((W.drewN q).setCell ⟨ca, 0, none⟩ (.int .i64 1)) (some ca) := fun q => by
    refine ⟨rfl, rfl, rfl, by simp [World.setCell], fun i hi hne => ?_⟩
    have : ca ≠ i := fun e => hne (by rw [e])
    simp [World.setCell, Array.getElem?_modify, this]
  have hown2 : ∀ q, ((W.drewN q).setCell ⟨ca, 0, none⟩ (.int .i64 1)).ownsMap Try.prog 22 (plainElem Try.prog 3) b nn D := fun q => World.ownsMap.kept (show (W.drewN q).ownsMap Try.prog 22 (plainElem Try.prog 3) b nn D from hown) (gset q) (by simp [hba])
  have c4' : ∀ q, ((W.drewN q).setCell ⟨ca, 0, none⟩ (.int .i64 1)).cell? ⟨g, 4, none⟩ = some (.map (some b)) := fun q => (World.cell?_setCell_other _ _ _ _ (by simp)).trans c4
  have GS := Lib.hid gset
  have HA0 := Lib.hid ha0
  generalize (m.length : Int) = len at hlen hge
  generalize t / wd = x at HO HV hh hkey HR ⊢
  clear hF h0 h1 hq0 hq1 ho hr hm hl hblk hV ha0 hx gset
  go_enter Try.func12, Try.ntmps12
  go_wp2_with (first
    | (go_at_call 10; refine HO.out.mono ?_; rintro e w' ⟨rfl, rfl⟩)
    | (go_at_call 31; refine HV.out.mono ?_; rintro e w' ⟨rfl, q, rfl⟩)
    | (at_lookup; refine wpList_lookup_own_ok_int _ rfl _ _ 61 rfl 22 3 .i64 law22 Try.underlying61 Try.underlying3 (zero3 _) b nn D rfl hown _ _ rfl hkey ?_; intro c hat hwc))
  go_quiet (fail)
  go_wp2_with (first
    | (go_at_call 17; refine (HFr _).out.mono ?_; rintro e w' ⟨rfl, rfl⟩)
    | (at_mapUpdate; refine wpList_mapUpdate_own _ rfl _ _ _ 61 rfl 22 3 law22 Try.underlying61 _ b nn D rfl (hown2 _) hn _ _ _ rfl rfl hkey _ [] (plainElem_int Try.underlying3 HVw.out) ?_; intro w1 hown1 hgrow1))
  go_ret2
  have hgc : (((W.drewN (q + nq)).setCell ⟨ca, 0, none⟩ (.int .i64 1)).heap[ca]? = some (.cells #[.int .i64 1] 3 (0, 0))) := by
    have := HA0.out
    simp [World.setCell, Array.getElem?_modify, this]
  have hgr1 := GS.out (q + nq)
  have hblk1 : ((W.drewN (q + nq)).setCell ⟨ca, 0, none⟩ (.int .i64 1)).heap[g]? = _ := (hgr1.block g hlt.1 (by simp [hga])).trans HB.out
  have hal : ca < ((W.drewN (q + nq)).setCell ⟨ca, 0, none⟩ (.int .i64 1)).heap.size := (Array.getElem?_eq_some_iff.1 hgc).1
  refine ⟨rfl, ⟨blk_past_map hblk1 (W1 := (W.drewN (q + nq)).setCell ⟨ca, 0, none⟩ (.int .i64 1)) (hown2 _) hgrow1, _, hown1, HR.out⟩, (hgrow1.block ca hal (by simp; exact fun e => hba e.symm)).trans hgc, _, ⟨hgr1.os, hgr1.tape, hgr1.output, hgr1.size, hgr1.block⟩, hgrow1⟩
end Go.Proofs.Ytdiepeomhnkgpaa
