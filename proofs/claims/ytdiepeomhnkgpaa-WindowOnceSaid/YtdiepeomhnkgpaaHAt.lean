/- The book's At with nothing fresh; Take, Look, Mark. -/
import Derived.Test.YtdiepeomhnkgpaaHBook
import Derived.Outline
namespace Go.Proofs.Ytdiepeomhnkgpaa
open Go Go.Maps Go.RowKit

/-- What is no map's block stands as it stood. -/
theorem blk_past_map {W W1 w' : World} {g b nn : Nat} {D : DataW Unit} {o : Array Value} {t : TypeId} {fr : Nat × Nat} (hg : W.heap[g]? = some (.cells o t fr)) (hown : W1.ownsMap Try.prog 22 (plainElem Try.prog 3) b nn D) (hgr : W1.grownBy w' (some b)) (h1 : W1.heap = W.heap := by rfl) : w'.heap[g]? = some (.cells o t fr) := by
  have hgl : g < W.heap.size := (Array.getElem?_eq_some_iff.1 hg).1
  refine (hgr.block g (by rw [h1]; exact hgl) ?_).trans (by rw [h1]; exact hg)
  intro e
  obtain rfl : g = b := by injection e
  obtain ⟨es, clock, hb, _⟩ := hown
  rw [h1, hg] at hb
  cases hb

theorem of_calls (t wd : Int) (h0 : 0 ≤ t) (h1 : t < 18446744073709551616) (hw : 1 ≤ wd) (hw1 : wd < 18446744073709551616) (W : World) :
    Calls Try.prog 10 #[.int .u64 t, .int .u64 wd] W fun e w' => e = .returned (.int .u64 (t / wd)) ∧ W = w' := by
  have hz : (wd == 0) = false := beq_eq_false_iff_ne.2 (by omega)
  have ht : t ≤ 18446744073709551615 := by omega
  clear h1 hw1
  go_enter Try.func10, Try.ntmps10
  go_wp2
  go_ret
  exact ⟨rfl, rfl⟩

set_option maxHeartbeats 1000000 in
theorem at_over {W : World} {g b nn : Nat} {wd lt most mk : Int} {m : List (Int × Int)} (hB : IsBook W g b nn wd lt most mk m) (hF : Fine wd lt mk) (t : Int) (h0 : 0 ≤ t) (h1 : t < 18446744073709551616) (f : Value)
    (ho : overB (t / wd) wd lt mk = true) :
    Calls Try.prog 12 #[.pointer (some ⟨g, 0, none⟩), .int .u64 t, f] W fun e w' => e = .returned (.tuple #[.int .i64 0, .int .i64 40]) ∧ ∃ q, w' = W.drewN q := by
  have c0 : W.cell? ⟨g, 0, none⟩ = some (.int .u64 wd) := cellOf hB.blk 0
  have hq0 : 0 ≤ t / wd := Int.ediv_nonneg h0 (by have := hF.w0; omega)
  have hq1 : t / wd < 18446744073709551616 := by have := Int.ediv_le_self wd h0; omega
  have HO := Lib.hid (of_calls t wd h0 h1 hF.w0 hF.w1 W)
  have HV := Lib.hid (bover_calls hB hF (t / wd) hq0 hq1)
  rw [ho] at HV
  generalize t / wd = x at HO HV
  clear hB hF h0 h1 hq0 hq1 ho
  go_enter Try.func12, Try.ntmps12
  go_wp2_with (first
    | (go_at_call 10; refine HO.out.mono ?_; rintro e w' ⟨rfl, rfl⟩)
    | (go_at_call 31; refine HV.out.mono ?_; rintro e w' ⟨rfl, q, rfl⟩))
  go_ret2
  exact ⟨rfl, q, rfl⟩

set_option maxHeartbeats 1000000 in
theorem at_there {W : World} {g b nn : Nat} {wd lt most mk : Int} {m : List (Int × Int)} (hB : IsBook W g b nn wd lt most mk m) (hF : Fine wd lt mk) (t : Int) (h0 : 0 ≤ t) (h1 : t < 18446744073709551616) (f : Value)
    (ho : overB (t / wd) wd lt mk = false) (v : Int) (hm : (t / wd, v) ∈ m) :
    Calls Try.prog 12 #[.pointer (some ⟨g, 0, none⟩), .int .u64 t, f] W fun e w' => e = .returned (.tuple #[.int .i64 v, .int .i64 0]) ∧ ∃ q, w' = W.drewN q := by
  have c0 : W.cell? ⟨g, 0, none⟩ = some (.int .u64 wd) := cellOf hB.blk 0
  have c4 : W.cell? ⟨g, 4, none⟩ = some (.map (some b)) := cellOf hB.blk 4
  have hq0 : 0 ≤ t / wd := Int.ediv_nonneg h0 (by have := hF.w0; omega)
  have hq1 : t / wd < 18446744073709551616 := by have := Int.ediv_le_self wd h0; omega
  have HO := Lib.hid (of_calls t wd h0 h1 hF.w0 hF.w1 W)
  have HV := Lib.hid (bover_calls hB hF (t / wd) hq0 hq1)
  rw [ho] at HV
  obtain ⟨_, D, hown, hr⟩ := hB
  have hh : Maps.has D (.int .u64 (t / wd)) = true := (hr.keys _).2 (List.mem_map.2 ⟨_, hm, rfl⟩)
  have hkey := keyOf_int_mk Try.underlying22 (wf_u64 hq0 hq1)
  have hat0 := hr.vals _ hm (.lit (.int .i64 0))
  dsimp only at hat0
  generalize t / wd = x at HO HV hh hkey hat0
  have HA := Lib.hid hat0
  clear hF h0 h1 hq0 hq1 ho hat0 hr hm
  go_enter Try.func12, Try.ntmps12
  go_wp2_with (first
    | (go_at_call 10; refine HO.out.mono ?_; rintro e w' ⟨rfl, rfl⟩)
    | (go_at_call 31; refine HV.out.mono ?_; rintro e w' ⟨rfl, q, rfl⟩)
    | (at_lookup; refine wpList_lookup_own_ok_int _ rfl _ _ 61 rfl 22 3 .i64 law22 Try.underlying61 Try.underlying3 (zero3 _) b nn D rfl hown _ _ rfl hkey ?_; intro c hat hwc))
  rw [HA.out] at hat
  obtain rfl : v = c := by simpa using hat
  go_ret2
  exact ⟨rfl, q, rfl⟩

set_option maxHeartbeats 1000000 in
theorem at_full {W : World} {g b nn : Nat} {wd lt most mk : Int} {m : List (Int × Int)} (hB : IsBook W g b nn wd lt most mk m) (hF : Fine wd lt mk) (t : Int) (h0 : 0 ≤ t) (h1 : t < 18446744073709551616) (f : Value)
    (ho : overB (t / wd) wd lt mk = false) (hm : t / wd ∉ m.map Prod.fst) (hl : most ≤ m.length) :
    Calls Try.prog 12 #[.pointer (some ⟨g, 0, none⟩), .int .u64 t, f] W fun e w' => e = .returned (.tuple #[.int .i64 0, .int .i64 31]) ∧ ∃ q, w' = W.drewN q := by
  have c0 : W.cell? ⟨g, 0, none⟩ = some (.int .u64 wd) := cellOf hB.blk 0
  have c2 : W.cell? ⟨g, 2, none⟩ = some (.int .i64 most) := cellOf hB.blk 2
  have c4 : W.cell? ⟨g, 4, none⟩ = some (.map (some b)) := cellOf hB.blk 4
  have hq0 : 0 ≤ t / wd := Int.ediv_nonneg h0 (by have := hF.w0; omega)
  have hq1 : t / wd < 18446744073709551616 := by have := Int.ediv_le_self wd h0; omega
  have HO := Lib.hid (of_calls t wd h0 h1 hF.w0 hF.w1 W)
  have HV := Lib.hid (bover_calls hB hF (t / wd) hq0 hq1)
  rw [ho] at HV
  obtain ⟨_, D, hown, hr⟩ := hB
  have hh : Maps.has D (.int .u64 (t / wd)) = false := rep_not hr hm
  have hkey := keyOf_int_mk Try.underlying22 (wf_u64 hq0 hq1)
  have hlen : ∀ q, (Builtin.len_ #[61] 3 #[.map (some b)]).run Try.prog (W.drewN q) = .ok (.int .i64 (m.length : Int)) (W.drewN q) := fun q => by
    have := World.ownsMap.len (w := W.drewN q) (show (W.drewN q).ownsMap Try.prog 22 (plainElem Try.prog 3) b nn D from hown) Try.underlying61 3
    rw [hr.size] at this
    exact this
  have hge : decide (most ≤ (m.length : Int)) = true := decide_eq_true hl
  generalize (m.length : Int) = len at hlen hge
  generalize t / wd = x at HO HV hh hkey
  clear hF h0 h1 hq0 hq1 ho hr hm hl
  go_enter Try.func12, Try.ntmps12
  go_wp2_with (first
    | (go_at_call 10; refine HO.out.mono ?_; rintro e w' ⟨rfl, rfl⟩)
    | (go_at_call 31; refine HV.out.mono ?_; rintro e w' ⟨rfl, q, rfl⟩)
    | (at_lookup; refine wpList_lookup_own_ok_int _ rfl _ _ 61 rfl 22 3 .i64 law22 Try.underlying61 Try.underlying3 (zero3 _) b nn D rfl hown _ _ rfl hkey ?_; intro c hat hwc))
  go_quiet (fail)
  go_wp2
  go_ret2
  exact ⟨rfl, _, World.drewN_drewN _ _ _⟩

set_option maxHeartbeats 1000000 in
theorem at_put {W : World} {g b nn : Nat} {wd lt most mk : Int} {m : List (Int × Int)} (hB : IsBook W g b nn wd lt most mk m) (hF : Fine wd lt mk) (t : Int) (h0 : 0 ≤ t) (h1 : t < 18446744073709551616)
    (ho : overB (t / wd) wd lt mk = false) (hm : t / wd ∉ m.map Prod.fst) (hl : (m.length : Int) < most) (hn : nn < maxLen) :
    Calls Try.prog 12 #[.pointer (some ⟨g, 0, none⟩), .int .u64 t, .nilFunc] W fun e w' => e = .returned (.tuple #[.int .i64 0, .int .i64 0]) ∧ IsBook w' g b (nn + 1) wd lt most mk ((t / wd, 0) :: m) ∧ ∃ q, (W.drewN q).grownBy w' (some b) := by
  have c0 : W.cell? ⟨g, 0, none⟩ = some (.int .u64 wd) := cellOf hB.blk 0
  have c2 : W.cell? ⟨g, 2, none⟩ = some (.int .i64 most) := cellOf hB.blk 2
  have c4 : W.cell? ⟨g, 4, none⟩ = some (.map (some b)) := cellOf hB.blk 4
  have hq0 : 0 ≤ t / wd := Int.ediv_nonneg h0 (by have := hF.w0; omega)
  have hq1 : t / wd < 18446744073709551616 := by have := Int.ediv_le_self wd h0; omega
  have HO := Lib.hid (of_calls t wd h0 h1 hF.w0 hF.w1 W)
  have HV := Lib.hid (bover_calls hB hF (t / wd) hq0 hq1)
  rw [ho] at HV
  obtain ⟨hblk, D, hown, hr⟩ := hB
  have hh : Maps.has D (.int .u64 (t / wd)) = false := rep_not hr hm
  have hkey := keyOf_int_mk Try.underlying22 (wf_u64 hq0 hq1)
  have hlen : ∀ q, (Builtin.len_ #[61] 3 #[.map (some b)]).run Try.prog (W.drewN q) = .ok (.int .i64 (m.length : Int)) (W.drewN q) := fun q => by
    have := World.ownsMap.len (w := W.drewN q) (show (W.drewN q).ownsMap Try.prog 22 (plainElem Try.prog 3) b nn D from hown) Try.underlying61 3
    rw [hr.size] at this
    exact this
  have hge : decide (most ≤ (m.length : Int)) = false := decide_eq_false (by omega)
  have hnf : ∀ w, Sem.run Try.prog (binOp .neq 46 .nilFunc .nilFunc) w = .ok (.bool false) w := fun w => by kernel_rfl
  have HR := Lib.hid (rep_put (v := 0) hr hm hq0 hq1 (by decide))
  have HB := Lib.hid hblk
  generalize (m.length : Int) = len at hlen hge
  generalize t / wd = x at HO HV hh hkey HR ⊢
  clear hF h0 h1 hq0 hq1 ho hr hm hl hblk
  go_enter Try.func12, Try.ntmps12
  go_wp2_with (first
    | (go_at_call 10; refine HO.out.mono ?_; rintro e w' ⟨rfl, rfl⟩)
    | (go_at_call 31; refine HV.out.mono ?_; rintro e w' ⟨rfl, q, rfl⟩)
    | (at_lookup; refine wpList_lookup_own_ok_int _ rfl _ _ 61 rfl 22 3 .i64 law22 Try.underlying61 Try.underlying3 (zero3 _) b nn D rfl hown _ _ rfl hkey ?_; intro c hat hwc))
  go_quiet (fail)
  go_wp2_with (at_mapUpdate; refine wpList_mapUpdate_own _ rfl _ _ _ 61 rfl 22 3 law22 Try.underlying61 _ b nn D rfl hown hn _ _ _ rfl rfl hkey _ [] (plainElem_int Try.underlying3 (by decide)) ?_; intro w1 hown1 hgrow1)
  go_ret2
  refine ⟨rfl, ⟨?_, _, hown1, HR.out⟩, _, hgrow1⟩
  exact blk_past_map HB.out (W1 := W.drewN (q + nq)) hown hgrow1

set_option maxHeartbeats 1000000 in
theorem take_there {W : World} {g b nn : Nat} {wd lt most mk : Int} {m : List (Int × Int)} (hB : IsBook W g b nn wd lt most mk m) (x v : Int) (hm : (x, v) ∈ m) :
    Calls Try.prog 14 #[.pointer (some ⟨g, 0, none⟩), .int .u64 x] W fun e w' => e = .returned (.tuple #[.int .i64 v, .bool true]) ∧ IsBook w' g b nn wd lt most mk (m.filter fun p => p.1 ≠ x) ∧ W.mapTurned w' b := by
  have c4 : W.cell? ⟨g, 4, none⟩ = some (.map (some b)) := cellOf hB.blk 4
  obtain ⟨hblk, D, hown, hr⟩ := hB
  have hwf := hr.wf _ hm
  have hh : Maps.has D (.int .u64 x) = true := (hr.keys _).2 (List.mem_map.2 ⟨_, hm, rfl⟩)
  have hkey := keyOf_int_mk Try.underlying22 (wf_u64 hwf.1.1 hwf.1.2)
  have hat0 := hr.vals _ hm (.lit (.int .i64 0))
  dsimp only at hat0 hwf hkey
  have HA := Lib.hid hat0
  have HR := Lib.hid (rep_del hr x)
  have HB := Lib.hid hblk
  clear hat0 hr hm hwf hblk
  go_enter Try.func14, Try.ntmps14
  go_wp2_with (first
    | (at_lookup; refine wpList_lookup_own_ok_int _ rfl _ _ 61 rfl 22 3 .i64 law22 Try.underlying61 Try.underlying3 (zero3 _) b nn D rfl hown _ _ rfl hkey ?_; intro c hat hwc)
    | (at_delete; refine wpList_delete_own _ rfl _ _ 61 22 rfl 3 law22 Try.underlying61 _ b nn D rfl hown _ _ rfl hkey ?_; intro w1 hown1 hturn1))
  rw [HA.out] at hat
  obtain rfl : v = c := by simpa using hat
  go_ret2
  exact ⟨rfl, ⟨blk_past_map HB.out hown (hturn1.grown), _, hown1, HR.out⟩, hturn1⟩

set_option maxHeartbeats 1000000 in
theorem take_not {W : World} {g b nn : Nat} {wd lt most mk : Int} {m : List (Int × Int)} (hB : IsBook W g b nn wd lt most mk m) (x : Int) (h0 : 0 ≤ x) (h1 : x < 18446744073709551616) (hm : x ∉ m.map Prod.fst) :
    Calls Try.prog 14 #[.pointer (some ⟨g, 0, none⟩), .int .u64 x] W fun e w' => e = .returned (.tuple #[.int .i64 0, .bool false]) ∧ IsBook w' g b nn wd lt most mk m ∧ W.mapTurned w' b := by
  have c4 : W.cell? ⟨g, 4, none⟩ = some (.map (some b)) := cellOf hB.blk 4
  obtain ⟨hblk, D, hown, hr⟩ := hB
  have hh : Maps.has D (.int .u64 x) = false := rep_not hr hm
  have hkey := keyOf_int_mk Try.underlying22 (wf_u64 h0 h1)
  have hat0 := atKey_of_not_has hh (.lit (.int .i64 0))
  have hd := del_of_not_has hh
  have HA := Lib.hid hat0
  have HD := Lib.hid hd
  have HR := Lib.hid hr
  have HB := Lib.hid hblk
  clear hat0 hr hm hblk h0 h1 hd
  go_enter Try.func14, Try.ntmps14
  go_wp2_with (first
    | (at_lookup; refine wpList_lookup_own_ok_int _ rfl _ _ 61 rfl 22 3 .i64 law22 Try.underlying61 Try.underlying3 (zero3 _) b nn D rfl hown _ _ rfl hkey ?_; intro c hat hwc)
    | (at_delete; refine wpList_delete_own _ rfl _ _ 61 22 rfl 3 law22 Try.underlying61 _ b nn D rfl hown _ _ rfl hkey ?_; intro w1 hown1 hturn1))
  rw [HA.out] at hat
  obtain rfl : 0 = c := by simpa using hat
  rw [HD.out] at hown1
  go_ret2
  exact ⟨rfl, ⟨blk_past_map HB.out hown (hturn1.grown), _, hown1, HR.out⟩, hturn1⟩

set_option maxHeartbeats 1000000 in
theorem look_there {W : World} {g b nn : Nat} {wd lt most mk : Int} {m : List (Int × Int)} (hB : IsBook W g b nn wd lt most mk m) (x v : Int) (hm : (x, v) ∈ m) :
    Calls Try.prog 22 #[.pointer (some ⟨g, 0, none⟩), .int .u64 x] W fun e w' => e = .returned (.tuple #[.int .i64 v, .bool true]) ∧ W = w' := by
  have c4 : W.cell? ⟨g, 4, none⟩ = some (.map (some b)) := cellOf hB.blk 4
  obtain ⟨hblk, D, hown, hr⟩ := hB
  have hwf := hr.wf _ hm
  have hh : Maps.has D (.int .u64 x) = true := (hr.keys _).2 (List.mem_map.2 ⟨_, hm, rfl⟩)
  have hkey := keyOf_int_mk Try.underlying22 (wf_u64 hwf.1.1 hwf.1.2)
  have hat0 := hr.vals _ hm (.lit (.int .i64 0))
  dsimp only at hat0 hwf hkey
  have HA := Lib.hid hat0
  clear hat0 hr hm hwf hblk
  go_enter Try.func22, Try.ntmps22
  go_wp2_with (at_lookup; refine wpList_lookup_own_ok_int _ rfl _ _ 61 rfl 22 3 .i64 law22 Try.underlying61 Try.underlying3 (zero3 _) b nn D rfl hown _ _ rfl hkey ?_; intro c hat hwc)
  rw [HA.out] at hat
  obtain rfl : v = c := by simpa using hat
  go_ret2
  exact ⟨rfl, rfl⟩

set_option maxHeartbeats 1000000 in
theorem look_not {W : World} {g b nn : Nat} {wd lt most mk : Int} {m : List (Int × Int)} (hB : IsBook W g b nn wd lt most mk m) (x : Int) (h0 : 0 ≤ x) (h1 : x < 18446744073709551616) (hm : x ∉ m.map Prod.fst) :
    Calls Try.prog 22 #[.pointer (some ⟨g, 0, none⟩), .int .u64 x] W fun e w' => e = .returned (.tuple #[.int .i64 0, .bool false]) ∧ W = w' := by
  have c4 : W.cell? ⟨g, 4, none⟩ = some (.map (some b)) := cellOf hB.blk 4
  obtain ⟨hblk, D, hown, hr⟩ := hB
  have hh : Maps.has D (.int .u64 x) = false := rep_not hr hm
  have hkey := keyOf_int_mk Try.underlying22 (wf_u64 h0 h1)
  have hat0 := atKey_of_not_has hh (.lit (.int .i64 0))
  have HA := Lib.hid hat0
  clear hat0 hr hm hblk h0 h1
  go_enter Try.func22, Try.ntmps22
  go_wp2_with (at_lookup; refine wpList_lookup_own_ok_int _ rfl _ _ 61 rfl 22 3 .i64 law22 Try.underlying61 Try.underlying3 (zero3 _) b nn D rfl hown _ _ rfl hkey ?_; intro c hat hwc)
  rw [HA.out] at hat
  obtain rfl : 0 = c := by simpa using hat
  go_ret2
  exact ⟨rfl, rfl⟩

theorem mark_calls {W : World} {g b nn : Nat} {wd lt most mk : Int} {m : List (Int × Int)} (hB : IsBook W g b nn wd lt most mk m) :
    Calls Try.prog 16 #[.pointer (some ⟨g, 0, none⟩)] W fun e w' => e = .returned (.int .u64 mk) ∧ W = w' := by
  have c3 : W.cell? ⟨g, 3, none⟩ = some (.int .u64 mk) := cellOf hB.blk 3
  clear hB
  go_enter Try.func16, Try.ntmps16
  go_wp2
  go_ret
  exact ⟨rfl, rfl⟩

end Go.Proofs.Ytdiepeomhnkgpaa
