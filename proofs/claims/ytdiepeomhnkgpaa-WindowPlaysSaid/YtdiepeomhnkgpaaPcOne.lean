/- WindowPlays: a case of the round, over the frame as it stands there. Printed by casefile.py. -/
import Derived.Test.YtdiepeomhnkgpaaPlaysG
import Derived.Test.YtdiepeomhnkgpaaPlaysS
import Derived.Deep.DeepCutAuto
import Derived.Deep.CutBlock
namespace Go.Proofs.Ytdiepeomhnkgpaa
open Go.Proofs Go.Maps Go.RowKit Go.Sort Go.Shelf
set_option linter.unusedVariables false

set_option maxHeartbeats 40000000 in
set_option maxRecDepth 1000000 in
theorem pc_one (wd lt most : Int) (cap : Nat) (l : List (Int × Int × Int)) (W : World) (g R b i nn : Nat) (mk : Int) (pl : List (Int × Int)) (v1 v2 : Value) (kind T V : Int) (ab off cx : Nat) (wx : World)
    (HG : Hid (1 ≤ wd ∧ wd ≤ 4611686018427387904 ∧ 0 ≤ lt ∧ lt ≤ 4611686018427387904 ∧ 1 ≤ most ∧ most ≤ 65536)) (hT : 0 ≤ T ∧ T < 18446744073709551616) (hV : -9223372036854775808 ≤ V ∧ V ≤ 9223372036854775807) (hi : i < 100)
    (hS1 : Hid (Pl W g b R wd lt most wx i nn mk pl v1 v2)) (hc13 : wx.heap[cx]? = some (.cells #[.int .i64 kind, .int .u64 T, .int .i64 V] 34 (0, 0)))
    (e0 : (kind == 0) = false) (e1 : (kind == 1) = true) (e3 : (kind == 3) = false)
    (u8 u14 u15 u16 u17 u18 u19 u20 u21 u22 u23 u24 u25 u26 u27 u28 u29 u30 u77 u78 u85 u86 u87 u88 u89 u90 u91 u92 u93 u94 u95 u96 u97 u98 u99 u100 u101 u102 u103 u104 u105 u106 u107 u108 u109 u110 u111 u112 u113 u114 u115 u116 u117 u118 u119 u120 u121 u122 u123 u124 u125 u126 u127 u128 u129 u130 u131 u132 u133 u134 u135 u136 u137 u138 u139 u140 u141 u142 u143 u144 u145 u146 u147 u148 u149 u150 u151 u152 u153 u154 u155 u156 u157 u158 u159 u160 u161 u162 u163 u164 u165 u166 u167 u168 u169 u170 u171 u172 u173 u174 u175 u176 u177 u178 u179 u180 u181 u182 u183 u184 u185 u186 u187 u188 u189 u190 u191 u192 u193 u194 u195 u196 u197 u198 u199 u200 u201 u202 u203 u204 u205 u206 u207 u208 u209 u210 u211 u212 u213 u214 u215 u216 u217 u218 u219 u220 u221 u222 u223 u224 u225 u226 u227 u228 u229 u230 u231 u232 u233 u234 u235 u236 u237 u238 u239 u240 u241 u242 u243 u244 u245 u246 u247 u248 u249 u250 u251 u252 u253 u254 u255 u256 u257 u258 u259 u260 u261 u262 u263 u264 u265 u266 u267 u268 u269 u270 u271 u272 u273 u274 u275 u276 u277 u278 u279 u280 u281 u282 u283 u284 u285 u286 u287 u288 u289 u290 u291 u292 u293 u294 u295 u296 u297 u298 u299 u300 u301 u302 u303 u304 u305 u306 u307 u308 u309 u310 u311 u312 u313 u314 u315 u316 u317 u318 u319 u320 : Value)
    (J K' : Act → World → Prop) (Q' : Exit → Act → World → Prop)
    (hJ : ∀ (a' : Act) (w' : World), (∃ u8 u14 u15 u16 u17 u18 u19 u20 u21 u22 u23 u24 u25 u26 u27 u28 u29 u30 u73 u74 u75 u76 u77 u78 u79 u80 u81 u82 u83 u85 u86 u87 u88 u89 u90 u91 u92 u93 u94 u95 u96 u97 u98 u99 u100 u101 u102 u103 u104 u105 u106 u107 u108 u109 u110 u111 u112 u113 u114 u115 u116 u117 u118 u119 u120 u121 u122 u123 u124 u125 u126 u127 u128 u129 u130 u131 u132 u133 u134 u135 u136 u137 u138 u139 u140 u141 u142 u143 u144 u145 u146 u147 u148 u149 u150 u151 u152 u153 u154 u155 u156 u157 u158 u159 u160 u161 u162 u163 u164 u165 u166 u167 u168 u169 u170 u171 u172 u173 u174 u175 u176 u177 u178 u179 u180 u181 u182 u183 u184 u185 u186 u187 u188 u189 u190 u191 u192 u193 u194 u195 u196 u197 u198 u199 u200 u201 u202 u203 u204 u205 u206 u207 u208 u209 u210 u211 u212 u213 u214 u215 u216 u217 u218 u219 u220 u221 u222 u223 u224 u225 u226 u227 u228 u229 u230 u231 u232 u233 u234 u235 u236 u237 u238 u239 u240 u241 u242 u243 u244 u245 u246 u247 u248 u249 u250 u251 u252 u253 u254 u255 u256 u257 u258 u259 u260 u261 u262 u263 u264 u265 u266 u267 u268 u269 u270 u271 u272 u273 u274 u275 u276 u277 u278 u279 u280 u281 u282 u283 u284 u285 u286 u287 u288 u289 u290 u291 u292 u293 u294 u295 u296 u297 u298 u299 u300 u301 u302 u303 u304 u305 u306 u307 u308 u309 u310 u311 u312 u313 u314 u315 u316 u317 u318 u319 u320, (∃ (nn' : Nat) (mk' : Int) (pl' : List (Int × Int)) (v1' v2' : Value), Hid (Pl W g b R wd lt most w' (i + 1) nn' mk' pl' v1' v2')) ∧ a' = ⟨#[.int .u64 wd, .int .u64 lt, .int .i64 most, .slice (some ⟨ab, off, none⟩) l.length cap, Go.undef, Go.undef, Go.undef, Go.undef, u8, .pointer (some ⟨g, 0, none⟩), .int .i64 0, .pointer (some ⟨R, 0, none⟩), .int .i64 ((i : Nat) : Int), .pointer (some ⟨cx, 0, none⟩), u14, u15, u16, u17, u18, u19, u20, u21, u22, u23, u24, u25, u26, u27, u28, u29, u30, .bool true, .bool false, .slice (some ⟨ab, off, none⟩) l.length cap, .int .i64 ((l.length : Nat) : Int), .bool false, .tuple #[.pointer (some ⟨g, 0, none⟩), .int .i64 0], .int .u64 wd, .int .u64 lt, .int .i64 most, .tuple #[.pointer (some ⟨g, 0, none⟩), .int .i64 0], .pointer (some ⟨g, 0, none⟩), .int .i64 0, .int .u64 wd, .bool false, .bool false, .int .u64 wd, .bool false, .bool false, .bool false, .int .u64 lt, .bool false, .bool false, .bool false, .int .i64 most, .bool false, .bool false, .bool false, .int .i64 most, .bool false, .bool false, Go.undef, Go.undef, Go.undef, Go.undef, Go.undef, Go.undef, .int .i64 0, .bool false, .int .u64 wd, .int .u64 lt, .int .i64 most, .agg #[.int .u64 wd, .int .u64 lt, .int .i64 most, .int .u64 0, .slice none 0 0, .slice none 0 0], u73, u74, u75, u76, u77, u78, u79, u80, u81, u82, u83, .int .i64 kind, u85, u86, u87, u88, u89, u90, u91, u92, u93, u94, u95, u96, u97, u98, u99, u100, u101, u102, u103, u104, u105, u106, u107, u108, u109, u110, u111, u112, u113, u114, u115, u116, u117, u118, u119, u120, u121, u122, u123, u124, u125, u126, u127, u128, u129, u130, u131, u132, u133, u134, u135, u136, u137, u138, u139, u140, u141, u142, u143, u144, u145, u146, u147, u148, u149, u150, u151, u152, u153, u154, u155, u156, u157, u158, u159, u160, u161, u162, u163, u164, u165, u166, u167, u168, u169, u170, u171, u172, u173, u174, u175, u176, u177, u178, u179, u180, u181, u182, u183, u184, u185, u186, u187, u188, u189, u190, u191, u192, u193, u194, u195, u196, u197, u198, u199, u200, u201, u202, u203, u204, u205, u206, u207, u208, u209, u210, u211, u212, u213, u214, u215, u216, u217, u218, u219, u220, u221, u222, u223, u224, u225, u226, u227, u228, u229, u230, u231, u232, u233, u234, u235, u236, u237, u238, u239, u240, u241, u242, u243, u244, u245, u246, u247, u248, u249, u250, u251, u252, u253, u254, u255, u256, u257, u258, u259, u260, u261, u262, u263, u264, u265, u266, u267, u268, u269, u270, u271, u272, u273, u274, u275, u276, u277, u278, u279, u280, u281, u282, u283, u284, u285, u286, u287, u288, u289, u290, u291, u292, u293, u294, u295, u296, u297, u298, u299, u300, u301, u302, u303, u304, u305, u306, u307, u308, u309, u310, u311, u312, u313, u314, u315, u316, u317, u318, u319, u320], []⟩) → J a' w')
    (hK : ∀ (a' : Act) (w' : World), Met J a' w' → K' a' w') :
    Code.wp Try.prog playsSwitch (Exit.then K' Q') ⟨#[.int .u64 wd, .int .u64 lt, .int .i64 most, .slice (some ⟨ab, off, none⟩) l.length cap, Go.undef, Go.undef, Go.undef, Go.undef, u8, .pointer (some ⟨g, 0, none⟩), .int .i64 0, .pointer (some ⟨R, 0, none⟩), .int .i64 ((i : Nat) : Int), .pointer (some ⟨cx, 0, none⟩), u14, u15, u16, u17, u18, u19, u20, u21, u22, u23, u24, u25, u26, u27, u28, u29, u30, .bool true, .bool false, .slice (some ⟨ab, off, none⟩) l.length cap, .int .i64 ((l.length : Nat) : Int), .bool false, .tuple #[.pointer (some ⟨g, 0, none⟩), .int .i64 0], .int .u64 wd, .int .u64 lt, .int .i64 most, .tuple #[.pointer (some ⟨g, 0, none⟩), .int .i64 0], .pointer (some ⟨g, 0, none⟩), .int .i64 0, .int .u64 wd, .bool false, .bool false, .int .u64 wd, .bool false, .bool false, .bool false, .int .u64 lt, .bool false, .bool false, .bool false, .int .i64 most, .bool false, .bool false, .bool false, .int .i64 most, .bool false, .bool false, Go.undef, Go.undef, Go.undef, Go.undef, Go.undef, Go.undef, .int .i64 0, .bool false, .int .u64 wd, .int .u64 lt, .int .i64 most, .agg #[.int .u64 wd, .int .u64 lt, .int .i64 most, .int .u64 0, .slice none 0 0, .slice none 0 0], .int .i64 ((i : Nat) : Int), .slice (some ⟨ab, off, none⟩) l.length cap, .int .i64 ((l.length : Nat) : Int), .bool true, u77, u78, .slice (some ⟨ab, off, none⟩) l.length cap, .int .i64 ((i : Nat) : Int), .pointer (some ⟨ab, off + i * 3, none⟩), .agg #[.int .i64 kind, .int .u64 T, .int .i64 V], .pointer (some ⟨cx, 0, none⟩), .int .i64 kind, u85, u86, u87, u88, u89, u90, u91, u92, u93, u94, u95, u96, u97, u98, u99, u100, u101, u102, u103, u104, u105, u106, u107, u108, u109, u110, u111, u112, u113, u114, u115, u116, u117, u118, u119, u120, u121, u122, u123, u124, u125, u126, u127, u128, u129, u130, u131, u132, u133, u134, u135, u136, u137, u138, u139, u140, u141, u142, u143, u144, u145, u146, u147, u148, u149, u150, u151, u152, u153, u154, u155, u156, u157, u158, u159, u160, u161, u162, u163, u164, u165, u166, u167, u168, u169, u170, u171, u172, u173, u174, u175, u176, u177, u178, u179, u180, u181, u182, u183, u184, u185, u186, u187, u188, u189, u190, u191, u192, u193, u194, u195, u196, u197, u198, u199, u200, u201, u202, u203, u204, u205, u206, u207, u208, u209, u210, u211, u212, u213, u214, u215, u216, u217, u218, u219, u220, u221, u222, u223, u224, u225, u226, u227, u228, u229, u230, u231, u232, u233, u234, u235, u236, u237, u238, u239, u240, u241, u242, u243, u244, u245, u246, u247, u248, u249, u250, u251, u252, u253, u254, u255, u256, u257, u258, u259, u260, u261, u262, u263, u264, u265, u266, u267, u268, u269, u270, u271, u272, u273, u274, u275, u276, u277, u278, u279, u280, u281, u282, u283, u284, u285, u286, u287, u288, u289, u290, u291, u292, u293, u294, u295, u296, u297, u298, u299, u300, u301, u302, u303, u304, u305, u306, u307, u308, u309, u310, u311, u312, u313, u314, u315, u316, u317, u318, u319, u320], []⟩ wx := by
  conv => arg 2; whnf
  have x0 : wx.cell? ⟨cx, 0, none⟩ = some (.int .i64 kind) := cell_of_block hc13 0
  have x1 : wx.cell? ⟨cx, 1, none⟩ = some (.int .u64 T) := cell_of_block hc13 1
  have hxl := (Array.getElem?_eq_some_iff.1 hc13).1
  have hne := Lib.hid (cx_ne hS1.out hc13)
  have hcnt := hS1.out.cnt
  obtain ⟨i0, hi0, hz0, hz1, hz2⟩ := info_parts info22u
  obtain ⟨A1, c1, rfl, _⟩ := hS1.out.rf.wcell
  have HSe := seal_calls hS1.out.book hS1.out.fine T hT.1 hT.2 (by omega) hS1.out.book.bounds
  have hF2 : Fine wd lt (max mk T) := by have h := hS1.out.fine; have := h.m0; have := h.m1; exact ⟨h.w0, h.w1, h.l0, h.l1, by omega, by omega⟩
  rw [keysOf_rising hS1.out.rf.rising] at HSe
  generalize hmk2 : max mk T = mk2 at HSe hF2
  have HSe := Lib.hid HSe
  replace hF2 := Lib.hid hF2
  generalize hss : (ks pl).filter (fun y => overB y wd lt mk2) = ss at HSe
  replace hss := Lib.hid hss
  have HX := Lib.hid hc13
  clear hc13
  go_upto_region 37 with (go_at_call 13; refine HSe.out.mono ?_; rintro e w2 ⟨vs, rfl, hrow, hB2, hg2⟩; dsimp only; have hR2 := Lib.hid (hS1.out.rf.book hS1.out.book hg2); obtain ⟨a0, a1, a2, a3, a4, a5⟩ := hR2.out.cells; have f3 := freeOf hR2.out.ref 3; have HX2 := Lib.hid ((hg2.block cx hxl (by simpa using hne.out.2.2)).trans HX.out); have k21 : w2.cell? ⟨cx, 1, none⟩ = some (.int .u64 T) := cell_of_block HX2.out 1)
  have hW := Lib.hid (Sw.start hS1.out hg2 hB2 hF2.out hrow)
  have HX3 := Lib.hid (((set_grown w2 R 3 (.int .u64 mk2)).block cx (Array.getElem?_eq_some_iff.1 HX2.out).1 (by simpa using hne.out.2.1)).trans HX2.out)
  clear a0 a1 a2 a3 a4 a5 f3 k21 HX2 hR2 hmk2 hrow hB2 hg2 HSe x0 x1 HX hxl
  generalize w2.setCell ⟨R, 3, none⟩ (.int .u64 mk2) = w3 at hW HX3 ⊢
  have HOV := fun x (h0 : 0 ≤ x) (X : World) => Lib.hid ((refOver_calls x wd lt mk2 h0 (by have := hF2.out.w0; omega) hF2.out.w1 hF2.out.l0 hF2.out.m1 X).mono (R' := fun e w' => e = .returned (.bool (overB x wd lt mk2)) ∧ w' = X) (fun e w' ⟨a, c⟩ => ⟨a, c.symm⟩))
  have hbds := Lib.hid hS1.out.book.bounds
  have hkey := Lib.hid (keysOf_rising hS1.out.rf.rising)
  go_wp2
  go_loopg [20, 21] pl.length (fun k s20 s21 wr => ∃ (j : Nat), j ≤ pl.length ∧ k = pl.length - j ∧ s21 = .int .i64 j ∧ Hid (Sw W g b R wd lt most wr i nn mk2 pl (.slice A1 pl.length c1) v2 vs ss s20 (((ks pl).take j).filter fun y => overB y wd lt mk2) ∧ wr.heap[cx]? = some (.cells #[.int .i64 kind, .int .u64 T, .int .i64 V] 34 (0, 0))))
  case atStart => exact ⟨0, by omega, by omega, by first | rfl | simp, Lib.hid ⟨by simpa using hW.out, HX3.out⟩⟩
  case round =>
    clear hW HX3
    obtain ⟨j, hjl, rfl, rfl, hI⟩ := hrel
    by_cases hj : j < pl.length
    · have hjz : (j : Int) < (pl.length : Int) := by omega
      obtain ⟨x, hx⟩ : ∃ x, (ks pl)[j]? = some x := ⟨_, List.getElem?_eq_getElem (by simpa [ks] using hj)⟩
      obtain ⟨gw, rfl, hcw⟩ := hI.out.1.pl.rf.wcell' hx
      have hx0 : 0 ≤ x := (hbds.out x (by rw [hkey.out]; exact List.mem_of_getElem? hx)).1
      have HVx := fun X => HOV x hx0 X
      have hfs := Lib.hid (filter_snoc hx (fun y => overB y wd lt mk2))
      obtain ⟨s0, s1, s2, s3, s4, s5⟩ := hI.out.1.pl.rf.cells
      have hwl := List.length_filter_le (fun y => overB y wd lt mk2) ((ks pl).take j)
      have hwl2 := List.length_take_le j (ks pl)
      have hx2 := Lib.hid hx
      clear hx
      cases ho : overB x wd lt mk2 with
      | true =>
        rw [ho] at HVx
        replace ho := Lib.hid ho
        go_wp2
        go_quiet ((go_at_call 9; exact (HVx _).out.mono (fun e w' h => ⟨h.1, _, h.2⟩)))
        have hI2 := Lib.hid (hI.out.1.old (drew_grown wr nq none))
        have HX4 := Lib.hid (show (wr.drewN nq).heap[cx]? = _ from hI.out.2)
        clear s0 s1 s2 s3 s4 s5 hcw
        generalize wr.drewN nq = wq at hI2 HX4 ⊢
        clear hI
        obtain ⟨s0, s1, s2, s3, s4, s5⟩ := hI2.out.pl.rf.cells
        obtain ⟨gw2, hgw2, hcw⟩ := hI2.out.pl.rf.wcell' hx2.out
        cases hgw2
        have hbs := Lib.hid hI2.out.pl.below.size
        go_wp2_with (at_builtin; refine wpList_append_own_at _ rfl _ _ 32 rfl W.heap.size 22 i0 (.int .u64 0) 1 8 Try.underlying32 hi0 hz0 hz1 hz2 rfl (by decide) _ _ _ rfl (World.ownsRow.alloc hI2.out.wrow _) ⟨wq.heap.size, 0, none⟩ 1 1 [.int .u64 x] rfl rfl (cell_one_new _ _ _) (by simp [Value.oneCell']) (by unfold maxLen; omega) (by omega) (by have := hbs.out; simp; omega) ?_; intro v' w4 hown' hgrow _ hat)
        have hI3 := hI2.out.old (World.grownBy_alloc wq (.cells #[.int .u64 x] 22) none)
        have hat' : v'.ownBlock = u20.ownBlock ∨ ∃ j, v'.ownBlock = some j ∧ (wq.alloc (.cells #[.int .u64 x] 22)).heap.size ≤ j := by
          rcases hat with e | e
          · exact .inl e
          · exact .inr ⟨_, e, Nat.le_refl _⟩
        have hI4 := hI3.grow hgrow x hown' hat'
        have hcu : some cx ≠ u20.ownBlock := fun e => row_ne_blk hI2.out.wrow HX4.out (by decide) e.symm
        have HX5 := (hgrow.block cx (by simp; have := (Array.getElem?_eq_some_iff.1 HX4.out).1; omega) hcu).trans ((World.grownBy_alloc wq (.cells #[.int .u64 x] 22) none).block cx (Array.getElem?_eq_some_iff.1 HX4.out).1 (by simp) |>.trans HX4.out)
        go_roundg (pl.length - (j + 1))
        case measure => omega
        case rel => exact ⟨j + 1, by omega, rfl, by go_num, Lib.hid ⟨by rw [hfs.out, ho.out]; exact hI4, HX5⟩⟩
      | false =>
        rw [ho] at HVx
        replace ho := Lib.hid ho
        go_wp2
        go_quiet ((go_at_call 9; exact (HVx _).out.mono (fun e w' h => ⟨h.1, _, h.2⟩)))
        go_wp2
        go_roundg (pl.length - (j + 1))
        case measure => omega
        case rel => exact ⟨j + 1, by omega, rfl, by go_num, Lib.hid ⟨by rw [hfs.out, ho.out]; simpa using hI.out.1.old (drew_grown _ _ none), hI.out.2⟩⟩
    · have hjz : ¬ (j : Int) < (pl.length : Int) := by omega
      have hjl2 : j = pl.length := by omega
      subst hjl2
      have hws : ((ks pl).take pl.length).filter (fun y => overB y wd lt mk2) = ss := by rw [← hss.out, List.take_of_length_le (by simp [ks])]
      rw [hws] at hI
      clear hws
      have hssl : ss.length ≤ pl.length := by
        rw [← hss.out]; have := List.length_filter_le (fun y => overB y wd lt mk2) (ks pl); simpa [ks] using this
      obtain ⟨s0, s1, s2, s3, s4, s5⟩ := hI.out.1.pl.rf.cells
      obtain ⟨Aw, cw, rfl, _⟩ := ownsRow_form hI.out.1.wrow
      have HIn := Lib.hid (ints_calls hI.out.1.srow hI.out.1.wrow (by omega))
      go_upto_region 45 with (go_at_call 20; refine HIn.out.mono ?_; rintro e w5 ⟨rfl, q, rfl⟩; dsimp only)
      have hI2 := Lib.hid (hI.out.1.old (drew_grown wr q none))
      have HX4 := Lib.hid (show (wr.drewN q).heap[cx]? = _ from hI.out.2)
      generalize wr.drewN q = wq at hI2 HX4 ⊢
      clear hI HIn s0 s1 s2 s3 s4 s5
      have y0 : wq.cell? ⟨cx, 0, none⟩ = some (.int .i64 kind) := cell_of_block HX4.out 0
      go_wp2
      refine wp_loop_rounds 1 ?_
      rw [rounds_succ]
      go_wp2
      all_goals
        go_meet
        case rel => exact ⟨nn, mk2, pl, _, v2, Lib.hid hI2.out.pl.later⟩
end Go.Proofs.Ytdiepeomhnkgpaa
