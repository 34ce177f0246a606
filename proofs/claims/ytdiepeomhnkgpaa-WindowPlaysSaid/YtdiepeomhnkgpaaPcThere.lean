/- WindowPlays: a case of the round, over the frame as it stands there. Printed by casefile.py. -/
import Derived.Test.YtdiepeomhnkgpaaPlaysS
import Derived.Deep.DeepCutAuto
import Derived.Deep.CutBlock
namespace Go.Proofs.Ytdiepeomhnkgpaa
open Go.Proofs Go.Maps Go.RowKit Go.Sort Go.Shelf
set_option linter.unusedVariables false

set_option maxHeartbeats 40000000 in
set_option maxRecDepth 1000000 in
theorem pc_there (wd lt most : Int) (cap : Nat) (l : List (Int × Int × Int)) (W : World) (g R b i nn : Nat) (mk : Int) (pl : List (Int × Int)) (v1 v2 : Value) (kind T V : Int) (ab off cx : Nat) (wx : World)
    (HG : Hid (1 ≤ wd ∧ wd ≤ 4611686018427387904 ∧ 0 ≤ lt ∧ lt ≤ 4611686018427387904 ∧ 1 ≤ most ∧ most ≤ 65536)) (hT : 0 ≤ T ∧ T < 18446744073709551616) (hV : -9223372036854775808 ≤ V ∧ V ≤ 9223372036854775807) (hi : i < 100)
    (hS1 : Hid (Pl W g b R wd lt most wx i nn mk pl v1 v2)) (hc13 : wx.heap[cx]? = some (.cells #[.int .i64 kind, .int .u64 T, .int .i64 V] 34 (0, 0)))
    (e0 : (kind == 0) = true) (ho : overB (T / wd) wd lt mk = false) (j : Nat) (pv : Int) (hj : pl[j]? = some (T / wd, pv))
    (u8 u14 u15 u16 u17 u18 u19 u20 u21 u22 u23 u24 u25 u26 u27 u28 u29 u30 u77 u78 u85 u86 u87 u88 u89 u90 u91 u92 u93 u94 u95 u96 u97 u98 u99 u100 u101 u102 u103 u104 u105 u106 u107 u108 u109 u110 u111 u112 u113 u114 u115 u116 u117 u118 u119 u120 u121 u122 u123 u124 u125 u126 u127 u128 u129 u130 u131 u132 u133 u134 u135 u136 u137 u138 u139 u140 u141 u142 u143 u144 u145 u146 u147 u148 u149 u150 u151 u152 u153 u154 u155 u156 u157 u158 u159 u160 u161 u162 u163 u164 u165 u166 u167 u168 u169 u170 u171 u172 u173 u174 u175 u176 u177 u178 u179 u180 u181 u182 u183 u184 u185 u186 u187 u188 u189 u190 u191 u192 u193 u194 u195 u196 u197 u198 u199 u200 u201 u202 u203 u204 u205 u206 u207 u208 u209 u210 u211 u212 u213 u214 u215 u216 u217 u218 u219 u220 u221 u222 u223 u224 u225 u226 u227 u228 u229 u230 u231 u232 u233 u234 u235 u236 u237 u238 u239 u240 u241 u242 u243 u244 u245 u246 u247 u248 u249 u250 u251 u252 u253 u254 u255 u256 u257 u258 u259 u260 u261 u262 u263 u264 u265 u266 u267 u268 u269 u270 u271 u272 u273 u274 u275 u276 u277 u278 u279 u280 u281 u282 u283 u284 u285 u286 u287 u288 u289 u290 u291 u292 u293 u294 u295 u296 u297 u298 u299 u300 u301 u302 u303 u304 u305 u306 u307 u308 u309 u310 u311 u312 u313 u314 u315 u316 u317 u318 u319 u320 : Value)
    (J K' : Act → World → Prop) (Q' : Exit → Act → World → Prop)
    (hJ : ∀ (a' : Act) (w' : World), (∃ u8 u14 u15 u16 u17 u18 u19 u20 u21 u22 u23 u24 u25 u26 u27 u28 u29 u30 u73 u74 u75 u76 u77 u78 u79 u80 u81 u82 u83 u85 u86 u87 u88 u89 u90 u91 u92 u93 u94 u95 u96 u97 u98 u99 u100 u101 u102 u103 u104 u105 u106 u107 u108 u109 u110 u111 u112 u113 u114 u115 u116 u117 u118 u119 u120 u121 u122 u123 u124 u125 u126 u127 u128 u129 u130 u131 u132 u133 u134 u135 u136 u137 u138 u139 u140 u141 u142 u143 u144 u145 u146 u147 u148 u149 u150 u151 u152 u153 u154 u155 u156 u157 u158 u159 u160 u161 u162 u163 u164 u165 u166 u167 u168 u169 u170 u171 u172 u173 u174 u175 u176 u177 u178 u179 u180 u181 u182 u183 u184 u185 u186 u187 u188 u189 u190 u191 u192 u193 u194 u195 u196 u197 u198 u199 u200 u201 u202 u203 u204 u205 u206 u207 u208 u209 u210 u211 u212 u213 u214 u215 u216 u217 u218 u219 u220 u221 u222 u223 u224 u225 u226 u227 u228 u229 u230 u231 u232 u233 u234 u235 u236 u237 u238 u239 u240 u241 u242 u243 u244 u245 u246 u247 u248 u249 u250 u251 u252 u253 u254 u255 u256 u257 u258 u259 u260 u261 u262 u263 u264 u265 u266 u267 u268 u269 u270 u271 u272 u273 u274 u275 u276 u277 u278 u279 u280 u281 u282 u283 u284 u285 u286 u287 u288 u289 u290 u291 u292 u293 u294 u295 u296 u297 u298 u299 u300 u301 u302 u303 u304 u305 u306 u307 u308 u309 u310 u311 u312 u313 u314 u315 u316 u317 u318 u319 u320, (∃ (nn' : Nat) (mk' : Int) (pl' : List (Int × Int)) (v1' v2' : Value), Hid (Pl W g b R wd lt most w' (i + 1) nn' mk' pl' v1' v2')) ∧ a' = ⟨#[.int .u64 wd, .int .u64 lt, .int .i64 most, .slice (some ⟨ab, off, none⟩) l.length cap, Go.undef, Go.undef, Go.undef, Go.undef, u8, .pointer (some ⟨g, 0, none⟩), .int .i64 0, .pointer (some ⟨R, 0, none⟩), .int .i64 ((i : Nat) : Int), .pointer (some ⟨cx, 0, none⟩), u14, u15, u16, u17, u18, u19, u20, u21, u22, u23, u24, u25, u26, u27, u28, u29, u30, .bool true, .bool false, .slice (some ⟨ab, off, none⟩) l.length cap, .int .i64 ((l.length : Nat) : Int), .bool false, .tuple #[.pointer (some ⟨g, 0, none⟩), .int .i64 0], .int .u64 wd, .int .u64 lt, .int .i64 most, .tuple #[.pointer (some ⟨g, 0, none⟩), .int .i64 0], .pointer (some ⟨g, 0, none⟩), .int .i64 0, .int .u64 wd, .bool false, .bool false, .int .u64 wd, .bool false, .bool false, .bool false, .int .u64 lt, .bool false, .bool false, .bool false, .int .i64 most, .bool false, .bool false, .bool false, .int .i64 most, .bool false, .bool false, Go.undef, Go.undef, Go.undef, Go.undef, Go.undef, Go.undef, .int .i64 0, .bool false, .int .u64 wd, .int .u64 lt, .int .i64 most, .agg #[.int .u64 wd, .int .u64 lt, .int .i64 most, .int .u64 0, .slice none 0 0, .slice none 0 0], u73, u74, u75, u76, u77, u78, u79, u80, u81, u82, u83, .int .i64 kind, u85, u86, u87, u88, u89, u90, u91, u92, u93, u94, u95, u96, u97, u98, u99, u100, u101, u102, u103, u104, u105, u106, u107, u108, u109, u110, u111, u112, u113, u114, u115, u116, u117, u118, u119, u120, u121, u122, u123, u124, u125, u126, u127, u128, u129, u130, u131, u132, u133, u134, u135, u136, u137, u138, u139, u140, u141, u142, u143, u144, u145, u146, u147, u148, u149, u150, u151, u152, u153, u154, u155, u156, u157, u158, u159, u160, u161, u162, u163, u164, u165, u166, u167, u168, u169, u170, u171, u172, u173, u174, u175, u176, u177, u178, u179, u180, u181, u182, u183, u184, u185, u186, u187, u188, u189, u190, u191, u192, u193, u194, u195, u196, u197, u198, u199, u200, u201, u202, u203, u204, u205, u206, u207, u208, u209, u210, u211, u212, u213, u214, u215, u216, u217, u218, u219, u220, u221, u222, u223, u224, u225, u226, u227, u228, u229, u230, u231, u232, u233, u234, u235, u236, u237, u238, u239, u240, u241, u242, u243, u244, u245, u246, u247, u248, u249, u250, u251, u252, u253, u254, u255, u256, u257, u258, u259, u260, u261, u262, u263, u264, u265, u266, u267, u268, u269, u270, u271, u272, u273, u274, u275, u276, u277, u278, u279, u280, u281, u282, u283, u284, u285, u286, u287, u288, u289, u290, u291, u292, u293, u294, u295, u296, u297, u298, u299, u300, u301, u302, u303, u304, u305, u306, u307, u308, u309, u310, u311, u312, u313, u314, u315, u316, u317, u318, u319, u320], []⟩) → J a' w')
    (hK : ∀ (a' : Act) (w' : World), Met J a' w' → K' a' w') :
    Code.wp Try.prog playsSwitch (Exit.then K' Q') ⟨#[.int .u64 wd, .int .u64 lt, .int .i64 most, .slice (some ⟨ab, off, none⟩) l.length cap, Go.undef, Go.undef, Go.undef, Go.undef, u8, .pointer (some ⟨g, 0, none⟩), .int .i64 0, .pointer (some ⟨R, 0, none⟩), .int .i64 ((i : Nat) : Int), .pointer (some ⟨cx, 0, none⟩), u14, u15, u16, u17, u18, u19, u20, u21, u22, u23, u24, u25, u26, u27, u28, u29, u30, .bool true, .bool false, .slice (some ⟨ab, off, none⟩) l.length cap, .int .i64 ((l.length : Nat) : Int), .bool false, .tuple #[.pointer (some ⟨g, 0, none⟩), .int .i64 0], .int .u64 wd, .int .u64 lt, .int .i64 most, .tuple #[.pointer (some ⟨g, 0, none⟩), .int .i64 0], .pointer (some ⟨g, 0, none⟩), .int .i64 0, .int .u64 wd, .bool false, .bool false, .int .u64 wd, .bool false, .bool false, .bool false, .int .u64 lt, .bool false, .bool false, .bool false, .int .i64 most, .bool false, .bool false, .bool false, .int .i64 most, .bool false, .bool false, Go.undef, Go.undef, Go.undef, Go.undef, Go.undef, Go.undef, .int .i64 0, .bool false, .int .u64 wd, .int .u64 lt, .int .i64 most, .agg #[.int .u64 wd, .int .u64 lt, .int .i64 most, .int .u64 0, .slice none 0 0, .slice none 0 0], .int .i64 ((i : Nat) : Int), .slice (some ⟨ab, off, none⟩) l.length cap, .int .i64 ((l.length : Nat) : Int), .bool true, u77, u78, .slice (some ⟨ab, off, none⟩) l.length cap, .int .i64 ((i : Nat) : Int), .pointer (some ⟨ab, off + i * 3, none⟩), .agg #[.int .i64 kind, .int .u64 T, .int .i64 V], .pointer (some ⟨cx, 0, none⟩), .int .i64 kind, u85, u86, u87, u88, u89, u90, u91, u92, u93, u94, u95, u96, u97, u98, u99, u100, u101, u102, u103, u104, u105, u106, u107, u108, u109, u110, u111, u112, u113, u114, u115, u116, u117, u118, u119, u120, u121, u122, u123, u124, u125, u126, u127, u128, u129, u130, u131, u132, u133, u134, u135, u136, u137, u138, u139, u140, u141, u142, u143, u144, u145, u146, u147, u148, u149, u150, u151, u152, u153, u154, u155, u156, u157, u158, u159, u160, u161, u162, u163, u164, u165, u166, u167, u168, u169, u170, u171, u172, u173, u174, u175, u176, u177, u178, u179, u180, u181, u182, u183, u184, u185, u186, u187, u188, u189, u190, u191, u192, u193, u194, u195, u196, u197, u198, u199, u200, u201, u202, u203, u204, u205, u206, u207, u208, u209, u210, u211, u212, u213, u214, u215, u216, u217, u218, u219, u220, u221, u222, u223, u224, u225, u226, u227, u228, u229, u230, u231, u232, u233, u234, u235, u236, u237, u238, u239, u240, u241, u242, u243, u244, u245, u246, u247, u248, u249, u250, u251, u252, u253, u254, u255, u256, u257, u258, u259, u260, u261, u262, u263, u264, u265, u266, u267, u268, u269, u270, u271, u272, u273, u274, u275, u276, u277, u278, u279, u280, u281, u282, u283, u284, u285, u286, u287, u288, u289, u290, u291, u292, u293, u294, u295, u296, u297, u298, u299, u300, u301, u302, u303, u304, u305, u306, u307, u308, u309, u310, u311, u312, u313, u314, u315, u316, u317, u318, u319, u320], []⟩ wx := by
  conv => arg 2; whnf
  have x0 : wx.cell? ⟨cx, 0, none⟩ = some (.int .i64 kind) := cell_of_block hc13 0
  have hcl : cx < wx.heap.size := (Array.getElem?_eq_some_iff.1 hc13).1
  have hS2 := Lib.hid (hS1.out.old (World.grownBy_alloc wx (.cells #[.int .i64 0] 3) none))
  have ha0 : (wx.alloc (.cells #[.int .i64 0] 3)).heap[wx.heap.size]? = some (.cells #[.int .i64 0] 3 (0, 0)) := newBlk _ _
  have hc13' : (wx.alloc (.cells #[.int .i64 0] 3)).heap[cx]? = some (.cells #[.int .i64 kind, .int .u64 T, .int .i64 V] 34 (0, 0)) := ((World.grownBy_alloc wx (.cells #[.int .i64 0] 3) none).block cx (by omega) (by simp)).trans hc13
  have hcne : cx ≠ wx.heap.size := by omega
  go_upto_region 18 with (fail)
  generalize wx.alloc (.cells #[.int .i64 0] 3) = wy at hS2 ha0 hc13' ⊢
  generalize wx.heap.size = ca at ha0 hcne ⊢
  clear x0 hcl hS1 hc13
  have y1 : wy.cell? ⟨cx, 1, none⟩ = some (.int .u64 T) := cell_of_block hc13' 1
  have hw1 : 1 ≤ wd := HG.out.1
  have hT0 : 0 ≤ T := hT.1
  have hT1 : T ≤ 18446744073709551615 := by have := hT.2; omega
  have hz : (wd == 0) = false := beq_eq_false_iff_ne.2 (by omega)
  have hFi := hS2.out.fine
  have hq0 : 0 ≤ T / wd := Int.ediv_nonneg hT.1 (by omega)
  have hRO := fun X => Lib.hid (refOver_calls (T / wd) wd lt mk hq0 (by omega) hFi.w1 hFi.l0 hFi.m1 X)
  replace hFi := Lib.hid hFi
  have hll : pl.length < 1000000 := by have := hS2.out.cnt; omega
  rw [ho] at hRO
  obtain ⟨V2, c2, rfl, hform⟩ := ownsRow_form hS2.out.rf.r2
  obtain ⟨gv, rfl, _, hcv⟩ := hform j (.int .i64 pv) (by simp [vsOf, hj])
  have hjl : j < (vsOf pl).length := by have := (List.getElem?_eq_some_iff.1 hj).1; simpa [vsOf] using this
  have HAt := Lib.hid (at_there hS2.out.book hFi.out T hT.1 hT.2 (.func (.func 17) #[] #[.pointer (some ⟨ca, 0, none⟩), .pointer (some ⟨cx, 0, none⟩)]) ho pv (List.mem_of_getElem? hj))
  replace ho := Lib.hid ho
  have hFd := fun q => Lib.hid (refFind_there wd lt most mk (hS2.out.rf.old (drew_grown wy q none)).r1 (hS2.out.rf.old (drew_grown wy q none)).r2 hll j (T / wd) (by simp [ks, hj]) (nodup_rising hS2.out.rf.rising))
  unfold refV at hFd
  have y2 : wy.cell? ⟨ca, 0, none⟩ = some (.int .i64 0) := cell_of_block ha0 0
  obtain ⟨r0, r1, r2, r3, r4, r5⟩ := hS2.out.rf.cells
  have hal := (Array.getElem?_eq_some_iff.1 ha0).1
  replace ha0 := Lib.hid ha0
  generalize (vsOf pl).length = n2 at hjl hS2 hFd r5 HAt ⊢
  have hjz : (j : Int) < (n2 : Int) := by omega
  have hj0 : decide ((0 : Int) ≤ (j : Int)) = true := decide_eq_true (by omega)
  have hcvl := World.block_lt_of_cell? _ _ hcv
  have hcv' := Lib.hid hcv
  replace hj := Lib.hid hj
  clear hjl
  clear hform hcv
  go_wp2_with (first
    | (go_at_call 12; refine HAt.out.mono ?_; rintro e w2 ⟨rfl, q, rfl⟩; dsimp only)
    | (go_at_call 18; refine (hFd _).out.mono ?_; rintro e w3 ⟨rfl, hb3⟩; dsimp only; have hS4 := Lib.hid ((hS2.out.old (drew_grown wy q none)).old (grownBy_of_below hb3 none)); have z2 : w3.cell? ⟨ca, 0, none⟩ = some (.int .i64 0) := cell_of_block ((hb3.block ca hal).trans ha0.out) 0; have z3 : w3.cell? ⟨gv, j, none⟩ = some (.int .i64 pv) := (hb3.cell (p := ⟨gv, j, none⟩) hcvl).trans hcv'.out; obtain ⟨s0, s1, s2, s3, s4, s5⟩ := hS4.out.rf.cells)
    | (go_at_call 9; refine (hRO _).out.mono ?_; rintro e w4 ⟨rfl, rfl⟩; dsimp only))
  go_meet
  case rel => exact ⟨nn, mk, pl, v1, _, Lib.hid hS4.out.later⟩
end Go.Proofs.Ytdiepeomhnkgpaa
