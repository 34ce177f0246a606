/- WindowPlays: a case of the round, over the frame as it stands there. Printed by casefile.py. -/
import Derived.Test.YtdiepeomhnkgpaaPlaysF
import Derived.Test.YtdiepeomhnkgpaaPlaysS
import Derived.Deep.DeepCutAuto
import Derived.Deep.CutBlock
namespace Go.Proofs.Ytdiepeomhnkgpaa
open Go.Proofs Go.Maps Go.RowKit Go.Sort Go.Shelf
set_option linter.unusedVariables false

set_option maxHeartbeats 40000000 in
set_option maxRecDepth 1000000 in
theorem pc_put (wd lt most : Int) (cap : Nat) (l : List (Int × Int × Int)) (W : World) (g R b i nn : Nat) (mk : Int) (pl : List (Int × Int)) (v1 v2 : Value) (kind T V : Int) (ab off cx : Nat) (wx : World)
    (HG : Hid (1 ≤ wd ∧ wd ≤ 4611686018427387904 ∧ 0 ≤ lt ∧ lt ≤ 4611686018427387904 ∧ 1 ≤ most ∧ most ≤ 65536)) (hT : 0 ≤ T ∧ T < 18446744073709551616) (hV : -9223372036854775808 ≤ V ∧ V ≤ 9223372036854775807) (hi : i < 100)
    (hS1 : Hid (Pl W g b R wd lt most wx i nn mk pl v1 v2)) (hc13 : wx.heap[cx]? = some (.cells #[.int .i64 kind, .int .u64 T, .int .i64 V] 34 (0, 0)))
    (e0 : (kind == 0) = true) (ho : overB (T / wd) wd lt mk = false) (hm : T / wd ∉ ks pl) (hroom : (pl.length : Int) < most)
    (u8 u14 u15 u16 u17 u18 u19 u20 u21 u22 u23 u24 u25 u26 u27 u28 u29 u30 u77 u78 u85 u86 u87 u88 u89 u90 u91 u92 u93 u94 u95 u96 u97 u98 u99 u100 u101 u102 u103 u104 u105 u106 u107 u108 u109 u110 u111 u112 u113 u114 u115 u116 u117 u118 u119 u120 u121 u122 u123 u124 u125 u126 u127 u128 u129 u130 u131 u132 u133 u134 u135 u136 u137 u138 u139 u140 u141 u142 u143 u144 u145 u146 u147 u148 u149 u150 u151 u152 u153 u154 u155 u156 u157 u158 u159 u160 u161 u162 u163 u164 u165 u166 u167 u168 u169 u170 u171 u172 u173 u174 u175 u176 u177 u178 u179 u180 u181 u182 u183 u184 u185 u186 u187 u188 u189 u190 u191 u192 u193 u194 u195 u196 u197 u198 u199 u200 u201 u202 u203 u204 u205 u206 u207 u208 u209 u210 u211 u212 u213 u214 u215 u216 u217 u218 u219 u220 u221 u222 u223 u224 u225 u226 u227 u228 u229 u230 u231 u232 u233 u234 u235 u236 u237 u238 u239 u240 u241 u242 u243 u244 u245 u246 u247 u248 u249 u250 u251 u252 u253 u254 u255 u256 u257 u258 u259 u260 u261 u262 u263 u264 u265 u266 u267 u268 u269 u270 u271 u272 u273 u274 u275 u276 u277 u278 u279 u280 u281 u282 u283 u284 u285 u286 u287 u288 u289 u290 u291 u292 u293 u294 u295 u296 u297 u298 u299 u300 u301 u302 u303 u304 u305 u306 u307 u308 u309 u310 u311 u312 u313 u314 u315 u316 u317 u318 u319 u320 : Value)
    (J K' : Act → World → Prop) (Q' : Exit → Act → World → Prop)
    (hJ : ∀ (a' : Act) (w' : World), (∃ u8 u14 u15 u16 u17 u18 u19 u20 u21 u22 u23 u24 u25 u26 u27 u28 u29 u30 u73 u74 u75 u76 u77 u78 u79 u80 u81 u82 u83 u85 u86 u87 u88 u89 u90 u91 u92 u93 u94 u95 u96 u97 u98 u99 u100 u101 u102 u103 u104 u105 u106 u107 u108 u109 u110 u111 u112 u113 u114 u115 u116 u117 u118 u119 u120 u121 u122 u123 u124 u125 u126 u127 u128 u129 u130 u131 u132 u133 u134 u135 u136 u137 u138 u139 u140 u141 u142 u143 u144 u145 u146 u147 u148 u149 u150 u151 u152 u153 u154 u155 u156 u157 u158 u159 u160 u161 u162 u163 u164 u165 u166 u167 u168 u169 u170 u171 u172 u173 u174 u175 u176 u177 u178 u179 u180 u181 u182 u183 u184 u185 u186 u187 u188 u189 u190 u191 u192 u193 u194 u195 u196 u197 u198 u199 u200 u201 u202 u203 u204 u205 u206 u207 u208 u209 u210 u211 u212 u213 u214 u215 u216 u217 u218 u219 u220 u221 u222 u223 u224 u225 u226 u227 u228 u229 u230 u231 u232 u233 u234 u235 u236 u237 u238 u239 u240 u241 u242 u243 u244 u245 u246 u247 u248 u249 u250 u251 u252 u253 u254 u255 u256 u257 u258 u259 u260 u261 u262 u263 u264 u265 u266 u267 u268 u269 u270 u271 u272 u273 u274 u275 u276 u277 u278 u279 u280 u281 u282 u283 u284 u285 u286 u287 u288 u289 u290 u291 u292 u293 u294 u295 u296 u297 u298 u299 u300 u301 u302 u303 u304 u305 u306 u307 u308 u309 u310 u311 u312 u313 u314 u315 u316 u317 u318 u319 u320, (∃ (nn' : Nat) (mk' : Int) (pl' : List (Int × Int)) (v1' v2' : Value), Hid (Pl W g b R wd lt most w' (i + 1) nn' mk' pl' v1' v2')) ∧ a' = ⟨#[.int .u64 wd, .int .u64 lt, .int .i64 most, .slice (some ⟨ab, off, none⟩) l.length cap, Go.undef, Go.undef, Go.undef, Go.undef, u8, .pointer (some ⟨g, 0, none⟩), .int .i64 0, .pointer (some ⟨R, 0, none⟩), .int .i64 ((i : Nat) : Int), .pointer (some ⟨cx, 0, none⟩), u14, u15, u16, u17, u18, u19, u20, u21, u22, u23, u24, u25, u26, u27, u28, u29, u30, .bool true, .bool false, .slice (some ⟨ab, off, none⟩) l.length cap, .int .i64 ((l.length : Nat) : Int), .bool false, .tuple #[.pointer (some ⟨g, 0, none⟩), .int .i64 0], .int .u64 wd, .int .u64 lt, .int .i64 most, .tuple #[.pointer (some ⟨g, 0, none⟩), .int .i64 0], .pointer (some ⟨g, 0, none⟩), .int .i64 0, .int .u64 wd, .bool false, .bool false, .int .u64 wd, .bool false, .bool false, .bool false, .int .u64 lt, .bool false, .bool false, .bool false, .int .i64 most, .bool false, .bool false, .bool false, .int .i64 most, .bool false, .bool false, Go.undef, Go.undef, Go.undef, Go.undef, Go.undef, Go.undef, .int .i64 0, .bool false, .int .u64 wd, .int .u64 lt, .int .i64 most, .agg #[.int .u64 wd, .int .u64 lt, .int .i64 most, .int .u64 0, .slice none 0 0, .slice none 0 0], u73, u74, u75, u76, u77, u78, u79, u80, u81, u82, u83, .int .i64 kind, u85, u86, u87, u88, u89, u90, u91, u92, u93, u94, u95, u96, u97, u98, u99, u100, u101, u102, u103, u104, u105, u106, u107, u108, u109, u110, u111, u112, u113, u114, u115, u116, u117, u118, u119, u120, u121, u122, u123, u124, u125, u126, u127, u128, u129, u130, u131, u132, u133, u134, u135, u136, u137, u138, u139, u140, u141, u142, u143, u144, u145, u146, u147, u148, u149, u150, u151, u152, u153, u154, u155, u156, u157, u158, u159, u160, u161, u162, u163, u164, u165, u166, u167, u168, u169, u170, u171, u172, u173, u174, u175, u176, u177, u178, u179, u180, u181, u182, u183, u184, u185, u186, u187, u188, u189, u190, u191, u192, u193, u194, u195, u196, u197, u198, u199, u200, u201, u202, u203, u204, u205, u206, u207, u208, u209, u210, u211, u212, u213, u214, u215, u216, u217, u218, u219, u220, u221, u222, u223, u224, u225, u226, u227, u228, u229, u230, u231, u232, u233, u234, u235, u236, u237, u238, u239, u240, u241, u242, u243, u244, u245, u246, u247, u248, u249, u250, u251, u252, u253, u254, u255, u256, u257, u258, u259, u260, u261, u262, u263, u264, u265, u266, u267, u268, u269, u270, u271, u272, u273, u274, u275, u276, u277, u278, u279, u280, u281, u282, u283, u284, u285, u286, u287, u288, u289, u290, u291, u292, u293, u294, u295, u296, u297, u298, u299, u300, u301, u302, u303, u304, u305, u306, u307, u308, u309, u310, u311, u312, u313, u314, u315, u316, u317, u318, u319, u320], []⟩) → J a' w')
    (hK : ∀ (a' : Act) (w' : World), Met J a' w' → K' a' w') :
    Code.wp Try.prog playsSwitch (Exit.then K' Q') ⟨#[.int .u64 wd, .int .u64 lt, .int .i64 most, .slice (some ⟨ab, off, none⟩) l.length cap, Go.undef, Go.undef, Go.undef, Go.undef, u8, .pointer (some ⟨g, 0, none⟩), .int .i64 0, .pointer (some ⟨R, 0, none⟩), .int .i64 ((i : Nat) : Int), .pointer (some ⟨cx, 0, none⟩), u14, u15, u16, u17, u18, u19, u20, u21, u22, u23, u24, u25, u26, u27, u28, u29, u30, .bool true, .bool false, .slice (some ⟨ab, off, none⟩) l.length cap, .int .i64 ((l.length : Nat) : Int), .bool false, .tuple #[.pointer (some ⟨g, 0, none⟩), .int .i64 0], .int .u64 wd, .int .u64 lt, .int .i64 most, .tuple #[.pointer (some ⟨g, 0, none⟩), .int .i64 0], .pointer (some ⟨g, 0, none⟩), .int .i64 0, .int .u64 wd, .bool false, .bool false, .int .u64 wd, .bool false, .bool false, .bool false, .int .u64 lt, .bool false, .bool false, .bool false, .int .i64 most, .bool false, .bool false, .bool false, .int .i64 most, .bool false, .bool false, Go.undef, Go.undef, Go.undef, Go.undef, Go.undef, Go.undef, .int .i64 0, .bool false, .int .u64 wd, .int .u64 lt, .int .i64 most, .agg #[.int .u64 wd, .int .u64 lt, .int .i64 most, .int .u64 0, .slice none 0 0, .slice none 0 0], .int .i64 ((i : Nat) : Int), .slice (some ⟨ab, off, none⟩) l.length cap, .int .i64 ((l.length : Nat) : Int), .bool true, u77, u78, .slice (some ⟨ab, off, none⟩) l.length cap, .int .i64 ((i : Nat) : Int), .pointer (some ⟨ab, off + i * 3, none⟩), .agg #[.int .i64 kind, .int .u64 T, .int .i64 V], .pointer (some ⟨cx, 0, none⟩), .int .i64 kind, u85, u86, u87, u88, u89, u90, u91, u92, u93, u94, u95, u96, u97, u98, u99, u100, u101, u102, u103, u104, u105, u106, u107, u108, u109, u110, u111, u112, u113, u114, u115, u116, u117, u118, u119, u120, u121, u122, u123, u124, u125, u126, u127, u128, u129, u130, u131, u132, u133, u134, u135, u136, u137, u138, u139, u140, u141, u142, u143, u144, u145, u146, u147, u148, u149, u150, u151, u152, u153, u154, u155, u156, u157, u158, u159, u160, u161, u162, u163, u164, u165, u166, u167, u168, u169, u170, u171, u172, u173, u174, u175, u176, u177, u178, u179, u180, u181, u182, u183, u184, u185, u186, u187, u188, u189, u190, u191, u192, u193, u194, u195, u196, u197, u198, u199, u200, u201, u202, u203, u204, u205, u206, u207, u208, u209, u210, u211, u212, u213, u214, u215, u216, u217, u218, u219, u220, u221, u222, u223, u224, u225, u226, u227, u228, u229, u230, u231, u232, u233, u234, u235, u236, u237, u238, u239, u240, u241, u242, u243, u244, u245, u246, u247, u248, u249, u250, u251, u252, u253, u254, u255, u256, u257, u258, u259, u260, u261, u262, u263, u264, u265, u266, u267, u268, u269, u270, u271, u272, u273, u274, u275, u276, u277, u278, u279, u280, u281, u282, u283, u284, u285, u286, u287, u288, u289, u290, u291, u292, u293, u294, u295, u296, u297, u298, u299, u300, u301, u302, u303, u304, u305, u306, u307, u308, u309, u310, u311, u312, u313, u314, u315, u316, u317, u318, u319, u320], []⟩ wx := by
  conv => arg 2; whnf
  have x0 : wx.cell? ⟨cx, 0, none⟩ = some (.int .i64 kind) := cell_of_block hc13 0
  have hcl : cx < wx.heap.size := (Array.getElem?_eq_some_iff.1 hc13).1
  have hcaW := hS1.out.below.size
  have hRca : R ≠ wx.heap.size := by have := hS1.out.rf.lt; omega
  have n1 : v1.ownBlock ≠ some wx.heap.size := fun e => by have := (World.ownsRow.lt hS1.out.rf.r1 _ e).2; omega
  have n2 : v2.ownBlock ≠ some wx.heap.size := fun e => by have := (World.ownsRow.lt hS1.out.rf.r2 _ e).2; omega
  have hS2 := Lib.hid (hS1.out.old (World.grownBy_alloc wx (.cells #[.int .i64 0] 3) none))
  have ha0 : (wx.alloc (.cells #[.int .i64 0] 3)).heap[wx.heap.size]? = some (.cells #[.int .i64 0] 3 (0, 0)) := newBlk _ _
  have hc13' : (wx.alloc (.cells #[.int .i64 0] 3)).heap[cx]? = some (.cells #[.int .i64 kind, .int .u64 T, .int .i64 V] 34 (0, 0)) := ((World.grownBy_alloc wx (.cells #[.int .i64 0] 3) none).block cx (by omega) (by simp)).trans hc13
  have hcne : cx ≠ wx.heap.size := by omega
  replace n1 := Lib.hid n1
  replace n2 := Lib.hid n2
  go_upto_region 18 with (fail)
  generalize wx.alloc (.cells #[.int .i64 0] 3) = wy at hS2 ha0 hc13' ⊢
  generalize wx.heap.size = ca at ha0 hcne hcaW hRca n1 n2 ⊢
  clear x0 hcl hS1 hc13
  have y1 : wy.cell? ⟨cx, 1, none⟩ = some (.int .u64 T) := cell_of_block hc13' 1
  have y3 : wy.cell? ⟨cx, 2, none⟩ = some (.int .i64 V) := cell_of_block hc13' 2
  have hw1 : 1 ≤ wd := HG.out.1
  have hT0 : 0 ≤ T := hT.1
  have hT1 : T ≤ 18446744073709551615 := by have := hT.2; omega
  have hz : (wd == 0) = false := beq_eq_false_iff_ne.2 (by omega)
  have hFi := hS2.out.fine
  have hq0 : 0 ≤ T / wd := Int.ediv_nonneg hT.1 (by omega)
  have hRO := fun X => Lib.hid (refOver_calls (T / wd) wd lt mk hq0 (by omega) hFi.w1 hFi.l0 hFi.m1 X)
  replace hFi := Lib.hid hFi
  have hll : pl.length < 1000000 := by have := hS2.out.cnt; omega
  rw [ho] at hRO
  obtain ⟨V1, c1, rfl, _⟩ := ownsRow_form hS2.out.rf.r1
  have hnn : nn < maxLen := by have := hS2.out.nn; unfold maxLen; omega
  have HAt := Lib.hid (at_putf hS2.out.book hFi.out T hT.1 hT.2 ho hm hroom hnn ca cx V hV ha0 y3 hcne)
  replace ho := Lib.hid ho
  have HM := fun W1 w2 hg1 hg2 => Lib.hid (Pl.mid hS2.out ha0 hcaW hRca n1.out n2.out (W1 := W1) (w2 := w2) hg1 hg2)
  have hFd := fun w2 (h : Rf W.heap.size R wd lt most w2 mk pl (.slice V1 (ks pl).length c1) v2) => Lib.hid (refFind_not wd lt most mk h.r1 h.r2 hll (T / wd) hm)
  have hPt := fun w2 (h : Rf W.heap.size R wd lt most w2 mk pl (.slice V1 (ks pl).length c1) v2) => Lib.hid (refPut_calls wd lt most mk h.r1 h.r2 hll h.rising (T / wd) V hm)
  unfold refV at hFd hPt
  have y2 : wy.cell? ⟨ca, 0, none⟩ = some (.int .i64 0) := cell_of_block ha0 0
  obtain ⟨r0, r1, r2, r3, r4, r5⟩ := hS2.out.rf.cells
  have hal := (Array.getElem?_eq_some_iff.1 ha0).1
  have hbcx : cx ≠ b := fun e => by
    cases e
    obtain ⟨_, D, ⟨es, ck, hbb, _⟩, _⟩ := hS2.out.book
    rw [hc13'] at hbb; cases hbb
  have hxl := (Array.getElem?_eq_some_iff.1 hc13').1
  have hc2 : ∀ W1 w2, wy.grownBy W1 (some ca) → W1.grownBy w2 (some b) → w2.heap[cx]? = some (.cells #[.int .i64 kind, .int .u64 T, .int .i64 V] 34 (0, 0)) := fun W1 w2 g1 g2 => (g2.block cx (Nat.lt_of_lt_of_le hxl g1.size) (by simpa using hbcx)).trans ((g1.block cx hxl (by simpa using hcne)).trans hc13')
  have HC2 := fun W1 w2 g1 g2 => Lib.hid (hc2 W1 w2 g1 g2)
  clear hc2
  replace ha0 := Lib.hid ha0
  have hfd : decide (most ≤ (pl.length : Int)) = false := decide_eq_false (by omega)
  have hln : (ks pl).length = pl.length := by simp [ks]
  simp only [hln] at hS2 hFd hPt r4 HM
  clear hln
  replace hroom := Lib.hid hroom
  replace hm := Lib.hid hm
  replace hcaW := Lib.hid hcaW
  go_upto_region 22 with (first
    | (go_at_call 12; refine HAt.out.mono ?_; rintro e w2 ⟨rfl, hB2, hca2, W1, hg1, hg2⟩; dsimp only; have hm2 := Lib.hid (HM W1 w2 hg1 hg2).out; have hx2 := Lib.hid (HC2 W1 w2 hg1 hg2).out; replace hca2 := Lib.hid hca2; have k21 : w2.cell? ⟨cx, 1, none⟩ = some (.int .u64 T) := cell_of_block hx2.out 1; obtain ⟨a0, a1, a2, a3, a4, a5⟩ := hm2.out.2.cells)
    | (go_at_call 18; refine (hFd _ hm2.out.2).out.mono ?_; rintro e w3 ⟨rfl, hb3⟩; dsimp only; have hR3 := Lib.hid (hm2.out.2.old (grownBy_of_below hb3 none)); obtain ⟨s0, s1, s2, s3, s4, s5⟩ := hR3.out.cells; have hx3 := Lib.hid ((hb3.block cx (Array.getElem?_eq_some_iff.1 hx2.out).1).trans hx2.out); have k32 : w3.cell? ⟨cx, 2, none⟩ = some (.int .i64 V) := cell_of_block hx3.out 2)
    | (go_at_call 9; refine (hRO _).out.mono ?_; rintro e w4 ⟨rfl, rfl⟩; dsimp only)
    | (go_at_call 19; refine (hPt _ hR3.out).out.mono ?_; rintro e w5 ⟨pl', v1', v2', rfl, hs', hp', q1, q2, hb5⟩; dsimp only; obtain ⟨V1', c1', rfl, _⟩ := ownsRow_form q1; obtain ⟨V2', c2', rfl, _⟩ := ownsRow_form q2; have hR5 := Lib.hid ((hb5.block R hR3.out.lt).trans hR3.out.ref); have g0 := freeOf hR5.out 0; have g1' := freeOf hR5.out 1; have g2' := freeOf hR5.out 2; have g3 := freeOf hR5.out 3; have g4 := freeOf hR5.out 4; have g5 := freeOf hR5.out 5; have b0 := cell_of_block hR5.out 0; have b1 := cell_of_block hR5.out 1; have b2 := cell_of_block hR5.out 2; have b3 := cell_of_block hR5.out 3; have b4 := cell_of_block hR5.out 4; have b5 := cell_of_block hR5.out 5))
  clear b0 b1 b2 b3 b4 b5 g0 g1' g2' g3 g4 g5 k21 k32 a0 a1 a2 a3 a4 a5 s0 s1 s2 s3 s4 s5 r0 r1 r2 r3 r4 r5
  have hlk : (ks pl').length = pl'.length := by simp [ks]
  have hlv : (vsOf pl').length = pl'.length := by simp [vsOf]
  rw [hlk] at q1
  rw [hlv] at q2
  clear hlk hlv
  have hpl := hp'.length_eq
  rw [List.length_cons] at hpl
  have hB3 := hm2.out.1.trans (hb3.mono hm2.out.1.size)
  have hB5 := hB3.trans (hb5.mono hB3.size)
  obtain ⟨hP, hg6⟩ := Pl.stored (k := i + 1) hB5 ((hB2.below hb3).below hb5) hFi.out hS2.out.gb (hR3.out.old (grownBy_of_below hb5 none)) q1 q2 hB3.size hs' hp' (by have := hS2.out.nn; omega) (by have := hS2.out.cnt; omega)
  have hca5 := (hb5.block ca (by have := (Array.getElem?_eq_some_iff.1 hca2.out).1; have := hb3.size; omega)).trans ((hb3.block ca (Array.getElem?_eq_some_iff.1 hca2.out).1).trans hca2.out)
  have hcx5 := (hb5.block cx (Array.getElem?_eq_some_iff.1 hx3.out).1).trans hx3.out
  have hRcx : cx ≠ R := fun e => by
    subst e
    have h1 := hS2.out.rf.ref
    rw [hc13'] at h1; cases h1
  have z1 := cell_of_block ((hg6.block ca (Array.getElem?_eq_some_iff.1 hca5).1 (by simpa using hRca.symm)).trans hca5) 0
  have z2 := cell_of_block ((hg6.block cx (Array.getElem?_eq_some_iff.1 hcx5).1 (by simpa using hRcx)).trans hcx5) 2
  clear hg6
  replace hP := Lib.hid hP
  generalize ((((((w5.setCell ⟨R, 0, none⟩ (.int .u64 wd)).setCell ⟨R, 1, none⟩ (.int .u64 lt)).setCell ⟨R, 2, none⟩ (.int .i64 most)).setCell ⟨R, 3, none⟩ (.int .u64 mk)).setCell ⟨R, 4, none⟩ (.slice V1' pl'.length c1')).setCell ⟨R, 5, none⟩ (.slice V2' pl'.length c2')) = w6 at hP z1 z2 ⊢
  clear hca5 hcx5 hpl hb5 hb3 hB5 hB3
  go_wp2
  go_meet
  case rel => exact ⟨nn + 1, mk, pl', _, _, hP⟩
end Go.Proofs.Ytdiepeomhnkgpaa
