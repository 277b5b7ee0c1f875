/- The walk of SketchOwn: the six calls on what was handed in (regions 9 to 14; printed by wip/gen/skA.py). -/
import Derived.Test.YtffocoflmbhknaaSkB1
namespace Go.Proofs.Ytffocoflmbhknaa.sketchOwn
set_option linter.unusedVariables false
open Go.ChangeShapes Go.WideShapes Go.ChangeAt Go.RowKit
open Go.Proofs.Ytffocoflmbhknaa
set_option maxRecDepth 20000
set_option maxHeartbeats 16000000 in
theorem pA {w0 W : World} {B0 : Nat} {P4 g4 n4 P5 g5 n5 P0 g0 n0 P1 g1 n1 : Nat} {kk4 lo4 kk5 lo5 sz0 wy0 sz1 wy1 : Int} {bf0 bf1 : List Bool} {L4 L5 : List (Int × Int)} {Q0 Q1 Q2 Q3 Q4 Q5 hh c0 c1 c2 c3 c4 c5 : Nat} {a0 a1 a2 a3 a4 a5 : Option Addr} {P2 P3 n2 n3 c7 c8 : Nat} {a7 a8 : Option Addr} {wd2 wd3 : Int} {xs2 xs3 : List (List Int)} {G2 G3 : Nat → Nat} {key nn : Int}
    {u0 u1 u2 u3 u4 u5 u14 u15 u16 u17 u18 u25 u26 u27 u28 u29 u30 u31 u32 u33 u34 u35 u36 u37 u38 u39 u40 u41 u42 u43 u44 u45 u46 u47 u48 u49 u50 u51 u52 u53 u54 u55 u56 u57 u58 u59 u60 u61 u62 u63 u64 u65 u66 u67 u68 u69 u70 u71 u72 u73 u74 u75 u76 u77 u78 u79 u80 u81 u82 u83 u84 u85 u86 u87 u88 u89 u90 u91 u92 u93 u94 u95 u96 u97 u98 u99 u100 u101 u102 u103 u104 u105 u106 u107 u108 u109 u110 u111 u112 u113 u114 u115 u116 u117 u118 u119 u120 u121 u122 u123 u124 u125 u126 u127 u128 u129 u130 u131 u132 u133 u134 u135 u136 u137 u138 u139 u140 u141 u142 u143 u144 u145 u146 u147 u148 u149 u150 u151 u152 u153 u154 u155 u156 u157 u158 u159 u160 u161 u162 u163 u164 u165 u166 u167 u168 u169 u170 u171 u172 u173 u174 u175 u176 u177 u178 u179 u180 u181 u182 u183 u184 u185 u186 u187 u188 u189 u190 u191 u192 u193 u194 u195 u196 u197 u198 u199 u200 u201 u202 u203 u204 u205 u206 u207 u208 u209 u210 u211 u212 u213 u214 u215 u216 u217 u218 u219 u220 u221 u222 u223 u224 u225 u226 u227 u228 u229 u230 u231 u232 u233 u234 u235 u236 u237 u238 u239 u240 u241 u242 u243 u244 u245 u246 u247 u248 u249 u250 u251 u252 u253 u254 u255 u256 u257 u258 u259 u260 u261 u262 u263 u264 u265 u266 u267 u268 u269 u270 u271 u272 u273 u274 u275 u276 u277 u278 u279 u280 u281 u282 u283 u284 u285 u286 u287 u288 u289 u290 u291 u292 u293 u294 u295 u296 u297 u298 u299 u300 u301 u302 u303 u304 u305 u306 u307 u308 u309 u310 u311 u312 u313 u314 u315 u316 u317 u318 u319 u320 u321 u322 u323 u324 u325 u326 u327 u328 : Value}
    (hw : Below w0.heap.size w0 W) (hB0 : w0.heap.size ≤ B0) (hB01 : B0 ≤ W.heap.size)
    (SO : Sep B0 W (([sE 27 P2 [.int .i64 wd2, .slice a7 n2 c7]] ++ (hdrE (.slice a7 n2 c7) n2 (rowsV xs2 G2 n2) :: rowsE xs2 G2 n2)) ++ (([sE 27 P3 [.int .i64 wd3, .slice a8 n3 c8]] ++ (hdrE (.slice a8 n3 c8) n3 (rowsV xs3 G3 n3) :: rowsE xs3 G3 n3)) ++ ([sE 30 P4 [.int .i64 kk4, .int .i64 lo4, .slice (some ⟨g4, 0, none⟩) n4 (n4 + 3)], ⟨36, 2, .slice (some ⟨g4, 0, none⟩) (n4 + 3) (n4 + 3), n4 + 3, cntV L4 ++ [.int .i64 0, .int .i64 (-7), .int .i64 0, .int .i64 (-7), .int .i64 0, .int .i64 (-7)]⟩] ++ ([sE 30 P5 [.int .i64 kk5, .int .i64 lo5, .slice (some ⟨g5, 0, none⟩) n5 (n5 + 3)], ⟨36, 2, .slice (some ⟨g5, 0, none⟩) (n5 + 3) (n5 + 3), n5 + 3, cntV L5 ++ [.int .i64 0, .int .i64 (-8), .int .i64 0, .int .i64 (-8), .int .i64 0, .int .i64 (-8)]⟩] ++ ([sE 24 P0 [.int .i64 sz0, .int .i64 wy0, .slice (some ⟨g0, 0, none⟩) n0 (n0 + 3)], bE (.slice (some ⟨g0, 0, none⟩) (n0 + 3) (n0 + 3)) (n0 + 3) (bf0 ++ [true, true, true])] ++ [sE 24 P1 [.int .i64 sz1, .int .i64 wy1, .slice (some ⟨g1, 0, none⟩) n1 (n1 + 3)], bE (.slice (some ⟨g1, 0, none⟩) (n1 + 3) (n1 + 3)) (n1 + 3) (bf1 ++ [true, true, true])])))))) (hg4 : g4 < W.heap.size) (hg5 : g5 < W.heap.size) (hg0 : g0 < W.heap.size) (hn0 : n0 ≤ 1048576) (hg1 : g1 < W.heap.size) (hn1 : n1 ≤ 1048576) (hn2 : n2 ≤ 1048576) (hn3 : n3 ≤ 1048576) (hR2 : ∀ i, i < n2 → G2 i < W.heap.size) (hR3 : ∀ i, i < n3 → G3 i < W.heap.size)
    (BX : Boxes hh [(Q0, 0, .int .i64 sz0), (Q0, 1, .int .i64 wy0), (Q0, 2, .slice a0 n0 c0), (Q1, 0, .int .i64 sz1), (Q1, 1, .int .i64 wy1), (Q1, 2, .slice a1 n1 c1), (Q2, 0, .int .i64 wd2), (Q2, 1, .slice a2 n2 c2), (Q3, 0, .int .i64 wd3), (Q3, 1, .slice a3 n3 c3), (Q4, 0, .int .i64 kk4), (Q4, 1, .int .i64 lo4), (Q4, 2, .slice a4 n4 c4), (Q5, 0, .int .i64 kk5), (Q5, 1, .int .i64 lo5), (Q5, 2, .slice a5 n5 c5)] W) (I0 : BoolsAt W a0 n0 c0 bf0) (I1 : BoolsAt W a1 n1 c1 bf1) (I2 : RowsZ W a2 n2 c2 xs2) (I3 : RowsZ W a3 n3 c3 xs3) (I4 : CntAt W a4 n4 c4 L4) (I5 : CntAt W a5 n5 c5 L5)
    (hn4 : n4 ≤ 1048576) (hn5 : n5 ≤ 1048576) :
    (cd 7).wp Try.prog (bodyPost Try.prog Try.f3 (fun e w' => e = .returned (.bool true) ∧ Below w0.heap.size w0 w'))
      ⟨#[u0, u1, u2, u3, u4, u5, .int .i64 key, .int .i64 nn, .pointer (some ⟨Q0, 0, none⟩), .pointer (some ⟨Q1, 0, none⟩), .pointer (some ⟨Q2, 0, none⟩), .pointer (some ⟨Q3, 0, none⟩), .pointer (some ⟨Q4, 0, none⟩), .pointer (some ⟨Q5, 0, none⟩), u14, u15, u16, u17, u18, .pointer (some ⟨P0, 0, none⟩), .pointer (some ⟨P1, 0, none⟩), .pointer (some ⟨P2, 0, none⟩), .pointer (some ⟨P3, 0, none⟩), .pointer (some ⟨P4, 0, none⟩), .pointer (some ⟨P5, 0, none⟩), u25, u26, u27, u28, u29, u30, u31, u32, u33, u34, u35, u36, u37, u38, u39, u40, u41, u42, u43, u44, u45, u46, u47, u48, u49, u50, u51, u52, u53, u54, u55, u56, u57, u58, u59, u60, u61, u62, u63, u64, u65, u66, u67, u68, u69, u70, u71, u72, u73, u74, u75, u76, u77, u78, u79, u80, u81, u82, u83, u84, u85, u86, u87, u88, u89, u90, u91, u92, u93, u94, u95, u96, u97, u98, u99, u100, u101, u102, u103, u104, u105, u106, u107, u108, u109, u110, u111, u112, u113, u114, u115, u116, u117, u118, u119, u120, u121, u122, u123, u124, u125, u126, u127, u128, u129, u130, u131, u132, u133, u134, u135, u136, u137, u138, u139, u140, u141, u142, u143, u144, u145, u146, u147, u148, u149, u150, u151, u152, u153, u154, u155, u156, u157, u158, u159, u160, u161, u162, u163, u164, u165, u166, u167, u168, u169, u170, u171, u172, u173, u174, u175, u176, u177, u178, u179, u180, u181, u182, u183, u184, u185, u186, u187, u188, u189, u190, u191, u192, u193, u194, u195, u196, u197, u198, u199, u200, u201, u202, u203, u204, u205, u206, u207, u208, u209, u210, u211, u212, u213, u214, u215, u216, u217, u218, u219, u220, u221, u222, u223, u224, u225, u226, u227, u228, u229, u230, u231, u232, u233, u234, u235, u236, u237, u238, u239, u240, u241, u242, u243, u244, u245, u246, u247, u248, u249, u250, u251, u252, u253, u254, u255, u256, u257, u258, u259, u260, u261, u262, u263, u264, u265, u266, u267, u268, u269, u270, u271, u272, u273, u274, u275, u276, u277, u278, u279, u280, u281, u282, u283, u284, u285, u286, u287, u288, u289, u290, u291, u292, u293, u294, u295, u296, u297, u298, u299, u300, u301, u302, u303, u304, u305, u306, u307, u308, u309, u310, u311, u312, u313, u314, u315, u316, u317, u318, u319, u320, u321, u322, u323, u324, u325, u326, u327, u328], []⟩ W := by
  have HG := hidp SO
  have HW := hidp hw
  have HI := hidp (And.intro BX (And.intro I0 (And.intro I1 (And.intro I2 (And.intro I3 (And.intro I4 I5))))))
  have p0_0 := hidp (fun W' (hB : Below W.heap.size W W') => (show W'.cell? ⟨P0, 0, none⟩ = some (.int .i64 sz0) from box_cell SO.r.r.r.r.l (t := 24) (P := P0) (cs := [.int .i64 sz0, .int .i64 wy0, .slice (some ⟨g0, 0, none⟩) n0 (n0 + 3)]) (by simp) 0 (by simp) W' hB))
  have p0_1 := hidp (fun W' (hB : Below W.heap.size W W') => (show W'.cell? ⟨P0, 1, none⟩ = some (.int .i64 wy0) from box_cell SO.r.r.r.r.l (t := 24) (P := P0) (cs := [.int .i64 sz0, .int .i64 wy0, .slice (some ⟨g0, 0, none⟩) n0 (n0 + 3)]) (by simp) 1 (by simp) W' hB))
  have p0_2 := hidp (fun W' (hB : Below W.heap.size W W') => (show W'.cell? ⟨P0, 2, none⟩ = some (.slice (some ⟨g0, 0, none⟩) n0 (n0 + 3)) from box_cell SO.r.r.r.r.l (t := 24) (P := P0) (cs := [.int .i64 sz0, .int .i64 wy0, .slice (some ⟨g0, 0, none⟩) n0 (n0 + 3)]) (by simp) 2 (by simp) W' hB))
  have p1_0 := hidp (fun W' (hB : Below W.heap.size W W') => (show W'.cell? ⟨P1, 0, none⟩ = some (.int .i64 sz1) from box_cell SO.r.r.r.r.r (t := 24) (P := P1) (cs := [.int .i64 sz1, .int .i64 wy1, .slice (some ⟨g1, 0, none⟩) n1 (n1 + 3)]) (by simp) 0 (by simp) W' hB))
  have p1_1 := hidp (fun W' (hB : Below W.heap.size W W') => (show W'.cell? ⟨P1, 1, none⟩ = some (.int .i64 wy1) from box_cell SO.r.r.r.r.r (t := 24) (P := P1) (cs := [.int .i64 sz1, .int .i64 wy1, .slice (some ⟨g1, 0, none⟩) n1 (n1 + 3)]) (by simp) 1 (by simp) W' hB))
  have p1_2 := hidp (fun W' (hB : Below W.heap.size W W') => (show W'.cell? ⟨P1, 2, none⟩ = some (.slice (some ⟨g1, 0, none⟩) n1 (n1 + 3)) from box_cell SO.r.r.r.r.r (t := 24) (P := P1) (cs := [.int .i64 sz1, .int .i64 wy1, .slice (some ⟨g1, 0, none⟩) n1 (n1 + 3)]) (by simp) 2 (by simp) W' hB))
  have p2_0 := hidp (fun W' (hB : Below W.heap.size W W') => (show W'.cell? ⟨P2, 0, none⟩ = some (.int .i64 wd2) from box_cell SO.l.l (t := 27) (P := P2) (cs := [.int .i64 wd2, .slice a7 n2 c7]) (by simp) 0 (by simp) W' hB))
  have p2_1 := hidp (fun W' (hB : Below W.heap.size W W') => (show W'.cell? ⟨P2, 1, none⟩ = some (.slice a7 n2 c7) from box_cell SO.l.l (t := 27) (P := P2) (cs := [.int .i64 wd2, .slice a7 n2 c7]) (by simp) 1 (by simp) W' hB))
  have p3_0 := hidp (fun W' (hB : Below W.heap.size W W') => (show W'.cell? ⟨P3, 0, none⟩ = some (.int .i64 wd3) from box_cell SO.r.l.l (t := 27) (P := P3) (cs := [.int .i64 wd3, .slice a8 n3 c8]) (by simp) 0 (by simp) W' hB))
  have p3_1 := hidp (fun W' (hB : Below W.heap.size W W') => (show W'.cell? ⟨P3, 1, none⟩ = some (.slice a8 n3 c8) from box_cell SO.r.l.l (t := 27) (P := P3) (cs := [.int .i64 wd3, .slice a8 n3 c8]) (by simp) 1 (by simp) W' hB))
  have p4_0 := hidp (fun W' (hB : Below W.heap.size W W') => (show W'.cell? ⟨P4, 0, none⟩ = some (.int .i64 kk4) from box_cell SO.r.r.l (t := 30) (P := P4) (cs := [.int .i64 kk4, .int .i64 lo4, .slice (some ⟨g4, 0, none⟩) n4 (n4 + 3)]) (by simp) 0 (by simp) W' hB))
  have p4_1 := hidp (fun W' (hB : Below W.heap.size W W') => (show W'.cell? ⟨P4, 1, none⟩ = some (.int .i64 lo4) from box_cell SO.r.r.l (t := 30) (P := P4) (cs := [.int .i64 kk4, .int .i64 lo4, .slice (some ⟨g4, 0, none⟩) n4 (n4 + 3)]) (by simp) 1 (by simp) W' hB))
  have p4_2 := hidp (fun W' (hB : Below W.heap.size W W') => (show W'.cell? ⟨P4, 2, none⟩ = some (.slice (some ⟨g4, 0, none⟩) n4 (n4 + 3)) from box_cell SO.r.r.l (t := 30) (P := P4) (cs := [.int .i64 kk4, .int .i64 lo4, .slice (some ⟨g4, 0, none⟩) n4 (n4 + 3)]) (by simp) 2 (by simp) W' hB))
  have p5_0 := hidp (fun W' (hB : Below W.heap.size W W') => (show W'.cell? ⟨P5, 0, none⟩ = some (.int .i64 kk5) from box_cell SO.r.r.r.l (t := 30) (P := P5) (cs := [.int .i64 kk5, .int .i64 lo5, .slice (some ⟨g5, 0, none⟩) n5 (n5 + 3)]) (by simp) 0 (by simp) W' hB))
  have p5_1 := hidp (fun W' (hB : Below W.heap.size W W') => (show W'.cell? ⟨P5, 1, none⟩ = some (.int .i64 lo5) from box_cell SO.r.r.r.l (t := 30) (P := P5) (cs := [.int .i64 kk5, .int .i64 lo5, .slice (some ⟨g5, 0, none⟩) n5 (n5 + 3)]) (by simp) 1 (by simp) W' hB))
  have p5_2 := hidp (fun W' (hB : Below W.heap.size W W') => (show W'.cell? ⟨P5, 2, none⟩ = some (.slice (some ⟨g5, 0, none⟩) n5 (n5 + 3)) from box_cell SO.r.r.r.l (t := 30) (P := P5) (cs := [.int .i64 kk5, .int .i64 lo5, .slice (some ⟨g5, 0, none⟩) n5 (n5 + 3)]) (by simp) 2 (by simp) W' hB))
  have r0 := (bools_room (SO.r.r.r.r.l.own (bE (.slice (some ⟨g0, 0, none⟩) (n0 + 3) (n0 + 3)) (n0 + 3) (bf0 ++ [true, true, true])) (by simp))).1
  have r1 := (bools_room (SO.r.r.r.r.r.own (bE (.slice (some ⟨g1, 0, none⟩) (n1 + 3) (n1 + 3)) (n1 + 3) (bf1 ++ [true, true, true])) (by simp))).1
  have r2 := copied_rows SO.l.r I2.len (fun i hi => by obtain ⟨b, o, _, _, hc⟩ := I2.cells (by omega); obtain ⟨ai, ni, ci, _, h2, _⟩ := hc i hi; exact h2.bd)
  have r3 := copied_rows SO.r.l.r I3.len (fun i hi => by obtain ⟨b, o, _, _, hc⟩ := I3.cells (by omega); obtain ⟨ai, ni, ci, _, h2, _⟩ := hc i hi; exact h2.bd)
  have r4 := (cnts_room (x := -7) (SO.r.r.l.own (⟨36, 2, .slice (some ⟨g4, 0, none⟩) (n4 + 3) (n4 + 3), n4 + 3, cntV L4 ++ [.int .i64 0, .int .i64 (-7), .int .i64 0, .int .i64 (-7), .int .i64 0, .int .i64 (-7)]⟩ : Ent) (by simp))).1
  have r5 := (cnts_room (x := -8) (SO.r.r.r.l.own (⟨36, 2, .slice (some ⟨g5, 0, none⟩) (n5 + 3) (n5 + 3), n5 + 3, cntV L5 ++ [.int .i64 0, .int .i64 (-8), .int .i64 0, .int .i64 (-8), .int .i64 0, .int .i64 (-8)]⟩ : Ent) (by simp))).1
  have E0 := hidp (fun W' (hB : Below W.heap.size W W') => bput_any sz0 wy0 (some ⟨g0, 0, none⟩) n0 (n0 + 3) bf0 key W' (r0.below hB))
  have E1 := hidp (fun W' (hB : Below W.heap.size W W') => bjoin_any sz0 wy0 sz1 wy1 (some ⟨g0, 0, none⟩) (some ⟨g1, 0, none⟩) n0 (n0 + 3) n1 (n1 + 3) bf0 bf1 W' (r0.below hB) (r1.below hB))
  have E2 := hidp (fun W' (hB : Below W.heap.size W W') => tput_any wd2 a7 n2 c7 xs2 key nn W' (r2.below hB))
  have E3 := hidp (fun W' (hB : Below W.heap.size W W') => tjoin_any wd2 wd3 a7 a8 n2 c7 n3 c8 xs2 xs3 W' (r2.below hB) (r3.below hB))
  have E4 := hidp (fun W' (hB : Below W.heap.size W W') => fput_any kk4 lo4 (some ⟨g4, 0, none⟩) n4 (n4 + 3) L4 key nn W' (r4.below hB))
  have E5 := hidp (fun W' (hB : Below W.heap.size W W') => fjoin_any kk4 lo4 kk5 lo5 (some ⟨g4, 0, none⟩) (some ⟨g5, 0, none⟩) n4 (n4 + 3) n5 (n5 + 3) L4 L5 W' (r4.below hB) (r5.below hB))
  unfold filtV at E0 E1
  unfold tabV at E2 E3
  unfold fewV at E4 E5
  have HRR := hidp (And.intro hR2 hR3)
  clear SO hw BX I0 I1 I2 I3 I4 I5 r0 r1 r2 r3 r4 r5 hR2 hR3
  have hb0 : Below W.heap.size W W := Below.refl _ _
  have S0 : Sep W.heap.size W [] := Sep.nil _ _
  conv => arg 2; whnf
  dsimp only
  apply wp_seq_k; intro K hK
  have HK := hidp hK
  clear hK
  have p0_0' := p0_0.out _ hb0
  have p0_1' := p0_1.out _ hb0
  have p0_2' := p0_2.out _ hb0
  go_wp2_with fail
  refine (E0.out _ hb0).mono ?_
  rintro e V0 ⟨s0, y0, v, r, rfl, hf, hb⟩
  obtain ⟨nx, bx, ho, hnx⟩ := hf
  obtain ⟨ax, cx, rfl, _, _⟩ := owns_form ho
  have hs : Sep W.heap.size V0 [bE (.slice ax nx cx) nx bx] := Sep.one ho
  have hbv := bstep hb0 hb
  have hsv := Sep.app S0 hb0.size hb hs
  have hsx := hsv.box hbv.size 24 [.int .i64 s0, .int .i64 y0, .slice ax nx cx]
  have hbx : Below W.heap.size W (V0.alloc (.cells #[.int .i64 s0, .int .i64 y0, .slice ax nx cx] 24)) := bal hbv _
  clear ho hs hsv p0_0' p0_1' p0_2' E0
  go_wp2_with fail
  refine HK.out _ _ ?_
  clear HK
  obtain ⟨X0, hX0⟩ : ∃ x, V0.heap.size = x := ⟨_, rfl⟩
  rw [hX0] at hsx
  try rw [hX0]
  generalize V0.alloc (.cells #[.int .i64 s0, .int .i64 y0, .slice ax nx cx] 24) = W1 at *
  have S1 := hsx
  have hb1 := hbx
  clear hsx hbx hb hbv S0 hb0 hX0
  apply wp_seq_k; intro K hK
  have HK := hidp hK
  clear hK
  have p0_0' := p0_0.out _ hb1
  have p0_1' := p0_1.out _ hb1
  have p0_2' := p0_2.out _ hb1
  have p1_0' := p1_0.out _ hb1
  have p1_1' := p1_1.out _ hb1
  have p1_2' := p1_2.out _ hb1
  go_wp2_with fail
  refine (E1.out _ hb1).mono ?_
  rintro e V1 ⟨s1, y1, v, r, rfl, hf, hb⟩
  obtain ⟨ny, by_, ho, hny⟩ := hf
  obtain ⟨ay, cy, rfl, _, _⟩ := owns_form ho
  have hs : Sep W1.heap.size V1 [bE (.slice ay ny cy) ny by_] := Sep.one ho
  have hbv := bstep hb1 hb
  have hsv := Sep.app S1 hb1.size hb hs
  have hsx := hsv.box hbv.size 24 [.int .i64 s1, .int .i64 y1, .slice ay ny cy]
  have hbx : Below W.heap.size W (V1.alloc (.cells #[.int .i64 s1, .int .i64 y1, .slice ay ny cy] 24)) := bal hbv _
  clear ho hs hsv p0_0' p0_1' p0_2' p1_0' p1_1' p1_2' E1
  go_wp2_with fail
  refine HK.out _ _ ?_
  clear HK
  obtain ⟨X1, hX1⟩ : ∃ x, V1.heap.size = x := ⟨_, rfl⟩
  rw [hX1] at hsx
  try rw [hX1]
  generalize V1.alloc (.cells #[.int .i64 s1, .int .i64 y1, .slice ay ny cy] 24) = W2 at *
  have S2 := hsx
  have hb2 := hbx
  clear hsx hbx hb hbv S1 hb1 hX1
  apply wp_seq_k; intro K hK
  have HK := hidp hK
  clear hK
  have p2_0' := p2_0.out _ hb2
  have p2_1' := p2_1.out _ hb2
  go_wp2_with fail
  refine (E2.out _ hb2).mono ?_
  rintro e V2 ⟨kp, v, r, rfl, hf, hb⟩
  obtain ⟨ap, np, cp, xp, Lp, rfl, Tp, hs⟩ := frt_tab hf
  have hbv := bstep hb2 hb
  have hsv := Sep.app S2 hb2.size hb hs
  have hsx := hsv.box hbv.size 27 [.int .i64 kp, .slice ap np cp]
  have hbx : Below W.heap.size W (V2.alloc (.cells #[.int .i64 kp, .slice ap np cp] 27)) := bal hbv _
  clear hs hsv p2_0' p2_1' E2
  go_wp2_with fail
  refine HK.out _ _ ?_
  clear HK
  have Tpx := (Tp.late (Late.below ((Below.refl _ _).alloc (Nat.le_refl _) (.cells #[.int .i64 kp, .slice ap np cp] 27)))).base hb2.size
  obtain ⟨X2, hX2⟩ : ∃ x, V2.heap.size = x := ⟨_, rfl⟩
  rw [hX2] at hsx
  try rw [hX2]
  generalize V2.alloc (.cells #[.int .i64 kp, .slice ap np cp] 27) = W3 at *
  have S3 := hsx
  have hb3 := hbx
  clear hsx hbx hb hbv S2 hb2 hX2 Tp
  apply wp_seq_k; intro K hK
  have HK := hidp hK
  clear hK
  have p2_0' := p2_0.out _ hb3
  have p2_1' := p2_1.out _ hb3
  have p3_0' := p3_0.out _ hb3
  have p3_1' := p3_1.out _ hb3
  go_wp2_with fail
  refine (E3.out _ hb3).mono ?_
  rintro e V3 ⟨kq, v, r, rfl, hf, hb⟩
  obtain ⟨aq, nq, cq, xq, Lq, rfl, Tq, hs⟩ := frt_tab hf
  have hbv := bstep hb3 hb
  have hsv := Sep.app S3 hb3.size hb hs
  have hsx := hsv.box hbv.size 27 [.int .i64 kq, .slice aq nq cq]
  have hbx : Below W.heap.size W (V3.alloc (.cells #[.int .i64 kq, .slice aq nq cq] 27)) := bal hbv _
  clear hs hsv p2_0' p2_1' p3_0' p3_1' E3
  go_wp2_with fail
  refine HK.out _ _ ?_
  clear HK
  have Tqx := (Tq.late (Late.below ((Below.refl _ _).alloc (Nat.le_refl _) (.cells #[.int .i64 kq, .slice aq nq cq] 27)))).base hb3.size
  have Tpx := Tpx.late ((Late.below hb).trans (Late.below ((Below.refl _ _).alloc (Nat.le_refl _) (.cells #[.int .i64 kq, .slice aq nq cq] 27))))
  obtain ⟨X3, hX3⟩ : ∃ x, V3.heap.size = x := ⟨_, rfl⟩
  rw [hX3] at hsx
  try rw [hX3]
  generalize V3.alloc (.cells #[.int .i64 kq, .slice aq nq cq] 27) = W4 at *
  have S4 := hsx
  have hb4 := hbx
  clear hsx hbx hb hbv S3 hb3 hX3 Tq
  apply wp_seq_k; intro K hK
  have HK := hidp hK
  clear hK
  have p4_0' := p4_0.out _ hb4
  have p4_1' := p4_1.out _ hb4
  have p4_2' := p4_2.out _ hb4
  go_wp2_with fail
  refine (E4.out _ hb4).mono ?_
  rintro e V4 ⟨k4, l4, v, r, rfl, hf, hb⟩
  obtain ⟨nk, lk, ho, hnk⟩ := hf
  obtain ⟨ak, ck, rfl, _, _⟩ := owns_form ho
  have hs : Sep W4.heap.size V4 [ec (.slice ak nk ck) nk lk] := Sep.one ho
  have hbv := bstep hb4 hb
  have hsv := Sep.app S4 hb4.size hb hs
  have hsx := hsv.box hbv.size 30 [.int .i64 k4, .int .i64 l4, .slice ak nk ck]
  have hbx : Below W.heap.size W (V4.alloc (.cells #[.int .i64 k4, .int .i64 l4, .slice ak nk ck] 30)) := bal hbv _
  clear ho hs hsv p4_0' p4_1' p4_2' E4
  go_wp2_with fail
  refine HK.out _ _ ?_
  clear HK
  have Tpx := Tpx.late ((Late.below hb).trans (Late.below ((Below.refl _ _).alloc (Nat.le_refl _) (.cells #[.int .i64 k4, .int .i64 l4, .slice ak nk ck] 30))))
  have Tqx := Tqx.late ((Late.below hb).trans (Late.below ((Below.refl _ _).alloc (Nat.le_refl _) (.cells #[.int .i64 k4, .int .i64 l4, .slice ak nk ck] 30))))
  obtain ⟨X4, hX4⟩ : ∃ x, V4.heap.size = x := ⟨_, rfl⟩
  rw [hX4] at hsx
  try rw [hX4]
  generalize V4.alloc (.cells #[.int .i64 k4, .int .i64 l4, .slice ak nk ck] 30) = W5 at *
  have S5 := hsx
  have hb5 := hbx
  clear hsx hbx hb hbv S4 hb4 hX4
  apply wp_seq_k; intro K hK
  have HK := hidp hK
  clear hK
  have p4_0' := p4_0.out _ hb5
  have p4_1' := p4_1.out _ hb5
  have p4_2' := p4_2.out _ hb5
  have p5_0' := p5_0.out _ hb5
  have p5_1' := p5_1.out _ hb5
  have p5_2' := p5_2.out _ hb5
  go_wp2_with fail
  refine (E5.out _ hb5).mono ?_
  rintro e V5 ⟨k5, l5, v, r, rfl, hf, hb⟩
  obtain ⟨nm, lm, ho, hnm⟩ := hf
  obtain ⟨am, cm, rfl, _, _⟩ := owns_form ho
  have hs : Sep W5.heap.size V5 [ec (.slice am nm cm) nm lm] := Sep.one ho
  have hbv := bstep hb5 hb
  have hsv := Sep.app S5 hb5.size hb hs
  have hsx := hsv.box hbv.size 30 [.int .i64 k5, .int .i64 l5, .slice am nm cm]
  have hbx : Below W.heap.size W (V5.alloc (.cells #[.int .i64 k5, .int .i64 l5, .slice am nm cm] 30)) := bal hbv _
  clear ho hs hsv p4_0' p4_1' p4_2' p5_0' p5_1' p5_2' E5
  go_wp2_with fail
  refine HK.out _ _ ?_
  clear HK
  have Tpx := Tpx.late ((Late.below hb).trans (Late.below ((Below.refl _ _).alloc (Nat.le_refl _) (.cells #[.int .i64 k5, .int .i64 l5, .slice am nm cm] 30))))
  have Tqx := Tqx.late ((Late.below hb).trans (Late.below ((Below.refl _ _).alloc (Nat.le_refl _) (.cells #[.int .i64 k5, .int .i64 l5, .slice am nm cm] 30))))
  obtain ⟨X5, hX5⟩ : ∃ x, V5.heap.size = x := ⟨_, rfl⟩
  rw [hX5] at hsx
  try rw [hX5]
  generalize V5.alloc (.cells #[.int .i64 k5, .int .i64 l5, .slice am nm cm] 30) = W6 at *
  have S6 := hsx
  have hb6 := hbx
  clear hsx hbx hb hbv S5 hb5 hX5
  have S15 : Sep W.heap.size W6 ([bE (.slice ax nx cx) nx bx, sE 24 X0 [.int .i64 s0, .int .i64 y0, (.slice ax nx cx)], bE (.slice ay ny cy) ny by_, sE 24 X1 [.int .i64 s1, .int .i64 y1, (.slice ay ny cy)]] ++ ((Lp ++ [sE 27 X2 [.int .i64 kp, .slice ap np cp]]) ++ ((Lq ++ [sE 27 X3 [.int .i64 kq, .slice aq nq cq]]) ++ [ec (.slice ak nk ck) nk lk, sE 30 X4 [.int .i64 k4, .int .i64 l4, (.slice ak nk ck)], ec (.slice am nm cm) nm lm, sE 30 X5 [.int .i64 k5, .int .i64 l5, (.slice am nm cm)]]))) := by
    simp only [List.append_assoc, List.cons_append, List.nil_append] at S6 ⊢
    exact S6
  obtain ⟨BX, I0, I1, I2, I3, I4, I5⟩ := HI.out
  exact pB1 (bstep HW.out hb6) hB0 hB01 hb6.size S15 Tpx Tqx hnx hny hnk hnm (SO := HG.out.below hb6) hg4 hg5 hg0 hn0 hg1 hn1 hn2 hn3 HRR.out.1 HRR.out.2 (BX.below hb6) (I0.below hb6) (I1.below hb6) (I2.below hb6) (I3.below hb6) (I4.below hb6) (I5.below hb6) hn4 hn5
end Go.Proofs.Ytffocoflmbhknaa.sketchOwn
