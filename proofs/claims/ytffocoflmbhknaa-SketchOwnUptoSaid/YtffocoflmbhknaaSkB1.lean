/- The walk of SketchOwn: what was handed in is as it was (region 15; printed by wip/gen/skB1.py). -/
import Derived.Test.YtffocoflmbhknaaSkB
namespace Go.Proofs.Ytffocoflmbhknaa.sketchOwn
set_option linter.unusedVariables false
open Go.ChangeShapes Go.WideShapes Go.ChangeAt Go.RowKit
open Go.Proofs.Ytffocoflmbhknaa
set_option maxRecDepth 20000
set_option maxHeartbeats 16000000 in
theorem pB1 {w0 W : World} {B0 B1 : Nat} {X0 X1 X2 X3 X4 X5 : Nat} {s0 y0 s1 y1 kp kq k4 l4 k5 l5 : Int} {vx vy vk vm : Value} {nx ny nk nm : Nat} {bx by_ : List Bool} {lk lm : List (Int × Int)} {ap aq : Option Addr} {np nq cp cq : Nat} {xp xq : List (List Int)} {Lp Lq : List Ent} {P4 g4 n4 P5 g5 n5 P0 g0 n0 P1 g1 n1 : Nat} {kk4 lo4 kk5 lo5 sz0 wy0 sz1 wy1 : Int} {bf0 bf1 : List Bool} {L4 L5 : List (Int × Int)} {Q0 Q1 Q2 Q3 Q4 Q5 hh c0 c1 c2 c3 c4 c5 : Nat} {a0 a1 a2 a3 a4 a5 : Option Addr} {P2 P3 n2 n3 c7 c8 : Nat} {a7 a8 : Option Addr} {wd2 wd3 : Int} {xs2 xs3 : List (List Int)} {G2 G3 : Nat → Nat}
    {u0 u1 u2 u3 u4 u5 u6 u7 u14 u15 u16 u17 u18 u26 u28 u30 u32 u34 u36 u37 u38 u39 u40 u41 u42 u43 u44 u45 u46 u47 u48 u49 u50 u51 u52 u53 u54 u55 u56 u57 u58 u59 u60 u61 u62 u63 u64 u65 u66 u67 u68 u69 u70 u71 u72 u73 u74 u75 u76 u77 u78 u79 u80 u81 u82 u83 u84 u85 u86 u87 u88 u89 u90 u91 u92 u93 u94 u95 u96 u97 u98 u99 u100 u101 u102 u103 u104 u105 u106 u107 u108 u109 u110 u111 u112 u113 u114 u115 u116 u117 u118 u119 u120 u121 u122 u123 u124 u125 u126 u127 u128 u129 u130 u131 u132 u133 u134 u135 u136 u137 u138 u139 u140 u141 u142 u143 u144 u145 u146 u147 u148 u149 u150 u151 u152 u153 u154 u155 u156 u157 u158 u159 u160 u161 u162 u163 u164 u165 u166 u167 u168 u169 u170 u171 u172 u173 u174 u175 u176 u177 u178 u179 u180 u181 u182 u183 u184 u185 u186 u187 u188 u189 u190 u191 u192 u193 u194 u195 u196 u197 u198 u199 u200 u201 u202 u203 u204 u205 u206 u207 u208 u209 u210 u211 u212 u213 u214 u215 u216 u217 u218 u219 u220 u221 u222 u223 u224 u225 u226 u227 u228 u229 u230 u231 u232 u233 u234 u235 u236 u237 u238 u239 u240 u241 u242 u243 u244 u245 u246 u247 u248 u249 u250 u251 u252 u253 u254 u255 u256 u257 u258 u259 u260 u261 u262 u263 u264 u265 u266 u267 u268 u269 u270 u271 u272 u273 u274 u275 u276 u277 u278 u279 u280 u281 u282 u283 u284 u285 u286 u287 u288 u289 u290 u291 u292 u293 u294 u295 u296 u297 u298 u299 u300 u301 u302 u303 u304 u305 u306 u307 u308 u309 u310 u311 u312 u313 u314 u315 u316 u317 u318 u319 u320 u321 u322 u323 u324 u325 u326 u327 u328 : Value}
    (hw : Below w0.heap.size w0 W) (hB0 : w0.heap.size ≤ B0) (hB01 : B0 ≤ B1) (hB1 : B1 ≤ W.heap.size)
    (S : Sep B1 W ([bE vx nx bx, sE 24 X0 [.int .i64 s0, .int .i64 y0, vx], bE vy ny by_, sE 24 X1 [.int .i64 s1, .int .i64 y1, vy]] ++ ((Lp ++ [sE 27 X2 [.int .i64 kp, .slice ap np cp]]) ++ ((Lq ++ [sE 27 X3 [.int .i64 kq, .slice aq nq cq]]) ++ [ec vk nk lk, sE 30 X4 [.int .i64 k4, .int .i64 l4, vk], ec vm nm lm, sE 30 X5 [.int .i64 k5, .int .i64 l5, vm]]))))
    (TP : TabR B1 W ap np cp xp Lp) (TQ : TabR B1 W aq nq cq xq Lq) (hnx : nx ≤ 1000) (hny : ny ≤ 1000) (hnk : nk ≤ 1000) (hnm : nm ≤ 1000)
    (SO : Sep B0 W (([sE 27 P2 [.int .i64 wd2, .slice a7 n2 c7]] ++ (hdrE (.slice a7 n2 c7) n2 (rowsV xs2 G2 n2) :: rowsE xs2 G2 n2)) ++ (([sE 27 P3 [.int .i64 wd3, .slice a8 n3 c8]] ++ (hdrE (.slice a8 n3 c8) n3 (rowsV xs3 G3 n3) :: rowsE xs3 G3 n3)) ++ ([sE 30 P4 [.int .i64 kk4, .int .i64 lo4, .slice (some ⟨g4, 0, none⟩) n4 (n4 + 3)], ⟨36, 2, .slice (some ⟨g4, 0, none⟩) (n4 + 3) (n4 + 3), n4 + 3, cntV L4 ++ [.int .i64 0, .int .i64 (-7), .int .i64 0, .int .i64 (-7), .int .i64 0, .int .i64 (-7)]⟩] ++ ([sE 30 P5 [.int .i64 kk5, .int .i64 lo5, .slice (some ⟨g5, 0, none⟩) n5 (n5 + 3)], ⟨36, 2, .slice (some ⟨g5, 0, none⟩) (n5 + 3) (n5 + 3), n5 + 3, cntV L5 ++ [.int .i64 0, .int .i64 (-8), .int .i64 0, .int .i64 (-8), .int .i64 0, .int .i64 (-8)]⟩] ++ ([sE 24 P0 [.int .i64 sz0, .int .i64 wy0, .slice (some ⟨g0, 0, none⟩) n0 (n0 + 3)], bE (.slice (some ⟨g0, 0, none⟩) (n0 + 3) (n0 + 3)) (n0 + 3) (bf0 ++ [true, true, true])] ++ [sE 24 P1 [.int .i64 sz1, .int .i64 wy1, .slice (some ⟨g1, 0, none⟩) n1 (n1 + 3)], bE (.slice (some ⟨g1, 0, none⟩) (n1 + 3) (n1 + 3)) (n1 + 3) (bf1 ++ [true, true, true])])))))) (hg4 : g4 < B1) (hg5 : g5 < B1) (hg0 : g0 < B1) (hn0 : n0 ≤ 1048576) (hg1 : g1 < B1) (hn1 : n1 ≤ 1048576) (hn2 : n2 ≤ 1048576) (hn3 : n3 ≤ 1048576) (hR2 : ∀ i, i < n2 → G2 i < B1) (hR3 : ∀ i, i < n3 → G3 i < B1)
    (BX : Boxes hh [(Q0, 0, .int .i64 sz0), (Q0, 1, .int .i64 wy0), (Q0, 2, .slice a0 n0 c0), (Q1, 0, .int .i64 sz1), (Q1, 1, .int .i64 wy1), (Q1, 2, .slice a1 n1 c1), (Q2, 0, .int .i64 wd2), (Q2, 1, .slice a2 n2 c2), (Q3, 0, .int .i64 wd3), (Q3, 1, .slice a3 n3 c3), (Q4, 0, .int .i64 kk4), (Q4, 1, .int .i64 lo4), (Q4, 2, .slice a4 n4 c4), (Q5, 0, .int .i64 kk5), (Q5, 1, .int .i64 lo5), (Q5, 2, .slice a5 n5 c5)] W) (I0 : BoolsAt W a0 n0 c0 bf0) (I1 : BoolsAt W a1 n1 c1 bf1) (I2 : RowsZ W a2 n2 c2 xs2) (I3 : RowsZ W a3 n3 c3 xs3) (I4 : CntAt W a4 n4 c4 L4) (I5 : CntAt W a5 n5 c5 L5)
    (hn4 : n4 ≤ 1048576) (hn5 : n5 ≤ 1048576) :
    (cd 13).wp Try.prog (bodyPost Try.prog Try.f3 (fun e w' => e = .returned (.bool true) ∧ Below w0.heap.size w0 w'))
      ⟨#[u0, u1, u2, u3, u4, u5, u6, u7, .pointer (some ⟨Q0, 0, none⟩), .pointer (some ⟨Q1, 0, none⟩), .pointer (some ⟨Q2, 0, none⟩), .pointer (some ⟨Q3, 0, none⟩), .pointer (some ⟨Q4, 0, none⟩), .pointer (some ⟨Q5, 0, none⟩), u14, u15, u16, u17, u18, .pointer (some ⟨P0, 0, none⟩), .pointer (some ⟨P1, 0, none⟩), .pointer (some ⟨P2, 0, none⟩), .pointer (some ⟨P3, 0, none⟩), .pointer (some ⟨P4, 0, none⟩), .pointer (some ⟨P5, 0, none⟩), .pointer (some ⟨X0, 0, none⟩), u26, .pointer (some ⟨X1, 0, none⟩), u28, .pointer (some ⟨X2, 0, none⟩), u30, .pointer (some ⟨X3, 0, none⟩), u32, .pointer (some ⟨X4, 0, none⟩), u34, .pointer (some ⟨X5, 0, none⟩), u36, u37, u38, u39, u40, u41, u42, u43, u44, u45, u46, u47, u48, u49, u50, u51, u52, u53, u54, u55, u56, u57, u58, u59, u60, u61, u62, u63, u64, u65, u66, u67, u68, u69, u70, u71, u72, u73, u74, u75, u76, u77, u78, u79, u80, u81, u82, u83, u84, u85, u86, u87, u88, u89, u90, u91, u92, u93, u94, u95, u96, u97, u98, u99, u100, u101, u102, u103, u104, u105, u106, u107, u108, u109, u110, u111, u112, u113, u114, u115, u116, u117, u118, u119, u120, u121, u122, u123, u124, u125, u126, u127, u128, u129, u130, u131, u132, u133, u134, u135, u136, u137, u138, u139, u140, u141, u142, u143, u144, u145, u146, u147, u148, u149, u150, u151, u152, u153, u154, u155, u156, u157, u158, u159, u160, u161, u162, u163, u164, u165, u166, u167, u168, u169, u170, u171, u172, u173, u174, u175, u176, u177, u178, u179, u180, u181, u182, u183, u184, u185, u186, u187, u188, u189, u190, u191, u192, u193, u194, u195, u196, u197, u198, u199, u200, u201, u202, u203, u204, u205, u206, u207, u208, u209, u210, u211, u212, u213, u214, u215, u216, u217, u218, u219, u220, u221, u222, u223, u224, u225, u226, u227, u228, u229, u230, u231, u232, u233, u234, u235, u236, u237, u238, u239, u240, u241, u242, u243, u244, u245, u246, u247, u248, u249, u250, u251, u252, u253, u254, u255, u256, u257, u258, u259, u260, u261, u262, u263, u264, u265, u266, u267, u268, u269, u270, u271, u272, u273, u274, u275, u276, u277, u278, u279, u280, u281, u282, u283, u284, u285, u286, u287, u288, u289, u290, u291, u292, u293, u294, u295, u296, u297, u298, u299, u300, u301, u302, u303, u304, u305, u306, u307, u308, u309, u310, u311, u312, u313, u314, u315, u316, u317, u318, u319, u320, u321, u322, u323, u324, u325, u326, u327, u328], []⟩ W := by
  have HG := hidp (And.intro S (And.intro TP (And.intro TQ SO)))
  have HW := hidp hw
  have i2 := I2.rows
  have i3 := I3.rows
  have p0_0 := hidp (fun W' (hB : Below W.heap.size W W') => (show W'.cell? ⟨P0, 0, none⟩ = some (.int .i64 sz0) from box_cell SO.r.r.r.r.l (t := 24) (P := P0) (cs := [.int .i64 sz0, .int .i64 wy0, .slice (some ⟨g0, 0, none⟩) n0 (n0 + 3)]) (by simp) 0 (by simp) W' hB))
  have p0_1 := hidp (fun W' (hB : Below W.heap.size W W') => (show W'.cell? ⟨P0, 1, none⟩ = some (.int .i64 wy0) from box_cell SO.r.r.r.r.l (t := 24) (P := P0) (cs := [.int .i64 sz0, .int .i64 wy0, .slice (some ⟨g0, 0, none⟩) n0 (n0 + 3)]) (by simp) 1 (by simp) W' hB))
  have p0_2 := hidp (fun W' (hB : Below W.heap.size W W') => (show W'.cell? ⟨P0, 2, none⟩ = some (.slice (some ⟨g0, 0, none⟩) n0 (n0 + 3)) from box_cell SO.r.r.r.r.l (t := 24) (P := P0) (cs := [.int .i64 sz0, .int .i64 wy0, .slice (some ⟨g0, 0, none⟩) n0 (n0 + 3)]) (by simp) 2 (by simp) W' hB))
  have p1_0 := hidp (fun W' (hB : Below W.heap.size W W') => (show W'.cell? ⟨P1, 0, none⟩ = some (.int .i64 sz1) from box_cell SO.r.r.r.r.r (t := 24) (P := P1) (cs := [.int .i64 sz1, .int .i64 wy1, .slice (some ⟨g1, 0, none⟩) n1 (n1 + 3)]) (by simp) 0 (by simp) W' hB))
  have p1_1 := hidp (fun W' (hB : Below W.heap.size W W') => (show W'.cell? ⟨P1, 1, none⟩ = some (.int .i64 wy1) from box_cell SO.r.r.r.r.r (t := 24) (P := P1) (cs := [.int .i64 sz1, .int .i64 wy1, .slice (some ⟨g1, 0, none⟩) n1 (n1 + 3)]) (by simp) 1 (by simp) W' hB))
  have p1_2 := hidp (fun W' (hB : Below W.heap.size W W') => (show W'.cell? ⟨P1, 2, none⟩ = some (.slice (some ⟨g1, 0, none⟩) n1 (n1 + 3)) from box_cell SO.r.r.r.r.r (t := 24) (P := P1) (cs := [.int .i64 sz1, .int .i64 wy1, .slice (some ⟨g1, 0, none⟩) n1 (n1 + 3)]) (by simp) 2 (by simp) W' hB))
  have p2_0 := hidp (fun W' (hB : Below W.heap.size W W') => (show W'.cell? ⟨P2, 0, none⟩ = some (.int .i64 wd2) from box_cell SO.l.l (t := 27) (P := P2) (cs := [.int .i64 wd2, .slice a7 n2 c7]) (by simp) 0 (by simp) W' hB))
  have p2_1 := hidp (fun W' (hB : Below W.heap.size W W') => (show W'.cell? ⟨P2, 1, none⟩ = some (.slice a7 n2 c7) from box_cell SO.l.l (t := 27) (P := P2) (cs := [.int .i64 wd2, .slice a7 n2 c7]) (by simp) 1 (by simp) W' hB))
  have p3_0 := hidp (fun W' (hB : Below W.heap.size W W') => (show W'.cell? ⟨P3, 0, none⟩ = some (.int .i64 wd3) from box_cell SO.r.l.l (t := 27) (P := P3) (cs := [.int .i64 wd3, .slice a8 n3 c8]) (by simp) 0 (by simp) W' hB))
  have p3_1 := hidp (fun W' (hB : Below W.heap.size W W') => (show W'.cell? ⟨P3, 1, none⟩ = some (.slice a8 n3 c8) from box_cell SO.r.l.l (t := 27) (P := P3) (cs := [.int .i64 wd3, .slice a8 n3 c8]) (by simp) 1 (by simp) W' hB))
  have p4_0 := hidp (fun W' (hB : Below W.heap.size W W') => (show W'.cell? ⟨P4, 0, none⟩ = some (.int .i64 kk4) from box_cell SO.r.r.l (t := 30) (P := P4) (cs := [.int .i64 kk4, .int .i64 lo4, .slice (some ⟨g4, 0, none⟩) n4 (n4 + 3)]) (by simp) 0 (by simp) W' hB))
  have p4_1 := hidp (fun W' (hB : Below W.heap.size W W') => (show W'.cell? ⟨P4, 1, none⟩ = some (.int .i64 lo4) from box_cell SO.r.r.l (t := 30) (P := P4) (cs := [.int .i64 kk4, .int .i64 lo4, .slice (some ⟨g4, 0, none⟩) n4 (n4 + 3)]) (by simp) 1 (by simp) W' hB))
  have p4_2 := hidp (fun W' (hB : Below W.heap.size W W') => (show W'.cell? ⟨P4, 2, none⟩ = some (.slice (some ⟨g4, 0, none⟩) n4 (n4 + 3)) from box_cell SO.r.r.l (t := 30) (P := P4) (cs := [.int .i64 kk4, .int .i64 lo4, .slice (some ⟨g4, 0, none⟩) n4 (n4 + 3)]) (by simp) 2 (by simp) W' hB))
  have p5_0 := hidp (fun W' (hB : Below W.heap.size W W') => (show W'.cell? ⟨P5, 0, none⟩ = some (.int .i64 kk5) from box_cell SO.r.r.r.l (t := 30) (P := P5) (cs := [.int .i64 kk5, .int .i64 lo5, .slice (some ⟨g5, 0, none⟩) n5 (n5 + 3)]) (by simp) 0 (by simp) W' hB))
  have p5_1 := hidp (fun W' (hB : Below W.heap.size W W') => (show W'.cell? ⟨P5, 1, none⟩ = some (.int .i64 lo5) from box_cell SO.r.r.r.l (t := 30) (P := P5) (cs := [.int .i64 kk5, .int .i64 lo5, .slice (some ⟨g5, 0, none⟩) n5 (n5 + 3)]) (by simp) 1 (by simp) W' hB))
  have p5_2 := hidp (fun W' (hB : Below W.heap.size W W') => (show W'.cell? ⟨P5, 2, none⟩ = some (.slice (some ⟨g5, 0, none⟩) n5 (n5 + 3)) from box_cell SO.r.r.r.l (t := 30) (P := P5) (cs := [.int .i64 kk5, .int .i64 lo5, .slice (some ⟨g5, 0, none⟩) n5 (n5 + 3)]) (by simp) 2 (by simp) W' hB))
  have q0_0 := hidp (fun W' (hB : Below W.heap.size W W') => (show W'.cell? ⟨Q0, 0, none⟩ = some (.int .i64 sz0) from ck hB (BX.at_ Q0 0 (.int .i64 sz0) (by simp)).2))
  have q0_1 := hidp (fun W' (hB : Below W.heap.size W W') => (show W'.cell? ⟨Q0, 1, none⟩ = some (.int .i64 wy0) from ck hB (BX.at_ Q0 1 (.int .i64 wy0) (by simp)).2))
  have q0_2 := hidp (fun W' (hB : Below W.heap.size W W') => (show W'.cell? ⟨Q0, 2, none⟩ = some (.slice a0 n0 c0) from ck hB (BX.at_ Q0 2 (.slice a0 n0 c0) (by simp)).2))
  have q1_0 := hidp (fun W' (hB : Below W.heap.size W W') => (show W'.cell? ⟨Q1, 0, none⟩ = some (.int .i64 sz1) from ck hB (BX.at_ Q1 0 (.int .i64 sz1) (by simp)).2))
  have q1_1 := hidp (fun W' (hB : Below W.heap.size W W') => (show W'.cell? ⟨Q1, 1, none⟩ = some (.int .i64 wy1) from ck hB (BX.at_ Q1 1 (.int .i64 wy1) (by simp)).2))
  have q1_2 := hidp (fun W' (hB : Below W.heap.size W W') => (show W'.cell? ⟨Q1, 2, none⟩ = some (.slice a1 n1 c1) from ck hB (BX.at_ Q1 2 (.slice a1 n1 c1) (by simp)).2))
  have q2_0 := hidp (fun W' (hB : Below W.heap.size W W') => (show W'.cell? ⟨Q2, 0, none⟩ = some (.int .i64 wd2) from ck hB (BX.at_ Q2 0 (.int .i64 wd2) (by simp)).2))
  have q2_1 := hidp (fun W' (hB : Below W.heap.size W W') => (show W'.cell? ⟨Q2, 1, none⟩ = some (.slice a2 n2 c2) from ck hB (BX.at_ Q2 1 (.slice a2 n2 c2) (by simp)).2))
  have q3_0 := hidp (fun W' (hB : Below W.heap.size W W') => (show W'.cell? ⟨Q3, 0, none⟩ = some (.int .i64 wd3) from ck hB (BX.at_ Q3 0 (.int .i64 wd3) (by simp)).2))
  have q3_1 := hidp (fun W' (hB : Below W.heap.size W W') => (show W'.cell? ⟨Q3, 1, none⟩ = some (.slice a3 n3 c3) from ck hB (BX.at_ Q3 1 (.slice a3 n3 c3) (by simp)).2))
  have q4_0 := hidp (fun W' (hB : Below W.heap.size W W') => (show W'.cell? ⟨Q4, 0, none⟩ = some (.int .i64 kk4) from ck hB (BX.at_ Q4 0 (.int .i64 kk4) (by simp)).2))
  have q4_1 := hidp (fun W' (hB : Below W.heap.size W W') => (show W'.cell? ⟨Q4, 1, none⟩ = some (.int .i64 lo4) from ck hB (BX.at_ Q4 1 (.int .i64 lo4) (by simp)).2))
  have q4_2 := hidp (fun W' (hB : Below W.heap.size W W') => (show W'.cell? ⟨Q4, 2, none⟩ = some (.slice a4 n4 c4) from ck hB (BX.at_ Q4 2 (.slice a4 n4 c4) (by simp)).2))
  have q5_0 := hidp (fun W' (hB : Below W.heap.size W W') => (show W'.cell? ⟨Q5, 0, none⟩ = some (.int .i64 kk5) from ck hB (BX.at_ Q5 0 (.int .i64 kk5) (by simp)).2))
  have q5_1 := hidp (fun W' (hB : Below W.heap.size W W') => (show W'.cell? ⟨Q5, 1, none⟩ = some (.int .i64 lo5) from ck hB (BX.at_ Q5 1 (.int .i64 lo5) (by simp)).2))
  have q5_2 := hidp (fun W' (hB : Below W.heap.size W W') => (show W'.cell? ⟨Q5, 2, none⟩ = some (.slice a5 n5 c5) from ck hB (BX.at_ Q5 2 (.slice a5 n5 c5) (by simp)).2))
  obtain ⟨r0, g0l, m0⟩ := bools_room (SO.r.r.r.r.l.own (bE (.slice (some ⟨g0, 0, none⟩) (n0 + 3) (n0 + 3)) (n0 + 3) (bf0 ++ [true, true, true])) (by simp))
  obtain ⟨r1, g1l, m1⟩ := bools_room (SO.r.r.r.r.r.own (bE (.slice (some ⟨g1, 0, none⟩) (n1 + 3) (n1 + 3)) (n1 + 3) (bf1 ++ [true, true, true])) (by simp))
  have r2 := copied_rows SO.l.r I2.len (fun i hi => by obtain ⟨b, o, _, _, hc⟩ := I2.cells (by omega); obtain ⟨ai, ni, ci, _, h2, _⟩ := hc i hi; exact h2.bd)
  have r3 := copied_rows SO.r.l.r I3.len (fun i hi => by obtain ⟨b, o, _, _, hc⟩ := I3.cells (by omega); obtain ⟨ai, ni, ci, _, h2, _⟩ := hc i hi; exact h2.bd)
  obtain ⟨r4, g4l, m4⟩ := cnts_room (x := -7) (SO.r.r.l.own (⟨36, 2, .slice (some ⟨g4, 0, none⟩) (n4 + 3) (n4 + 3), n4 + 3, cntV L4 ++ [.int .i64 0, .int .i64 (-7), .int .i64 0, .int .i64 (-7), .int .i64 0, .int .i64 (-7)]⟩ : Ent) (by simp))
  obtain ⟨r5, g5l, m5⟩ := cnts_room (x := -8) (SO.r.r.r.l.own (⟨36, 2, .slice (some ⟨g5, 0, none⟩) (n5 + 3) (n5 + 3), n5 + 3, cntV L5 ++ [.int .i64 0, .int .i64 (-8), .int .i64 0, .int .i64 (-8), .int .i64 0, .int .i64 (-8)]⟩ : Ent) (by simp))
  have E0 := hidp (fun W' (hB : Below W.heap.size W W') => samefilt_c sz0 wy0 (some ⟨g0, 0, none⟩) a0 n0 (n0 + 3) c0 bf0 W' (r0.below hB) (I0.below hB))
  have E1 := hidp (fun W' (hB : Below W.heap.size W W') => samefilt_c sz1 wy1 (some ⟨g1, 0, none⟩) a1 n1 (n1 + 3) c1 bf1 W' (r1.below hB) (I1.below hB))
  have E2 := hidp (fun W' (hB : Below W.heap.size W W') => samet_any wd2 a7 a2 n2 c7 c2 xs2 W' (r2.below hB) (i2.below hB))
  have E3 := hidp (fun W' (hB : Below W.heap.size W W') => samet_any wd3 a8 a3 n3 c8 c3 xs3 W' (r3.below hB) (i3.below hB))
  have E4 := hidp (fun W' (hB : Below W.heap.size W W') => samefew_c kk4 lo4 (some ⟨g4, 0, none⟩) a4 n4 (n4 + 3) c4 L4 W' (r4.below hB) (I4.below hB))
  have E5 := hidp (fun W' (hB : Below W.heap.size W W') => samefew_c kk5 lo5 (some ⟨g5, 0, none⟩) a5 n5 (n5 + 3) c5 L5 W' (r5.below hB) (I5.below hB))
  have E6 := hidp (fun W' (hB : Below W.heap.size W W') => markedB_c g0 n0 true W' (Nat.lt_of_lt_of_le g0l hB.size) (by omega) (fun i hi => ck hB (m0 i hi)))
  have E7 := hidp (fun W' (hB : Below W.heap.size W W') => markedB_c g1 n1 true W' (Nat.lt_of_lt_of_le g1l hB.size) (by omega) (fun i hi => ck hB (m1 i hi)))
  have E8 := hidp (fun W' (hB : Below W.heap.size W W') => markedC_c g4 n4 0 (-7) W' (Nat.lt_of_lt_of_le g4l hB.size) (by omega) (fun i hi => ⟨ck hB (m4 i hi).1, ck hB (m4 i hi).2⟩))
  have E9 := hidp (fun W' (hB : Below W.heap.size W W') => markedC_c g5 n5 0 (-8) W' (Nat.lt_of_lt_of_le g5l hB.size) (by omega) (fun i hi => ⟨ck hB (m5 i hi).1, ck hB (m5 i hi).2⟩))
  unfold filtV at E0 E1
  unfold tabV at E2 E3
  unfold fewV at E4 E5
  have HZ := hidp (And.intro (show ∀ i, i < n2 → (gl xs2 i).length ≤ 17592186043904 from fun i hi => by obtain ⟨b, o, _, _, hc⟩ := I2.cells (by omega); obtain ⟨ai, ni, ci, _, h2, _, h3⟩ := hc i hi; rw [h2.len]; exact h3) (show ∀ i, i < n3 → (gl xs3 i).length ≤ 17592186043904 from fun i hi => by obtain ⟨b, o, _, _, hc⟩ := I3.cells (by omega); obtain ⟨ai, ni, ci, _, h2, _, h3⟩ := hc i hi; rw [h2.len]; exact h3))
  have HRR := hidp (And.intro hR2 hR3)
  clear S TP TQ SO hw BX I0 I1 I2 I3 I4 I5 i2 i3 r0 r1 r2 r3 r4 r5 m0 m1 m4 m5 g0l g1l g4l g5l hR2 hR3
  conv => arg 2; whnf
  dsimp only
  apply wp_seq_k; intro K hK
  have HK := hidp hK
  clear hK
  have p0_0' := p0_0.out _ (Below.refl _ _)
  have p0_1' := p0_1.out _ (Below.refl _ _)
  have p0_2' := p0_2.out _ (Below.refl _ _)
  have q0_0' := q0_0.out _ (Below.refl _ _)
  have q0_1' := q0_1.out _ (Below.refl _ _)
  have q0_2' := q0_2.out _ (Below.refl _ _)
  go_wp2_with fail
  refine (E0.out _ (Below.refl _ _)).mono ?_
  rintro e W1 ⟨rfl, hb⟩
  have hb1 := hb
  clear hb p0_0' p0_1' p0_2' q0_0' q0_1' q0_2' E0
  have p1_0' := p1_0.out _ hb1
  have p1_1' := p1_1.out _ hb1
  have p1_2' := p1_2.out _ hb1
  have q1_0' := q1_0.out _ hb1
  have q1_1' := q1_1.out _ hb1
  have q1_2' := q1_2.out _ hb1
  go_wp2_with fail
  refine (E1.out _ hb1).mono ?_
  rintro e W2 ⟨rfl, hb⟩
  have hb2 := bstep hb1 hb
  clear hb1
  clear hb p1_0' p1_1' p1_2' q1_0' q1_1' q1_2' E1
  have p2_0' := p2_0.out _ hb2
  have p2_1' := p2_1.out _ hb2
  have q2_0' := q2_0.out _ hb2
  have q2_1' := q2_1.out _ hb2
  go_wp2_with fail
  refine (E2.out _ hb2).mono ?_
  rintro e W3 ⟨rfl, hb⟩
  have hb3 := bstep hb2 hb
  clear hb2
  clear hb p2_0' p2_1' q2_0' q2_1' E2
  have p3_0' := p3_0.out _ hb3
  have p3_1' := p3_1.out _ hb3
  have q3_0' := q3_0.out _ hb3
  have q3_1' := q3_1.out _ hb3
  go_wp2_with fail
  refine (E3.out _ hb3).mono ?_
  rintro e W4 ⟨rfl, hb⟩
  have hb4 := bstep hb3 hb
  clear hb3
  clear hb p3_0' p3_1' q3_0' q3_1' E3
  have p4_0' := p4_0.out _ hb4
  have p4_1' := p4_1.out _ hb4
  have p4_2' := p4_2.out _ hb4
  have q4_0' := q4_0.out _ hb4
  have q4_1' := q4_1.out _ hb4
  have q4_2' := q4_2.out _ hb4
  go_wp2_with fail
  refine (E4.out _ hb4).mono ?_
  rintro e W5 ⟨rfl, hb⟩
  have hb5 := bstep hb4 hb
  clear hb4
  clear hb p4_0' p4_1' p4_2' q4_0' q4_1' q4_2' E4
  have p5_0' := p5_0.out _ hb5
  have p5_1' := p5_1.out _ hb5
  have p5_2' := p5_2.out _ hb5
  have q5_0' := q5_0.out _ hb5
  have q5_1' := q5_1.out _ hb5
  have q5_2' := q5_2.out _ hb5
  go_wp2_with fail
  refine (E5.out _ hb5).mono ?_
  rintro e W6 ⟨rfl, hb⟩
  have hb6 := bstep hb5 hb
  clear hb5
  clear hb p5_0' p5_1' p5_2' q5_0' q5_1' q5_2' E5
  have p0_2' := p0_2.out _ hb6
  go_wp2_with fail
  refine (E6.out _ hb6).mono ?_
  rintro e W7 ⟨rfl, hb⟩
  have hb7 := bstep hb6 hb
  clear hb6
  clear hb p0_2' E6
  have p1_2' := p1_2.out _ hb7
  go_wp2_with fail
  refine (E7.out _ hb7).mono ?_
  rintro e W8 ⟨rfl, hb⟩
  have hb8 := bstep hb7 hb
  clear hb7
  clear hb p1_2' E7
  have p4_2' := p4_2.out _ hb8
  go_wp2_with fail
  refine (E8.out _ hb8).mono ?_
  rintro e W9 ⟨rfl, hb⟩
  have hb9 := bstep hb8 hb
  clear hb8
  clear hb p4_2' E8
  have p5_2' := p5_2.out _ hb9
  go_wp2_with fail
  refine (E9.out _ hb9).mono ?_
  rintro e W10 ⟨rfl, hb⟩
  have hb10 := bstep hb9 hb
  clear hb9
  clear hb p5_2' E9
  go_wp2_with fail
  refine HK.out _ _ ?_
  have hl : Late B1 W W10 := Late.below hb10
  exact pB2 (bstep HW.out hb10) hB0 hB01 (Nat.le_trans hB1 hb10.size) (HG.out.1.below hb10) (HG.out.2.1.late hl) (HG.out.2.2.1.late hl) hnx hny hnk hnm (SO := HG.out.2.2.2.below hb10) hg4 hg5 hg0 hn0 hg1 hn1 hn2 hn3 HRR.out.1 HRR.out.2 HZ.out.1 HZ.out.2
end Go.Proofs.Ytffocoflmbhknaa.sketchOwn
