/- The walk of SketchOwn: the bits of the filters that were handed in are turned; what was answered stays (printed by wip/gen/skE.py). -/
import Derived.Test.YtffocoflmbhknaaMgSkF
namespace Go.Proofs.Ytffocoflmbhknaa.sketchOwn
set_option linter.unusedVariables false
open Go.ChangeShapes Go.WideShapes Go.ChangeAt Go.RowKit
open Go.Proofs.Ytffocoflmbhknaa
set_option maxRecDepth 20000
set_option maxHeartbeats 16000000 in
theorem pE1 {w0 W : World} {B0 B1 : Nat} {X0 X1 X2 X3 X4 X5 T1 T2 : Nat} {s0 y0 s1 y1 kp kq k4 l4 k5 l5 : Int} {vx vy vk vm vx1 vy1 vk1 vm1 : Value} {nx ny nk nm : Nat} {bx by_ : List Bool} {lk lm : List (Int × Int)}
    {ap aq ap1 aq1 : Option Addr} {np nq cp cq cp1 cq1 : Nat} {xp xq : List (List Int)} {Lp Lq : List Ent} {Gp Gq : Nat → Nat} {P1 g1 n1 : Nat} {sz1 wy1 : Int} {bs1 : List Bool}
    {u0 u1 u2 u3 u4 u5 u6 u7 u8 u9 u10 u11 u12 u13 u14 u15 u16 u17 u18 u19 u21 u22 u23 u24 u26 u28 u30 u32 u34 u36 u37 u38 u45 u46 u47 u48 u49 u50 u51 u52 u53 u54 u55 u56 u57 u58 u59 u60 u61 u62 u63 u64 u65 u66 u67 u68 u69 u70 u71 u72 u73 u74 u75 u76 u77 u78 u79 u80 u81 u82 u83 u84 u85 u86 u87 u88 u89 u90 u91 u92 u93 u94 u95 u96 u97 u98 u99 u100 u101 u102 u103 u104 u105 u106 u107 u108 u109 u110 u111 u112 u113 u114 u115 u116 u117 u118 u119 u120 u121 u122 u123 u124 u125 u126 u127 u128 u129 u130 u131 u132 u133 u134 u135 u136 u137 u138 u139 u140 u141 u142 u143 u144 u145 u146 u147 u148 u149 u150 u151 u152 u153 u154 u155 u156 u157 u158 u159 u160 u161 u162 u163 u164 u165 u166 u167 u168 u169 u170 u171 u172 u173 u174 u175 u176 u177 u178 u179 u180 u181 u182 u183 u184 u185 u186 u187 u188 u189 u190 u191 u192 u193 u194 u195 u196 u197 u198 u199 u200 u201 u202 u203 u204 u205 u206 u207 u208 u209 u210 u211 u212 u213 u214 u215 u216 u217 u218 u219 u220 u221 u222 u223 u224 u225 u226 u227 u228 u229 u230 u231 u232 u233 u234 u235 u236 u237 u238 u239 u240 u241 u242 u243 u244 u245 u246 u247 u248 u249 u250 u251 u252 u253 u254 u255 u256 u257 u258 u259 u260 u261 u262 u263 u264 u265 u266 u267 u268 u269 u270 u271 u272 u273 u274 u275 u276 u277 u278 u279 u280 u281 u282 u283 u284 u285 u286 u287 u288 u289 u290 u291 u292 u293 u294 u295 u296 u297 u298 u299 u300 u301 u302 u303 u304 u305 u306 u307 u308 u309 u310 u311 u312 u313 u314 u315 u316 u317 u318 u319 u320 u321 u322 u323 u324 u325 u326 u327 u328 : Value}
    (hw : Below w0.heap.size w0 W) (hB0 : w0.heap.size ≤ B0) (hB01 : B0 ≤ B1) (hB1 : B1 ≤ W.heap.size)
    (S : Sep B1 W ([bE vx nx bx, sE 24 X0 [.int .i64 s0, .int .i64 y0, vx], bE vy ny by_, sE 24 X1 [.int .i64 s1, .int .i64 y1, vy]] ++ ((Lp ++ [sE 27 X2 [.int .i64 kp, .slice ap np cp]]) ++ ((Lq ++ [sE 27 X3 [.int .i64 kq, .slice aq nq cq]]) ++ ([ec vk nk lk, sE 30 X4 [.int .i64 k4, .int .i64 l4, vk], ec vm nm lm, sE 30 X5 [.int .i64 k5, .int .i64 l5, vm]] ++ ([bE vx1 nx bx, bE vy1 ny by_] ++ (hdrE (.slice ap1 np cp1) np (rowsV xp Gp np) :: rowsE xp Gp np) ++ (hdrE (.slice aq1 nq cq1) nq (rowsV xq Gq nq) :: rowsE xq Gq nq) ++ [sE 27 T1 [.int .i64 kp, .slice ap1 np cp1], sE 27 T2 [.int .i64 kq, .slice aq1 nq cq1]] ++ [ec vk1 nk lk, ec vm1 nm lm]))))))
    (TP : TabR B1 W ap np cp xp Lp) (TQ : TabR B1 W aq nq cq xq Lq) (hnx : nx ≤ 1000) (hny : ny ≤ 1000) (hnk : nk ≤ 1000) (hnm : nm ≤ 1000)
    (SO : Sep B0 W ([sE 24 P1 [.int .i64 sz1, .int .i64 wy1, .slice (some ⟨g1, 0, none⟩) n1 (n1 + 3)], bE (.slice (some ⟨g1, 0, none⟩) (n1 + 3) (n1 + 3)) (n1 + 3) bs1])) (hg : g1 < B1) (hn1 : n1 ≤ 1048576) :
    (cd 21).wp Try.prog (bodyPost Try.prog Try.f3 (fun e w' => e = .returned (.bool true) ∧ Below w0.heap.size w0 w'))
      ⟨#[u0, u1, u2, u3, u4, u5, u6, u7, u8, u9, u10, u11, u12, u13, u14, u15, u16, u17, u18, u19, .pointer (some ⟨P1, 0, none⟩), u21, u22, u23, u24, .pointer (some ⟨X0, 0, none⟩), u26, .pointer (some ⟨X1, 0, none⟩), u28, .pointer (some ⟨X2, 0, none⟩), u30, .pointer (some ⟨X3, 0, none⟩), u32, .pointer (some ⟨X4, 0, none⟩), u34, .pointer (some ⟨X5, 0, none⟩), u36, u37, u38, vx1, vy1, .pointer (some ⟨T1, 0, none⟩), .pointer (some ⟨T2, 0, none⟩), vk1, vm1, u45, u46, u47, u48, u49, u50, u51, u52, u53, u54, u55, u56, u57, u58, u59, u60, u61, u62, u63, u64, u65, u66, u67, u68, u69, u70, u71, u72, u73, u74, u75, u76, u77, u78, u79, u80, u81, u82, u83, u84, u85, u86, u87, u88, u89, u90, u91, u92, u93, u94, u95, u96, u97, u98, u99, u100, u101, u102, u103, u104, u105, u106, u107, u108, u109, u110, u111, u112, u113, u114, u115, u116, u117, u118, u119, u120, u121, u122, u123, u124, u125, u126, u127, u128, u129, u130, u131, u132, u133, u134, u135, u136, u137, u138, u139, u140, u141, u142, u143, u144, u145, u146, u147, u148, u149, u150, u151, u152, u153, u154, u155, u156, u157, u158, u159, u160, u161, u162, u163, u164, u165, u166, u167, u168, u169, u170, u171, u172, u173, u174, u175, u176, u177, u178, u179, u180, u181, u182, u183, u184, u185, u186, u187, u188, u189, u190, u191, u192, u193, u194, u195, u196, u197, u198, u199, u200, u201, u202, u203, u204, u205, u206, u207, u208, u209, u210, u211, u212, u213, u214, u215, u216, u217, u218, u219, u220, u221, u222, u223, u224, u225, u226, u227, u228, u229, u230, u231, u232, u233, u234, u235, u236, u237, u238, u239, u240, u241, u242, u243, u244, u245, u246, u247, u248, u249, u250, u251, u252, u253, u254, u255, u256, u257, u258, u259, u260, u261, u262, u263, u264, u265, u266, u267, u268, u269, u270, u271, u272, u273, u274, u275, u276, u277, u278, u279, u280, u281, u282, u283, u284, u285, u286, u287, u288, u289, u290, u291, u292, u293, u294, u295, u296, u297, u298, u299, u300, u301, u302, u303, u304, u305, u306, u307, u308, u309, u310, u311, u312, u313, u314, u315, u316, u317, u318, u319, u320, u321, u322, u323, u324, u325, u326, u327, u328], []⟩ W := by
  have HG := hidp (And.intro S (And.intro TP TQ))
  have HW := hidp hw
  have HO := hidp SO
  clear S TP TQ hw SO
  conv => arg 2; whnf
  dsimp only
  apply wp_seq_k; intro K hK
  have HK := hidp hK
  clear hK
  have c2 : W.cell? ⟨P1, 2, none⟩ = some (.slice (some ⟨g1, 0, none⟩) n1 (n1 + 3)) := box_cell HO.out (t := 24) (P := P1) (cs := [.int .i64 sz1, .int .i64 wy1, .slice (some ⟨g1, 0, none⟩) n1 (n1 + 3)]) (by simp) 2 (by simp) W (Below.refl _ _)
  go_wp2_with fail
  clear c2
  go_loopw [261] (fun i wr => ∃ (k : Nat) (bs : List Bool), k ≤ n1 ∧ i = .int .i64 k ∧ Hid (Sep B0 wr ([sE 24 P1 [.int .i64 sz1, .int .i64 wy1, .slice (some ⟨g1, 0, none⟩) n1 (n1 + 3)], bE (.slice (some ⟨g1, 0, none⟩) (n1 + 3) (n1 + 3)) (n1 + 3) bs])) ∧ Hid (Late B1 W wr) ∧ Below B0 W wr) (fun i _ => n1 - (intOf i).toNat)
  case atStart => exact ⟨0, bs1, by omega, rfl, HO, hidp (Late.refl _ _), Below.refl _ _⟩
  case round =>
    clear HO
    obtain ⟨k, bs, hk, rfl, HS, HL, hbl⟩ := hrel
    by_cases hlt : k < n1
    · have hlen : bs.length = n1 + 3 := by have := (HS.out.own (bE (.slice (some ⟨g1, 0, none⟩) (n1 + 3) (n1 + 3)) (n1 + 3) bs) (by simp)).1; simpa [bE] using this
      have c2 : wr.cell? ⟨P1, 2, none⟩ = some (.slice (some ⟨g1, 0, none⟩) n1 (n1 + 3)) := box_cell HS.out (t := 24) (P := P1) (cs := [.int .i64 sz1, .int .i64 wy1, .slice (some ⟨g1, 0, none⟩) n1 (n1 + 3)]) (by simp) 2 (by simp) wr (Below.refl _ _)
      have ho := HS.out.own (bE (.slice (some ⟨g1, 0, none⟩) (n1 + 3) (n1 + 3)) (n1 + 3) bs) (by simp)
      have c3 : wr.cell? ⟨g1, k, none⟩ = some (.bool (gb bs k)) := by
          have := World.ownsRow.cellAt ho k (by show k < (n1 + 3) * 1; omega)
          rw [this]
          show (bs.map Value.bool)[k]? = _
          rw [List.getElem?_map, List.getElem?_eq_getElem (by omega)]
          simp [gb, List.getElem?_eq_getElem (show k < bs.length by omega)]
      have f3 : wr.frozen? ⟨g1, k, none⟩ = false := World.ownsRow.frozenAt ho k
      have hlI : (k : Int) < (n1 : Int) := by omega
      have ne : ¬ P1 = g1 := by have := HS.out.ap; simp [sE, bE, Apart, Value.ownBlock] at this; first | exact this | exact this.1 | exact this.1.1
      have ne' : ¬ g1 = P1 := fun e => ne e.symm
      have HF := hidp (Sep.flip (L1 := [sE 24 P1 [.int .i64 sz1, .int .i64 wy1, .slice (some ⟨g1, 0, none⟩) n1 (n1 + 3)]]) (L2 := []) (g := g1) (n := n1 + 3) (bs := bs) HS.out k (!gb bs k))
      have HFL := hidp (HL.out.trans (flip_late (B1 := B1) ho k (.bool (!gb bs k)) hg))
      have HFB := hidp (hbl.setCell (p := ⟨g1, k, none⟩) (ho.lt g1 rfl).1 (.bool (!gb bs k)))
      clear ho
      go_upto_region 40 with fail
      go_region
      all_goals go_wp2_with fail
      go_roundw
      case measure => simp [intOf]; omega
      case rel => exact ⟨k + 1, _, by omega, by go_num, hidp HF.out.drew, hidp (HFL.out.trans (Late.below (Below.refl _ _).drew)), HFB.out.drew⟩
    · obtain rfl : k = n1 := by omega
      go_wp2_with fail
      refine HK.out _ _ ?_
      have hg2 := HL.out
      exact pF (HW.out.trans (hbl.mono hB0)) (Nat.le_trans hB0 hB01) (Nat.le_trans hB1 hg2.size) (HG.out.1.late hg2) (HG.out.2.1.late hg2) (HG.out.2.2.late hg2) hnx hny hnk hnm
set_option maxHeartbeats 16000000 in
theorem pE0 {w0 W : World} {B0 B1 : Nat} {X0 X1 X2 X3 X4 X5 T1 T2 : Nat} {s0 y0 s1 y1 kp kq k4 l4 k5 l5 : Int} {vx vy vk vm vx1 vy1 vk1 vm1 : Value} {nx ny nk nm : Nat} {bx by_ : List Bool} {lk lm : List (Int × Int)}
    {ap aq ap1 aq1 : Option Addr} {np nq cp cq cp1 cq1 : Nat} {xp xq : List (List Int)} {Lp Lq : List Ent} {Gp Gq : Nat → Nat} {P0 g0 n0 P1 g1 n1 : Nat} {sz0 wy0 sz1 wy1 : Int} {bs0 bs1 : List Bool}
    {u0 u1 u2 u3 u4 u5 u6 u7 u8 u9 u10 u11 u12 u13 u14 u15 u16 u17 u18 u21 u22 u23 u24 u26 u28 u30 u32 u34 u36 u37 u38 u45 u46 u47 u48 u49 u50 u51 u52 u53 u54 u55 u56 u57 u58 u59 u60 u61 u62 u63 u64 u65 u66 u67 u68 u69 u70 u71 u72 u73 u74 u75 u76 u77 u78 u79 u80 u81 u82 u83 u84 u85 u86 u87 u88 u89 u90 u91 u92 u93 u94 u95 u96 u97 u98 u99 u100 u101 u102 u103 u104 u105 u106 u107 u108 u109 u110 u111 u112 u113 u114 u115 u116 u117 u118 u119 u120 u121 u122 u123 u124 u125 u126 u127 u128 u129 u130 u131 u132 u133 u134 u135 u136 u137 u138 u139 u140 u141 u142 u143 u144 u145 u146 u147 u148 u149 u150 u151 u152 u153 u154 u155 u156 u157 u158 u159 u160 u161 u162 u163 u164 u165 u166 u167 u168 u169 u170 u171 u172 u173 u174 u175 u176 u177 u178 u179 u180 u181 u182 u183 u184 u185 u186 u187 u188 u189 u190 u191 u192 u193 u194 u195 u196 u197 u198 u199 u200 u201 u202 u203 u204 u205 u206 u207 u208 u209 u210 u211 u212 u213 u214 u215 u216 u217 u218 u219 u220 u221 u222 u223 u224 u225 u226 u227 u228 u229 u230 u231 u232 u233 u234 u235 u236 u237 u238 u239 u240 u241 u242 u243 u244 u245 u246 u247 u248 u249 u250 u251 u252 u253 u254 u255 u256 u257 u258 u259 u260 u261 u262 u263 u264 u265 u266 u267 u268 u269 u270 u271 u272 u273 u274 u275 u276 u277 u278 u279 u280 u281 u282 u283 u284 u285 u286 u287 u288 u289 u290 u291 u292 u293 u294 u295 u296 u297 u298 u299 u300 u301 u302 u303 u304 u305 u306 u307 u308 u309 u310 u311 u312 u313 u314 u315 u316 u317 u318 u319 u320 u321 u322 u323 u324 u325 u326 u327 u328 : Value}
    (hw : Below w0.heap.size w0 W) (hB0 : w0.heap.size ≤ B0) (hB01 : B0 ≤ B1) (hB1 : B1 ≤ W.heap.size)
    (S : Sep B1 W ([bE vx nx bx, sE 24 X0 [.int .i64 s0, .int .i64 y0, vx], bE vy ny by_, sE 24 X1 [.int .i64 s1, .int .i64 y1, vy]] ++ ((Lp ++ [sE 27 X2 [.int .i64 kp, .slice ap np cp]]) ++ ((Lq ++ [sE 27 X3 [.int .i64 kq, .slice aq nq cq]]) ++ ([ec vk nk lk, sE 30 X4 [.int .i64 k4, .int .i64 l4, vk], ec vm nm lm, sE 30 X5 [.int .i64 k5, .int .i64 l5, vm]] ++ ([bE vx1 nx bx, bE vy1 ny by_] ++ (hdrE (.slice ap1 np cp1) np (rowsV xp Gp np) :: rowsE xp Gp np) ++ (hdrE (.slice aq1 nq cq1) nq (rowsV xq Gq nq) :: rowsE xq Gq nq) ++ [sE 27 T1 [.int .i64 kp, .slice ap1 np cp1], sE 27 T2 [.int .i64 kq, .slice aq1 nq cq1]] ++ [ec vk1 nk lk, ec vm1 nm lm]))))))
    (TP : TabR B1 W ap np cp xp Lp) (TQ : TabR B1 W aq nq cq xq Lq) (hnx : nx ≤ 1000) (hny : ny ≤ 1000) (hnk : nk ≤ 1000) (hnm : nm ≤ 1000)
    (SO : Sep B0 W ([sE 24 P0 [.int .i64 sz0, .int .i64 wy0, .slice (some ⟨g0, 0, none⟩) n0 (n0 + 3)], bE (.slice (some ⟨g0, 0, none⟩) (n0 + 3) (n0 + 3)) (n0 + 3) bs0] ++ [sE 24 P1 [.int .i64 sz1, .int .i64 wy1, .slice (some ⟨g1, 0, none⟩) n1 (n1 + 3)], bE (.slice (some ⟨g1, 0, none⟩) (n1 + 3) (n1 + 3)) (n1 + 3) bs1])) (hg : g0 < B1) (hn0 : n0 ≤ 1048576) (hg1 : g1 < B1) (hn1 : n1 ≤ 1048576) :
    (cd 20).wp Try.prog (bodyPost Try.prog Try.f3 (fun e w' => e = .returned (.bool true) ∧ Below w0.heap.size w0 w'))
      ⟨#[u0, u1, u2, u3, u4, u5, u6, u7, u8, u9, u10, u11, u12, u13, u14, u15, u16, u17, u18, .pointer (some ⟨P0, 0, none⟩), .pointer (some ⟨P1, 0, none⟩), u21, u22, u23, u24, .pointer (some ⟨X0, 0, none⟩), u26, .pointer (some ⟨X1, 0, none⟩), u28, .pointer (some ⟨X2, 0, none⟩), u30, .pointer (some ⟨X3, 0, none⟩), u32, .pointer (some ⟨X4, 0, none⟩), u34, .pointer (some ⟨X5, 0, none⟩), u36, u37, u38, vx1, vy1, .pointer (some ⟨T1, 0, none⟩), .pointer (some ⟨T2, 0, none⟩), vk1, vm1, u45, u46, u47, u48, u49, u50, u51, u52, u53, u54, u55, u56, u57, u58, u59, u60, u61, u62, u63, u64, u65, u66, u67, u68, u69, u70, u71, u72, u73, u74, u75, u76, u77, u78, u79, u80, u81, u82, u83, u84, u85, u86, u87, u88, u89, u90, u91, u92, u93, u94, u95, u96, u97, u98, u99, u100, u101, u102, u103, u104, u105, u106, u107, u108, u109, u110, u111, u112, u113, u114, u115, u116, u117, u118, u119, u120, u121, u122, u123, u124, u125, u126, u127, u128, u129, u130, u131, u132, u133, u134, u135, u136, u137, u138, u139, u140, u141, u142, u143, u144, u145, u146, u147, u148, u149, u150, u151, u152, u153, u154, u155, u156, u157, u158, u159, u160, u161, u162, u163, u164, u165, u166, u167, u168, u169, u170, u171, u172, u173, u174, u175, u176, u177, u178, u179, u180, u181, u182, u183, u184, u185, u186, u187, u188, u189, u190, u191, u192, u193, u194, u195, u196, u197, u198, u199, u200, u201, u202, u203, u204, u205, u206, u207, u208, u209, u210, u211, u212, u213, u214, u215, u216, u217, u218, u219, u220, u221, u222, u223, u224, u225, u226, u227, u228, u229, u230, u231, u232, u233, u234, u235, u236, u237, u238, u239, u240, u241, u242, u243, u244, u245, u246, u247, u248, u249, u250, u251, u252, u253, u254, u255, u256, u257, u258, u259, u260, u261, u262, u263, u264, u265, u266, u267, u268, u269, u270, u271, u272, u273, u274, u275, u276, u277, u278, u279, u280, u281, u282, u283, u284, u285, u286, u287, u288, u289, u290, u291, u292, u293, u294, u295, u296, u297, u298, u299, u300, u301, u302, u303, u304, u305, u306, u307, u308, u309, u310, u311, u312, u313, u314, u315, u316, u317, u318, u319, u320, u321, u322, u323, u324, u325, u326, u327, u328], []⟩ W := by
  have HG := hidp (And.intro S (And.intro TP TQ))
  have HW := hidp hw
  have HO := hidp SO
  clear S TP TQ hw SO
  conv => arg 2; whnf
  dsimp only
  apply wp_seq_k; intro K hK
  have HK := hidp hK
  clear hK
  have c2 : W.cell? ⟨P0, 2, none⟩ = some (.slice (some ⟨g0, 0, none⟩) n0 (n0 + 3)) := box_cell HO.out (t := 24) (P := P0) (cs := [.int .i64 sz0, .int .i64 wy0, .slice (some ⟨g0, 0, none⟩) n0 (n0 + 3)]) (by simp) 2 (by simp) W (Below.refl _ _)
  go_wp2_with fail
  clear c2
  go_loopw [244] (fun i wr => ∃ (k : Nat) (bs : List Bool), k ≤ n0 ∧ i = .int .i64 k ∧ Hid (Sep B0 wr ([sE 24 P0 [.int .i64 sz0, .int .i64 wy0, .slice (some ⟨g0, 0, none⟩) n0 (n0 + 3)], bE (.slice (some ⟨g0, 0, none⟩) (n0 + 3) (n0 + 3)) (n0 + 3) bs] ++ [sE 24 P1 [.int .i64 sz1, .int .i64 wy1, .slice (some ⟨g1, 0, none⟩) n1 (n1 + 3)], bE (.slice (some ⟨g1, 0, none⟩) (n1 + 3) (n1 + 3)) (n1 + 3) bs1])) ∧ Hid (Late B1 W wr) ∧ Below B0 W wr) (fun i _ => n0 - (intOf i).toNat)
  case atStart => exact ⟨0, bs0, by omega, rfl, HO, hidp (Late.refl _ _), Below.refl _ _⟩
  case round =>
    clear HO
    obtain ⟨k, bs, hk, rfl, HS, HL, hbl⟩ := hrel
    by_cases hlt : k < n0
    · have hlen : bs.length = n0 + 3 := by have := (HS.out.own (bE (.slice (some ⟨g0, 0, none⟩) (n0 + 3) (n0 + 3)) (n0 + 3) bs) (by simp)).1; simpa [bE] using this
      have c2 : wr.cell? ⟨P0, 2, none⟩ = some (.slice (some ⟨g0, 0, none⟩) n0 (n0 + 3)) := box_cell HS.out (t := 24) (P := P0) (cs := [.int .i64 sz0, .int .i64 wy0, .slice (some ⟨g0, 0, none⟩) n0 (n0 + 3)]) (by simp) 2 (by simp) wr (Below.refl _ _)
      have ho := HS.out.own (bE (.slice (some ⟨g0, 0, none⟩) (n0 + 3) (n0 + 3)) (n0 + 3) bs) (by simp)
      have c3 : wr.cell? ⟨g0, k, none⟩ = some (.bool (gb bs k)) := by
          have := World.ownsRow.cellAt ho k (by show k < (n0 + 3) * 1; omega)
          rw [this]
          show (bs.map Value.bool)[k]? = _
          rw [List.getElem?_map, List.getElem?_eq_getElem (by omega)]
          simp [gb, List.getElem?_eq_getElem (show k < bs.length by omega)]
      have f3 : wr.frozen? ⟨g0, k, none⟩ = false := World.ownsRow.frozenAt ho k
      have hlI : (k : Int) < (n0 : Int) := by omega
      have ne : ¬ P0 = g0 := by have := HS.out.ap; simp [sE, bE, Apart, Value.ownBlock] at this; first | exact this | exact this.1 | exact this.1.1
      have ne' : ¬ g0 = P0 := fun e => ne e.symm
      have HF := hidp (Sep.flip (L1 := [sE 24 P0 [.int .i64 sz0, .int .i64 wy0, .slice (some ⟨g0, 0, none⟩) n0 (n0 + 3)]]) (L2 := [sE 24 P1 [.int .i64 sz1, .int .i64 wy1, .slice (some ⟨g1, 0, none⟩) n1 (n1 + 3)], bE (.slice (some ⟨g1, 0, none⟩) (n1 + 3) (n1 + 3)) (n1 + 3) bs1]) (g := g0) (n := n0 + 3) (bs := bs) HS.out k (!gb bs k))
      have HFL := hidp (HL.out.trans (flip_late (B1 := B1) ho k (.bool (!gb bs k)) hg))
      have HFB := hidp (hbl.setCell (p := ⟨g0, k, none⟩) (ho.lt g0 rfl).1 (.bool (!gb bs k)))
      clear ho
      go_upto_region 35 with fail
      go_region
      all_goals go_wp2_with fail
      go_roundw
      case measure => simp [intOf]; omega
      case rel => exact ⟨k + 1, _, by omega, by go_num, hidp HF.out.drew, hidp (HFL.out.trans (Late.below (Below.refl _ _).drew)), HFB.out.drew⟩
    · obtain rfl : k = n0 := by omega
      go_wp2_with fail
      refine HK.out _ _ ?_
      have hg2 := HL.out
      exact pE1 (HW.out.trans (hbl.mono hB0)) hB0 hB01 (Nat.le_trans hB1 hg2.size) (HG.out.1.late hg2) (HG.out.2.1.late hg2) (HG.out.2.2.late hg2) hnx hny hnk hnm (SO := HS.out.r) hg1 hn1
set_option maxHeartbeats 16000000 in
theorem pE {w0 W : World} {B0 B1 : Nat} {X0 X1 X2 X3 X4 X5 T1 T2 : Nat} {s0 y0 s1 y1 kp kq k4 l4 k5 l5 : Int} {vx vy vk vm vx1 vy1 vk1 vm1 : Value} {nx ny nk nm : Nat} {bx by_ : List Bool} {lk lm : List (Int × Int)}
    {ap aq ap1 aq1 : Option Addr} {np nq cp cq cp1 cq1 : Nat} {xp xq : List (List Int)} {Lp Lq : List Ent} {Gp Gq : Nat → Nat} {P4 g4 n4 P5 g5 n5 P0 g0 n0 P1 g1 n1 : Nat} {kk4 lo4 kk5 lo5 sz0 wy0 sz1 wy1 : Int} {cs4 cs5 : List Value} {bs0 bs1 : List Bool}
    {u0 u1 u2 u3 u4 u5 u6 u7 u8 u9 u10 u11 u12 u13 u14 u15 u16 u17 u18 u21 u22 u26 u28 u30 u32 u34 u36 u37 u38 u45 u46 u47 u48 u49 u50 u51 u52 u53 u54 u55 u56 u57 u58 u59 u60 u61 u62 u63 u64 u65 u66 u67 u68 u69 u70 u71 u72 u73 u74 u75 u76 u77 u78 u79 u80 u81 u82 u83 u84 u85 u86 u87 u88 u89 u90 u91 u92 u93 u94 u95 u96 u97 u98 u99 u100 u101 u102 u103 u104 u105 u106 u107 u108 u109 u110 u111 u112 u113 u114 u115 u116 u117 u118 u119 u120 u121 u122 u123 u124 u125 u126 u127 u128 u129 u130 u131 u132 u133 u134 u135 u136 u137 u138 u139 u140 u141 u142 u143 u144 u145 u146 u147 u148 u149 u150 u151 u152 u153 u154 u155 u156 u157 u158 u159 u160 u161 u162 u163 u164 u165 u166 u167 u168 u169 u170 u171 u172 u173 u174 u175 u176 u177 u178 u179 u180 u181 u182 u183 u184 u185 u186 u187 u188 u189 u190 u191 u192 u193 u194 u195 u196 u197 u198 u199 u200 u201 u202 u203 u204 u205 u206 u207 u208 u209 u210 u211 u212 u213 u214 u215 u216 u217 u218 u219 u220 u221 u222 u223 u224 u225 u226 u227 u228 u229 u230 u231 u232 u233 u234 u235 u236 u237 u238 u239 u240 u241 u242 u243 u244 u245 u246 u247 u248 u249 u250 u251 u252 u253 u254 u255 u256 u257 u258 u259 u260 u261 u262 u263 u264 u265 u266 u267 u268 u269 u270 u271 u272 u273 u274 u275 u276 u277 u278 u279 u280 u281 u282 u283 u284 u285 u286 u287 u288 u289 u290 u291 u292 u293 u294 u295 u296 u297 u298 u299 u300 u301 u302 u303 u304 u305 u306 u307 u308 u309 u310 u311 u312 u313 u314 u315 u316 u317 u318 u319 u320 u321 u322 u323 u324 u325 u326 u327 u328 : Value}
    (hw : Below w0.heap.size w0 W) (hB0 : w0.heap.size ≤ B0) (hB01 : B0 ≤ B1) (hB1 : B1 ≤ W.heap.size)
    (S : Sep B1 W ([bE vx nx bx, sE 24 X0 [.int .i64 s0, .int .i64 y0, vx], bE vy ny by_, sE 24 X1 [.int .i64 s1, .int .i64 y1, vy]] ++ ((Lp ++ [sE 27 X2 [.int .i64 kp, .slice ap np cp]]) ++ ((Lq ++ [sE 27 X3 [.int .i64 kq, .slice aq nq cq]]) ++ ([ec vk nk lk, sE 30 X4 [.int .i64 k4, .int .i64 l4, vk], ec vm nm lm, sE 30 X5 [.int .i64 k5, .int .i64 l5, vm]] ++ ([bE vx1 nx bx, bE vy1 ny by_] ++ (hdrE (.slice ap1 np cp1) np (rowsV xp Gp np) :: rowsE xp Gp np) ++ (hdrE (.slice aq1 nq cq1) nq (rowsV xq Gq nq) :: rowsE xq Gq nq) ++ [sE 27 T1 [.int .i64 kp, .slice ap1 np cp1], sE 27 T2 [.int .i64 kq, .slice aq1 nq cq1]] ++ [ec vk1 nk lk, ec vm1 nm lm]))))))
    (TP : TabR B1 W ap np cp xp Lp) (TQ : TabR B1 W aq nq cq xq Lq) (hnx : nx ≤ 1000) (hny : ny ≤ 1000) (hnk : nk ≤ 1000) (hnm : nm ≤ 1000)
    (SO : Sep B0 W ([sE 30 P4 [.int .i64 kk4, .int .i64 lo4, .slice (some ⟨g4, 0, none⟩) n4 (n4 + 3)], ⟨36, 2, .slice (some ⟨g4, 0, none⟩) (n4 + 3) (n4 + 3), n4 + 3, cs4⟩] ++ ([sE 30 P5 [.int .i64 kk5, .int .i64 lo5, .slice (some ⟨g5, 0, none⟩) n5 (n5 + 3)], ⟨36, 2, .slice (some ⟨g5, 0, none⟩) (n5 + 3) (n5 + 3), n5 + 3, cs5⟩] ++ ([sE 24 P0 [.int .i64 sz0, .int .i64 wy0, .slice (some ⟨g0, 0, none⟩) n0 (n0 + 3)], bE (.slice (some ⟨g0, 0, none⟩) (n0 + 3) (n0 + 3)) (n0 + 3) bs0] ++ [sE 24 P1 [.int .i64 sz1, .int .i64 wy1, .slice (some ⟨g1, 0, none⟩) n1 (n1 + 3)], bE (.slice (some ⟨g1, 0, none⟩) (n1 + 3) (n1 + 3)) (n1 + 3) bs1])))) (hg4 : g4 < B1) (hg5 : g5 < B1) (hg0 : g0 < B1) (hn0 : n0 ≤ 1048576) (hg1 : g1 < B1) (hn1 : n1 ≤ 1048576) :
    (cd 18).wp Try.prog (bodyPost Try.prog Try.f3 (fun e w' => e = .returned (.bool true) ∧ Below w0.heap.size w0 w'))
      ⟨#[u0, u1, u2, u3, u4, u5, u6, u7, u8, u9, u10, u11, u12, u13, u14, u15, u16, u17, u18, .pointer (some ⟨P0, 0, none⟩), .pointer (some ⟨P1, 0, none⟩), u21, u22, .pointer (some ⟨P4, 0, none⟩), .pointer (some ⟨P5, 0, none⟩), .pointer (some ⟨X0, 0, none⟩), u26, .pointer (some ⟨X1, 0, none⟩), u28, .pointer (some ⟨X2, 0, none⟩), u30, .pointer (some ⟨X3, 0, none⟩), u32, .pointer (some ⟨X4, 0, none⟩), u34, .pointer (some ⟨X5, 0, none⟩), u36, u37, u38, vx1, vy1, .pointer (some ⟨T1, 0, none⟩), .pointer (some ⟨T2, 0, none⟩), vk1, vm1, u45, u46, u47, u48, u49, u50, u51, u52, u53, u54, u55, u56, u57, u58, u59, u60, u61, u62, u63, u64, u65, u66, u67, u68, u69, u70, u71, u72, u73, u74, u75, u76, u77, u78, u79, u80, u81, u82, u83, u84, u85, u86, u87, u88, u89, u90, u91, u92, u93, u94, u95, u96, u97, u98, u99, u100, u101, u102, u103, u104, u105, u106, u107, u108, u109, u110, u111, u112, u113, u114, u115, u116, u117, u118, u119, u120, u121, u122, u123, u124, u125, u126, u127, u128, u129, u130, u131, u132, u133, u134, u135, u136, u137, u138, u139, u140, u141, u142, u143, u144, u145, u146, u147, u148, u149, u150, u151, u152, u153, u154, u155, u156, u157, u158, u159, u160, u161, u162, u163, u164, u165, u166, u167, u168, u169, u170, u171, u172, u173, u174, u175, u176, u177, u178, u179, u180, u181, u182, u183, u184, u185, u186, u187, u188, u189, u190, u191, u192, u193, u194, u195, u196, u197, u198, u199, u200, u201, u202, u203, u204, u205, u206, u207, u208, u209, u210, u211, u212, u213, u214, u215, u216, u217, u218, u219, u220, u221, u222, u223, u224, u225, u226, u227, u228, u229, u230, u231, u232, u233, u234, u235, u236, u237, u238, u239, u240, u241, u242, u243, u244, u245, u246, u247, u248, u249, u250, u251, u252, u253, u254, u255, u256, u257, u258, u259, u260, u261, u262, u263, u264, u265, u266, u267, u268, u269, u270, u271, u272, u273, u274, u275, u276, u277, u278, u279, u280, u281, u282, u283, u284, u285, u286, u287, u288, u289, u290, u291, u292, u293, u294, u295, u296, u297, u298, u299, u300, u301, u302, u303, u304, u305, u306, u307, u308, u309, u310, u311, u312, u313, u314, u315, u316, u317, u318, u319, u320, u321, u322, u323, u324, u325, u326, u327, u328], []⟩ W := by
  have HG := hidp (And.intro S (And.intro TP TQ))
  have HW := hidp hw
  have HO := hidp SO
  clear S TP TQ hw SO
  conv => arg 2; whnf
  dsimp only
  apply wp_seq_k; intro K hK
  have HK := hidp hK
  clear hK
  have c2 : W.cell? ⟨P4, 2, none⟩ = some (.slice (some ⟨g4, 0, none⟩) n4 (n4 + 3)) := box_cell HO.out.l (t := 30) (P := P4) (cs := [.int .i64 kk4, .int .i64 lo4, .slice (some ⟨g4, 0, none⟩) n4 (n4 + 3)]) (by simp) 2 (by simp) W (Below.refl _ _)
  have ho := HO.out.own (⟨36, 2, .slice (some ⟨g4, 0, none⟩) (n4 + 3) (n4 + 3), n4 + 3, cs4⟩ : Ent) (by simp)
  have hlo := (ho.lt g4 rfl).1
  have SP := hidp (spoilC_c (.slice (some ⟨g4, 0, none⟩) n4 (n4 + 3)) n4 B0 (cs4.take (n4 * 2)) 0 5 W (owns_short ho n4 (by omega)))
  clear ho
  go_wp2_with fail
  refine SP.out.mono ?_
  rintro e W1 ⟨rfl, hg⟩
  have hL0 : Late B1 W W1 := Late.grown hg (fun q e => by cases e; exact hg4)
  have hb0 : Below B0 W W1 := (Below.refl _ _).grown hg (by omega) (fun q e => by cases e; exact hlo)
  have HO1 := hidp (show Sep B0 W1 ([sE 30 P5 [.int .i64 kk5, .int .i64 lo5, .slice (some ⟨g5, 0, none⟩) n5 (n5 + 3)], ⟨36, 2, .slice (some ⟨g5, 0, none⟩) (n5 + 3) (n5 + 3), n5 + 3, cs5⟩] ++ ([sE 24 P0 [.int .i64 sz0, .int .i64 wy0, .slice (some ⟨g0, 0, none⟩) n0 (n0 + 3)], bE (.slice (some ⟨g0, 0, none⟩) (n0 + 3) (n0 + 3)) (n0 + 3) bs0] ++ [sE 24 P1 [.int .i64 sz1, .int .i64 wy1, .slice (some ⟨g1, 0, none⟩) n1 (n1 + 3)], bE (.slice (some ⟨g1, 0, none⟩) (n1 + 3) (n1 + 3)) (n1 + 3) bs1])) from (Sep.spoil (L1 := [sE 30 P4 [.int .i64 kk4, .int .i64 lo4, .slice (some ⟨g4, 0, none⟩) n4 (n4 + 3)]]) (x := ⟨36, 2, .slice (some ⟨g4, 0, none⟩) (n4 + 3) (n4 + 3), n4 + 3, cs4⟩) HO.out hg).r)
  clear hg SP c2 HO
  go_wp2_with fail
  refine HK.out _ _ ?_
  clear HK
  apply wp_seq_k; intro K hK
  have HK := hidp hK
  clear hK
  have c2 : W1.cell? ⟨P5, 2, none⟩ = some (.slice (some ⟨g5, 0, none⟩) n5 (n5 + 3)) := box_cell HO1.out.l (t := 30) (P := P5) (cs := [.int .i64 kk5, .int .i64 lo5, .slice (some ⟨g5, 0, none⟩) n5 (n5 + 3)]) (by simp) 2 (by simp) W1 (Below.refl _ _)
  have ho := HO1.out.own (⟨36, 2, .slice (some ⟨g5, 0, none⟩) (n5 + 3) (n5 + 3), n5 + 3, cs5⟩ : Ent) (by simp)
  have hlo := (ho.lt g5 rfl).1
  have SP := hidp (spoilC_c (.slice (some ⟨g5, 0, none⟩) n5 (n5 + 3)) n5 B0 (cs5.take (n5 * 2)) 0 6 W1 (owns_short ho n5 (by omega)))
  clear ho
  go_wp2_with fail
  refine SP.out.mono ?_
  rintro e W2 ⟨rfl, hg⟩
  have hL1 : Late B1 W1 W2 := Late.grown hg (fun q e => by cases e; exact hg5)
  have hb1 : Below B0 W1 W2 := (Below.refl _ _).grown hg (by have := hL0.size; omega) (fun q e => by cases e; exact hlo)
  have HO2 := hidp (show Sep B0 W2 ([sE 24 P0 [.int .i64 sz0, .int .i64 wy0, .slice (some ⟨g0, 0, none⟩) n0 (n0 + 3)], bE (.slice (some ⟨g0, 0, none⟩) (n0 + 3) (n0 + 3)) (n0 + 3) bs0] ++ [sE 24 P1 [.int .i64 sz1, .int .i64 wy1, .slice (some ⟨g1, 0, none⟩) n1 (n1 + 3)], bE (.slice (some ⟨g1, 0, none⟩) (n1 + 3) (n1 + 3)) (n1 + 3) bs1]) from (Sep.spoil (L1 := [sE 30 P5 [.int .i64 kk5, .int .i64 lo5, .slice (some ⟨g5, 0, none⟩) n5 (n5 + 3)]]) (x := ⟨36, 2, .slice (some ⟨g5, 0, none⟩) (n5 + 3) (n5 + 3), n5 + 3, cs5⟩) HO1.out hg).r)
  clear hg SP c2 HO1
  go_wp2_with fail
  refine HK.out _ _ ?_
  clear HK
  have hg2 := hL0.trans hL1
  exact pE0 (HW.out.trans ((hb0.trans hb1).mono hB0)) hB0 hB01 (Nat.le_trans hB1 hg2.size) (HG.out.1.late hg2) (HG.out.2.1.late hg2) (HG.out.2.2.late hg2) hnx hny hnk hnm (SO := HO2.out) hg0 hn0 hg1 hn1
end Go.Proofs.Ytffocoflmbhknaa.sketchOwn
