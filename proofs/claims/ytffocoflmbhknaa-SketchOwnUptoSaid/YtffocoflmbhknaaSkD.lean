/- The walk of SketchOwn: the rows of the tables that were handed in are spoilt; what was answered stays (printed by wip/gen/skD.py). -/
import Derived.Test.YtffocoflmbhknaaSkE
namespace Go.Proofs.Ytffocoflmbhknaa.sketchOwn
set_option linter.unusedVariables false
open Go.ChangeShapes Go.WideShapes Go.ChangeAt Go.RowKit
open Go.Proofs.Ytffocoflmbhknaa
set_option maxRecDepth 20000
set_option maxHeartbeats 16000000 in
theorem pD {w0 W : World} {B0 B1 : Nat} {X0 X1 X2 X3 X4 X5 T1 T2 : Nat} {s0 y0 s1 y1 kp kq k4 l4 k5 l5 : Int} {vx vy vk vm vx1 vy1 vk1 vm1 : Value} {nx ny nk nm : Nat} {bx by_ : List Bool} {lk lm : List (Int × Int)}
    {ap aq ap1 aq1 : Option Addr} {np nq cp cq cp1 cq1 : Nat} {xp xq : List (List Int)} {Lp Lq : List Ent} {Gp Gq : Nat → Nat} {P4 g4 n4 P5 g5 n5 P0 g0 n0 P1 g1 n1 : Nat} {kk4 lo4 kk5 lo5 sz0 wy0 sz1 wy1 : Int} {cs4 cs5 : List Value} {bs0 bs1 : List Bool} {P2 P3 n2 n3 c7 c8 : Nat} {a7 a8 : Option Addr} {wd2 wd3 : Int} {xs2 xs3 : List (List Int)} {G2 G3 : Nat → Nat}
    {u0 u1 u2 u3 u4 u5 u6 u7 u8 u9 u10 u11 u12 u13 u14 u15 u16 u17 u18 u26 u28 u30 u32 u34 u36 u37 u38 u45 u46 u47 u48 u49 u50 u51 u52 u53 u54 u55 u56 u57 u58 u59 u60 u61 u62 u63 u64 u65 u66 u67 u68 u69 u70 u71 u72 u73 u74 u75 u76 u77 u78 u79 u80 u81 u82 u83 u84 u85 u86 u87 u88 u89 u90 u91 u92 u93 u94 u95 u96 u97 u98 u99 u100 u101 u102 u103 u104 u105 u106 u107 u108 u109 u110 u111 u112 u113 u114 u115 u116 u117 u118 u119 u120 u121 u122 u123 u124 u125 u126 u127 u128 u129 u130 u131 u132 u133 u134 u135 u136 u137 u138 u139 u140 u141 u142 u143 u144 u145 u146 u147 u148 u149 u150 u151 u152 u153 u154 u155 u156 u157 u158 u159 u160 u161 u162 u163 u164 u165 u166 u167 u168 u169 u170 u171 u172 u173 u174 u175 u176 u177 u178 u179 u180 u181 u182 u183 u184 u185 u186 u187 u188 u189 u190 u191 u192 u193 u194 u195 u196 u197 u198 u199 u200 u201 u202 u203 u204 u205 u206 u207 u208 u209 u210 u211 u212 u213 u214 u215 u216 u217 u218 u219 u220 u221 u222 u223 u224 u225 u226 u227 u228 u229 u230 u231 u232 u233 u234 u235 u236 u237 u238 u239 u240 u241 u242 u243 u244 u245 u246 u247 u248 u249 u250 u251 u252 u253 u254 u255 u256 u257 u258 u259 u260 u261 u262 u263 u264 u265 u266 u267 u268 u269 u270 u271 u272 u273 u274 u275 u276 u277 u278 u279 u280 u281 u282 u283 u284 u285 u286 u287 u288 u289 u290 u291 u292 u293 u294 u295 u296 u297 u298 u299 u300 u301 u302 u303 u304 u305 u306 u307 u308 u309 u310 u311 u312 u313 u314 u315 u316 u317 u318 u319 u320 u321 u322 u323 u324 u325 u326 u327 u328 : Value}
    (hw : Below w0.heap.size w0 W) (hB0 : w0.heap.size ≤ B0) (hB01 : B0 ≤ B1) (hB1 : B1 ≤ W.heap.size)
    (S : Sep B1 W ([bE vx nx bx, sE 24 X0 [.int .i64 s0, .int .i64 y0, vx], bE vy ny by_, sE 24 X1 [.int .i64 s1, .int .i64 y1, vy]] ++ ((Lp ++ [sE 27 X2 [.int .i64 kp, .slice ap np cp]]) ++ ((Lq ++ [sE 27 X3 [.int .i64 kq, .slice aq nq cq]]) ++ ([ec vk nk lk, sE 30 X4 [.int .i64 k4, .int .i64 l4, vk], ec vm nm lm, sE 30 X5 [.int .i64 k5, .int .i64 l5, vm]] ++ ([bE vx1 nx bx, bE vy1 ny by_] ++ (hdrE (.slice ap1 np cp1) np (rowsV xp Gp np) :: rowsE xp Gp np) ++ (hdrE (.slice aq1 nq cq1) nq (rowsV xq Gq nq) :: rowsE xq Gq nq) ++ [sE 27 T1 [.int .i64 kp, .slice ap1 np cp1], sE 27 T2 [.int .i64 kq, .slice aq1 nq cq1]] ++ [ec vk1 nk lk, ec vm1 nm lm]))))))
    (TP : TabR B1 W ap np cp xp Lp) (TQ : TabR B1 W aq nq cq xq Lq) (hnx : nx ≤ 1000) (hny : ny ≤ 1000) (hnk : nk ≤ 1000) (hnm : nm ≤ 1000)
    (SO : Sep B0 W (([sE 27 P2 [.int .i64 wd2, .slice a7 n2 c7]] ++ (hdrE (.slice a7 n2 c7) n2 (rowsV xs2 G2 n2) :: rowsE xs2 G2 n2)) ++ (([sE 27 P3 [.int .i64 wd3, .slice a8 n3 c8]] ++ (hdrE (.slice a8 n3 c8) n3 (rowsV xs3 G3 n3) :: rowsE xs3 G3 n3)) ++ ([sE 30 P4 [.int .i64 kk4, .int .i64 lo4, .slice (some ⟨g4, 0, none⟩) n4 (n4 + 3)], ⟨36, 2, .slice (some ⟨g4, 0, none⟩) (n4 + 3) (n4 + 3), n4 + 3, cs4⟩] ++ ([sE 30 P5 [.int .i64 kk5, .int .i64 lo5, .slice (some ⟨g5, 0, none⟩) n5 (n5 + 3)], ⟨36, 2, .slice (some ⟨g5, 0, none⟩) (n5 + 3) (n5 + 3), n5 + 3, cs5⟩] ++ ([sE 24 P0 [.int .i64 sz0, .int .i64 wy0, .slice (some ⟨g0, 0, none⟩) n0 (n0 + 3)], bE (.slice (some ⟨g0, 0, none⟩) (n0 + 3) (n0 + 3)) (n0 + 3) bs0] ++ [sE 24 P1 [.int .i64 sz1, .int .i64 wy1, .slice (some ⟨g1, 0, none⟩) n1 (n1 + 3)], bE (.slice (some ⟨g1, 0, none⟩) (n1 + 3) (n1 + 3)) (n1 + 3) bs1])))))) (hg4 : g4 < B1) (hg5 : g5 < B1) (hg0 : g0 < B1) (hn0 : n0 ≤ 1048576) (hg1 : g1 < B1) (hn1 : n1 ≤ 1048576) (hn2 : n2 ≤ 1048576) (hn3 : n3 ≤ 1048576) (hR2 : ∀ i, i < n2 → G2 i < B1) (hR3 : ∀ i, i < n3 → G3 i < B1) (hZ2 : ∀ i, i < n2 → (gl xs2 i).length ≤ 17592186043904) (hZ3 : ∀ i, i < n3 → (gl xs3 i).length ≤ 17592186043904) :
    (cd 17).wp Try.prog (bodyPost Try.prog Try.f3 (fun e w' => e = .returned (.bool true) ∧ Below w0.heap.size w0 w'))
      ⟨#[u0, u1, u2, u3, u4, u5, u6, u7, u8, u9, u10, u11, u12, u13, u14, u15, u16, u17, u18, .pointer (some ⟨P0, 0, none⟩), .pointer (some ⟨P1, 0, none⟩), .pointer (some ⟨P2, 0, none⟩), .pointer (some ⟨P3, 0, none⟩), .pointer (some ⟨P4, 0, none⟩), .pointer (some ⟨P5, 0, none⟩), .pointer (some ⟨X0, 0, none⟩), u26, .pointer (some ⟨X1, 0, none⟩), u28, .pointer (some ⟨X2, 0, none⟩), u30, .pointer (some ⟨X3, 0, none⟩), u32, .pointer (some ⟨X4, 0, none⟩), u34, .pointer (some ⟨X5, 0, none⟩), u36, u37, u38, vx1, vy1, .pointer (some ⟨T1, 0, none⟩), .pointer (some ⟨T2, 0, none⟩), vk1, vm1, u45, u46, u47, u48, u49, u50, u51, u52, u53, u54, u55, u56, u57, u58, u59, u60, u61, u62, u63, u64, u65, u66, u67, u68, u69, u70, u71, u72, u73, u74, u75, u76, u77, u78, u79, u80, u81, u82, u83, u84, u85, u86, u87, u88, u89, u90, u91, u92, u93, u94, u95, u96, u97, u98, u99, u100, u101, u102, u103, u104, u105, u106, u107, u108, u109, u110, u111, u112, u113, u114, u115, u116, u117, u118, u119, u120, u121, u122, u123, u124, u125, u126, u127, u128, u129, u130, u131, u132, u133, u134, u135, u136, u137, u138, u139, u140, u141, u142, u143, u144, u145, u146, u147, u148, u149, u150, u151, u152, u153, u154, u155, u156, u157, u158, u159, u160, u161, u162, u163, u164, u165, u166, u167, u168, u169, u170, u171, u172, u173, u174, u175, u176, u177, u178, u179, u180, u181, u182, u183, u184, u185, u186, u187, u188, u189, u190, u191, u192, u193, u194, u195, u196, u197, u198, u199, u200, u201, u202, u203, u204, u205, u206, u207, u208, u209, u210, u211, u212, u213, u214, u215, u216, u217, u218, u219, u220, u221, u222, u223, u224, u225, u226, u227, u228, u229, u230, u231, u232, u233, u234, u235, u236, u237, u238, u239, u240, u241, u242, u243, u244, u245, u246, u247, u248, u249, u250, u251, u252, u253, u254, u255, u256, u257, u258, u259, u260, u261, u262, u263, u264, u265, u266, u267, u268, u269, u270, u271, u272, u273, u274, u275, u276, u277, u278, u279, u280, u281, u282, u283, u284, u285, u286, u287, u288, u289, u290, u291, u292, u293, u294, u295, u296, u297, u298, u299, u300, u301, u302, u303, u304, u305, u306, u307, u308, u309, u310, u311, u312, u313, u314, u315, u316, u317, u318, u319, u320, u321, u322, u323, u324, u325, u326, u327, u328], []⟩ W := by
  have HG := hidp (And.intro S (And.intro TP TQ))
  have HW := hidp hw
  have v2 : VRow W a7 n2 (rowsV xs2 G2 n2) := hdr_vrow (SO.l.r.own (hdrE (.slice a7 n2 c7) n2 (rowsV xs2 G2 n2)) (by simp))
  have v3 : VRow W a8 n3 (rowsV xs3 G3 n3) := hdr_vrow (SO.r.l.r.own (hdrE (.slice a8 n3 c8) n3 (rowsV xs3 G3 n3)) (by simp))
  have c2 : W.cell? ⟨P2, 1, none⟩ = some (.slice a7 n2 c7) := box_cell SO.l.l (t := 27) (P := P2) (cs := [.int .i64 wd2, .slice a7 n2 c7]) (by simp) 1 (by simp) W (Below.refl _ _)
  have c3 : W.cell? ⟨P3, 1, none⟩ = some (.slice a8 n3 c8) := box_cell SO.r.l.l (t := 27) (P := P3) (cs := [.int .i64 wd3, .slice a8 n3 c8]) (by simp) 1 (by simp) W (Below.refl _ _)
  have SR := hidp (show Sep B0 W ((rowsE xs2 G2 n2 ++ rowsE xs3 G3 n3) ++ ([sE 30 P4 [.int .i64 kk4, .int .i64 lo4, .slice (some ⟨g4, 0, none⟩) n4 (n4 + 3)], ⟨36, 2, .slice (some ⟨g4, 0, none⟩) (n4 + 3) (n4 + 3), n4 + 3, cs4⟩] ++ ([sE 30 P5 [.int .i64 kk5, .int .i64 lo5, .slice (some ⟨g5, 0, none⟩) n5 (n5 + 3)], ⟨36, 2, .slice (some ⟨g5, 0, none⟩) (n5 + 3) (n5 + 3), n5 + 3, cs5⟩] ++ ([sE 24 P0 [.int .i64 sz0, .int .i64 wy0, .slice (some ⟨g0, 0, none⟩) n0 (n0 + 3)], bE (.slice (some ⟨g0, 0, none⟩) (n0 + 3) (n0 + 3)) (n0 + 3) bs0] ++ [sE 24 P1 [.int .i64 sz1, .int .i64 wy1, .slice (some ⟨g1, 0, none⟩) n1 (n1 + 3)], bE (.slice (some ⟨g1, 0, none⟩) (n1 + 3) (n1 + 3)) (n1 + 3) bs1])))) from by
    rw [List.append_assoc]
    exact SO.sub (List.Sublist.append ((List.sublist_cons_self _ _).trans (List.sublist_append_right _ _)) (List.Sublist.append ((List.sublist_cons_self _ _).trans (List.sublist_append_right _ _)) (List.Sublist.refl _))))
  have HR := hidp (show RV B1 (rowsE xs2 G2 n2 ++ rowsE xs3 G3 n3) (rowsV xs2 G2 n2 ++ rowsV xs3 G3 n3) from (rv_rows hR2 hZ2).app (rv_rows hR3 hZ3))
  obtain ⟨m, hm⟩ : ∃ m, n2 + n3 = m := ⟨_, rfl⟩
  have E6 := concatl2_v a7 a8 n2 n3 c7 c8 _ _ W v2 v3 (by omega)
  rw [hm] at E6
  have HM := hidp hm
  have lenV : (rowsV xs2 G2 n2 ++ rowsV xs3 G3 n3).length = m := by rw [List.length_append, v2.len, v3.len]; exact hm
  generalize (rowsV xs2 G2 n2 ++ rowsV xs3 G3 n3) = VV at *
  generalize (rowsE xs2 G2 n2 ++ rowsE xs3 G3 n3) = RR at *
  have HLV := hidp lenV
  have hm2 : m ≤ 2097152 := by omega
  have E6' := hidp E6
  clear S TP TQ hw SO v2 v3 E6 hm lenV
  conv => arg 2; whnf
  dsimp only
  apply wp_seq_k; intro K hK
  have HK := hidp hK
  clear hK
  go_wp2_with fail
  refine E6'.out.mono ?_
  rintro e W1 ⟨v, rfl, hv, hb⟩
  have HS1 := hidp (SR.out.below hb)
  have HL1 := hidp (Late.below (B := B1) hb)
  have hb1 : Below B0 W W1 := hb.mono (by omega)
  have HV := hidp hv
  obtain ⟨av, cv, rfl, hcv, hcm⟩ := owns_form hv
  clear hv hb E6' SR c2 c3
  go_wp2_with fail
  go_loopw [226] (fun i wr => ∃ k, k ≤ m ∧ i = .int .i64 k ∧ Hid (Sep B0 wr (RR.drop k ++ ([sE 30 P4 [.int .i64 kk4, .int .i64 lo4, .slice (some ⟨g4, 0, none⟩) n4 (n4 + 3)], ⟨36, 2, .slice (some ⟨g4, 0, none⟩) (n4 + 3) (n4 + 3), n4 + 3, cs4⟩] ++ ([sE 30 P5 [.int .i64 kk5, .int .i64 lo5, .slice (some ⟨g5, 0, none⟩) n5 (n5 + 3)], ⟨36, 2, .slice (some ⟨g5, 0, none⟩) (n5 + 3) (n5 + 3), n5 + 3, cs5⟩] ++ ([sE 24 P0 [.int .i64 sz0, .int .i64 wy0, .slice (some ⟨g0, 0, none⟩) n0 (n0 + 3)], bE (.slice (some ⟨g0, 0, none⟩) (n0 + 3) (n0 + 3)) (n0 + 3) bs0] ++ [sE 24 P1 [.int .i64 sz1, .int .i64 wy1, .slice (some ⟨g1, 0, none⟩) n1 (n1 + 3)], bE (.slice (some ⟨g1, 0, none⟩) (n1 + 3) (n1 + 3)) (n1 + 3) bs1]))))) ∧ Hid (wr.ownsRow W.heap.size 53 1 (.slice av m cv) m VV) ∧ Hid (Late B1 W wr) ∧ Below B0 W wr) (fun i _ => m - (intOf i).toNat)
  case atStart => exact ⟨0, by omega, rfl, HS1, HV, HL1, hb1⟩
  case round =>
    clear HS1 HV HL1 hb1
    obtain ⟨k, hk, rfl, HS, HV, HL, hbl⟩ := hrel
    by_cases hlt : k < m
    · obtain ⟨gw, cw, he, hgw, hgl, hcw, hcwm⟩ := owns_addr HV.out (by omega)
      simp only [Value.slice.injEq] at he
      obtain ⟨rfl, _, rfl⟩ := he
      obtain ⟨y, hy⟩ : ∃ y, RR[k]? = some y := ⟨_, List.getElem?_eq_getElem (by rw [HR.out.len, HLV.out]; exact hlt)⟩
      obtain ⟨g, zs, hVk, rfl, hgB, hzl⟩ := HR.out.at_ k y hy
      have hdr := drop_cons hy
      have c1 : wr.cell? ⟨gw, k, none⟩ = some (.slice (some ⟨g, 0, none⟩) zs.length (zs.length + 3)) := by rw [HV.out.cellAt k (by omega)]; exact hVk
      have HS' := HS.out
      rw [hdr] at HS'
      have ho := HS'.own (ei (.slice (some ⟨g, 0, none⟩) (zs.length + 3) (zs.length + 3)) (zs.length + 3) (zs ++ [-7, -7, -7])) (by simp)
      have hlo := (ho.lt g rfl).1
      have SP := hidp (spoili_c (.slice (some ⟨g, 0, none⟩) zs.length (zs.length + 3)) zs.length B0 _ 5 wr (owns_short ho zs.length (by omega)))
      have hlI : (k : Int) < (m : Int) := by omega
      have HS2 := hidp HS'
      generalize zs.length = zl at *
      clear ho HS' hdr hy hVk HS
      go_wp2_with fail
      refine SP.out.mono ?_
      rintro e w2 ⟨rfl, hg⟩
      have HS3 := hidp (show Sep B0 w2 (RR.drop (k + 1) ++ ([sE 30 P4 [.int .i64 kk4, .int .i64 lo4, .slice (some ⟨g4, 0, none⟩) n4 (n4 + 3)], ⟨36, 2, .slice (some ⟨g4, 0, none⟩) (n4 + 3) (n4 + 3), n4 + 3, cs4⟩] ++ ([sE 30 P5 [.int .i64 kk5, .int .i64 lo5, .slice (some ⟨g5, 0, none⟩) n5 (n5 + 3)], ⟨36, 2, .slice (some ⟨g5, 0, none⟩) (n5 + 3) (n5 + 3), n5 + 3, cs5⟩] ++ ([sE 24 P0 [.int .i64 sz0, .int .i64 wy0, .slice (some ⟨g0, 0, none⟩) n0 (n0 + 3)], bE (.slice (some ⟨g0, 0, none⟩) (n0 + 3) (n0 + 3)) (n0 + 3) bs0] ++ [sE 24 P1 [.int .i64 sz1, .int .i64 wy1, .slice (some ⟨g1, 0, none⟩) n1 (n1 + 3)], bE (.slice (some ⟨g1, 0, none⟩) (n1 + 3) (n1 + 3)) (n1 + 3) bs1])))) from Sep.spoil (L1 := []) HS2.out hg)
      have HV3 := hidp (HV.out.kept hg (.inr (fun e => by have e' := Option.some.inj e; show False; have e2 : gw = g := e'; omega)))
      have HL3 := hidp (HL.out.trans (Late.grown hg (fun q e => by cases e; exact hgB)))
      have hb3 : Below B0 W w2 := hbl.grown hg (by omega) (fun q e => by cases e; exact hlo)
      clear SP HS2 HV HL hg c1
      go_wp2_with fail
      go_roundw
      case measure => simp [intOf]; omega
      case rel => exact ⟨k + 1, by omega, by go_num, HS3, HV3, HL3, hb3⟩
    · obtain rfl : k = m := by omega
      go_wp2_with fail
      refine HK.out _ _ ?_
      have hg2 := HL.out
      exact pE (HW.out.trans (hbl.mono hB0)) hB0 hB01 (Nat.le_trans hB1 hg2.size) (HG.out.1.late hg2) (HG.out.2.1.late hg2) (HG.out.2.2.late hg2) hnx hny hnk hnm (SO := HS.out.r) hg4 hg5 hg0 hn0 hg1 hn1
end Go.Proofs.Ytffocoflmbhknaa.sketchOwn
