/- The walk of TextsOwn, its last piece: what was handed in is spoilt; what was answered stays, and shares nothing (printed by wip/gen/skT.py). -/
import Derived.Test.YtdfghgeccannnaaDoorTextKit
namespace Go.Proofs.YtdfghgeccannnaaDoor.textsOwn
open Go.ChangeShapes Go.WideShapes Go.ChangeAt Go.RowKit
open Go.Proofs.YtdfghgeccannnaaDoor
set_option maxRecDepth 20000
set_option linter.unusedVariables false
set_option maxHeartbeats 16000000 in
theorem pT3 {w0 W : World} {B0 B1 : Nat} {vx vy vk vw vz vs : Value} {nx ny nk nw nz ns : Nat} {lx : List (ByteArray × ByteArray)} {fu fl_ : Nat → Int} {bk : List Bool} {lw lz ls_ : List Rl} {vx1 vy1 vk1 vw1 vz1 vs1 : Value} {gp gq gu gv gk n0 n1 n2 n3 : Nat} {c0 c1 c2 c3 : List Value} {b4 : List Bool}
    {u0 u1 u2 u3 u4 u5 u6 u7 u8 u9 u10 u11 u12 u13 u14 u21 u23 u25 u26 u28 u30 u32 u39 u40 u41 u42 u43 u44 u45 u46 u47 u48 u49 u50 u51 u52 u53 u54 u55 u56 u57 u58 u59 u60 u61 u62 u63 u64 u65 u66 u67 u68 u69 u70 u71 u72 u73 u74 u75 u76 u77 u78 u79 u80 u81 u82 u83 u84 u85 u86 u87 u88 u89 u90 u91 u92 u93 u94 u95 u96 u97 u98 u99 u100 u101 u102 u103 u104 u105 u106 u107 u108 u109 u110 u111 u112 u113 u114 u115 u116 u117 u118 u119 u120 u121 u122 u123 u124 u125 u126 u127 u128 u129 u130 u131 u132 u133 u134 u135 u136 u137 u138 u139 u140 u141 u142 u143 u144 u145 u146 u147 u148 u149 u150 u151 u152 u153 u154 u155 u156 u157 u158 u159 u160 u161 u162 u163 u164 u165 u166 u167 u168 u169 u170 u171 u172 u173 u174 u175 u176 u177 u178 u179 u180 u181 u182 u183 u184 u185 u186 u187 u188 u189 u190 u191 u192 u193 u194 u195 u196 u197 u198 u199 u200 u201 u202 u203 u204 u205 u206 u207 u208 u209 u210 u211 u212 u213 u214 u215 u216 u217 u218 u219 u220 u221 u222 u223 u224 u225 u226 u227 u228 u229 u230 u231 u232 u233 u234 u235 u236 u237 u238 u239 : Value}
    (hw : Below w0.heap.size w0 W) (hB0 : w0.heap.size ≤ B0) (hB01 : B0 ≤ B1) (hB1 : B1 ≤ W.heap.size)
    (S : Sep B1 W ([pE vx nx lx, spE vy ny fu fl_, bE vk nk bk, er vw nw lw, er vz nz lz, er vs ns ls_] ++ [pE vx1 nx lx, spE vy1 ny fu fl_, bE vk1 nk bk, er vw1 nw lw, er vz1 nz lz, er vs1 ns ls_])) (hsx : ∀ p ∈ lx, p.1.size ≤ 9223372036854775807 ∧ p.2.size ≤ 9223372036854775807) (hnx : nx ≤ 1000) (hny : ny ≤ 1000) (hnk : nk ≤ 1000) (hnw : nw ≤ 1000) (hnz : nz ≤ 1000) (hns : ns ≤ 1000)
    (SO : Sep B0 W [(⟨32, 2, .slice (some ⟨gp, 0, none⟩) (n0 + 3) (n0 + 3), n0 + 3, c0⟩ : Ent), (⟨36, 2, .slice (some ⟨gq, 0, none⟩) (n1 + 3) (n1 + 3), n1 + 3, c1⟩ : Ent), (⟨39, 3, .slice (some ⟨gu, 0, none⟩) (n2 + 3) (n2 + 3), n2 + 3, c2⟩ : Ent), (⟨39, 3, .slice (some ⟨gv, 0, none⟩) (n3 + 3) (n3 + 3), n3 + 3, c3⟩ : Ent), (bE (.slice (some ⟨gk, 0, none⟩) (n1 + 3) (n1 + 3)) (n1 + 3) b4)]) (hgp : gp < B1) (hgq : gq < B1) (hgu : gu < B1) (hgv : gv < B1) (hgk : gk < B1) :
    (cdT 18).wp Tryd.prog (bodyPost Tryd.prog Tryd.f3 (fun e w' => e = .returned (.bool true) ∧ Below w0.heap.size w0 w'))
      ⟨#[u0, u1, u2, u3, u4, u5, u6, u7, u8, u9, u10, u11, u12, u13, u14, .slice (some ⟨gp, 0, none⟩) n0 (n0 + 3), .slice (some ⟨gq, 0, none⟩) n1 (n1 + 3), .slice (some ⟨gu, 0, none⟩) n2 (n2 + 3), .slice (some ⟨gv, 0, none⟩) n3 (n3 + 3), .slice (some ⟨gk, 0, none⟩) n1 (n1 + 3), vx, u21, vy, u23, vk, u25, u26, vw, u28, vz, u30, vs, u32, vx1, vy1, vk1, vw1, vz1, vs1, u39, u40, u41, u42, u43, u44, u45, u46, u47, u48, u49, u50, u51, u52, u53, u54, u55, u56, u57, u58, u59, u60, u61, u62, u63, u64, u65, u66, u67, u68, u69, u70, u71, u72, u73, u74, u75, u76, u77, u78, u79, u80, u81, u82, u83, u84, u85, u86, u87, u88, u89, u90, u91, u92, u93, u94, u95, u96, u97, u98, u99, u100, u101, u102, u103, u104, u105, u106, u107, u108, u109, u110, u111, u112, u113, u114, u115, u116, u117, u118, u119, u120, u121, u122, u123, u124, u125, u126, u127, u128, u129, u130, u131, u132, u133, u134, u135, u136, u137, u138, u139, u140, u141, u142, u143, u144, u145, u146, u147, u148, u149, u150, u151, u152, u153, u154, u155, u156, u157, u158, u159, u160, u161, u162, u163, u164, u165, u166, u167, u168, u169, u170, u171, u172, u173, u174, u175, u176, u177, u178, u179, u180, u181, u182, u183, u184, u185, u186, u187, u188, u189, u190, u191, u192, u193, u194, u195, u196, u197, u198, u199, u200, u201, u202, u203, u204, u205, u206, u207, u208, u209, u210, u211, u212, u213, u214, u215, u216, u217, u218, u219, u220, u221, u222, u223, u224, u225, u226, u227, u228, u229, u230, u231, u232, u233, u234, u235, u236, u237, u238, u239], []⟩ W := by
  have HW := hidp hw
  have HS := hidp S
  have HO := hidp SO
  clear S hw SO
  conv => arg 2; whnf
  dsimp only
  apply wp_seq_k; intro K hK
  have HK := hidp hK
  clear hK
  have ho : W.ownsRow B0 32 2 (.slice (some ⟨gp, 0, none⟩) (n0 + 3) (n0 + 3)) (n0 + 3) c0 := HO.out.own (⟨32, 2, .slice (some ⟨gp, 0, none⟩) (n0 + 3) (n0 + 3), n0 + 3, c0⟩ : Ent) (by simp)
  have hlo := (ho.lt gp rfl).1
  have SPL := hidp (spoilP_c (.slice (some ⟨gp, 0, none⟩) n0 (n0 + 3)) n0 B0 (c0.take (n0 * 2)) ⟨#[]⟩ ⟨#[]⟩ W (owns_short ho n0 (by omega)))
  clear ho
  go_wp2_with fail
  refine SPL.out.mono ?_
  rintro e W1 ⟨rfl, hg⟩
  have hL0 : Late B1 W W1 := Late.grown hg (fun q e => by cases e; exact hgp)
  have hb0 : Below B0 W W1 := (Below.refl _ _).grown hg (by omega) (fun q e => by cases e; exact hlo)
  have HO1 := hidp (show Sep B0 W1 [(⟨36, 2, .slice (some ⟨gq, 0, none⟩) (n1 + 3) (n1 + 3), n1 + 3, c1⟩ : Ent), (⟨39, 3, .slice (some ⟨gu, 0, none⟩) (n2 + 3) (n2 + 3), n2 + 3, c2⟩ : Ent), (⟨39, 3, .slice (some ⟨gv, 0, none⟩) (n3 + 3) (n3 + 3), n3 + 3, c3⟩ : Ent), (bE (.slice (some ⟨gk, 0, none⟩) (n1 + 3) (n1 + 3)) (n1 + 3) b4)] from Sep.spoil (L1 := []) (x := (⟨32, 2, .slice (some ⟨gp, 0, none⟩) (n0 + 3) (n0 + 3), n0 + 3, c0⟩ : Ent)) HO.out hg)
  clear hg SPL HO
  go_wp2_with fail
  refine HK.out _ _ ?_
  clear HK
  apply wp_seq_k; intro K hK
  have HK := hidp hK
  clear hK
  have ho : W1.ownsRow B0 36 2 (.slice (some ⟨gq, 0, none⟩) (n1 + 3) (n1 + 3)) (n1 + 3) c1 := HO1.out.own (⟨36, 2, .slice (some ⟨gq, 0, none⟩) (n1 + 3) (n1 + 3), n1 + 3, c1⟩ : Ent) (by simp)
  have hlo := (ho.lt gq rfl).1
  have SPL := hidp (spoilS_c (.slice (some ⟨gq, 0, none⟩) n1 (n1 + 3)) n1 B0 (c1.take (n1 * 2)) 0 0 W1 (owns_short ho n1 (by omega)))
  clear ho
  go_wp2_with fail
  refine SPL.out.mono ?_
  rintro e W2 ⟨rfl, hg⟩
  have hL1 : Late B1 W1 W2 := Late.grown hg (fun q e => by cases e; exact hgq)
  have hb1 : Below B0 W1 W2 := (Below.refl _ _).grown hg (by have := hL0.size; omega) (fun q e => by cases e; exact hlo)
  have HO2 := hidp (show Sep B0 W2 [(⟨39, 3, .slice (some ⟨gu, 0, none⟩) (n2 + 3) (n2 + 3), n2 + 3, c2⟩ : Ent), (⟨39, 3, .slice (some ⟨gv, 0, none⟩) (n3 + 3) (n3 + 3), n3 + 3, c3⟩ : Ent), (bE (.slice (some ⟨gk, 0, none⟩) (n1 + 3) (n1 + 3)) (n1 + 3) b4)] from Sep.spoil (L1 := []) (x := (⟨36, 2, .slice (some ⟨gq, 0, none⟩) (n1 + 3) (n1 + 3), n1 + 3, c1⟩ : Ent)) HO1.out hg)
  clear hg SPL HO1
  go_wp2_with fail
  refine HK.out _ _ ?_
  clear HK
  apply wp_seq_k; intro K hK
  have HK := hidp hK
  clear hK
  have ho : W2.ownsRow B0 39 3 (.slice (some ⟨gu, 0, none⟩) (n2 + 3) (n2 + 3)) (n2 + 3) c2 := HO2.out.own (⟨39, 3, .slice (some ⟨gu, 0, none⟩) (n2 + 3) (n2 + 3), n2 + 3, c2⟩ : Ent) (by simp)
  have hlo := (ho.lt gu rfl).1
  have SPL := hidp (spoilR_c (.slice (some ⟨gu, 0, none⟩) n2 (n2 + 3)) n2 B0 (c2.take (n2 * 3)) ⟨#[]⟩ 0 0 W2 (owns_short ho n2 (by omega)))
  clear ho
  go_wp2_with fail
  refine SPL.out.mono ?_
  rintro e W3 ⟨rfl, hg⟩
  have hL2 : Late B1 W2 W3 := Late.grown hg (fun q e => by cases e; exact hgu)
  have hb2 : Below B0 W2 W3 := (Below.refl _ _).grown hg (by have := hL0.size; have := hL1.size; omega) (fun q e => by cases e; exact hlo)
  have HO3 := hidp (show Sep B0 W3 [(⟨39, 3, .slice (some ⟨gv, 0, none⟩) (n3 + 3) (n3 + 3), n3 + 3, c3⟩ : Ent), (bE (.slice (some ⟨gk, 0, none⟩) (n1 + 3) (n1 + 3)) (n1 + 3) b4)] from Sep.spoil (L1 := []) (x := (⟨39, 3, .slice (some ⟨gu, 0, none⟩) (n2 + 3) (n2 + 3), n2 + 3, c2⟩ : Ent)) HO2.out hg)
  clear hg SPL HO2
  go_wp2_with fail
  refine HK.out _ _ ?_
  clear HK
  apply wp_seq_k; intro K hK
  have HK := hidp hK
  clear hK
  have ho : W3.ownsRow B0 39 3 (.slice (some ⟨gv, 0, none⟩) (n3 + 3) (n3 + 3)) (n3 + 3) c3 := HO3.out.own (⟨39, 3, .slice (some ⟨gv, 0, none⟩) (n3 + 3) (n3 + 3), n3 + 3, c3⟩ : Ent) (by simp)
  have hlo := (ho.lt gv rfl).1
  have SPL := hidp (spoilR_c (.slice (some ⟨gv, 0, none⟩) n3 (n3 + 3)) n3 B0 (c3.take (n3 * 3)) ⟨#[]⟩ 0 0 W3 (owns_short ho n3 (by omega)))
  clear ho
  go_wp2_with fail
  refine SPL.out.mono ?_
  rintro e W4 ⟨rfl, hg⟩
  have hL3 : Late B1 W3 W4 := Late.grown hg (fun q e => by cases e; exact hgv)
  have hb3 : Below B0 W3 W4 := (Below.refl _ _).grown hg (by have := hL0.size; have := hL1.size; have := hL2.size; omega) (fun q e => by cases e; exact hlo)
  have HO4 := hidp (show Sep B0 W4 [(bE (.slice (some ⟨gk, 0, none⟩) (n1 + 3) (n1 + 3)) (n1 + 3) b4)] from Sep.spoil (L1 := []) (x := (⟨39, 3, .slice (some ⟨gv, 0, none⟩) (n3 + 3) (n3 + 3), n3 + 3, c3⟩ : Ent)) HO3.out hg)
  clear hg SPL HO3
  go_wp2_with fail
  refine HK.out _ _ ?_
  clear HK
  apply wp_seq_k; intro K hK
  have HK := hidp hK
  clear hK
  have ho : W4.ownsRow B0 4 1 (.slice (some ⟨gk, 0, none⟩) (n1 + 3) (n1 + 3)) (n1 + 3) (b4.map Value.bool) := HO4.out.own (bE (.slice (some ⟨gk, 0, none⟩) (n1 + 3) (n1 + 3)) (n1 + 3) b4) (by simp)
  have hlo := (ho.lt gk rfl).1
  have SPL := hidp (spoilB_c (.slice (some ⟨gk, 0, none⟩) n1 (n1 + 3)) n1 B0 ((b4.map Value.bool).take (n1 * 1)) false W4 (owns_short ho n1 (by omega)))
  clear ho
  go_wp2_with fail
  refine SPL.out.mono ?_
  rintro e W5 ⟨rfl, hg⟩
  have hL4 : Late B1 W4 W5 := Late.grown hg (fun q e => by cases e; exact hgk)
  have hb4 : Below B0 W4 W5 := (Below.refl _ _).grown hg (by have := hL0.size; have := hL1.size; have := hL2.size; have := hL3.size; omega) (fun q e => by cases e; exact hlo)
  have HO5 := hidp (show Sep B0 W5 [] from Sep.spoil (L1 := []) (x := (bE (.slice (some ⟨gk, 0, none⟩) (n1 + 3) (n1 + 3)) (n1 + 3) b4)) HO4.out hg)
  clear hg SPL HO4
  go_wp2_with fail
  refine HK.out _ _ ?_
  clear HK
  have hg2 := (((hL0.trans hL1).trans hL2).trans hL3).trans hL4
  have hbb := (((hb0.trans hb1).trans hb2).trans hb3).trans hb4
  have HW5 := hidp (HW.out.trans (hbb.mono hB0))
  have S := HS.out.late hg2
  have hB5 : B1 ≤ W5.heap.size := Nat.le_trans hB1 hg2.size
  clear HW HS HO5 hL0 hL1 hL2 hL3 hL4 hb0 hb1 hb2 hb3 hb4 hg2 hbb
  obtain ⟨ax, cx, ex, hx⟩ := owns_pairs (show W5.ownsRow B1 32 2 vx nx (psV lx) from S.own (pE vx nx lx) (by simp)) hsx
  obtain ⟨ax1, cx1, ex1, hx1⟩ := owns_pairs (show W5.ownsRow B1 32 2 vx1 nx (psV lx) from S.own (pE vx1 nx lx) (by simp)) hsx
  obtain ⟨ay, cy, ey, hy⟩ := owns_spans (show W5.ownsRow B1 36 2 vy ny (spanCells fu fl_ ny) from S.own (spE vy ny fu fl_) (by simp))
  obtain ⟨ay1, cy1, ey1, hy1⟩ := owns_spans (show W5.ownsRow B1 36 2 vy1 ny (spanCells fu fl_ ny) from S.own (spE vy1 ny fu fl_) (by simp))
  obtain ⟨ak, ck, ek, hk⟩ := owns_bools (show W5.ownsRow B1 4 1 vk nk (bk.map Value.bool) from S.own (bE vk nk bk) (by simp))
  obtain ⟨ak1, ck1, ek1, hk1⟩ := owns_bools (show W5.ownsRow B1 4 1 vk1 nk (bk.map Value.bool) from S.own (bE vk1 nk bk) (by simp))
  obtain ⟨aw, cw, ew, hw⟩ := owns_rules (show W5.ownsRow B1 39 3 vw nw (rsV lw) from S.own (er vw nw lw) (by simp))
  obtain ⟨aw1, cw1, ew1, hw1⟩ := owns_rules (show W5.ownsRow B1 39 3 vw1 nw (rsV lw) from S.own (er vw1 nw lw) (by simp))
  obtain ⟨az, cz, ez, hz⟩ := owns_rules (show W5.ownsRow B1 39 3 vz nz (rsV lz) from S.own (er vz nz lz) (by simp))
  obtain ⟨az1, cz1, ez1, hz1⟩ := owns_rules (show W5.ownsRow B1 39 3 vz1 nz (rsV lz) from S.own (er vz1 nz lz) (by simp))
  obtain ⟨as_, cs, es, hs⟩ := owns_rules (show W5.ownsRow B1 39 3 vs ns (rsV ls_) from S.own (er vs ns ls_) (by simp))
  obtain ⟨as1, cs1, es1, hs1⟩ := owns_rules (show W5.ownsRow B1 39 3 vs1 ns (rsV ls_) from S.own (er vs1 ns ls_) (by simp))
  subst ex ey ek ew ez es ex1 ey1 ek1 ew1 ez1 es1
  have E0 := hidp (fun W' (hB : Below W5.heap.size W5 W') => eqp_c ax ax1 nx cx cx1 lx W' (hx.below hB) (hx1.below hB))
  have E1 := hidp (fun W' (hB : Below W5.heap.size W5 W') => eqs_c ay ay1 ny cy cy1 (tab fu ny) (tab fl_ ny) W' (hy.below hB) (hy1.below hB))
  have E2 := hidp (fun W' (hB : Below W5.heap.size W5 W') => (equalb_c ak ak1 nk nk ck ck1 bk bk W' (hk.below hB) (hk1.below hB)).mono (fun e w' h => (show e = .returned (.bool true) ∧ Below W'.heap.size W' w' from ⟨by rw [h.1, decide_eq_true (rfl : bk = bk)], h.2⟩)))
  have E3 := hidp (fun W' (hB : Below W5.heap.size W5 W') => eqr_c aw aw1 nw cw cw1 lw W' (hw.below hB) (hw1.below hB))
  have E4 := hidp (fun W' (hB : Below W5.heap.size W5 W') => eqr_c az az1 nz cz cz1 lz W' (hz.below hB) (hz1.below hB))
  have E5 := hidp (fun W' (hB : Below W5.heap.size W5 W') => eqr_c as_ as1 ns cs cs1 ls_ W' (hs.below hB) (hs1.below hB))
  have S3 : Sep B1 W5 [er (.slice aw nw cw) nw lw, er (.slice az nz cz) nz lz, er (.slice as_ ns cs) ns ls_] := S.l.sub (List.Sublist.cons _ (List.Sublist.cons _ (List.Sublist.cons _ (List.Sublist.refl _))))
  have HS3 := hidp S3
  clear S S3 hx hy hk hw hz hs hx1 hy1 hk1 hw1 hz1 hs1
  apply wp_seq_k; intro K hK
  have HK := hidp hK
  clear hK
  go_wp2_with fail
  refine (E0.out _ (Below.refl _ _)).mono ?_
  rintro e V1 ⟨rfl, hb⟩
  have hb1 := hb
  clear hb E0
  go_wp2_with fail
  refine (E1.out _ hb1).mono ?_
  rintro e V2 ⟨rfl, hb⟩
  have hb2 := bstep hb1 hb
  clear hb1
  clear hb E1
  go_wp2_with fail
  refine (E2.out _ hb2).mono ?_
  rintro e V3 ⟨rfl, hb⟩
  have hb3 := bstep hb2 hb
  clear hb2
  clear hb E2
  go_wp2_with fail
  refine (E3.out _ hb3).mono ?_
  rintro e V4 ⟨rfl, hb⟩
  have hb4 := bstep hb3 hb
  clear hb3
  clear hb E3
  go_wp2_with fail
  refine (E4.out _ hb4).mono ?_
  rintro e V5 ⟨rfl, hb⟩
  have hb5 := bstep hb4 hb
  clear hb4
  clear hb E4
  go_wp2_with fail
  refine (E5.out _ hb5).mono ?_
  rintro e V6 ⟨rfl, hb⟩
  have hb6 := bstep hb5 hb
  clear hb5
  clear hb E5
  have ha : Below V6.heap.size V6 (V6.alloc (.cells #[.slice aw nw cw, .slice az nz cz, .slice as_ ns cs] 24)) := (Below.refl _ _).alloc (Nat.le_refl _) _
  have hS6 := HS3.out.below hb6
  have hB6 : B1 ≤ V6.heap.size := Nat.le_trans hB5 hb6.size
  have E8 := hidp (apartr_c B1 V6.heap.size 0 3 3 ⟨#[]⟩ 5 0 [er (.slice aw nw cw) nw lw, er (.slice az nz cz) nz lz, er (.slice as_ ns cs) ns ls_] (V6.alloc (.cells #[.slice aw nw cw, .slice az nz cz, .slice as_ ns cs] 24)) rfl (by omega) (by omega) (by omega) (by omega) (by have := ha.size; omega) ⟨by simp, fun i x hx => match i, hx with
    | 0, hx => by cases hx; unfold World.cell?; rw [heap_alloc_new]; rfl
    | 1, hx => by cases hx; unfold World.cell?; rw [heap_alloc_new]; rfl
    | 2, hx => by cases hx; unfold World.cell?; rw [heap_alloc_new]; rfl⟩ (fun x hx e => by
    have := ((hS6.own x hx).lt _ e).2
    omega) (hS6.below ha) (fun x hx => by
    simp only [List.mem_cons, List.not_mem_nil, or_false] at hx
    rcases hx with rfl | rfl | rfl
    · exact ⟨nw, lw, rfl, hnw⟩
    · exact ⟨nz, lz, rfl, hnz⟩
    · exact ⟨ns, ls_, rfl, hns⟩))
  have HA := hidp ((bstep HW5.out hb6).trans (ha.mono (by have := (bstep HW5.out hb6).size; omega)))
  clear hS6 ha HS3 HW5 hb6
  go_wp2_with fail
  refine E8.out.mono ?_
  rintro e V9 ⟨rfl, hb⟩
  have HW9 := hidp (HA.out.trans (hb.mono (Nat.le_trans hB0 hB01)))
  clear hb E8 HA
  go_wp2_with fail
  refine HK.out _ _ ?_
  clear HK
  go_wp2
  go_ret
  exact ⟨rfl, HW9.out⟩
end Go.Proofs.YtdfghgeccannnaaDoor.textsOwn
