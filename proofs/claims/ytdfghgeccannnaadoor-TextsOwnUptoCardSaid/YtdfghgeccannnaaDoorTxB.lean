/- The walk of TextsOwn: what was handed in is as it was; what was answered is copied (printed by wip/gen/skT.py). -/
import Derived.Test.YtdfghgeccannnaaDoorTxC
namespace Go.Proofs.YtdfghgeccannnaaDoor.textsOwn
open Go.ChangeShapes Go.WideShapes Go.ChangeAt Go.RowKit
open Go.Proofs.YtdfghgeccannnaaDoor
set_option maxRecDepth 20000
set_option linter.unusedVariables false
theorem tab_own (xs : List Int) (n : Nat) (h : xs.length = n) : tab (gi xs) n = xs := by
  apply List.ext_getElem?
  intro i
  by_cases hi : i < n
  · rw [tab_get _ _ _ hi, List.getElem?_eq_getElem (by omega)]
    simp [gi, List.getElem?_eq_getElem (show i < xs.length by omega)]
  · rw [List.getElem?_eq_none (by rw [tab_len]; omega), List.getElem?_eq_none (by omega)]
set_option maxHeartbeats 16000000 in
theorem pT2b {w0 W : World} {B0 B1 : Nat} {vx vy vk vw vz vs : Value} {nx ny nk nw nz ns : Nat} {lx : List (ByteArray × ByteArray)} {fu fl_ : Nat → Int} {bk : List Bool} {lw lz ls_ : List Rl} {gp gq gu gv gk n0 n1 n2 n3 : Nat} {c0 c1 c2 c3 : List Value} {b4 : List Bool}
    {u0 u1 u2 u3 u4 u5 u6 u7 u8 u9 u10 u11 u12 u13 u14 u21 u23 u25 u26 u28 u30 u32 u33 u34 u35 u36 u37 u38 u39 u40 u41 u42 u43 u44 u45 u46 u47 u48 u49 u50 u51 u52 u53 u54 u55 u56 u57 u58 u59 u60 u61 u62 u63 u64 u65 u66 u67 u68 u69 u70 u71 u72 u73 u74 u75 u76 u77 u78 u79 u80 u81 u82 u83 u84 u85 u86 u87 u88 u89 u90 u91 u92 u93 u94 u95 u96 u97 u98 u99 u100 u101 u102 u103 u104 u105 u106 u107 u108 u109 u110 u111 u112 u113 u114 u115 u116 u117 u118 u119 u120 u121 u122 u123 u124 u125 u126 u127 u128 u129 u130 u131 u132 u133 u134 u135 u136 u137 u138 u139 u140 u141 u142 u143 u144 u145 u146 u147 u148 u149 u150 u151 u152 u153 u154 u155 u156 u157 u158 u159 u160 u161 u162 u163 u164 u165 u166 u167 u168 u169 u170 u171 u172 u173 u174 u175 u176 u177 u178 u179 u180 u181 u182 u183 u184 u185 u186 u187 u188 u189 u190 u191 u192 u193 u194 u195 u196 u197 u198 u199 u200 u201 u202 u203 u204 u205 u206 u207 u208 u209 u210 u211 u212 u213 u214 u215 u216 u217 u218 u219 u220 u221 u222 u223 u224 u225 u226 u227 u228 u229 u230 u231 u232 u233 u234 u235 u236 u237 u238 u239 : Value}
    (hw : Below w0.heap.size w0 W) (hB0 : w0.heap.size ≤ B0) (hB01 : B0 ≤ B1) (hB1 : B1 ≤ W.heap.size)
    (S : Sep B1 W [pE vx nx lx, spE vy ny fu fl_, bE vk nk bk, er vw nw lw, er vz nz lz, er vs ns ls_]) (hsx : ∀ p ∈ lx, p.1.size ≤ 9223372036854775807 ∧ p.2.size ≤ 9223372036854775807) (hnx : nx ≤ 1000) (hny : ny ≤ 1000) (hnk : nk ≤ 1000) (hnw : nw ≤ 1000) (hnz : nz ≤ 1000) (hns : ns ≤ 1000)
    (SO : Sep B0 W [(⟨32, 2, .slice (some ⟨gp, 0, none⟩) (n0 + 3) (n0 + 3), n0 + 3, c0⟩ : Ent), (⟨36, 2, .slice (some ⟨gq, 0, none⟩) (n1 + 3) (n1 + 3), n1 + 3, c1⟩ : Ent), (⟨39, 3, .slice (some ⟨gu, 0, none⟩) (n2 + 3) (n2 + 3), n2 + 3, c2⟩ : Ent), (⟨39, 3, .slice (some ⟨gv, 0, none⟩) (n3 + 3) (n3 + 3), n3 + 3, c3⟩ : Ent), (bE (.slice (some ⟨gk, 0, none⟩) (n1 + 3) (n1 + 3)) (n1 + 3) b4)]) (hgp : gp < B1) (hgq : gq < B1) (hgu : gu < B1) (hgv : gv < B1) (hgk : gk < B1) :
    (cdT 17).wp Tryd.prog (bodyPost Tryd.prog Tryd.f3 (fun e w' => e = .returned (.bool true) ∧ Below w0.heap.size w0 w'))
      ⟨#[u0, u1, u2, u3, u4, u5, u6, u7, u8, u9, u10, u11, u12, u13, u14, .slice (some ⟨gp, 0, none⟩) n0 (n0 + 3), .slice (some ⟨gq, 0, none⟩) n1 (n1 + 3), .slice (some ⟨gu, 0, none⟩) n2 (n2 + 3), .slice (some ⟨gv, 0, none⟩) n3 (n3 + 3), .slice (some ⟨gk, 0, none⟩) n1 (n1 + 3), vx, u21, vy, u23, vk, u25, u26, vw, u28, vz, u30, vs, u32, u33, u34, u35, u36, u37, u38, u39, u40, u41, u42, u43, u44, u45, u46, u47, u48, u49, u50, u51, u52, u53, u54, u55, u56, u57, u58, u59, u60, u61, u62, u63, u64, u65, u66, u67, u68, u69, u70, u71, u72, u73, u74, u75, u76, u77, u78, u79, u80, u81, u82, u83, u84, u85, u86, u87, u88, u89, u90, u91, u92, u93, u94, u95, u96, u97, u98, u99, u100, u101, u102, u103, u104, u105, u106, u107, u108, u109, u110, u111, u112, u113, u114, u115, u116, u117, u118, u119, u120, u121, u122, u123, u124, u125, u126, u127, u128, u129, u130, u131, u132, u133, u134, u135, u136, u137, u138, u139, u140, u141, u142, u143, u144, u145, u146, u147, u148, u149, u150, u151, u152, u153, u154, u155, u156, u157, u158, u159, u160, u161, u162, u163, u164, u165, u166, u167, u168, u169, u170, u171, u172, u173, u174, u175, u176, u177, u178, u179, u180, u181, u182, u183, u184, u185, u186, u187, u188, u189, u190, u191, u192, u193, u194, u195, u196, u197, u198, u199, u200, u201, u202, u203, u204, u205, u206, u207, u208, u209, u210, u211, u212, u213, u214, u215, u216, u217, u218, u219, u220, u221, u222, u223, u224, u225, u226, u227, u228, u229, u230, u231, u232, u233, u234, u235, u236, u237, u238, u239], []⟩ W := by
  have HW := hidp hw
  have HS := hidp S
  have HO := hidp SO
  obtain ⟨ax, cx, ex, hx⟩ := owns_pairs (show W.ownsRow B1 32 2 vx nx (psV lx) from S.own (pE vx nx lx) (by simp)) hsx
  obtain ⟨ay, cy, ey, hy⟩ := owns_spans (show W.ownsRow B1 36 2 vy ny (spanCells fu fl_ ny) from S.own (spE vy ny fu fl_) (by simp))
  obtain ⟨ak, ck, ek, hk⟩ := owns_bools (show W.ownsRow B1 4 1 vk nk (bk.map Value.bool) from S.own (bE vk nk bk) (by simp))
  obtain ⟨aw, cw, ew, hw⟩ := owns_rules (show W.ownsRow B1 39 3 vw nw (rsV lw) from S.own (er vw nw lw) (by simp))
  obtain ⟨az, cz, ez, hz⟩ := owns_rules (show W.ownsRow B1 39 3 vz nz (rsV lz) from S.own (er vz nz lz) (by simp))
  obtain ⟨as_, cs_, es, hs⟩ := owns_rules (show W.ownsRow B1 39 3 vs ns (rsV ls_) from S.own (er vs ns ls_) (by simp))
  subst ex ey ek ew ez es
  have E0 := hidp (fun W' (hB : Below W.heap.size W W') => clonep_c ax nx cx lx W' (hx.below hB) (by omega))
  have E1 := hidp (fun W' (hB : Below W.heap.size W W') => clones_c ay ny cy (tab fu ny) (tab fl_ ny) W' (hy.below hB) (by omega))
  have E2 := hidp (fun W' (hB : Below W.heap.size W W') => cloneb_c ak nk ck bk W' (hk.below hB) (by omega))
  have E3 := hidp (fun W' (hB : Below W.heap.size W W') => cloner_c aw nw cw lw W' (hw.below hB) (by omega))
  have E4 := hidp (fun W' (hB : Below W.heap.size W W') => cloner_c az nz cz lz W' (hz.below hB) (by omega))
  have E5 := hidp (fun W' (hB : Below W.heap.size W W') => cloner_c as_ ns cs_ ls_ W' (hs.below hB) (by omega))
  have SC : spanCells (gi (tab fu ny)) (gi (tab fl_ ny)) ny = spanCells fu fl_ ny := spanCells_congr _ _ _ _ ny (fun i hi => ⟨tab_gi _ _ _ hi, tab_gi _ _ _ hi⟩)
  rw [SC] at E1
  have S0 := S
  clear S SO hw hx hy hk hz hs SC
  have hb0 : Below W.heap.size W W := Below.refl _ _
  conv => arg 2; whnf
  dsimp only
  apply wp_seq_k; intro K hK
  have HK := hidp hK
  clear hK
  go_wp2_with fail
  refine (E0.out _ hb0).mono ?_
  rintro e W1 ⟨v1, rfl, ho, hb⟩
  have S1 := Sep.app (L' := [pE v1 nx lx]) S0 (Nat.le_trans hB1 hb0.size) hb (Sep.one ho)
  have hb1 := bstep hb0 hb
  clear hb ho E0 S0 hb0
  go_wp2_with fail
  refine (E1.out _ hb1).mono ?_
  rintro e W2 ⟨v2, rfl, ho, hb⟩
  have S2 := Sep.app (L' := [spE v2 ny fu fl_]) S1 (Nat.le_trans hB1 hb1.size) hb (Sep.one ho)
  have hb2 := bstep hb1 hb
  clear hb ho E1 S1 hb1
  go_wp2_with fail
  refine (E2.out _ hb2).mono ?_
  rintro e W3 ⟨v3, rfl, ho, hb⟩
  have S3 := Sep.app (L' := [bE v3 nk bk]) S2 (Nat.le_trans hB1 hb2.size) hb (Sep.one ho)
  have hb3 := bstep hb2 hb
  clear hb ho E2 S2 hb2
  go_wp2_with fail
  refine (E3.out _ hb3).mono ?_
  rintro e W4 ⟨v4, rfl, ho, hb⟩
  have S4 := Sep.app (L' := [er v4 nw lw]) S3 (Nat.le_trans hB1 hb3.size) hb (Sep.one ho)
  have hb4 := bstep hb3 hb
  clear hb ho E3 S3 hb3
  go_wp2_with fail
  refine (E4.out _ hb4).mono ?_
  rintro e W5 ⟨v5, rfl, ho, hb⟩
  have S5 := Sep.app (L' := [er v5 nz lz]) S4 (Nat.le_trans hB1 hb4.size) hb (Sep.one ho)
  have hb5 := bstep hb4 hb
  clear hb ho E4 S4 hb4
  go_wp2_with fail
  refine (E5.out _ hb5).mono ?_
  rintro e W6 ⟨v6, rfl, ho, hb⟩
  have S6 := Sep.app (L' := [er v6 ns ls_]) S5 (Nat.le_trans hB1 hb5.size) hb (Sep.one ho)
  have hb6 := bstep hb5 hb
  clear hb ho E5 S5 hb5
  go_wp2_with fail
  refine HK.out _ _ ?_
  have hl : Late B1 W W6 := Late.below hb6
  have hA : Sep B1 W6 ([pE (.slice ax nx cx) nx lx, spE (.slice ay ny cy) ny fu fl_, bE (.slice ak nk ck) nk bk, er (.slice aw nw cw) nw lw, er (.slice az nz cz) nz lz, er (.slice as_ ns cs_) ns ls_] ++ [pE v1 nx lx, spE v2 ny fu fl_, bE v3 nk bk, er v4 nw lw, er v5 nz lz, er v6 ns ls_]) := by
    simp only [List.append_assoc, List.cons_append, List.nil_append] at S6 ⊢
    exact S6
  exact pT3 (bstep HW.out hb6) hB0 hB01 (Nat.le_trans hB1 hb6.size) hA hsx hnx hny hnk hnw hnz hns (SO := HO.out.below hb6) hgp hgq hgu hgv hgk
set_option maxHeartbeats 16000000 in
theorem pT2a {w0 W : World} {B0 B1 : Nat} {vx vy vk vw vz vs : Value} {nx ny nk nw nz ns : Nat} {lx : List (ByteArray × ByteArray)} {fu fl_ : Nat → Int} {bk : List Bool} {lw lz ls_ : List Rl} {gp gq gu gv gk n0 n1 n2 n3 : Nat} {a0 a1 a2 a3 : Option Addr} {c0 c1 c2 c3 : Nat} {L0 : List (ByteArray × ByteArray)} {us ls : List Int} {La Lb : List Rl}
    {u4 u5 u6 u7 u8 u9 u10 u11 u12 u13 u14 u21 u23 u25 u26 u28 u30 u32 u33 u34 u35 u36 u37 u38 u39 u40 u41 u42 u43 u44 u45 u46 u47 u48 u49 u50 u51 u52 u53 u54 u55 u56 u57 u58 u59 u60 u61 u62 u63 u64 u65 u66 u67 u68 u69 u70 u71 u72 u73 u74 u75 u76 u77 u78 u79 u80 u81 u82 u83 u84 u85 u86 u87 u88 u89 u90 u91 u92 u93 u94 u95 u96 u97 u98 u99 u100 u101 u102 u103 u104 u105 u106 u107 u108 u109 u110 u111 u112 u113 u114 u115 u116 u117 u118 u119 u120 u121 u122 u123 u124 u125 u126 u127 u128 u129 u130 u131 u132 u133 u134 u135 u136 u137 u138 u139 u140 u141 u142 u143 u144 u145 u146 u147 u148 u149 u150 u151 u152 u153 u154 u155 u156 u157 u158 u159 u160 u161 u162 u163 u164 u165 u166 u167 u168 u169 u170 u171 u172 u173 u174 u175 u176 u177 u178 u179 u180 u181 u182 u183 u184 u185 u186 u187 u188 u189 u190 u191 u192 u193 u194 u195 u196 u197 u198 u199 u200 u201 u202 u203 u204 u205 u206 u207 u208 u209 u210 u211 u212 u213 u214 u215 u216 u217 u218 u219 u220 u221 u222 u223 u224 u225 u226 u227 u228 u229 u230 u231 u232 u233 u234 u235 u236 u237 u238 u239 : Value}
    (hw : Below w0.heap.size w0 W) (hB0 : w0.heap.size ≤ B0) (hB01 : B0 ≤ B1) (hB1 : B1 ≤ W.heap.size)
    (S : Sep B1 W [pE vx nx lx, spE vy ny fu fl_, bE vk nk bk, er vw nw lw, er vz nz lz, er vs ns ls_]) (hsx : ∀ p ∈ lx, p.1.size ≤ 9223372036854775807 ∧ p.2.size ≤ 9223372036854775807) (hnx : nx ≤ 1000) (hny : ny ≤ 1000) (hnk : nk ≤ 1000) (hnw : nw ≤ 1000) (hnz : nz ≤ 1000) (hns : ns ≤ 1000)
    (SO : Sep B0 W [(⟨32, 2, .slice (some ⟨gp, 0, none⟩) (n0 + 3) (n0 + 3), n0 + 3, (psV L0 ++ [.string ⟨#[109, 97, 114, 107]⟩, .string ⟨#[]⟩, .string ⟨#[109, 97, 114, 107]⟩, .string ⟨#[]⟩, .string ⟨#[109, 97, 114, 107]⟩, .string ⟨#[]⟩])⟩ : Ent), (⟨36, 2, .slice (some ⟨gq, 0, none⟩) (n1 + 3) (n1 + 3), n1 + 3, (spanCells (gi us) (gi ls) n1 ++ [.int .i64 (-7), .int .i64 0, .int .i64 (-7), .int .i64 0, .int .i64 (-7), .int .i64 0])⟩ : Ent), (⟨39, 3, .slice (some ⟨gu, 0, none⟩) (n2 + 3) (n2 + 3), n2 + 3, (rsV La ++ [.string ⟨#[]⟩, .int .i64 (-7), .int .i64 0, .string ⟨#[]⟩, .int .i64 (-7), .int .i64 0, .string ⟨#[]⟩, .int .i64 (-7), .int .i64 0])⟩ : Ent), (⟨39, 3, .slice (some ⟨gv, 0, none⟩) (n3 + 3) (n3 + 3), n3 + 3, (rsV Lb ++ [.string ⟨#[]⟩, .int .i64 (-8), .int .i64 0, .string ⟨#[]⟩, .int .i64 (-8), .int .i64 0, .string ⟨#[]⟩, .int .i64 (-8), .int .i64 0])⟩ : Ent), (bE (.slice (some ⟨gk, 0, none⟩) (n1 + 3) (n1 + 3)) (n1 + 3) (List.replicate n1 false ++ [true, true, true]))]) (hgp : gp < B1) (hgq : gq < B1) (hgu : gu < B1) (hgv : gv < B1) (hgk : gk < B1)
    (I0 : PairsAt W a0 n0 c0 L0) (I1 : SpansAt W a1 n1 c1 us ls) (I2 : RulesAt W a2 n2 c2 La) (I3 : RulesAt W a3 n3 c3 Lb) (hn0 : n0 ≤ 1048576) (hn1 : n1 ≤ 1048576) (hn2 : n2 ≤ 1048576) (hn3 : n3 ≤ 1048576) :
    (cdT 16).wp Tryd.prog (bodyPost Tryd.prog Tryd.f3 (fun e w' => e = .returned (.bool true) ∧ Below w0.heap.size w0 w'))
      ⟨#[.slice a0 n0 c0, .slice a1 n1 c1, .slice a2 n2 c2, .slice a3 n3 c3, u4, u5, u6, u7, u8, u9, u10, u11, u12, u13, u14, .slice (some ⟨gp, 0, none⟩) n0 (n0 + 3), .slice (some ⟨gq, 0, none⟩) n1 (n1 + 3), .slice (some ⟨gu, 0, none⟩) n2 (n2 + 3), .slice (some ⟨gv, 0, none⟩) n3 (n3 + 3), .slice (some ⟨gk, 0, none⟩) n1 (n1 + 3), vx, u21, vy, u23, vk, u25, u26, vw, u28, vz, u30, vs, u32, u33, u34, u35, u36, u37, u38, u39, u40, u41, u42, u43, u44, u45, u46, u47, u48, u49, u50, u51, u52, u53, u54, u55, u56, u57, u58, u59, u60, u61, u62, u63, u64, u65, u66, u67, u68, u69, u70, u71, u72, u73, u74, u75, u76, u77, u78, u79, u80, u81, u82, u83, u84, u85, u86, u87, u88, u89, u90, u91, u92, u93, u94, u95, u96, u97, u98, u99, u100, u101, u102, u103, u104, u105, u106, u107, u108, u109, u110, u111, u112, u113, u114, u115, u116, u117, u118, u119, u120, u121, u122, u123, u124, u125, u126, u127, u128, u129, u130, u131, u132, u133, u134, u135, u136, u137, u138, u139, u140, u141, u142, u143, u144, u145, u146, u147, u148, u149, u150, u151, u152, u153, u154, u155, u156, u157, u158, u159, u160, u161, u162, u163, u164, u165, u166, u167, u168, u169, u170, u171, u172, u173, u174, u175, u176, u177, u178, u179, u180, u181, u182, u183, u184, u185, u186, u187, u188, u189, u190, u191, u192, u193, u194, u195, u196, u197, u198, u199, u200, u201, u202, u203, u204, u205, u206, u207, u208, u209, u210, u211, u212, u213, u214, u215, u216, u217, u218, u219, u220, u221, u222, u223, u224, u225, u226, u227, u228, u229, u230, u231, u232, u233, u234, u235, u236, u237, u238, u239], []⟩ W := by
  have HW := hidp hw
  have HS := hidp S
  have HO := hidp SO
  obtain ⟨r0, g0l, m0⟩ := pairs_room (SO.own (⟨32, 2, .slice (some ⟨gp, 0, none⟩) (n0 + 3) (n0 + 3), n0 + 3, (psV L0 ++ [.string ⟨#[109, 97, 114, 107]⟩, .string ⟨#[]⟩, .string ⟨#[109, 97, 114, 107]⟩, .string ⟨#[]⟩, .string ⟨#[109, 97, 114, 107]⟩, .string ⟨#[]⟩])⟩ : Ent) (by simp)) I0.sz
  obtain ⟨r1, g1l, m1⟩ := spans_room (SO.own (⟨36, 2, .slice (some ⟨gq, 0, none⟩) (n1 + 3) (n1 + 3), n1 + 3, (spanCells (gi us) (gi ls) n1 ++ [.int .i64 (-7), .int .i64 0, .int .i64 (-7), .int .i64 0, .int .i64 (-7), .int .i64 0])⟩ : Ent) (by simp))
  rw [tab_own us n1 I1.lu, tab_own ls n1 I1.ll] at r1
  obtain ⟨r2, g2l, m2⟩ := rules_room (SO.own (⟨39, 3, .slice (some ⟨gu, 0, none⟩) (n2 + 3) (n2 + 3), n2 + 3, (rsV La ++ [.string ⟨#[]⟩, .int .i64 (-7), .int .i64 0, .string ⟨#[]⟩, .int .i64 (-7), .int .i64 0, .string ⟨#[]⟩, .int .i64 (-7), .int .i64 0])⟩ : Ent) (by simp))
  obtain ⟨r3, g3l, m3⟩ := rules_room (SO.own (⟨39, 3, .slice (some ⟨gv, 0, none⟩) (n3 + 3) (n3 + 3), n3 + 3, (rsV Lb ++ [.string ⟨#[]⟩, .int .i64 (-8), .int .i64 0, .string ⟨#[]⟩, .int .i64 (-8), .int .i64 0, .string ⟨#[]⟩, .int .i64 (-8), .int .i64 0])⟩ : Ent) (by simp))
  obtain ⟨r4, g4l, m4⟩ := bools_room (SO.own (bE (.slice (some ⟨gk, 0, none⟩) (n1 + 3) (n1 + 3)) (n1 + 3) (List.replicate n1 false ++ [true, true, true])) (by simp))
  have E0 := hidp (fun W' (hB : Below W.heap.size W W') => eqp_c (some ⟨gp, 0, none⟩) a0 n0 (n0 + 3) c0 L0 W' (r0.below hB) (I0.below hB))
  have E1 := hidp (fun W' (hB : Below W.heap.size W W') => eqs_c (some ⟨gq, 0, none⟩) a1 n1 (n1 + 3) c1 us ls W' (r1.below hB) (I1.below hB))
  have E2 := hidp (fun W' (hB : Below W.heap.size W W') => eqr_c (some ⟨gu, 0, none⟩) a2 n2 (n2 + 3) c2 La W' (r2.below hB) (I2.below hB))
  have E3 := hidp (fun W' (hB : Below W.heap.size W W') => eqr_c (some ⟨gv, 0, none⟩) a3 n3 (n3 + 3) c3 Lb W' (r3.below hB) (I3.below hB))
  have E4 := hidp (fun W' (hB : Below W.heap.size W W') => markedP_c gp n0 ⟨#[109, 97, 114, 107]⟩ ⟨#[]⟩ W' (Nat.lt_of_lt_of_le g0l hB.size) (by omega) (fun i hi => ⟨ck hB (m0 i hi).1, ck hB (m0 i hi).2⟩))
  have E5 := hidp (fun W' (hB : Below W.heap.size W W') => markedS_c gq n1 (-7) 0 W' (Nat.lt_of_lt_of_le g1l hB.size) (by omega) (fun i hi => ⟨ck hB (m1 i hi).1, ck hB (m1 i hi).2⟩))
  have E6 := hidp (fun W' (hB : Below W.heap.size W W') => markedR_c gu n2 ⟨#[]⟩ (-7) 0 W' (Nat.lt_of_lt_of_le g2l hB.size) (by omega) (fun i hi => ⟨ck hB (m2 i hi).1, ck hB (m2 i hi).2.1, ck hB (m2 i hi).2.2⟩))
  have E7 := hidp (fun W' (hB : Below W.heap.size W W') => markedR_c gv n3 ⟨#[]⟩ (-8) 0 W' (Nat.lt_of_lt_of_le g3l hB.size) (by omega) (fun i hi => ⟨ck hB (m3 i hi).1, ck hB (m3 i hi).2.1, ck hB (m3 i hi).2.2⟩))
  have E8 := hidp (fun W' (hB : Below W.heap.size W W') => containsb_c (some ⟨gk, 0, none⟩) n1 (n1 + 3) (List.replicate n1 false) W' (r4.below hB) (fun i hi => by unfold gb; rw [List.getD_eq_getElem?_getD, List.getElem?_replicate, if_pos hi]; rfl))
  have E9 := hidp (fun W' (hB : Below W.heap.size W W') => markedB_c gk n1 true W' (Nat.lt_of_lt_of_le g4l hB.size) (by omega) (fun i hi => ck hB (m4 i hi)))
  clear S SO hw r0 r1 r2 r3 r4 m0 m1 m2 m3 m4 g0l g1l g2l g3l g4l I0 I1 I2 I3
  conv => arg 2; whnf
  dsimp only
  apply wp_seq_k; intro K hK
  have HK := hidp hK
  clear hK
  go_wp2_with fail
  refine (E0.out _ (Below.refl _ _)).mono ?_
  rintro e W1 ⟨rfl, hb⟩
  have hb1 := hb
  clear hb E0
  go_wp2_with fail
  refine (E1.out _ hb1).mono ?_
  rintro e W2 ⟨rfl, hb⟩
  have hb2 := bstep hb1 hb
  clear hb1
  clear hb E1
  go_wp2_with fail
  refine (E2.out _ hb2).mono ?_
  rintro e W3 ⟨rfl, hb⟩
  have hb3 := bstep hb2 hb
  clear hb2
  clear hb E2
  go_wp2_with fail
  refine (E3.out _ hb3).mono ?_
  rintro e W4 ⟨rfl, hb⟩
  have hb4 := bstep hb3 hb
  clear hb3
  clear hb E3
  go_wp2_with fail
  refine (E4.out _ hb4).mono ?_
  rintro e W5 ⟨rfl, hb⟩
  have hb5 := bstep hb4 hb
  clear hb4
  clear hb E4
  go_wp2_with fail
  refine (E5.out _ hb5).mono ?_
  rintro e W6 ⟨rfl, hb⟩
  have hb6 := bstep hb5 hb
  clear hb5
  clear hb E5
  go_wp2_with fail
  refine (E6.out _ hb6).mono ?_
  rintro e W7 ⟨rfl, hb⟩
  have hb7 := bstep hb6 hb
  clear hb6
  clear hb E6
  go_wp2_with fail
  refine (E7.out _ hb7).mono ?_
  rintro e W8 ⟨rfl, hb⟩
  have hb8 := bstep hb7 hb
  clear hb7
  clear hb E7
  go_wp2_with fail
  refine (E8.out _ hb8).mono ?_
  rintro e W9 ⟨rfl, hb⟩
  have hb9 := bstep hb8 hb
  clear hb8
  clear hb E8
  go_wp2_with fail
  refine (E9.out _ hb9).mono ?_
  rintro e W10 ⟨rfl, hb⟩
  have hb10 := bstep hb9 hb
  clear hb9
  clear hb E9
  go_wp2_with fail
  refine HK.out _ _ ?_
  exact pT2b (bstep HW.out hb10) hB0 hB01 (Nat.le_trans hB1 hb10.size) (HS.out.below hb10) hsx hnx hny hnk hnw hnz hns (SO := HO.out.below hb10) hgp hgq hgu hgv hgk
end Go.Proofs.YtdfghgeccannnaaDoor.textsOwn
