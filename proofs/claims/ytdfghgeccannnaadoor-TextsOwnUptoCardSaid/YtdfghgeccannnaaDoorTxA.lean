/- The walk of TextsOwn: the calls on what was handed in (printed by wip/gen/skT.py). -/
import Derived.Test.YtdfghgeccannnaaDoorTxB
namespace Go.Proofs.YtdfghgeccannnaaDoor.textsOwn
open Go.ChangeShapes Go.WideShapes Go.ChangeAt Go.RowKit
open Go.Proofs.YtdfghgeccannnaaDoor
set_option maxRecDepth 20000
set_option linter.unusedVariables false
set_option maxHeartbeats 16000000 in
theorem pT1 {w0 W : World} {B0 : Nat} {gp gq gu gv gk n0 n1 n2 n3 : Nat} {a0 a1 a2 a3 : Option Addr} {c0 c1 c2 c3 : Nat} {L0 : List (ByteArray × ByteArray)} {us ls : List Int} {La Lb : List Rl} {r th rv : Int} {ht hr : Bool} {Q : Nat}
    {u4 u6 u7 u8 u9 u11 u12 u13 u14 u20 u21 u22 u23 u24 u25 u26 u27 u28 u29 u30 u31 u32 u33 u34 u35 u36 u37 u38 u39 u40 u41 u42 u43 u44 u45 u46 u47 u48 u49 u50 u51 u52 u53 u54 u55 u56 u57 u58 u59 u60 u61 u62 u63 u64 u65 u66 u67 u68 u69 u70 u71 u72 u73 u74 u75 u76 u77 u78 u79 u80 u81 u82 u83 u84 u85 u86 u87 u88 u89 u90 u91 u92 u93 u94 u95 u96 u97 u98 u99 u100 u101 u102 u103 u104 u105 u106 u107 u108 u109 u110 u111 u112 u113 u114 u115 u116 u117 u118 u119 u120 u121 u122 u123 u124 u125 u126 u127 u128 u129 u130 u131 u132 u133 u134 u135 u136 u137 u138 u139 u140 u141 u142 u143 u144 u145 u146 u147 u148 u149 u150 u151 u152 u153 u154 u155 u156 u157 u158 u159 u160 u161 u162 u163 u164 u165 u166 u167 u168 u169 u170 u171 u172 u173 u174 u175 u176 u177 u178 u179 u180 u181 u182 u183 u184 u185 u186 u187 u188 u189 u190 u191 u192 u193 u194 u195 u196 u197 u198 u199 u200 u201 u202 u203 u204 u205 u206 u207 u208 u209 u210 u211 u212 u213 u214 u215 u216 u217 u218 u219 u220 u221 u222 u223 u224 u225 u226 u227 u228 u229 u230 u231 u232 u233 u234 u235 u236 u237 u238 u239 : Value}
    (hw : Below w0.heap.size w0 W) (hB0 : w0.heap.size ≤ B0) (hB01 : B0 ≤ W.heap.size)
    (SO : Sep B0 W [(⟨32, 2, .slice (some ⟨gp, 0, none⟩) (n0 + 3) (n0 + 3), n0 + 3, (psV L0 ++ [.string ⟨#[109, 97, 114, 107]⟩, .string ⟨#[]⟩, .string ⟨#[109, 97, 114, 107]⟩, .string ⟨#[]⟩, .string ⟨#[109, 97, 114, 107]⟩, .string ⟨#[]⟩])⟩ : Ent), (⟨36, 2, .slice (some ⟨gq, 0, none⟩) (n1 + 3) (n1 + 3), n1 + 3, (spanCells (gi us) (gi ls) n1 ++ [.int .i64 (-7), .int .i64 0, .int .i64 (-7), .int .i64 0, .int .i64 (-7), .int .i64 0])⟩ : Ent), (⟨39, 3, .slice (some ⟨gu, 0, none⟩) (n2 + 3) (n2 + 3), n2 + 3, (rsV La ++ [.string ⟨#[]⟩, .int .i64 (-7), .int .i64 0, .string ⟨#[]⟩, .int .i64 (-7), .int .i64 0, .string ⟨#[]⟩, .int .i64 (-7), .int .i64 0])⟩ : Ent), (⟨39, 3, .slice (some ⟨gv, 0, none⟩) (n3 + 3) (n3 + 3), n3 + 3, (rsV Lb ++ [.string ⟨#[]⟩, .int .i64 (-8), .int .i64 0, .string ⟨#[]⟩, .int .i64 (-8), .int .i64 0, .string ⟨#[]⟩, .int .i64 (-8), .int .i64 0])⟩ : Ent), (bE (.slice (some ⟨gk, 0, none⟩) (n1 + 3) (n1 + 3)) (n1 + 3) (List.replicate n1 false ++ [true, true, true]))]) (hgp : gp < W.heap.size) (hgq : gq < W.heap.size) (hgu : gu < W.heap.size) (hgv : gv < W.heap.size) (hgk : gk < W.heap.size)
    (I0 : PairsAt W a0 n0 c0 L0) (I1 : SpansAt W a1 n1 c1 us ls) (I2 : RulesAt W a2 n2 c2 La) (I3 : RulesAt W a3 n3 c3 Lb) (hn0 : n0 ≤ 1048576) (hn1 : n1 ≤ 1048576) (hn2 : n2 ≤ 1048576) (hn3 : n3 ≤ 1048576) (hsz : ∀ p ∈ L0, p.1.size ≤ 2097152 ∧ p.2.size ≤ 2097152)
    (q0 : W.cell? ⟨Q, 0, none⟩ = some (.int .i64 th)) (q1 : W.cell? ⟨Q, 1, none⟩ = some (.int .i64 rv)) (q2 : W.cell? ⟨Q, 2, none⟩ = some (.bool ht)) (q3 : W.cell? ⟨Q, 3, none⟩ = some (.bool hr)) :
    (cdT 5).wp Tryd.prog (bodyPost Tryd.prog Tryd.f3 (fun e w' => e = .returned (.bool true) ∧ Below w0.heap.size w0 w'))
      ⟨#[.slice a0 n0 c0, .slice a1 n1 c1, .slice a2 n2 c2, .slice a3 n3 c3, u4, .int .i64 r, u6, u7, u8, u9, .pointer (some ⟨Q, 0, none⟩), u11, u12, u13, u14, .slice (some ⟨gp, 0, none⟩) n0 (n0 + 3), .slice (some ⟨gq, 0, none⟩) n1 (n1 + 3), .slice (some ⟨gu, 0, none⟩) n2 (n2 + 3), .slice (some ⟨gv, 0, none⟩) n3 (n3 + 3), .slice (some ⟨gk, 0, none⟩) n1 (n1 + 3), u20, u21, u22, u23, u24, u25, u26, u27, u28, u29, u30, u31, u32, u33, u34, u35, u36, u37, u38, u39, u40, u41, u42, u43, u44, u45, u46, u47, u48, u49, u50, u51, u52, u53, u54, u55, u56, u57, u58, u59, u60, u61, u62, u63, u64, u65, u66, u67, u68, u69, u70, u71, u72, u73, u74, u75, u76, u77, u78, u79, u80, u81, u82, u83, u84, u85, u86, u87, u88, u89, u90, u91, u92, u93, u94, u95, u96, u97, u98, u99, u100, u101, u102, u103, u104, u105, u106, u107, u108, u109, u110, u111, u112, u113, u114, u115, u116, u117, u118, u119, u120, u121, u122, u123, u124, u125, u126, u127, u128, u129, u130, u131, u132, u133, u134, u135, u136, u137, u138, u139, u140, u141, u142, u143, u144, u145, u146, u147, u148, u149, u150, u151, u152, u153, u154, u155, u156, u157, u158, u159, u160, u161, u162, u163, u164, u165, u166, u167, u168, u169, u170, u171, u172, u173, u174, u175, u176, u177, u178, u179, u180, u181, u182, u183, u184, u185, u186, u187, u188, u189, u190, u191, u192, u193, u194, u195, u196, u197, u198, u199, u200, u201, u202, u203, u204, u205, u206, u207, u208, u209, u210, u211, u212, u213, u214, u215, u216, u217, u218, u219, u220, u221, u222, u223, u224, u225, u226, u227, u228, u229, u230, u231, u232, u233, u234, u235, u236, u237, u238, u239], []⟩ W := by
  have HW := hidp hw
  have HO := hidp SO
  have HI := hidp (And.intro I0 (And.intro I1 (And.intro I2 I3)))
  obtain ⟨r0, g0l, m0⟩ := pairs_room (SO.own (⟨32, 2, .slice (some ⟨gp, 0, none⟩) (n0 + 3) (n0 + 3), n0 + 3, (psV L0 ++ [.string ⟨#[109, 97, 114, 107]⟩, .string ⟨#[]⟩, .string ⟨#[109, 97, 114, 107]⟩, .string ⟨#[]⟩, .string ⟨#[109, 97, 114, 107]⟩, .string ⟨#[]⟩])⟩ : Ent) (by simp)) I0.sz
  obtain ⟨r1, g1l, m1⟩ := spans_room (SO.own (⟨36, 2, .slice (some ⟨gq, 0, none⟩) (n1 + 3) (n1 + 3), n1 + 3, (spanCells (gi us) (gi ls) n1 ++ [.int .i64 (-7), .int .i64 0, .int .i64 (-7), .int .i64 0, .int .i64 (-7), .int .i64 0])⟩ : Ent) (by simp))
  rw [tab_own us n1 I1.lu, tab_own ls n1 I1.ll] at r1
  obtain ⟨r2, g2l, m2⟩ := rules_room (SO.own (⟨39, 3, .slice (some ⟨gu, 0, none⟩) (n2 + 3) (n2 + 3), n2 + 3, (rsV La ++ [.string ⟨#[]⟩, .int .i64 (-7), .int .i64 0, .string ⟨#[]⟩, .int .i64 (-7), .int .i64 0, .string ⟨#[]⟩, .int .i64 (-7), .int .i64 0])⟩ : Ent) (by simp))
  obtain ⟨r3, g3l, m3⟩ := rules_room (SO.own (⟨39, 3, .slice (some ⟨gv, 0, none⟩) (n3 + 3) (n3 + 3), n3 + 3, (rsV Lb ++ [.string ⟨#[]⟩, .int .i64 (-8), .int .i64 0, .string ⟨#[]⟩, .int .i64 (-8), .int .i64 0, .string ⟨#[]⟩, .int .i64 (-8), .int .i64 0])⟩ : Ent) (by simp))
  obtain ⟨r4, g4l, m4⟩ := bools_room (SO.own (bE (.slice (some ⟨gk, 0, none⟩) (n1 + 3) (n1 + 3)) (n1 + 3) (List.replicate n1 false ++ [true, true, true])) (by simp))
  have E0 := hidp (fun W' (hB : Below W.heap.size W W') => set_any (some ⟨gp, 0, none⟩) n0 (n0 + 3) L0 th rv ht hr W' (r0.below hB))
  have E1 := hidp (fun W' (hB : Below W.heap.size W W') => write_c (some ⟨gp, 0, none⟩) n0 (n0 + 3) L0 W' (r0.below hB) hsz)
  have E2 := hidp (fun W' (hB : Below W.heap.size W W') => mend_any (some ⟨gq, 0, none⟩) n1 (n1 + 3) us ls W' (r1.below hB))
  have E3 := hidp (fun W' (hB : Below W.heap.size W W') => whole_any (some ⟨gq, 0, none⟩) (some ⟨gk, 0, none⟩) n1 (n1 + 3) (n1 + 3) us ls (List.replicate n1 false) W' (r1.below hB) (r4.below hB))
  have E4 := hidp (fun W' (hB : Below W.heap.size W W') => count_any (some ⟨gq, 0, none⟩) (some ⟨gk, 0, none⟩) n1 (n1 + 3) (n1 + 3) us ls (List.replicate n1 false) W' (r1.below hB) (r4.below hB))
  have E5 := hidp (fun W' (hB : Below W.heap.size W W') => kept_any (some ⟨gq, 0, none⟩) n1 (n1 + 3) us ls r W' (r1.below hB))
  have E6 := hidp (fun W' (hB : Below W.heap.size W W') => bdput_any (some ⟨gu, 0, none⟩) n2 (n2 + 3) La ⟨#[97]⟩ 3 99 W' (r2.below hB))
  have E7 := hidp (fun W' (hB : Below W.heap.size W W') => bdjoin_any (some ⟨gu, 0, none⟩) n2 (n2 + 3) La (some ⟨gv, 0, none⟩) n3 (n3 + 3) Lb W' (r2.below hB) (r3.below hB))
  have E8 := hidp (fun W' (hB : Below W.heap.size W W') => bdput_any (some ⟨gu, 0, none⟩) n2 (n2 + 3) La ⟨#[]⟩ 0 0 W' (r2.below hB))
  have E9 := hidp (fun W' (hB : Below W.heap.size W W') => bdput_any (some ⟨gu, 0, none⟩) n2 (n2 + 3) La (rp La 0) (rl La 0) (re La 0) W' (r2.below hB))
  unfold markV at E0
  obtain ⟨b, o, hz, hx⟩ := I2.split
  have hz' : Hid (n2 = 0) ∨ a2 = some ⟨b, o, none⟩ := hz.imp_left hidp
  have HX := hidp hx
  clear SO hw r0 r1 r2 r3 r4 m0 m1 m2 m3 m4 g0l g1l g2l g3l g4l I0 I1 I2 I3 hz hx hsz
  have hb0 : Below W.heap.size W W := Below.refl _ _
  have S0 : Sep W.heap.size W [] := Sep.nil _ _
  conv => arg 2; whnf
  dsimp only
  apply wp_seq_k; intro K hK
  have HK := hidp hK
  clear hK
  go_wp2_with fail
  refine (E0.out _ hb0).mono ?_
  rintro e W1 ⟨vx, rx, rfl, ⟨nx, lx, ho, hnx, hsx⟩, hb⟩
  have S1 := Sep.app (L' := [pE vx nx lx]) S0 hb0.size hb (Sep.one ho)
  have hb1 := bstep hb0 hb
  clear hb E0 S0 hb0 ho
  clear q0 q1 q2 q3
  go_wp2_with fail
  refine HK.out _ _ ?_
  clear HK
  apply wp_seq_k; intro K hK
  have HK := hidp hK
  clear hK
  go_wp2_with fail
  refine (E1.out _ hb1).mono ?_
  rintro e W2 ⟨rfl, hb⟩
  have S2 := S1.below hb
  have hb2 := bstep hb1 hb
  clear hb E1 S1 hb1
  go_wp2_with fail
  refine HK.out _ _ ?_
  clear HK
  apply wp_seq_k; intro K hK
  have HK := hidp hK
  clear hK
  go_wp2_with fail
  refine (E2.out _ hb2).mono ?_
  rintro e W3 ⟨vy, ry, rfl, ⟨ny, fu, fl_, ho, hny⟩, hb⟩
  have S3 := Sep.app (L' := [spE vy ny fu fl_]) S2 hb2.size hb (Sep.one ho)
  have hb3 := bstep hb2 hb
  clear hb E2 S2 hb2 ho
  go_wp2_with fail
  refine HK.out _ _ ?_
  clear HK
  apply wp_seq_k; intro K hK
  have HK := hidp hK
  clear hK
  go_wp2_with fail
  refine (E3.out _ hb3).mono ?_
  rintro e W4 ⟨⟨bb, rb, rfl⟩, hb⟩
  have S4 := S3.below hb
  have hb4 := bstep hb3 hb
  clear hb E3 S3 hb3
  go_wp2_with fail
  refine HK.out _ _ ?_
  clear HK
  apply wp_seq_k; intro K hK
  have HK := hidp hK
  clear hK
  go_wp2_with fail
  refine (E4.out _ hb4).mono ?_
  rintro e W5 ⟨⟨cc, rc, rfl⟩, hb⟩
  have S5 := S4.below hb
  have hb5 := bstep hb4 hb
  clear hb E4 S4 hb4
  go_wp2_with fail
  refine HK.out _ _ ?_
  clear HK
  apply wp_seq_k; intro K hK
  have HK := hidp hK
  clear hK
  go_wp2_with fail
  refine (E5.out _ hb5).mono ?_
  rintro e W6 ⟨vk, rk, rfl, ⟨nk, bk, ho, hnk⟩, hb⟩
  have S6 := Sep.app (L' := [bE vk nk bk]) S5 hb5.size hb (Sep.one ho)
  have hb6 := bstep hb5 hb
  clear hb E5 S5 hb5 ho
  go_wp2_with fail
  refine HK.out _ _ ?_
  clear HK
  apply wp_seq_k; intro K hK
  have HK := hidp hK
  clear hK
  go_wp2_with fail
  refine HK.out _ _ ?_
  clear HK
  have o0 : (W6.alloc (.cells #[.string ⟨#[97]⟩, .int .i64 3, .int .i64 99] 39)).cell? ⟨W6.heap.size, 0, none⟩ = some (.string ⟨#[97]⟩) := by go_simp
  have o1 : (W6.alloc (.cells #[.string ⟨#[97]⟩, .int .i64 3, .int .i64 99] 39)).cell? ⟨W6.heap.size, 1, none⟩ = some (.int .i64 3) := by go_simp
  have o2 : (W6.alloc (.cells #[.string ⟨#[97]⟩, .int .i64 3, .int .i64 99] 39)).cell? ⟨W6.heap.size, 2, none⟩ = some (.int .i64 99) := by go_simp
  have S7 := S6.alloc (.cells #[.string ⟨#[97]⟩, .int .i64 3, .int .i64 99] 39)
  have hb7 : Below W.heap.size W (W6.alloc (.cells #[.string ⟨#[97]⟩, .int .i64 3, .int .i64 99] 39)) := bal hb6 _
  generalize W6.alloc (.cells #[.string ⟨#[97]⟩, .int .i64 3, .int .i64 99] 39) = W7 at *
  generalize W6.heap.size = Q1 at *
  clear S6 hb6
  apply wp_seq_k; intro K hK
  have HK := hidp hK
  clear hK
  go_wp2_with fail
  refine (E6.out _ hb7).mono ?_
  rintro e W8 ⟨vw, rw_, rfl, ⟨nw, lw, ho, hnw⟩, hb⟩
  have S8 := Sep.app (L' := [er vw nw lw]) S7 hb7.size hb (Sep.one ho)
  have hb8 := bstep hb7 hb
  clear hb E6 S7 hb7 ho
  clear o0 o1 o2
  go_wp2_with fail
  refine HK.out _ _ ?_
  clear HK
  apply wp_seq_k; intro K hK
  have HK := hidp hK
  clear hK
  go_wp2_with fail
  refine (E7.out _ hb8).mono ?_
  rintro e W9 ⟨vz, rz, rfl, ⟨nz, lz, ho, hnz⟩, hb⟩
  have S9 := Sep.app (L' := [er vz nz lz]) S8 hb8.size hb (Sep.one ho)
  have hb9 := bstep hb8 hb
  clear hb E7 S8 hb8 ho
  go_wp2_with fail
  refine HK.out _ _ ?_
  clear HK
  apply wp_seq_k; intro K hK
  have HK := hidp hK
  clear hK
  go_wp2_with fail
  refine (E8.out _ hb9).mono ?_
  rintro e W10 ⟨vs, rs, rfl, ⟨ns, ls_, ho, hns⟩, hb⟩
  have S10 := Sep.app (L' := [er vs ns ls_]) S9 hb9.size hb (Sep.one ho)
  have hb10 := bstep hb9 hb
  clear hb E8 S9 hb9 ho
  go_wp2_with fail
  refine HK.out _ _ ?_
  clear HK
  apply wp_seq_k; intro K hK
  have HK := hidp hK
  clear hK
  by_cases h0 : 0 < n2
  · obtain rfl : a2 = some ⟨b, o, none⟩ := hz'.resolve_left (fun e => by have := e.out; omega)
    obtain ⟨hbs, x0, x1, x2⟩ := HX.out 0 h0
    simp only [Nat.zero_mul, Nat.add_zero] at x0 x1 x2
    have y0 := ck hb10 x0
    have y1 := ck hb10 x1
    have y2 := ck hb10 x2
    have h0I : (0 : Int) < (n2 : Int) := by omega
    clear x0 x1 x2
    generalize rp La 0 = s at *
    generalize rl La 0 = l at *
    generalize re La 0 = ee at *
    go_wp2_with fail
    refine (E9.out _ hb10).mono ?_
    rintro e W11 ⟨vt, rt, rfl, ⟨nt, lt, ho, hnt⟩, hb⟩
    have S11 := Sep.app (L' := [er vt nt lt]) S10 hb10.size hb (Sep.one ho)
    have hb11 := bstep hb10 hb
    clear hb E9 S10 hb10 ho
    clear y0 y1 y2
    go_wp2_with fail
    refine HK.out _ _ ?_
    clear HK
    have hF : Sep W.heap.size W11 [pE vx nx lx, spE vy ny fu fl_, bE vk nk bk, er vw nw lw, er vz nz lz, er vt nt lt] := by
      simp only [List.append_assoc, List.cons_append, List.nil_append] at S11
      exact S11.sub (.cons_cons _ (.cons_cons _ (.cons_cons _ (.cons_cons _ (.cons_cons _ (.cons _ (List.Sublist.refl _)))))))
    have hl : Late W.heap.size W W11 := Late.below hb11
    obtain ⟨I0, I1, I2, I3⟩ := HI.out
    exact pT2a (bstep HW.out hb11) hB0 hB01 hb11.size hF hsx hnx hny hnk hnw hnz hnt (SO := HO.out.below hb11) hgp hgq hgu hgv hgk (I0.below hb11) (I1.below hb11) (I2.below hb11) (I3.below hb11) hn0 hn1 hn2 hn3
  · have h0I : ¬ (0 : Int) < (n2 : Int) := by omega
    go_wp2_with fail
    refine HK.out _ _ ?_
    clear HK
    have hF : Sep W.heap.size W10 [pE vx nx lx, spE vy ny fu fl_, bE vk nk bk, er vw nw lw, er vz nz lz, er vs ns ls_] := by
      simp only [List.append_assoc, List.cons_append, List.nil_append] at S10
      exact S10
    have hl : Late W.heap.size W W10 := Late.below hb10
    obtain ⟨I0, I1, I2, I3⟩ := HI.out
    exact pT2a (bstep HW.out hb10) hB0 hB01 hb10.size hF hsx hnx hny hnk hnw hnz hns (SO := HO.out.below hb10) hgp hgq hgu hgv hgk (I0.below hb10) (I1.below hb10) (I2.below hb10) (I3.below hb10) hn0 hn1 hn2 hn3
end Go.Proofs.YtdfghgeccannnaaDoor.textsOwn
