/- The walk of TextsOwn, its head: the first check, and what is handed in gets room (printed by wip/gen/skT0.py). -/
import Derived.Test.YtdfghgeccannnaaDoorTxA
namespace Go.Proofs.YtdfghgeccannnaaDoor.textsOwn
open Go.ChangeShapes Go.WideShapes Go.ChangeAt Go.RowKit
open Go.Proofs.YtdfghgeccannnaaDoor
set_option maxRecDepth 20000
set_option linter.unusedVariables false
theorem falses {W : World} {B g n : Nat} (h : W.heap[g]? = some (.cells (madeCells #[.bool false] n) 4 (0, 0))) : ∀ j u, ((List.replicate n false).map Value.bool)[j]? = some u → W.cell? ((⟨g, 0, none⟩ : Addr).add j) = some u := by
  intro j u hu
  have hj := (List.getElem?_eq_some_iff.1 hu).1
  rw [List.length_map, List.length_replicate] at hj
  rw [List.getElem?_map, List.getElem?_replicate, if_pos hj] at hu
  have hu' : Value.bool false = u := Option.some.inj hu
  subst hu'
  have e : (⟨g, 0, none⟩ : Addr).add j = ⟨g, j, none⟩ := by
    unfold Addr.add
    split
    · rename_i h0; rw [h0]
    · simp
  rw [e]
  unfold World.cell?
  simp only [h]
  have ht : (madeCells #[Value.bool false] n)[j]? = some (.bool false) := by
    rw [← Array.getElem?_toList, toList_madeCells_one, List.getElem?_replicate, if_pos hj]
  simp [ht]
set_option maxHeartbeats 16000000 in
theorem pT0 {w0 W : World} {a0 a1 a2 a3 : Option Addr} {c0 c1 c2 c3 : Nat} {L0 : List (ByteArray × ByteArray)} {us ls : List Int} {La Lb : List Rl} {n0 n1 n2 n3 : Nat} {r th rv : Int} {ht hr : Bool} {Q : Nat}
    {u4 u6 u7 u8 u9 u11 u12 u13 u14 u15 u16 u17 u18 u19 u20 u21 u22 u23 u24 u25 u26 u27 u28 u29 u30 u31 u32 u33 u34 u35 u36 u37 u38 u39 u40 u41 u42 u43 u44 u45 u46 u47 u48 u49 u50 u51 u52 u53 u54 u55 u56 u57 u58 u59 u60 u61 u62 u63 u64 u65 u66 u67 u68 u69 u70 u71 u72 u73 u74 u75 u76 u77 u78 u79 u80 u81 u82 u83 u84 u85 u86 u87 u88 u89 u90 u91 u92 u93 u94 u95 u96 u97 u98 u99 u100 u101 u102 u103 u104 u105 u106 u107 u108 u109 u110 u111 u112 u113 u114 u115 u116 u117 u118 u119 u120 u121 u122 u123 u124 u125 u126 u127 u128 u129 u130 u131 u132 u133 u134 u135 u136 u137 u138 u139 u140 u141 u142 u143 u144 u145 u146 u147 u148 u149 u150 u151 u152 u153 u154 u155 u156 u157 u158 u159 u160 u161 u162 u163 u164 u165 u166 u167 u168 u169 u170 u171 u172 u173 u174 u175 u176 u177 u178 u179 u180 u181 u182 u183 u184 u185 u186 u187 u188 u189 u190 u191 u192 u193 u194 u195 u196 u197 u198 u199 u200 u201 u202 u203 u204 u205 u206 u207 u208 u209 u210 u211 u212 u213 u214 u215 u216 u217 u218 u219 u220 u221 u222 u223 u224 u225 u226 u227 u228 u229 u230 u231 u232 u233 u234 u235 u236 u237 u238 u239 : Value}
    (hw : Below w0.heap.size w0 W)
    (I0 : PairsAt w0 a0 n0 c0 L0) (I1 : SpansAt w0 a1 n1 c1 us ls) (I2 : RulesAt w0 a2 n2 c2 La) (I3 : RulesAt w0 a3 n3 c3 Lb) (hn0 : n0 ≤ 1048576) (hn1 : n1 ≤ 1048576) (hn2 : n2 ≤ 1048576) (hn3 : n3 ≤ 1048576) (hsz : ∀ p ∈ L0, p.1.size ≤ 2097152 ∧ p.2.size ≤ 2097152)
    (z0 : a0 = none → c0 = 0) (z1 : a1 = none → c1 = 0) (z2 : a2 = none → c2 = 0) (z3 : a3 = none → c3 = 0)
    (q0 : W.cell? ⟨Q, 0, none⟩ = some (.int .i64 th)) (q1 : W.cell? ⟨Q, 1, none⟩ = some (.int .i64 rv)) (q2 : W.cell? ⟨Q, 2, none⟩ = some (.bool ht)) (q3 : W.cell? ⟨Q, 3, none⟩ = some (.bool hr)) :
    (cdT 2).wp Tryd.prog (bodyPost Tryd.prog Tryd.f3 (fun e w' => e = .returned (.bool true) ∧ Below w0.heap.size w0 w'))
      ⟨#[.slice a0 n0 c0, .slice a1 n1 c1, .slice a2 n2 c2, .slice a3 n3 c3, u4, .int .i64 r, u6, u7, u8, u9, .pointer (some ⟨Q, 0, none⟩), u11, u12, u13, u14, u15, u16, u17, u18, u19, u20, u21, u22, u23, u24, u25, u26, u27, u28, u29, u30, u31, u32, u33, u34, u35, u36, u37, u38, u39, u40, u41, u42, u43, u44, u45, u46, u47, u48, u49, u50, u51, u52, u53, u54, u55, u56, u57, u58, u59, u60, u61, u62, u63, u64, u65, u66, u67, u68, u69, u70, u71, u72, u73, u74, u75, u76, u77, u78, u79, u80, u81, u82, u83, u84, u85, u86, u87, u88, u89, u90, u91, u92, u93, u94, u95, u96, u97, u98, u99, u100, u101, u102, u103, u104, u105, u106, u107, u108, u109, u110, u111, u112, u113, u114, u115, u116, u117, u118, u119, u120, u121, u122, u123, u124, u125, u126, u127, u128, u129, u130, u131, u132, u133, u134, u135, u136, u137, u138, u139, u140, u141, u142, u143, u144, u145, u146, u147, u148, u149, u150, u151, u152, u153, u154, u155, u156, u157, u158, u159, u160, u161, u162, u163, u164, u165, u166, u167, u168, u169, u170, u171, u172, u173, u174, u175, u176, u177, u178, u179, u180, u181, u182, u183, u184, u185, u186, u187, u188, u189, u190, u191, u192, u193, u194, u195, u196, u197, u198, u199, u200, u201, u202, u203, u204, u205, u206, u207, u208, u209, u210, u211, u212, u213, u214, u215, u216, u217, u218, u219, u220, u221, u222, u223, u224, u225, u226, u227, u228, u229, u230, u231, u232, u233, u234, u235, u236, u237, u238, u239], []⟩ W := by
  have C0 := hidp (fun W' (hB : Below w0.heap.size w0 W') => roomyP_c a0 n0 c0 (psV L0) ⟨#[109, 97, 114, 107]⟩ ⟨#[]⟩ W' (by rw [psV_len, I0.len]) (fun b hb j u hu => (I0.below hB).cellsAt b hb j u hu) (psV_one L0) (fun e => by have h1 := I0.le; have h2 := z0 e; exact ⟨by omega, h2⟩) I0.le I0.max (by omega))
  have C1 := hidp (fun W' (hB : Below w0.heap.size w0 W') => roomyS_c a1 n1 c1 (spanCells (gi us) (gi ls) n1) (-7) 0 W' (spanCells_len _ _ _) (fun b hb j u hu => spans_cells (I1.below hB) hb j u hu) (spanCells_one _ _ _) (fun e => by have h1 := I1.le; have h2 := z1 e; exact ⟨by omega, h2⟩) I1.le I1.max (by omega))
  have C2 := hidp (fun W' (hB : Below w0.heap.size w0 W') => roomyR_c a2 n2 c2 (rsV La) ⟨#[]⟩ (-7) 0 W' (by rw [rsV_len, I2.len]) (fun b hb j u hu => (I2.below hB).cellsAt b hb j u hu) (rsV_one La) (fun e => by have h1 := I2.le; have h2 := z2 e; exact ⟨by omega, h2⟩) I2.le I2.max (by omega))
  have C3 := hidp (fun W' (hB : Below w0.heap.size w0 W') => roomyR_c a3 n3 c3 (rsV Lb) ⟨#[]⟩ (-8) 0 W' (by rw [rsV_len, I3.len]) (fun b hb j u hu => (I3.below hB).cellsAt b hb j u hu) (rsV_one Lb) (fun e => by have h1 := I3.le; have h2 := z3 e; exact ⟨by omega, h2⟩) I3.le I3.max (by omega))
  have hmk : ∀ W : World, (Instr.makeSlice 40 (.int .i64 (n1 : Int)) (.int .i64 (n1 : Int))).run Tryd.prog W = .ok (.slice (some ⟨W.heap.size, 0, none⟩) n1 n1) (W.alloc (.cells (madeCells #[.bool false] n1) 4)) := by
    intro W
    obtain ⟨i0, hi, hz0, hz1, hz2⟩ := info_parts info_bool
    have hr := run_make (P := Tryd.prog) W 40 4 i0 _ Tryd.underlying40 hi hz0 .i64 .i64 (n1 : Int) (n1 : Int) (by omega) (by omega) (by rw [hz2]; omega) (by omega)
    rw [hr, hz1, Nat.mul_one]
    rfl
  have HI := hidp (And.intro I0 (And.intro I1 (And.intro I2 I3)))
  have HSZ := hidp hsz
  have HW := hidp hw
  have hb0 : Below W.heap.size W W := Below.refl _ _
  have hwz := hw.size
  have S0 : Sep w0.heap.size W [] := Sep.nil _ _
  have Q0 := hidp q0
  have Q1 := hidp q1
  have Q2 := hidp q2
  have Q3 := hidp q3
  clear I0 I1 I2 I3 z0 z1 z2 z3 hsz hw q0 q1 q2 q3
  conv => arg 2; whnf
  dsimp only
  apply wp_seq_k; intro K hK
  have HK := hidp hK
  clear hK
  go_wp2_with fail
  refine (C0.out _ (bstep HW.out hb0)).mono ?_
  rintro e W1 ⟨gp, rfl, ho, hb⟩
  have S1 := Sep.app (L' := [(⟨32, 2, .slice (some ⟨gp, 0, none⟩) (n0 + 3) (n0 + 3), n0 + 3, psV L0 ++ ([.string ⟨#[109, 97, 114, 107]⟩, .string ⟨#[]⟩] ++ ([.string ⟨#[109, 97, 114, 107]⟩, .string ⟨#[]⟩] ++ [.string ⟨#[109, 97, 114, 107]⟩, .string ⟨#[]⟩]))⟩ : Ent)]) S0 (by have := hb0.size; omega) hb (Sep.one ho)
  have hb1 := bstep hb0 hb
  clear hb ho C0 S0 hb0
  go_wp2_with fail
  refine (C1.out _ (bstep HW.out hb1)).mono ?_
  rintro e W2 ⟨gq, rfl, ho, hb⟩
  have S2 := Sep.app (L' := [(⟨36, 2, .slice (some ⟨gq, 0, none⟩) (n1 + 3) (n1 + 3), n1 + 3, spanCells (gi us) (gi ls) n1 ++ ([.int .i64 (-7), .int .i64 0] ++ ([.int .i64 (-7), .int .i64 0] ++ [.int .i64 (-7), .int .i64 0]))⟩ : Ent)]) S1 (by have := hb1.size; omega) hb (Sep.one ho)
  have hb2 := bstep hb1 hb
  clear hb ho C1 S1 hb1
  go_wp2_with fail
  refine HK.out _ _ ?_
  clear HK
  apply wp_seq_k; intro K hK
  have HK := hidp hK
  clear hK
  go_wp2_with fail
  refine (C2.out _ (bstep HW.out hb2)).mono ?_
  rintro e W3 ⟨gu, rfl, ho, hb⟩
  have S3 := Sep.app (L' := [(⟨39, 3, .slice (some ⟨gu, 0, none⟩) (n2 + 3) (n2 + 3), n2 + 3, rsV La ++ ([.string ⟨#[]⟩, .int .i64 (-7), .int .i64 0] ++ ([.string ⟨#[]⟩, .int .i64 (-7), .int .i64 0] ++ [.string ⟨#[]⟩, .int .i64 (-7), .int .i64 0]))⟩ : Ent)]) S2 (by have := hb2.size; omega) hb (Sep.one ho)
  have hb3 := bstep hb2 hb
  clear hb ho C2 S2 hb2
  go_wp2_with fail
  refine (C3.out _ (bstep HW.out hb3)).mono ?_
  rintro e W4 ⟨gv, rfl, ho, hb⟩
  have S4 := Sep.app (L' := [(⟨39, 3, .slice (some ⟨gv, 0, none⟩) (n3 + 3) (n3 + 3), n3 + 3, rsV Lb ++ ([.string ⟨#[]⟩, .int .i64 (-8), .int .i64 0] ++ ([.string ⟨#[]⟩, .int .i64 (-8), .int .i64 0] ++ [.string ⟨#[]⟩, .int .i64 (-8), .int .i64 0]))⟩ : Ent)]) S3 (by have := hb3.size; omega) hb (Sep.one ho)
  have hb4 := bstep hb3 hb
  clear hb ho C3 S3 hb3
  go_wp2_with fail
  refine HK.out _ _ ?_
  clear HK
  apply wp_seq_k; intro K hK
  have HK := hidp hK
  clear hK
  have hc5 := heap_alloc_new W4 (.cells (madeCells #[.bool false] n1) 4)
  have C4 := hidp (roomyB_c (some ⟨W4.heap.size, 0, none⟩) n1 n1 ((List.replicate n1 false).map Value.bool) true (W4.alloc (.cells (madeCells #[.bool false] n1) 4)) (by simp) (fun b hb j u hu => by cases hb; exact falses (B := 0) hc5 j u hu) (bools_one _) (fun e => by cases e) (Nat.le_refl _) (by omega) (by omega))
  have S5 := S4.alloc (.cells (madeCells #[.bool false] n1) 4)
  have hb5 : Below W.heap.size W (W4.alloc (.cells (madeCells #[.bool false] n1) 4)) := bal hb4 _
  clear hc5 S4 hb4
  go_wp2_with fail
  refine C4.out.mono ?_
  rintro e W9 ⟨gk, rfl, ho, hb⟩
  have S9 := Sep.app (L' := [(⟨4, 1, .slice (some ⟨gk, 0, none⟩) (n1 + 3) (n1 + 3), n1 + 3, (List.replicate n1 false).map Value.bool ++ ([.bool true] ++ ([.bool true] ++ [.bool true]))⟩ : Ent)]) S5 (by have := hb5.size; omega) hb (Sep.one ho)
  have hb9 := bstep hb5 hb
  clear hb ho C4 S5 hb5 hmk
  go_wp2_with fail
  refine HK.out _ _ ?_
  clear HK
  have hbe : (⟨4, 1, .slice (some ⟨gk, 0, none⟩) (n1 + 3) (n1 + 3), n1 + 3, (List.replicate n1 false).map Value.bool ++ ([.bool true] ++ ([.bool true] ++ [.bool true]))⟩ : Ent) = (bE (.slice (some ⟨gk, 0, none⟩) (n1 + 3) (n1 + 3)) (n1 + 3) (List.replicate n1 false ++ [true, true, true])) := by simp [bE]
  rw [hbe] at S9
  have hQ : Sep w0.heap.size W9 [(⟨32, 2, .slice (some ⟨gp, 0, none⟩) (n0 + 3) (n0 + 3), n0 + 3, (psV L0 ++ [.string ⟨#[109, 97, 114, 107]⟩, .string ⟨#[]⟩, .string ⟨#[109, 97, 114, 107]⟩, .string ⟨#[]⟩, .string ⟨#[109, 97, 114, 107]⟩, .string ⟨#[]⟩])⟩ : Ent), (⟨36, 2, .slice (some ⟨gq, 0, none⟩) (n1 + 3) (n1 + 3), n1 + 3, (spanCells (gi us) (gi ls) n1 ++ [.int .i64 (-7), .int .i64 0, .int .i64 (-7), .int .i64 0, .int .i64 (-7), .int .i64 0])⟩ : Ent), (⟨39, 3, .slice (some ⟨gu, 0, none⟩) (n2 + 3) (n2 + 3), n2 + 3, (rsV La ++ [.string ⟨#[]⟩, .int .i64 (-7), .int .i64 0, .string ⟨#[]⟩, .int .i64 (-7), .int .i64 0, .string ⟨#[]⟩, .int .i64 (-7), .int .i64 0])⟩ : Ent), (⟨39, 3, .slice (some ⟨gv, 0, none⟩) (n3 + 3) (n3 + 3), n3 + 3, (rsV Lb ++ [.string ⟨#[]⟩, .int .i64 (-8), .int .i64 0, .string ⟨#[]⟩, .int .i64 (-8), .int .i64 0, .string ⟨#[]⟩, .int .i64 (-8), .int .i64 0])⟩ : Ent), (bE (.slice (some ⟨gk, 0, none⟩) (n1 + 3) (n1 + 3)) (n1 + 3) (List.replicate n1 false ++ [true, true, true]))] := by
    simp only [List.append_assoc, List.cons_append, List.nil_append] at S9 ⊢
    exact S9
  have hbw := bstep HW.out hb9
  obtain ⟨I0, I1, I2, I3⟩ := HI.out
  exact pT1 hbw (Nat.le_refl _) hbw.size hQ ((hQ.own (⟨32, 2, .slice (some ⟨gp, 0, none⟩) (n0 + 3) (n0 + 3), n0 + 3, (psV L0 ++ [.string ⟨#[109, 97, 114, 107]⟩, .string ⟨#[]⟩, .string ⟨#[109, 97, 114, 107]⟩, .string ⟨#[]⟩, .string ⟨#[109, 97, 114, 107]⟩, .string ⟨#[]⟩])⟩ : Ent) (by simp)).lt gp rfl).2 ((hQ.own (⟨36, 2, .slice (some ⟨gq, 0, none⟩) (n1 + 3) (n1 + 3), n1 + 3, (spanCells (gi us) (gi ls) n1 ++ [.int .i64 (-7), .int .i64 0, .int .i64 (-7), .int .i64 0, .int .i64 (-7), .int .i64 0])⟩ : Ent) (by simp)).lt gq rfl).2 ((hQ.own (⟨39, 3, .slice (some ⟨gu, 0, none⟩) (n2 + 3) (n2 + 3), n2 + 3, (rsV La ++ [.string ⟨#[]⟩, .int .i64 (-7), .int .i64 0, .string ⟨#[]⟩, .int .i64 (-7), .int .i64 0, .string ⟨#[]⟩, .int .i64 (-7), .int .i64 0])⟩ : Ent) (by simp)).lt gu rfl).2 ((hQ.own (⟨39, 3, .slice (some ⟨gv, 0, none⟩) (n3 + 3) (n3 + 3), n3 + 3, (rsV Lb ++ [.string ⟨#[]⟩, .int .i64 (-8), .int .i64 0, .string ⟨#[]⟩, .int .i64 (-8), .int .i64 0, .string ⟨#[]⟩, .int .i64 (-8), .int .i64 0])⟩ : Ent) (by simp)).lt gv rfl).2 ((hQ.own (bE (.slice (some ⟨gk, 0, none⟩) (n1 + 3) (n1 + 3)) (n1 + 3) (List.replicate n1 false ++ [true, true, true])) (by simp)).lt gk rfl).2 (I0.below hbw) (I1.below hbw) (I2.below hbw) (I3.below hbw) hn0 hn1 hn2 hn3 HSZ.out (ck hb9 Q0.out) (ck hb9 Q1.out) (ck hb9 Q2.out) (ck hb9 Q3.out)
set_option maxHeartbeats 16000000 in
theorem walk (a0 : Option Addr) (n0 c0 : Nat) (L0 : List (ByteArray × ByteArray)) (a1 : Option Addr) (n1 c1 : Nat) (us ls : List Int) (a2 : Option Addr) (n2 c2 : Nat) (La : List Rl) (a3 : Option Addr) (n3 c3 : Nat) (Lb : List Rl) (th rv : Int) (ht hr : Bool) (r m0 : Int) (w : World)
    (I0 : PairsAt w a0 n0 c0 L0) (I1 : SpansAt w a1 n1 c1 us ls) (I2 : RulesAt w a2 n2 c2 La) (I3 : RulesAt w a3 n3 c3 Lb)
    (z0 : a0 = none → c0 = 0) (z1 : a1 = none → c1 = 0) (z2 : a2 = none → c2 = 0) (z3 : a3 = none → c3 = 0)
    (hn0 : n0 ≤ 1048576) (hn1 : n1 ≤ 1048576) (hn2 : n2 ≤ 1048576) (hn3 : n3 ≤ 1048576) (hsz : ∀ p ∈ L0, p.1.size ≤ 2097152 ∧ p.2.size ≤ 2097152)
    (hm : w.cell? ⟨0, 0, none⟩ = some (.int .i64 m0)) :
    Calls Tryd.prog 3 #[.slice a0 n0 c0, .slice a1 n1 c1, .slice a2 n2 c2, .slice a3 n3 c3, .agg #[.int .i64 th, .int .i64 rv, .bool ht, .bool hr], .int .i64 r] w fun e w' => e = .returned (.bool true) ∧ Below w.heap.size w w' := by
  have rd : rE ⟨#[97, 61, 49]⟩ = 0 := by decide +kernel
  have rl : rL ⟨#[97, 61, 49]⟩ = [(⟨#[97]⟩, ⟨#[49]⟩)] := by decide +kernel
  have szl : ∀ p ∈ ([(⟨#[97]⟩, ⟨#[49]⟩)] : List (ByteArray × ByteArray)), p.1.size ≤ 9223372036854775807 ∧ p.2.size ≤ 9223372036854775807 := by intro p hp; simp at hp; subst hp; exact ⟨by decide, by decide⟩
  have hb0 : Below w.heap.size w (w.alloc (.cells #[.int .i64 th, .int .i64 rv, .bool ht, .bool hr] 26)) := bal (Below.refl _ _) _
  have q0 : (w.alloc (.cells #[.int .i64 th, .int .i64 rv, .bool ht, .bool hr] 26)).cell? ⟨w.heap.size, 0, none⟩ = some (.int .i64 th) := by go_simp
  have q1 : (w.alloc (.cells #[.int .i64 th, .int .i64 rv, .bool ht, .bool hr] 26)).cell? ⟨w.heap.size, 1, none⟩ = some (.int .i64 rv) := by go_simp
  have q2 : (w.alloc (.cells #[.int .i64 th, .int .i64 rv, .bool ht, .bool hr] 26)).cell? ⟨w.heap.size, 2, none⟩ = some (.bool ht) := by go_simp
  have q3 : (w.alloc (.cells #[.int .i64 th, .int .i64 rv, .bool ht, .bool hr] 26)).cell? ⟨w.heap.size, 3, none⟩ = some (.bool hr) := by go_simp
  have hm1 := ca hm (.cells #[.int .i64 th, .int .i64 rv, .bool ht, .bool hr] 26)
  have RD := hidp (fun (W' : World) (h : W'.cell? ⟨0, 0, none⟩ = some (.int .i64 m0)) => (read_c ⟨#[97, 61, 49]⟩ m0 W' h).mono (fun e w' hh => (show (∃ a c, e = .returned (.tuple #[.slice a 1 c, .int .i64 0]) ∧ PairsAt w' a 1 c [(⟨#[97]⟩, ⟨#[49]⟩)]) ∧ Below W'.heap.size W' w' from by
    rw [rd, rl] at hh
    rcases hh with ⟨⟨_, a, c, h1, h2⟩ | ⟨hn, _⟩, hb⟩
    · exact ⟨⟨a, c, h1, h2⟩, hb⟩
    · exact absurd rfl hn)))
  have HI := hidp (And.intro I0 (And.intro I1 (And.intro I2 I3)))
  have HZ := hidp (And.intro z0 (And.intro z1 (And.intro z2 z3)))
  have HSZ := hidp hsz
  have HSL := hidp szl
  have HM := hidp hm1
  have HQ := hidp (And.intro q0 (And.intro q1 (And.intro q2 q3)))
  have HB := hidp hb0
  clear I0 I1 I2 I3 z0 z1 z2 z3 hsz rd rl szl hm hm1 q0 q1 q2 q3 hb0
  go_enter Tryd.func3, Tryd.ntmps3
  apply wp_seq_k; intro K hK
  have HK := hidp hK
  clear hK
  go_wp2_with fail
  refine HK.out _ _ ?_
  clear HK
  generalize w.alloc (.cells #[.int .i64 th, .int .i64 rv, .bool ht, .bool hr] 26) = wb at *
  generalize hQ : w.heap.size = Q at HQ ⊢
  apply wp_seq_k; intro K hK
  have HK := hidp hK
  clear hK
  go_wp2_with fail
  refine (RD.out _ HM.out).mono ?_
  rintro e W1 ⟨⟨a9, c9, rfl, hP⟩, hb⟩
  have hB1 : Below wb.heap.size wb W1 := hb
  have EQ := hidp (eqp_c a9 (some ⟨W1.heap.size, 0, none⟩) 1 c9 1 [(⟨#[97]⟩, ⟨#[49]⟩)] (W1.alloc (.cells #[.string ⟨#[97]⟩, .string ⟨#[49]⟩] 32)) (hP.below (bal (Below.refl _ _) _)) (pairs_lit (cs := [.string ⟨#[97]⟩, .string ⟨#[49]⟩]) [(⟨#[97]⟩, ⟨#[49]⟩)] rfl rfl rfl HSL.out (by omega)))
  clear hP hb RD
  go_wp2_with fail
  refine EQ.out.mono ?_
  rintro e W2 ⟨rfl, hb⟩
  have hB2 : Below wb.heap.size wb W2 := bstep (bal hB1 _) hb
  clear EQ hb
  go_wp2_with fail
  refine HK.out _ _ ?_
  clear HK
  subst hQ
  obtain ⟨I0, I1, I2, I3⟩ := HI.out
  obtain ⟨z0, z1, z2, z3⟩ := HZ.out
  obtain ⟨q0, q1, q2, q3⟩ := HQ.out
  exact pT0 (HB.out.trans (hB2.mono HB.out.size)) I0 I1 I2 I3 hn0 hn1 hn2 hn3 HSZ.out z0 z1 z2 z3 (ck hB2 q0) (ck hB2 q1) (ck hB2 q2) (ck hB2 q3)
end Go.Proofs.YtdfghgeccannnaaDoor.textsOwn
