/- The walk of TableJoins: the law returns true at all inputs, and no old memory changes. -/
import Derived.Test.YtpghnbpoodcglaaTabSame
import Derived.Test.YtpghnbpoodcglaaTabRows
import Derived.Test.YtpghnbpoodcglaaCame
import Derived.Test.YtpghnbpoodcglaaCounted
import Derived.Test.YtpghnbpoodcglaaConcatC
import Derived.Test.YtpghnbpoodcglaaTabJoin
namespace Go.Proofs.Ytpghnbpoodcglaa.tableJoins
open Go.ChangeShapes Go.WideShapes Go.ChangeAt Go.RowKit
open Go.Proofs.Ytpghnbpoodcglaa
set_option maxRecDepth 20000
/-- A table literal of two rows of one count. -/
theorem lit12 {w : World} {b : Nat} (x y : Int) (hx : 0 ≤ x ∧ x ≤ 1000000000000) (hy : 0 ≤ y ∧ y ≤ 1000000000000) (hb : b = w.heap.size) : RowsAt (((w.alloc (.cells #[.int .i64 x] 3)).alloc (.cells #[.int .i64 y] 3)).alloc (.cells #[.slice (some ⟨b, 0, none⟩) 1 1, .slice (some ⟨b + 1, 0, none⟩) 1 1] 22)) (some ⟨b + 1 + 1, 0, none⟩) 2 2 (tabL (fun i _ => if i = 0 then x else y) 1 2) := by
  subst hb
  have h0 : IntsAt (w.alloc (.cells [Value.int .i64 x].toArray 3)) (some ⟨w.heap.size, 0, none⟩) 1 1 [x] := ints_lit [x] rfl rfl rfl (fun z hz => by simp at hz; subst hz; omega) (by omega)
  have h1 : IntsAt ((w.alloc (.cells [Value.int .i64 x].toArray 3)).alloc (.cells [Value.int .i64 y].toArray 3)) (some ⟨w.heap.size + 1, 0, none⟩) 1 1 [y] := ints_lit [y] (by simp) rfl rfl (fun z hz => by simp at hz; subst hz; omega) (by omega)
  refine ⟨rfl, Nat.le_refl _, by omega, fun _ => ⟨w.heap.size + 1 + 1, 0, rfl, by simp, fun i hi => ?_⟩⟩
  match i, hi with
  | 0, _ => exact ⟨_, 1, 1, by go_simp, (h0.alloc _).alloc _⟩
  | 1, _ => exact ⟨_, 1, 1, by go_simp, h1.alloc _⟩
set_option linter.unusedVariables false
set_option maxHeartbeats 16000000 in
theorem core (m n : Nat) (mb : 1 ≤ m ∧ m ≤ 32) (nb : 1 ≤ n ∧ n ≤ 4) (F : List (Int × Int) → Nat → Nat → Int) (L M : List (Int × Int)) (cL cM : Int) (a0 a1 : Int) (a2 : Option Addr) (len2 cap2 : Nat) (a3 : Option Addr) (len3 cap3 : Nat) (w : World)
    (m2 : cap2 ≤ 9223372036854775807 ∧ len2 ≤ cap2) (m3 : cap3 ≤ 9223372036854775807 ∧ len3 ≤ cap3) (hLM : L.length ≤ 60 ∧ M.length ≤ 60)
    (h1 : ∀ (W : World) (a : Option Addr), RowsAt W a 2 2 (tabL (fun i _ => if i = 0 then (3 : Int) else 2) 1 2) → Calls Try.prog 24 #[.agg #[.int .i64 1, .slice a 2 2], .int .i64 5] W fun e w' => e = .returned (.tuple #[.int .i64 2, .int .i64 0]) ∧ Below W.heap.size W w')
    (h2 : ∀ W, Below w.heap.size w W → Calls Try.prog 28 #[.slice a2 len2 cap2, .int .i64 1000] W fun e w' => ∃ v, e = .returned (.tuple #[v, .int .i64 cL]) ∧ w'.ownsRow W.heap.size 64 2 v L.length (cntV L) ∧ Below W.heap.size W w')
    (h3 : ∀ W, Below w.heap.size w W → Calls Try.prog 28 #[.slice a3 len3 cap3, .int .i64 1000] W fun e w' => ∃ v, e = .returned (.tuple #[v, .int .i64 cM]) ∧ w'.ownsRow W.heap.size 64 2 v M.length (cntV M) ∧ Below W.heap.size W w')
    (h4 : ∀ W, Calls Try.prog 30 #[.int .i64 a0, .int .i64 a1] W fun e w' => ∃ g cp, e = .returned (.agg #[.int .i64 (m : Nat), .slice (some ⟨g, 0, none⟩) n cp]) ∧ RowsAt w' (some ⟨g, 0, none⟩) n cp (tabL (F []) m n) ∧ Below W.heap.size W w')
    (h5 : ∀ a c al nl cl K W, (K = L ∨ K = M ∨ K = L ++ M ∨ K = M ++ L) → RowsAt W a n c (tabL (F []) m n) → CntAt W al nl cl K → Calls Try.prog 29 #[.agg #[.int .i64 (m : Nat), .slice a n c], .slice al nl cl] W fun e w' => ∃ a' c', e = .returned (.tuple #[.agg #[.int .i64 (m : Nat), .slice a' n c'], .bool true]) ∧ RowsAt w' a' n c' (tabL (F K) m n) ∧ Below W.heap.size W w')
    (h6 : ∀ a c a' c' K K' W, (K = L ∧ K' = M ∨ K = M ∧ K' = L) → RowsAt W a n c (tabL (F K) m n) → RowsAt W a' n c' (tabL (F K') m n) → Calls Try.prog 40 #[.agg #[.int .i64 (m : Nat), .slice a n c], .agg #[.int .i64 (m : Nat), .slice a' n c']] W fun e w' => ∃ g cp, e = .returned (.tuple #[.agg #[.int .i64 (m : Nat), .slice (some ⟨g, 0, none⟩) n cp], .int .i64 0]) ∧ RowsAt w' (some ⟨g, 0, none⟩) n cp (tabL (F (L ++ M)) m n) ∧ Below W.heap.size W w')
    (h7 : ∀ a c a' c' W, RowsAt W a n c (tabL (F (L ++ M)) m n) → RowsAt W a' n c' (tabL (F (L ++ M)) m n) → Calls Try.prog 27 #[.agg #[.int .i64 (m : Nat), .slice a n c], .agg #[.int .i64 (m : Nat), .slice a' n c']] W fun e w' => e = .returned (.bool true) ∧ Below W.heap.size W w')
    (e1 : F (M ++ L) = F (L ++ M)) :
    Calls Try.prog 12 #[.int .i64 a0, .int .i64 a1, .slice a2 len2 cap2, .slice a3 len3 cap3] w fun e w' => e = .returned (.bool true) ∧ Below w.heap.size w w' := by
  have C1 := hidp h1
  have C2 := hidp h2
  have C3 := hidp h3
  have C4 := hidp h4
  have C5 := hidp h5
  have C6 := hidp h6
  have C7 := hidp h7
  have E1 := hidp e1
  clear h1 h2 h3 h4 h5 h6 h7 e1
  go_enter Try.func12, Try.ntmps12
  go_wp2_with fail
  have hb0 : Below w.heap.size w (((w.alloc (.cells #[.int .i64 3] 3)).alloc (.cells #[.int .i64 2] 3)).alloc (.cells #[.slice (some ⟨w.heap.size, 0, none⟩) 1 1, .slice (some ⟨w.heap.size + 1, 0, none⟩) 1 1] 22)) := bal (bal (bal (Below.refl _ _) _) _) _
  refine (C1.out _ _ (lit12 3 2 (by omega) (by omega) rfl)).mono ?_
  rintro e v0 ⟨rfl, hb⟩
  have hw0 := bstep hb0 hb
  clear hb0 hb
  go_wp2_with fail
  refine (C2.out _ hw0).mono ?_
  rintro e v1 ⟨v, rfl, hv, hb⟩
  obtain ⟨al, cl, rfl, hl⟩ := owns_cnts hv
  have hw1 := bstep hw0 hb
  clear hw0
  have HL := hidp hl
  clear hb hv hl
  go_wp2_with fail
  refine (C3.out _ hw1).mono ?_
  rintro e v2 ⟨v, rfl, hv, hb⟩
  obtain ⟨am, cm, rfl, hl⟩ := owns_cnts hv
  replace HL := hidp (HL.out.below hb)
  have hw2 := bstep hw1 hb
  clear hw1
  have HM := hidp hl
  clear hb hv hl
  go_wp2_with fail
  refine (C4.out _).mono ?_
  rintro e v3 ⟨g, p, rfl, hr, hb⟩
  replace HL := hidp (HL.out.below hb)
  replace HM := hidp (HM.out.below hb)
  have hw3 := bstep hw2 hb
  clear hw2
  have HR := hidp hr
  clear hb hr
  go_wp2_with fail
  refine (C5.out _ _ _ _ _ L _ (.inl rfl) HR.out HL.out).mono ?_
  rintro e vta ⟨ata, cta, rfl, hr, hb⟩
  clear HR
  have hx : Below v3.heap.size v3 (vta.alloc (.cells #[.int .i64 (m : Nat), .slice ata n cta] 44)) := bal hb _
  replace HL := hidp (HL.out.below hx)
  replace HM := hidp (HM.out.below hx)
  have hw4 := bstep hw3 hx
  clear hw3
  have ta0 : (vta.alloc (.cells #[.int .i64 (m : Nat), .slice ata n cta] 44)).cell? ⟨vta.heap.size, 0, none⟩ = some (.int .i64 (m : Nat)) := by go_simp
  have ta1 : (vta.alloc (.cells #[.int .i64 (m : Nat), .slice ata n cta] 44)).cell? ⟨vta.heap.size, 1, none⟩ = some (.slice ata n cta) := by go_simp
  have Hta := hidp (hr.below (bal (Below.refl _ _) (.cells #[.int .i64 (m : Nat), .slice ata n cta] 44)))
  clear hb hx hr
  go_upto_region 7 with fail
  generalize (vta.alloc (.cells #[.int .i64 (m : Nat), .slice ata n cta] 44)) = v4 at *
  generalize vta.heap.size = Pta at *
  go_wp2_with fail
  refine (C4.out _).mono ?_
  rintro e v5 ⟨g, p, rfl, hr, hb⟩
  replace ta0 := ck hb ta0
  replace ta1 := ck hb ta1
  replace Hta := hidp (Hta.out.below hb)
  replace HL := hidp (HL.out.below hb)
  replace HM := hidp (HM.out.below hb)
  have hw5 := bstep hw4 hb
  clear hw4
  have HR := hidp hr
  clear hb hr
  go_wp2_with fail
  refine (C5.out _ _ _ _ _ M _ (.inr (.inl rfl)) HR.out HM.out).mono ?_
  rintro e vtb ⟨atb, ctb, rfl, hr, hb⟩
  clear HR
  have hx : Below v5.heap.size v5 (vtb.alloc (.cells #[.int .i64 (m : Nat), .slice atb n ctb] 44)) := bal hb _
  replace ta0 := ck hx ta0
  replace ta1 := ck hx ta1
  replace Hta := hidp (Hta.out.below hx)
  replace HL := hidp (HL.out.below hx)
  replace HM := hidp (HM.out.below hx)
  have hw6 := bstep hw5 hx
  clear hw5
  have tb0 : (vtb.alloc (.cells #[.int .i64 (m : Nat), .slice atb n ctb] 44)).cell? ⟨vtb.heap.size, 0, none⟩ = some (.int .i64 (m : Nat)) := by go_simp
  have tb1 : (vtb.alloc (.cells #[.int .i64 (m : Nat), .slice atb n ctb] 44)).cell? ⟨vtb.heap.size, 1, none⟩ = some (.slice atb n ctb) := by go_simp
  have Htb := hidp (hr.below (bal (Below.refl _ _) (.cells #[.int .i64 (m : Nat), .slice atb n ctb] 44)))
  clear hb hx hr
  go_upto_region 8 with fail
  generalize (vtb.alloc (.cells #[.int .i64 (m : Nat), .slice atb n ctb] 44)) = v6 at *
  generalize vtb.heap.size = Ptb at *
  go_wp2_with fail
  refine (C4.out _).mono ?_
  rintro e v7 ⟨g, p, rfl, hr, hb⟩
  replace ta0 := ck hb ta0
  replace ta1 := ck hb ta1
  replace Hta := hidp (Hta.out.below hb)
  replace tb0 := ck hb tb0
  replace tb1 := ck hb tb1
  replace Htb := hidp (Htb.out.below hb)
  replace HL := hidp (HL.out.below hb)
  replace HM := hidp (HM.out.below hb)
  have hw7 := bstep hw6 hb
  clear hw6
  have HR := hidp hr
  clear hb hr
  go_wp2_with fail
  refine (concatc2_c al am L.length M.length cl cm L M v7 HL.out HM.out (by omega)).mono ?_
  rintro e v8 ⟨ja, jc, rfl, hj, hb⟩
  replace HR := hidp (HR.out.below hb)
  replace ta0 := ck hb ta0
  replace ta1 := ck hb ta1
  replace Hta := hidp (Hta.out.below hb)
  replace tb0 := ck hb tb0
  replace tb1 := ck hb tb1
  replace Htb := hidp (Htb.out.below hb)
  replace HL := hidp (HL.out.below hb)
  replace HM := hidp (HM.out.below hb)
  have hw8 := bstep hw7 hb
  clear hw7
  have HJ := hidp hj
  clear hb hj
  go_wp2_with fail
  refine (C5.out _ _ _ _ _ (L ++ M) _ (.inr (.inr (.inl rfl))) HR.out HJ.out).mono ?_
  rintro e vtd ⟨atd, ctd, rfl, hr, hb⟩
  clear HR HJ
  have hx : Below v8.heap.size v8 (vtd.alloc (.cells #[.int .i64 (m : Nat), .slice atd n ctd] 44)) := bal hb _
  replace ta0 := ck hx ta0
  replace ta1 := ck hx ta1
  replace Hta := hidp (Hta.out.below hx)
  replace tb0 := ck hx tb0
  replace tb1 := ck hx tb1
  replace Htb := hidp (Htb.out.below hx)
  replace HL := hidp (HL.out.below hx)
  replace HM := hidp (HM.out.below hx)
  have hw9 := bstep hw8 hx
  clear hw8
  have td0 : (vtd.alloc (.cells #[.int .i64 (m : Nat), .slice atd n ctd] 44)).cell? ⟨vtd.heap.size, 0, none⟩ = some (.int .i64 (m : Nat)) := by go_simp
  have td1 : (vtd.alloc (.cells #[.int .i64 (m : Nat), .slice atd n ctd] 44)).cell? ⟨vtd.heap.size, 1, none⟩ = some (.slice atd n ctd) := by go_simp
  have Htd := hidp (hr.below (bal (Below.refl _ _) (.cells #[.int .i64 (m : Nat), .slice atd n ctd] 44)))
  clear hb hx hr
  go_upto_region 9 with fail
  generalize (vtd.alloc (.cells #[.int .i64 (m : Nat), .slice atd n ctd] 44)) = v9 at *
  generalize vtd.heap.size = Ptd at *
  go_wp2_with fail
  refine (C4.out _).mono ?_
  rintro e v10 ⟨g, p, rfl, hr, hb⟩
  replace ta0 := ck hb ta0
  replace ta1 := ck hb ta1
  replace Hta := hidp (Hta.out.below hb)
  replace tb0 := ck hb tb0
  replace tb1 := ck hb tb1
  replace Htb := hidp (Htb.out.below hb)
  replace td0 := ck hb td0
  replace td1 := ck hb td1
  replace Htd := hidp (Htd.out.below hb)
  replace HL := hidp (HL.out.below hb)
  replace HM := hidp (HM.out.below hb)
  have hw10 := bstep hw9 hb
  clear hw9
  have HR := hidp hr
  clear hb hr
  go_wp2_with fail
  refine (concatc2_c am al M.length L.length cm cl M L v10 HM.out HL.out (by omega)).mono ?_
  rintro e v11 ⟨ja, jc, rfl, hj, hb⟩
  replace HR := hidp (HR.out.below hb)
  replace ta0 := ck hb ta0
  replace ta1 := ck hb ta1
  replace Hta := hidp (Hta.out.below hb)
  replace tb0 := ck hb tb0
  replace tb1 := ck hb tb1
  replace Htb := hidp (Htb.out.below hb)
  replace td0 := ck hb td0
  replace td1 := ck hb td1
  replace Htd := hidp (Htd.out.below hb)
  replace HL := hidp (HL.out.below hb)
  replace HM := hidp (HM.out.below hb)
  have hw11 := bstep hw10 hb
  clear hw10
  have HJ := hidp hj
  clear hb hj
  go_wp2_with fail
  refine (C5.out _ _ _ _ _ (M ++ L) _ (.inr (.inr (.inr rfl))) HR.out HJ.out).mono ?_
  rintro e vto ⟨ato, cto, rfl, hr, hb⟩
  clear HR HJ
  have hx : Below v11.heap.size v11 (vto.alloc (.cells #[.int .i64 (m : Nat), .slice ato n cto] 44)) := bal hb _
  replace ta0 := ck hx ta0
  replace ta1 := ck hx ta1
  replace Hta := hidp (Hta.out.below hx)
  replace tb0 := ck hx tb0
  replace tb1 := ck hx tb1
  replace Htb := hidp (Htb.out.below hx)
  replace td0 := ck hx td0
  replace td1 := ck hx td1
  replace Htd := hidp (Htd.out.below hx)
  replace HL := hidp (HL.out.below hx)
  replace HM := hidp (HM.out.below hx)
  have hw12 := bstep hw11 hx
  clear hw11
  have to0 : (vto.alloc (.cells #[.int .i64 (m : Nat), .slice ato n cto] 44)).cell? ⟨vto.heap.size, 0, none⟩ = some (.int .i64 (m : Nat)) := by go_simp
  have to1 : (vto.alloc (.cells #[.int .i64 (m : Nat), .slice ato n cto] 44)).cell? ⟨vto.heap.size, 1, none⟩ = some (.slice ato n cto) := by go_simp
  have Hto := hidp (hr.below (bal (Below.refl _ _) (.cells #[.int .i64 (m : Nat), .slice ato n cto] 44)))
  clear hb hx hr
  go_upto_region 10 with fail
  generalize (vto.alloc (.cells #[.int .i64 (m : Nat), .slice ato n cto] 44)) = v12 at *
  generalize vto.heap.size = Pto at *
  rw [E1.out] at Hto
  clear HL HM
  go_wp2_with fail
  refine (C6.out _ _ _ _ L M _ (.inl ⟨rfl, rfl⟩) Hta.out Htb.out).mono ?_
  rintro e vtx ⟨atx, ctx, rfl, hr, hb⟩
  have hx : Below v12.heap.size v12 (vtx.alloc (.cells #[.int .i64 (m : Nat), .slice (some ⟨atx, 0, none⟩) n ctx] 44)) := bal hb _
  replace ta0 := ck hx ta0
  replace ta1 := ck hx ta1
  replace Hta := hidp (Hta.out.below hx)
  replace tb0 := ck hx tb0
  replace tb1 := ck hx tb1
  replace Htb := hidp (Htb.out.below hx)
  replace td0 := ck hx td0
  replace td1 := ck hx td1
  replace Htd := hidp (Htd.out.below hx)
  replace to0 := ck hx to0
  replace to1 := ck hx to1
  replace Hto := hidp (Hto.out.below hx)
  have hw13 := bstep hw12 hx
  clear hw12
  have tx0 : (vtx.alloc (.cells #[.int .i64 (m : Nat), .slice (some ⟨atx, 0, none⟩) n ctx] 44)).cell? ⟨vtx.heap.size, 0, none⟩ = some (.int .i64 (m : Nat)) := by go_simp
  have tx1 : (vtx.alloc (.cells #[.int .i64 (m : Nat), .slice (some ⟨atx, 0, none⟩) n ctx] 44)).cell? ⟨vtx.heap.size, 1, none⟩ = some (.slice (some ⟨atx, 0, none⟩) n ctx) := by go_simp
  have Htx := hidp (hr.below (bal (Below.refl _ _) (.cells #[.int .i64 (m : Nat), .slice (some ⟨atx, 0, none⟩) n ctx] 44)))
  clear hb hx hr
  go_upto_region 11 with fail
  generalize (vtx.alloc (.cells #[.int .i64 (m : Nat), .slice (some ⟨atx, 0, none⟩) n ctx] 44)) = v13 at *
  generalize vtx.heap.size = Ptx at *
  go_wp2_with fail
  refine (C6.out _ _ _ _ M L _ (.inr ⟨rfl, rfl⟩) Htb.out Hta.out).mono ?_
  rintro e vty ⟨aty, cty, rfl, hr, hb⟩
  have hx : Below v13.heap.size v13 (vty.alloc (.cells #[.int .i64 (m : Nat), .slice (some ⟨aty, 0, none⟩) n cty] 44)) := bal hb _
  replace ta0 := ck hx ta0
  replace ta1 := ck hx ta1
  replace Hta := hidp (Hta.out.below hx)
  replace tb0 := ck hx tb0
  replace tb1 := ck hx tb1
  replace Htb := hidp (Htb.out.below hx)
  replace td0 := ck hx td0
  replace td1 := ck hx td1
  replace Htd := hidp (Htd.out.below hx)
  replace to0 := ck hx to0
  replace to1 := ck hx to1
  replace Hto := hidp (Hto.out.below hx)
  replace tx0 := ck hx tx0
  replace tx1 := ck hx tx1
  replace Htx := hidp (Htx.out.below hx)
  have hw14 := bstep hw13 hx
  clear hw13
  have ty0 : (vty.alloc (.cells #[.int .i64 (m : Nat), .slice (some ⟨aty, 0, none⟩) n cty] 44)).cell? ⟨vty.heap.size, 0, none⟩ = some (.int .i64 (m : Nat)) := by go_simp
  have ty1 : (vty.alloc (.cells #[.int .i64 (m : Nat), .slice (some ⟨aty, 0, none⟩) n cty] 44)).cell? ⟨vty.heap.size, 1, none⟩ = some (.slice (some ⟨aty, 0, none⟩) n cty) := by go_simp
  have Hty := hidp (hr.below (bal (Below.refl _ _) (.cells #[.int .i64 (m : Nat), .slice (some ⟨aty, 0, none⟩) n cty] 44)))
  clear hb hx hr
  go_upto_region 12 with fail
  generalize (vty.alloc (.cells #[.int .i64 (m : Nat), .slice (some ⟨aty, 0, none⟩) n cty] 44)) = v14 at *
  generalize vty.heap.size = Pty at *
  go_wp2_with fail
  refine (C7.out _ _ _ _ _ Htx.out Htd.out).mono ?_
  rintro e v15 ⟨rfl, hb⟩
  replace ta0 := ck hb ta0
  replace ta1 := ck hb ta1
  replace Hta := hidp (Hta.out.below hb)
  replace tb0 := ck hb tb0
  replace tb1 := ck hb tb1
  replace Htb := hidp (Htb.out.below hb)
  replace td0 := ck hb td0
  replace td1 := ck hb td1
  replace Htd := hidp (Htd.out.below hb)
  replace to0 := ck hb to0
  replace to1 := ck hb to1
  replace Hto := hidp (Hto.out.below hb)
  replace tx0 := ck hb tx0
  replace tx1 := ck hb tx1
  replace Htx := hidp (Htx.out.below hb)
  replace ty0 := ck hb ty0
  replace ty1 := ck hb ty1
  replace Hty := hidp (Hty.out.below hb)
  have hw15 := bstep hw14 hb
  clear hw14
  clear hb
  go_wp2_with fail
  refine (C7.out _ _ _ _ _ Hty.out Htd.out).mono ?_
  rintro e v16 ⟨rfl, hb⟩
  replace ta0 := ck hb ta0
  replace ta1 := ck hb ta1
  replace Hta := hidp (Hta.out.below hb)
  replace tb0 := ck hb tb0
  replace tb1 := ck hb tb1
  replace Htb := hidp (Htb.out.below hb)
  replace td0 := ck hb td0
  replace td1 := ck hb td1
  replace Htd := hidp (Htd.out.below hb)
  replace to0 := ck hb to0
  replace to1 := ck hb to1
  replace Hto := hidp (Hto.out.below hb)
  replace tx0 := ck hb tx0
  replace tx1 := ck hb tx1
  replace Htx := hidp (Htx.out.below hb)
  replace ty0 := ck hb ty0
  replace ty1 := ck hb ty1
  replace Hty := hidp (Hty.out.below hb)
  have hw16 := bstep hw15 hb
  clear hw15
  clear hb
  go_wp2_with fail
  refine (C7.out _ _ _ _ _ Hto.out Htd.out).mono ?_
  rintro e v17 ⟨rfl, hb⟩
  replace ta0 := ck hb ta0
  replace ta1 := ck hb ta1
  replace Hta := hidp (Hta.out.below hb)
  replace tb0 := ck hb tb0
  replace tb1 := ck hb tb1
  replace Htb := hidp (Htb.out.below hb)
  replace td0 := ck hb td0
  replace td1 := ck hb td1
  replace Htd := hidp (Htd.out.below hb)
  replace to0 := ck hb to0
  replace to1 := ck hb to1
  replace Hto := hidp (Hto.out.below hb)
  replace tx0 := ck hb tx0
  replace tx1 := ck hb tx1
  replace Htx := hidp (Htx.out.below hb)
  replace ty0 := ck hb ty0
  replace ty1 := ck hb ty1
  replace Hty := hidp (Hty.out.below hb)
  have hw17 := bstep hw16 hb
  clear hw16
  clear hb
  go_wp2_with fail
  go_ret
  exact ⟨rfl, hw17⟩
set_option maxHeartbeats 4000000 in
theorem walk (a0 a1 : Int) (a2 : Option Addr) (len2 cap2 : Nat) (z2 : List (List Int)) (a3 : Option Addr) (len3 cap3 : Nat) (z3 : List (List Int)) (w : World)
    (w0 : (Lit.int .i64 a0).wf = true) (w1 : (Lit.int .i64 a1).wf = true) (w2 : RowsAt w a2 len2 cap2 z2) (w3 : RowsAt w a3 len3 cap3 z3) :
    Calls Try.prog 12 #[.int .i64 a0, .int .i64 a1, .slice a2 len2 cap2, .slice a3 len3 cap3] w fun e w' => e = .returned (.bool true) ∧ Below w.heap.size w w' := by
  have CM2 := fun W (hB : Below w.heap.size w W) => came_c a2 len2 cap2 z2 1000 W (w2.below hB) (by omega) (by omega)
  have CM3 := fun W (hB : Below w.heap.size w W) => came_c a3 len3 cap3 z3 1000 W (w3.below hB) (by omega) (by omega)
  have BL := camL_bd z2 1000 (by omega) (min len2 60)
  have BM := camL_bd z3 1000 (by omega) (min len3 60)
  have LL : (camL z2 1000 (min len2 60)).length ≤ 60 := Nat.le_trans (camL_len _ _ _) (by omega)
  have LM : (camL z3 1000 (min len3 60)).length ≤ 60 := Nat.le_trans (camL_len _ _ _) (by omega)
  generalize camL z2 1000 (min len2 60) = L at *
  generalize camL z3 1000 (min len3 60) = M at *
  have NL : ∀ p ∈ L, (0 : Int) ≤ p.2 := fun p hp => by have := BL p hp; omega
  have NM : ∀ p ∈ M, (0 : Int) ≤ p.2 := fun p hp => by have := BM p hp; omega
  have SL : 0 ≤ csum L ∧ csum L ≤ 60000 := by
    have := csum_bd 1000 (by omega) L (fun p hp => by have := BL p hp; omega)
    omega
  have SM : 0 ≤ csum M ∧ csum M ≤ 60000 := by
    have := csum_bd 1000 (by omega) M (fun p hp => by have := BM p hp; omega)
    omega
  have mb := twd_bd a0
  have nb := trw_bd a1
  have F0 : cntT (plc (twd a0)) (fun _ _ => 0) [] = fun _ _ => (0 : Int) := by funext i j; simp [cntT, hits]
  have FB : ∀ K : List (Int × Int), (∀ p ∈ K, (0 : Int) ≤ p.2) → ∀ i j, 0 ≤ cntT (plc (twd a0)) (fun _ _ => 0) K i j ∧ cntT (plc (twd a0)) (fun _ _ => 0) K i j ≤ csum K := fun K hK i j => by
    have := hits_bd (plc (twd a0)) i j K hK
    unfold cntT
    show 0 ≤ (0 : Int) + _ ∧ (0 : Int) + _ ≤ _
    omega
  have FA : ∀ K K' : List (Int × Int), (fun i j => cntT (plc (twd a0)) (fun _ _ => 0) K i j + cntT (plc (twd a0)) (fun _ _ => 0) K' i j) = cntT (plc (twd a0)) (fun _ _ => 0) (K ++ K') := fun K K' => by
    funext i j
    unfold cntT
    rw [hits_append]
    show (0 : Int) + _ + ((0 : Int) + _) = (0 : Int) + _
    omega
  have FS : cntT (plc (twd a0)) (fun _ _ => 0) (M ++ L) = cntT (plc (twd a0)) (fun _ _ => (0 : Int)) (L ++ M) := by
    rw [← FA M L, ← FA L M]
    funext i j
    omega
  refine core (twd a0) (trw a1) mb nb (cntT (plc (twd a0)) (fun _ _ => 0)) L M _ _ a0 a1 a2 len2 cap2 a3 len3 cap3 w ⟨w2.max, w2.le⟩ ⟨w3.max, w3.le⟩ ⟨LL, LM⟩ ?_ CM2 CM3 ?_ ?_ ?_ ?_ FS
  · intro W a h
    have hl : tmin (fun i _ => if i = 0 then (3 : Int) else 2) (plc 1 5) 2 = 2 := by simp only [tmin]; omega
    have := task_c 1 a 2 2 (fun i _ => if i = 0 then (3 : Int) else 2) 5 W h (tabL_ok _ 1 2 (by omega) (by omega) (by omega) (by omega) (fun i j _ _ => by split <;> omega))
    rw [hl] at this
    exact this
  · intro W
    rw [F0]
    exact rows_c a0 a1 W
  · intro a c al nl cl K W hK h hL
    have hKN : ∀ p ∈ K, (0 : Int) ≤ p.2 := by
      rcases hK with rfl | rfl | rfl | rfl
      · exact NL
      · exact NM
      · intro p hp; rcases List.mem_append.1 hp with h | h
        · exact NL p h
        · exact NM p h
      · intro p hp; rcases List.mem_append.1 hp with h | h
        · exact NM p h
        · exact NL p h
    have hKS : csum K ≤ 120000 := by
      rcases hK with rfl | rfl | rfl | rfl
      · omega
      · omega
      · rw [csum_append]; omega
      · rw [csum_append]; omega
    rw [F0] at h
    exact counted_c (twd a0) a (trw a1) c (fun _ _ => 0) al nl cl K W h hL mb.1 mb.2 nb.1 nb.2 (fun i j _ _ => by omega) hKN
  · intro a c a' c' K K' W hK h h'
    have key : ∀ K K' : List (Int × Int), (∀ p ∈ K, (0 : Int) ≤ p.2) → (∀ p ∈ K', (0 : Int) ≤ p.2) → csum K ≤ 60000 → csum K' ≤ 60000 → RowsAt W a (trw a1) c (tabL (cntT (plc (twd a0)) (fun _ _ => 0) K) (twd a0) (trw a1)) → RowsAt W a' (trw a1) c' (tabL (cntT (plc (twd a0)) (fun _ _ => 0) K') (twd a0) (trw a1)) → Calls Try.prog 40 #[.agg #[.int .i64 ((twd a0 : Nat) : Int), .slice a (trw a1) c], .agg #[.int .i64 ((twd a0 : Nat) : Int), .slice a' (trw a1) c']] W fun e w' => ∃ g cp, e = .returned (.tuple #[.agg #[.int .i64 ((twd a0 : Nat) : Int), .slice (some ⟨g, 0, none⟩) (trw a1) cp], .int .i64 0]) ∧ RowsAt w' (some ⟨g, 0, none⟩) (trw a1) cp (tabL (cntT (plc (twd a0)) (fun _ _ => 0) (K ++ K')) (twd a0) (trw a1)) ∧ Below W.heap.size W w' := fun K K' hN hN' hS hS' h h' => by
      rw [← FA K K']
      exact tjoin_c (twd a0) a a' (trw a1) c c' _ _ W h (tabL_ok _ _ _ mb.1 mb.2 nb.1 nb.2 (fun i j _ _ => by have := FB K hN i j; omega)) h' (tabL_ok _ _ _ mb.1 mb.2 nb.1 nb.2 (fun i j _ _ => by have := FB K' hN' i j; omega)) (fun i j _ _ => by have := FB K hN i j; have := FB K' hN' i j; omega)
    rcases hK with ⟨rfl, rfl⟩ | ⟨rfl, rfl⟩
    · exact key K K' NL NM (by omega) (by omega) h h'
    · have := key K K' NM NL (by omega) (by omega) h h'
      rw [FS] at this
      exact this
  · intro a c a' c' W h h'
    exact samet_c (twd a0) a a' (trw a1) c c' _ W h h' mb.1 nb.1 (by omega)
end Go.Proofs.Ytpghnbpoodcglaa.tableJoins
