/- The walk of FewJoin: the law returns true at all inputs, and no old memory changes. -/
import Derived.Test.YtlikpakjjaeblaaFewKit
import Derived.Test.YtlikpakjjaeblaaFewJoin
import Derived.Test.YtlikpakjjaeblaaConcatC
namespace Go.Proofs.Ytlikpakjjaeblaa.fewJoin
open Go.ChangeShapes Go.WideShapes Go.ChangeAt Go.RowKit
open Go.Proofs.Ytlikpakjjaeblaa
set_option maxRecDepth 20000
theorem okA : FewOk 1 (0, [((5 : Int), (3 : Int))]) := ⟨by omega, by omega, by show (0 : Int) ≤ 0; omega, by show (0 : Int) ≤ _; omega, by simp, by simp [KRise], by simp, by simp⟩
theorem okB : FewOk 1 (0, [((6 : Int), (2 : Int))]) := ⟨by omega, by omega, by show (0 : Int) ≤ 0; omega, by show (0 : Int) ≤ _; omega, by simp, by simp [KRise], by simp, by simp⟩
theorem okR : FewOk 1 (2, [((5 : Int), (1 : Int))]) := ⟨by omega, by omega, by show (0 : Int) ≤ 2; omega, by show (2 : Int) ≤ _; omega, by simp, by simp [KRise], by simp, by simp⟩
theorem joinR : fjoinR 1 (0, [((5 : Int), (3 : Int))]) (0, [(6, 2)]) = (2, [(5, 1)]) := by
  have hj : kjoin [((5 : Int), (3 : Int))] [(6, 2)] = [(5, 3), (6, 2)] := by decide
  have hs : srtI [3, 2] = [2, 3] := by
    unfold srtI
    simp [List.mergeSort, List.MergeSort.Internal.splitInTwo]
  have hd : dj 1 [((5 : Int), (3 : Int)), (6, 2)] = 2 := by
    unfold dj
    show gi (srtI [3, 2]) 0 = 2
    rw [hs]; rfl
  unfold fjoinR fjoin
  show (if 1 < (kjoin [((5 : Int), (3 : Int))] [(6, 2)]).length then (0 + 0 + dj 1 (kjoin [((5 : Int), (3 : Int))] [(6, 2)]), kless (dj 1 (kjoin [((5 : Int), (3 : Int))] [(6, 2)])) (kjoin [((5 : Int), (3 : Int))] [(6, 2)])) else _) = _
  rw [hj, hd]
  decide
theorem cnt_set3 {W : World} {a : Option Addr} {n c : Nat} {L : List (Int × Int)} (h : CntAt W a n c L) (Q : Nat) (hne : ∀ b o, a = some ⟨b, o, none⟩ → b ≠ Q) (x0 x1 x2 : Value) : CntAt (((W.setCell ⟨Q, 0, none⟩ x0).setCell ⟨Q, 1, none⟩ x1).setCell ⟨Q, 2, none⟩ x2) a n c L :=
  ((h.setCell ⟨Q, 0, none⟩ hne x0).setCell ⟨Q, 1, none⟩ hne x1).setCell ⟨Q, 2, none⟩ hne x2
theorem qs_set3 {W : World} {Q R : Nat} {K l : Int} {v : Value} (h : QS W R K l v) (hne : R ≠ Q) (x0 x1 x2 : Value) : QS (((W.setCell ⟨Q, 0, none⟩ x0).setCell ⟨Q, 1, none⟩ x1).setCell ⟨Q, 2, none⟩ x2) R K l v :=
  ⟨coff3 h.q0 hne, coff3 h.q1 hne, coff3 h.q2 hne, fun o => frs3 (h.fq o)⟩
theorem qs_put3 {W : World} {Q : Nat} {K l : Int} {v : Value} (h : QS W Q K l v) (k2 l2 : Int) (v2 : Value) : QS (((W.setCell ⟨Q, 0, none⟩ (.int .i64 k2)).setCell ⟨Q, 1, none⟩ (.int .i64 l2)).setCell ⟨Q, 2, none⟩ v2) Q k2 l2 v2 :=
  ⟨(res3 _ _ _ h.q0 h.q1 h.q2).1, (res3 _ _ _ h.q0 h.q1 h.q2).2.1, (res3 _ _ _ h.q0 h.q1 h.q2).2.2, fun o => frs3 (h.fq o)⟩
theorem qs_new (W : World) (K l : Int) (v : Value) (h1 : v.oneCell' = true) (hv : v.cells = #[v]) : QS (W.alloc (.cells #[.int .i64 K, .int .i64 l, v] 45)) W.heap.size K l v :=
  ⟨by go_simp, by go_simp, by go_simp, fun o => by go_simp⟩
theorem concatc2_o (aa ab : Option Addr) (LA LB ca cb : Nat) (A B : List (Int × Int)) (W : World) (hA : CntAt W aa LA ca A) (hB : CntAt W ab LB cb B) (hL : LA + LB ≤ 100000) :
    Calls Try.prog 34 #[.slice (some ⟨W.heap.size, 0, none⟩) 2 2] (W.alloc (.cells #[.slice aa LA ca, .slice ab LB cb] 43)) fun e w' => ∃ v, e = .returned v ∧ w'.ownsRow W.heap.size 51 2 v (LA + LB) (cntV (A ++ B)) ∧ Below W.heap.size W w' := by
  have hR : RwsC (W.alloc (.cells #[.slice aa LA ca, .slice ab LB cb] 43)) W.heap.size 0 2 (pickC aa ab) (pickC LA LB) (pickC ca cb) (pickC A B) :=
    ⟨by simp, fun i hi => match i, hi with
      | 0, _ => by unfold World.cell?; rw [heap_alloc_new]; rfl
      | 1, _ => by unfold World.cell?; rw [heap_alloc_new]; rfl,
     fun i hi => match i, hi with
      | 0, _ => hA.below ((Below.refl _ _).alloc (Nat.le_refl _) _)
      | 1, _ => hB.below ((Below.refl _ _).alloc (Nat.le_refl _) _)⟩
  have hsum : sumNC (pickC LA LB) 2 = LA + LB := by simp [sumNC, pickC]
  have hcat : catLC (pickC A B) 2 = A ++ B := by simp [catLC, pickC]
  have CC := concatc_c W.heap.size 0 2 2 _ _ _ _ _ hR (by omega) (by omega) (by rw [hsum]; omega)
  rw [hsum, hcat] at CC
  refine CC.mono ?_
  rintro e w' ⟨v, rfl, hv, hb⟩
  exact ⟨v, rfl, owns_mono hv (by simp), bstep (bal (Below.refl _ _) _) hb⟩
set_option linter.unusedVariables false
set_option maxHeartbeats 16000000 in
theorem walk (a0 : Int) (a1 : Option Addr) (n1 c1 : Nat) (zs : List (List Int)) (a2 : Option Addr) (n2 c2 : Nat) (ys : List (List Int)) (a3 : Int) (w : World)
    (w0 : (Lit.int .i64 a0).wf = true) (w1 : RowsAt w a1 n1 c1 zs) (w2 : RowsAt w a2 n2 c2 ys) (w3 : (Lit.int .i64 a3).wf = true) :
    Calls Try.prog 11 #[.int .i64 a0, .slice a1 n1 c1, .slice a2 n2 c2, .int .i64 a3] w fun e w' => e = .returned (.bool true) ∧ Below w.heap.size w w' := by
  have P0 := fjoin_c 1 (0, [(5, 3)]) (0, [(6, 2)]) (some ⟨w.heap.size, 0, none⟩) 1 1 (some ⟨w.heap.size + 1, 0, none⟩) 1 1 ((w.alloc (.cells #[.int .i64 5, .int .i64 3] 51)).alloc (.cells #[.int .i64 6, .int .i64 2] 51)) ((cnt_lit w 5 3).below (bal (Below.refl _ _) _)) (by
    have := cnt_lit (w.alloc (.cells #[.int .i64 5, .int .i64 3] 51)) 6 2
    simpa using this) okA okB (by simp [csum]) (by rw [joinR]; exact okR)
  rw [joinR] at P0
  have P1 := hidp P0
  clear P0
  have CM := hidp (fun W (hB : Below w.heap.size w W) => came_c a1 n1 c1 zs 1000 W (w1.below hB) (by omega) (by omega))
  have CO := hidp (fun W (hB : Below w.heap.size w W) => came_c a2 n2 c2 ys 1000 W (w2.below hB) (by omega) (by omega))
  have x1 := w1.max
  have x2 := w1.le
  have x3 := w2.max
  have x4 := w2.le
  have b3 := wf_bd w3
  have CB := hidp (camL_bd zs 1000 (by omega) (min n1 60))
  have CK := hidp (cam_keys zs 1000 (row_keys w1) (min n1 60))
  have CL := hidp (show (camL zs 1000 (min n1 60)).length ≤ 60 from Nat.le_trans (camL_len _ _ _) (by omega))
  have DB := hidp (camL_bd ys 1000 (by omega) (min n2 60))
  have DK := hidp (cam_keys ys 1000 (row_keys w2) (min n2 60))
  have DL := hidp (show (camL ys 1000 (min n2 60)).length ≤ 60 from Nat.le_trans (camL_len _ _ _) (by omega))
  generalize camL zs 1000 (min n1 60) = C at *
  generalize camL ys 1000 (min n2 60) = D at *
  have CN1 := hidp (fun p (hp : p ∈ C) => show (1 : Int) ≤ p.2 by have := CB.out p hp; omega)
  have DN1 := hidp (fun p (hp : p ∈ D) => show (1 : Int) ≤ p.2 by have := DB.out p hp; omega)
  have hcs : 0 ≤ csum C ∧ csum C ≤ 60000 := by
    have := csum_bd 1000 (by omega) C (fun p hp => by have := CB.out p hp; omega)
    have := CL.out
    omega
  have hds : 0 ≤ csum D ∧ csum D ≤ 60000 := by
    have := csum_bd 1000 (by omega) D (fun p hp => by have := DB.out p hp; omega)
    have := DL.out
    omega
  obtain ⟨K, hK⟩ : ∃ K : Nat, 1 + ((wn a0 16 : Nat) : Int) = (K : Int) := ⟨1 + wn a0 16, by push_cast; rfl⟩
  have k0 := wn_lt a0 16 (by omega)
  have k1 : 1 ≤ K := by omega
  have k2 : K ≤ 16 := by omega
  have IS1 := fewL_is K C CN1.out
  have IS2 := fewL_is K D DN1.out
  have HC1 := hidp (fun al cl W (h : CntAt W al C.length cl C) => heard_c K al C.length cl C W h k1 k2 CN1.out (by omega))
  have HC2 := hidp (fun al cl W (h : CntAt W al D.length cl D) => heard_c K al D.length cl D W h k1 k2 DN1.out (by omega))
  obtain ⟨F1, hF1⟩ : ∃ F, F = fewL K C := ⟨_, rfl⟩
  obtain ⟨F2, hF2⟩ : ∃ F, F = fewL K D := ⟨_, rfl⟩
  rw [← hF1] at IS1 HC1
  rw [← hF2] at IS2 HC2
  have OK1 := IS1.ok k1 k2 (by omega)
  have OK2 := IS2.ok k1 k2 (by omega)
  have IS := fjoinR_is K C D F1 F2 IS1 IS2
  have hCD : csum (C ++ D) = csum C + csum D := csum_append D C
  have OK := hidp (IS.ok k1 k2 (by omega))
  have hcm := fjoinR_comm K C D F1 F2 IS1 IS2
  have hS1 : csum F1.2 + csum F2.2 ≤ 4000000000000 := by
    have a := IS1.all
    have b := IS2.all
    have c : 0 ≤ F1.1 * ((K : Int) + 1) := Int.mul_nonneg IS1.l0 (by omega)
    have d : 0 ≤ F2.1 * ((K : Int) + 1) := Int.mul_nonneg IS2.l0 (by omega)
    omega
  have JA := hidp (fun a n c a' n' c' W (h : CntAt W a n c F1.2) (h' : CntAt W a' n' c' F2.2) => fjoin_c K F1 F2 a n c a' n' c' W h h' OK1 OK2 hS1 OK.out)
  have JB := hidp (fun a n c a' n' c' W (h : CntAt W a n c F2.2) (h' : CntAt W a' n' c' F1.2) => fjoin_c K F2 F1 a n c a' n' c' W h h' OK2 OK1 (by omega) (by rw [← hcm]; exact OK.out))
  rw [← hcm] at JB
  obtain ⟨F, hF⟩ : ∃ F, F = fjoinR K F1 F2 := ⟨_, rfl⟩
  rw [← hF] at IS OK JA JB
  have NE := hidp IS.near
  have AK := hidp (fun a n c k W (h : CntAt W a n c F.2) => fask_c K F a n c k W h OK.out)
  have hall := IS.all
  have hl0 := IS.l0
  have hlost := IS.lost
  have hln := IS.ln
  have hpos := csum_nn F.2 (fun p hp => by have := IS.pos p hp; omega)
  rw [hCD] at hall hlost
  clear hF hF1 hF2 IS IS1 IS2 OK1 OK2 hcm hS1 OK
  obtain ⟨lost, L⟩ := F
  obtain ⟨lo1, L1⟩ := F1
  obtain ⟨lo2, L2⟩ := F2
  dsimp only at *
  have hm1 : lost * ((K : Int) + 1) ≤ csum C + csum D := by omega
  have hm0 : 0 ≤ lost * ((K : Int) + 1) := Int.mul_nonneg hl0 (by omega)
  have hgt : (csum C + csum D < lost * ((K : Int) + 1)) = False := eq_false (by omega)
  have WM : IntKind.i64.wrap (lost * ((K : Int) + 1)) = lost * ((K : Int) + 1) := IntWalk.i64_in _ (by omega)
  have WS : IntKind.i64.wrap (csum C + csum D) = csum C + csum D := IntWalk.i64_in _ (by omega)
  have CDN := hidp (fun p (hp : p ∈ C ++ D) => show (0 : Int) ≤ p.2 by
    rcases List.mem_append.1 hp with h | h
    · have := CN1.out p h; omega
    · have := DN1.out p h; omega)
  have CDK := hidp (fun p (hp : p ∈ C ++ D) => show -9223372036854775808 ≤ p.1 ∧ p.1 ≤ 9223372036854775807 by
    rcases List.mem_append.1 hp with h | h
    · exact CK.out p h
    · exact DK.out p h)
  have HCD := hidp hCD
  clear w0 w1 w2 w3 k0 CB DB hall hCD CK DK
  unfold fewV at *
  go_enter Try.func11, Try.ntmps11
  go_wp2_with fail
  refine P1.out.mono ?_
  rintro e wa ⟨g, n', c', rfl, ⟨hr, _⟩, hba⟩
  have hwa := bstep (bal (bal (Below.refl w.heap.size w) _) _) hba
  obtain rfl : n' = 1 := hr.len.symm
  have HR := hidp (hr.below (bal (bal (Below.refl wa.heap.size wa) (.cells #[.int .i64 1, .int .i64 2, .slice g 1 c'] 45)) (.cells #[.int .i64 5, .int .i64 1] 51)))
  have SF := hidp (samefew_c 1 2 g (some ⟨wa.heap.size + 1, 0, none⟩) 1 c' 1 [(5, 1)] ((wa.alloc (.cells #[.int .i64 1, .int .i64 2, .slice g 1 c'] 45)).alloc (.cells #[.int .i64 5, .int .i64 1] 51)) HR.out (by
    have := cnt_lit (wa.alloc (.cells #[.int .i64 1, .int .i64 2, .slice g 1 c'] 45)) 5 1
    simpa using this))
  have QZ := hidp (show QS ((wa.alloc (.cells #[.int .i64 1, .int .i64 2, .slice g 1 c'] 45)).alloc (.cells #[.int .i64 5, .int .i64 1] 51)) wa.heap.size 1 2 (.slice g 1 c') from ⟨by go_simp, by go_simp, by go_simp, fun o => by go_simp⟩)
  have hwb := bal (bal hwa (.cells #[.int .i64 1, .int .i64 2, .slice g 1 c'] 45)) (.cells #[.int .i64 5, .int .i64 1] 51)
  have hwaz := hwa.size
  clear hr hba hwa HR P1
  unfold fewV at *
  go_wp2_with fail
  refine SF.out.mono ?_
  rintro e wc ⟨rfl, hbc⟩
  have hw0 := bstep hwb hbc
  replace QZ := hidp (QZ.out.below hbc)
  clear hbc hwb SF
  generalize wa.heap.size = Q0 at *
  have hQ0 := ltc QZ.out.q0
  go_wp2_with fail
  refine (withinN_c a0 16 (by omega) (by omega) _).mono ?_
  rintro e w' ⟨rfl, rfl⟩
  go_wp2_with fail
  refine (CM.out _ hw0).mono ?_
  rintro e v0 ⟨v, rfl, hv, hb⟩
  obtain ⟨al, cl, rfl, hl⟩ := owns_cnts hv
  have NA := hidp (show ∀ b o, al = some ⟨b, o, none⟩ → b ≠ Q0 from fun b o e => by have := (owns_far hv b o e).1; omega)
  have XA := hidp hl
  replace QZ := hidp (QZ.out.below hb)
  have hw1 := bstep hw0 hb
  clear hb hv hl hw0 CM hQ0
  have hQ0 := ltc QZ.out.q0
  go_wp2_with fail
  refine (CO.out _ hw1).mono ?_
  rintro e v1 ⟨v, rfl, hv, hb⟩
  obtain ⟨bl, dl, rfl, hl⟩ := owns_cnts hv
  have NB := hidp (show ∀ b o, bl = some ⟨b, o, none⟩ → b ≠ Q0 from fun b o e => by have := (owns_far hv b o e).1; omega)
  have XB := hidp hl
  replace XA := hidp (XA.out.below hb)
  replace QZ := hidp (QZ.out.below hb)
  have hw2 := bstep hw1 hb
  clear hb hv hl hw1 CO hQ0
  have hQ0 := ltc QZ.out.q0
  go_wp2_with fail
  refine (HC1.out _ _ _ XA.out).mono ?_
  rintro e v2 ⟨at_, nt, ct, rfl, hO, hb⟩
  obtain ⟨_, _, he, hr⟩ := owns_cnts hO
  cases he
  have NFA := hidp (show ∀ b o, at_ = some ⟨b, o, none⟩ → b ≠ Q0 from fun b o e => by have := (owns_far hO b o e).1; omega)
  have hx := bal hb (.cells #[.int .i64 (K : Nat), .int .i64 lo1, .slice at_ nt ct] 45)
  have hw3 := bstep hw2 hx
  replace XA := hidp (XA.out.below hx)
  replace XB := hidp (XB.out.below hx)
  replace QZ := hidp (QZ.out.below hx)
  have FA := hidp (hr.below (bal (Below.refl _ _) (.cells #[.int .i64 (K : Nat), .int .i64 lo1, .slice at_ nt ct] 45)))
  have QA := hidp (qs_new v2 (K : Nat) lo1 (.slice at_ nt ct) rfl rfl)
  have hne1 : v2.heap.size ≠ Q0 := by have := hb.size; omega
  clear hb hx hr hw2 hO HC1 hQ0
  go_upto_region 8 with fail
  generalize (v2.alloc (.cells #[.int .i64 (K : Nat), .int .i64 lo1, .slice at_ nt ct] 45)) = v3 at *
  generalize v2.heap.size = Q1 at *
  have hQ0 := ltc QZ.out.q0
  have hQ1 := ltc QA.out.q0
  go_wp2_with fail
  refine (HC2.out _ _ _ XB.out).mono ?_
  rintro e v4 ⟨bt_, mt, dt, rfl, hO, hb⟩
  obtain ⟨_, _, he, hr⟩ := owns_cnts hO
  cases he
  have NFB := hidp (show ∀ b o, bt_ = some ⟨b, o, none⟩ → b ≠ Q0 from fun b o e => by have := (owns_far hO b o e).1; omega)
  have hx := bal hb (.cells #[.int .i64 (K : Nat), .int .i64 lo2, .slice bt_ mt dt] 45)
  have hw4 := bstep hw3 hx
  replace XA := hidp (XA.out.below hx)
  replace XB := hidp (XB.out.below hx)
  replace QZ := hidp (QZ.out.below hx)
  replace FA := hidp (FA.out.below hx)
  replace QA := hidp (QA.out.below hx)
  have FB := hidp (hr.below (bal (Below.refl _ _) (.cells #[.int .i64 (K : Nat), .int .i64 lo2, .slice bt_ mt dt] 45)))
  have QB := hidp (qs_new v4 (K : Nat) lo2 (.slice bt_ mt dt) rfl rfl)
  have hne2 : v4.heap.size ≠ Q0 := by have := hb.size; omega
  clear hb hx hr hw3 hO HC2 hQ0 hQ1
  go_upto_region 9 with fail
  generalize (v4.alloc (.cells #[.int .i64 (K : Nat), .int .i64 lo2, .slice bt_ mt dt] 45)) = v5 at *
  generalize v4.heap.size = Q2 at *
  have hQ0 := ltc QZ.out.q0
  have a0' := QA.out.q0
  have a1' := QA.out.q1
  have a2' := QA.out.q2
  have b0' := QB.out.q0
  have b1' := QB.out.q1
  have b2' := QB.out.q2
  have JA1 := hidp (JA.out _ _ _ _ _ _ _ FA.out FB.out)
  go_wp2_with fail
  refine JA1.out.mono ?_
  rintro e v6 ⟨a6, m6, c6, rfl, ⟨hI6, hf6⟩, hb⟩
  have hne6 : ∀ b o, a6 = some ⟨b, o, none⟩ → b ≠ Q0 := fun b o e => by have := hf6 b o e; omega
  have Z6 := QZ.out.below hb
  have z0 := Z6.q0
  have z1 := Z6.q1
  have z2 := Z6.q2
  have f0 := Z6.fq 0
  have f1 := Z6.fq 1
  have f2 := Z6.fq 2
  have QF := hidp (qs_put3 Z6 (K : Nat) lost (.slice a6 m6 c6))
  have FF := hidp (cnt_set3 hI6 Q0 hne6 (.int .i64 (K : Nat)) (.int .i64 lost) (.slice a6 m6 c6))
  replace XA := hidp (cnt_set3 (XA.out.below hb) Q0 NA.out (.int .i64 (K : Nat)) (.int .i64 lost) (.slice a6 m6 c6))
  replace XB := hidp (cnt_set3 (XB.out.below hb) Q0 NB.out (.int .i64 (K : Nat)) (.int .i64 lost) (.slice a6 m6 c6))
  replace FA := hidp (cnt_set3 (FA.out.below hb) Q0 NFA.out (.int .i64 (K : Nat)) (.int .i64 lost) (.slice a6 m6 c6))
  replace FB := hidp (cnt_set3 (FB.out.below hb) Q0 NFB.out (.int .i64 (K : Nat)) (.int .i64 lost) (.slice a6 m6 c6))
  replace QA := hidp (qs_set3 (QA.out.below hb) hne1 (.int .i64 (K : Nat)) (.int .i64 lost) (.slice a6 m6 c6))
  replace QB := hidp (qs_set3 (QB.out.below hb) hne2 (.int .i64 (K : Nat)) (.int .i64 lost) (.slice a6 m6 c6))
  have hw5 := hidp (below_set3 (bstep hw4 hb) Q0 hwaz (.int .i64 (K : Nat)) (.int .i64 lost) (.slice a6 m6 c6))
  have e6 := hI6.le
  have mx6 := hI6.max
  have l6 := hI6.len
  clear a0' a1' a2' b0' b1' b2' Z6 hI6 hf6 hne6 hb JA JA1 QZ hw4 hQ0 NA NB NFA NFB
  unfold fewV at *
  go_upto_region 10 with fail
  generalize (((v6.setCell ⟨Q0, 0, none⟩ (.int .i64 (K : Nat))).setCell ⟨Q0, 1, none⟩ (.int .i64 lost)).setCell ⟨Q0, 2, none⟩ (.slice a6 m6 c6)) = v7 at *
  clear z0 z1 z2 f0 f1 f2
  have a0' := QA.out.q0
  have a1' := QA.out.q1
  have a2' := QA.out.q2
  have b0' := QB.out.q0
  have b1' := QB.out.q1
  have b2' := QB.out.q2
  have JB1 := hidp (JB.out _ _ _ _ _ _ _ FB.out FA.out)
  go_wp2_with fail
  refine JB1.out.mono ?_
  rintro e v8 ⟨a8, m8, c8, rfl, ⟨hI8, _⟩, hb⟩
  have hx := bal hb (.cells #[.int .i64 (K : Nat), .int .i64 lost, .slice a8 m8 c8] 45)
  have hw6 := bstep hw5.out hx
  replace XA := hidp (XA.out.below hx)
  replace XB := hidp (XB.out.below hx)
  replace QF := hidp (QF.out.below hx)
  replace FF := hidp (FF.out.below hx)
  have QG := hidp (qs_new v8 (K : Nat) lost (.slice a8 m8 c8) rfl rfl)
  obtain rfl : m8 = m6 := by rw [← hI8.len, ← l6]
  have SF2 := hidp (samefew_c K lost a6 a8 m8 c6 c8 L _ FF.out (hI8.below (bal (Below.refl _ _) (.cells #[.int .i64 (K : Nat), .int .i64 lost, .slice a8 m8 c8] 45))))
  have hm6 : ¬ (K : Int) < (m8 : Int) := by omega
  clear a0' a1' a2' b0' b1' b2' hI8 hb hx JB JB1 hw5 QA QB FA FB
  unfold fewV at *
  go_upto_region 11 with fail
  generalize (v8.alloc (.cells #[.int .i64 (K : Nat), .int .i64 lost, .slice a8 m8 c8] 45)) = v9 at *
  generalize v8.heap.size = Q3 at *
  have g0 := QF.out.q0
  have g1 := QF.out.q1
  have g2 := QF.out.q2
  have h0 := QG.out.q0
  have h1 := QG.out.q1
  have h2 := QG.out.q2
  clear l6
  go_wp2_with fail
  refine SF2.out.mono ?_
  rintro e v10 ⟨rfl, hb⟩
  have hw7 := bstep hw6 hb
  replace XA := hidp (XA.out.below hb)
  replace XB := hidp (XB.out.below hb)
  replace QF := hidp (QF.out.below hb)
  replace FF := hidp (FF.out.below hb)
  clear g0 g1 g2 h0 h1 h2 hb hw6 SF2 QG
  have g1 := QF.out.q1
  have g2 := QF.out.q2
  have cl60 := CL.out
  have dl60 := DL.out
  have CC1 := hidp (concatc2_o al bl C.length D.length cl dl C D v10 XA.out XB.out (by omega))
  have CTS := hidp (fun a n c W (h : CntAt W a n c (C ++ D)) => counts_c a n c (C ++ D) W h (by have := h.len; rw [List.length_append] at this; omega) CDN.out (by rw [HCD.out]; omega) CDK.out)
  go_wp2_with fail
  refine CC1.out.mono ?_
  rintro e v11 ⟨v, rfl, hv, hb⟩
  obtain ⟨ac, cc, rfl, hC⟩ := owns_cnts hv
  have CT1 := hidp (CTS.out _ _ _ _ hC)
  have hw8 := bstep hw7 hb
  replace XA := hidp (XA.out.below hb)
  replace XB := hidp (XB.out.below hb)
  replace QF := hidp (QF.out.below hb)
  replace FF := hidp (FF.out.below hb)
  clear hv hC hb hw7 CC1 CTS g1 g2
  go_wp2_with fail
  refine CT1.out.mono ?_
  rintro e v12 ⟨r, rfl, hM, hb⟩
  have AS := hidp (AskS.mk (ck hb QF.out.q0) (ck hb QF.out.q1) (ck hb QF.out.q2) (FF.out.below hb) hM)
  have hw9 := bstep hw8 hb
  have CC2 := hidp (concatc2_o al bl C.length D.length cl dl C D v12 (XA.out.below hb) (XB.out.below hb) (by omega))
  clear hb hM hw8 CT1 XA XB QF FF
  go_wp2_with (first
    | (go_at_call 34; refine CC2.out.mono ?_; rintro e v13 ⟨vc, rfl, hc, hb5⟩; have hg5 := hb5.size)
    | (at_builtin; refine wpList_append_new rfl (.tmp 130) (.tmp 133) 43 rfl v12.heap.size 51 _ 2 16 info_cnt rfl (by decide) Try.underlying43 vc (C.length + D.length) _ rfl hc rfl (one_two _ _) rfl (by simp) (by omega) (by decide) hg5 ?_; intro vd v6 hd hg6 dd; rw [← cntV_snoc] at hd; have hq := owns_cnts hd; obtain ⟨ad, cd, rfl, hcd⟩ := hq))
  have hb6 := append_step hc hb5 (Nat.le_refl _) hg6
  have LS := hidp (AS.out.below hb6)
  have HD := hidp hcd
  have KB := hidp (fun (p : Int × Int) (hp : p ∈ (C ++ D) ++ [(a3, (0 : Int))]) => show -9223372036854775808 ≤ p.1 ∧ p.1 ≤ 9223372036854775807 by
    rcases List.mem_append.1 hp with h | h
    · exact CDK.out p h
    · simp at h; subst h; exact b3)
  have hw10 := hidp (bstep hw9 hb6)
  have md := hcd.max
  have ed := hcd.le
  have HLL := hidp hcd.len
  clear hb6 hb5 hc hd hg6 dd hg5 hcd hw9 CC2 CDK AS
  generalize (C ++ D) ++ [(a3, (0 : Int))] = M at *
  generalize C ++ D = E at *
  obtain ⟨q, hq⟩ : ∃ q, q = C.length + D.length + 1 := ⟨_, rfl⟩
  have hq61 : q ≤ 121 := by omega
  rw [← hq] at HD ed HLL
  clear cl60 dl60
  go_loopw [136] (fun i wr => ∃ j : Nat, j ≤ q ∧ i = .int .i64 j ∧ Below v6.heap.size v6 wr) (fun i _ => q - (intOf i).toNat)
  case atStart => exact ⟨0, by omega, rfl, Below.refl _ _⟩
  case round =>
    obtain ⟨j, hj, rfl, hbl⟩ := hrel
    by_cases hlt2 : j < q
    · have LR := LS.out.below hbl
      obtain ⟨bc, oc, rfl, hbc, hcc⟩ := (HD.out.below hbl).cells (by omega)
      obtain ⟨q0, q1⟩ := hcc j hlt2
      have kb := KB.out _ (cmem M j (by rw [HLL.out]; exact hlt2))
      have kb' : -9223372036854775808 ≤ ckey M j ∧ ckey M j ≤ 9223372036854775807 := kb
      have f1 := NE.out (ckey M j)
      have hx : Below wr.heap.size wr (wr.alloc (.cells #[.int .i64 (ckey M j), .int .i64 (cnum M j)] 51)) := bal (Below.refl _ _) _
      have LX := hidp (LR.below hx)
      have A1 := hidp (AK.out _ _ _ (ckey M j) _ LX.out.fw)
      have x0 : (wr.alloc (.cells #[.int .i64 (ckey M j), .int .i64 (cnum M j)] 51)).cell? ⟨wr.heap.size, 0, none⟩ = some (.int .i64 (ckey M j)) := by go_simp
      have d0 := LX.out.c0
      have d1 := LX.out.c1
      have d2 := LX.out.c2
      have hbx := bal hbl (.cells #[.int .i64 (ckey M j), .int .i64 (cnum M j)] 51)
      clear hcc kb LR
      generalize occ L (ckey M j) = est at *
      generalize ckey M j = key at *
      generalize cnum M j = num at *
      go_upto_region 17 with fail
      generalize (wr.alloc (.cells #[.int .i64 key, .int .i64 num] 51)) = wx at *
      generalize wr.heap.size = XB at *
      clear hx q0 q1 hbl
      go_wp2_with fail
      refine A1.out.mono ?_
      rintro e wy ⟨rfl, hby⟩
      have y0 := ck hby x0
      have hR := (LX.out.mp.below hby).run (t := 54) (Maps.int_keyed Try.underlying3) Try.underlying54 Try.underlying3 (zeroInt _) key (key_any _ kb'.1 kb'.2)
      have hbz := bstep hbx hby
      clear hby hbx x0 d0 d1 d2 LX A1
      generalize occ E key = oc2 at *
      go_wp2_with fail
      go_roundw
      case rel => exact ⟨j + 1, by omega, by go_num, hbz⟩
      case measure => simp [intOf]; omega
    · obtain rfl : j = q := by omega
      go_wp2_with fail
      go_ret
      exact ⟨rfl, bstep hw10.out hbl⟩
end Go.Proofs.Ytlikpakjjaeblaa.fewJoin
