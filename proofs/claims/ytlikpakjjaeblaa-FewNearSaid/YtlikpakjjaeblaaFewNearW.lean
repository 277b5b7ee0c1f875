/- The walk of FewNear: the law returns true at all inputs, and no old memory changes. -/
import Derived.Test.YtlikpakjjaeblaaFewKit
namespace Go.Proofs.Ytlikpakjjaeblaa.fewNear
open Go.ChangeShapes Go.WideShapes Go.ChangeAt Go.RowKit
open Go.Proofs.Ytlikpakjjaeblaa
set_option maxRecDepth 20000
theorem ok1 : FewOk 1 (0, [((5 : Int), (3 : Int))]) := ⟨by omega, by omega, by show (0 : Int) ≤ 0; omega, by show (0 : Int) ≤ _; omega, by simp, by simp [KRise], by simp, by simp⟩
theorem ok2 : FewOk 1 (2, [((5 : Int), (1 : Int))]) := ⟨by omega, by omega, by show (0 : Int) ≤ 2; omega, by show (2 : Int) ≤ _; omega, by simp, by simp [KRise], by simp, by simp⟩
theorem put1 : fput 1 (0, [((5 : Int), (3 : Int))]) 6 2 = (2, [(5, 1)]) := by decide
set_option linter.unusedVariables false
set_option maxHeartbeats 16000000 in
theorem walk (a0 : Int) (a1 : Option Addr) (n1 c1 : Nat) (zs : List (List Int)) (a2 : Int) (w : World)
    (w0 : (Lit.int .i64 a0).wf = true) (w1 : RowsAt w a1 n1 c1 zs) (w2 : (Lit.int .i64 a2).wf = true) :
    Calls Try.prog 8 #[.int .i64 a0, .slice a1 n1 c1, .int .i64 a2] w fun e w' => e = .returned (.bool true) ∧ Below w.heap.size w w' := by
  have P1 := hidp (fput_ok 1 (0, [(5, 3)]) (some ⟨w.heap.size, 0, none⟩) 1 1 6 2 _ (cnt_lit w 5 3) ok1 (by omega) (2, [(5, 1)]) put1 ok2)
  have CM := hidp (fun W (hB : Below w.heap.size w W) => came_c a1 n1 c1 zs 1000 W (w1.below hB) (by omega) (by omega))
  have m2 := w1.max
  have l2 := w1.le
  have b3 := wf_bd w2
  have CB := hidp (camL_bd zs 1000 (by omega) (min n1 60))
  have CK := hidp (cam_keys zs 1000 (row_keys w1) (min n1 60))
  have CL := hidp (show (camL zs 1000 (min n1 60)).length ≤ 60 from Nat.le_trans (camL_len _ _ _) (by omega))
  generalize camL zs 1000 (min n1 60) = D at *
  have CN := hidp (fun p (hp : p ∈ D) => show (0 : Int) ≤ p.2 by have := CB.out p hp; omega)
  have CN1 := hidp (fun p (hp : p ∈ D) => show (1 : Int) ≤ p.2 by have := CB.out p hp; omega)
  have hcs : 0 ≤ csum D ∧ csum D ≤ 60000 := by
    have := csum_bd 1000 (by omega) D (fun p hp => by have := CB.out p hp; omega)
    have := CL.out
    omega
  obtain ⟨K, hK⟩ : ∃ K : Nat, 1 + ((wn a0 16 : Nat) : Int) = (K : Int) := ⟨1 + wn a0 16, by push_cast; rfl⟩
  have k0 := wn_lt a0 16 (by omega)
  have k1 : 1 ≤ K := by omega
  have k2 : K ≤ 16 := by omega
  have IS := hidp (fewL_is K D CN1.out)
  have OK := hidp (IS.out.ok k1 k2 (by omega))
  have HC := hidp (fun al cl W (h : CntAt W al D.length cl D) => heard_c K al D.length cl D W h k1 k2 CN1.out (by omega))
  obtain ⟨F, hF⟩ : ∃ F, F = fewL K D := ⟨_, rfl⟩
  rw [← hF] at IS OK HC
  have NE := hidp IS.out.near
  have FC := hidp (fun a n c W (h : CntAt W a n c F.2) => fcheck_ok K F a n c W h OK.out)
  have AK := hidp (fun a n c k W (h : CntAt W a n c F.2) => fask_c K F a n c k W h OK.out)
  have hall := IS.out.all
  have hl0 := IS.out.l0
  have hlost := IS.out.lost
  have hpos := csum_nn F.2 (fun p hp => by have := IS.out.pos p hp; omega)
  obtain ⟨lost, L⟩ := F
  dsimp only at *
  have hm1 : lost * ((K : Int) + 1) ≤ csum D := by omega
  have hm0 : 0 ≤ lost * ((K : Int) + 1) := Int.mul_nonneg hl0 (by omega)
  have hgt : (csum D < lost * ((K : Int) + 1)) = False := eq_false (by omega)
  have WM : IntKind.i64.wrap (lost * ((K : Int) + 1)) = lost * ((K : Int) + 1) := IntWalk.i64_in _ (by omega)
  clear hF w0 w1 w2 k0 CB hall
  unfold fewV at *
  go_enter Try.func8, Try.ntmps8
  go_wp2_with fail
  refine P1.out.mono ?_
  rintro e wa ⟨g, n', c', rfl, hr, hba⟩
  have hwa := bstep (bal (Below.refl w.heap.size w) _) hba
  obtain rfl : n' = 1 := hr.len.symm
  have HR := hidp (hr.below (bal (bal (Below.refl wa.heap.size wa) (.cells #[.int .i64 1, .int .i64 2, .slice g 1 c'] 45)) (.cells #[.int .i64 5, .int .i64 1] 51)))
  have SF := hidp (samefew_c 1 2 g (some ⟨wa.heap.size + 1, 0, none⟩) 1 c' 1 [(5, 1)] ((wa.alloc (.cells #[.int .i64 1, .int .i64 2, .slice g 1 c'] 45)).alloc (.cells #[.int .i64 5, .int .i64 1] 51)) HR.out (by
    have := cnt_lit (wa.alloc (.cells #[.int .i64 1, .int .i64 2, .slice g 1 c'] 45)) 5 1
    simpa using this))
  have hwb := bal (bal hwa (.cells #[.int .i64 1, .int .i64 2, .slice g 1 c'] 45)) (.cells #[.int .i64 5, .int .i64 1] 51)
  clear hr hba hwa HR P1
  unfold fewV at *
  go_wp2_with fail
  refine SF.out.mono ?_
  rintro e wc ⟨rfl, hbc⟩
  have hw0 := bstep hwb hbc
  clear hbc hwb SF
  go_wp2_with fail
  refine (withinN_c a0 16 (by omega) (by omega) _).mono ?_
  rintro e w' ⟨rfl, rfl⟩
  go_wp2_with fail
  refine (CM.out _ hw0).mono ?_
  rintro e v0 ⟨v, rfl, hv, hb⟩
  obtain ⟨al, cl, rfl, hl⟩ := owns_cnts hv
  have HL := hidp hl
  have hw1 := bstep hw0 hb
  clear hb hv hl hw0 CM
  go_wp2_with fail
  refine (HC.out _ _ _ HL.out).mono ?_
  rintro e v2 ⟨at_, nt, ct, rfl, hO, hb⟩
  obtain ⟨_, _, he, hr⟩ := owns_cnts hO
  cases he
  have hx : Below v0.heap.size v0 (v2.alloc (.cells #[.int .i64 (K : Nat), .int .i64 lost, .slice at_ nt ct] 45)) := bal hb _
  have hw3 := bstep hw1 hx
  replace HL := hidp (HL.out.below hx)
  have t0 : (v2.alloc (.cells #[.int .i64 (K : Nat), .int .i64 lost, .slice at_ nt ct] 45)).cell? ⟨v2.heap.size, 0, none⟩ = some (.int .i64 (K : Nat)) := by go_simp
  have t1 : (v2.alloc (.cells #[.int .i64 (K : Nat), .int .i64 lost, .slice at_ nt ct] 45)).cell? ⟨v2.heap.size, 1, none⟩ = some (.int .i64 lost) := by go_simp
  have t2 : (v2.alloc (.cells #[.int .i64 (K : Nat), .int .i64 lost, .slice at_ nt ct] 45)).cell? ⟨v2.heap.size, 2, none⟩ = some (.slice at_ nt ct) := by go_simp
  have HT := hidp (hr.below (bal (Below.refl _ _) (.cells #[.int .i64 (K : Nat), .int .i64 lost, .slice at_ nt ct] 45)))
  clear hb hx hr hw1 hO
  go_upto_region 7 with fail
  generalize (v2.alloc (.cells #[.int .i64 (K : Nat), .int .i64 lost, .slice at_ nt ct] 45)) = v3 at *
  generalize v2.heap.size = Q at *
  have FC1 := hidp (FC.out _ _ _ _ HT.out)
  go_wp2_with fail
  refine FC1.out.mono ?_
  rintro e v3 ⟨rfl, hb⟩
  have hw4 := bstep hw3 hb
  replace HL := hidp (HL.out.below hb)
  replace HT := hidp (HT.out.below hb)
  replace t0 := ck hb t0
  replace t1 := ck hb t1
  replace t2 := ck hb t2
  clear hb hw3 FC1 FC
  go_wp2_with fail
  refine (counts_c al D.length cl D v3 HL.out (by have := CL.out; omega) CN.out (by omega) CK.out).mono ?_
  rintro e v4 ⟨r, rfl, hM, hb⟩
  have AS := hidp (AskS.mk (ck hb t0) (ck hb t1) (ck hb t2) (HT.out.below hb) hM)
  replace HL := hidp (HL.out.below hb)
  have hw5 := bstep hw4 hb
  clear hb hM hw4 t0 t1 t2 HT
  have cl60 := CL.out
  have CC := hidp (fun (W : World) (h : CntAt W al D.length cl D) => clonec_c al D.length cl D W h (by omega))
  have S0 := hidp (show ∀ W, Below v4.heap.size v4 W → CntAt W al D.length cl D from fun W hB => HL.out.below hB)
  go_wp2_with (first
    | (go_at_call 30; refine (CC.out _ (S0.out _ (Below.refl _ _))).mono ?_; rintro e v5 ⟨vc, rfl, hc, hb5⟩; have hg5 := hb5.size)
    | (at_builtin; refine wpList_append_new rfl (.tmp 69) (.tmp 72) 43 rfl v4.heap.size 51 _ 2 16 info_cnt rfl (by decide) Try.underlying43 vc D.length _ rfl hc rfl (one_two _ _) rfl (by simp) (by omega) (by decide) hg5 ?_; intro vd v6 hd hg6 dd; rw [← cntV_snoc] at hd; have hq := owns_cnts hd; obtain ⟨ad, cd, rfl, hcd⟩ := hq))
  have hb6 := append_step hc hb5 (Nat.le_refl _) hg6
  have LS := hidp (AS.out.below hb6)
  have HD := hidp hcd
  have KB := hidp (fun (p : Int × Int) (hp : p ∈ D ++ [(a2, (0 : Int))]) => show -9223372036854775808 ≤ p.1 ∧ p.1 ≤ 9223372036854775807 by
    rcases List.mem_append.1 hp with h | h
    · exact CK.out p h
    · simp at h; subst h; exact b3)
  have hw6 := hidp (bstep hw5 hb6)
  have md := hcd.max
  have ed := hcd.le
  have hll : (D ++ [(a2, (0 : Int))]).length = D.length + 1 := by simp
  have HLL := hidp hll
  clear hb6 hb5 hc hd hg6 dd hg5 hcd HL hw5 CC S0 hll CK AS
  generalize D ++ [(a2, (0 : Int))] = M at *
  obtain ⟨q, hq⟩ : ∃ q, q = D.length + 1 := ⟨_, rfl⟩
  have hq61 : q ≤ 61 := by omega
  rw [← hq] at HD ed HLL
  clear cl60
  go_loopw [75] (fun i wr => ∃ j : Nat, j ≤ q ∧ i = .int .i64 j ∧ Below v6.heap.size v6 wr) (fun i _ => q - (intOf i).toNat)
  case atStart => exact ⟨0, by omega, rfl, Below.refl _ _⟩
  case round =>
    obtain ⟨j, hj, rfl, hbl⟩ := hrel
    by_cases hlt2 : j < q
    · have LR := LS.out.below hbl
      obtain ⟨bc, oc, rfl, hbc, hcc⟩ := (HD.out.below hbl).cells (by omega)
      obtain ⟨q0, q1⟩ := hcc j hlt2
      have kb := KB.out _ (cmem M j (by rw [HLL.out]; exact hlt2))
      have kb' : -9223372036854775808 ≤ ckey M j ∧ ckey M j ≤ 9223372036854775807 := kb
      have f1 := NE.out (ckey M j)
      have hx : Below wr.heap.size wr (wr.alloc (.cells #[.int .i64 (ckey M j), .int .i64 (cnum M j)] 51)) := bal (Below.refl _ _) _
      have LX := hidp (LR.below hx)
      have A1 := hidp (AK.out _ _ _ (ckey M j) _ LX.out.fw)
      have x0 : (wr.alloc (.cells #[.int .i64 (ckey M j), .int .i64 (cnum M j)] 51)).cell? ⟨wr.heap.size, 0, none⟩ = some (.int .i64 (ckey M j)) := by go_simp
      have d0 := LX.out.c0
      have d1 := LX.out.c1
      have d2 := LX.out.c2
      have hbx := bal hbl (.cells #[.int .i64 (ckey M j), .int .i64 (cnum M j)] 51)
      clear hcc kb LR
      generalize occ L (ckey M j) = est at *
      generalize ckey M j = key at *
      generalize cnum M j = num at *
      go_upto_region 13 with fail
      generalize (wr.alloc (.cells #[.int .i64 key, .int .i64 num] 51)) = wx at *
      generalize wr.heap.size = XB at *
      clear hx q0 q1 hbl
      go_wp2_with fail
      refine A1.out.mono ?_
      rintro e wy ⟨rfl, hby⟩
      have y0 := ck hby x0
      have hR := (LX.out.mp.below hby).run (t := 54) (Maps.int_keyed Try.underlying3) Try.underlying54 Try.underlying3 (zeroInt _) key (key_any _ kb'.1 kb'.2)
      have hbz := bstep hbx hby
      clear hby hbx x0 d0 d1 d2 LX A1
      generalize occ D key = oc2 at *
      go_wp2_with fail
      go_roundw
      case rel => exact ⟨j + 1, by omega, by go_num, hbz⟩
      case measure => simp [intOf]; omega
    · obtain rfl : j = q := by omega
      go_wp2_with fail
      go_ret
      exact ⟨rfl, bstep hw6.out hbl⟩
end Go.Proofs.Ytlikpakjjaeblaa.fewNear
