/- The walk of RegsSame: the law returns true at all inputs, and no old memory changes. -/
import Derived.Test.YtpghnbpoodcglaaNoughts
import Derived.Test.YtpghnbpoodcglaaConcat2
import Derived.Test.YtpghnbpoodcglaaEqI
import Derived.Deep.RegionWith
import Derived.Deep.QuietTactic
import Derived.BigQuiet
import Derived.WalkSmall
namespace Go.Proofs.Ytpghnbpoodcglaa.regsSame
open Go.ChangeShapes Go.WideShapes Go.ChangeAt Go.RowKit
open Go.Proofs.Ytpghnbpoodcglaa
set_option maxRecDepth 20000

theorem ex1 : tab (rputF [0] 1 0) 1 = [57] := by decide +kernel
theorem mx_nF (z : Nat) (l m : List Int) : tab (mxF (tab (nF z l) z) (tab (nF z m) z)) z = tab (nF z (l ++ m)) z := tab_congr _ _ _ (fun i hi => by
  unfold mxF
  rw [tab_gi _ _ _ hi, tab_gi _ _ _ hi, nF_append])
theorem sw_nF (z : Nat) (l m : List Int) : tab (nF z (m ++ l)) z = tab (nF z (l ++ m)) z := tab_congr _ _ _ (fun i _ => by rw [nF_append, nF_append]; omega)
theorem id_nF (z : Nat) (l m : List Int) : tab (nF z ((l ++ m) ++ l)) z = tab (nF z (l ++ m)) z := tab_congr _ _ _ (fun i _ => by rw [nF_append, nF_append]; omega)
theorem turn_nF (z : Nat) (l m : List Int) (t : Nat) : tab (nF z (l.drop t ++ m ++ l.take t)) z = tab (nF z (l ++ m)) z := tab_congr _ _ _ (fun i _ => by
  have : nF z l i = max (nF z (l.take t) i) (nF z (l.drop t) i) := by rw [← nF_append, List.take_append_drop]
  rw [nF_append, nF_append, nF_append, this]; omega)
set_option linter.unusedVariables false
set_option maxHeartbeats 8000000 in
theorem walk (a0 : Int) (a1 : Option Addr) (len1 cap1 : Nat) (z1 : List Int) (a2 : Option Addr) (len2 cap2 : Nat) (z2 : List Int) (a3 : Int) (w : World)
    (w0 : (Lit.int .i64 a0).wf = true) (w1 : IntsAt w a1 len1 cap1 z1) (w2 : IntsAt w a2 len2 cap2 z2) (w3 : (Lit.int .i64 a3).wf = true) :
    Calls Try.prog 11 #[.int .i64 a0, .slice a1 len1 cap1, .slice a2 len2 cap2, .int .i64 a3] w fun e w' => e = .returned (.bool true) ∧ Below w.heap.size w w' := by
  have m1 := w1.max
  have e1 := w1.le
  have m2 := w2.max
  have e2 := w2.le
  obtain ⟨M1, hM1⟩ : ∃ M : Nat, M = min len1 100 := ⟨_, rfl⟩
  obtain ⟨M2, hM2⟩ : ∃ M : Nat, M = min len2 100 := ⟨_, rfl⟩
  have b1 : M1 ≤ 100 ∧ M1 ≤ len1 := by omega
  have b2 : M2 ≤ 100 ∧ M2 ≤ len2 := by omega
  have hmin1 : min (len1 : Int) 100 = (M1 : Int) := by omega
  have hmin2 : min (len2 : Int) 100 = (M2 : Int) := by omega
  have L := hidp (w1.take M1 b1.2)
  have M := hidp (w2.take M2 b2.2)
  generalize z1.take M1 = l at *
  generalize z2.take M2 = m at *
  have lt := wn_lt a3 ((M1 : Int) + 1) (by omega)
  have CT := hidp (fun W => withinN_c a3 ((M1 : Int) + 1) (by omega) (by omega) W)
  generalize wn a3 ((M1 : Int) + 1) = T at *
  have hT : T ≤ M1 := by omega
  have hTI : (T : Int) ≤ (M1 : Int) := by omega
  have RD := run_drop a1 M1 cap1 T hT
  have CN := hidp (fun al mm cl xs W h hm => noughts_c a0 al mm cl xs W h hm)
  have OK := hidp (fun x => nF_ok (nsz a0) (nsz_ok a0) x)
  have CJ := hidp (fun a a' c c' x y W h h' => rjoin_c a a' (nsz a0) c c' (tab (nF (nsz a0) x) (nsz a0)) (tab (nF (nsz a0) y) (nsz a0)) W h h' (nF_ok _ (nsz_ok a0) x) (nF_ok _ (nsz_ok a0) y))
  have zb := nsz_ok a0
  have hz : 1 ≤ nsz a0 ∧ nsz a0 ≤ 16 := by unfold rgN at zb; omega
  generalize nsz a0 = z at *
  clear w0 w1 w2 w3 hM1 hM2 zb
  go_enter Try.func11, Try.ntmps11
  go_wp2_with fail
  refine (rput_c _ 1 1 [0] 0 _ ?s0 ⟨.inl rfl, fun i hi => by have : i = 0 := by omega
                                                             subst this; decide⟩ (by omega)).mono ?_
  case s0 => exact ints_lit [0] (by simp) (by rfl) (by rfl) (by simp) (by omega)
  rintro e wa ⟨v, rfl, hv, hba⟩
  rw [ex1] at hv
  obtain ⟨av, cv, rfl, hav⟩ := owns_ints hv (by simp)
  have hwa : Below w.heap.size w wa := bstep (bal (Below.refl _ _) _) hba
  clear hv hba
  go_wp2_with fail
  refine (equali_c _ _ 1 1 _ _ [57] [57] _ (hav.alloc _) ?s3).mono ?_
  case s3 => exact ints_lit [57] (by simp) (by rfl) (by rfl) (by simp) (by omega)
  rintro e wb ⟨rfl, hbb⟩
  rw [decide_eq_true rfl]
  have hwb : Below w.heap.size w wb := bstep (bal hwa _) hbb
  clear hbb hwa hav
  go_wp2_with fail
  go_quiet (fail)
  have hwb2 := below_drewN hwb nq
  generalize wb.drewN nq = wb2 at *
  clear hwb
  go_wp2_with fail
  refine (CT.out _).mono ?_
  rintro e w' ⟨rfl, rfl⟩
  go_wp2_with fail
  refine (CN.out _ _ _ l _ (L.out.below hwb2) (by omega)).mono ?_
  rintro e wc ⟨ra, rc, rfl, hA, hbc⟩
  have hwc := bstep hwb2 hbc
  have A := hidp hA
  clear hbc hwb2 hA
  go_wp2_with fail
  refine (CN.out _ _ _ m _ (M.out.below hwc) (by omega)).mono ?_
  rintro e wd ⟨rb, rd, rfl, hB, hbd⟩
  have A := hidp (A.out.below hbd)
  have B := hidp hB
  have hwd := bstep hwc hbd
  clear hbd hwc hB
  go_wp2_with fail
  refine (concat2_c a1 a2 M1 M2 cap1 cap2 l m _ (L.out.below hwd) (M.out.below hwd) (by omega)).mono ?_
  rintro e we ⟨ka, kc, rfl, hk, hbe⟩
  have A := hidp (A.out.below hbe)
  have B := hidp (B.out.below hbe)
  have hwe := bstep hwd hbe
  clear hbe hwd
  go_wp2_with fail
  refine (CN.out _ _ _ _ _ hk (by omega)).mono ?_
  rintro e wf ⟨rg, rh, rfl, hC, hbf⟩
  have A := hidp (A.out.below hbf)
  have B := hidp (B.out.below hbf)
  have C := hidp hC
  have hwf := bstep hwe hbf
  clear hbf hwe hC hk
  go_wp2_with fail
  go_region_with (first
    | (go_at_call 35; go_loud (refine (concat3_c (dropA a1 T cap1) a2 a1 (M1 - T) M2 T (cap1 - T) cap2 cap1 (l.drop T) m (l.take T) wf.drew ((L.out.below hwf.drew).drop T hT) (M.out.below hwf.drew) ((L.out.below hwf.drew).take T hT) (by omega)).mono ?_; rintro e wg ⟨ja, jc, rfl, hj, hbg⟩))
    | (go_at_call 38; go_loud (refine (CN.out _ _ _ _ _ hj (by omega)).mono ?_; rintro e wh ⟨ri, rj, rfl, hD, hbh⟩)))
  rw [turn_nF] at hD
  have hb2 : Below wf.heap.size wf wh := (Below.refl _ _).drew.trans (bstep hbg hbh)
  have A := hidp (A.out.below hb2)
  have B := hidp (B.out.below hb2)
  have C := hidp (C.out.below hb2)
  have D := hidp hD
  have hwh := bstep hwf hb2
  clear hb2 hbg hbh hwf hD hj RD
  go_wp2_with fail
  refine (CJ.out _ _ _ _ l m _ A.out B.out).mono ?_
  rintro e wi ⟨v, rfl, hv, hbi⟩
  rw [mx_nF] at hv
  obtain ⟨xa, xc, rfl, hX⟩ := owns_regs hv (OK.out _)
  have A := hidp (A.out.below hbi)
  have B := hidp (B.out.below hbi)
  have C := hidp (C.out.below hbi)
  have D := hidp (D.out.below hbi)
  have X := hidp hX
  have hwi := bstep hwh hbi
  clear hv hbi hwh hX
  go_wp2_with fail
  refine (CJ.out _ _ _ _ m l _ B.out A.out).mono ?_
  rintro e wj ⟨v, rfl, hv, hbj⟩
  rw [mx_nF, sw_nF] at hv
  obtain ⟨ya, yc, rfl, hY⟩ := owns_regs hv (OK.out _)
  have A := hidp (A.out.below hbj)
  have C := hidp (C.out.below hbj)
  have D := hidp (D.out.below hbj)
  have X := hidp (X.out.below hbj)
  have Y := hidp hY
  have hwj := bstep hwi hbj
  clear hv hbj hwi hY B
  go_wp2_with fail
  refine (CJ.out _ _ _ _ (l ++ m) l _ X.out A.out).mono ?_
  rintro e wk ⟨v, rfl, hv, hbk⟩
  rw [mx_nF, id_nF] at hv
  obtain ⟨za, zc, rfl, hZ⟩ := owns_regs hv (OK.out _)
  have C := hidp (C.out.below hbk)
  have D := hidp (D.out.below hbk)
  have X := hidp (X.out.below hbk)
  have Y := hidp (Y.out.below hbk)
  have Z := hidp hZ
  have hwk := bstep hwj hbk
  clear hv hbk hwj hZ A
  go_wp2_with fail
  refine (equali_c _ _ _ _ _ _ _ _ _ X.out C.out).mono ?_
  rintro e w1 ⟨rfl, hb⟩
  rw [decide_eq_true rfl]
  have C := hidp (C.out.below hb)
  have D := hidp (D.out.below hb)
  have Y := hidp (Y.out.below hb)
  have Z := hidp (Z.out.below hb)
  have hw1 := bstep hwk hb
  clear hb hwk X
  go_wp2_with fail
  refine (equali_c _ _ _ _ _ _ _ _ _ Y.out C.out).mono ?_
  rintro e w2 ⟨rfl, hb⟩
  rw [decide_eq_true rfl]
  have C := hidp (C.out.below hb)
  have D := hidp (D.out.below hb)
  have Z := hidp (Z.out.below hb)
  have hw2 := bstep hw1 hb
  clear hb hw1 Y
  go_wp2_with fail
  refine (equali_c _ _ _ _ _ _ _ _ _ Z.out C.out).mono ?_
  rintro e w3 ⟨rfl, hb⟩
  rw [decide_eq_true rfl]
  have C := hidp (C.out.below hb)
  have D := hidp (D.out.below hb)
  have hw3 := bstep hw2 hb
  clear hb hw2 Z
  go_wp2_with fail
  refine (equali_c _ _ _ _ _ _ _ _ _ D.out C.out).mono ?_
  rintro e w4 ⟨rfl, hb⟩
  rw [decide_eq_true rfl]
  have hw4 := bstep hw3 hb
  clear hb hw3 D C
  go_wp2_with fail
  go_ret
  exact ⟨rfl, hw4⟩
end Go.Proofs.Ytpghnbpoodcglaa.regsSame
