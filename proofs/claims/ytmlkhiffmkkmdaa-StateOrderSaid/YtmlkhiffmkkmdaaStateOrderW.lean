/- The walk of StateOrder: the law returns true at all inputs, and no old memory changes. -/
import Derived.Test.YtmlkhiffmkkmdaaStateMath
import Derived.Test.YtmlkhiffmkkmdaaPairsX
import Derived.Test.YtmlkhiffmkkmdaaStepCall
import Derived.Deep.RegionWith
import Derived.Deep.DeepCutAuto
namespace Go.Proofs.Ytmlkhiffmkkmdaa.stateOrder
open Go.ChangeShapes Go.WideShapes Go.ChangeAt Go.RowKit Go.Maps
open Go.Proofs.Ytmlkhiffmkkmdaa
set_option maxRecDepth 20000
def L0 : List (ByteArray × ByteArray) := [(⟨#[97]⟩, ⟨#[49]⟩), (⟨#[114, 118]⟩, ⟨#[48, 48, 48, 48, 48, 48, 48, 48, 48, 48, 48, 48, 48, 57]⟩)]
theorem MS.b (V : World) (P : Nat) (h : V.heap.size = P) (ob : Obj) : MS ((V.alloc (.cells #[.int .i64 0, .int .i64 0, .bool false, .bool false] 24)).alloc ob) P 0 0 false false := by subst h; exact (MS.new V _ _ _ _).below (bal (Below.refl _ _) _)
theorem MS.c (V : World) (P : Nat) (h : V.heap.size = P) (ob : Obj) : MS ((V.alloc ob).alloc (.cells #[.int .i64 0, .int .i64 0, .bool false, .bool false] 24)) (P + 1) 0 0 false false := by
  have := MS.new (V.alloc ob) 0 0 false false
  rw [World.size_alloc, h] at this
  exact this
theorem close_set {wr vj vp : World} {P : Nat} (v0 v1 : Int) (v2 v3 : Bool) (zj : MS vj P 0 0 false false) (hbp : Below vj.heap.size vj vp) (hbq : Below wr.heap.size wr vp) (hP : wr.heap.size ≤ P) :
    MS ((((vp.setCell ⟨P, 0, none⟩ (.int .i64 v0)).setCell ⟨P, 1, none⟩ (.int .i64 v1)).setCell ⟨P, 2, none⟩ (.bool v2)).setCell ⟨P, 3, none⟩ (.bool v3)) P v0 v1 v2 v3 ∧ Below wr.heap.size wr ((((vp.setCell ⟨P, 0, none⟩ (.int .i64 v0)).setCell ⟨P, 1, none⟩ (.int .i64 v1)).setCell ⟨P, 2, none⟩ (.bool v2)).setCell ⟨P, 3, none⟩ (.bool v3)) :=
  ⟨(zj.below hbp).put v0 v1 v2 v3, below_set4 hbq P hP _ _ _ _⟩
theorem L0_m : mTh L0 = 0 ∧ mRv L0 = 9 ∧ mHT L0 = false ∧ mHR L0 = true ∧ mErr L0 = 0 := by decide +kernel
set_option linter.unusedVariables false
set_option maxHeartbeats 8000000 in
theorem walk (a0 : Option Addr) (len0 cap0 : Nat) (z0 : List (ByteArray × ByteArray)) (a1 : Int) (w : World)
    (w0 : PairsAt w a0 len0 cap0 z0) (w1 : (Lit.int .i64 a1).wf = true) :
    Calls Try.prog 3 #[.slice a0 len0 cap0, .int .i64 a1] w fun e w' => e = .returned (.bool true) ∧ Below w.heap.size w w' := by
  have mm := w0.max
  have ee := w0.le
  have LN := hidp w0.len
  have M1 := hidp (fun W hb => mark_c a0 len0 cap0 z0 W (w0.below (w' := W) hb))
  have M0 := mark_c (some ⟨w.heap.size, 0, none⟩) 2 2 L0 _ (pairs_lit (w := w) (T := 29) L0 rfl rfl rfl (by decide) (by omega))
  rw [L0_m.1, L0_m.2.1, L0_m.2.2.1, L0_m.2.2.2.1, L0_m.2.2.2.2] at M0
  have M0' := hidp M0
  have CK := hidp (fun W hb => stcheck_c a0 len0 cap0 z0 W (w0.below (w' := W) hb))
  clear M0
  go_enter Try.func3, Try.ntmps3
  go_wp2_with fail
  refine M0'.out.mono ?_
  rintro e wa ⟨rfl, hba⟩
  have hwa := bstep (bal (Below.refl w.heap.size w) (.cells (psV L0).toArray 29)) hba
  clear hba M0'
  go_wp2_with fail
  have hb1 := bal hwa (.cells #[.int .i64 0, .int .i64 9, .bool false, .bool true] 24)
  refine (M1.out _ hb1).mono ?_
  rintro e wb ⟨rfl, hbb⟩
  have S0 := (MS.new wa 0 9 false true).below hbb
  have S0' := S0
  obtain ⟨q0, q1, q2, q3, qf⟩ := S0'
  have f0 := qf 0
  have f1 := qf 1
  have f2 := qf 2
  have f3 := qf 3
  have hwb := bstep hb1 hbb
  have hQ : wa.heap.size < wb.heap.size := lt_of_cell q0
  have hQw : w.heap.size ≤ wa.heap.size := hwa.size
  clear hbb hb1 hwa qf
  generalize wa.heap.size = Q at *
  have T := hidp (fun h => @mark_bad z0 h)
  cases hc : decide (chkE z0 = 0) with
  | false =>
    have hne : ¬ chkE z0 = 0 := of_decide_eq_false hc
    have hne1 : (chkE z0 != 0) = true := by simpa using hne
    rw [(T.out hne).1, (T.out hne).2.1, (T.out hne).2.2.1, (T.out hne).2.2.2.1, (T.out hne).2.2.2.2]
    have S1 := hidp ((show MS wb Q 0 9 false true from S0).put 0 0 false false)
    have B1 := hidp (below_set4 hwb Q hQw (.int .i64 0) (.int .i64 0) (.bool false) (.bool false))
    clear hc hne S0 hwb
    go_upto_region 5 with fail
    generalize World.setCell _ _ _ = wc at *
    clear q0 q1 q2 q3 f0 f1 f2 f3
    go_wp2_with fail
    refine (CK.out _ B1.out).mono ?_
    rintro e wd ⟨rfl, hbd⟩
    obtain ⟨q0, q1, q2, q3, qf⟩ := S1.out.below hbd
    have hfin := bstep B1.out hbd
    clear qf hbd
    go_wp2_with fail
    go_ret
    exact ⟨rfl, hfin⟩
  | true =>
    have hz0 : chkE z0 = 0 := of_decide_eq_true hc
    have hok := (chkE_zero z0).1 hz0
    have PM := hidp (fun T => mark_eq (turn_perm z0 T) hok)
    have CK2 := hidp (fun W hb => show Calls Try.prog 12 #[.slice a0 len0 cap0] W fun e w' => e = .returned (.int .i64 0) ∧ Below W.heap.size W w' from by rw [← hz0]; exact CK.out W hb)
    have h40 : len0 ≤ 40 := by rw [← LN.out]; exact hok.1
    have S1 := hidp ((show MS wb Q 0 9 false true from S0).put (mTh z0) (mRv z0) (mHT z0) (mHR z0))
    have B1 := hidp (below_set4 hwb Q hQw (.int .i64 (mTh z0)) (.int .i64 (mRv z0)) (.bool (mHT z0)) (.bool (mHR z0)))
    have W0 := hidp w0
    clear hc hz0 hok S0 hwb T CK M1 w0
    generalize mTh z0 = v0 at *
    generalize mRv z0 = v1 at *
    generalize mHT z0 = v2 at *
    generalize mHR z0 = v3 at *
    generalize mErr z0 = E at *
    go_upto_region 5 with fail
    generalize World.setCell _ _ _ = wc at *
    clear q0 q1 q2 q3 f0 f1 f2 f3
    go_wp2_with fail
    refine (CK2.out _ B1.out).mono ?_
    rintro e wd ⟨rfl, hbd⟩
    have S2 := hidp (S1.out.below hbd)
    have B2 := hidp (bstep B1.out hbd)
    have hT := wn_lt a1 ((len0 : Int) + 1) (by omega)
    have WN := hidp (fun W => withinN_c a1 ((len0 : Int) + 1) (by omega) (by omega) W)
    generalize wn a1 ((len0 : Int) + 1) = T at *
    clear hbd
    go_wp2_with fail
    refine (WN.out _).mono ?_
    rintro e w' ⟨rfl, rfl⟩
    have hT2 : T ≤ len0 := by omega
    have PD := hidp (W0.out.drop T hT2)
    have PT := hidp (W0.out.take T hT2)
    have RD := run_dropP a0 len0 cap0 T hT2
    have RT := run_takeP a0 len0 cap0 T (by omega)
    obtain ⟨D, hD⟩ : ∃ D, D = len0 - T := ⟨_, rfl⟩
    obtain ⟨C2, hC2⟩ : ∃ C2, C2 = cap0 - T := ⟨_, rfl⟩
    obtain ⟨DA, hDA⟩ : ∃ DA, DA = dropP a0 T cap0 := ⟨_, rfl⟩
    rw [← hD, ← hC2, ← hDA] at RD PD
    have hDT : D + T ≤ 40 := by omega
    clear hD hC2 hDA
    obtain ⟨LD, hLD⟩ : ∃ LD, LD = z0.drop T := ⟨_, rfl⟩
    obtain ⟨LT, hLT⟩ : ∃ LT, LT = z0.take T := ⟨_, rfl⟩
    rw [← hLD] at PD
    rw [← hLT] at PT
    have HLD := hidp hLD
    have HLT := hidp hLT
    clear hLD hLT
    have hW2 := B2.out
    have PDb : PairsAt wd DA D C2 LD := PD.out.below hW2
    have PTb : PairsAt wd a0 T cap0 LT := PT.out.below hW2
    have MK := hidp (fun W a c (h : PairsAt W a (D + T) c (LD ++ LT)) => show Calls Try.prog 11 #[.slice a (D + T) c] W fun e w' => e = .returned (.tuple #[.agg #[.int .i64 v0, .int .i64 v1, .bool v2, .bool v3], .int .i64 E]) ∧ Below W.heap.size W w' from by
      have := mark_c a (D + T) c _ W h
      rw [HLD.out, HLT.out, ← (PM.out T).1, ← (PM.out T).2.1, ← (PM.out T).2.2.1, ← (PM.out T).2.2.2.1, ← (PM.out T).2.2.2.2] at this
      exact this)
    have hD1 := hidp (PDb.below (Below.refl wd.heap.size wd).drew)
    have hD2 := hidp ((PDb.below (Below.refl wd.heap.size wd).drew).below (bal (Below.refl _ wd.drew) (.cells #[.int .i64 0, .int .i64 0, .bool false, .bool false] 24)))
    have hT1 := hidp (PTb.below (Below.refl wd.heap.size wd).drew)
    have hT2' := hidp ((PTb.below (Below.refl wd.heap.size wd).drew).below (bal (Below.refl _ wd.drew) (.cells #[.int .i64 0, .int .i64 0, .bool false, .bool false] 24)))
    have PBA := hidp (fun (W : World) a n c L (o : Obj) (h : PairsAt W a n c L) => show PairsAt (W.alloc o) a n c L from h.below (bal (Below.refl _ _) _))
    clear PDb PTb hW2 PD PT W0
    go_wp2_with fail
    go_cut [7, 8] (fun s7 s8 wx => s8 = .int .i64 E ∧ ∃ P : Nat, s7 = .pointer (some ⟨P, 0, none⟩) ∧ MS wx P v0 v1 v2 v3 ∧ Below wd.heap.size wd wx)
    case first =>
      go_region_with (first
        | (go_at_call 14; go_loud (refine Calls.mono (concatp2_g DA a0 D T C2 cap0 LD LT ?_ _ _ ?_ ?_ ?_ (by omega) ?_) ?_; rotate_left 4; (first | exact hB wd _ _ | exact hA wd _ | exact hC wd _ _); rotate_left 1; (first | exact eB wd _ | rfl); (first | exact hD1.out | exact hD2.out); (first | exact hT1.out | exact hT2'.out); rintro e vj ⟨ja, jc, rfl, hj, hbd⟩; (first | have hbv := bstep (bal (Below.refl wd.heap.size wd).drew _) hbd | have hbv := bstep (bal (bal (Below.refl wd.heap.size wd).drew _) _) hbd)))
        | (go_at_call 11; go_loud (refine Calls.mono (MK.out _ _ _ ?_) ?_; (first | exact hj | exact PBA.out _ _ _ _ _ _ hj); rintro e vp ⟨rfl, hbp⟩; (first | have hbq := bstep hbv hbp | have hbq := bstep (bal hbv _) hbp); first | (have zj := (MS.c wd.drew wd.heap.size rfl _).below hbd; have zp := zj.below hbp; obtain ⟨z0, z1, z2, z3, zf⟩ := zp; have zf0 := zf 0; have zf1 := zf 1; have zf2 := zf 2; have zf3 := zf 3; have hcl := hidp (close_set v0 v1 v2 v3 zj hbp hbq (Nat.le_succ _))) | (have zj := (MS.b wd.drew wd.heap.size rfl _).below hbd; have zp := zj.below hbp; obtain ⟨z0, z1, z2, z3, zf⟩ := zp; have zf0 := zf 0; have zf1 := zf 1; have zf2 := zf 2; have zf3 := zf 3; have hcl := hidp (close_set v0 v1 v2 v3 zj hbp hbq (Nat.le_refl _))) | (have zj := MS.new vj 0 0 false false; have zp := zj.below hbp; obtain ⟨z0, z1, z2, z3, zf⟩ := zp; have zf0 := zf 0; have zf1 := zf 1; have zf2 := zf 2; have zf3 := zf 3; have hcl := hidp (close_set v0 v1 v2 v3 zj hbp hbq hbv.size)) | (have hcl := hidp (And.intro (MS.new vp v0 v1 v2 v3) (bal hbq (.cells #[.int .i64 v0, .int .i64 v1, .bool v2, .bool v3] 24)))))))
      all_goals go_wp2
      all_goals go_meet
      all_goals exact ⟨rfl, _, rfl, hcl.out.1, hcl.out.2⟩
    case rest =>
      obtain ⟨rfl, P, rfl, Z, hb⟩ := hcut
      obtain ⟨q0, q1, q2, q3, _⟩ := S2.out.below hb
      obtain ⟨y0, y1, y2, y3, _⟩ := Z
      have hfin := bstep B2.out hb
      clear hb
      go_wp2_with fail
      go_ret
      exact ⟨rfl, hfin⟩
end Go.Proofs.Ytmlkhiffmkkmdaa.stateOrder
