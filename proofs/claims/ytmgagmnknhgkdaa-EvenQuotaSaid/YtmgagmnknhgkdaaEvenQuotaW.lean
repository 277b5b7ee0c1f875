/- The walk of EvenQuota: the law returns true at all inputs, and no old memory changes. -/
import Derived.Test.YtmgagmnknhgkdaaEven
import Derived.Test.YtmgagmnknhgkdaaQuota
import Derived.Test.YtmgagmnknhgkdaaEqI
namespace Go.Proofs.Ytmgagmnknhgkdaa.evenQuota
open Go.ChangeShapes Go.WideShapes Go.ChangeAt Go.RowKit
open Go.Proofs.Ytmgagmnknhgkdaa

theorem ex1 : (tab (evM [1, 1] (4 : Nat) (0 : Nat) 2) 2).map (Value.int .i64) = [2, 2].map (Value.int .i64) := by
  rw [show tab (evM [1, 1] (4 : Nat) (0 : Nat) 2) 2 = [2, 2] from by decide +kernel]
set_option linter.unusedVariables false
set_option maxHeartbeats 4000000 in
theorem walk (a0 : Option Addr) (len0 cap0 : Nat) (z0 : List Int) (a1 : Int) (a2 : Int) (w : World)
    (w0 : IntsAt w a0 len0 cap0 z0) (w1 : (Lit.int .i64 a1).wf = true) (w2 : (Lit.int .i64 a2).wf = true) :
    Calls Try.prog 6 #[.slice a0 len0 cap0, .int .i64 a1, .int .i64 a2] w fun e w' => e = .returned (.bool true) ∧ Below w.heap.size w w' := by
  have mm := w0.max
  have ee := w0.le
  clear w1 w2
  by_cases hE : evE z0 len0 a1 a2 = 0
  · obtain ⟨hW, k1, k2, s1, s2⟩ := evE_zero _ _ _ _ hE
    obtain ⟨h40, hok, hpos⟩ := wtsE_zero _ _ hW
    obtain ⟨K, rfl⟩ := Int.eq_ofNat_of_zero_le (show 0 ≤ a1 by omega)
    obtain ⟨S, rfl⟩ := Int.eq_ofNat_of_zero_le s1
    have C := hidp (fun W h => even_ok a0 len0 cap0 z0 K S K S rfl rfl W h h40 hok (by omega) (by omega) s2)
    have QA := hidp (quota_all z0 len0 hok K S s2)
    have QI := hidp (quota z0 len0 hok K S s2)
    have SB := hidp (fun k (hk : k ≤ len0) => sumK_ok z0 k (okN_down z0 len0 k hok hk))
    have OK := hidp (okN_at z0 len0 hok)
    have MB := hidp (fun k (hk : k ≤ len0) => sumK_bd (tab (evM z0 K S len0) len0) 1000 (by omega) k (fun i hi => by rw [tab_gi _ _ _ (by omega)]; have := evM_bd z0 K S len0 i; omega))
    have hA := sumK_ok z0 len0 hok
    clear hE hW hok
    go_enter Try.func6, Try.ntmps6
    go_wp2_with fail
    refine (even_ok _ 2 2 [1, 1] 4 0 4 0 rfl rfl _ ?s0 (by omega) (by decide) (by omega) (by omega) (by decide)).mono ?_
    case s0 => exact ints_lit [1, 1] (by simp) (by rfl) (by rfl) (by simp) (by omega)
    rintro e wa ⟨v, rfl, hv, hba⟩
    rw [ex1] at hv
    obtain ⟨av, cv, hve, hav⟩ := owns_ints hv (by simp)
    subst hve
    clear hv
    go_wp2_with fail
    refine (equali_c _ _ 2 2 _ _ [2, 2] [2, 2] _ (hav.alloc _) ?s3).mono ?_
    case s3 => exact ints_lit [2, 2] (by simp) (by rfl) (by rfl) (by simp) (by omega)
    rintro e wb ⟨rfl, hbb⟩
    rw [decide_eq_true rfl]
    have hwb : Below w.heap.size w wb := bstep (bal (bstep (bal (Below.refl _ _) _) hba) _) hbb
    clear hba hbb hav
    go_wp2_with fail
    refine (C.out _ (w0.below hwb)).mono ?_
    rintro e wc ⟨v, rfl, hv, hbc⟩
    obtain ⟨am, cm, hve, ham⟩ := owns_ints hv (fun x hx => by obtain ⟨i, hi, rfl⟩ := tab_mem _ _ _ hx; have := evM_bd z0 K S len0 i; omega)
    subst hve
    have hwc : Below w.heap.size w wc := bstep hwb hbc
    have w0c := w0.below hwc
    clear hv
    go_wp2_with fail
    refine (isum_c _ _ _ z0 _ w0c (fun k hk => by have := SB.out k hk; omega)).mono ?_
    rintro e w' ⟨rfl, rfl⟩
    go_wp2_with fail
    refine (isum_c _ _ _ _ _ ham (fun k hk => by have := MB.out k hk; omega)).mono ?_
    rintro e w' ⟨rfl, rfl⟩
    rw [QA.out]
    obtain ⟨A, hAe⟩ : ∃ A, A = sumK z0 len0 := ⟨_, rfl⟩
    rw [← hAe] at QI hA hpos s2 ⊢
    have hne1 : ((K : Int) != (K : Int)) = false := by simp
    have hne2 : ((len0 : Int) != (len0 : Int)) = false := by simp
    have HZ := hidp w0c.split
    have HM := hidp ham.split
    have mcm := hidp ham.max
    have hA4 : 0 ≤ A ∧ A ≤ 40000000000000 := by omega
    obtain ⟨hA1, hA2⟩ := hA4
    clear hAe w0 C ham
    go_wp2_with fail
    go_loopw [55] (fun i wr => ∃ j : Nat, j ≤ len0 ∧ i = .int .i64 j ∧ wr = wc) (fun i _ => len0 - (intOf i).toNat)
    case atStart => exact ⟨0, by omega, rfl, rfl⟩
    case round =>
      obtain ⟨j, hj, rfl, rfl⟩ := hrel
      by_cases hlt : j < len0
      · obtain ⟨b0, o0, hz0, hc0⟩ := HZ.out
        obtain rfl : a0 = some ⟨b0, o0, none⟩ := hz0.resolve_left (by omega)
        obtain ⟨bm, om, hzm, hcm⟩ := HM.out
        obtain rfl : am = some ⟨bm, om, none⟩ := hzm.resolve_left (by omega)
        have q1 := (hc0 j hlt).2
        have q2 := (hcm j hlt).2
        rw [tab_gi _ _ _ hlt] at q2
        obtain ⟨x1, x2⟩ := QI.out j hlt
        have eb := evM_bd z0 K S len0 j
        obtain ⟨y1, y2⟩ := OK.out j hlt
        generalize evM z0 K S len0 j = M at *
        generalize gi z0 j = G at *
        have hMA : 0 ≤ M * A ∧ M * A ≤ 40000000000000000 := by
          obtain ⟨M', rfl⟩ := Int.eq_ofNat_of_zero_le eb.1
          obtain ⟨A', rfl⟩ := Int.eq_ofNat_of_zero_le hA1
          exact ⟨Int.mul_nonneg (by omega) (by omega), mul_le_cast (A := 1000) (B := 40000000000000) (by omega) (by omega)⟩
        have hKG : 0 ≤ (K : Int) * G ∧ (K : Int) * G ≤ 1000000000000000 := by
          obtain ⟨G', rfl⟩ := Int.eq_ofNat_of_zero_le y1
          exact ⟨Int.mul_nonneg (by omega) (by omega), mul_le_cast (A := 1000) (B := 1000000000000) (by omega) (by omega)⟩
        obtain ⟨ma1, ma2⟩ := hMA
        obtain ⟨kg1, kg2⟩ := hKG
        obtain ⟨eb1, eb2⟩ := eb
        clear hc0 hcm hz0 hzm
        go_wp2_with fail
        go_roundw
        case rel => exact ⟨j + 1, by omega, by go_num, by first | trivial | rfl⟩
        case measure => simp [intOf]; omega
      · obtain rfl : j = len0 := by omega
        go_wp2_with fail
        go_ret
        exact ⟨rfl, hwc⟩
  · have C := hidp (fun W h => even_bad a0 len0 cap0 z0 a1 a2 W h hE)
    have hne : (evE z0 len0 a1 a2 != 0) = true := by rw [bne_iff_ne]; exact hE
    clear hE
    generalize evE z0 len0 a1 a2 = E at *
    go_enter Try.func6, Try.ntmps6
    go_wp2_with fail
    refine (even_ok _ 2 2 [1, 1] 4 0 4 0 rfl rfl _ ?s0 (by omega) (by decide) (by omega) (by omega) (by decide)).mono ?_
    case s0 => exact ints_lit [1, 1] (by simp) (by rfl) (by rfl) (by simp) (by omega)
    rintro e wa ⟨v, rfl, hv, hba⟩
    rw [ex1] at hv
    obtain ⟨av, cv, hve, hav⟩ := owns_ints hv (by simp)
    subst hve
    clear hv
    go_wp2_with fail
    refine (equali_c _ _ 2 2 _ _ [2, 2] [2, 2] _ (hav.alloc _) ?s3).mono ?_
    case s3 => exact ints_lit [2, 2] (by simp) (by rfl) (by rfl) (by simp) (by omega)
    rintro e wb ⟨rfl, hbb⟩
    rw [decide_eq_true rfl]
    have hwb : Below w.heap.size w wb := bstep (bal (bstep (bal (Below.refl _ _) _) hba) _) hbb
    clear hba hbb hav
    go_wp2_with fail
    refine (C.out _ (w0.below hwb)).mono ?_
    rintro e w' ⟨rfl, rfl⟩
    go_wp2_with fail
    go_ret
    exact ⟨rfl, hwb⟩
end Go.Proofs.Ytmgagmnknhgkdaa.evenQuota
