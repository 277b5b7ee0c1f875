/- The walk of CombBack: the law returns true at all inputs, and no old memory changes. -/
import Derived.Test.YtpdigiefldnpaaaRank
import Derived.Test.YtpdigiefldnpaaaEqI
namespace Go.Proofs.Ytpdigiefldnpaaa.combBack
open Go.ChangeShapes Go.WideShapes Go.ChangeAt Go.RowKit
open Go.Proofs.Ytpdigiefldnpaaa
set_option maxRecDepth 20000
open CombMath

theorem ok12 : CombOk [1, 2] 2 := ⟨by omega, fun i hi => match i, hi with
  | 0, _ => by decide
  | 1, _ => by decide⟩
theorem ex1 : rs (cN [1, 2]) 2 = 2 := by decide +kernel
theorem some_self (xs : List Int) (n : Nat) (hl : xs.length = n) (h : CombOk xs n) : tab (someF n (rs (cN xs) n)) n = xs := by
  refine gi_ext _ _ (by rw [tab_len, hl]) (fun p hp => ?_)
  rw [tab_len] at hp
  rw [tab_gi _ _ _ hp]
  unfold someF
  rw [some_rs (cN xs) n h.1 (comb_rise xs n h) p hp]
  have := h.2 p hp
  unfold cN; omega
theorem some_ok (k r : Nat) (hk : k ≤ 30) (hr : r < wz 30 k) : CombOk (tab (someF k r) k) k := ⟨hk, fun i hi => by
  have h := sf_rise k r hk hr i hi
  rw [tab_gi _ _ _ hi]
  have e : ∀ j, someF k r j = (sf k r j : Nat) := fun j => rfl
  rw [e]
  refine ⟨by omega, by have := h.1; omega, fun h0 => ?_⟩
  rw [tab_gi _ _ _ (by omega), e]
  have := h.2 h0
  omega⟩
theorem back (k r : Nat) (hk : k ≤ 30) (hr : r < wz 30 k) : rs (cN (tab (someF k r) k)) k = r := by
  rw [rs_congr (cN (tab (someF k r) k)) (sf k r) k (fun i hi => by unfold cN; rw [tab_gi _ _ _ hi]; rfl)]
  exact rs_back k r hk hr

set_option linter.unusedVariables false
set_option maxHeartbeats 4000000 in
theorem walk (a0 : Option Addr) (len0 cap0 : Nat) (z0 : List Int) (a1 a2 : Int) (w : World)
    (w0 : IntsAt w a0 len0 cap0 z0) (w1 : (Lit.int .i64 a1).wf = true) (w2 : (Lit.int .i64 a2).wf = true) :
    Calls Try.prog 5 #[.slice a0 len0 cap0, .int .i64 a1, .int .i64 a2] w fun e w' => e = .returned (.bool true) ∧ Below w.heap.size w w' := by
  obtain ⟨k, hk⟩ : ∃ k, k = wn a1 31 := ⟨_, rfl⟩
  have hk1 := wn_lt a1 31 (by omega)
  have ck := withinN_c a1 31 (by omega) (by omega)
  rw [← hk] at hk1 ck
  have hk30 : k ≤ 30 := by omega
  have CK := hidp ck
  have hwl := wl_le 30 (by omega) k (by omega)
  have hwz : wz 30 k = wl 30 k := by unfold wz; rw [if_neg (by omega)]
  have CW := hidp (fun W => ways_nat 30 k (by omega) hk30 W)
  obtain ⟨A, hA⟩ : ∃ A, A = wl 30 k := ⟨_, rfl⟩
  rw [← hA] at hwl hwz CW
  obtain ⟨i, hi⟩ : ∃ i, i = wn a2 A := ⟨_, rfl⟩
  have hi1 := wn_lt a2 A (by omega)
  have ci := withinN_c a2 A (by omega) (by omega)
  rw [← hi] at hi1 ci
  have CI := hidp ci
  have hiA : i < A := by omega
  have CS := hidp (fun W => some_c k i hk30 (by rw [hwz]; exact hiA) W)
  have CN := hidp (fun W => some_none k A hk30 (by rw [hwz]; exact Nat.le_refl _) (by omega) W)
  have SOK := hidp (some_ok k i hk30 (by rw [hwz]; exact hiA))
  have BK := hidp (back k i hk30 (by rw [hwz]; exact hiA))
  have W0 := hidp w0
  have mm := w0.max
  have ee := w0.le
  obtain ⟨hA1, hA2⟩ := hwl
  clear w0 w1 w2 hk hk1 ck hwz hA hi hi1 ci
  go_enter Try.func5, Try.ntmps5
  go_wp2_with fail
  refine (rank_ok _ 2 _ [1, 2] _ ?s0 ok12).mono ?_
  case s0 => exact ints_lit [1, 2] (by simp) (by rfl) (by rfl) (by simp) (by omega)
  rintro e wa ⟨rfl, hba⟩
  rw [ex1]
  have hwa : Below w.heap.size w wa := bstep (bal (Below.refl _ _) _) hba
  clear hba
  have REST : ∀ (P : World → Prop), (∀ wx, Below w.heap.size w wx → P wx) → (∀ wx, Below w.heap.size w wx → P wx) := fun _ h => h
  clear REST
  by_cases hok : CombOk z0 len0
  · have RS := hidp (rs_all (cN z0) len0 hok.1 (comb_rise z0 len0 hok))
    have C1 := hidp (fun W hW => rank_ok a0 len0 cap0 z0 W hW hok)
    have hl30 := hok.1
    have S1 := hidp (some_self z0 len0 W0.out.len hok)
    clear hok
    obtain ⟨R, hR⟩ : ∃ R, R = rs (cN z0) len0 := ⟨_, rfl⟩
    rw [← hR] at RS C1 S1
    have CS1 := hidp (fun W => some_c len0 R hl30 RS.out W)
    rw [S1.out] at CS1
    clear hR RS S1
    go_wp2_with fail
    refine (C1.out _ (W0.out.below hwa)).mono ?_
    rintro e wb ⟨rfl, hbb⟩
    have hwb := bstep hwa hbb
    go_wp2_with fail
    refine (CS1.out _).mono ?_
    rintro e wc ⟨v, rfl, hv, hbc⟩
    obtain ⟨av, cv, hve, hav⟩ := owns_ints hv (W0.out).bd
    subst hve
    have hwc := bstep hwb hbc
    clear hv hbb hbc hwb hwa C1 CS1
    go_wp2_with fail
    refine (equali_c _ _ _ _ _ _ z0 z0 _ hav (W0.out.below hwc)).mono ?_
    rintro e wd ⟨rfl, hbd⟩
    rw [decide_eq_true rfl]
    have hwd := bstep hwc hbd
    clear hbd hwc hav
    go_wp2_with fail
    refine (CK.out _).mono ?_; rintro e w' ⟨rfl, rfl⟩
    go_wp2_with fail
    refine (CW.out _).mono ?_; rintro e w' ⟨rfl, rfl⟩
    go_wp2_with fail
    refine (CI.out _).mono ?_; rintro e w' ⟨rfl, rfl⟩
    go_wp2_with fail
    refine (CS.out _).mono ?_
    rintro e we ⟨v, rfl, hv, hbe⟩
    obtain ⟨ax, cx, hve, hax⟩ := owns_ints hv (fun x hx => by
      obtain ⟨j, hj, rfl⟩ := tab_mem _ _ _ hx
      have := SOK.out.2 j hj
      rw [tab_gi _ _ _ hj] at this
      omega)
    subst hve
    have hwe := bstep hwd hbe
    clear hv hbe hwd
    go_wp2_with fail
    refine (rank_ok _ _ _ _ _ hax SOK.out).mono ?_
    rintro e wf ⟨rfl, hbf⟩
    rw [BK.out]
    have hax := hax.below hbf
    have hwf := bstep hwe hbf
    clear hbf hwe
    go_wp2_with fail
    refine (CN.out _).mono ?_
    rintro e wg ⟨rfl, hbg⟩
    have hax := hax.below hbg
    have hwg := bstep hwf hbg
    clear hbg hwf
    go_wp2_with fail
    refine (ccheck_c _ _ _ _ _ hax).mono ?_
    rintro e wh ⟨E', rfl, hE', hbh⟩
    obtain rfl : E' = 0 := hE'.out.2.2.2 SOK.out
    go_wp2_with fail
    go_ret
    exact ⟨rfl, bstep hwg hbh⟩
  · have C1 := hidp (fun W hW => rank_bad a0 len0 cap0 z0 W hW hok)
    clear hok
    go_wp2_with fail
    refine (C1.out _ (W0.out.below hwa)).mono ?_
    rintro e wd ⟨E, rfl, hE, hbb⟩
    have hwd := bstep hwa hbb
    have hne : (E == 0) = false := by rw [beq_eq_false_iff_ne]; exact hE.out
    clear hbb hwa C1
    go_wp2_with fail
    refine (CK.out _).mono ?_; rintro e w' ⟨rfl, rfl⟩
    go_wp2_with fail
    refine (CW.out _).mono ?_; rintro e w' ⟨rfl, rfl⟩
    go_wp2_with fail
    refine (CI.out _).mono ?_; rintro e w' ⟨rfl, rfl⟩
    go_wp2_with fail
    refine (CS.out _).mono ?_
    rintro e we ⟨v, rfl, hv, hbe⟩
    obtain ⟨ax, cx, hve, hax⟩ := owns_ints hv (fun x hx => by
      obtain ⟨j, hj, rfl⟩ := tab_mem _ _ _ hx
      have := SOK.out.2 j hj
      rw [tab_gi _ _ _ hj] at this
      omega)
    subst hve
    have hwe := bstep hwd hbe
    clear hv hbe hwd
    go_wp2_with fail
    refine (rank_ok _ _ _ _ _ hax SOK.out).mono ?_
    rintro e wf ⟨rfl, hbf⟩
    rw [BK.out]
    have hax := hax.below hbf
    have hwf := bstep hwe hbf
    clear hbf hwe
    go_wp2_with fail
    refine (CN.out _).mono ?_
    rintro e wg ⟨rfl, hbg⟩
    have hax := hax.below hbg
    have hwg := bstep hwf hbg
    clear hbg hwf
    go_wp2_with fail
    refine (ccheck_c _ _ _ _ _ hax).mono ?_
    rintro e wh ⟨E', rfl, hE', hbh⟩
    obtain rfl : E' = 0 := hE'.out.2.2.2 SOK.out
    go_wp2_with fail
    go_ret
    exact ⟨rfl, bstep hwg hbh⟩
end Go.Proofs.Ytpdigiefldnpaaa.combBack
