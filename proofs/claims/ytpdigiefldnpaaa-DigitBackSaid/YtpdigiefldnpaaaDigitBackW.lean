/- The walk of DigitBack: the law returns true at all inputs, and no old memory changes. -/
import Derived.Test.YtpdigiefldnpaaaDRank
import Derived.Test.YtpdigiefldnpaaaCmp
import Derived.Test.YtpdigiefldnpaaaEqI
namespace Go.Proofs.Ytpdigiefldnpaaa.digitBack
open Go.ChangeShapes Go.WideShapes Go.ChangeAt Go.RowKit
open Go.Proofs.Ytpdigiefldnpaaa
set_option maxRecDepth 20000

theorem ok10 : PermOk [1, 0] 2 := ⟨by omega, fun i hi => match i, hi with
  | 0, _ => ⟨by decide, by decide, fun j hj => by omega⟩
  | 1, _ => ⟨by decide, by decide, fun j hj => by obtain rfl : j = 0 := by omega
                                                  decide⟩⟩
theorem ex1 : rkD [1, 0] 2 2 = 1 := by decide +kernel
/-- Order where there is none. -/
theorem order_none (n r : Nat) (hn : n ≤ 12) (hr : fct n ≤ r) (hr2 : r ≤ 1000000000000) (w : World) :
    Calls Try.prog 34 #[.int .i64 n, .int .i64 r] w fun e w' => e = .returned (.tuple #[.slice none 0 0, .int .i64 4]) ∧ Below w.heap.size w w' := by
  have FN := hidp (dfact_n n hn)
  have hr' : ((fct n : Nat) : Int) ≤ (r : Int) := by omega
  generalize fct n = F at *
  have d1 : decide ((n : Int) < 0) = false := decide_eq_false (by omega)
  have d2 : decide ((12 : Int) < (n : Int)) = false := decide_eq_false (by omega)
  have d3 : decide ((r : Int) < 0) = false := decide_eq_false (by omega)
  have d4 : decide (F ≤ r) = true := decide_eq_true (by omega)
  go_enter Try.func34, Try.ntmps34
  go_wp2_with fail
  refine (FN.out _).mono ?_; rintro e w' ⟨rfl, rfl⟩
  go_wp2_with fail
  go_ret2
  exact ⟨rfl, Below.refl _ _⟩

set_option linter.unusedVariables false
set_option maxHeartbeats 4000000 in
theorem walk (a0 : Option Addr) (len0 cap0 : Nat) (z0 : List Int) (a1 a2 a3 : Int) (w : World)
    (w0 : IntsAt w a0 len0 cap0 z0) (w1 : (Lit.int .i64 a1).wf = true) (w2 : (Lit.int .i64 a2).wf = true) (w3 : (Lit.int .i64 a3).wf = true) :
    Calls Try.prog 13 #[.slice a0 len0 cap0, .int .i64 a1, .int .i64 a2, .int .i64 a3] w fun e w' => e = .returned (.bool true) ∧ Below w.heap.size w w' := by
  obtain ⟨n, hn⟩ : ∃ n, n = wn a1 13 := ⟨_, rfl⟩
  have hn1 := wn_lt a1 13 (by omega)
  have cn := withinN_c a1 13 (by omega) (by omega)
  rw [← hn] at hn1 cn
  have hn12 : n ≤ 12 := by omega
  have CN := hidp cn
  have hf := fct_tab n (by omega)
  have CF := hidp (fun W => rfact_n n hn12 W)
  obtain ⟨F, hF⟩ : ∃ F, F = fct n := ⟨_, rfl⟩
  rw [← hF] at hf CF
  obtain ⟨hf1, hf2⟩ := hf
  obtain ⟨i, hi⟩ : ∃ i, i = wn a2 F := ⟨_, rfl⟩
  have hi1 := wn_lt a2 F (by omega)
  have ci := withinN_c a2 F (by omega) (by omega)
  rw [← hi] at hi1 ci
  have CI := hidp ci
  obtain ⟨k, hk⟩ : ∃ k, k = wn a3 F := ⟨_, rfl⟩
  have hk1 := wn_lt a3 F (by omega)
  have ck := withinN_c a3 F (by omega) (by omega)
  rw [← hk] at hk1 ck
  have CK := hidp ck
  have hiF : i < fct n := by omega
  have hkF : k < fct n := by omega
  have CO1 := hidp (fun W => order_c n i n i rfl rfl hn12 hiF W)
  have CO2 := hidp (fun W => order_c n k n k rfl rfl hn12 hkF W)
  have CO3 := hidp (fun W => order_none n F hn12 (by omega) (by omega) W)
  have P1 := hidp (ord_ok n i hn12 hiF)
  have P2 := hidp (ord_ok n k hn12 hkF)
  have L1 := hidp (ordL_len n i (idn n))
  have L2 := hidp (ordL_len n k (idn n))
  have RO := hidp (rank_order n i hiF)
  have CR := hidp (cmp_ranks n i k hiF hkF)
  generalize ordL n i (idn n) = X at *
  generalize ordL n k (idn n) = Y at *
  have CB := hidp (cmp_bd X Y)
  have W0 := hidp w0
  have mm := w0.max
  have ee := w0.le
  clear hn hn1 cn hF hi hi1 ci hk hk1 ck hiF hkF w0 w1 w2 w3
  go_enter Try.func13, Try.ntmps13
  go_wp2_with fail
  refine (drank_ok _ 2 _ [1, 0] _ ?s0 ok10).mono ?_
  case s0 => exact ints_lit [1, 0] (by simp) (by rfl) (by rfl) (by simp) (by omega)
  rintro e wa ⟨rfl, hba⟩
  rw [ex1]
  have hwa : Below w.heap.size w wa := bstep (bal (Below.refl _ _) _) hba
  clear hba
  by_cases hok : PermOk z0 len0
  · obtain ⟨o1, o2⟩ := order_rank z0 len0 W0.out.len hok
    have C1 := hidp (fun W hW => drank_ok a0 len0 cap0 z0 W hW hok)
    have hl12 := hok.1
    have CS1 := hidp (fun W => order_c len0 (rkD z0 len0 len0) len0 (rkD z0 len0 len0 : Nat) rfl rfl hl12 o1 W)
    rw [o2] at CS1
    clear hok o1 o2
    generalize rkD z0 len0 len0 = R at *
    go_wp2_with fail
    refine (C1.out _ (W0.out.below hwa)).mono ?_
    rintro e wb ⟨rfl, hbb⟩
    have hwb := bstep hwa hbb
    go_wp2_with fail
    refine (CS1.out _).mono ?_
    rintro e wc ⟨v, rfl, hv, hbc⟩
    obtain ⟨av, cv, hve, hav⟩ := owns_ints hv (W0.out).bd
    subst hve
    have hwc := bstep hwb hbc
    clear hv hbb hbc hwb hwa C1 CS1
    go_wp2_with fail
    refine (equali_c _ _ _ _ _ _ z0 z0 _ hav (W0.out.below hwc)).mono ?_
    rintro e wd ⟨rfl, hbd⟩
    rw [decide_eq_true rfl]
    have hwd := bstep hwc hbd
    clear hbd hwc hav
    go_wp2_with fail
    refine (CN.out _).mono ?_; rintro e w' ⟨rfl, rfl⟩
    go_wp2_with fail
    refine (CF.out _).mono ?_; rintro e w' ⟨rfl, rfl⟩
    go_wp2_with fail
    refine (CI.out _).mono ?_; rintro e w' ⟨rfl, rfl⟩
    go_wp2_with fail
    refine (CK.out _).mono ?_; rintro e w' ⟨rfl, rfl⟩
    go_wp2_with fail
    refine (CO1.out _).mono ?_
    rintro e we ⟨v, rfl, hv, hbe⟩
    obtain ⟨ax, cax, hve, hax⟩ := owns_ints hv (fun x hx => by
      obtain ⟨j, hj, hx⟩ := List.getElem_of_mem hx
      have hl := L1.out
      have := P1.out.2 j (by omega)
      rw [gi_at _ j hj, hx] at this
      omega)
    subst hve
    have hwe := bstep hwd hbe
    clear hv hbe hwd
    go_wp2_with fail
    refine (CO2.out _).mono ?_
    rintro e wf ⟨v, rfl, hv, hbf⟩
    obtain ⟨ay, cay, hve, hay⟩ := owns_ints hv (fun x hx => by
      obtain ⟨j, hj, hx⟩ := List.getElem_of_mem hx
      have hl := L2.out
      have := P2.out.2 j (by omega)
      rw [gi_at _ j hj, hx] at this
      omega)
    subst hve
    have hax := hax.below hbf
    have hwf := bstep hwe hbf
    clear hv hbf hwe
    go_wp2_with fail
    refine (drank_ok _ _ _ _ _ hax P1.out).mono ?_
    rintro e wg ⟨rfl, hbg⟩
    rw [RO.out]
    have hax := hax.below hbg
    have hay := hay.below hbg
    have hwg := bstep hwf hbg
    clear hbg hwf
    go_wp2_with fail
    refine (CO3.out _).mono ?_
    rintro e wh ⟨rfl, hbh⟩
    have hax := hax.below hbh
    have hay := hay.below hbh
    have hwh := bstep hwg hbh
    clear hbh hwg
    go_wp2_with fail
    refine (compare_c _ _ _ _ _ _ _ _ hax hay).mono ?_
    rintro e wi ⟨rfl, hbi⟩
    have hwi := bstep hwh hbi
    have cr := CR.out
    clear hax hay hbi hwh CN CF CI CK CO1 CO2 CO3
    generalize cmpF X Y = C at *
    by_cases hik : (i : Int) < (k : Int)
    · have h1 : C < 0 := by rw [decide_eq_true hik] at cr; exact of_decide_eq_true cr
      have h2 : i < k := by omega
      clear cr
      go_wp2_with fail
      go_ret
      exact ⟨ret_bool (by simp [h1, h2]), hwi⟩
    · have h1 : ¬ C < 0 := by rw [decide_eq_false hik] at cr; exact of_decide_eq_false cr
      have h2 : ¬ i < k := by omega
      have h3 : 0 ≤ C := by omega
      have h4 : k ≤ i := by omega
      clear cr
      go_wp2_with fail
      go_ret
      exact ⟨ret_bool (by simp [h3, h4]), hwi⟩
  · have C1 := hidp (fun W hW => drank_bad a0 len0 cap0 z0 W hW hok)
    clear hok
    go_wp2_with fail
    refine (C1.out _ (W0.out.below hwa)).mono ?_
    rintro e wd ⟨E, rfl, hE, hbb⟩
    have hwd := bstep hwa hbb
    have hne : (E == 0) = false := by rw [beq_eq_false_iff_ne]; exact hE.out
    clear hbb hwa C1
    go_wp2_with fail
    refine (CN.out _).mono ?_; rintro e w' ⟨rfl, rfl⟩
    go_wp2_with fail
    refine (CF.out _).mono ?_; rintro e w' ⟨rfl, rfl⟩
    go_wp2_with fail
    refine (CI.out _).mono ?_; rintro e w' ⟨rfl, rfl⟩
    go_wp2_with fail
    refine (CK.out _).mono ?_; rintro e w' ⟨rfl, rfl⟩
    go_wp2_with fail
    refine (CO1.out _).mono ?_
    rintro e we ⟨v, rfl, hv, hbe⟩
    obtain ⟨ax, cax, hve, hax⟩ := owns_ints hv (fun x hx => by
      obtain ⟨j, hj, hx⟩ := List.getElem_of_mem hx
      have hl := L1.out
      have := P1.out.2 j (by omega)
      rw [gi_at _ j hj, hx] at this
      omega)
    subst hve
    have hwe := bstep hwd hbe
    clear hv hbe hwd
    go_wp2_with fail
    refine (CO2.out _).mono ?_
    rintro e wf ⟨v, rfl, hv, hbf⟩
    obtain ⟨ay, cay, hve, hay⟩ := owns_ints hv (fun x hx => by
      obtain ⟨j, hj, hx⟩ := List.getElem_of_mem hx
      have hl := L2.out
      have := P2.out.2 j (by omega)
      rw [gi_at _ j hj, hx] at this
      omega)
    subst hve
    have hax := hax.below hbf
    have hwf := bstep hwe hbf
    clear hv hbf hwe
    go_wp2_with fail
    refine (drank_ok _ _ _ _ _ hax P1.out).mono ?_
    rintro e wg ⟨rfl, hbg⟩
    rw [RO.out]
    have hax := hax.below hbg
    have hay := hay.below hbg
    have hwg := bstep hwf hbg
    clear hbg hwf
    go_wp2_with fail
    refine (CO3.out _).mono ?_
    rintro e wh ⟨rfl, hbh⟩
    have hax := hax.below hbh
    have hay := hay.below hbh
    have hwh := bstep hwg hbh
    clear hbh hwg
    go_wp2_with fail
    refine (compare_c _ _ _ _ _ _ _ _ hax hay).mono ?_
    rintro e wi ⟨rfl, hbi⟩
    have hwi := bstep hwh hbi
    have cr := CR.out
    clear hax hay hbi hwh CN CF CI CK CO1 CO2 CO3
    generalize cmpF X Y = C at *
    by_cases hik : (i : Int) < (k : Int)
    · have h1 : C < 0 := by rw [decide_eq_true hik] at cr; exact of_decide_eq_true cr
      have h2 : i < k := by omega
      clear cr
      go_wp2_with fail
      go_ret
      exact ⟨ret_bool (by simp [h1, h2]), hwi⟩
    · have h1 : ¬ C < 0 := by rw [decide_eq_false hik] at cr; exact of_decide_eq_false cr
      have h2 : ¬ i < k := by omega
      have h3 : 0 ≤ C := by omega
      have h4 : k ≤ i := by omega
      clear cr
      go_wp2_with fail
      go_ret
      exact ⟨ret_bool (by simp [h3, h4]), hwi⟩
end Go.Proofs.Ytpdigiefldnpaaa.digitBack
