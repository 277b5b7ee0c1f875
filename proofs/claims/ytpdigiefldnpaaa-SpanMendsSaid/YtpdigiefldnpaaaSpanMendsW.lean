/- The walk of SpanMends: the law returns true at all inputs, and no old memory changes. -/
import Derived.Test.YtpdigiefldnpaaaMend
import Derived.Test.YtpdigiefldnpaaaEqS
import Derived.Test.YtpdigiefldnpaaaWhole
namespace Go.Proofs.Ytpdigiefldnpaaa.spanMends
open Go.ChangeShapes Go.WideShapes Go.ChangeAt Go.RowKit
open Go.Proofs.Ytpdigiefldnpaaa
set_option maxRecDepth 20000

theorem ex1 : spanCells (gi [-1, 0]) (mdS (gi [-1, 0]) 2 (gi [3, 1]) 2) 2 = spanCells (gi [-1, 0]) (gi [1, 1]) 2 := spanCells_congr _ _ _ _ 2 (fun i hi => match i, hi with
  | 0, _ => ⟨rfl, by decide +kernel⟩
  | 1, _ => ⟨rfl, by decide +kernel⟩)
theorem lev_mono (a b : Nat) (h : a ≤ b) : lev a ≤ lev b := by
  rw [lev_nat, lev_nat]
  have : 72057594037927936 / 2 ^ b ≤ 72057594037927936 / 2 ^ a := Nat.div_le_div_left (Nat.pow_le_pow_right (by omega) h) (Nat.pow_pos (by omega))
  omega
theorem kb_mono (l m : List Int) (r : Int) (i : Nat) (h : gi m i ≤ gi l i) (hk : kb l r i = true) : kb m r i = true := by
  unfold kb at *
  rw [decide_eq_true_eq] at *
  have := lev_mono (gi m i).toNat (gi l i).toNat (by omega)
  omega
/-- Mended, what is kept is whole. -/
theorem whole (U : List Int) (M : Nat → Int) (N : Nat) (r : Int) (hu : ∀ i, i < N → gi U i < i) (hc : ∀ i, i < N → 0 ≤ gi U i → M (gi U i).toNat ≤ M i) : wholeB U (tab (kb (tab M N) r) N) N = true :=
  wholeB_true _ _ _ (fun i hi => by
    unfold wh1
    by_cases h1 : gb (tab (kb (tab M N) r) N) i = true ∧ 0 ≤ gi U i
    · obtain ⟨h1, h2⟩ := h1
      have hui := hu i hi
      rw [tab_gb _ _ _ hi] at h1
      have hk : gb (tab (kb (tab M N) r) N) (gi U i).toNat = true := by
        rw [tab_gb _ _ _ (by omega)]
        unfold kb at h1 ⊢
        rw [decide_eq_true_eq] at *
        rw [tab_gi _ _ _ (by omega)]
        rw [tab_gi _ _ _ hi] at h1
        have := hc i hi h2
        have := lev_mono (M (gi U i).toNat).toNat (M i).toNat (by omega)
        omega
      simp [hk]
    · by_cases h2 : gb (tab (kb (tab M N) r) N) i = true
      · have h3 : ¬ 0 ≤ gi U i := fun h => h1 ⟨h2, h⟩
        simp [h3]
      · simp [h2])
theorem tab_self (f : Nat → Int) (N : Nat) : tab (gi (tab f N)) N = tab f N := tab_congr _ _ _ (fun i hi => tab_gi _ _ _ hi)

set_option linter.unusedVariables false
set_option maxHeartbeats 4000000 in
theorem walk (a0 : Option Addr) (len0 cap0 : Nat) (z0 : List (List Int)) (a1 : Int) (w : World)
    (w0 : RowsAt w a0 len0 cap0 z0) (w1 : (Lit.int .i64 a1).wf = true) :
    Calls Try.prog 4 #[.slice a0 len0 cap0, .int .i64 a1] w fun e w' => e = .returned (.bool true) ∧ Below w.heap.size w w' := by
  have r1 := drw_lo a1
  have r2 := drw_hi a1
  have CD := hidp (draw_c a1)
  generalize drw a1 = r at *
  go_enter Try.func4, Try.ntmps4
  go_wp2_with fail
  refine (mend_c _ 2 _ [-1, 0] [3, 1] _ ?s0 (by omega) ?s1).mono ?_
  case s0 => exact span_lit2 (-1) 3 0 1 (by rfl) (by rfl)
  case s1 => intro i hi; match i, hi with | 0, _ => decide | 1, _ => decide
  rintro e wa ⟨v, rfl, hv, hba⟩
  rw [ex1] at hv
  obtain ⟨av, cv, hve, hav⟩ := owns_spans hv
  subst hve
  clear hv
  go_wp2_with fail
  refine (eqs_c _ _ 2 _ _ [-1, 0] [1, 1] _ (hav.alloc _) ?s2).mono ?_
  case s2 => exact span_lit2 (-1) 1 0 1 (by rfl) (by rfl)
  rintro e wb ⟨rfl, hbb⟩
  have hwb : Below w.heap.size w wb := bstep (bal (bstep (bal (Below.refl _ _) _) hba) _) hbb
  clear hba hbb hav
  go_wp2_with fail
  refine (spans_c _ _ _ z0 20 _ (w0.below hwb) (by omega) (by omega)).mono ?_
  rintro e wc ⟨v, rfl, hv, hbc⟩
  have hwc : Below w.heap.size w wc := bstep hwb hbc
  have hN : min len0 40 ≤ 40 := by omega
  generalize min len0 40 = N at *
  obtain ⟨asp, csp, hve, has⟩ := owns_spans hv
  subst hve
  have hok := spans_ok z0 20 (by omega) (by omega) N
  have msp := hidp has.max
  clear hv hwb hbc
  have hUU := tab_self (upf z0) N
  obtain ⟨L, hL⟩ : ∃ L, L = tab (lvf z0 20) N := ⟨_, rfl⟩
  have hLl : L.length = N := by rw [hL, tab_len]
  rw [← hL] at has hok
  obtain ⟨U, hU⟩ : ∃ U, U = tab (upf z0) N := ⟨_, rfl⟩
  rw [← hU] at has hok hUU
  clear hL hU
  obtain ⟨M, hM⟩ : ∃ M, M = mdS (gi U) N (gi L) N := ⟨_, rfl⟩
  have L0 : ∀ k, 0 ≤ gi L k := fun k => by
    by_cases hk : k < N
    · exact (hok k hk).2.2.1
    · unfold gi; rw [List.getD_eq_getElem?_getD, List.getElem?_eq_none (by omega)]; simp
  have M0 : ∀ k, 0 ≤ M k := fun k => by rw [hM]; exact mdS_ge _ _ _ 0 L0 N k
  have ML : ∀ k, M k ≤ gi L k := fun k => by rw [hM]; exact mdS_le _ _ _ k N
  have MC : ∀ i, i < N → 0 ≤ gi U i → M (gi U i).toNat ≤ M i := fun i hi h0 => by
    rw [hM]; exact mdS_closed (gi U) N (gi L) (fun i hi => (hok i hi).2.1) N (Nat.le_refl _) i (by omega) hi h0
  have hok2 : SpansOk N U (tab M N) := fun i hi => by
    have h := hok i hi
    rw [tab_gi _ _ _ hi]
    have := M0 i
    have := ML i
    exact ⟨h.1, h.2.1, by omega, by omega⟩
  have hsame : spanCells (gi U) (mdS (gi U) N (gi (tab M N)) N) N = spanCells (gi U) M N := spanCells_congr _ _ _ _ N (fun i hi => ⟨rfl, by
    rw [mdS_same (gi U) N (gi (tab M N)) (fun j hj h0 => by
      have hu := (hok j hj).2.1
      rw [tab_gi _ _ _ (by omega), tab_gi _ _ _ hj]
      exact MC j hj h0) N (Nat.le_refl _), tab_gi _ _ _ hi]⟩)
  have WH := hidp (whole U M N r (fun i hi => (hok i hi).2.1) MC)
  have HOK := hidp hok
  have HOK2 := hidp hok2
  have KM := hidp (fun i (hi : i < N) (hk : kb L r i = true) => kb_mono L (tab M N) r i (by rw [tab_gi _ _ _ hi]; exact ML i) hk)
  have MLH := hidp (fun i (hi : i < N) => show gi (tab M N) i ≤ gi L i by rw [tab_gi _ _ _ hi]; exact ML i)
  have HS := hidp hsame
  have HUU := hidp hUU
  have C1 := hidp (fun W (h : SpansAt W asp N csp U L) => mend_c asp N csp U L W h hN hok)
  rw [← hM] at C1
  clear hok hok2 hsame hUU L0 M0 ML MC hM
  have hne : ((N : Int) != (N : Int)) = false := by simp
  go_wp2_with fail
  refine (CD.out _).mono ?_
  rintro e w' ⟨rfl, rfl⟩
  go_wp2_with fail
  refine (C1.out _ has).mono ?_
  rintro e wd ⟨v, rfl, hv, hbd⟩
  obtain ⟨am, cm, hve, ham⟩ := owns_spans hv
  rw [HUU.out] at ham
  subst hve
  have has := has.below hbd
  have hwd := bstep hwc hbd
  clear hv hbd hwc
  go_wp2_with fail
  refine (mend_c _ _ _ _ _ _ ham hN HOK2.out).mono ?_
  rintro e we ⟨v, rfl, hv, hbe⟩
  rw [HS.out] at hv
  obtain ⟨an, cn, hve, han⟩ := owns_spans hv
  rw [HUU.out] at han
  subst hve
  have has := has.below hbe
  have ham := ham.below hbe
  have hwe := bstep hwd hbe
  clear hv hbe hwd
  go_wp2_with fail
  refine (kept_c _ _ _ _ _ r _ has hN HOK.out r1 r2).mono ?_
  rintro e wf ⟨v, rfl, hv, hbf⟩
  obtain ⟨ak, ck, hve, hak⟩ := owns_bools hv
  subst hve
  have has := has.below hbf
  have ham := ham.below hbf
  have han := han.below hbf
  have hwf := bstep hwe hbf
  clear hv hbf hwe
  go_wp2_with fail
  refine (kept_c _ _ _ _ _ r _ ham hN HOK2.out r1 r2).mono ?_
  rintro e wg ⟨v, rfl, hv, hbg⟩
  obtain ⟨al, cl, hve, hal⟩ := owns_bools hv
  subst hve
  have has := has.below hbg
  have ham := ham.below hbg
  have han := han.below hbg
  have hak := hak.below hbg
  have hwg := bstep hwf hbg
  clear hv hbg hwf
  go_wp2_with fail
  refine (whole_c _ _ _ _ _ _ _ _ _ ham hal hN HOK2.out).mono ?_
  rintro e wh ⟨rfl, hbh⟩
  rw [WH.out]
  have has := has.below hbh
  have ham := ham.below hbh
  have han := han.below hbh
  have hak := hak.below hbh
  have hal := hal.below hbh
  have hwh := bstep hwg hbh
  clear hbh hwg
  go_wp2_with fail
  refine (eqs_c _ _ _ _ _ _ _ _ han ham).mono ?_
  rintro e wi ⟨rfl, hbi⟩
  have has := has.below hbi
  have ham := ham.below hbi
  have hak := hak.below hbi
  have hal := hal.below hbi
  have hwi := bstep hwh hbi
  have mk := hidp hak.max
  have ml := hidp hal.max
  have mm := hidp ham.max
  clear hbi hwh han
  rcases Nat.eq_zero_or_pos N with hz | hz
  · subst hz
    go_wp2_with fail
    refine wp_loop_rounds 1 ?_; rw [rounds_succ]
    go_wp2
    go_ret
    exact ⟨rfl, hwi⟩
  · obtain ⟨bk, ok', rfl, hbk, hck⟩ := hak.cells hz
    obtain ⟨bl, ol, rfl, hbl, hcl⟩ := hal.cells hz
    obtain ⟨bs, os', rfl, hbs, hcs⟩ := has.cells hz
    obtain ⟨bm, om', rfl, hbm, hcm⟩ := ham.cells hz
    have CK := hidp hck
    have CL := hidp hcl
    have CS := hidp hcs
    have CM := hidp hcm
    have ek := hidp hak.le
    have el := hidp hal.le
    have es := hidp has.le
    have em := hidp ham.le
    clear hck hcl hcs hcm hak hal has ham
    go_wp2_with fail
    go_loopw [117] (fun i wr => ∃ k : Nat, k ≤ N ∧ i = .int .i64 k ∧ Below wi.heap.size wi wr) (fun i _ => N - (intOf i).toNat)
    case atStart => exact ⟨0, by omega, rfl, Below.refl _ _⟩
    case round =>
      obtain ⟨k, hk, rfl, hblw⟩ := hrel
      by_cases hlt : k < N
      · have q1 := carry_cell ⟨hbk, CK.out k hlt⟩ hblw
        have q2 := carry_cell ⟨hbl, CL.out k hlt⟩ hblw
        have q3 := carry_cell ⟨hbs, (CS.out k hlt).1⟩ hblw
        have q4 := carry_cell ⟨hbs, (CS.out k hlt).2⟩ hblw
        have q5 := carry_cell ⟨hbm, (CM.out k hlt).1⟩ hblw
        have q6 := carry_cell ⟨hbm, (CM.out k hlt).2⟩ hblw
        rw [tab_gb _ _ _ hlt] at q1 q2
        have hle := MLH.out k hlt
        have km := KM.out k hlt
        have hneU : (gi U k != gi U k) = false := by simp
        have hle2 : ¬ gi L k < gi (tab M N) k := by omega
        cases hk1 : kb L r k with
        | true =>
          have hk2 := km hk1
          rw [hk1] at q1
          rw [hk2] at q2
          clear km hk1 hk2
          go_wp2_with fail
          go_quiet (fail)
          go_wp2
          go_roundw
          case rel => exact ⟨k + 1, by omega, by go_num, below_drewN hblw _⟩
          case measure => simp [intOf]; omega
        | false =>
          rw [hk1] at q1
          clear km hk1
          go_wp2_with fail
          go_quiet (fail)
          go_wp2
          go_roundw
          case rel => exact ⟨k + 1, by omega, by go_num, below_drewN hblw _⟩
          case measure => simp [intOf]; omega
      · obtain rfl : k = N := by omega
        go_wp2
        go_ret
        exact ⟨rfl, bstep hwi hblw⟩
end Go.Proofs.Ytpdigiefldnpaaa.spanMends
