/- The walk of SpanAlone: the law returns true at all inputs, and no old memory changes. -/
import Derived.Test.YtboacbimmggleaaSpans
import Derived.Test.YtboacbimmggleaaCount
import Derived.Test.YtboacbimmggleaaEqB
namespace Go.Proofs.Ytboacbimmggleaa.spanAlone
open Go.ChangeShapes Go.WideShapes Go.ChangeAt Go.RowKit
open Go.Proofs.Ytboacbimmggleaa

theorem ex1 : tab (kb [0, 1] 0) 2 = [true, false] := by decide +kernel
theorem lev_top : ∀ l, l < 21 → lev l ≤ 72057594037927935 := by decide +kernel
theorem lev_pos : ∀ l, l < 20 → 0 < lev (l + 1) := by decide +kernel
theorem kb_top (ls : List Int) (i : Nat) (h : 0 ≤ gi ls i ∧ gi ls i ≤ 20) : kb ls 72057594037927935 i = true := by
  unfold kb
  exact decide_eq_true (lev_top _ (by omega))
theorem kb_zero (ls : List Int) (i : Nat) (h : 0 ≤ gi ls i ∧ gi ls i ≤ 20) : kb ls 0 i = decide (gi ls i = 0) := by
  unfold kb
  by_cases h0 : gi ls i = 0
  · rw [h0]; decide +kernel
  · obtain ⟨m, hm⟩ : ∃ m : Nat, (gi ls i).toNat = m + 1 := ⟨(gi ls i).toNat - 1, by omega⟩
    rw [hm]
    have := lev_pos m (by omega)
    rw [decide_eq_false (by omega), decide_eq_false h0]

set_option linter.unusedVariables false
set_option maxHeartbeats 2000000 in
theorem walk (a0 : Option Addr) (len0 cap0 : Nat) (z0 : List (List Int)) (w : World) (w0 : RowsAt w a0 len0 cap0 z0) :
    Calls Try.prog 14 #[.slice a0 len0 cap0] w fun e w' => e = .returned (.bool true) ∧ Below w.heap.size w w' := by
  go_enter Try.func14, Try.ntmps14
  go_wp2_with fail
  refine (kept_c _ 2 _ [-1, 0] [0, 1] 0 _ ?s0 (by omega) ?s1 (by omega) (by omega)).mono ?_
  case s0 => exact span_lit2 (-1) 0 0 1 (by rfl) (by rfl)
  case s1 => intro i hi; match i, hi with | 0, _ => decide | 1, _ => decide
  rintro e wa ⟨v, rfl, hv, hba⟩
  rw [ex1] at hv
  obtain ⟨av, cv, hve, hav⟩ := owns_bools hv
  subst hve
  clear hv
  go_wp2_with fail
  refine (equalb_c _ _ 2 2 _ _ [true, false] [true, false] _ (hav.alloc _) ?s2).mono ?_
  case s2 => exact bools_lit [true, false] (by rfl) (by rfl) (by rfl) (by omega)
  rintro e wb ⟨rfl, hbb⟩
  have hwb : Below w.heap.size w wb := bstep (bal (bstep (bal (Below.refl _ _) _) hba) _) hbb
  clear hba hbb hav
  go_wp2_with fail
  refine (spans_c _ _ _ z0 20 _ (w0.below hwb) (by omega) (by omega)).mono ?_
  rintro e wc ⟨v, rfl, hv, hbc⟩
  have hwc : Below w.heap.size w wc := bstep hwb hbc
  have hN : min len0 40 ≤ 40 := by omega
  generalize min len0 40 = N at *
  obtain ⟨asp, csp, hve, has⟩ := owns_spans hv
  subst hve
  have hok := spans_ok z0 20 (by omega) (by omega) N
  have HOK := hidp hok
  have msp := hidp has.max
  clear hv hok hwb hbc
  generalize hL : tab (lvf z0 20) N = L at *
  generalize hU : tab (upf z0) N = U at *
  have HL := hidp hL
  have HU := hidp hU
  clear hL hU
  go_wp2_with fail
  refine (kept_c _ _ _ _ _ 72057594037927935 _ has hN HOK.out (by omega) (by omega)).mono ?_
  rintro e wd ⟨v, rfl, hv, hbd⟩
  obtain ⟨ak, ck, hve, hak⟩ := owns_bools hv
  subst hve
  clear hv
  go_wp2_with fail
  refine (kept_c _ _ _ _ _ 0 _ (has.below hbd) hN HOK.out (by omega) (by omega)).mono ?_
  rintro e we ⟨v, rfl, hv, hbe⟩
  obtain ⟨al, cl, hve, hal⟩ := owns_bools hv
  subst hve
  clear hv
  go_wp2_with fail
  refine (count_c _ _ _ _ _ _ _ _ _ ((has.below hbd).below hbe) hal hN HOK.out).mono ?_
  rintro e wf ⟨rfl, hbf⟩
  have hwf : Below w.heap.size w wf := bstep (bstep (bstep hwc hbd) hbe) hbf
  have hsf := ((has.below hbd).below hbe).below hbf
  have hkf := (hak.below hbe).below hbf
  have hlf := hal.below hbf
  have CB := hidp (fun k (hk : k ≤ N) => cntS_bd L (tab (kb L 0) N) k (fun i hi => by have := HOK.out i (by omega); omega))
  clear hbd hbe hbf has hak hal hwc
  have mk := hidp hkf.max
  have ml := hidp hlf.max
  rcases Nat.eq_zero_or_pos N with hz | hz
  · subst hz
    go_wp2_with fail
    refine wp_loop_rounds 1 ?_; rw [rounds_succ]
    go_wp2
    go_ret
    exact ⟨rfl, hwf⟩
  · obtain ⟨bk, ok', rfl, hbk, hck⟩ := hkf.cells hz
    obtain ⟨bl, ol, rfl, hbl, hcl⟩ := hlf.cells hz
    obtain ⟨bs, os', rfl, hbs, hcs⟩ := hsf.cells hz
    have CK := hidp hck
    have CL := hidp hcl
    have CS := hidp hcs
    clear hck hcl hcs hkf hlf hsf
    go_wp2_with fail
    go_loopw [12, 73] (fun p i wr => ∃ k : Nat, k ≤ N ∧ i = .int .i64 k ∧ p = .int .i64 (cntS L (tab (kb L 0) N) k) ∧ Below wf.heap.size wf wr) (fun _ i _ => N - (intOf i).toNat)
    case atStart => exact ⟨0, by omega, rfl, rfl, Below.refl _ _⟩
    case round =>
      obtain ⟨k, hk, rfl, rfl, hblw⟩ := hrel
      obtain ⟨B1, B2⟩ := CB.out k hk
      by_cases hlt : k < N
      · have q1 := carry_cell ⟨hbk, CK.out k hlt⟩ hblw
        have q2 := carry_cell ⟨hbl, CL.out k hlt⟩ hblw
        have q3 := carry_cell ⟨hbs, (CS.out k hlt).2⟩ hblw
        have p := HOK.out k hlt
        rw [tab_gb _ _ _ hlt, kb_top L k ⟨p.2.2.1, p.2.2.2⟩] at q1
        rw [tab_gb _ _ _ hlt, kb_zero L k ⟨p.2.2.1, p.2.2.2⟩] at q2
        have G := hidp (show gb (tab (kb L 0) N) k = decide (gi L k = 0) by rw [tab_gb _ _ _ hlt, kb_zero L k ⟨p.2.2.1, p.2.2.2⟩])
        by_cases h0 : gi L k = 0
        · rw [h0] at q3
          have E := hidp (show cntS L (tab (kb L 0) N) (k + 1) = cntS L (tab (kb L 0) N) k + 1 by simp only [cntS]; rw [G.out, h0]; simp)
          rw [decide_eq_true h0] at q2
          clear h0 p
          go_wp2_with fail
          go_quiet (fail)
          go_wp2
          go_roundw
          case rel => exact ⟨k + 1, by omega, by go_num, v_int E.out.symm, below_drewN hblw _⟩
          case measure => simp [intOf]; omega
        · have h0' : (gi L k == 0) = false := by simp [h0]
          have E := hidp (show cntS L (tab (kb L 0) N) (k + 1) = cntS L (tab (kb L 0) N) k by simp only [cntS]; rw [G.out]; simp [h0])
          rw [decide_eq_false h0] at q2
          clear h0 p
          go_wp2_with fail
          go_quiet (fail)
          go_wp2
          go_roundw
          case rel => exact ⟨k + 1, by omega, by go_num, v_int E.out.symm, below_drewN hblw _⟩
          case measure => simp [intOf]; omega
      · obtain rfl : k = N := by omega
        go_wp2
        go_ret
        exact ⟨ret_bool (by simp), bstep hwf hblw⟩
end Go.Proofs.Ytboacbimmggleaa.spanAlone
