/- The walk of SpanNested: the law returns true at all inputs, and no old memory changes. -/
import Derived.Test.YtlkcdknbkchglaaSpans
import Derived.Test.YtlkcdknbkchglaaEqB
namespace Go.Proofs.Ytlkcdknbkchglaa.spanNested
open Go.ChangeShapes Go.WideShapes Go.ChangeAt Go.RowKit
open Go.Proofs.Ytlkcdknbkchglaa

theorem ex1 : tab (kb [1] 36028797018963968) 1 = [true] := by decide +kernel

set_option linter.unusedVariables false
set_option maxHeartbeats 4000000 in
theorem walk (a0 : Option Addr) (len0 cap0 : Nat) (z0 : List (List Int)) (a1 : Int) (a2 : Int) (w : World)
    (w0 : RowsAt w a0 len0 cap0 z0) (w1 : (Lit.int .i64 a1).wf = true) (w2 : (Lit.int .i64 a2).wf = true) :
    Calls Try.prog 14 #[.slice a0 len0 cap0, .int .i64 a1, .int .i64 a2] w fun e w' => e = .returned (.bool true) ∧ Below w.heap.size w w' := by
  have b0 := drw_lo a1
  have b1 := drw_hi a1
  have b4 := wi_lo a2 (72057594037927936 - drw a1) (by omega)
  have b5 := wi_hi a2 (72057594037927936 - drw a1) (by omega)
  clear w1 w2
  go_enter Try.func14, Try.ntmps14
  go_wp2_with fail
  refine (kept_c _ _ _ [-1] [1] _ _ ?s0 (by omega) ?s1 (by omega) (by omega)).mono ?_
  case s0 => exact span_lit1 (-1) 1 rfl rfl
  case s1 => intro i hi; match i, hi with | 0, _ => decide
  rintro e wa ⟨v, rfl, hv, hba⟩
  rw [ex1] at hv
  obtain ⟨av, cv, hve, hav⟩ := owns_bools hv
  subst hve
  clear hv
  go_wp2_with fail
  refine (equalb_c _ _ 1 1 _ _ [true] [true] _ (hav.alloc _) ?s2).mono ?_
  case s2 => exact bools_lit [true] rfl rfl rfl (by omega)
  rintro e wb ⟨rfl, hbb⟩
  go_wp2_with fail
  have hwb : Below w.heap.size w wb := bstep (bal (bstep (bal (Below.refl _ _) _) hba) _) hbb
  refine (spans_c _ _ _ z0 20 _ (w0.below hwb) (by omega) (by omega)).mono ?_
  rintro e wc ⟨v, rfl, hv, hbc⟩
  have hN : min len0 40 ≤ 40 := by omega
  generalize min len0 40 = N at *
  obtain ⟨asp, csp, hve, has⟩ := owns_spans hv
  subst hve
  have hok := spans_ok z0 20 (by omega) (by omega) N
  have HOK := hidp hok
  clear hv hok
  go_wp2_with fail
  refine (draw_c _ _).mono ?_; rintro e w' ⟨rfl, rfl⟩
  go_wp2_with fail
  refine (kept_c _ _ _ _ _ _ _ has hN HOK.out b0 b1).mono ?_
  rintro e wd ⟨v, rfl, hv, hbd⟩
  obtain ⟨ak, ck, hve, hak⟩ := owns_bools hv
  subst hve
  clear hv
  go_wp2_with fail
  refine (within_c _ _ (by omega) (by omega) _).mono ?_; rintro e w' ⟨rfl, rfl⟩
  go_wp2_with fail
  refine (kept_c _ _ _ _ _ _ _ (has.below hbd) hN HOK.out (by omega) (by omega)).mono ?_
  rintro e we ⟨v, rfl, hv, hbe⟩
  obtain ⟨al, cl, hve, hal⟩ := owns_bools hv
  subst hve
  clear hv
  have hwe : Below w.heap.size w we := bstep (bstep (bstep hwb hbc) hbd) hbe
  have hak' := hak.below hbe
  have mono : ∀ i, i < N → gb (tab (kb (tab (lvf z0 20) N) (drw a1)) N) i = true → gb (tab (kb (tab (lvf z0 20) N) (drw a1 + wi a2 (72057594037927936 - drw a1))) N) i = true := by
    intro i hi h
    rw [tab_gb _ _ _ hi] at h ⊢
    unfold kb at *
    have := of_decide_eq_true h
    exact decide_eq_true (by omega)
  have MO := hidp mono
  clear mono
  generalize tab (kb (tab (lvf z0 20) N) (drw a1)) N = X at *
  generalize tab (kb (tab (lvf z0 20) N) (drw a1 + wi a2 (72057594037927936 - drw a1))) N = Y at *
  have mk := hidp hak'.max
  have ml := hidp hal.max
  clear hba hbb hbc hbd hbe hak has w0 hav
  rcases Nat.eq_zero_or_pos N with hz | hz
  · subst hz
    go_wp2_with fail
    refine wp_loop_rounds 1 ?_; rw [rounds_succ]
    go_wp2
    go_ret
    exact ⟨rfl, hwe⟩
  · obtain ⟨bk, okk, rfl, hbk, hck⟩ := hak'.cells hz
    obtain ⟨bl, ol, rfl, hbl, hcl⟩ := hal.cells hz
    have CK := hidp hck
    have CL := hidp hcl
    clear hck hcl hak' hal
    go_wp2_with fail
    go_loopw [72] (fun i wr => ∃ k : Nat, k ≤ N ∧ i = .int .i64 k ∧ Below we.heap.size we wr) (fun i _ => N - (intOf i).toNat)
    case atStart => exact ⟨0, by omega, rfl, Below.refl _ _⟩
    case round =>
      obtain ⟨k, hk, rfl, hbl'⟩ := hrel
      by_cases hlt : k < N
      · have q1 := carry_cell ⟨hbk, CK.out k hlt⟩ hbl'
        have q2 := carry_cell ⟨hbl, CL.out k hlt⟩ hbl'
        have hm := MO.out k hlt
        have HM := hidp hm
        clear hm
        cases hx : gb X k
        · rw [hx] at q1
          clear hx
          go_wp2
          go_roundw
          case rel => exact ⟨k + 1, by omega, by go_num, hbl'⟩
          case measure => simp [intOf]; omega
        · rw [hx] at q1
          rw [HM.out hx] at q2
          clear hx
          go_wp2
          go_roundw
          case rel => exact ⟨k + 1, by omega, by go_num, hbl'⟩
          case measure => simp [intOf]; omega
      · go_wp2
        go_ret
        exact ⟨rfl, bstep hwe hbl'⟩
end Go.Proofs.Ytlkcdknbkchglaa.spanNested
