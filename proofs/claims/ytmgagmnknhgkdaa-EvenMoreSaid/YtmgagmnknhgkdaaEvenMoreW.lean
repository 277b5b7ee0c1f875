/- The walk of EvenMore: the law returns true at all inputs, and no old memory changes. -/
import Derived.Test.YtmgagmnknhgkdaaEven
import Derived.Test.YtmgagmnknhgkdaaQuota
import Derived.Test.YtmgagmnknhgkdaaEqI
import Derived.Test.YtmgagmnknhgkdaaWown
import Derived.Deep.QuietTactic
import Derived.BigQuiet
import Derived.Deep.LoopGhost
import Derived.IntWalk
namespace Go.Proofs.Ytmgagmnknhgkdaa.evenMore
open Go.ChangeShapes Go.WideShapes Go.ChangeAt Go.RowKit
open Go.Proofs.Ytmgagmnknhgkdaa

theorem ex1 : (tab (evM [1, 3] (2 : Nat) (0 : Nat) 2) 2).map (Value.int .i64) = [1, 1].map (Value.int .i64) := by
  rw [show tab (evM [1, 3] (2 : Nat) (0 : Nat) 2) 2 = [1, 1] from by decide +kernel]
theorem more_law (xs : List Int) (n : Nat) (h : okN xs n = true) (K start : Nat) (hs : (start : Int) < sumK xs n) (i j : Nat) (hi : i < n) (hj : j < n) (hw : gi xs j < gi xs i) : evM xs K start n j - 1 ≤ evM xs K start n i := by
  have q1 := (quota xs n h K start hs i hi).2
  have q2 := (quota xs n h K start hs j hj).1
  obtain ⟨A, hA⟩ := Int.eq_ofNat_of_zero_le (sumK_ok xs n h).1
  rw [hA] at q1 q2 hs
  generalize evM xs K start n i = x at *
  generalize evM xs K start n j = y at *
  have hk : (K : Int) * gi xs j + K ≤ K * gi xs i := by
    have := Int.mul_le_mul_of_nonneg_left (show gi xs j + 1 ≤ gi xs i by omega) (show (0 : Int) ≤ (K : Int) by omega)
    rw [Int.mul_add, Int.mul_one] at this
    exact this
  have hlt : (y - x) * (A : Int) < 2 * A := by rw [Int.sub_mul]; omega
  have := Int.lt_of_mul_lt_mul_right hlt (by omega)
  omega
theorem zero_law (xs : List Int) (n : Nat) (h : okN xs n = true) (K start : Nat) (hs : (start : Int) < sumK xs n) (i : Nat) (hi : i < n) (hw : gi xs i = 0) : evM xs K start n i = 0 := by
  rw [(evM_q xs n h K start hs i hi).1]
  have : sumK xs (i + 1) = sumK xs i := by show sumK xs i + gi xs i = _; omega
  rw [this]; omega
set_option linter.unusedVariables false
set_option maxRecDepth 100000 in
set_option maxHeartbeats 4000000 in
theorem walk (a0 : Option Addr) (len0 cap0 : Nat) (z0 : List Int) (a1 : Int) (a2 : Int) (w : World)
    (w0 : IntsAt w a0 len0 cap0 z0) (w1 : (Lit.int .i64 a1).wf = true) (w2 : (Lit.int .i64 a2).wf = true) :
    Calls Try.prog 8 #[.slice a0 len0 cap0, .int .i64 a1, .int .i64 a2] w fun e w' => e = .returned (.bool true) ∧ Below w.heap.size w w' := by
  have mm := w0.max
  have ee := w0.le
  obtain ⟨m, hm⟩ : ∃ m, m = wn a1 100 := ⟨_, rfl⟩
  have hm1 := wn_lt a1 100 (by omega)
  have cm := withinN_c a1 100 (by omega) (by omega)
  rw [← hm] at hm1 cm
  have CM := hidp cm
  obtain ⟨K, hK⟩ : ∃ K : Nat, K = m + 1 := ⟨_, rfl⟩
  have hK' : (1 : Int) + (m : Int) = (K : Int) := by omega
  have hK1 : 1 ≤ K ∧ K ≤ 100 := by omega
  have hok := wtL_ok z0 100 len0 (by omega) (by omega)
  have hpos := wtL_pos z0 100 len0 (by omega) (by omega)
  obtain ⟨N, hN⟩ : ∃ N : Nat, N = min len0 39 + 1 := ⟨_, rfl⟩
  have hN1 : 1 ≤ N ∧ N ≤ 40 := by omega
  have CW := hidp (fun W h => wown_c a0 len0 cap0 z0 100 W h (by omega) (by omega))
  rw [← hN] at hok hpos CW
  obtain ⟨A, hAe⟩ : ∃ A : Nat, (A : Int) = sumK (wtL z0 100 len0) N := ⟨(sumK (wtL z0 100 len0) N).toNat, by omega⟩
  have hA := sumK_ok _ N hok
  obtain ⟨S, hS⟩ : ∃ S, S = wn a2 (A : Int) := ⟨_, rfl⟩
  have hS1 := wn_lt a2 (A : Int) (by omega)
  have cs := withinN_c a2 (A : Int) (by omega) (by omega)
  rw [← hS] at hS1 cs
  have CS := hidp cs
  have hS2 : (S : Int) < sumK (wtL z0 100 len0) N := by omega
  have CE := hidp (fun a c W h => even_ok a N c (wtL z0 100 len0) K S K S rfl rfl W h (by omega) hok (by omega) (by omega) hS2)
  have SB := hidp (fun k (hk : k ≤ N) => sumK_ok (wtL z0 100 len0) k (okN_down _ N k hok hk))
  have OK := hidp (okN_at (wtL z0 100 len0) N hok)
  have ML := hidp (fun i j hi hj => more_law (wtL z0 100 len0) N hok K S hS2 i j hi hj)
  have ZL := hidp (fun i hi => zero_law (wtL z0 100 len0) N hok K S hS2 i hi)
  have HAE := hidp hAe
  have hA2 : 1 ≤ A ∧ A ≤ 40000000000000 := by omega
  clear w1 w2 hm cm hK hok hpos hN hAe hA hS cs hS2
  generalize wtL z0 100 len0 = l at *
  go_enter Try.func8, Try.ntmps8
  go_wp2_with fail
  refine (even_ok _ 2 2 [1, 3] 2 0 2 0 rfl rfl _ ?s0 (by omega) (by decide) (by omega) (by omega) (by decide)).mono ?_
  case s0 => exact ints_lit [1, 3] (by simp) (by rfl) (by rfl) (by simp) (by omega)
  rintro e wa ⟨v, rfl, hv, hba⟩
  rw [ex1] at hv
  obtain ⟨av, cv, hve, hav⟩ := owns_ints hv (by simp)
  subst hve
  clear hv
  go_wp2_with fail
  refine (equali_c _ _ 2 2 _ _ [1, 1] [1, 1] _ (hav.alloc _) ?s3).mono ?_
  case s3 => exact ints_lit [1, 1] (by simp) (by rfl) (by rfl) (by simp) (by omega)
  rintro e wb ⟨rfl, hbb⟩
  rw [decide_eq_true rfl]
  have hwb : Below w.heap.size w wb := bstep (bal (bstep (bal (Below.refl _ _) _) hba) _) hbb
  clear hba hbb hav
  go_wp2_with fail
  refine (CW.out _ (w0.below hwb)).mono ?_
  rintro e wc ⟨v, rfl, hv, hbc⟩
  obtain ⟨al, cl, hve, hal⟩ := owns_ints hv (fun x hx => by
    obtain ⟨i, hi, hx⟩ := List.getElem_of_mem hx
    have hl : l.length = N := by have := hv.1; simpa using this
    have := OK.out i (by omega)
    have e1 : gi l i = x := by unfold gi; rw [List.getD_eq_getElem?_getD, List.getElem?_eq_getElem hi, hx]; rfl
    omega)
  subst hve
  have hwc : Below w.heap.size w wc := bstep hwb hbc
  clear hv CW w0
  go_wp2_with fail
  refine (CM.out _).mono ?_; rintro e w' ⟨rfl, rfl⟩
  go_wp2_with fail
  refine (isum_c _ _ _ l _ hal (fun k hk => by have := SB.out k hk; omega)).mono ?_
  rintro e w' ⟨rfl, rfl⟩
  rw [← HAE.out]
  go_wp2_with fail
  refine (CS.out _).mono ?_; rintro e w' ⟨rfl, rfl⟩
  go_wp2_with fail
  refine (CE.out _ _ _ hal).mono ?_
  rintro e wd ⟨v, rfl, hv, hbd⟩
  obtain ⟨am, cm, hve, ham⟩ := owns_ints hv (fun x hx => by obtain ⟨i, hi, rfl⟩ := tab_mem _ _ _ hx; have := evM_bd l K S N i; omega)
  subst hve
  have hwd : Below w.heap.size w wd := bstep hwc hbd
  have hald := hal.below hbd
  obtain ⟨bl, ol, rfl, hbl, hcl⟩ := hald.addr (by omega)
  obtain ⟨bm, om, rfl, hbm, hcm⟩ := ham.addr (by omega)
  have HL := hidp hcl
  have HM := hidp hcm
  have mcl := hald.max
  have mcm := ham.max
  have lcl := hald.le
  have lcm := ham.le
  have hne2 : ((N : Int) != (N : Int)) = false := by simp
  clear hv hal ham hald hcl hcm CE CM CS SB hK'
  go_wp2_with fail
  go_loopg [52] N (fun gg i wr => ∃ j : Nat, j ≤ N ∧ N - j ≤ gg ∧ i = .int .i64 j ∧ Below wd.heap.size wd wr)
  case atStart => exact ⟨0, by omega, by omega, rfl, Below.refl _ _⟩
  case round =>
    obtain ⟨i, hi, hgi, rfl, hb1⟩ := hrel
    by_cases hlt : i < N
    · go_wp2_with fail
      go_loopg [57] N (fun gg s wx => ∃ j : Nat, j ≤ N ∧ N - j ≤ gg ∧ s = .int .i64 j ∧ Below wd.heap.size wd wx)
      case atStart => exact ⟨0, by omega, by omega, rfl, hb1⟩
      case round =>
        obtain ⟨j, hj, hgj, rfl, hb2⟩ := hrel
        by_cases hlj : j < N
        · have q1 := carry_cell ⟨hbl, HL.out i hlt⟩ hb2
          have q2 := carry_cell ⟨hbl, HL.out j hlj⟩ hb2
          have q3 := carry_cell ⟨hbm, HM.out i hlt⟩ hb2
          have q4 := carry_cell ⟨hbm, HM.out j hlj⟩ hb2
          rw [tab_gi _ _ _ hlt] at q3
          rw [tab_gi _ _ _ hlj] at q4
          have e1 := evM_bd l K S N i
          have e2 := evM_bd l K S N j
          have o1 := OK.out i hlt
          have o2 := OK.out j hlj
          have m1 := ML.out i j hlt hlj
          have z1 := ZL.out i hlt
          have hwr : IntKind.i64.wrap (evM l K S N j - 1) = evM l K S N j - 1 := IntWalk.i64_in _ (by omega)
          generalize evM l K S N i = mi at *
          generalize evM l K S N j = mj at *
          generalize gi l i = li at *
          generalize gi l j = lj at *
          obtain ⟨o1a, o1b⟩ := o1
          obtain ⟨o2a, o2b⟩ := o2
          by_cases hc : lj < li
          · have f1 := m1 hc
            have f2 : decide (mi < mj - 1) = false := decide_eq_false (by omega)
            have f3 : (li == 0) = false := by rw [beq_eq_false_iff_ne]; omega
            have f4 : decide (lj < li) = true := decide_eq_true hc
            clear m1 z1
            go_wp2_with fail
            go_quiet (fail)
            go_wp2
            go_roundg (N - (j + 1))
            case measure => omega
            case rel => exact ⟨j + 1, by omega, by omega, by go_num, below_drewN hb2 _⟩
          · have f4 : decide (lj < li) = false := decide_eq_false hc
            by_cases hz : li = 0
            · have f5 := z1 hz
              have f6 : (mi != 0) = false := by rw [bne_eq_false_iff_eq]; exact f5
              have f7 : (li == 0) = true := by rw [beq_iff_eq]; exact hz
              clear m1 z1 f5 hz
              go_wp2_with fail
              go_quiet (fail)
              go_wp2
              go_roundg (N - (j + 1))
              case measure => omega
              case rel => exact ⟨j + 1, by omega, by omega, by go_num, below_drewN hb2 _⟩
            · have f7 : (li == 0) = false := by rw [beq_eq_false_iff_ne]; exact hz
              clear m1 z1 hz
              go_wp2_with fail
              go_quiet (fail)
              go_wp2
              go_roundg (N - (j + 1))
              case measure => omega
              case rel => exact ⟨j + 1, by omega, by omega, by go_num, below_drewN hb2 _⟩
        · obtain rfl : j = N := by omega
          go_wp2_with fail
          go_roundg (j - (i + 1))
          case measure => omega
          case rel => exact ⟨i + 1, by omega, by omega, by go_num, hb2⟩
    · obtain rfl : i = N := by omega
      go_wp2_with fail
      go_ret
      exact ⟨rfl, bstep hwd hb1⟩
end Go.Proofs.Ytmgagmnknhgkdaa.evenMore
