/- The walk of CombFirst: the law returns true at all inputs, and no old memory changes. -/
import Derived.Test.YtboacbimmggleaaSome
import Derived.Test.YtboacbimmggleaaEqI
namespace Go.Proofs.Ytboacbimmggleaa.combFirst
open Go.ChangeShapes Go.WideShapes Go.ChangeAt Go.RowKit
open Go.Proofs.Ytboacbimmggleaa CombMath

theorem ex : (tab (someF 2 2) 2).map (Value.int .i64) = [1, 2].map (Value.int .i64) := by
  rw [show tab (someF 2 2) 2 = [1, 2] from by decide +kernel]

set_option linter.unusedVariables false
set_option maxHeartbeats 2000000 in
theorem walk (a0 : Int) (a1 : Int) (a2 : Int) (w : World) (w0 : (Lit.int .i64 a0).wf = true) (w1 : (Lit.int .i64 a1).wf = true) (w2 : (Lit.int .i64 a2).wf = true) :
    Calls Try.prog 8 #[.int .i64 a0, .int .i64 a1, .int .i64 a2] w fun e w' => e = .returned (.bool true) ∧ Below w.heap.size w w' := by
  obtain ⟨n, hn⟩ : ∃ n, n = wn a0 31 := ⟨_, rfl⟩
  have hn1 := wn_lt a0 31 (by omega)
  rw [← hn] at hn1
  obtain ⟨k, hk⟩ : ∃ k, k = wn a1 ((n : Int) + 1) := ⟨_, rfl⟩
  have hk1 := wn_lt a1 ((n : Int) + 1) (by omega)
  rw [← hk] at hk1
  have hall := wl_le 30 (by omega) k (by omega)
  obtain ⟨all, hA⟩ : ∃ all, all = wl 30 k := ⟨_, rfl⟩
  rw [← hA] at hall
  obtain ⟨i, hi⟩ : ∃ i, i = wn a2 (all : Int) := ⟨_, rfl⟩
  have hi1 := wn_lt a2 (all : Int) (by omega)
  rw [← hi] at hi1
  have cn := withinN_c a0 31 (by omega) (by omega)
  rw [← hn] at cn
  have ck := withinN_c a1 ((n : Int) + 1) (by omega) (by omega)
  rw [← hk] at ck
  have ci := withinN_c a2 (all : Int) (by omega) (by omega)
  rw [← hi] at ci
  have hz : wz 30 k = all := by unfold wz; rw [if_neg (by omega), hA]
  have hzn : wz n k = wl n k := by unfold wz; rw [if_neg (by omega)]
  have tf : 1 ≤ k → (top k i < n ↔ i < wl n k) := fun h1 => by
    rw [← hzn]; exact top_first k i n h1 (by omega) (by omega) (by omega)
  have CW := hidp (fun w => by have := ways_nat 30 k (by omega) (by omega) w; rw [← hA] at this; exact this)
  have CS := hidp (some_c k i (by omega) (by omega))
  have CN := hidp cn
  have CK := hidp ck
  have CI := hidp ci
  have TF := hidp tf
  have hwl := (wl_le n (by omega) k (by omega)).1
  clear cn ck ci hn hk hi hA hz hzn tf w0 w1 w2
  go_enter Try.func8, Try.ntmps8
  go_wp2_with fail
  refine (some_c 2 2 (by omega) (by decide +kernel) _).mono ?_
  rintro e wa ⟨v, rfl, hv, hba⟩
  rw [ex] at hv
  obtain ⟨av, cv, hve, hav⟩ := owns_ints hv (by simp)
  subst hve
  clear hv
  go_wp2_with fail
  refine (equali_c _ _ 2 2 _ _ [1, 2] [1, 2] _ (hav.alloc _) ?s3).mono ?_
  case s3 => exact ints_lit [1, 2] (by rfl) (by rfl) (by rfl) (by simp) (by omega)
  rintro e wb ⟨rfl, hbb⟩
  have hwb : Below w.heap.size w wb := bstep (bal hba _) hbb
  clear hba hbb hav
  go_wp2_with fail
  refine (CN.out _).mono ?_; rintro e w' ⟨rfl, rfl⟩
  go_wp2_with fail
  refine (CK.out _).mono ?_; rintro e w' ⟨rfl, rfl⟩
  go_wp2_with fail
  refine (ways_nat n k (by omega) (by omega) _).mono ?_; rintro e w' ⟨rfl, rfl⟩
  go_wp2_with fail
  refine (CW.out _).mono ?_; rintro e w' ⟨rfl, rfl⟩
  go_wp2_with fail
  refine (CI.out _).mono ?_; rintro e w' ⟨rfl, rfl⟩
  go_wp2_with fail
  refine (CS.out _).mono ?_
  rintro e wc ⟨v, rfl, hv, hbc⟩
  have hwc : Below w.heap.size w wc := bstep hwb hbc
  rcases Nat.eq_zero_or_pos k with hk0 | hk0
  · subst hk0
    go_wp2_with fail
    go_ret
    exact ⟨rfl, hwc⟩
  · obtain ⟨g, cm, hme, hgB, hgl, hncm, hcm⟩ := owns_addr hv hk0
    subst hme
    obtain ⟨p, hp⟩ : ∃ p, k = p + 1 := ⟨k - 1, by omega⟩
    subst hp
    have q1 := hv.cellAt p (by omega)
    have q3 := hv.frozenAt p
    rw [tab_map, tab_get _ _ _ (by omega)] at q1
    have e1 : someF (p + 1) i p = ((top (p + 1) i : Nat) : Int) := by unfold someF; rw [show p + 1 - 1 - p = 0 by omega]; rfl
    rw [e1] at q1
    have T1 := TF.out (by omega)
    clear e1 CS TF hv CN CK CI CW
    have t29 := (top_spec (p + 1) i (by omega) (by omega)).2.1
    generalize top (p + 1) i = T at *
    generalize wl n (p + 1) = W at *
    by_cases hlt : T < n
    · have hlt2 := T1.1 hlt
      have h1 : (T : Int) < (n : Int) := by omega
      have h2 : (i : Int) < (W : Int) := by omega
      clear T1
      go_wp2_with fail
      go_ret
      exact ⟨rfl, hwc⟩
    · have hlt2 : ¬ i < W := fun h => hlt (T1.2 h)
      have h1 : ¬ (T : Int) < (n : Int) := by omega
      have h2 : ¬ (i : Int) < (W : Int) := by omega
      clear T1
      go_wp2_with fail
      go_ret
      exact ⟨rfl, hwc⟩
end Go.Proofs.Ytboacbimmggleaa.combFirst
