/- The walk of DigitFirst: the law returns true at all inputs, and no old memory changes. -/
import Derived.Test.YtboacbimmggleaaOrder
import Derived.Test.YtboacbimmggleaaEqI
import Derived.IntWalk
namespace Go.Proofs.Ytboacbimmggleaa.digitFirst
open Go.ChangeShapes Go.WideShapes Go.ChangeAt Go.RowKit
open Go.Proofs.Ytboacbimmggleaa

theorem ex : (ordL 3 2 (idn 3)).map (Value.int .i64) = [1, 0, 2].map (Value.int .i64) := by
  rw [show ordL 3 2 (idn 3) = [1, 0, 2] from by decide +kernel]

set_option linter.unusedVariables false
set_option maxHeartbeats 2000000 in
theorem walk (a0 : Int) (a1 : Int) (w : World) (w0 : (Lit.int .i64 a0).wf = true) (w1 : (Lit.int .i64 a1).wf = true) :
    Calls Try.prog 13 #[.int .i64 a0, .int .i64 a1] w fun e w' => e = .returned (.bool true) ∧ Below w.heap.size w w' := by
  obtain ⟨m, hm⟩ : ∃ m, m = wn a0 12 := ⟨_, rfl⟩
  have hm1 := wn_lt a0 12 (by omega)
  rw [← hm] at hm1
  have cm := withinN_c a0 12 (by omega) (by omega)
  rw [← hm] at cm
  have CM := hidp cm
  have hF := fct_tab (m + 1) (by omega)
  have hf := fct_tab m (by omega)
  obtain ⟨F, hFe⟩ : ∃ F, F = fct (m + 1) := ⟨_, rfl⟩
  obtain ⟨f, hfe⟩ : ∃ f, f = fct m := ⟨_, rfl⟩
  have hFf : F = (m + 1) * f := by rw [hFe, hfe]; rfl
  obtain ⟨i, hi⟩ : ∃ i, i = wn a1 (F : Int) := ⟨_, rfl⟩
  rw [← hFe] at hF
  rw [← hfe] at hf
  have hi1 := wn_lt a1 (F : Int) (by omega)
  have ci := withinN_c a1 (F : Int) (by omega) (by omega)
  rw [← hi] at hi1 ci
  have CI := hidp ci
  obtain ⟨n, hn⟩ : ∃ n : Nat, n = m + 1 := ⟨_, rfl⟩
  have hnm : 1 + (m : Int) = (n : Int) := by omega
  have CF := hidp (fun w => by have := rfact_c (m + 1) (n : Int) (by omega) (by omega) w; rw [← hFe] at this; exact this)
  have Cf := hidp (fun w => by have := rfact_c m m rfl (by omega) w; rw [← hfe] at this; exact this)
  have CO := hidp (order_c (m + 1) i (n : Int) i (by omega) rfl (by omega) (by rw [← hFe]; omega))
  have hq : i / f < m + 1 := by
    rw [Nat.div_lt_iff_lt_mul (by omega), ← hFf]; omega
  have HEAD := hidp (show gi (ordL (m + 1) i (idn (m + 1))) 0 = ((i / f : Nat) : Int) by
    show gi (idn (m + 1)) (i / fct m) = _
    rw [← hfe]
    unfold idn
    rw [tab_gi _ _ _ hq])
  have hdiv : (i : Int) / (f : Int) = ((i / f : Nat) : Int) := rfl
  rw [← hn] at CO hq HEAD
  have hn12 : 1 ≤ n ∧ n ≤ 12 := by omega
  clear hm cm hi ci hFf hFe hfe hn
  generalize hQ : i / f = q at *
  clear hQ
  go_enter Try.func13, Try.ntmps13
  go_wp2_with fail
  refine (order_c 3 2 3 2 rfl rfl (by omega) (by decide +kernel) _).mono ?_
  rintro e wa ⟨v, rfl, hv, hba⟩
  rw [ex] at hv
  obtain ⟨av, cv, hve, hav⟩ := owns_ints hv (by simp)
  subst hve
  clear hv
  go_wp2_with fail
  refine (equali_c _ _ 3 3 _ _ [1, 0, 2] [1, 0, 2] _ (hav.alloc _) ?s3).mono ?_
  case s3 => exact ints_lit [1, 0, 2] (by rfl) (by rfl) (by rfl) (by simp) (by omega)
  rintro e wb ⟨rfl, hbb⟩
  rw [decide_eq_true rfl]
  have hwb : Below w.heap.size w wb := bstep (bal hba _) hbb
  clear hba hbb hav
  go_wp2_with fail
  with_reducible refine (CM.out _).mono ?_
  rintro e w' ⟨rfl, rfl⟩
  go_wp2_with fail
  with_reducible refine (CF.out _).mono ?_
  rintro e w' ⟨rfl, rfl⟩
  go_wp2_with fail
  with_reducible refine (CI.out _).mono ?_
  rintro e w' ⟨rfl, rfl⟩
  go_wp2_with fail
  with_reducible refine (CO.out _).mono ?_
  rintro e wc ⟨v, rfl, hv, hbc⟩
  have hwc : Below w.heap.size w wc := bstep hwb hbc
  obtain ⟨g, cg, hve, hgB, hgl, hncm, hcm⟩ := owns_addr hv (by omega)
  subst hve
  have q0 : wc.cell? ⟨g, 0, none⟩ = some (.int .i64 (q : Int)) := by
    rw [hv.cellAt 0 (by omega), map_tab _ n (ordL_len _ _ _), tab_get _ _ _ (by omega), HEAD.out]
  clear hv CO CM CF CI
  go_wp2_with fail
  have h1 : IntKind.i64.wrap ((n : Int) - 1) = (m : Int) := by rw [show (n : Int) - 1 = m by omega]; exact IntWalk.i64_in _ (by omega)
  have h2 : (i : Int).tdiv (f : Int) = (q : Int) := by rw [Int.tdiv_eq_ediv_of_nonneg (by omega)]; exact hdiv
  have h0 : ((n : Int) == (n : Int)) = true := by simp
  have h4 : ((q : Int) == (q : Int)) = true := by simp
  have h3 : IntKind.i64.wrap (q : Int) = (q : Int) := IntWalk.i64_in _ (by omega)
  go_quiet ((go_at_call 35; exact Calls.quiet_of_same ((Cf.out _).mono fun _ _ h => ⟨h.1, h.2.symm⟩)))
  go_wp2
  go_ret
  exact ⟨rfl, below_drewN hwc _⟩
end Go.Proofs.Ytboacbimmggleaa.digitFirst
