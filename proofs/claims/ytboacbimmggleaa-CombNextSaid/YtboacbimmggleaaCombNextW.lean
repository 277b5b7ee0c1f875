/- The walk of CombNext: the law returns true at all inputs, and no old memory changes. -/
import Derived.Test.YtboacbimmggleaaSome
import Derived.Test.YtboacbimmggleaaEqI
namespace Go.Proofs.Ytboacbimmggleaa.combNext
open Go.ChangeShapes Go.WideShapes Go.ChangeAt Go.RowKit
open Go.Proofs.Ytboacbimmggleaa CombMath

theorem ex : (tab (someF 2 1) 2).map (Value.int .i64) = [0, 2].map (Value.int .i64) := by
  rw [show tab (someF 2 1) 2 = [0, 2] from by decide +kernel]
theorem wl_30 : ∀ k, k < 29 → 30 ≤ wl 30 (k + 1) := by decide +kernel
theorem lt_of (k i j : Nat) (hk : k ≤ 30) (hj : j < k) (hi : i + 1 < wz 30 k)
    (hs : ∀ p, j < p → p < k → someF k i p = someF k (i + 1) p) (hd : j = 0 ∨ someF k i j ≠ someF k (i + 1) j) : someF k i j < someF k (i + 1) j := by
  unfold someF at *
  have := part_lt k i (i + 1) j hk hj (by omega) hi (fun p h1 h2 => by have := hs p h1 h2; omega) (hd.imp_right (fun h e => h (by rw [e])))
  omega
theorem someF_bd (k r p : Nat) (h : p < 30) : 0 ≤ someF k r p ∧ someF k r p ≤ 29 := by
  unfold someF
  have := (top_spec (p + 1) (rk k r (k - 1 - p)) (by omega) (by omega)).2.1
  omega

theorem some_i (k r : Nat) (K R : Int) (hK : K = k) (hR : R = r) (hk : k ≤ 30) (hr : r < wz 30 k) (w : World) :
    Calls Try.prog 26 #[.int .i64 K, .int .i64 R] w fun e w' => ∃ v, e = .returned (.tuple #[v, .int .i64 0]) ∧ w'.ownsRow w.heap.size 3 1 v k ((tab (someF k r) k).map (Value.int .i64)) ∧ Below w.heap.size w w' := by
  subst hK hR
  exact some_c k r hk hr w
theorem ways_j (n k : Nat) (N K : Int) (hN : N = n) (hK : K = k) (h1 : n ≤ 30) (h2 : k ≤ n) (w : World) :
    Calls Try.prog 27 #[.int .i64 N, .int .i64 K] w fun e w' => e = .returned (.tuple #[.int .i64 (wl n k), .int .i64 0]) ∧ w = w' := by
  subst hN hK
  exact ways_nat n k h1 h2 w
set_option linter.unusedVariables false
set_option maxHeartbeats 2000000 in
theorem walk (a0 : Int) (a1 : Int) (w : World) (w0 : (Lit.int .i64 a0).wf = true) (w1 : (Lit.int .i64 a1).wf = true) :
    Calls Try.prog 9 #[.int .i64 a0, .int .i64 a1] w fun e w' => e = .returned (.bool true) ∧ Below w.heap.size w w' := by
  obtain ⟨m, hm⟩ : ∃ m, m = wn a0 29 := ⟨_, rfl⟩
  have hm1 := wn_lt a0 29 (by omega)
  rw [← hm] at hm1
  have hall := wl_le 30 (by omega) (m + 1) (by omega)
  have hall2 := wl_30 m (by omega)
  obtain ⟨all, hA⟩ : ∃ all, all = wl 30 (m + 1) := ⟨_, rfl⟩
  rw [← hA] at hall hall2
  obtain ⟨i, hi⟩ : ∃ i, i = wn a1 ((all : Int) - 1) := ⟨_, rfl⟩
  have hi1 := wn_lt a1 ((all : Int) - 1) (by omega)
  rw [← hi] at hi1
  have cm := withinN_c a0 29 (by omega) (by omega)
  rw [← hm] at cm
  have ci := withinN_c a1 ((all : Int) - 1) (by omega) (by omega)
  rw [← hi] at ci
  have hz : wz 30 (m + 1) = all := by unfold wz; rw [if_neg (by omega), hA]
  have CW := hidp (fun w => by have := ways_j 30 (m + 1) 30 (1 + (m : Int)) (by omega) (by omega) (by omega) (by omega) w; rw [← hA] at this; exact this)
  have CS := hidp (some_i (m + 1) i (1 + (m : Int)) i (by omega) (by omega) (by omega) (by omega))
  have CT := hidp (some_i (m + 1) (i + 1) (1 + (m : Int)) (i + 1) (by omega) (by omega) (by omega) (by omega))
  have LT := hidp (fun j hj => lt_of (m + 1) i j (by omega) hj (by omega))
  have CM := hidp cm
  have CI := hidp ci
  clear cm ci hm hi hA hz w0 w1
  go_enter Try.func9, Try.ntmps9
  go_wp2_with fail
  refine (some_c 2 1 (by omega) (by decide +kernel) _).mono ?_
  rintro e wa ⟨v, rfl, hv, hba⟩
  rw [ex] at hv
  obtain ⟨av, cv, hve, hav⟩ := owns_ints hv (by simp)
  subst hve
  clear hv
  go_wp2_with fail
  refine (equali_c _ _ 2 2 _ _ [0, 2] [0, 2] _ (hav.alloc _) ?s3).mono ?_
  case s3 => exact ints_lit [0, 2] (by rfl) (by rfl) (by rfl) (by simp) (by omega)
  rintro e wb ⟨rfl, hbb⟩
  have hwb : Below w.heap.size w wb := bstep (bal hba _) hbb
  clear hba hbb hav
  go_wp2_with fail
  with_reducible refine (CM.out _).mono ?_; rintro e w' ⟨rfl, rfl⟩
  go_wp2_with fail
  with_reducible refine (CW.out _).mono ?_; rintro e w' ⟨rfl, rfl⟩
  go_wp2_with fail
  with_reducible refine (CI.out _).mono ?_; rintro e w' ⟨rfl, rfl⟩
  go_wp2_with fail
  with_reducible refine (CS.out _).mono ?_
  rintro e wc ⟨v, rfl, hv, hbc⟩
  have hwc : Below w.heap.size w wc := bstep hwb hbc
  go_wp2_with fail
  with_reducible refine (CT.out _).mono ?_
  rintro e wd ⟨u, rfl, hu, hbd⟩
  have hwd : Below w.heap.size w wd := bstep hwc hbd
  obtain ⟨g, cg, hve, hgB, hgl, hncm, hcm⟩ := owns_addr hv (by omega)
  obtain ⟨g', cg', hue, hgB', hgl', hncm', hcm'⟩ := owns_addr hu (by omega)
  subst hve hue
  have HV := hidp (fun j (hj : j < m + 1) => show g < wc.heap.size ∧ wc.cell? ⟨g, j, none⟩ = some (.int .i64 (someF (m + 1) i j)) from ⟨hgl, by rw [hv.cellAt j (by omega), tab_map, tab_get _ _ _ hj]⟩)
  have HU := hidp (fun j (hj : j < m + 1) => show g' < wd.heap.size ∧ wd.cell? ⟨g', j, none⟩ = some (.int .i64 (someF (m + 1) (i + 1) j)) from ⟨hgl', by rw [hu.cellAt j (by omega), tab_map, tab_get _ _ _ hj]⟩)
  clear hv hu CS CT CM CI CW
  go_wp2_with fail
  go_loopw [13] (fun x wr => ∃ j : Nat, j < m + 1 ∧ x = .int .i64 j ∧ Hid (∀ p, j < p → p < m + 1 → someF (m + 1) i p = someF (m + 1) (i + 1) p) ∧ Below wd.heap.size wd wr) (fun x _ => (intOf x).toNat)
  case atStart => exact ⟨m, by omega, v_int (by omega), hidp (fun p h1 h2 => by omega), Below.refl _ _⟩
  case round =>
    obtain ⟨j, hj, rfl, hs, hbl⟩ := hrel
    have q1 := carry_cell (HV.out j hj) (bstep hbd hbl)
    have q2 := carry_cell (HU.out j hj) hbl
    have LJ := hidp (LT.out j hj hs.out)
    rcases Nat.eq_zero_or_pos j with hj0 | hj0
    · subst hj0
      have LL := LJ.out (.inl rfl)
      clear LJ LT HV HU
      go_wp2_with fail
      go_quiet (fail)
      go_wp2
      go_quiet (fail)
      go_wp2
      go_ret
      exact ⟨rfl, bstep hwd (below_drewN (below_drewN hbl _) _)⟩
    · have hj0' : (0 : Int) < (j : Int) := by omega
      by_cases hxy : someF (m + 1) i j = someF (m + 1) (i + 1) j
      · have hB : (someF (m + 1) i j == someF (m + 1) (i + 1) j) = true := by rw [hxy]; simp
        have HXY := hidp hxy
        clear hxy LJ LT HV HU
        go_wp2_with fail
        go_quiet (fail)
        go_wp2
        go_roundw
        case rel => exact ⟨j - 1, by omega, v_int (by omega), hidp (fun p h1 h2 => by
          by_cases h : j = p
          · rw [← h]; exact HXY.out
          · exact hs.out p (by omega) h2), below_drewN hbl _⟩
        case measure => simp [intOf]; omega
      · have hB : (someF (m + 1) i j == someF (m + 1) (i + 1) j) = false := by simp [hxy]
        have LL := LJ.out (.inr hxy)
        clear hxy LJ LT HV HU
        go_wp2_with fail
        go_quiet (fail)
        go_wp2
        go_quiet (fail)
        go_wp2
        go_ret
        exact ⟨rfl, bstep hwd (below_drewN (below_drewN hbl _) _)⟩
end Go.Proofs.Ytboacbimmggleaa.combNext
