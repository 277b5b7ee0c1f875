/- The walk of EstMean: the law returns true at all inputs, and no old memory changes. -/
import Derived.Test.YtpdigiefldnpaaaWorth
import Derived.Test.YtpdigiefldnpaaaEst
import Derived.Test.YtpdigiefldnpaaaSum
import Derived.Test.YtpdigiefldnpaaaRepeat
namespace Go.Proofs.Ytpdigiefldnpaaa.estMean
open Go.ChangeShapes Go.WideShapes Go.ChangeAt Go.RowKit
open Go.Proofs.Ytpdigiefldnpaaa
set_option maxRecDepth 20000

theorem ex1 : estS [5] [2] [72057594037927935] 1 = 20 := by decide +kernel
/-- What the first j ways tell of one value. -/
def pv (v l low : Int) : Nat → Int
  | 0 => 0
  | j + 1 => pv v l low j + est1 v l ((j : Int) * 1125899906842624 + low)
def pn (l : Nat) : Nat → Nat
  | 0 => 0
  | j + 1 => pn l j + if 64 - 64 / 2 ^ l ≤ j then 2 ^ l else 0
theorem pn_64 : ∀ l, l < 7 → pn l 64 = 64 := by decide +kernel
theorem lev_6 : ∀ l, l < 7 → lev l = (((64 - 64 / 2 ^ l) * 1125899906842624 : Nat) : Int) := by decide +kernel
theorem pv_pn (v low : Int) (l : Nat) (hl : l < 7) (h1 : 0 ≤ low) (h2 : low < 1125899906842624) : ∀ j, pv v l low j = v * (pn l j : Int)
  | 0 => by simp [pv, pn]
  | j + 1 => by
    have a := pv_pn v low l hl h1 h2 j
    simp only [pv, pn]
    unfold est1
    rw [a, Int.toNat_natCast, lev_6 l hl]
    generalize 64 - 64 / 2 ^ l = t
    by_cases ht : t ≤ j
    · rw [if_pos (by omega), if_pos ht, Int.natCast_add, Int.natCast_pow, Int.mul_add]; rfl
    · rw [if_neg (by omega), if_neg ht]; simp
/-- What the first j ways tell. -/
def tot (vs ls : List Int) (low : Int) (N : Nat) : Nat → Int
  | 0 => 0
  | j + 1 => tot vs ls low N j + estS vs ls (tab (fun _ => (j : Int) * 1125899906842624 + low) N) N
def sums (vs ls : List Int) (low : Int) (j : Nat) : Nat → Int
  | 0 => 0
  | k + 1 => sums vs ls low j k + pv (gi vs k) (gi ls k) low j
theorem way_sum (vs ls : List Int) (low : Int) (N j : Nat) : ∀ k, k ≤ N → sums vs ls low j k + estS vs ls (tab (fun _ => (j : Int) * 1125899906842624 + low) N) k = sums vs ls low (j + 1) k
  | 0, _ => rfl
  | k + 1, h => by
    have a := way_sum vs ls low N j k (by omega)
    simp only [sums, estS, pv]
    rw [tab_gi _ _ _ (by omega)]
    omega
theorem sums_zero (vs ls : List Int) (low : Int) : ∀ k, sums vs ls low 0 k = 0
  | 0 => rfl
  | k + 1 => by simp only [sums, pv]; rw [sums_zero vs ls low k]; rfl
theorem tot_sums (vs ls : List Int) (low : Int) (N : Nat) : ∀ j, tot vs ls low N j = sums vs ls low j N
  | 0 => (sums_zero vs ls low N).symm
  | j + 1 => by
    have a := tot_sums vs ls low N j
    have b := way_sum vs ls low N j N (Nat.le_refl _)
    simp only [tot]
    rw [a]
    exact b
theorem sums_64 (vs ls : List Int) (low : Int) (h1 : 0 ≤ low) (h2 : low < 1125899906842624) : ∀ k, (∀ i, i < k → 0 ≤ gi ls i ∧ gi ls i ≤ 6) → sums vs ls low 64 k = sumK vs k * 64
  | 0, _ => rfl
  | k + 1, h => by
    have a := sums_64 vs ls low h1 h2 k (fun i hi => h i (by omega))
    obtain ⟨m, hm⟩ := Int.eq_ofNat_of_zero_le (h k (by omega)).1
    have hb := (h k (by omega)).2
    simp only [sums, sumK]
    rw [a, hm, pv_pn (gi vs k) low m (by omega) h1 h2, pn_64 m (by omega)]
    omega
theorem tot_bd (vs ls : List Int) (low : Int) (N : Nat) (hN : N ≤ 40) (h : ∀ i, i < N → (0 ≤ gi ls i ∧ gi ls i ≤ 20) ∧ -1000 ≤ gi vs i ∧ gi vs i ≤ 1000) : ∀ j : Nat, -(41943040000 * (j : Int)) ≤ tot vs ls low N j ∧ tot vs ls low N j ≤ 41943040000 * j
  | 0 => by simp [tot]
  | j + 1 => by
    have a := tot_bd vs ls low N hN h j
    have b := estS_bd 1000 vs ls (tab (fun _ => (j : Int) * 1125899906842624 + low) N) (by omega) N h
    simp only [tot]
    omega

set_option linter.unusedVariables false
set_option maxHeartbeats 4000000 in
theorem walk (a0 : Option Addr) (len0 cap0 : Nat) (z0 : List Int) (a1 : Option Addr) (len1 cap1 : Nat) (z1 : List Int) (a2 : Int) (w : World)
    (w0 : IntsAt w a0 len0 cap0 z0) (w1 : IntsAt w a1 len1 cap1 z1) (w2 : (Lit.int .i64 a2).wf = true) :
    Calls Try.prog 9 #[.slice a0 len0 cap0, .slice a1 len1 cap1, .int .i64 a2] w fun e w' => e = .returned (.bool true) ∧ Below w.heap.size w w' := by
  have b0 := wi_lo a2 1125899906842624 (by omega)
  have b1 := wi_hi a2 1125899906842624 (by omega)
  have W0 := hidp w0
  have W1 := hidp w1
  clear w0 w1 w2
  go_enter Try.func9, Try.ntmps9
  go_wp2_with fail
  refine (sum_ok _ _ _ 1 _ _ _ [5] [2] [72057594037927935] _ ?s0 ?s1 ?s2 (by omega) ?h1 ?h2 ?h3).mono ?_
  case s0 => exact ((ints_lit [5] (by simp) (by rfl) (by rfl) (by simp) (by omega)).alloc _).alloc _
  case s1 => exact (ints_lit [2] (by simp) (by rfl) (by rfl) (by simp) (by omega)).alloc _
  case s2 => exact ints_lit [72057594037927935] (by simp) (by rfl) (by rfl) (by simp) (by omega)
  case h1 => intro i hi; obtain rfl : i = 0 := by omega
             decide
  case h2 => intro i hi; obtain rfl : i = 0 := by omega
             decide
  case h3 => intro i hi; obtain rfl : i = 0 := by omega
             decide
  rintro e wa ⟨rfl, hba⟩
  rw [ex1]
  have hwa : Below w.heap.size w wa := bstep (bal (bal (bal (Below.refl _ _) _) _) _) hba
  clear hba
  go_wp2_with fail
  refine (worth_i _ _ _ _ _ _ z0 z1 40 6 _ (W0.out.below hwa) (W1.out.below hwa) (by omega) (by omega) (by omega)).mono ?_
  rintro e wb ⟨av, al, cv, cl, rfl, hv, hl, hbb⟩
  have hwb := bstep hwa hbb
  have hN : min len0 40 ≤ 40 := by omega
  generalize min len0 40 = N at *
  have bv : ∀ i, i < N → -1000 ≤ gi (wv z0 N) i ∧ gi (wv z0 N) i ≤ 1000 := fun i hi => by unfold wv; rw [tab_gi _ _ _ hi]; exact wvf_bd z0 i
  have bl : ∀ i, i < N → 0 ≤ gi (wl' z1 6 N) i ∧ gi (wl' z1 6 N) i ≤ 6 := fun i hi => by unfold wl'; rw [tab_gi _ _ _ hi]; exact wlf_bd z1 6 (by omega) i
  generalize wv z0 N = vs at *
  generalize wl' z1 6 N = ls at *
  have BV := hidp bv
  have BL := hidp bl
  have HB := hidp (tot_bd vs ls (wi a2 1125899906842624) N hN (fun i hi => by have := bl i hi; have := bv i hi; omega))
  have HT := hidp (show tot vs ls (wi a2 1125899906842624) N 64 = sumK vs N * 64 by rw [tot_sums]; exact sums_64 vs ls _ b0 b1 N bl)
  have SB := sumK_bd vs 1000 (by omega) N bv
  have SBk := hidp (fun k (hk : k ≤ N) => sumK_bd vs 1000 (by omega) k (fun i hi => bv i (by omega)))
  have EB := hidp (fun rs => estS_bd 1000 vs ls rs (by omega) N (fun i hi => by have := bl i hi; have := bv i hi; omega))
  have HV := hidp hv
  have HL := hidp hl
  have mv := hv.max
  have ml := hl.max
  clear bv bl hv hl hbb hwa W0 W1
  go_wp2_with fail
  refine (within_c _ _ (by omega) (by omega) _).mono ?_; rintro e w' ⟨rfl, rfl⟩
  generalize wi a2 1125899906842624 = low at *
  go_wp2_with fail
  go_loopg [11, 36] 64 (fun gg t i wr => ∃ j : Nat, j ≤ 64 ∧ 64 - j ≤ gg ∧ i = .int .i64 j ∧ t = .int .i64 (tot vs ls low N j) ∧ Below wb.heap.size wb wr)
  case atStart => exact ⟨0, by omega, by omega, rfl, rfl, Below.refl _ _⟩
  case round =>
    obtain ⟨j, hj, hgg, rfl, rfl, hbl⟩ := hrel
    obtain ⟨B1, B2⟩ := HB.out j
    by_cases hlt : j < 64
    · have hlt' : (j : Int) < 64 := by omega
      have E := hidp (show tot vs ls low N (j + 1) = tot vs ls low N j + estS vs ls (tab (fun _ => (j : Int) * 1125899906842624 + low) N) N from rfl)
      obtain ⟨r, hr⟩ : ∃ r, r = (j : Int) * 1125899906842624 + low := ⟨_, rfl⟩
      have hr0 : 0 ≤ r ∧ r < 72057594037927936 := by omega
      rw [← hr] at E
      have HR := hidp hr
      go_wp2_with fail
      rw [← hr]
      refine (repeat_c _ 1 r N (by omega) _ ?rs).mono ?_
      case rs => exact ints_lit [r] (by rfl) (by rfl) (by rfl) (by simp; omega) (by omega)
      rintro e wd ⟨v, rfl, hv, hbd⟩
      obtain ⟨ad, cd, hve, had⟩ := owns_ints hv (fun x hx => by obtain ⟨i, _, rfl⟩ := tab_mem _ _ _ hx; omega)
      subst hve
      clear hv hr
      have hbd2 := bstep (bal hbl _) hbd
      go_wp2_with fail
      refine (sum_ok _ _ _ N _ _ _ vs ls (tab (fun _ => r) N) _ (HV.out.below hbd2) (HL.out.below hbd2) had hN (fun i hi => by have := BV.out i hi; omega) (fun i hi => by have := BL.out i hi; omega) (fun i hi => by rw [tab_gi _ _ _ hi]; omega)).mono ?_
      rintro e we ⟨rfl, hbe⟩
      have hz := bstep hbd2 hbe
      obtain ⟨c1, c2⟩ := EB.out (tab (fun _ => r) N)
      clear hbd hbe hbd2 had
      generalize estS vs ls (tab (fun _ => r) N) N = C at *
      go_wp2_with fail
      go_roundg (64 - (j + 1))
      case measure => omega
      case rel => exact ⟨j + 1, by omega, by omega, by go_num, v_int E.out.symm, hz⟩
    · obtain rfl : j = 64 := by omega
      rw [HT.out] at *
      go_wp2_with fail
      refine (isum_c _ _ _ vs _ (HV.out.below hbl) (fun k hk => by have := SBk.out k hk; omega)).mono ?_
      rintro e w' ⟨rfl, rfl⟩
      go_wp2_with fail
      go_ret
      exact ⟨ret_bool (by simp), bstep hwb hbl⟩
end Go.Proofs.Ytpdigiefldnpaaa.estMean
