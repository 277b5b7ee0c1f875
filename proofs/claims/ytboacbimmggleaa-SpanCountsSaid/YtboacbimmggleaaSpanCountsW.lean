/- The walk of SpanCounts: the law returns true at all inputs, and no old memory changes. -/
import Derived.Test.YtboacbimmggleaaSpans
import Derived.Test.YtboacbimmggleaaCount
namespace Go.Proofs.Ytboacbimmggleaa.spanCounts
open Go.ChangeShapes Go.WideShapes Go.ChangeAt Go.RowKit
open Go.Proofs.Ytboacbimmggleaa

theorem ex1 : cntS [3] [true] 1 = 8 := by decide +kernel

/-- What the i-th way tells. -/
def oneWay (ls : List Int) (low : Int) (N : Nat) (i : Nat) : Int := cntS ls (tab (kb ls ((i : Int) * 1125899906842624 + low)) N) N
def tot (ls : List Int) (low : Int) (N : Nat) : Nat → Int
  | 0 => 0
  | j + 1 => tot ls low N j + oneWay ls low N j
/-- The share of one span. -/
def ps (l low : Int) : Nat → Int
  | 0 => 0
  | j + 1 => ps l low j + if lev l.toNat ≤ (j : Int) * 1125899906842624 + low then 2 ^ l.toNat else 0
def sums (ls : List Int) (low : Int) (j : Nat) : Nat → Int
  | 0 => 0
  | k + 1 => sums ls low j k + ps (gi ls k) low j
theorem way_sum (ls : List Int) (low : Int) (N j : Nat) : ∀ k, k ≤ N → sums ls low j k + cntS ls (tab (kb ls ((j : Int) * 1125899906842624 + low)) N) k = sums ls low (j + 1) k
  | 0, _ => rfl
  | k + 1, h => by
    have a := way_sum ls low N j k (by omega)
    simp only [sums, cntS, ps]
    rw [tab_gb _ _ _ (by omega)]
    rw [show kb ls ((j : Int) * 1125899906842624 + low) k = decide (lev (gi ls k).toNat ≤ (j : Int) * 1125899906842624 + low) from rfl]
    by_cases hl : lev (gi ls k).toNat ≤ (j : Int) * 1125899906842624 + low
    · simp [hl]; omega
    · simp [hl]; omega
theorem sums_zero (ls : List Int) (low : Int) : ∀ k, sums ls low 0 k = 0
  | 0 => rfl
  | k + 1 => by simp only [sums, ps]; rw [sums_zero ls low k]; rfl
theorem tot_sums (ls : List Int) (low : Int) (N : Nat) : ∀ j, tot ls low N j = sums ls low j N
  | 0 => (sums_zero ls low N).symm
  | j + 1 => by
    have a := tot_sums ls low N j
    have b := way_sum ls low N j N (Nat.le_refl _)
    simp only [tot]
    rw [a]
    exact b
/-- The same share, by whole numbers. -/
def pn (l : Nat) : Nat → Nat
  | 0 => 0
  | j + 1 => pn l j + if 64 - 64 / 2 ^ l ≤ j then 2 ^ l else 0
theorem pn_64 : ∀ l, l < 7 → pn l 64 = 64 := by decide +kernel
theorem lev_6 : ∀ l, l < 7 → lev l = (((64 - 64 / 2 ^ l) * 1125899906842624 : Nat) : Int) := by decide +kernel
theorem ps_pn (l : Nat) (low : Int) (hl : l < 7) (h1 : 0 ≤ low) (h2 : low < 1125899906842624) : ∀ j, ps (l : Int) low j = (pn l j : Int)
  | 0 => rfl
  | j + 1 => by
    have a := ps_pn l low hl h1 h2 j
    simp only [ps, pn]
    rw [a, Int.toNat_natCast, lev_6 l hl]
    generalize 64 - 64 / 2 ^ l = t
    by_cases ht : t ≤ j
    · rw [if_pos (by omega), if_pos ht, Int.natCast_add, Int.natCast_pow]; rfl
    · rw [if_neg (by omega), if_neg ht, Int.natCast_add]; rfl
theorem sums_64 (ls : List Int) (low : Int) (h1 : 0 ≤ low) (h2 : low < 1125899906842624) : ∀ k, (∀ i, i < k → 0 ≤ gi ls i ∧ gi ls i ≤ 6) → sums ls low 64 k = k * 64
  | 0, _ => rfl
  | k + 1, h => by
    have a := sums_64 ls low h1 h2 k (fun i hi => h i (by omega))
    obtain ⟨m, hm⟩ := Int.eq_ofNat_of_zero_le (h k (by omega)).1
    have hb := (h k (by omega)).2
    simp only [sums]
    rw [a, hm, ps_pn m low (by omega) h1 h2, pn_64 m (by omega)]
    omega
theorem tot_bd (ls : List Int) (low : Int) (N : Nat) (hN : N ≤ 40) (h : ∀ i, i < N → 0 ≤ gi ls i ∧ gi ls i ≤ 20) : ∀ j, 0 ≤ tot ls low N j ∧ tot ls low N j ≤ 41943040 * j
  | 0 => by simp only [tot]; exact ⟨by omega, by omega⟩
  | j + 1 => by
    have a := tot_bd ls low N hN h j
    have b := cntS_bd ls (tab (kb ls ((j : Int) * 1125899906842624 + low)) N) N h
    simp only [tot]
    unfold oneWay
    omega

set_option linter.unusedVariables false
set_option maxHeartbeats 2000000 in
theorem walk (a0 : Option Addr) (len0 cap0 : Nat) (z0 : List (List Int)) (a1 : Int) (w : World)
    (w0 : RowsAt w a0 len0 cap0 z0) (w1 : (Lit.int .i64 a1).wf = true) :
    Calls Try.prog 6 #[.slice a0 len0 cap0, .int .i64 a1] w fun e w' => e = .returned (.bool true) ∧ Below w.heap.size w w' := by
  have b0 := wi_lo a1 1125899906842624 (by omega)
  have b1 := wi_hi a1 1125899906842624 (by omega)
  clear w1
  go_enter Try.func6, Try.ntmps6
  go_wp2_with fail
  refine (count_c _ _ 1 _ _ [-1] [3] [true] _ ?s0 ?s1 (by omega) ?s2).mono ?_
  case s0 => exact (span_lit1 (-1) 3 (by rfl) (by rfl)).alloc _
  case s1 => exact bools_lit [true] (by simp) (by rfl) (by rfl) (by omega)
  case s2 => intro i hi; match i, hi with | 0, _ => decide
  rintro e wa ⟨rfl, hba⟩
  rw [ex1]
  have hwa : Below w.heap.size w wa := bstep (bal (bal (Below.refl _ _) _) _) hba
  clear hba
  go_wp2_with fail
  refine (spans_c _ _ _ z0 6 _ (w0.below hwa) (by omega) (by omega)).mono ?_
  rintro e wc ⟨v, rfl, hv, hbc⟩
  have hwc : Below w.heap.size w wc := bstep hwa hbc
  have hN : min len0 40 ≤ 40 := by omega
  generalize min len0 40 = N at *
  obtain ⟨asp, csp, hve, has⟩ := owns_spans hv
  subst hve
  have hok := spans_ok z0 6 (by omega) (by omega) N
  have HOK := hidp hok
  have D6 : ∀ i, i < N → 0 ≤ gi (tab (lvf z0 6) N) i ∧ gi (tab (lvf z0 6) N) i ≤ 6 := fun i hi => by
    rw [tab_gi _ _ _ hi]; exact lvf_bd z0 6 (by omega) i
  have HB := hidp (tot_bd (tab (lvf z0 6) N) (wi a1 1125899906842624) N hN (fun i hi => by have := D6 i hi; omega))
  have HT := hidp (show tot (tab (lvf z0 6) N) (wi a1 1125899906842624) N 64 = N * 64 by
    rw [tot_sums]; exact sums_64 _ _ b0 b1 N D6)
  have msp := hidp has.max
  clear hv hok D6 hwa hbc
  go_wp2_with fail
  refine (within_c _ _ (by omega) (by omega) _).mono ?_; rintro e w' ⟨rfl, rfl⟩
  generalize wi a1 1125899906842624 = low at *
  go_wp2_with fail
  go_loopw [8, 31] (fun t i wr => ∃ j : Nat, j ≤ 64 ∧ i = .int .i64 j ∧ t = .int .i64 (tot (tab (lvf z0 6) N) low N j) ∧ Below wc.heap.size wc wr) (fun _ i _ => 64 - (intOf i).toNat)
  case atStart => exact ⟨0, by omega, rfl, rfl, Below.refl _ _⟩
  case round =>
    obtain ⟨j, hj, rfl, rfl, hbl⟩ := hrel
    obtain ⟨B1, B2⟩ := HB.out j
    by_cases hlt : j < 64
    · have hlt' : (j : Int) < 64 := by omega
      have E := hidp (show tot (tab (lvf z0 6) N) low N (j + 1) = tot (tab (lvf z0 6) N) low N j + cntS (tab (lvf z0 6) N) (tab (kb (tab (lvf z0 6) N) ((j : Int) * 1125899906842624 + low)) N) N from rfl)
      have B3 := (HB.out (j + 1)).1
      have B4 := (HB.out (j + 1)).2
      rw [E.out] at B3 B4
      have hs := has.below hbl
      go_wp2_with fail
      refine (kept_c _ _ _ _ _ _ _ hs hN HOK.out (by omega) (by omega)).mono ?_
      rintro e wd ⟨v, rfl, hv, hbd⟩
      obtain ⟨ak, ck, hve, hak⟩ := owns_bools hv
      subst hve
      clear hv
      go_wp2_with fail
      refine (count_c _ _ _ _ _ _ _ _ _ (hs.below hbd) hak hN HOK.out).mono ?_
      rintro e we ⟨rfl, hbe⟩
      have hz := bstep (bstep hbl hbd) hbe
      clear hbd hbe hak hs
      generalize cntS (tab (lvf z0 6) N) (tab (kb (tab (lvf z0 6) N) ((j : Int) * 1125899906842624 + low)) N) N = C at *
      go_wp2
      go_roundw
      case rel => exact ⟨j + 1, by omega, by go_num, v_int E.out.symm, hz⟩
      case measure => simp [intOf]; omega
    · obtain rfl : j = 64 := by omega
      rw [HT.out] at *
      go_wp2
      go_ret
      exact ⟨ret_bool (by simp), bstep hwc hbl⟩
end Go.Proofs.Ytboacbimmggleaa.spanCounts
