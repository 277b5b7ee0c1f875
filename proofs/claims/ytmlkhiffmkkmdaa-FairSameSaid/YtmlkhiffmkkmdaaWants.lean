/- Contract of share.wants at every list. -/
import Derived.Test.YtmlkhiffmkkmdaaCFunc
namespace Go.Proofs.Ytmlkhiffmkkmdaa
open Go.ChangeShapes Go.WideShapes Go.ChangeAt Go.RowKit
set_option maxRecDepth 20000
/-- Is it no count? -/
def noCnt (x : Int) : Bool := decide (x < 0) || decide (1000000000000 < x)
theorem wantsX_c (x : Int) (w : World) :
    Calls Try.prog 52 #[.int .i64 x] w fun e w' => e = .returned (.bool (noCnt x)) ∧ Below w.heap.size w w' := by
  by_cases h1 : x < 0
  · go_enter Try.func52, Try.ntmps52
    go_wp2
    go_ret
    exact ⟨ret_bool (by unfold noCnt; rw [decide_eq_true h1]; rfl), Below.refl _ _⟩
  · by_cases h2 : 1000000000000 < x
    · have R := hidp (show noCnt x = true by unfold noCnt; rw [decide_eq_true h2, decide_eq_false h1]; rfl)
      go_enter Try.func52, Try.ntmps52
      go_wp2
      go_ret
      exact ⟨ret_bool R.out.symm, Below.refl _ _⟩
    · have R := hidp (show noCnt x = false by unfold noCnt; rw [decide_eq_false h1, decide_eq_false h2]; rfl)
      go_enter Try.func52, Try.ntmps52
      go_wp2
      go_ret
      exact ⟨ret_bool R.out.symm, Below.refl _ _⟩
/-- What wants tells. -/
def wantE (xs : List Int) (n : Nat) : Int := if 40 < n then 2 else if hasF noCnt xs n = true then 1 else 0
set_option maxHeartbeats 1000000 in
theorem wantsE_c (a : Option Addr) (n c : Nat) (xs : List Int) (w : World) (h : IntsAt w a n c xs) :
    Calls Try.prog 37 #[.slice a n c] w fun e w' => e = .returned (.int .i64 (wantE xs n)) ∧ Below w.heap.size w w' := by
  have mm := h.max
  have ee := h.le
  by_cases h40 : 40 < n
  · have R := hidp (show wantE xs n = 2 by unfold wantE; rw [if_pos h40])
    have h40' : (40 : Int) < (n : Int) := by omega
    clear h h40
    go_enter Try.func37, Try.ntmps37
    go_wp2_with fail
    go_ret
    exact ⟨ret_int R.out.symm, Below.refl _ _⟩
  · have h40' : ¬ (40 : Int) < (n : Int) := by omega
    have C := hidp (cfunc_c 52 #[] noCnt (fun _ _ => by kernel_rfl) a n c xs w h (fun W i hi hB => (wantsX_c _ W).mono (fun e w' ⟨h1, h2⟩ => ⟨h1, hB.trans (h2.mono hB.size)⟩)))
    have R := hidp (show wantE xs n = if hasF noCnt xs n = true then 1 else 0 by unfold wantE; rw [if_neg h40])
    clear h h40
    cases hf : hasF noCnt xs n with
    | true =>
      rw [hf] at C R
      clear hf
      go_enter Try.func37, Try.ntmps37
      go_wp2_with fail
      refine C.out.mono ?_
      rintro e w1 ⟨rfl, hb⟩
      go_wp2_with fail
      go_ret
      exact ⟨ret_int (by rw [R.out]; rfl), hb⟩
    | false =>
      rw [hf] at C R
      clear hf
      go_enter Try.func37, Try.ntmps37
      go_wp2_with fail
      refine C.out.mono ?_
      rintro e w1 ⟨rfl, hb⟩
      go_wp2_with fail
      go_ret
      exact ⟨ret_int (by rw [R.out]; rfl), hb⟩
theorem wantE_ok (xs : List Int) (n : Nat) (h1 : n ≤ 40) (h2 : ∀ i, i < n → 0 ≤ gi xs i ∧ gi xs i ≤ 1000000000000) : wantE xs n = 0 := by
  unfold wantE
  rw [if_neg (by omega), hasF_false noCnt xs n (fun i hi => by
    have := h2 i hi
    unfold noCnt
    rw [decide_eq_false (by omega), decide_eq_false (by omega)]; rfl)]
  rfl
theorem wantE_zero (xs : List Int) (n : Nat) (h : wantE xs n = 0) : n ≤ 40 ∧ ∀ i, i < n → 0 ≤ gi xs i ∧ gi xs i ≤ 1000000000000 := by
  unfold wantE at h
  by_cases h40 : 40 < n
  · rw [if_pos h40] at h; omega
  · rw [if_neg h40] at h
    refine ⟨by omega, fun i hi => ?_⟩
    rcases Decidable.em (0 ≤ gi xs i ∧ gi xs i ≤ 1000000000000) with c | c
    · exact c
    · rw [hasF_true noCnt xs n ⟨i, hi, by
        unfold noCnt
        rw [Bool.or_eq_true, decide_eq_true_eq, decide_eq_true_eq]; omega⟩] at h
      simp at h
end Go.Proofs.Ytmlkhiffmkkmdaa
