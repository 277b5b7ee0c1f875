/- Contract of regs.Put where it tells an error. -/
import Derived.Test.YtfhmckmglkjbeaaRegs
namespace Go.Proofs.Ytfhmckmglkjbeaa
open Go.ChangeShapes Go.WideShapes Go.ChangeAt Go.RowKit
set_option maxRecDepth 20000

theorem rgE_bd (xs : List Int) (n : Nat) : 0 ≤ rgE xs n ∧ rgE xs n ≤ 7 := by
  unfold rgE; split
  · split <;> omega
  · omega
def rpE (xs : List Int) (n : Nat) (k : Int) : Int := if rgE xs n = 0 then (if 0 ≤ k ∧ k < 72057594037927936 then 0 else 1) else rgE xs n
theorem rpE_zero (xs : List Int) (n : Nat) (k : Int) (h : rpE xs n k = 0) : rgE xs n = 0 ∧ 0 ≤ k ∧ k < 72057594037927936 := by
  unfold rpE at h
  by_cases h1 : rgE xs n = 0
  · rw [if_pos h1] at h
    by_cases h2 : 0 ≤ k ∧ k < 72057594037927936
    · exact ⟨h1, h2⟩
    · rw [if_neg h2] at h; omega
  · rw [if_neg h1] at h; omega
theorem rput_bad (a : Option Addr) (n c : Nat) (xs : List Int) (k : Int) (w : World) (h : IntsAt w a n c xs) (he : rpE xs n k ≠ 0) :
    Calls Try.prog 16 #[.slice a n c, .int .i64 k] w fun e w' => e = .returned (.tuple #[.slice none 0 0, .int .i64 (rpE xs n k)]) ∧ Below w.heap.size w w' := by
  have C1 := hidp (rcheck_c a n c xs w h)
  have bd := rgE_bd xs n
  obtain ⟨bd1, bd2⟩ := bd
  clear h
  by_cases h1 : rgE xs n = 0
  · have hno : ¬ (0 ≤ k ∧ k < 72057594037927936) := fun h2 => he (by unfold rpE; rw [if_pos h1, if_pos h2])
    have E := hidp (show rpE xs n k = 1 by unfold rpE; rw [if_pos h1, if_neg hno])
    rw [h1] at C1
    have NC := hidp (num_c k)
    rw [decide_eq_false hno] at NC
    clear h1 he bd1 bd2 hno
    go_enter Try.func16, Try.ntmps16
    go_wp2_with fail
    refine C1.out.mono ?_
    rintro e wa ⟨rfl, hba⟩
    go_wp2_with fail
    refine (NC.out _).mono ?_
    rintro e w' ⟨rfl, rfl⟩
    go_wp2_with fail
    go_ret2
    exact ⟨by rw [E.out] <;> rfl, hba⟩
  · have E := hidp (show rpE xs n k = rgE xs n by unfold rpE; rw [if_neg h1])
    have hne : (rgE xs n != 0) = true := by rw [bne_iff_ne]; exact h1
    clear he h1
    generalize rgE xs n = W at *
    go_enter Try.func16, Try.ntmps16
    go_wp2_with fail
    refine C1.out.mono ?_
    rintro e wa ⟨rfl, hba⟩
    go_wp2_with fail
    go_ret2
    exact ⟨by rw [E.out] <;> rfl, hba⟩
end Go.Proofs.Ytfhmckmglkjbeaa
