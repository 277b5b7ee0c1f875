/- The walk of MixText: the law returns true at all inputs, and no old memory changes. -/
import Derived.Test.YtlkcdknbkchglaaMixOf
namespace Go.Proofs.Ytlkcdknbkchglaa.mixText
open Go.ChangeShapes Go.WideShapes Go.ChangeAt Go.RowKit
open Go.Proofs.Ytlkcdknbkchglaa MixMath

theorem ofN_a : ((ofN (ByteArray.mk #[97]) : Nat) : Int) = 0 → False := by decide +kernel

/-- mix.Of of any text. -/
def ofI (s : ByteArray) : Int := if s.size ≤ 200 then ofN s else 0
def ofE (s : ByteArray) : Int := if s.size ≤ 200 then 0 else 2
theorem of_all (s : ByteArray) (h2 : s.size ≤ 9223372036854775807) (w : World) :
    Calls Try.prog 23 #[.string s] w fun e w' => e = .returned (.tuple #[.int .i64 (ofI s), .int .i64 (ofE s)]) ∧ w = w' := by
  unfold ofI ofE
  split
  · exact of_c s (by omega) w
  · exact of_large s (by omega) h2 w
theorem ofI_bd (s : ByteArray) : 0 ≤ ofI s ∧ ofI s < 72057594037927936 := by
  unfold ofI
  have := ofN_lt s
  split <;> omega

set_option linter.unusedVariables false
theorem walk (a0 : ByteArray) (a1 : ByteArray) (w : World) (w0 : a0.size ≤ maxLen) (w1 : a1.size ≤ maxLen) :
    Calls Try.prog 9 #[.string a0, .string a1] w fun e w' => e = .returned (.bool true) ∧ Below w.heap.size w w' := by
  unfold maxLen at w0 w1
  go_enter Try.func9, Try.ntmps9
  go_wp2_with fail
  refine (of_c _ (by decide) _).mono ?_; rintro e w' ⟨rfl, rfl⟩
  have hA := hidp ofN_a
  have hA0 : (((ofN (ByteArray.mk #[97]) : Nat) : Int) == 0) = false := by
    rw [beq_eq_false_iff_ne]; exact ofN_a
  generalize ofN (ByteArray.mk #[97]) = A at *
  clear hA
  have cx := fun w => of_all a0 w0 w
  have cy := fun w => of_all a1 w1 w
  have CX := hidp cx
  have CY := hidp cy
  have bx := ofI_bd a0
  have e1 : (decide (ofE a0 = 0)) = decide (a0.size ≤ 200) := by unfold ofE; split <;> simp_all
  clear cx cy
  generalize ofI a0 = X at *
  generalize ofI a1 = Y at *
  generalize ofE a0 = EX at *
  generalize ofE a1 = EY at *
  have E1 := hidp e1
  clear e1
  go_wp2_with fail
  refine (CX.out _).mono ?_; rintro e w' ⟨rfl, rfl⟩
  go_wp2_with fail
  refine (CY.out _).mono ?_; rintro e w' ⟨rfl, rfl⟩
  go_wp2_with fail
  refine (CX.out _).mono ?_; rintro e w' ⟨rfl, rfl⟩
  go_wp2
  go_ret
  refine ⟨ret_bool ?_, Below.refl _ _⟩
  have h := E1.out
  by_cases hs : a0.size ≤ 200
  · have h1 : EX = 0 := by simpa [hs] using h
    have h2 : (a0.size : Int) ≤ 200 := by omega
    simp [h1, h2]
  · have h1 : ¬ EX = 0 := by simpa [hs] using h
    have h2 : ¬ (a0.size : Int) ≤ 200 := by omega
    simp [h1, h2]
end Go.Proofs.Ytlkcdknbkchglaa.mixText
