/- The walk of MixBack: the law returns true at all inputs, and no old memory changes. -/
import Derived.Test.YtmgagmnknhgkdaaUnmix
namespace Go.Proofs.Ytmgagmnknhgkdaa.mixBack
open Go.ChangeShapes Go.WideShapes Go.ChangeAt Go.RowKit
open Go.Proofs.Ytmgagmnknhgkdaa MixMath

set_option linter.unusedVariables false
set_option maxHeartbeats 1000000 in
theorem walk (a0 : Int) (a1 : Int) (w : World) (w0 : (Lit.int .u64 a0).wf = true) (w1 : (Lit.int .u64 a1).wf = true) :
    Calls Try.prog 4 #[.int .u64 a0, .int .u64 a1] w fun e w' => e = .returned (.bool true) ∧ Below w.heap.size w w' := by
  have hx := bounds_u64 w0
  have hy := bounds_u64 w1
  obtain ⟨X, hX⟩ := Int.eq_ofNat_of_zero_le hx.1
  obtain ⟨Y, hY⟩ := Int.eq_ofNat_of_zero_le hy.1
  subst hX hY
  have hx' : X < M64 := by have := hx.2; unfold M64; omega
  have hy' : Y < M64 := by have := hy.2; unfold M64; omega
  have L := hidp (mixN_lt X)
  have c0 := hidp (fun w => by have := mix_c 0 (by omega) w; rw [mixN_zero] at this; exact this)
  have c1 := hidp (mix_c 1 (by omega))
  have c2 := hidp (mix_c 2 (by omega))
  have cx := hidp (mix_c X hx')
  have cy := hidp (mix_c Y hy')
  have ux := hidp (unmix_c X hx')
  have um := hidp (fun w => by have := unmix_c (mixN X) (mixN_lt X) w; rw [unmix_mix X hx'] at this; exact this)
  have mu := hidp (fun w => by have := mix_c (unmixN X) (unmixN_lt X) w; rw [mix_unmix X hx'] at this; exact this)
  have h12 : (((mixN 1 : Nat) : Int) == ((mixN 2 : Nat) : Int)) = false := by
    rw [beq_eq_false_iff_ne]; have := mixN_12; omega
  have hxy : (((mixN X : Nat) : Int) == ((mixN Y : Nat) : Int)) = ((X : Int) == (Y : Int)) := by
    rw [Bool.eq_iff_iff, beq_iff_eq, beq_iff_eq]
    constructor
    · intro e; have := mixN_inj X Y hx' hy' (by omega); omega
    · intro e; rw [show X = Y by omega]
  have HXY := hidp hxy
  clear hx hy hx' hy' w0 w1 hxy
  generalize mixN 1 = m1 at *
  generalize mixN 2 = m2 at *
  go_enter Try.func4, Try.ntmps4
  go_wp2_with fail
  refine (c0.out _).mono ?_; rintro e w' ⟨rfl, rfl⟩
  go_wp2_with fail
  refine (c1.out _).mono ?_; rintro e w' ⟨rfl, rfl⟩
  go_wp2_with fail
  refine (c2.out _).mono ?_; rintro e w' ⟨rfl, rfl⟩
  go_wp2_with fail
  refine (cx.out _).mono ?_; rintro e w' ⟨rfl, rfl⟩
  go_wp2_with fail
  refine (um.out _).mono ?_; rintro e w' ⟨rfl, rfl⟩
  go_wp2_with fail
  refine (ux.out _).mono ?_; rintro e w' ⟨rfl, rfl⟩
  go_wp2_with fail
  refine (mu.out _).mono ?_; rintro e w' ⟨rfl, rfl⟩
  go_wp2_with fail
  refine (cx.out _).mono ?_; rintro e w' ⟨rfl, rfl⟩
  go_wp2_with fail
  refine (cy.out _).mono ?_; rintro e w' ⟨rfl, rfl⟩
  go_wp2_with fail
  go_ret
  exact ⟨ret_bool (by rw [HXY.out]; simp), Below.refl _ _⟩
end Go.Proofs.Ytmgagmnknhgkdaa.mixBack
