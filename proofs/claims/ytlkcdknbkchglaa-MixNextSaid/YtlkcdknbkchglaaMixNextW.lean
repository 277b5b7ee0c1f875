/- The walk of MixNext: the law returns true at all inputs, and no old memory changes. -/
import Derived.Test.YtlkcdknbkchglaaMix
import Derived.Test.YtlkcdknbkchglaaMapB
namespace Go.Proofs.Ytlkcdknbkchglaa.mixNext
open Go.ChangeShapes Go.WideShapes Go.ChangeAt Go.RowKit Go.Maps
open Go.Proofs.Ytlkcdknbkchglaa MixMath

def G : Nat := 11400714819323198485
def GI : Nat := 17428512612931826493
/-- The state after j steps. -/
def st (X j : Nat) : Nat := (X + j * G) % M64
theorem st_lt (X j : Nat) : st X j < M64 := Nat.mod_lt _ (by decide)
theorem st_succ (X j : Nat) : (st X j + G) % M64 = st X (j + 1) := by
  unfold st; rw [Nat.mod_add_mod, Nat.add_mul, Nat.one_mul, Nat.add_assoc]
theorem st_inj (X i j : Nat) (hij : i < j) (hj : j < 1000) : st X i ≠ st X j := by
  intro h
  unfold st at h
  have e : ((j - i) * G) % M64 = 0 * G % M64 := by
    have hj' : X + j * G = X + i * G + (j - i) * G := by
      rw [Nat.sub_mul]
      have : i * G ≤ j * G := Nat.mul_le_mul_right _ (by omega)
      omega
    rw [hj'] at h
    unfold M64 at *
    omega
  have := mul_inj G GI (j - i) 0 (by decide) (by unfold M64; omega) (by decide) e
  omega
theorem mix_ne (X i j : Nat) (hij : i < j) (hj : j < 1000) : mixN (st X i) ≠ mixN (st X j) :=
  fun h => st_inj X i j hij hj (mixN_inj _ _ (st_lt _ _) (st_lt _ _) h)
/-- Which numbers were told in j rounds. -/
def told (X : Nat) : Nat → Int → Bool
  | 0, _ => false
  | j + 1, z => if z = ((mixN (st X (j + 1)) : Nat) : Int) then true else told X j z
theorem told_new (X : Nat) : ∀ j k, j < k → k < 1000 → told X j ((mixN (st X k) : Nat) : Int) = false
  | 0, _, _, _ => rfl
  | j + 1, k, h, hk => by
    have a := told_new X j k (by omega) hk
    have b := mix_ne X (j + 1) k h hk
    simp only [told]
    rw [if_neg (by omega)]
    exact a

theorem next_0 (w : World) : Calls Try.prog 18 #[.int .u64 0] w fun e w' => e = .returned (.tuple #[.int .u64 11400714819323198485, .int .u64 16294208416658607535]) ∧ w = w' := by
  have h := next_c 0 (by omega) w
  rw [show (0 + 11400714819323198485) % 18446744073709551616 = 11400714819323198485 from rfl, mixN_at_G] at h
  exact h
theorem mix_G (w : World) : Calls Try.prog 19 #[.int .u64 11400714819323198485] w fun e w' => e = .returned (.int .u64 16294208416658607535) ∧ w = w' := by
  have h := mix_c 11400714819323198485 (by omega) w
  rw [mixN_at_G] at h
  exact h
theorem zeroB (w : World) : (zeroValue 4).run Try.prog w = .ok (.bool false) w := by kernel_rfl
theorem next_st (X j : Nat) (w : World) : Calls Try.prog 18 #[.int .u64 (st X j : Nat)] w fun e w' => e = .returned (.tuple #[.int .u64 (st X (j + 1) : Nat), .int .u64 (mixN (st X (j + 1)))]) ∧ w = w' := by
  have h := next_c (st X j) (st_lt X j) w
  rw [show (st X j + 11400714819323198485) % 18446744073709551616 = st X (j + 1) from st_succ X j] at h
  exact h
theorem key_u64 (n : Nat) (h : n < 18446744073709551616) : keyOf Try.prog 29 (.int .u64 (n : Int)) = some (.int .u64 (n : Int)) := keyOf_int_mk Try.underlying29 (WalkArith.wf_u64 (by omega))

theorem diff_a (X j : Nat) : IntKind.u64.wrap (((st X j : Nat) : Int) - (X : Int)) = (((j * G) % M64 : Nat) : Int) := by
  rw [IntKind.wrap_u64]
  unfold st
  generalize j * G = Y
  unfold M64
  omega
theorem diff_b (j : Nat) : IntKind.u64.wrap (((j : Int) + 1) * 11400714819323198485) = ((((j + 1) * G) % M64 : Nat) : Int) := by
  rw [IntKind.wrap_u64, Int.natCast_emod, Int.natCast_mul]
  rfl

set_option linter.unusedVariables false
set_option maxHeartbeats 1000000 in
theorem walk (a0 : Int) (a1 : Int) (w : World) (w0 : (Lit.int .u64 a0).wf = true) (w1 : (Lit.int .i64 a1).wf = true) :
    Calls Try.prog 5 #[.int .u64 a0, .int .i64 a1] w fun e w' => e = .returned (.bool true) ∧ Below w.heap.size w w' := by
  have hx := bounds_u64 w0
  obtain ⟨X, hX⟩ := Int.eq_ofNat_of_zero_le hx.1
  subst hX
  obtain ⟨n, hn⟩ : ∃ n, n = wn a1 200 := ⟨_, rfl⟩
  have hn1 := wn_lt a1 200 (by omega)
  have cn := withinN_c a1 200 (by omega) (by omega)
  rw [← hn] at hn1 cn
  have CN := hidp cn
  have HX := hidp hx
  clear cn hn w0 w1 hx
  have hmm := @run_makeMap Try.prog
  go_enter Try.func5, Try.ntmps5
  go_wp2_with fail
  refine (next_0 _).mono ?_; rintro e w' ⟨rfl, rfl⟩
  go_wp2_with fail
  refine (mix_G _).mono ?_; rintro e w' ⟨rfl, rfl⟩
  go_wp2_with fail
  refine (CN.out _).mono ?_; rintro e w' ⟨rfl, rfl⟩
  go_wp2_with fail
  have e0 : ((X : Nat) : Int) = ((st X 0 : Nat) : Int) := by
    have := HX.out.2
    unfold st M64
    rw [Nat.zero_mul, Nat.add_zero, Nat.mod_eq_of_lt (by omega)]
  have E0 := hidp e0
  clear e0
  go_loopw [8, 33] (fun s i wr => ∃ j : Nat, j ≤ n + 1 ∧ i = .int .i64 j ∧ s = .int .u64 (st X j : Nat) ∧ MapIs wr Try.prog 29 4 .u64 w.heap.size j (told X j) ∧ Below w.heap.size w wr) (fun _ i _ => n + 1 - (intOf i).toNat)
  case atStart => exact ⟨0, by omega, rfl, v_int E0.out, MapIs.made _ _ _ _ _, (Below.refl _ _).alloc (Nat.le_refl _) _⟩
  case round =>
    obtain ⟨j, hj, rfl, rfl, hmap, hbl⟩ := hrel
    by_cases hlt : j < n + 1
    · have c := next_st X j
      have C := hidp c
      have hM := hmap.run (t := 33) (int_keyed Try.underlying29) Try.underlying33 Try.underlying4 (zeroB wr) _ (key_u64 _ (mixN_lt (st X (j + 1))))
      rw [told_new X j (j + 1) (by omega) (by omega)] at hM
      have hlt' : (j : Int) < 1 + (n : Int) := by omega
      have hA := diff_a X (j + 1)
      have hB := diff_b j
      generalize (((j + 1) * G % M64 : Nat) : Int) = V at *
      clear c
      go_wp2_with fail
      refine (C.out _).mono ?_; rintro e w' ⟨rfl, rfl⟩
      go_wp2_with (at_mapUpdate; refine wpList_mapUpdate_bool rfl (.tmp 54) (.tmp 55) _ 33 rfl 29 4 (int_keyed Try.underlying29) Try.underlying33 Try.underlying4 w.heap.size j (told X j) .u64 rfl hmap (by omega) _ true rfl rfl (key_u64 _ (mixN_lt _)) ?_; intro w1 hmap1 hg1)
      go_roundw
      case rel => exact ⟨j + 1, by omega, by go_num, rfl, hmap1, hbl.grown hg1 hbl.size (fun k hk => by cases hk; exact Nat.le_refl _)⟩
      case measure => simp [intOf]; omega
    · have hlt' : ¬ (j : Int) < 1 + (n : Int) := by omega
      go_wp2
      go_ret
      exact ⟨rfl, hbl⟩
end Go.Proofs.Ytlkcdknbkchglaa.mixNext
