/- Contract of the laws' own sum: the sum of a list of numbers, where no partial sum is too great. -/
import Derived.Test.YtmlkhiffmkkmdaaMem
namespace Go.Proofs.Ytmlkhiffmkkmdaa
open Go.ChangeShapes Go.WideShapes Go.ChangeAt Go.RowKit
set_option maxRecDepth 20000

/-- The sum of the first k. -/
def sumK (xs : List Int) : Nat → Int
  | 0 => 0
  | k + 1 => sumK xs k + gi xs k
theorem sumK_bd (xs : List Int) (B : Int) (hB : 0 ≤ B) : ∀ k, (∀ i, i < k → -B ≤ gi xs i ∧ gi xs i ≤ B) → -(B * k) ≤ sumK xs k ∧ sumK xs k ≤ B * k
  | 0, _ => by
    simp only [sumK]
    rw [show ((0 : Nat) : Int) = 0 from rfl, Int.mul_zero]
    exact ⟨by omega, by omega⟩
  | k + 1, h => by
    have a := sumK_bd xs B hB k (fun i hi => h i (by omega))
    have b := h k (by omega)
    have e : B * ((k + 1 : Nat) : Int) = B * k + B := by rw [Int.natCast_add, Int.mul_add]; simp
    rw [e]
    simp only [sumK]
    omega

theorem isum_c (a : Option Addr) (n c : Nat) (xs : List Int) (w : World) (h : IntsAt w a n c xs) (hb : ∀ k, k ≤ n → -4611686018427387904 ≤ sumK xs k ∧ sumK xs k ≤ 4611686018427387904) :
    Calls Try.prog 19 #[.slice a n c] w fun e w' => e = .returned (.int .i64 (sumK xs n)) ∧ w = w' := by
  have HB := hidp hb
  clear hb
  have m := h.max
  have l := h.le
  rcases Nat.eq_zero_or_pos n with hz | hz
  · subst hz
    go_enter Try.func19, Try.ntmps19
    go_wp2_with fail
    refine wp_loop_rounds 1 ?_; rw [rounds_succ]
    go_wp2
    go_ret
    exact ⟨rfl, rfl⟩
  · obtain ⟨b, o, rfl, hb, hc⟩ := h.addr hz
    have C := hidp hc
    clear hc h
    go_enter Try.func19, Try.ntmps19
    go_wp2_with fail
    go_loop [3, 8] (fun s i => ∃ k : Nat, k ≤ n ∧ i = .int .i64 k ∧ s = .int .i64 (sumK xs k)) (fun _ i => n - (intOf i).toNat)
    case atStart => exact ⟨0, by omega, rfl, rfl⟩
    case round =>
      obtain ⟨k, hk, rfl, rfl⟩ := hrel
      obtain ⟨B1, B2⟩ := HB.out k hk
      by_cases hlt : k < n
      · have q := C.out k hlt
        have e : sumK xs (k + 1) = sumK xs k + gi xs k := rfl
        obtain ⟨B3, B4⟩ := HB.out (k + 1) (by omega)
        rw [e] at B3 B4
        clear e
        go_wp2
        go_round
        case rel => exact ⟨k + 1, by omega, by go_num, rfl⟩
        case measure => simp [intOf]; omega
      · obtain rfl : k = n := by omega
        go_wp2
        go_ret
        exact ⟨rfl, rfl⟩
end Go.Proofs.Ytmlkhiffmkkmdaa
