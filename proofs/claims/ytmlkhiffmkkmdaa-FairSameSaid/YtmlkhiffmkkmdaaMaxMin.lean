/- Contracts of slices.Max and slices.Min at integers: one of the elements. -/
import Derived.Test.YtmlkhiffmkkmdaaMem
import Derived.Lib.MinMax
namespace Go.Proofs.Ytmlkhiffmkkmdaa
open Go.ChangeShapes Go.WideShapes Go.ChangeAt Go.RowKit
set_option maxRecDepth 20000
theorem max_c (a : Option Addr) (n c : Nat) (xs : List Int) (w : World) (h : IntsAt w a n c xs) (hn : 1 ≤ n) :
    Calls Try.prog 21 #[.slice a n c] w fun e w' => (∃ i, i < n ∧ e = .returned (.int .i64 (gi xs i))) ∧ w = w' := by
  have m := h.max
  have l := h.le
  obtain ⟨b, o, rfl, hb, hc⟩ := h.addr (by omega)
  have C := hidp hc
  have q0 := hc 0 (by omega)
  rw [Nat.add_zero] at q0
  have n1 : ¬ (n : Int) < 1 := by omega
  have n0 : (0 : Int) < (n : Int) := by omega
  clear hc h
  go_enter Try.func21, Try.ntmps21
  go_wp2_with fail
  go_loop [3, 4] (fun s i => ∃ k j : Nat, 1 ≤ k ∧ k ≤ n ∧ j < n ∧ i = .int .i64 k ∧ s = .int .i64 (gi xs j)) (fun _ i => n - (intOf i).toNat)
  case atStart => exact ⟨1, 0, Nat.le_refl _, hn, by omega, rfl, rfl⟩
  case round =>
    obtain ⟨k, j, hk1, hk, hj, rfl, rfl⟩ := hrel
    by_cases hlt : k < n
    · have q := C.out k hlt
      have kI : (k : Int) < (n : Int) := by omega
      go_wp2
      go_round
      case rel =>
        rcases Int.le_total (gi xs j) (gi xs k) with h | h
        · exact ⟨k + 1, k, by omega, by omega, hlt, by go_num, v_int (by omega)⟩
        · exact ⟨k + 1, j, by omega, by omega, hj, by go_num, v_int (by omega)⟩
      case measure => simp [intOf]; omega
    · obtain rfl : k = n := by omega
      go_wp2
      go_ret
      exact ⟨⟨j, hj, rfl⟩, rfl⟩
theorem min_c (a : Option Addr) (n c : Nat) (xs : List Int) (w : World) (h : IntsAt w a n c xs) (hn : 1 ≤ n) :
    Calls Try.prog 22 #[.slice a n c] w fun e w' => (∃ i, i < n ∧ e = .returned (.int .i64 (gi xs i))) ∧ w = w' := by
  have m := h.max
  have l := h.le
  obtain ⟨b, o, rfl, hb, hc⟩ := h.addr (by omega)
  have C := hidp hc
  have q0 := hc 0 (by omega)
  rw [Nat.add_zero] at q0
  have n1 : ¬ (n : Int) < 1 := by omega
  have n0 : (0 : Int) < (n : Int) := by omega
  clear hc h
  go_enter Try.func22, Try.ntmps22
  go_wp2_with fail
  go_loop [3, 4] (fun s i => ∃ k j : Nat, 1 ≤ k ∧ k ≤ n ∧ j < n ∧ i = .int .i64 k ∧ s = .int .i64 (gi xs j)) (fun _ i => n - (intOf i).toNat)
  case atStart => exact ⟨1, 0, Nat.le_refl _, hn, by omega, rfl, rfl⟩
  case round =>
    obtain ⟨k, j, hk1, hk, hj, rfl, rfl⟩ := hrel
    by_cases hlt : k < n
    · have q := C.out k hlt
      have kI : (k : Int) < (n : Int) := by omega
      go_wp2
      go_round
      case rel =>
        rcases Int.le_total (gi xs j) (gi xs k) with h | h
        · exact ⟨k + 1, j, by omega, by omega, hj, by go_num, v_int (by omega)⟩
        · exact ⟨k + 1, k, by omega, by omega, hlt, by go_num, v_int (by omega)⟩
      case measure => simp [intOf]; omega
    · obtain rfl : k = n := by omega
      go_wp2
      go_ret
      exact ⟨⟨j, hj, rfl⟩, rfl⟩
end Go.Proofs.Ytmlkhiffmkkmdaa
