/- The walk of HexaShort: the law returns true at all inputs, and no old memory changes. -/
import Derived.Test.YtlkcdknbkchglaaHexa
namespace Go.Proofs.Ytlkcdknbkchglaa.hexaShort
open Go.ChangeShapes Go.WideShapes Go.ChangeAt Go.RowKit
open Go.Proofs.Ytlkcdknbkchglaa

theorem rv_1 (w : World) : Calls Try.prog 24 #[.int .i64 1] w fun e w' => e = .returned (.tuple #[.string ⟨#[48, 48, 48, 48, 48, 48, 48, 48, 48, 48, 48, 48, 48, 49]⟩, .int .i64 0]) ∧ Below w.heap.size w w' := by
  have h := rv_c 1 (by omega) w
  have e : hexB 1 14 = ⟨#[48, 48, 48, 48, 48, 48, 48, 48, 48, 48, 48, 48, 48, 49]⟩ := by decide +kernel
  rw [e] at h
  exact h

/-- The plain law: of a number whose last k digits are 0 the text is no longer than it must be. -/
theorem short (n k m : Nat) (hk : k < 14) (hm : m ≤ 14) (h : m = 1 ∨ hd (n / 16 ^ k * 16 ^ k) (m - 1) ≠ 48) : m ≤ max 1 (14 - k) := by
  rcases h with h | h
  · omega
  · by_cases hle : m ≤ 14 - k
    · omega
    · exfalso
      apply h
      have e : 13 - (m - 1) < k := by omega
      have e2 : (n / 16 ^ k * 16 ^ k) / 16 ^ (13 - (m - 1)) % 16 = 0 := by
        obtain ⟨d, hd⟩ : ∃ d, k = (13 - (m - 1)) + (d + 1) := ⟨k - (13 - (m - 1)) - 1, by omega⟩
        have e3 : n / 16 ^ k * 16 ^ k = 16 ^ (13 - (m - 1)) * (n / 16 ^ k * 16 ^ d * 16) := by
          conv => lhs; rhs; rw [hd, Nat.pow_add, Nat.pow_succ]
          rw [Nat.mul_left_comm, Nat.mul_assoc]
        rw [e3, Nat.mul_div_cancel_left _ (Nat.pow_pos (by omega)), Nat.mul_mod_left]
      unfold Go.Proofs.Ytlkcdknbkchglaa.hd hn
      rw [e2]
      rfl

set_option linter.unusedVariables false
set_option maxHeartbeats 1000000 in
theorem walk (a0 : Int) (a1 : Int) (w : World) (w0 : (Lit.int .i64 a0).wf = true) (w1 : (Lit.int .i64 a1).wf = true) :
    Calls Try.prog 10 #[.int .i64 a0, .int .i64 a1] w fun e w' => e = .returned (.bool true) ∧ Below w.heap.size w w' := by
  obtain ⟨n, hn⟩ := Int.eq_ofNat_of_zero_le (drw_lo a0)
  have hn2 := drw_hi a0
  have cn := draw_c a0
  rw [hn] at hn2 cn
  obtain ⟨k, hk⟩ : ∃ k, k = wn a1 14 := ⟨_, rfl⟩
  have hk1 := wn_lt a1 14 (by omega)
  have ck := withinN_c a1 14 (by omega) (by omega)
  rw [← hk] at hk1 ck
  have CN := hidp cn
  have CK := hidp ck
  clear cn ck hn hk w0 w1
  go_enter Try.func10, Try.ntmps10
  go_wp2_with fail
  refine (rv_1 _).mono ?_; rintro e wa ⟨rfl, hba⟩
  go_wp2_with fail
  refine (CN.out _).mono ?_; rintro e w' ⟨rfl, rfl⟩
  go_wp2_with fail
  refine (CK.out _).mono ?_; rintro e w' ⟨rfl, rfl⟩
  go_wp2_with fail
  obtain ⟨N, hN⟩ : ∃ N, N = n / 16 ^ k * 16 ^ k := ⟨_, rfl⟩
  have hNle : N ≤ n := by rw [hN]; exact Nat.div_mul_le_self _ _
  have hEq : RowKit.wrap64 ((n : Int) / 2 ^ (4 * k) * 2 ^ (4 * k)) = (N : Int) := by
    have e : (n : Int) / 2 ^ (4 * k) * 2 ^ (4 * k) = (N : Int) := by
      rw [hN, Int.natCast_mul, Int.natCast_ediv, Int.natCast_pow, Int.pow_mul]
      rfl
    rw [e]
    exact IntWalk.wrap64_in _ (by constructor <;> omega)
  rw [hEq]
  have HN := hidp hN
  clear hN hEq
  refine (th_c N (by omega) _).mono ?_
  rintro e wb ⟨m, hm1, hm2, rfl, hH, hbb⟩
  have hlen := short n k m (by omega) hm2 (by rw [← HN.out]; exact hH.out.2)
  go_wp2_with fail
  refine (rv_c N (by omega) _).mono ?_
  rintro e wc ⟨rfl, hbc⟩
  have hz : Below w.heap.size w wc := (hba.trans (hbb.mono hba.size)).trans (hbc.mono (Nat.le_trans hba.size hbb.size))
  obtain ⟨S, hS⟩ : ∃ S, S = hexB N m := ⟨_, rfl⟩
  obtain ⟨T, hT⟩ : ∃ T, T = hexB N 14 := ⟨_, rfl⟩
  have s1 : S.size = m := by rw [hS]; exact hexB_size _ _
  have s2 : T.size = 14 := by rw [hT]; exact hexB_size _ _
  rw [← hS, ← hT]
  have HS := hidp hS
  have HT := hidp hT
  have HL := hidp hlen
  clear hS hT hba hbb hbc hH hlen
  have hl : (m : Int) ≤ 14 - (k : Int) := by have := HL.out; omega
  have hm3 : (1 : Int) ≤ (m : Int) := by omega
  have hk3 : (k : Int) ≤ 13 := by omega
  have hk4 : (1 : Int) ≤ 14 - (k : Int) := by omega
  clear hn2 hNle CN CK
  go_wp2
  all_goals
    go_ret
    exact ⟨ret_bool (by rw [HS.out, HT.out, extract_hex N 14 m hm2]; simp), hz⟩
end Go.Proofs.Ytlkcdknbkchglaa.hexaShort
