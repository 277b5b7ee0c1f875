/- Merged: DivMath, Div. -/
import Derived.Lib.ItoaNum
import Derived.Laws.Bits64b
import Derived.Test.YtgodgfnfaiiohaaGreatDoorBase
import Derived.Test.YtgodgfnfaiiohaaGreatDoorMem
import Derived.Test.YtgodgfnfaiiohaaGreatDoorShelf
import Derived.Deep.QuietTactic
import Derived.BigQuiet
/- Division of two words by one (Knuth's D in halves of a word), plain. -/
namespace Go.Proofs.YtgodgfnfaiiohaaGreatDoor
set_option maxRecDepth 20000

theorem kn_mul (q a c B : Nat) : (a * B + c) * q = q * a * B + q * c := by
  rw [Nat.mul_comm, Nat.mul_add, Nat.mul_assoc]
/-- The trial is too great. -/
theorem kn_more {u d a c q r B : Nat} (h : q * a + r = u) (hu : u < a * B + c) (hd : d < B) (hc : B ≤ q ∨ B * r + d < q * c) : (u * B + d) / (a * B + c) < q := by
  apply Nat.div_lt_of_lt_mul
  rcases hc with hc | hc
  · have h1 : (u + 1) * B ≤ (a * B + c) * q := Nat.mul_le_mul hu hc
    rw [Nat.add_mul] at h1
    omega
  · rw [kn_mul]
    have e : u * B = q * a * B + r * B := by rw [← h, Nat.add_mul]
    rw [Nat.mul_comm B r] at hc
    omega
/-- The trial is not too great. -/
theorem kn_done {u d a c q r B : Nat} (h : q * a + r = u) (hY : 0 < a * B + c) (hc : q * c ≤ B * r + d) : q ≤ (u * B + d) / (a * B + c) := by
  rw [Nat.le_div_iff_mul_le hY, Nat.mul_comm, kn_mul]
  have e : u * B = q * a * B + r * B := by rw [← h, Nat.add_mul]
  rw [Nat.mul_comm B r] at hc
  omega
/-- The rest has grown great. -/
theorem kn_break {u d a c q r B : Nat} (h : q * a + r = u) (hu : u < a * B + c) (hcB : c < B) (hr : B ≤ r) : q * c ≤ B * r + d := by
  have h1 : q * a < a * B := by omega
  have h2 : q < B := by
    rw [Nat.mul_comm q a] at h1
    exact Nat.lt_of_mul_lt_mul_left h1
  have h3 : q * c ≤ B * r := Nat.mul_le_mul (by omega) (by omega)
  omega
theorem kn_q {u a c q r B : Nat} (h : q * a + r = u) (hu : u < a * B + c) (hc : c < B) (ha : 1 ≤ a) : q ≤ 2 * B := by
  have h1 : q * a ≤ a * B + B := by omega
  have h2 : a * B + B ≤ a * (2 * B) := by
    rw [Nat.mul_left_comm, Nat.two_mul]
    have := Nat.mul_le_mul_right B ha
    omega
  rw [Nat.mul_comm q a] at h1
  exact Nat.le_of_mul_le_mul_left (Nat.le_trans h1 h2) (by omega)
/-- The normed numbers. -/
theorem kn_norm (H L y : Nat) (h1 : 1 ≤ y) (h2 : y ≤ 72057594037927936) (hH : H < y) (hL : L < 18446744073709551616) :
    ∃ s Y u v : Nat, 64 - (Lib.bitLen y : Int) = (s : Int) ∧ 1 ≤ s ∧ s ≤ 63 ∧ y * 2 ^ s = Y ∧ 9223372036854775808 ≤ Y ∧ Y < 18446744073709551616 ∧ H * 2 ^ s < 18446744073709551616 ∧ (H * 2 ^ s ||| L / 2 ^ (64 - s)) = u ∧ L * 2 ^ s % 18446744073709551616 = v
      ∧ u < Y ∧ u * 18446744073709551616 + v = (H * 18446744073709551616 + L) * 2 ^ s := by
  obtain ⟨hb1, b2, b1⟩ := Lib.bitLenAux_bounds 64 y (by omega) (by omega)
  have eb : Lib.bitLen y = Lib.bitLenAux 64 y := rfl
  rw [eb]
  generalize Lib.bitLenAux 64 y = b at *
  have hb2 : b ≤ 57 := by
    rcases Nat.lt_or_ge 57 b with e | e
    · have := Nat.pow_le_pow_right (show 0 < 2 by omega) (show 57 ≤ b - 1 by omega)
      omega
    · exact e
  have p1 : 2 ^ (b - 1) * 2 ^ (64 - b) = 9223372036854775808 := by rw [← Nat.pow_add, show b - 1 + (64 - b) = 63 by omega]
  have p2 : 2 ^ b * 2 ^ (64 - b) = 18446744073709551616 := by rw [← Nat.pow_add, show b + (64 - b) = 64 by omega]
  have hs : 64 - (64 - b) = b := by omega
  refine ⟨64 - b, _, _, _, by omega, by omega, by omega, rfl, ?_, ?_, ?_, rfl, rfl, ?_, ?_⟩
  · rw [← p1]; exact Nat.mul_le_mul_right _ b2
  · rw [← p2]; exact Nat.mul_lt_mul_of_pos_right b1 (Nat.two_pow_pos _)
  · rw [← p2]; exact Nat.mul_lt_mul_of_pos_right (Nat.lt_trans hH b1) (Nat.two_pow_pos _)
  all_goals
    rw [hs]
    have hd : L / 2 ^ b < 2 ^ (64 - b) := Nat.div_lt_of_lt_mul (by rw [p2]; exact hL)
    have ho : (H * 2 ^ (64 - b) ||| L / 2 ^ b) = H * 2 ^ (64 - b) + L / 2 ^ b := by
      rw [Nat.mul_comm, ← Nat.two_pow_add_eq_or_of_lt hd]
    rw [ho]
  · have := Nat.mul_le_mul_right (2 ^ (64 - b)) (show H + 1 ≤ y from hH)
    rw [Nat.add_mul] at this
    omega
  · have e1 : L * 2 ^ (64 - b) = L / 2 ^ b * 18446744073709551616 + L % 2 ^ b * 2 ^ (64 - b) := by
      conv => lhs; rw [← Nat.div_add_mod L (2 ^ b)]
      rw [Nat.add_mul, Nat.mul_comm (2 ^ b), Nat.mul_assoc, p2]
    have e2 : L % 2 ^ b * 2 ^ (64 - b) < 18446744073709551616 := by
      rw [← p2]; exact Nat.mul_lt_mul_of_pos_right (Nat.mod_lt _ (Nat.two_pow_pos _)) (Nat.two_pow_pos _)
    have e3 : H * 18446744073709551616 * 2 ^ (64 - b) = H * 2 ^ (64 - b) * 18446744073709551616 := by rw [Nat.mul_right_comm]
    rw [Nat.add_mul, Nat.add_mul, e1, e3]
    omega
/-- Both halves together. -/
theorem kn_all {N y s Y A d : Nat} (B : Nat) (hy : 0 < y) (hY : y * 2 ^ s = Y) (hU : A * B + d = N * 2 ^ s) :
    A / Y * B + (A % Y * B + d) / Y = N / y ∧ (A % Y * B + d) % Y / 2 ^ s = N % y := by
  have hYp : 0 < Y := by rw [← hY]; exact Nat.mul_pos hy (Nat.two_pow_pos _)
  have hd := Nat.div_add_mod A Y
  generalize A / Y = q1 at *
  generalize A % Y = r1 at *
  have hU2 : r1 * B + d + Y * (q1 * B) = N * 2 ^ s := by
    have e1 : Y * (q1 * B) = Y * q1 * B := by rw [Nat.mul_assoc]
    have e2 : (Y * q1 + r1) * B = A * B := by rw [hd]
    rw [Nat.add_mul] at e2
    omega
  have c1 : N * 2 ^ s / Y = N / y := by rw [← hY, Nat.mul_div_mul_right _ _ (Nat.two_pow_pos _)]
  have c2 : N * 2 ^ s % Y = N % y * 2 ^ s := by rw [← hY, Nat.mul_mod_mul_right]
  rw [← hU2, Nat.add_mul_div_left _ _ hYp] at c1
  rw [← hU2, Nat.add_mul_mod_self_left] at c2
  refine ⟨by rw [← c1, Nat.add_comm], ?_⟩
  rw [c2, Nat.mul_div_cancel _ (Nat.two_pow_pos _)]
/-- What is left, in words. -/
theorem kn_left (u d q Y : Nat) (hq : q = (u * 4294967296 + d) / Y) (hY : Y < 18446744073709551616) (hYp : 0 < Y) :
    IntKind.u64.wrap (IntKind.u64.wrap (IntKind.u64.wrap ((u : Int) * 4294967296) + (d : Int)) - IntKind.u64.wrap ((q : Int) * (Y : Int))) = (((u * 4294967296 + d) % Y : Nat) : Int) := by
  have hm := Nat.div_add_mod (u * 4294967296 + d) Y
  have hl := Nat.mod_lt (u * 4294967296 + d) hYp
  rw [← hq] at hm
  generalize (u * 4294967296 + d) % Y = r at *
  have e : (q : Int) * (Y : Int) = (u : Int) * 4294967296 + d - r := by
    rw [← Int.natCast_mul, Nat.mul_comm]
    omega
  rw [e]
  simp only [IntKind.wrap_u64]
  omega
end Go.Proofs.YtgodgfnfaiiohaaGreatDoor

/- Contract of bits.Div64 at a divisor of at most 56 bits, and more. -/
namespace Go.Proofs.YtgodgfnfaiiohaaGreatDoor
open Go.ChangeShapes Go.WideShapes Go.ChangeAt Go.RowKit
set_option maxRecDepth 20000

theorem or_at (a b c : Nat) (ha : a < 18446744073709551616) (hb : b < 18446744073709551616) (h : a ||| b = c) : bits .or .u64 (a : Int) (b : Int) = (c : Int) := by
  rw [bits_or_u64_nat a b ha hb, h]
theorem wrapP (x s : Nat) : IntKind.u64.wrap ((x : Int) * 2 ^ s) = IntKind.u64.wrap ((x * 2 ^ s : Nat) : Int) := by
  rw [Int.natCast_mul, Int.natCast_pow]; rfl
theorem wrapS (x : Nat) (h : x < 18446744073709551616) : IntKind.u64.wrap (x : Int) = (x : Int) := by rw [IntKind.wrap_u64]; omega
theorem wrapMd (x : Nat) : IntKind.u64.wrap (x : Int) = ((x % 18446744073709551616 : Nat) : Int) := by rw [IntKind.wrap_u64]; omega
theorem maskY (a : Nat) (ha : a < 18446744073709551616) : bits .and .u64 (a : Int) 4294967295 = ((a % 4294967296 : Nat) : Int) := by
  have h := bits_and_u64_nat a 4294967295 ha (by omega)
  have e : a &&& 4294967295 = a % 4294967296 := Nat.and_two_pow_sub_one_eq_mod a 32
  rw [e] at h
  exact h
theorem quoW (u a : Nat) (hu : u < 18446744073709551616) : IntKind.u64.wrap ((u : Int) / (a : Int)) = ((u / a : Nat) : Int) := by
  rw [← Int.natCast_ediv]
  exact wrapS _ (Nat.lt_of_le_of_lt (Nat.div_le_self _ _) hu)
theorem remW (u a : Nat) (hu : u < 18446744073709551616) : IntKind.u64.wrap ((u : Int) - IntKind.u64.wrap (IntKind.u64.wrap ((u : Int) / (a : Int)) * (a : Int))) = ((u % a : Nat) : Int) := by
  rw [quoW u a hu, ← Int.natCast_mul]
  have h := Nat.div_add_mod u a
  rw [Nat.mul_comm] at h
  rw [wrapS (u / a * a) (by omega)]
  have e : (u : Int) - ((u / a * a : Nat) : Int) = ((u % a : Nat) : Int) := by omega
  rw [e]
  exact wrapS _ (by omega)
theorem quoT (u a : Nat) (hu : u < 18446744073709551616) : IntKind.u64.wrap ((u : Int).tdiv (a : Int)) = ((u / a : Nat) : Int) := by
  rw [← quoW u a hu]; rfl
theorem remT (u a : Nat) (hu : u < 18446744073709551616) : IntKind.u64.wrap ((u : Int) - IntKind.u64.wrap (IntKind.u64.wrap ((u : Int).tdiv (a : Int)) * (a : Int))) = ((u % a : Nat) : Int) := by
  rw [← remW u a hu]; rfl
theorem prod_lt (q c : Nat) (h1 : q < 4294967296) (h2 : c < 4294967296) : (0 : Int) ≤ (q : Int) * (c : Int) ∧ (q : Int) * (c : Int) ≤ 18446744073709551615 := by
  have h := Nat.mul_le_mul (show q ≤ 4294967295 by omega) (show c ≤ 4294967295 by omega)
  rw [← Int.natCast_mul]
  omega
theorem hu_lem {u v d f X : Nat} (h : u * 18446744073709551616 + v = X) (hv : v = d * 4294967296 + f) : (u * 4294967296 + d) * 4294967296 + f = X := by
  have e : u * 4294967296 * 4294967296 = u * 18446744073709551616 := by rw [Nat.mul_assoc]
  subst hv
  rw [← h, Nat.add_mul, e, Nat.add_assoc]
theorem kn_start {u d a c B : Nat} (ha : 0 < a) (hd : d < B) : (u * B + d) / (a * B + c) ≤ u / a := by
  rw [Nat.le_div_iff_mul_le ha]
  have h := Nat.div_mul_le_self (u * B + d) (a * B + c)
  generalize (u * B + d) / (a * B + c) = q at *
  rw [Nat.mul_comm, kn_mul] at h
  have h2 : q * a * B < (u + 1) * B := by rw [Nat.add_mul]; omega
  have := Nat.lt_of_mul_lt_mul_right h2
  omega
theorem fin {N y s Y u d f p p2 R : Nat} (hU : (u * 4294967296 + d) * 4294967296 + f = N * 2 ^ s) (hY : y * 2 ^ s = Y) (hp : p = (u * 4294967296 + d) / Y) (hR : R = (u * 4294967296 + d) % Y) (hp2 : p2 = (R * 4294967296 + f) / Y) (hy : 1 ≤ y) :
    (p : Int) * 4294967296 + (p2 : Int) = ((N / y : Nat) : Int) ∧ (((R * 4294967296 + f) % Y : Nat) : Int) / 2 ^ s = ((N % y : Nat) : Int) := by
  have h := kn_all 4294967296 hy hY hU
  rw [← hp, ← hR, ← hp2] at h
  refine ⟨by have := h.1; omega, ?_⟩
  rw [← h.2, Int.natCast_ediv, Int.natCast_pow]; rfl
set_option maxHeartbeats 8000000 in
theorem div_c (H L y : Nat) (h1 : 1 ≤ y) (h2 : y ≤ 72057594037927936) (hH : H < y) (hL : L < 18446744073709551616) (w : World) :
    Calls Tryz.prog 94 #[.int .u64 H, .int .u64 L, .int .u64 y] w fun e w' => e = .returned (.tuple #[.int .u64 ((H * 18446744073709551616 + L) / y : Nat), .int .u64 ((H * 18446744073709551616 + L) % y : Nat)]) ∧ ∃ q, w' = w.drewN q := by
  have CL := hidp (fun W => Tryz.bits_LeadingZeros64 y W (by omega) (by omega))
  rcases Nat.eq_zero_or_pos H with h0 | h0
  · subst h0
    have e0 : 0 * 18446744073709551616 + L = L := by omega
    rw [e0]
    go_enter Tryz.func94, Tryz.ntmps94
    have hnz : ¬ y = 0 := by omega
    go_wp2_with fail
    go_quiet (fail)
    go_wp2
    go_ret2
    exact ⟨by rw [quoW L y hL] <;> rfl, nq, rfl⟩
  · obtain ⟨s, Y, u, v, k1, k2, k3, k4, k5, k6, k7, k8, k9, k10, k11⟩ := kn_norm H L y h1 h2 hH hL
    have toN : (y : Int).toNat = y := Int.toNat_natCast y
    rw [toN, k1] at CL
    clear toN
    go_enter Tryz.func94, Tryz.ntmps94
    go_wp2_with fail
    refine (CL.out _).mono ?_
    rintro e w' ⟨rfl, rfl⟩
    clear CL k1
    have N3 := hidp k11
    have NL : (H * 18446744073709551616 + L) / y < 18446744073709551616 := Nat.div_lt_of_lt_mul (by omega)
    have NY := hidp k4
    clear k11
    have e1 : IntKind.u64.wrap ((y : Int) * 2 ^ s) = (Y : Int) := by rw [wrapP y s, k4]; exact wrapS Y k6
    obtain ⟨P, hP⟩ : ∃ P, P = H * 2 ^ s := ⟨_, rfl⟩
    rw [← hP] at k7 k8
    have e4 : IntKind.u64.wrap ((H : Int) * 2 ^ s) = (P : Int) := by rw [wrapP H s, ← hP]; exact wrapS P k7
    obtain ⟨M, hM⟩ : ∃ M, M = L / 2 ^ (64 - s) := ⟨_, rfl⟩
    rw [← hM] at k8
    have hML : M < 18446744073709551616 := by rw [hM]; exact Nat.lt_of_le_of_lt (Nat.div_le_self _ _) hL
    have e5 : (L : Int) / 2 ^ (64 - s) = (M : Int) := by rw [hM, Int.natCast_ediv, Int.natCast_pow]; rfl
    have e6 := or_at P M u k7 hML k8
    have e7 : IntKind.u64.wrap ((L : Int) * 2 ^ s) = (v : Int) := by rw [wrapP L s]; rw [← k9]; exact wrapMd (L * 2 ^ s)
    have hv : v < 18446744073709551616 := by rw [← k9]; exact Nat.mod_lt _ (by omega)
    obtain ⟨a, ha⟩ : ∃ a, a = Y / 4294967296 := ⟨_, rfl⟩
    obtain ⟨c, hc⟩ : ∃ c, c = Y % 4294967296 := ⟨_, rfl⟩
    obtain ⟨d, hd⟩ : ∃ d, d = v / 4294967296 := ⟨_, rfl⟩
    obtain ⟨f, hf⟩ : ∃ f, f = v % 4294967296 := ⟨_, rfl⟩
    have e2 : bits .and .u64 (Y : Int) 4294967295 = (c : Int) := by rw [hc]; exact maskY Y k6
    have e3 : (Y : Int) / 4294967296 = (a : Int) := by rw [ha]; rfl
    have e8 : bits .and .u64 (v : Int) 4294967295 = (f : Int) := by rw [hf]; exact maskY v hv
    have e9 : (v : Int) / 4294967296 = (d : Int) := by rw [hd]; rfl
    have ha1 : 2147483648 ≤ a ∧ a < 4294967296 := by omega
    have hc1 : c < 4294967296 := by omega
    have hd1 : d < 4294967296 := by omega
    have hf1 : f < 4294967296 := by omega
    have hYE : Y = a * 4294967296 + c := by omega
    have hvE : v = d * 4294967296 + f := by omega
    have HYE := hidp hYE
    have HVE := hidp hvE
    obtain ⟨ha1, ha2⟩ := ha1
    have hnz : ¬ a = 0 := by omega
    have HU := hidp (hu_lem N3.out HVE.out)
    clear k4 k8 k9 hP hM ha hc hd hf hYE hvE N3
    go_wp2_with fail
    go_loop [15, 16] (fun t z => ∃ q r : Nat, t = .int .u64 q ∧ z = .int .u64 r ∧ Hid (q * a + r = u) ∧ r < 4294967296 ∧ Hid ((u * 4294967296 + d) / Y ≤ q)) (fun t _ => (intOf t).toNat)
    case atStart =>
      exact ⟨u / a, u % a, by rw [quoW u a (by omega)], by rw [remW u a (by omega)], hidp (by rw [Nat.mul_comm]; exact Nat.div_add_mod u a), by have := Nat.mod_lt u (show 0 < a by omega); omega, hidp (by rw [HYE.out]; exact kn_start (by omega) (by omega))⟩
    case round =>
      obtain ⟨q, r, rfl, rfl, hq, hr, hQ⟩ := hrel
      have hq2 := kn_q (B := 4294967296) (c := c) hq.out (by rw [← HYE.out]; omega) hc1 (by omega)
      by_cases hb : 4294967296 ≤ q
      · have hm : (u * 4294967296 + d) / Y < q := by rw [HYE.out]; exact kn_more hq.out (by rw [← HYE.out]; omega) (by omega) (.inl hb)
        have hbI : (4294967296 : Int) ≤ (q : Int) := by omega
        have hq1 : 1 ≤ q := Nat.lt_of_le_of_lt (Nat.zero_le _) hm
        obtain ⟨q', hq'⟩ : ∃ q', q' = q - 1 := ⟨_, rfl⟩
        have eqq : (q : Int) - 1 = (q' : Int) := by omega
        have hn : q' * a + (r + a) = u := by
          have h := hq.out
          rw [show q = q' + 1 by omega, Nat.add_mul, Nat.one_mul] at h
          omega
        have HN := hidp hn
        have HM := hidp (show (u * 4294967296 + d) / Y ≤ q' by rw [hq']; exact Nat.le_sub_one_of_lt hm)
        have hmq := hq'
        clear hn hm hq' hmq
        by_cases hr2 : 4294967296 ≤ r + a
        · have hp : q' = (u * 4294967296 + d) / Y := Nat.le_antisymm (by rw [HYE.out]; exact kn_done HN.out (by omega) (kn_break HN.out (by rw [← HYE.out]; omega) hc1 hr2)) HM.out
          have HP := hidp hp
          have hpb : q' ≤ 8589934592 := by omega
          have hrI : (4294967296 : Int) ≤ (r : Int) + (a : Int) := by omega
          clear hp HM HN hQ hq
          go_wp2_with fail
          clear hq2 hq1 hr2 hr hrI
          obtain ⟨pA, rfl⟩ : ∃ pA, pA = q' := ⟨_, rfl⟩
          obtain ⟨R, hR⟩ : ∃ R, R = (u * 4294967296 + d) % Y := ⟨_, rfl⟩
          have E1 := kn_left u d pA Y HP.out k6 (by omega)
          rw [← hR] at E1
          have hRY : R < Y := by rw [hR]; exact Nat.mod_lt _ (by omega)
          have HR := hidp hR
          have HP1 := hidp HP.out
          clear hR HP
          go_wp2_with fail
          go_loop [18, 16] (fun t z => ∃ q r : Nat, t = .int .u64 q ∧ z = .int .u64 r ∧ Hid (q * a + r = R) ∧ r < 4294967296 ∧ Hid ((R * 4294967296 + f) / Y ≤ q)) (fun t _ => (intOf t).toNat)
          case atStart =>
            exact ⟨R / a, R % a, by rw [E1, quoT R a (by omega)], by rw [E1, remT R a (by omega)], hidp (by rw [Nat.mul_comm]; exact Nat.div_add_mod R a), by have := Nat.mod_lt R (show 0 < a by omega); omega, hidp (by rw [HYE.out]; exact kn_start (by omega) (by omega))⟩
          case round =>
            obtain ⟨q, r, rfl, rfl, hq, hr, hQ⟩ := hrel
            have hq2 := kn_q (B := 4294967296) (c := c) hq.out (by rw [← HYE.out]; omega) hc1 (by omega)
            by_cases hb : 4294967296 ≤ q
            · have hm : (R * 4294967296 + f) / Y < q := by rw [HYE.out]; exact kn_more hq.out (by rw [← HYE.out]; omega) (by omega) (.inl hb)
              have hbI : (4294967296 : Int) ≤ (q : Int) := by omega
              have hq1 : 1 ≤ q := Nat.lt_of_le_of_lt (Nat.zero_le _) hm
              obtain ⟨q', hq'⟩ : ∃ q', q' = q - 1 := ⟨_, rfl⟩
              have eqq : (q : Int) - 1 = (q' : Int) := by omega
              have hn : q' * a + (r + a) = R := by
                have h := hq.out
                rw [show q = q' + 1 by omega, Nat.add_mul, Nat.one_mul] at h
                omega
              have HN := hidp hn
              have HM := hidp (show (R * 4294967296 + f) / Y ≤ q' by rw [hq']; exact Nat.le_sub_one_of_lt hm)
              have hmq := hq'
              clear hn hm hq' hmq
              by_cases hr2 : 4294967296 ≤ r + a
              · have hp : q' = (R * 4294967296 + f) / Y := Nat.le_antisymm (by rw [HYE.out]; exact kn_done HN.out (by omega) (kn_break HN.out (by rw [← HYE.out]; omega) hc1 hr2)) HM.out
                have HP := hidp hp
                have hpb : q' ≤ 8589934592 := by omega
                have hrI : (4294967296 : Int) ≤ (r : Int) + (a : Int) := by omega
                clear hp HM HN hQ hq
                go_wp2_with fail
                clear hq2 hq1 hr2 hr hrI
                have E2 := kn_left R f q' Y HP.out k6 (by omega)
                obtain ⟨A1, A2⟩ := fin HU.out NY.out HP1.out HR.out HP.out h1
                obtain ⟨Z, hZ⟩ : ∃ Z, Z = (R * 4294967296 + f) % Y := ⟨_, rfl⟩
                rw [← hZ] at A2 E2
                clear hZ
                have A3 := hidp A1
                have A4 := hidp A2
                have A5 : (pA : Int) * 4294967296 + (q' : Int) ≤ 18446744073709551615 := by omega
                have WW := hidp (show IntKind.u64.wrap (IntKind.u64.wrap ((pA : Int) * 4294967296) + (q' : Int)) = (pA : Int) * 4294967296 + (q' : Int) by simp only [IntKind.wrap_u64]; omega)
                clear A1 A2 NL
                go_wp2_with fail
                go_ret2
                exact ⟨by first | (rw [E2, WW.out, A3.out, A4.out] <;> rfl) | (rw [E2, A3.out, A4.out] <;> rfl), 0, rfl⟩
              · have hrI : ¬ (4294967296 : Int) ≤ (r : Int) + (a : Int) := by omega
                go_wp2_with fail
                go_round
                case rel => exact ⟨q', r + a, by go_num, by go_num, HN, by omega, HM⟩
                case measure => simp [intOf]; omega
            · have hbI : ¬ (4294967296 : Int) ≤ (q : Int) := by omega
              have hqc := prod_lt q c (by omega) hc1
              obtain ⟨hqc1, hqc2⟩ := hqc
              by_cases hc2 : 4294967296 * r + f < q * c
              · have hm : (R * 4294967296 + f) / Y < q := by rw [HYE.out]; exact kn_more hq.out (by rw [← HYE.out]; omega) (by omega) (.inr hc2)
                have hc3 : 4294967296 * (r : Int) + (f : Int) < (q : Int) * (c : Int) := by rw [← Int.natCast_mul]; omega
                clear hc2
                have hq1 : 1 ≤ q := Nat.lt_of_le_of_lt (Nat.zero_le _) hm
                obtain ⟨q', hq'⟩ : ∃ q', q' = q - 1 := ⟨_, rfl⟩
                have eqq : (q : Int) - 1 = (q' : Int) := by omega
                have hn : q' * a + (r + a) = R := by
                  have h := hq.out
                  rw [show q = q' + 1 by omega, Nat.add_mul, Nat.one_mul] at h
                  omega
                have HN := hidp hn
                have HM := hidp (show (R * 4294967296 + f) / Y ≤ q' by rw [hq']; exact Nat.le_sub_one_of_lt hm)
                have hmq := hq'
                clear hn hm hq' hmq
                by_cases hr2 : 4294967296 ≤ r + a
                · have hp : q' = (R * 4294967296 + f) / Y := Nat.le_antisymm (by rw [HYE.out]; exact kn_done HN.out (by omega) (kn_break HN.out (by rw [← HYE.out]; omega) hc1 hr2)) HM.out
                  have HP := hidp hp
                  have hpb : q' ≤ 8589934592 := by omega
                  have hrI : (4294967296 : Int) ≤ (r : Int) + (a : Int) := by omega
                  clear hp HM HN hQ hq
                  go_wp2_with fail
                  clear hq2 hq1 hr2 hr hrI
                  have E2 := kn_left R f q' Y HP.out k6 (by omega)
                  obtain ⟨A1, A2⟩ := fin HU.out NY.out HP1.out HR.out HP.out h1
                  obtain ⟨Z, hZ⟩ : ∃ Z, Z = (R * 4294967296 + f) % Y := ⟨_, rfl⟩
                  rw [← hZ] at A2 E2
                  clear hZ
                  have A3 := hidp A1
                  have A4 := hidp A2
                  have A5 : (pA : Int) * 4294967296 + (q' : Int) ≤ 18446744073709551615 := by omega
                  have WW := hidp (show IntKind.u64.wrap (IntKind.u64.wrap ((pA : Int) * 4294967296) + (q' : Int)) = (pA : Int) * 4294967296 + (q' : Int) by simp only [IntKind.wrap_u64]; omega)
                  clear A1 A2 NL
                  go_wp2_with fail
                  go_ret2
                  exact ⟨by first | (rw [E2, WW.out, A3.out, A4.out] <;> rfl) | (rw [E2, A3.out, A4.out] <;> rfl), 0, rfl⟩
                · have hrI : ¬ (4294967296 : Int) ≤ (r : Int) + (a : Int) := by omega
                  go_wp2_with fail
                  go_round
                  case rel => exact ⟨q', r + a, by go_num, by go_num, HN, by omega, HM⟩
                  case measure => simp [intOf]; omega
              · have hp : q = (R * 4294967296 + f) / Y := Nat.le_antisymm (by rw [HYE.out]; exact kn_done hq.out (by omega) (by omega)) hQ.out
                have hc3 : ¬ 4294967296 * (r : Int) + (f : Int) < (q : Int) * (c : Int) := by rw [← Int.natCast_mul]; omega
                have HP := hidp hp
                have hpb : q ≤ 8589934592 := by omega
                clear hp hQ hq hc2
                go_wp2_with fail
                clear hq2 hb hbI hqc1 hqc2 hc3 hr
                have E2 := kn_left R f q Y HP.out k6 (by omega)
                obtain ⟨A1, A2⟩ := fin HU.out NY.out HP1.out HR.out HP.out h1
                obtain ⟨Z, hZ⟩ : ∃ Z, Z = (R * 4294967296 + f) % Y := ⟨_, rfl⟩
                rw [← hZ] at A2 E2
                clear hZ
                have A3 := hidp A1
                have A4 := hidp A2
                have A5 : (pA : Int) * 4294967296 + (q : Int) ≤ 18446744073709551615 := by omega
                have WW := hidp (show IntKind.u64.wrap (IntKind.u64.wrap ((pA : Int) * 4294967296) + (q : Int)) = (pA : Int) * 4294967296 + (q : Int) by simp only [IntKind.wrap_u64]; omega)
                clear A1 A2 NL
                go_wp2_with fail
                go_ret2
                exact ⟨by first | (rw [E2, WW.out, A3.out, A4.out] <;> rfl) | (rw [E2, A3.out, A4.out] <;> rfl), 0, rfl⟩
        · have hrI : ¬ (4294967296 : Int) ≤ (r : Int) + (a : Int) := by omega
          go_wp2_with fail
          go_round
          case rel => exact ⟨q', r + a, by go_num, by go_num, HN, by omega, HM⟩
          case measure => simp [intOf]; omega
      · have hbI : ¬ (4294967296 : Int) ≤ (q : Int) := by omega
        have hqc := prod_lt q c (by omega) hc1
        obtain ⟨hqc1, hqc2⟩ := hqc
        by_cases hc2 : 4294967296 * r + d < q * c
        · have hm : (u * 4294967296 + d) / Y < q := by rw [HYE.out]; exact kn_more hq.out (by rw [← HYE.out]; omega) (by omega) (.inr hc2)
          have hc3 : 4294967296 * (r : Int) + (d : Int) < (q : Int) * (c : Int) := by rw [← Int.natCast_mul]; omega
          clear hc2
          have hq1 : 1 ≤ q := Nat.lt_of_le_of_lt (Nat.zero_le _) hm
          obtain ⟨q', hq'⟩ : ∃ q', q' = q - 1 := ⟨_, rfl⟩
          have eqq : (q : Int) - 1 = (q' : Int) := by omega
          have hn : q' * a + (r + a) = u := by
            have h := hq.out
            rw [show q = q' + 1 by omega, Nat.add_mul, Nat.one_mul] at h
            omega
          have HN := hidp hn
          have HM := hidp (show (u * 4294967296 + d) / Y ≤ q' by rw [hq']; exact Nat.le_sub_one_of_lt hm)
          have hmq := hq'
          clear hn hm hq' hmq
          by_cases hr2 : 4294967296 ≤ r + a
          · have hp : q' = (u * 4294967296 + d) / Y := Nat.le_antisymm (by rw [HYE.out]; exact kn_done HN.out (by omega) (kn_break HN.out (by rw [← HYE.out]; omega) hc1 hr2)) HM.out
            have HP := hidp hp
            have hpb : q' ≤ 8589934592 := by omega
            have hrI : (4294967296 : Int) ≤ (r : Int) + (a : Int) := by omega
            clear hp HM HN hQ hq
            go_wp2_with fail
            clear hq2 hq1 hr2 hr hrI
            obtain ⟨pA, rfl⟩ : ∃ pA, pA = q' := ⟨_, rfl⟩
            obtain ⟨R, hR⟩ : ∃ R, R = (u * 4294967296 + d) % Y := ⟨_, rfl⟩
            have E1 := kn_left u d pA Y HP.out k6 (by omega)
            rw [← hR] at E1
            have hRY : R < Y := by rw [hR]; exact Nat.mod_lt _ (by omega)
            have HR := hidp hR
            have HP1 := hidp HP.out
            clear hR HP
            go_wp2_with fail
            go_loop [18, 16] (fun t z => ∃ q r : Nat, t = .int .u64 q ∧ z = .int .u64 r ∧ Hid (q * a + r = R) ∧ r < 4294967296 ∧ Hid ((R * 4294967296 + f) / Y ≤ q)) (fun t _ => (intOf t).toNat)
            case atStart =>
              exact ⟨R / a, R % a, by rw [E1, quoT R a (by omega)], by rw [E1, remT R a (by omega)], hidp (by rw [Nat.mul_comm]; exact Nat.div_add_mod R a), by have := Nat.mod_lt R (show 0 < a by omega); omega, hidp (by rw [HYE.out]; exact kn_start (by omega) (by omega))⟩
            case round =>
              obtain ⟨q, r, rfl, rfl, hq, hr, hQ⟩ := hrel
              have hq2 := kn_q (B := 4294967296) (c := c) hq.out (by rw [← HYE.out]; omega) hc1 (by omega)
              by_cases hb : 4294967296 ≤ q
              · have hm : (R * 4294967296 + f) / Y < q := by rw [HYE.out]; exact kn_more hq.out (by rw [← HYE.out]; omega) (by omega) (.inl hb)
                have hbI : (4294967296 : Int) ≤ (q : Int) := by omega
                have hq1 : 1 ≤ q := Nat.lt_of_le_of_lt (Nat.zero_le _) hm
                obtain ⟨q', hq'⟩ : ∃ q', q' = q - 1 := ⟨_, rfl⟩
                have eqq : (q : Int) - 1 = (q' : Int) := by omega
                have hn : q' * a + (r + a) = R := by
                  have h := hq.out
                  rw [show q = q' + 1 by omega, Nat.add_mul, Nat.one_mul] at h
                  omega
                have HN := hidp hn
                have HM := hidp (show (R * 4294967296 + f) / Y ≤ q' by rw [hq']; exact Nat.le_sub_one_of_lt hm)
                have hmq := hq'
                clear hn hm hq' hmq
                by_cases hr2 : 4294967296 ≤ r + a
                · have hp : q' = (R * 4294967296 + f) / Y := Nat.le_antisymm (by rw [HYE.out]; exact kn_done HN.out (by omega) (kn_break HN.out (by rw [← HYE.out]; omega) hc1 hr2)) HM.out
                  have HP := hidp hp
                  have hpb : q' ≤ 8589934592 := by omega
                  have hrI : (4294967296 : Int) ≤ (r : Int) + (a : Int) := by omega
                  clear hp HM HN hQ hq
                  go_wp2_with fail
                  clear hq2 hq1 hr2 hr hrI
                  have E2 := kn_left R f q' Y HP.out k6 (by omega)
                  obtain ⟨A1, A2⟩ := fin HU.out NY.out HP1.out HR.out HP.out h1
                  obtain ⟨Z, hZ⟩ : ∃ Z, Z = (R * 4294967296 + f) % Y := ⟨_, rfl⟩
                  rw [← hZ] at A2 E2
                  clear hZ
                  have A3 := hidp A1
                  have A4 := hidp A2
                  have A5 : (pA : Int) * 4294967296 + (q' : Int) ≤ 18446744073709551615 := by omega
                  have WW := hidp (show IntKind.u64.wrap (IntKind.u64.wrap ((pA : Int) * 4294967296) + (q' : Int)) = (pA : Int) * 4294967296 + (q' : Int) by simp only [IntKind.wrap_u64]; omega)
                  clear A1 A2 NL
                  go_wp2_with fail
                  go_ret2
                  exact ⟨by first | (rw [E2, WW.out, A3.out, A4.out] <;> rfl) | (rw [E2, A3.out, A4.out] <;> rfl), 0, rfl⟩
                · have hrI : ¬ (4294967296 : Int) ≤ (r : Int) + (a : Int) := by omega
                  go_wp2_with fail
                  go_round
                  case rel => exact ⟨q', r + a, by go_num, by go_num, HN, by omega, HM⟩
                  case measure => simp [intOf]; omega
              · have hbI : ¬ (4294967296 : Int) ≤ (q : Int) := by omega
                have hqc := prod_lt q c (by omega) hc1
                obtain ⟨hqc1, hqc2⟩ := hqc
                by_cases hc2 : 4294967296 * r + f < q * c
                · have hm : (R * 4294967296 + f) / Y < q := by rw [HYE.out]; exact kn_more hq.out (by rw [← HYE.out]; omega) (by omega) (.inr hc2)
                  have hc3 : 4294967296 * (r : Int) + (f : Int) < (q : Int) * (c : Int) := by rw [← Int.natCast_mul]; omega
                  clear hc2
                  have hq1 : 1 ≤ q := Nat.lt_of_le_of_lt (Nat.zero_le _) hm
                  obtain ⟨q', hq'⟩ : ∃ q', q' = q - 1 := ⟨_, rfl⟩
                  have eqq : (q : Int) - 1 = (q' : Int) := by omega
                  have hn : q' * a + (r + a) = R := by
                    have h := hq.out
                    rw [show q = q' + 1 by omega, Nat.add_mul, Nat.one_mul] at h
                    omega
                  have HN := hidp hn
                  have HM := hidp (show (R * 4294967296 + f) / Y ≤ q' by rw [hq']; exact Nat.le_sub_one_of_lt hm)
                  have hmq := hq'
                  clear hn hm hq' hmq
                  by_cases hr2 : 4294967296 ≤ r + a
                  · have hp : q' = (R * 4294967296 + f) / Y := Nat.le_antisymm (by rw [HYE.out]; exact kn_done HN.out (by omega) (kn_break HN.out (by rw [← HYE.out]; omega) hc1 hr2)) HM.out
                    have HP := hidp hp
                    have hpb : q' ≤ 8589934592 := by omega
                    have hrI : (4294967296 : Int) ≤ (r : Int) + (a : Int) := by omega
                    clear hp HM HN hQ hq
                    go_wp2_with fail
                    clear hq2 hq1 hr2 hr hrI
                    have E2 := kn_left R f q' Y HP.out k6 (by omega)
                    obtain ⟨A1, A2⟩ := fin HU.out NY.out HP1.out HR.out HP.out h1
                    obtain ⟨Z, hZ⟩ : ∃ Z, Z = (R * 4294967296 + f) % Y := ⟨_, rfl⟩
                    rw [← hZ] at A2 E2
                    clear hZ
                    have A3 := hidp A1
                    have A4 := hidp A2
                    have A5 : (pA : Int) * 4294967296 + (q' : Int) ≤ 18446744073709551615 := by omega
                    have WW := hidp (show IntKind.u64.wrap (IntKind.u64.wrap ((pA : Int) * 4294967296) + (q' : Int)) = (pA : Int) * 4294967296 + (q' : Int) by simp only [IntKind.wrap_u64]; omega)
                    clear A1 A2 NL
                    go_wp2_with fail
                    go_ret2
                    exact ⟨by first | (rw [E2, WW.out, A3.out, A4.out] <;> rfl) | (rw [E2, A3.out, A4.out] <;> rfl), 0, rfl⟩
                  · have hrI : ¬ (4294967296 : Int) ≤ (r : Int) + (a : Int) := by omega
                    go_wp2_with fail
                    go_round
                    case rel => exact ⟨q', r + a, by go_num, by go_num, HN, by omega, HM⟩
                    case measure => simp [intOf]; omega
                · have hp : q = (R * 4294967296 + f) / Y := Nat.le_antisymm (by rw [HYE.out]; exact kn_done hq.out (by omega) (by omega)) hQ.out
                  have hc3 : ¬ 4294967296 * (r : Int) + (f : Int) < (q : Int) * (c : Int) := by rw [← Int.natCast_mul]; omega
                  have HP := hidp hp
                  have hpb : q ≤ 8589934592 := by omega
                  clear hp hQ hq hc2
                  go_wp2_with fail
                  clear hq2 hb hbI hqc1 hqc2 hc3 hr
                  have E2 := kn_left R f q Y HP.out k6 (by omega)
                  obtain ⟨A1, A2⟩ := fin HU.out NY.out HP1.out HR.out HP.out h1
                  obtain ⟨Z, hZ⟩ : ∃ Z, Z = (R * 4294967296 + f) % Y := ⟨_, rfl⟩
                  rw [← hZ] at A2 E2
                  clear hZ
                  have A3 := hidp A1
                  have A4 := hidp A2
                  have A5 : (pA : Int) * 4294967296 + (q : Int) ≤ 18446744073709551615 := by omega
                  have WW := hidp (show IntKind.u64.wrap (IntKind.u64.wrap ((pA : Int) * 4294967296) + (q : Int)) = (pA : Int) * 4294967296 + (q : Int) by simp only [IntKind.wrap_u64]; omega)
                  clear A1 A2 NL
                  go_wp2_with fail
                  go_ret2
                  exact ⟨by first | (rw [E2, WW.out, A3.out, A4.out] <;> rfl) | (rw [E2, A3.out, A4.out] <;> rfl), 0, rfl⟩
          · have hrI : ¬ (4294967296 : Int) ≤ (r : Int) + (a : Int) := by omega
            go_wp2_with fail
            go_round
            case rel => exact ⟨q', r + a, by go_num, by go_num, HN, by omega, HM⟩
            case measure => simp [intOf]; omega
        · have hp : q = (u * 4294967296 + d) / Y := Nat.le_antisymm (by rw [HYE.out]; exact kn_done hq.out (by omega) (by omega)) hQ.out
          have hc3 : ¬ 4294967296 * (r : Int) + (d : Int) < (q : Int) * (c : Int) := by rw [← Int.natCast_mul]; omega
          have HP := hidp hp
          have hpb : q ≤ 8589934592 := by omega
          clear hp hQ hq hc2
          go_wp2_with fail
          clear hq2 hb hbI hqc1 hqc2 hc3 hr
          obtain ⟨pA, rfl⟩ : ∃ pA, pA = q := ⟨_, rfl⟩
          obtain ⟨R, hR⟩ : ∃ R, R = (u * 4294967296 + d) % Y := ⟨_, rfl⟩
          have E1 := kn_left u d pA Y HP.out k6 (by omega)
          rw [← hR] at E1
          have hRY : R < Y := by rw [hR]; exact Nat.mod_lt _ (by omega)
          have HR := hidp hR
          have HP1 := hidp HP.out
          clear hR HP
          go_wp2_with fail
          go_loop [18, 16] (fun t z => ∃ q r : Nat, t = .int .u64 q ∧ z = .int .u64 r ∧ Hid (q * a + r = R) ∧ r < 4294967296 ∧ Hid ((R * 4294967296 + f) / Y ≤ q)) (fun t _ => (intOf t).toNat)
          case atStart =>
            exact ⟨R / a, R % a, by rw [E1, quoT R a (by omega)], by rw [E1, remT R a (by omega)], hidp (by rw [Nat.mul_comm]; exact Nat.div_add_mod R a), by have := Nat.mod_lt R (show 0 < a by omega); omega, hidp (by rw [HYE.out]; exact kn_start (by omega) (by omega))⟩
          case round =>
            obtain ⟨q, r, rfl, rfl, hq, hr, hQ⟩ := hrel
            have hq2 := kn_q (B := 4294967296) (c := c) hq.out (by rw [← HYE.out]; omega) hc1 (by omega)
            by_cases hb : 4294967296 ≤ q
            · have hm : (R * 4294967296 + f) / Y < q := by rw [HYE.out]; exact kn_more hq.out (by rw [← HYE.out]; omega) (by omega) (.inl hb)
              have hbI : (4294967296 : Int) ≤ (q : Int) := by omega
              have hq1 : 1 ≤ q := Nat.lt_of_le_of_lt (Nat.zero_le _) hm
              obtain ⟨q', hq'⟩ : ∃ q', q' = q - 1 := ⟨_, rfl⟩
              have eqq : (q : Int) - 1 = (q' : Int) := by omega
              have hn : q' * a + (r + a) = R := by
                have h := hq.out
                rw [show q = q' + 1 by omega, Nat.add_mul, Nat.one_mul] at h
                omega
              have HN := hidp hn
              have HM := hidp (show (R * 4294967296 + f) / Y ≤ q' by rw [hq']; exact Nat.le_sub_one_of_lt hm)
              have hmq := hq'
              clear hn hm hq' hmq
              by_cases hr2 : 4294967296 ≤ r + a
              · have hp : q' = (R * 4294967296 + f) / Y := Nat.le_antisymm (by rw [HYE.out]; exact kn_done HN.out (by omega) (kn_break HN.out (by rw [← HYE.out]; omega) hc1 hr2)) HM.out
                have HP := hidp hp
                have hpb : q' ≤ 8589934592 := by omega
                have hrI : (4294967296 : Int) ≤ (r : Int) + (a : Int) := by omega
                clear hp HM HN hQ hq
                go_wp2_with fail
                clear hq2 hq1 hr2 hr hrI
                have E2 := kn_left R f q' Y HP.out k6 (by omega)
                obtain ⟨A1, A2⟩ := fin HU.out NY.out HP1.out HR.out HP.out h1
                obtain ⟨Z, hZ⟩ : ∃ Z, Z = (R * 4294967296 + f) % Y := ⟨_, rfl⟩
                rw [← hZ] at A2 E2
                clear hZ
                have A3 := hidp A1
                have A4 := hidp A2
                have A5 : (pA : Int) * 4294967296 + (q' : Int) ≤ 18446744073709551615 := by omega
                have WW := hidp (show IntKind.u64.wrap (IntKind.u64.wrap ((pA : Int) * 4294967296) + (q' : Int)) = (pA : Int) * 4294967296 + (q' : Int) by simp only [IntKind.wrap_u64]; omega)
                clear A1 A2 NL
                go_wp2_with fail
                go_ret2
                exact ⟨by first | (rw [E2, WW.out, A3.out, A4.out] <;> rfl) | (rw [E2, A3.out, A4.out] <;> rfl), 0, rfl⟩
              · have hrI : ¬ (4294967296 : Int) ≤ (r : Int) + (a : Int) := by omega
                go_wp2_with fail
                go_round
                case rel => exact ⟨q', r + a, by go_num, by go_num, HN, by omega, HM⟩
                case measure => simp [intOf]; omega
            · have hbI : ¬ (4294967296 : Int) ≤ (q : Int) := by omega
              have hqc := prod_lt q c (by omega) hc1
              obtain ⟨hqc1, hqc2⟩ := hqc
              by_cases hc2 : 4294967296 * r + f < q * c
              · have hm : (R * 4294967296 + f) / Y < q := by rw [HYE.out]; exact kn_more hq.out (by rw [← HYE.out]; omega) (by omega) (.inr hc2)
                have hc3 : 4294967296 * (r : Int) + (f : Int) < (q : Int) * (c : Int) := by rw [← Int.natCast_mul]; omega
                clear hc2
                have hq1 : 1 ≤ q := Nat.lt_of_le_of_lt (Nat.zero_le _) hm
                obtain ⟨q', hq'⟩ : ∃ q', q' = q - 1 := ⟨_, rfl⟩
                have eqq : (q : Int) - 1 = (q' : Int) := by omega
                have hn : q' * a + (r + a) = R := by
                  have h := hq.out
                  rw [show q = q' + 1 by omega, Nat.add_mul, Nat.one_mul] at h
                  omega
                have HN := hidp hn
                have HM := hidp (show (R * 4294967296 + f) / Y ≤ q' by rw [hq']; exact Nat.le_sub_one_of_lt hm)
                have hmq := hq'
                clear hn hm hq' hmq
                by_cases hr2 : 4294967296 ≤ r + a
                · have hp : q' = (R * 4294967296 + f) / Y := Nat.le_antisymm (by rw [HYE.out]; exact kn_done HN.out (by omega) (kn_break HN.out (by rw [← HYE.out]; omega) hc1 hr2)) HM.out
                  have HP := hidp hp
                  have hpb : q' ≤ 8589934592 := by omega
                  have hrI : (4294967296 : Int) ≤ (r : Int) + (a : Int) := by omega
                  clear hp HM HN hQ hq
                  go_wp2_with fail
                  clear hq2 hq1 hr2 hr hrI
                  have E2 := kn_left R f q' Y HP.out k6 (by omega)
                  obtain ⟨A1, A2⟩ := fin HU.out NY.out HP1.out HR.out HP.out h1
                  obtain ⟨Z, hZ⟩ : ∃ Z, Z = (R * 4294967296 + f) % Y := ⟨_, rfl⟩
                  rw [← hZ] at A2 E2
                  clear hZ
                  have A3 := hidp A1
                  have A4 := hidp A2
                  have A5 : (pA : Int) * 4294967296 + (q' : Int) ≤ 18446744073709551615 := by omega
                  have WW := hidp (show IntKind.u64.wrap (IntKind.u64.wrap ((pA : Int) * 4294967296) + (q' : Int)) = (pA : Int) * 4294967296 + (q' : Int) by simp only [IntKind.wrap_u64]; omega)
                  clear A1 A2 NL
                  go_wp2_with fail
                  go_ret2
                  exact ⟨by first | (rw [E2, WW.out, A3.out, A4.out] <;> rfl) | (rw [E2, A3.out, A4.out] <;> rfl), 0, rfl⟩
                · have hrI : ¬ (4294967296 : Int) ≤ (r : Int) + (a : Int) := by omega
                  go_wp2_with fail
                  go_round
                  case rel => exact ⟨q', r + a, by go_num, by go_num, HN, by omega, HM⟩
                  case measure => simp [intOf]; omega
              · have hp : q = (R * 4294967296 + f) / Y := Nat.le_antisymm (by rw [HYE.out]; exact kn_done hq.out (by omega) (by omega)) hQ.out
                have hc3 : ¬ 4294967296 * (r : Int) + (f : Int) < (q : Int) * (c : Int) := by rw [← Int.natCast_mul]; omega
                have HP := hidp hp
                have hpb : q ≤ 8589934592 := by omega
                clear hp hQ hq hc2
                go_wp2_with fail
                clear hq2 hb hbI hqc1 hqc2 hc3 hr
                have E2 := kn_left R f q Y HP.out k6 (by omega)
                obtain ⟨A1, A2⟩ := fin HU.out NY.out HP1.out HR.out HP.out h1
                obtain ⟨Z, hZ⟩ : ∃ Z, Z = (R * 4294967296 + f) % Y := ⟨_, rfl⟩
                rw [← hZ] at A2 E2
                clear hZ
                have A3 := hidp A1
                have A4 := hidp A2
                have A5 : (pA : Int) * 4294967296 + (q : Int) ≤ 18446744073709551615 := by omega
                have WW := hidp (show IntKind.u64.wrap (IntKind.u64.wrap ((pA : Int) * 4294967296) + (q : Int)) = (pA : Int) * 4294967296 + (q : Int) by simp only [IntKind.wrap_u64]; omega)
                clear A1 A2 NL
                go_wp2_with fail
                go_ret2
                exact ⟨by first | (rw [E2, WW.out, A3.out, A4.out] <;> rfl) | (rw [E2, A3.out, A4.out] <;> rfl), 0, rfl⟩
end Go.Proofs.YtgodgfnfaiiohaaGreatDoor
