/- Contracts of share.wants and share.Level within their bounds. -/
import Derived.Test.YtboacbimmggleaaCFunc
namespace Go.Proofs.Ytboacbimmggleaa
open Go.ChangeShapes Go.WideShapes Go.ChangeAt Go.RowKit

theorem wants1_c (x : Int) (h0 : 0 ≤ x) (h1 : x ≤ 1000000000000) (w : World) :
    Calls Try.prog 44 #[.int .i64 x] w fun e w' => e = .returned (.bool false) ∧ Below w.heap.size w w' := by
  go_enter Try.func44, Try.ntmps44
  go_wp2
  go_ret
  exact ⟨ret_bool (by rw [decide_eq_false (by omega), decide_eq_false (by omega)]; rfl), Below.refl _ _⟩
theorem wants_c (a : Option Addr) (n c : Nat) (xs : List Int) (w : World) (h : IntsAt w a n c xs) (hn : n ≤ 40) (hb : ∀ i, i < n → 0 ≤ gi xs i ∧ gi xs i ≤ 1000000000000) :
    Calls Try.prog 37 #[.slice a n c] w fun e w' => e = .returned (.int .i64 0) ∧ Below w.heap.size w w' := by
  have C := hidp (cfunc_c 44 #[] (fun _ => false) (fun _ _ => by kernel_rfl) a n c xs w h (fun W i hi hB => (wants1_c _ (hb i hi).1 (hb i hi).2 W).mono (fun e w' ⟨h1, h2⟩ => ⟨h1, hB.trans (h2.mono hB.size)⟩)))
  rw [hasF_false (fun _ => false) xs n (fun _ _ => rfl)] at C
  clear h hb
  go_enter Try.func37, Try.ntmps37
  go_wp2_with fail
  refine C.out.mono ?_
  rintro e w1 ⟨rfl, hb⟩
  go_wp2_with fail
  go_ret
  exact ⟨rfl, hb⟩

/-- The sum of the first m, each halved k times. -/
def shS (xs : List Int) (k : Nat) : Nat → Int
  | 0 => 0
  | m + 1 => shS xs k m + gi xs m / 2 ^ k
theorem sh_bd (x : Int) (k : Nat) (h0 : 0 ≤ x) : 0 ≤ x / 2 ^ k ∧ x / 2 ^ k ≤ x :=
  ⟨Int.ediv_nonneg h0 (Int.le_of_lt (Int.pow_pos (by omega))), Int.ediv_le_self _ h0⟩
theorem shS_bd (xs : List Int) (k : Nat) (n : Nat) (hb : ∀ i, i < n → 0 ≤ gi xs i ∧ gi xs i ≤ 1000000000000) : ∀ m, m ≤ n → 0 ≤ shS xs k m ∧ shS xs k m ≤ 1000000000000 * m
  | 0, _ => by simp [shS]
  | m + 1, h => by
    have a := shS_bd xs k n hb m (by omega)
    have b := hb m (by omega)
    have c := sh_bd (gi xs m) k b.1
    simp only [shS]
    omega
def lvA (K : Nat) : Int := if K < 21 then (K : Int) else 0
def lvB (K : Nat) : Int := if K < 21 then 0 else 4

set_option maxHeartbeats 2000000 in
theorem level_c (room : Int) (a : Option Addr) (n c : Nat) (xs : List Int) (w : World) (h : IntsAt w a n c xs) (hn : n ≤ 40) (hb : ∀ i, i < n → 0 ≤ gi xs i ∧ gi xs i ≤ 1000000000000) (hr0 : 0 ≤ room) (hr1 : room ≤ 1000000000000)
    (K : Nat) (hK : K ≤ 21) (hl : ∀ j, j < K → room < shS xs j n) (hk : K < 21 → shS xs K n ≤ room) :
    Calls Try.prog 19 #[.int .i64 room, .slice a n c] w fun e w' => e = .returned (.tuple #[.int .i64 (lvA K), .int .i64 (lvB K)]) ∧ Below w.heap.size w w' := by
  have C := hidp (wants_c a n c xs w h hn hb)
  obtain ⟨b, o, hz, hx⟩ := h.split
  have hz' : Hid (n = 0) ∨ a = some ⟨b, o, none⟩ := hz.imp_left hidp
  have HX := hidp hx
  have mm := h.max
  have ee := h.le
  have HB := hidp hb
  have HL := hidp hl
  have HK := hidp hk
  have SB := hidp (fun k => shS_bd xs k n hb)
  clear hx hz h hb hl hk
  go_enter Try.func19, Try.ntmps19
  go_wp2_with fail
  refine C.out.mono ?_
  rintro e w1 ⟨rfl, hb1⟩
  go_wp2_with fail
  go_loopw [22] (fun i wr => ∃ k : Nat, k ≤ K ∧ i = .int .i64 k ∧ wr = w1) (fun i _ => 21 - (intOf i).toNat)
  case atStart => exact ⟨0, by omega, rfl, rfl⟩
  case round =>
    obtain ⟨k, hk, rfl, rfl⟩ := hrel
    by_cases hlt : k < 21
    · have hlt' : (k : Int) < 21 := by omega
      go_wp2_with fail
      go_loop [8, 27] (fun s i => ∃ m : Nat, m ≤ n ∧ i = .int .i64 m ∧ s = .int .i64 (shS xs k m)) (fun _ i => n - (intOf i).toNat)
      case atStart => exact ⟨0, by omega, rfl, rfl⟩
      case round =>
        obtain ⟨m, hm, rfl, rfl⟩ := hrel
        obtain ⟨s1, s2⟩ := SB.out k m hm
        by_cases hmn : m < n
        · obtain rfl : a = some ⟨b, o, none⟩ := hz'.resolve_left (fun e => by have := e.out; omega)
          have q0 := carry_cell (HX.out m hmn) hb1
          have q1 := (HB.out m hmn).1
          have q2 := (HB.out m hmn).2
          have q3 := sh_bd (gi xs m) k q1
          have E := hidp (show shS xs k (m + 1) = shS xs k m + gi xs m / 2 ^ k from rfl)
          go_wp2_with fail
          go_round
          case rel => exact ⟨m + 1, by omega, by go_num, by rw [E.out]⟩
          case measure => simp [intOf]; omega
        · obtain rfl : m = n := by omega
          by_cases hkK : k < K
          · have hgt := HL.out k hkK
            have hgt' : ¬ shS xs k m ≤ room := by omega
            go_wp2_with fail
            go_roundw
            case rel => exact ⟨k + 1, by omega, by go_num, by first | trivial | rfl⟩
            case measure => simp [intOf]; omega
          · obtain rfl : k = K := by omega
            have hle := HK.out hlt
            have A := hidp (show lvA k = k by unfold lvA; rw [if_pos hlt])
            have B := hidp (show lvB k = 0 by unfold lvB; rw [if_pos hlt])
            go_wp2_with fail
            go_ret2
            exact ⟨by rw [A.out, B.out]; rfl, hb1⟩
    · obtain rfl : k = 21 := by omega
      obtain rfl : K = 21 := by omega
      go_wp2_with fail
      go_ret2
      exact ⟨rfl, hb1⟩
end Go.Proofs.Ytboacbimmggleaa
