/- Contracts of comb.Check and comb.Rank at every list. -/
import Derived.Test.YtpdigiefldnpaaaSome
import Derived.Test.YtpdigiefldnpaaaRankMath
import Derived.Test.YtpdigiefldnpaaaKit
namespace Go.Proofs.Ytpdigiefldnpaaa
open Go.ChangeShapes Go.WideShapes Go.ChangeAt Go.RowKit
set_option maxRecDepth 20000
open CombMath

/-- May it be such a row? -/
def CombOk (xs : List Int) (n : Nat) : Prop := n ≤ 30 ∧ ∀ i, i < n → 0 ≤ gi xs i ∧ gi xs i < 30 ∧ (0 < i → gi xs (i - 1) < gi xs i)
def cN (xs : List Int) (i : Nat) : Nat := (gi xs i).toNat
theorem comb_rise (xs : List Int) (n : Nat) (h : CombOk xs n) : Rise (cN xs) n := fun i hi => by
  have a := h.2 i hi
  refine ⟨by unfold cN; omega, fun h0 => ?_⟩
  have b := h.2 (i - 1) (by omega)
  have := a.2.2 h0
  unfold cN; omega
set_option maxHeartbeats 2000000 in
theorem ccheck_c (a : Option Addr) (n c : Nat) (xs : List Int) (w : World) (h : IntsAt w a n c xs) :
    Calls Try.prog 30 #[.slice a n c] w fun e w' => ∃ E : Int, e = .returned (.int .i64 E) ∧ Hid (0 ≤ E ∧ E ≤ 3 ∧ (E = 0 ↔ CombOk xs n)) ∧ Below w.heap.size w w' := by
  obtain ⟨b, o, hz, hx⟩ := h.split
  have hz' : Hid (n = 0) ∨ a = some ⟨b, o, none⟩ := hz.imp_left hidp
  have HX := hidp hx
  have mm := h.max
  have ee := h.le
  clear hx hz h
  by_cases h30 : 30 < n
  · have F := hidp (show ¬ CombOk xs n from fun h => by have := h.1; omega)
    go_enter Try.func30, Try.ntmps30
    go_wp2_with fail
    go_ret
    exact ⟨2, rfl, ⟨by omega, by omega, fun h => by omega, fun h => absurd h F.out⟩, Below.refl _ _⟩
  · have hn : n ≤ 30 := by omega
    go_enter Try.func30, Try.ntmps30
    go_wp2_with fail
    go_loopw [10] (fun i wr => ∃ k : Nat, k ≤ n ∧ i = .int .i64 k ∧ Hid (∀ i, i < k → 0 ≤ gi xs i ∧ gi xs i < 30 ∧ (0 < i → gi xs (i - 1) < gi xs i)) ∧ Below w.heap.size w wr) (fun i _ => n - (intOf i).toNat)
    case atStart => exact ⟨0, by omega, rfl, fun i hi => by omega, Below.refl _ _⟩
    case round =>
      obtain ⟨k, hk, rfl, hok, hbl⟩ := hrel
      by_cases hlt : k < n
      · obtain rfl : a = some ⟨b, o, none⟩ := hz'.resolve_left (fun e => by have := e.out; omega)
        have q := carry_cell (HX.out k hlt) hbl
        have STEP := hidp (fun (h1 : 0 ≤ gi xs k) (h2 : gi xs k < 30) (h3 : 0 < k → gi xs (k - 1) < gi xs k) => show ∀ i, i < k + 1 → 0 ≤ gi xs i ∧ gi xs i < 30 ∧ (0 < i → gi xs (i - 1) < gi xs i) from fun i hi => by
          by_cases e : i = k
          · subst e; exact ⟨h1, h2, h3⟩
          · exact hok.out i (by omega))
        by_cases h1 : 0 ≤ gi xs k
        · by_cases h2 : gi xs k < 30
          · by_cases hk0 : 0 < k
            · have q' := carry_cell (HX.out (k - 1) (by omega)) hbl
              have hk0' : (0 : Int) < (k : Int) := by omega
              have hkm : ((k : Int) - 1).toNat = k - 1 := by omega
              by_cases h3 : gi xs (k - 1) < gi xs k
              · have S := hidp (STEP.out h1 h2 (fun _ => h3))
                go_wp2_with fail
                go_roundw
                case rel => exact ⟨k + 1, by omega, by go_num, S, hbl⟩
                case measure => simp [intOf]; omega
              · have F := hidp (show ¬ CombOk xs n from fun h => h3 ((h.2 k hlt).2.2 hk0))
                have h3' : gi xs k ≤ gi xs (k - 1) := by omega
                clear h3
                go_wp2_with fail
                go_ret
                exact ⟨3, rfl, ⟨by omega, by omega, fun h => by omega, fun h => absurd h F.out⟩, hbl⟩
            · obtain rfl : k = 0 := by omega
              have S := hidp (STEP.out h1 h2 (fun h => by omega))
              have q0 : wr.cell? ⟨b, o, none⟩ = some (.int .i64 (gi xs 0)) := q
              go_wp2_with fail
              go_roundw
              case rel => exact ⟨1, by omega, by go_num, S, hbl⟩
              case measure => simp [intOf]; omega
          · have F := hidp (show ¬ CombOk xs n from fun h => h2 (h.2 k hlt).2.1)
            have h2' : 30 ≤ gi xs k := by omega
            clear h2
            go_wp2_with fail
            go_ret
            exact ⟨1, rfl, ⟨by omega, by omega, fun h => by omega, fun h => absurd h F.out⟩, hbl⟩
        · have F := hidp (show ¬ CombOk xs n from fun h => h1 (h.2 k hlt).1)
          have h1' : gi xs k < 0 := by omega
          clear h1
          go_wp2_with fail
          go_ret
          exact ⟨1, rfl, ⟨by omega, by omega, fun h => by omega, fun h => absurd h F.out⟩, hbl⟩
      · obtain rfl : k = n := by omega
        go_wp2
        go_ret
        exact ⟨0, rfl, ⟨by omega, by omega, fun _ => ⟨hn, hok.out⟩, fun _ => rfl⟩, hbl⟩
set_option maxHeartbeats 2000000 in
theorem rank_ok (a : Option Addr) (n c : Nat) (xs : List Int) (w : World) (h : IntsAt w a n c xs) (hok : CombOk xs n) :
    Calls Try.prog 28 #[.slice a n c] w fun e w' => e = .returned (.tuple #[.int .i64 (rs (cN xs) n : Nat), .int .i64 0]) ∧ Below w.heap.size w w' := by
  have CC := hidp (ccheck_c a n c xs w h)
  obtain ⟨b, o, hz, hx⟩ := h.split
  have hz' : Hid (n = 0) ∨ a = some ⟨b, o, none⟩ := hz.imp_left hidp
  have HX := hidp hx
  have mm := h.max
  have ee := h.le
  have hn := hok.1
  have OK := hidp hok
  have BD := hidp (fun k (hk : k ≤ n) => rs_bd (cN xs) k (fun i hi => by have := hok.2 i (by omega); unfold cN; omega))
  clear hx hz h hok
  go_enter Try.func28, Try.ntmps28
  go_wp2_with fail
  refine CC.out.mono ?_
  rintro e wa ⟨E, rfl, hE, hba⟩
  obtain rfl : E = 0 := hE.out.2.2.2 OK.out
  go_wp2_with fail
  go_loopw [5, 15] (fun s i wr => ∃ k : Nat, k ≤ n ∧ i = .int .i64 k ∧ s = .int .i64 (rs (cN xs) k : Nat) ∧ Below w.heap.size w wr) (fun _ i _ => n - (intOf i).toNat)
  case atStart => exact ⟨0, by omega, rfl, rfl, hba⟩
  case round =>
    obtain ⟨k, hk, rfl, rfl, hbl⟩ := hrel
    by_cases hlt : k < n
    · obtain rfl : a = some ⟨b, o, none⟩ := hz'.resolve_left (fun e => by have := e.out; omega)
      have q := carry_cell (HX.out k hlt) hbl
      have hg := OK.out.2 k hlt
      have HN := hidp (show gi xs k = ((cN xs k : Nat) : Int) by unfold cN; omega)
      have HW := hidp (fun W => waysz_i (cN xs k) (k + 1) (gi xs k) ((k : Int) + 1) HN.out (by omega) (by unfold cN; omega) W)
      have S := hidp (show rs (cN xs) (k + 1) = rs (cN xs) k + wz (cN xs k) (k + 1) from rfl)
      have B1 := BD.out k (by omega)
      have B2 := BD.out (k + 1) (by omega)
      rw [S.out] at B2
      clear hg
      generalize gi xs k = y at *
      generalize wz (cN xs k) (k + 1) = z at *
      generalize rs (cN xs) k = R at *
      go_wp2_with (go_at_call 52; refine (HW.out _).mono ?_; rintro e w' ⟨rfl, rfl⟩)
      go_roundw
      case rel => exact ⟨k + 1, by omega, by go_num, v_int (by rw [S.out]; omega), hbl⟩
      case measure => simp [intOf]; omega
    · obtain rfl : k = n := by omega
      go_wp2
      go_ret2
      exact ⟨rfl, hbl⟩
theorem rank_bad (a : Option Addr) (n c : Nat) (xs : List Int) (w : World) (h : IntsAt w a n c xs) (hok : ¬ CombOk xs n) :
    Calls Try.prog 28 #[.slice a n c] w fun e w' => ∃ E : Int, e = .returned (.tuple #[.int .i64 0, .int .i64 E]) ∧ Hid (E ≠ 0) ∧ Below w.heap.size w w' := by
  have CC := hidp (ccheck_c a n c xs w h)
  have OK := hidp hok
  clear hok h
  go_enter Try.func28, Try.ntmps28
  go_wp2_with fail
  refine CC.out.mono ?_
  rintro e wa ⟨E, rfl, hE, hba⟩
  have h1 := hE.out
  have hne : (E != 0) = true := by rw [bne_iff_ne]; exact fun e => OK.out (h1.2.2.1 e)
  have NE := hidp (show E ≠ 0 from fun e => OK.out (h1.2.2.1 e))
  clear h1 hE
  go_wp2_with fail
  go_ret2
  exact ⟨E, rfl, NE, hba⟩
/-- Some where there is none. -/
theorem some_none (k r : Nat) (hk : k ≤ 30) (hr : wz 30 k ≤ r) (hr2 : r ≤ 1000000000) (w : World) :
    Calls Try.prog 29 #[.int .i64 k, .int .i64 r] w fun e w' => e = .returned (.tuple #[.slice none 0 0, .int .i64 4]) ∧ Below w.heap.size w w' := by
  have HW := hidp (fun W => waysz_c 30 k (by omega) W)
  have h2 : ((wz 30 k : Nat) : Int) ≤ (r : Int) := by omega
  generalize wz 30 k = Z at *
  go_enter Try.func29, Try.ntmps29
  go_wp2_with (go_at_call 52; refine (HW.out _).mono ?_; rintro e w' ⟨rfl, rfl⟩)
  go_ret2
  exact ⟨rfl, Below.refl _ _⟩
end Go.Proofs.Ytpdigiefldnpaaa
