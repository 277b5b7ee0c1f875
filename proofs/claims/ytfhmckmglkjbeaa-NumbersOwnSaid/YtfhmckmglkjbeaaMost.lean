/- Contract of few.Most. -/
import Derived.Test.YtfhmckmglkjbeaaFewMath2
import Derived.Test.YtfhmckmglkjbeaaMem
import Derived.Deep.LoopGhost
namespace Go.Proofs.Ytfhmckmglkjbeaa
open Go.ChangeShapes Go.WideShapes Go.ChangeAt Go.RowKit
set_option maxRecDepth 20000
theorem cn_le (x : Int) (xs : List Int) : cn x xs ≤ xs.length := List.countP_le_length
theorem gtake (xs : List Int) (k : Nat) (h : k < xs.length) : xs.take (k + 1) = xs.take k ++ [gi xs k] := by
  rw [List.take_add_one, gi_get xs k h]; rfl
set_option maxHeartbeats 4000000 in
theorem most_c (a : Option Addr) (n c : Nat) (xs : List Int) (w : World) (h : IntsAt w a n c xs) (hn : n ≤ 40) :
    Calls Try.prog 21 #[.slice a n c] w fun e w' => e = .returned (.tuple #[.int .i64 (mostR xs).1, .bool (mostR xs).2, .int .i64 0]) ∧ w = w' := by
  obtain ⟨b, o, hz, hx⟩ := h.split
  have hz' : Hid (n = 0) ∨ a = some ⟨b, o, none⟩ := hz.imp_left hidp
  have HX := hidp hx
  have mm := h.max
  have ee := h.le
  have LN := hidp h.len
  have ST := hidp (fun k (hk : k < n) => show bm (xs.take (k + 1)) = bmS (bm (xs.take k)) (gi xs k) by rw [gtake xs k (by rw [LN.out]; exact hk)]; exact bm_snoc _ _)
  have BI := hidp (fun k => show 0 ≤ (bm (xs.take k)).2 ∧ (bm (xs.take k)).2 ≤ k by
    obtain ⟨h1, h2, _⟩ := bm_inv (xs.take k)
    rw [List.length_take] at h2
    omega)
  have CT := hidp (fun x k (hk : k < n) => show cn x (xs.take (k + 1)) = cn x (xs.take k) + (if gi xs k = x then 1 else 0) by rw [gtake xs k (by rw [LN.out]; exact hk)]; exact cn_snoc _ _ _)
  have CB := hidp (fun x k => show cn x (xs.take k) ≤ k from Nat.le_trans (cn_le x _) (by rw [List.length_take]; omega))
  have TL := hidp (show xs.take n = xs by rw [← LN.out, List.take_length])
  have hn' : ¬ (40 : Int) < (n : Int) := by omega
  clear hx hz h
  go_enter Try.func21, Try.ntmps21
  go_wp2_with fail
  go_loopg [5, 6, 17] n (fun gg s5 s6 s17 wr => ∃ k : Nat, k ≤ n ∧ n - k ≤ gg ∧ s5 = .int .i64 (bm (xs.take k)).1 ∧ s6 = .int .i64 (bm (xs.take k)).2 ∧ s17 = .int .i64 k ∧ wr = w)
  case atStart => exact ⟨0, by omega, by omega, rfl, rfl, rfl, rfl⟩
  case round =>
    obtain ⟨k, hk, hgg, rfl, rfl, rfl, rfl⟩ := hrel
    by_cases hlt : k < n
    · obtain rfl : a = some ⟨b, o, none⟩ := hz'.resolve_left (fun e => by have := e.out; omega)
      have q := (HX.out k hlt).2
      have S := ST.out k hlt
      have bi := BI.out k
      obtain ⟨⟨one, m⟩, hs⟩ : ∃ s, s = bm (xs.take k) := ⟨_, rfl⟩
      rw [← hs] at S bi ⊢
      dsimp only at bi ⊢
      clear hs
      generalize gi xs k = x at *
      have WM : IntKind.i64.wrap (m - 1) = m - 1 := IntWalk.i64_in _ (by omega)
      have WP : IntKind.i64.wrap (m + 1) = m + 1 := IntWalk.i64_in _ (by omega)
      by_cases h0 : m = 0
      · have S2 := hidp (show bm (xs.take (k + 1)) = (x, 1) by rw [S]; unfold bmS; rw [if_pos h0])
        subst h0
        clear S WM WP
        go_wp2_with fail
        go_roundg (n - (k + 1))
        case measure => omega
        case rel => exact ⟨k + 1, by omega, by omega, by rw [S2.out], by rw [S2.out], by go_num, rfl⟩
      · have b0 : (m == 0) = false := by rw [beq_eq_false_iff_ne]; exact h0
        by_cases h1 : x = one
        · have S2 := hidp (show bm (xs.take (k + 1)) = (one, m + 1) by rw [S]; unfold bmS; rw [if_neg h0, if_pos h1])
          subst h1
          clear S WM
          go_wp2_with fail
          go_roundg (n - (k + 1))
          case measure => omega
          case rel => exact ⟨k + 1, by omega, by omega, by rw [S2.out], by rw [S2.out], by go_num, rfl⟩
        · have S2 := hidp (show bm (xs.take (k + 1)) = (one, m - 1) by rw [S]; unfold bmS; rw [if_neg h0, if_neg h1])
          have b1 : (x == one) = false := by rw [beq_eq_false_iff_ne]; exact h1
          clear S WP
          go_wp2_with fail
          go_roundg (n - (k + 1))
          case measure => omega
          case rel => exact ⟨k + 1, by omega, by omega, by rw [S2.out], by rw [S2.out], by go_num, rfl⟩
    · obtain rfl : k = n := by omega
      rw [TL.out]
      have MR := hidp (show mostR xs = if xs.length < 2 * cn (bm xs).1 xs then ((bm xs).1, true) else (0, false) from rfl)
      rw [LN.out] at MR
      clear ST BI
      generalize (bm xs).2 = mo at *
      generalize (bm xs).1 = one at *
      go_wp2_with fail
      go_loopg [9, 36] k (fun gg s9 s36 wx => ∃ j : Nat, j ≤ k ∧ k - j ≤ gg ∧ s9 = .int .i64 (cn one (xs.take j) : Nat) ∧ s36 = .int .i64 j ∧ wx = wr)
      case atStart => exact ⟨0, by omega, by omega, rfl, rfl, rfl⟩
      case round =>
        obtain ⟨j, hj, hgj, rfl, rfl, rfl⟩ := hrel
        by_cases hlj : j < k
        · obtain rfl : a = some ⟨b, o, none⟩ := hz'.resolve_left (fun e => by have := e.out; omega)
          have q := (HX.out j hlj).2
          have C := CT.out one j hlj
          have cb := CB.out one j
          generalize hcc : cn one (xs.take j) = cc at *
          generalize gi xs j = x at *
          clear hcc
          by_cases h1 : x = one
          · rw [if_pos h1] at C
            have C2 := hidp C
            have b1 : (x == one) = true := by rw [beq_iff_eq]; exact h1
            clear C h1
            go_wp2_with fail
            go_roundg (k - (j + 1))
            case measure => omega
            case rel => exact ⟨j + 1, by omega, by omega, by rw [C2.out]; go_num, by go_num, rfl⟩
          · rw [if_neg h1] at C
            have C2 := hidp C
            have b1 : (x == one) = false := by rw [beq_eq_false_iff_ne]; exact h1
            clear C h1
            go_wp2_with fail
            go_roundg (k - (j + 1))
            case measure => omega
            case rel => exact ⟨j + 1, by omega, by omega, by rw [C2.out]; rfl, by go_num, rfl⟩
        · obtain rfl : j = k := by omega
          rw [TL.out]
          have cb := CB.out one j
          rw [TL.out] at cb
          obtain ⟨cc, hcc⟩ : ∃ cc, cc = cn one xs := ⟨_, rfl⟩
          rw [← hcc] at cb MR ⊢
          clear hcc
          by_cases hm : j < 2 * cc
          · rw [if_pos hm] at MR
            have hm' : (j : Int) < 2 * (cc : Int) := by omega
            clear hm
            go_wp2_with fail
            go_ret3
            exact ⟨by rw [MR.out]; rfl, rfl⟩
          · rw [if_neg hm] at MR
            have hm' : ¬ (j : Int) < 2 * (cc : Int) := by omega
            clear hm
            go_wp2_with fail
            go_ret3
            exact ⟨by rw [MR.out]; rfl, rfl⟩
end Go.Proofs.Ytfhmckmglkjbeaa
