/- Contract of slices.Compare at two lists of integers of one length. -/
import Derived.Test.YtpdigiefldnpaaaPermBack
import Derived.Test.YtpdigiefldnpaaaShelf
import Derived.Test.YtpdigiefldnpaaaKit
namespace Go.Proofs.Ytpdigiefldnpaaa
open Go.ChangeShapes Go.WideShapes Go.ChangeAt Go.RowKit
set_option maxRecDepth 20000

theorem cmp_drop (xs ys : List Int) (k : Nat) (h1 : k < xs.length) (h2 : k < ys.length) : cmpF (xs.drop k) (ys.drop k) = if gi xs k < gi ys k then -1 else if gi ys k < gi xs k then 1 else cmpF (xs.drop (k + 1)) (ys.drop (k + 1)) := by
  rw [List.drop_eq_getElem_cons h1, List.drop_eq_getElem_cons h2, gi_at xs k h1, gi_at ys k h2]
  rfl
theorem cmp2_c (x y : Int) (w : World) : Calls Try.prog 64 #[.int .i64 x, .int .i64 y] w fun e w' => e = .returned (.int .i64 (if x < y then -1 else if y < x then 1 else 0)) ∧ w = w' := by
  rcases Int.lt_trichotomy x y with h | h | h
  · have E := hidp (show (if x < y then (-1 : Int) else if y < x then 1 else 0) = -1 by rw [if_pos h])
    rw [E.out]
    go_enter Try.func64, Try.ntmps64
    go_wp2_with (go_at_call 72; refine (Try.cmp_isNaN_int2 _ _).mono ?_; rintro e w' ⟨rfl, rfl⟩)
    go_ret
    exact ⟨rfl, rfl⟩
  · subst h
    have E := hidp (show (if x < x then (-1 : Int) else if x < x then 1 else 0) = 0 by rw [if_neg (by omega), if_neg (by omega)])
    rw [E.out]
    go_enter Try.func64, Try.ntmps64
    go_wp2_with (go_at_call 72; refine (Try.cmp_isNaN_int2 _ _).mono ?_; rintro e w' ⟨rfl, rfl⟩)
    go_ret
    exact ⟨rfl, rfl⟩
  · have E := hidp (show (if x < y then (-1 : Int) else if y < x then 1 else 0) = 1 by rw [if_neg (by omega), if_pos h])
    have h2 : ¬ x < y := by omega
    rw [E.out]
    go_enter Try.func64, Try.ntmps64
    go_wp2_with (go_at_call 72; refine (Try.cmp_isNaN_int2 _ _).mono ?_; rintro e w' ⟨rfl, rfl⟩)
    go_ret
    exact ⟨rfl, rfl⟩
set_option maxHeartbeats 2000000 in
theorem compare_c (a a' : Option Addr) (n c c' : Nat) (xs ys : List Int) (w : World) (h : IntsAt w a n c xs) (h' : IntsAt w a' n c' ys) :
    Calls Try.prog 45 #[.slice a n c, .slice a' n c'] w fun e w' => e = .returned (.int .i64 (cmpF xs ys)) ∧ Below w.heap.size w w' := by
  obtain ⟨b, o, hz, hx⟩ := h.split
  have hz1 : Hid (n = 0) ∨ a = some ⟨b, o, none⟩ := hz.imp_left hidp
  obtain ⟨b', o', hz, hx'⟩ := h'.split
  have hz2 : Hid (n = 0) ∨ a' = some ⟨b', o', none⟩ := hz.imp_left hidp
  have HX := hidp hx
  have HX' := hidp hx'
  have mm := h.max
  have ee := h.le
  have mm' := h'.max
  have ee' := h'.le
  have L1 := hidp h.len
  have L2 := hidp h'.len
  have CD := hidp (fun k (hk : k < n) => cmp_drop xs ys k (by have := h.len; omega) (by have := h'.len; omega))
  clear hx hx' hz h h'
  go_enter Try.func45, Try.ntmps45
  go_wp2_with fail
  go_loopw [11] (fun i wr => ∃ k : Nat, k ≤ n ∧ i = .int .i64 k ∧ Hid (cmpF xs ys = cmpF (xs.drop k) (ys.drop k)) ∧ Below w.heap.size w wr) (fun i _ => n - (intOf i).toNat)
  case atStart => exact ⟨0, by omega, rfl, rfl, Below.refl _ _⟩
  case round =>
    obtain ⟨k, hk, rfl, hc, hbl⟩ := hrel
    by_cases hlt : k < n
    · obtain rfl : a = some ⟨b, o, none⟩ := hz1.resolve_left (fun e => by have := e.out; omega)
      obtain rfl : a' = some ⟨b', o', none⟩ := hz2.resolve_left (fun e => by have := e.out; omega)
      have q1 := carry_cell (HX.out k hlt) hbl
      have q2 := carry_cell (HX'.out k hlt) hbl
      have D := hidp (CD.out k hlt)
      have HC := hidp (fun W => cmp2_c (gi xs k) (gi ys k) W)
      generalize gi xs k = x at *
      generalize gi ys k = y at *
      rcases Int.lt_trichotomy x y with h | h | h
      · have E := hidp (show cmpF xs ys = -1 by rw [hc.out, D.out, if_pos h])
        rw [if_pos h] at HC
        clear h
        go_wp2_with (go_at_call 64; refine (HC.out _).mono ?_; rintro e w' ⟨rfl, rfl⟩)
        go_ret
        exact ⟨ret_int E.out.symm, hbl⟩
      · have E := hidp (show cmpF xs ys = cmpF (xs.drop (k + 1)) (ys.drop (k + 1)) by rw [hc.out, D.out, if_neg (by omega), if_neg (by omega)])
        rw [if_neg (by omega), if_neg (by omega)] at HC
        clear h
        go_wp2_with (go_at_call 64; refine (HC.out _).mono ?_; rintro e w' ⟨rfl, rfl⟩)
        go_roundw
        case rel => exact ⟨k + 1, by omega, by go_num, E, hbl⟩
        case measure => simp [intOf]; omega
      · have E := hidp (show cmpF xs ys = 1 by rw [hc.out, D.out, if_neg (by omega), if_pos h])
        rw [if_neg (by omega), if_pos h] at HC
        clear h
        go_wp2_with (go_at_call 64; refine (HC.out _).mono ?_; rintro e w' ⟨rfl, rfl⟩)
        go_ret
        exact ⟨ret_int E.out.symm, hbl⟩
    · obtain rfl : k = n := by omega
      have E := hidp (show cmpF xs ys = 0 by rw [hc.out, List.drop_of_length_le (by have := L1.out; omega)]; cases ys.drop k <;> rfl)
      go_wp2
      go_ret
      exact ⟨ret_int E.out.symm, hbl⟩
end Go.Proofs.Ytpdigiefldnpaaa
