/- Contract of slices.ContainsFunc at integers, whatever the predicate. -/
import Derived.Test.YtfhmckmglkjbeaaMem
import Derived.Deep.LoopGhost
import Derived.Shelf.Abstract
namespace Go.Proofs.Ytfhmckmglkjbeaa
open Go.ChangeShapes Go.WideShapes Go.ChangeAt Go.RowKit
set_option maxRecDepth 20000

/-- Where the search stops: the first of n that p is true of, -1 if there is none. -/
def idxF (p : Int → Bool) (xs : List Int) (n : Nat) : Nat → Nat → Int
  | 0, _ => -1
  | f + 1, k => if k < n then (if p (gi xs k) = true then (k : Int) else idxF p xs n f (k + 1)) else -1
theorem idxF_end (p : Int → Bool) (xs : List Int) (n : Nat) (f : Nat) : idxF p xs n f n = -1 := by
  cases f with
  | zero => rfl
  | succ f => rw [idxF, if_neg (by omega)]
theorem idxF_any (p : Int → Bool) (xs : List Int) (n : Nat) : ∀ f k, k + f = n → (0 ≤ idxF p xs n f k ↔ ∃ i, k ≤ i ∧ i < n ∧ p (gi xs i) = true)
  | 0, k, h => by
    rw [idxF]
    constructor
    · intro h; omega
    · rintro ⟨i, h1, h2, _⟩; omega
  | f + 1, k, h => by
    rw [idxF, if_pos (by omega)]
    by_cases hp : p (gi xs k) = true
    · rw [if_pos hp]
      exact ⟨fun _ => ⟨k, by omega, by omega, hp⟩, fun _ => by omega⟩
    · rw [if_neg hp, idxF_any p xs n f (k + 1) (by omega)]
      constructor
      · rintro ⟨i, h1, h2, h3⟩; exact ⟨i, by omega, h2, h3⟩
      · rintro ⟨i, h1, h2, h3⟩
        refine ⟨i, ?_, h2, h3⟩
        by_cases e : i = k
        · subst e; exact absurd h3 hp
        · omega
def hasF (p : Int → Bool) (xs : List Int) (n : Nat) : Bool := decide (0 ≤ idxF p xs n n 0)
theorem hasF_true (p : Int → Bool) (xs : List Int) (n : Nat) (h : ∃ i, i < n ∧ p (gi xs i) = true) : hasF p xs n = true := by
  obtain ⟨i, h1, h2⟩ := h
  exact decide_eq_true ((idxF_any p xs n n 0 (by omega)).2 ⟨i, by omega, h1, h2⟩)
theorem hasF_false (p : Int → Bool) (xs : List Int) (n : Nat) (h : ∀ i, i < n → p (gi xs i) = false) : hasF p xs n = false :=
  decide_eq_false (fun e => by
    obtain ⟨i, _, h1, h2⟩ := (idxF_any p xs n n 0 (by omega)).1 e
    rw [h i h1] at h2; cases h2)

set_option maxHeartbeats 2000000 in
theorem ifunc_c (g : Nat) (lb : Array Value) (p : Int → Bool) (eg : ∀ args w, (callFunc g args).run Try.prog w = .ok (.enter g args) w) (a : Option Addr) (n c : Nat) (xs : List Int) (w : World) (h : IntsAt w a n c xs)
    (hp : ∀ W i, i < n → Below w.heap.size w W → Calls Try.prog g (#[.int .i64 (gi xs i)] ++ lb) W fun e w' => e = .returned (.bool (p (gi xs i))) ∧ Below w.heap.size w w') :
    Calls Try.prog 60 #[.slice a n c, .func (.func g) #[] lb] w fun e w' => e = .returned (.int .i64 (idxF p xs n n 0)) ∧ Below w.heap.size w w' := by
  obtain ⟨b, o, hz, hx⟩ := h.split
  have hz' : Hid (n = 0) ∨ a = some ⟨b, o, none⟩ := hz.imp_left hidp
  have HX := hidp hx
  have HP := hidp hp
  have mm := h.max
  have ee := h.le
  clear hx hz h hp
  go_enter Try.func60, Try.ntmps60
  go_wp2_with fail
  go_loopg [5, 8] n (fun gg _ s8 wr => ∃ k : Nat, k ≤ n ∧ n - k ≤ gg ∧ s8 = .int .i64 k ∧ Hid (idxF p xs n n 0 = idxF p xs n (n - k) k) ∧ Hid (Below w.heap.size w wr))
  case atStart => exact ⟨0, Nat.zero_le _, by omega, rfl, rfl, Below.refl _ w⟩
  case round =>
    obtain ⟨k, hk, hgg, rfl, HI, BW⟩ := hrel
    by_cases hlt : k < n
    · obtain rfl : a = some ⟨b, o, none⟩ := hz'.resolve_left (fun e => by have := e.out; omega)
      have q0 := carry_cell (HX.out k hlt) BW.out
      have hcall := HP.out wr k hlt BW.out
      have STEP := hidp (show idxF p xs n (n - k) k = if p (gi xs k) = true then (k : Int) else idxF p xs n (n - (k + 1)) (k + 1) by
        rw [show n - k = (n - (k + 1)) + 1 by omega, idxF, if_pos hlt])
      generalize gi xs k = y at *
      cases hq : p y with
      | true =>
        rw [hq] at hcall
        have HQ := hidp hq
        clear hq
        go_wp2_with (go_at_fn g; refine hcall.mono ?_; rintro e w' ⟨rfl, hb'⟩)
        go_ret
        refine ⟨ret_int ?_, hb'⟩
        rw [HI.out, STEP.out, if_pos HQ.out]
      | false =>
        rw [hq] at hcall
        have HQ := hidp hq
        clear hq
        go_wp2_with (go_at_fn g; refine hcall.mono ?_; rintro e w' ⟨rfl, hb'⟩)
        go_roundg (n - (k + 1))
        case measure => omega
        case rel =>
          refine ⟨k + 1, by omega, by omega, by go_num, ?_, hb'⟩
          exact hidp (by rw [HI.out, STEP.out, if_neg (by rw [HQ.out]; simp)])
    · obtain rfl : k = n := by omega
      go_wp2
      go_ret
      refine ⟨ret_int ?_, BW.out⟩
      rw [HI.out, idxF_end]
theorem cfunc_c (g : Nat) (lb : Array Value) (p : Int → Bool) (eg : ∀ args w, (callFunc g args).run Try.prog w = .ok (.enter g args) w) (a : Option Addr) (n c : Nat) (xs : List Int) (w : World) (h : IntsAt w a n c xs)
    (hp : ∀ W i, i < n → Below w.heap.size w W → Calls Try.prog g (#[.int .i64 (gi xs i)] ++ lb) W fun e w' => e = .returned (.bool (p (gi xs i))) ∧ Below w.heap.size w w') :
    Calls Try.prog 52 #[.slice a n c, .func (.func g) #[] lb] w fun e w' => e = .returned (.bool (hasF p xs n)) ∧ Below w.heap.size w w' := by
  have C := hidp (ifunc_c g lb p eg a n c xs w h hp)
  clear hp h
  go_enter Try.func52, Try.ntmps52
  go_wp2_with fail
  refine C.out.mono ?_
  rintro e w1 ⟨rfl, hb⟩
  go_wp2_with fail
  go_ret
  exact ⟨rfl, hb⟩
end Go.Proofs.Ytfhmckmglkjbeaa
