/- Contract of the laws' own weights: 1, and some more. -/
import Derived.Test.YtmgagmnknhgkdaaWts
import Derived.Lib.MinMax
namespace Go.Proofs.Ytmgagmnknhgkdaa
open Go.ChangeShapes Go.WideShapes Go.ChangeAt Go.RowKit
set_option maxRecDepth 20000

def wtF (xs : List Int) (most : Int) : Nat → Int
  | 0 => 1
  | i + 1 => wi (gi xs i) (most + 1)
theorem wtF_bd (xs : List Int) (most : Int) (h : 0 ≤ most) : ∀ i, 0 ≤ wtF xs most i ∧ wtF xs most i ≤ max 1 most
  | 0 => by simp only [wtF]; omega
  | i + 1 => by
    have := wi_lo (gi xs i) (most + 1) (by omega)
    have := wi_hi (gi xs i) (most + 1) (by omega)
    simp only [wtF]; omega
/-- The weights, as a list. -/
def wtL (xs : List Int) (most : Int) (n : Nat) : List Int := tab (wtF xs most) (min n 39 + 1)
theorem wtL_ok (xs : List Int) (most : Int) (n : Nat) (h0 : 0 ≤ most) (h1 : most ≤ 1000000) : okN (wtL xs most n) (min n 39 + 1) = true :=
  okN_of _ _ (fun i hi => by unfold wtL; rw [tab_gi _ _ _ hi]; have := wtF_bd xs most h0 i; omega)
theorem wtL_pos (xs : List Int) (most : Int) (n : Nat) (h0 : 0 ≤ most) (h1 : most ≤ 1000000) : 1 ≤ sumK (wtL xs most n) (min n 39 + 1) := by
  have hok := wtL_ok xs most n h0 h1
  have : ∀ k, k ≤ min n 39 → 1 ≤ sumK (wtL xs most n) (k + 1) := by
    intro k
    induction k with
    | zero =>
      intro _
      show 1 ≤ 0 + gi (wtL xs most n) 0
      unfold wtL; rw [tab_gi _ _ _ (by omega)]; simp [wtF]
    | succ k ih =>
      intro hk
      have := ih (by omega)
      have := okN_at _ _ hok (k + 1) (by omega)
      show 1 ≤ sumK (wtL xs most n) (k + 1) + gi (wtL xs most n) (k + 1)
      omega
  exact this _ (Nat.le_refl _)

set_option maxHeartbeats 2000000 in
theorem wown_c (a : Option Addr) (n c : Nat) (xs : List Int) (most : Int) (w : World) (h : IntsAt w a n c xs) (h0 : 0 ≤ most) (h1 : most ≤ 1000000) :
    Calls Try.prog 26 #[.slice a n c, .int .i64 most] w fun e w' => ∃ v, e = .returned v ∧ w'.ownsRow w.heap.size 3 1 v (min n 39 + 1) ((wtL xs most n).map (Value.int .i64)) ∧ Below w.heap.size w w' := by
  obtain ⟨b, o, hz, hx⟩ := h.split
  have hz' : Hid (n = 0) ∨ a = some ⟨b, o, none⟩ := hz.imp_left hidp
  have HX := hidp hx
  have mm := h.max
  have ee := h.le
  unfold wtL
  obtain ⟨N, hN⟩ : ∃ N : Nat, N = min n 39 := ⟨_, rfl⟩
  have hN1 : N ≤ 39 := by omega
  have hN2 : N ≤ n := by omega
  have hmin : min (n : Int) 39 = (N : Int) := by omega
  rw [← hN]
  clear hx hz h hN
  go_enter Try.func26, Try.ntmps26
  go_wp2_with fail
  have ho0 : (w.alloc (.cells #[.int .i64 1] 3)).ownsRow w.heap.size 3 1 (.slice (some ⟨w.heap.size, 0, none⟩) 1 1) 1 ((tab (wtF xs most) 1).map (Value.int .i64)) :=
    World.ownsRow_lit w #[.int .i64 1] 1 (Nat.le_refl _) (by unfold maxLen; omega) rfl
  go_loopw [5, 15] (fun v i wr => ∃ k : Nat, k ≤ N ∧ i = .int .i64 k ∧ wr.ownsRow w.heap.size 3 1 v (k + 1) ((tab (wtF xs most) (k + 1)).map (Value.int .i64)) ∧ Below w.heap.size w wr) (fun _ i _ => N - (intOf i).toNat)
  case atStart => exact ⟨0, by omega, rfl, ho0, bal (Below.refl _ _) _⟩
  case round =>
    obtain ⟨k, hk, rfl, hv, hbl⟩ := hrel
    by_cases hlt : k < N
    · obtain rfl : a = some ⟨b, o, none⟩ := hz'.resolve_left (fun e => by have := e.out; omega)
      have q0 := carry_cell (HX.out k (by omega)) hbl
      go_wp2_with (first | (at_builtin; refine wpList_append_new rfl (.tmp 19) (.tmp 24) 22 rfl w.heap.size 3 _ 1 8 info_int rfl (by decide) Try.underlying22 _ (k + 1) _ rfl hv rfl (one_int _ _) rfl rfl (by omega) (by decide) hbl.size ?_; intro v0 x0 nv g0 d0; have bl0 := append_step hv hbl (Nat.le_refl _) g0; clear g0 d0 hv hbl) | (go_at_call 27; refine (within_c _ _ (by omega) (by omega) _).mono ?_; rintro e w' ⟨rfl, rfl⟩))
      go_roundw
      case rel => exact ⟨k + 1, by omega, by go_num, by rw [tab_snoc, List.map_append]; exact nv, bl0⟩
      case measure => simp [intOf]; omega
    · obtain rfl : k = N := by omega
      go_wp2
      go_ret
      exact ⟨_, rfl, hv, hbl⟩
end Go.Proofs.Ytmgagmnknhgkdaa
