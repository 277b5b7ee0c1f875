/- Merged: DealAny, NumAny. -/
import Derived.Test.YtfhmckmglkjbeaaTake
import Derived.Test.YtfhmckmglkjbeaaFr
import Derived.Test.YtfhmckmglkjbeaaMgSome
import Derived.Test.YtfhmckmglkjbeaaPond
import Derived.Test.YtfhmckmglkjbeaaAliasUse
import Derived.Test.YtfhmckmglkjbeaaMgEven
/- digit.Deal at whatever comes: a list of the call's own, or nil. -/
namespace Go.Proofs.Ytfhmckmglkjbeaa
open Go.ChangeShapes Go.WideShapes Go.ChangeAt Go.RowKit
set_option maxRecDepth 20000
set_option maxHeartbeats 2000000 in
theorem deal_any (a0 a1 : Option Addr) (n m c0 c1 : Nat) (xs ds : List Int) (w : World) (h0 : IntsAt w a0 n c0 xs) (h1 : IntsAt w a1 m c1 ds) :
    Calls Try.prog 7 #[.slice a0 n c0, .slice a1 m c1] w fun e w' => ∃ v r, e = .returned (.tuple #[v, .int .i64 r]) ∧ Fr w.heap.size w' v ∧ Below w.heap.size w w' := by
  have m0 := h0.max
  have m1 := h1.max
  have e0 := h0.le
  have e1 := h1.le
  by_cases hn : n ≤ 12
  · by_cases hmn : m = n
    · subst hmn
      have CC := hidp (clonei_c a0 m c0 xs w h0 (by omega))
      have l0 := hidp h0.len
      have XB := hidp (gi_any h0.bd)
      rcases Nat.eq_zero_or_pos m with hz | hz
      · subst hz
        clear h0 h1
        go_enter Try.func7, Try.ntmps7
        go_wp2_with fail
        refine CC.out.mono ?_
        rintro e wa ⟨v, rfl, hv, hba⟩
        go_wp2_with fail
        refine wp_loop_rounds 1 ?_; rw [rounds_succ]
        go_wp2
        go_ret2
        have hx : xs = [] := List.eq_nil_of_length_eq_zero l0.out
        exact ⟨_, _, rfl, Fr.mk hv (by omega) (by subst hx; intro x h; simp at h), hba⟩
      · obtain ⟨b, o, rfl, hb, hc⟩ := h1.addr hz
        have C := hidp hc
        clear hc h0 h1
        go_enter Try.func7, Try.ntmps7
        go_wp2_with fail
        refine CC.out.mono ?_
        rintro e wa ⟨v, rfl, hv, hba⟩
        obtain ⟨g, cm, hme, hgB, hgl, hncm, hcm⟩ := owns_addr hv hz
        subst hme
        rw [map_tab xs m l0.out] at hv
        go_wp2_with fail
        go_loopw [21] (fun i wr => ∃ (k : Nat) (f : Nat → Int), k ≤ m ∧ i = .int .i64 k ∧ wr.ownsRow w.heap.size 3 1 (.slice (some ⟨g, 0, none⟩) m cm) m (tab (fun j => Value.int .i64 (f j)) m) ∧ Hid (∀ j, -9223372036854775808 ≤ f j ∧ f j ≤ 9223372036854775807) ∧ Below w.heap.size w wr ∧ g < wr.heap.size) (fun i _ => m - (intOf i).toNat)
        case atStart => exact ⟨0, gi xs, by omega, rfl, hv, XB, hba, hgl⟩
        case round =>
          obtain ⟨k, f, hk, rfl, how, FB, hbl, hgw⟩ := hrel
          by_cases hlt : k < m
          · have q0 := carry_cell ⟨hb, C.out k hlt⟩ hbl
            generalize gi ds k = dk at *
            by_cases hd0 : dk < 0
            · go_wp2
              go_ret2
              exact ⟨_, _, rfl, Fr.nil _ _, hbl⟩
            by_cases hd1 : (k : Int) < dk
            · go_wp2
              go_ret2
              exact ⟨_, ⟨_, rfl⟩, Fr.nil _ _, hbl⟩
            obtain ⟨d, rfl⟩ := Int.eq_ofNat_of_zero_le (show 0 ≤ dk by omega)
            have hdk' : d ≤ k := by omega
            have c1 : wr.cell? ⟨g, k, none⟩ = some (.int .i64 (f k)) := by rw [how.cellAt k (by omega), tab_get _ _ _ hlt]
            have c2 : wr.cell? ⟨g, d, none⟩ = some (.int .i64 (f d)) := by rw [how.cellAt d (by omega), tab_get _ _ _ (by omega)]
            have f1 := how.frozenAt k
            have f2 := how.frozenAt d
            have key : ∀ (x y : Nat) (u t : Int), -9223372036854775808 ≤ u ∧ u ≤ 9223372036854775807 → -9223372036854775808 ≤ t ∧ t ≤ 9223372036854775807 → ∀ w2 : World, w2 = (wr.setCell ⟨g, x, none⟩ (.int .i64 u)).setCell ⟨g, y, none⟩ (.int .i64 t) →
                ∃ f2 : Nat → Int, w2.ownsRow w.heap.size 3 1 (.slice (some ⟨g, 0, none⟩) m cm) m (tab (fun j => Value.int .i64 (f2 j)) m) ∧ Hid (∀ j, -9223372036854775808 ≤ f2 j ∧ f2 j ≤ 9223372036854775807) ∧ Below w.heap.size w w2 ∧ g < w2.heap.size := by
              intro x y u t hu ht w2 hw2
              subst hw2
              refine ⟨fun j => if j = y then t else if j = x then u else f j, ?_, hidp (fun j => ?_), (hbl.setCell (p := ⟨g, x, none⟩) hgB _).setCell (p := ⟨g, y, none⟩) hgB _, by simp; omega⟩
              · have h1 := own_store_tab how x (.int .i64 u)
                have h2 := own_store_tab h1 y (.int .i64 t)
                rw [tab_congr _ (fun j => Value.int .i64 (if j = y then t else if j = x then u else f j)) m ?_] at h2
                · exact h2
                · intro j hj
                  split
                  · rfl
                  · split <;> rfl
              · show -9223372036854775808 ≤ (if j = y then t else if j = x then u else f j) ∧ (if j = y then t else if j = x then u else f j) ≤ 9223372036854775807
                split
                · exact ht
                · split
                  · exact hu
                  · exact FB.out j
            have KEY := hidp key
            have K1 := hidp (FB.out k)
            have K2 := hidp (FB.out d)
            clear key
            generalize f k = fk at *
            generalize f d = fd at *
            rcases Nat.lt_or_eq_of_le hdk' with hlt' | heq
            · go_wp2_with fail
              go_region
              go_wp2
              go_roundw
              case rel =>
                obtain ⟨f2, e1, e2, e3, e4⟩ := KEY.out k d fd fk K2.out K1.out _ rfl
                exact ⟨k + 1, f2, by omega, by go_num, e1, e2, e3.drew, e4⟩
              case measure => simp [intOf]; omega
            · subst heq
              go_wp2_with fail
              go_region
              go_wp2
              go_roundw
              case rel =>
                obtain ⟨f2, e1, e2, e3, e4⟩ := KEY.out d d fd fd K2.out K2.out _ rfl
                exact ⟨d + 1, f2, by omega, by go_num, e1, e2, e3.drew, e4⟩
              case measure => simp [intOf]; omega
          · obtain rfl : k = m := by omega
            have FB1 := FB.out
            clear FB
            go_wp2
            go_ret2
            exact ⟨_, _, rfl, Fr.tab how (by omega) (fun j _ => FB1 j), hbl⟩
    · clear h0 h1
      go_enter Try.func7, Try.ntmps7
      go_wp2
      go_ret2
      exact ⟨_, _, rfl, Fr.nil _ _, Below.refl _ _⟩
  · clear h0 h1
    go_enter Try.func7, Try.ntmps7
    go_wp2
    go_ret2
    exact ⟨_, _, rfl, Fr.nil _ _, Below.refl _ _⟩
end Go.Proofs.Ytfhmckmglkjbeaa

/- Functions of lists of integers at whatever comes: each returns, what it answers is a list of the call's own (or nil), nothing that was there changes. -/
namespace Go.Proofs.Ytfhmckmglkjbeaa
open Go.ChangeShapes Go.WideShapes Go.ChangeAt Go.RowKit
set_option maxRecDepth 20000
open CombMath
/-- What goes wrong first. -/
def fE (f : Nat → Int) : Nat → Int
  | 0 => 0
  | n + 1 => if fE f n = 0 then f n else fE f n
theorem fE_keep (f : Nat → Int) (k : Nat) (h : fE f k ≠ 0) : ∀ n, k ≤ n → fE f n = fE f k
  | 0, hn => by obtain rfl : k = 0 := by omega
                rfl
  | n + 1, hn => by
    by_cases e : k = n + 1
    · subst e; rfl
    · have := fE_keep f k h n (by omega)
      simp only [fE]
      rw [if_neg (by rw [this]; exact h)]
      exact this
theorem fE_at (f : Nat → Int) (k n : Nat) (h0 : fE f k = 0) (h1 : f k ≠ 0) (hk : k < n) : fE f n = f k := by
  have e : fE f (k + 1) = f k := by simp only [fE]; rw [if_pos h0]
  rw [fE_keep f (k + 1) (by rw [e]; exact h1) n (by omega), e]
theorem fE_next (f : Nat → Int) (k : Nat) (h0 : fE f k = 0) (h1 : f k = 0) : fE f (k + 1) = 0 := by
  simp only [fE]; rw [if_pos h0]; exact h1
theorem fE_zero (f : Nat → Int) : ∀ n, fE f n = 0 → ∀ i, i < n → f i = 0
  | 0, _, i, hi => by omega
  | n + 1, h, i, hi => by
    by_cases e : fE f n = 0
    · simp only [fE] at h
      rw [if_pos e] at h
      by_cases e2 : i = n
      · subst e2; exact h
      · exact fE_zero f n e i (by omega)
    · simp only [fE] at h
      rw [if_neg e] at h
      exact absurd h e
/-- comb.Some at whatever comes. -/
def smE (n : Nat) (r : Int) : Int := if 30 < n then 1 else if r < 0 ∨ (wz 30 n : Int) ≤ r then 4 else 0
theorem some_bad (n : Nat) (r : Int) (hE : smE n r ≠ 0) (hn : n ≤ 9223372036854775807) (w : World) :
    Calls Try.prog 8 #[.int .i64 n, .int .i64 r] w fun e w' => e = .returned (.tuple #[.slice none 0 0, .int .i64 (smE n r)]) ∧ w = w' := by
  by_cases h1 : 30 < n
  · rw [show smE n r = 1 by unfold smE; rw [if_pos h1]]
    have h1' : (30 : Int) < (n : Int) := by omega
    clear hE
    go_enter Try.func8, Try.ntmps8
    go_wp2
    go_ret2
    exact ⟨rfl, rfl⟩
  · by_cases h2 : r < 0 ∨ (wz 30 n : Int) ≤ r
    · rw [show smE n r = 4 by unfold smE; rw [if_neg h1, if_pos h2]]
      have W := hidp (waysz_c 30 n (by omega))
      have h1' : ¬ (30 : Int) < (n : Int) := by omega
      clear hE
      by_cases h3 : r < 0
      · clear h2
        go_enter Try.func8, Try.ntmps8
        go_wp2
        go_ret2
        exact ⟨rfl, rfl⟩
      · have h4 : (wz 30 n : Int) ≤ r := h2.resolve_left h3
        clear h2
        generalize wz 30 n = Z at *
        go_enter Try.func8, Try.ntmps8
        go_wp2_with fail
        refine (W.out _).mono ?_
        rintro e w1 ⟨rfl, rfl⟩
        go_wp2
        go_ret2
        exact ⟨rfl, rfl⟩
    · exact absurd (by unfold smE; rw [if_neg h1, if_neg h2]) hE
theorem some_any (n : Nat) (r : Int) (hn : n ≤ 9223372036854775807) (w : World) :
    Calls Try.prog 8 #[.int .i64 n, .int .i64 r] w fun e w' => ∃ v r, e = .returned (.tuple #[v, .int .i64 r]) ∧ Fr w.heap.size w' v ∧ Below w.heap.size w w' := by
  by_cases hE : smE n r = 0
  · have h1 : ¬ 30 < n := fun h => by unfold smE at hE; rw [if_pos h] at hE; omega
    have h2 : ¬ (r < 0 ∨ (wz 30 n : Int) ≤ r) := fun h => by unfold smE at hE; rw [if_neg h1, if_pos h] at hE; omega
    obtain ⟨q, rfl⟩ := Int.eq_ofNat_of_zero_le (show 0 ≤ r by omega)
    refine (some_c n q (by omega) (by omega) w).mono ?_
    rintro e w' ⟨v, rfl, hO, hB⟩
    refine ⟨_, _, rfl, Fr.mk hO (by omega) (fun x hx => ?_), hB⟩
    obtain ⟨j, hj, rfl⟩ := tab_mem _ _ _ hx
    have := (top_spec (j + 1) (rk n q (n - 1 - j)) (by omega) (by omega)).2.1
    unfold someF
    omega
  · refine (some_bad n r hE hn w).mono ?_
    rintro e w' ⟨rfl, rfl⟩
    exact ⟨_, _, rfl, Fr.nil _ _, Below.refl _ _⟩
end Go.Proofs.Ytfhmckmglkjbeaa
