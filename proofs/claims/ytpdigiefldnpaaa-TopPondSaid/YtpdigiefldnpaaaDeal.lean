/- Contract of digit.Deal at draws that may be: the dealt list, in new memory. -/
import Derived.Test.YtpdigiefldnpaaaTake
namespace Go.Proofs.Ytpdigiefldnpaaa
open Go.ChangeShapes Go.WideShapes Go.ChangeAt Go.RowKit
set_option maxRecDepth 20000

/-- Two places changed for one another. -/
def swp (f : Nat → Int) (i d : Nat) (j : Nat) : Int := if j = i then f d else if j = d then f i else f j
/-- What stands at each place after k draws. -/
def dealF (xs ds : List Int) : Nat → Nat → Int
  | 0 => gi xs
  | k + 1 => swp (dealF xs ds k) k (gi ds k).toNat

set_option maxHeartbeats 2000000 in
theorem deal_c (a0 a1 : Option Addr) (n c0 c1 : Nat) (xs ds : List Int) (w : World) (h0 : IntsAt w a0 n c0 xs) (h1 : IntsAt w a1 n c1 ds) (hn : n ≤ 12) (hd : ∀ i, i < n → 0 ≤ gi ds i ∧ gi ds i ≤ i) :
    Calls Try.prog 31 #[.slice a0 n c0, .slice a1 n c1] w fun e w' => ∃ v, e = .returned (.tuple #[v, .int .i64 0]) ∧ w'.ownsRow w.heap.size 3 1 v n ((tab (dealF xs ds n) n).map (Value.int .i64)) ∧ Below w.heap.size w w' := by
  have CC := hidp (clonei_c a0 n c0 xs w h0 (by omega))
  have HD := hidp hd
  have l0 := hidp h0.len
  have m1 := h1.max
  clear hd
  rcases Nat.eq_zero_or_pos n with hz | hz
  · subst hz
    clear h0 h1
    go_enter Try.func31, Try.ntmps31
    go_wp2_with fail
    refine CC.out.mono ?_
    rintro e wa ⟨v, rfl, hv, hba⟩
    go_wp2_with fail
    refine wp_loop_rounds 1 ?_; rw [rounds_succ]
    go_wp2
    go_ret2
    have hx : xs = [] := List.eq_nil_of_length_eq_zero l0.out
    exact ⟨_, rfl, by subst hx; exact hv, hba⟩
  · obtain ⟨b, o, rfl, hb, hc⟩ := h1.addr hz
    have C := hidp hc
    clear hc h0 h1
    go_enter Try.func31, Try.ntmps31
    go_wp2_with fail
    refine CC.out.mono ?_
    rintro e wa ⟨v, rfl, hv, hba⟩
    obtain ⟨g, cm, hme, hgB, hgl, hncm, hcm⟩ := owns_addr hv hz
    subst hme
    rw [map_tab xs n l0.out] at hv
    go_wp2_with fail
    go_loopw [21] (fun i wr => ∃ k : Nat, k ≤ n ∧ i = .int .i64 k ∧ wr.ownsRow w.heap.size 3 1 (.slice (some ⟨g, 0, none⟩) n cm) n (tab (fun j => Value.int .i64 (dealF xs ds k j)) n) ∧ Below w.heap.size w wr ∧ g < wr.heap.size) (fun i _ => n - (intOf i).toNat)
    case atStart => exact ⟨0, by omega, rfl, hv, hba, hgl⟩
    case round =>
      obtain ⟨k, hk, rfl, how, hbl, hgw⟩ := hrel
      by_cases hlt : k < n
      · obtain ⟨d, hdd⟩ := Int.eq_ofNat_of_zero_le (HD.out k hlt).1
        have q0 := carry_cell ⟨hb, C.out k hlt⟩ hbl
        have hdk := (HD.out k hlt).2
        rw [hdd] at q0 hdk
        have hdk' : d ≤ k := by omega
        have c1 : wr.cell? ⟨g, k, none⟩ = some (.int .i64 (dealF xs ds k k)) := by rw [how.cellAt k (by omega), tab_get _ _ _ hlt]
        have c2 : wr.cell? ⟨g, d, none⟩ = some (.int .i64 (dealF xs ds k d)) := by rw [how.cellAt d (by omega), tab_get _ _ _ (by omega)]
        have f1 := how.frozenAt k
        have f2 := how.frozenAt d
        have E := hidp (show dealF xs ds (k + 1) = swp (dealF xs ds k) k d by simp only [dealF]; rw [hdd]; rfl)
        have HDD := hidp hdd
        clear hdd
        have key : ∀ x y : Nat, (x = k ∧ y = d ∨ x = d ∧ y = k) → ∀ w2 : World, w2 = (wr.setCell ⟨g, x, none⟩ (.int .i64 (dealF xs ds k y))).setCell ⟨g, y, none⟩ (.int .i64 (dealF xs ds k x)) →
            w2.ownsRow w.heap.size 3 1 (.slice (some ⟨g, 0, none⟩) n cm) n (tab (fun j => Value.int .i64 (dealF xs ds (k + 1) j)) n) ∧ Below w.heap.size w w2 ∧ g < w2.heap.size := by
          intro x y hxy w2 hw2
          subst hw2
          refine ⟨?_, (hbl.setCell (p := ⟨g, x, none⟩) hgB _).setCell (p := ⟨g, y, none⟩) hgB _, by simp; omega⟩
          have h1 := own_store_tab how x (.int .i64 (dealF xs ds k y))
          have h2 := own_store_tab h1 y (.int .i64 (dealF xs ds k x))
          rw [tab_congr _ (fun j => Value.int .i64 (dealF xs ds (k + 1) j)) n ?_] at h2
          · exact h2
          · intro j hj
            rw [E.out]
            unfold swp
            rcases hxy with ⟨rfl, rfl⟩ | ⟨rfl, rfl⟩
            · by_cases h1 : j = x <;> by_cases h2 : j = y <;> simp [h1, h2] <;> simp_all
            · by_cases h1 : j = x <;> by_cases h2 : j = y <;> simp [h1, h2] <;> simp_all
        have KEY := hidp key
        clear key
        rcases Nat.lt_or_eq_of_le hdk' with hlt' | heq
        · go_wp2_with fail
          go_region
          go_wp2
          go_roundw
          case rel =>
            obtain ⟨e1, e2, e3⟩ := KEY.out k d (.inl ⟨rfl, rfl⟩) _ rfl
            exact ⟨k + 1, by omega, by go_num, e1, e2.drew, e3⟩
          case measure => simp [intOf]; omega
        · subst heq
          go_wp2_with fail
          go_region
          go_wp2
          go_roundw
          case rel =>
            obtain ⟨e1, e2, e3⟩ := KEY.out d d (.inl ⟨rfl, rfl⟩) _ rfl
            exact ⟨d + 1, by omega, by go_num, e1, e2.drew, e3⟩
          case measure => simp [intOf]; omega
      · obtain rfl : k = n := by omega
        go_wp2
        go_ret2
        exact ⟨_, rfl, by rw [tab_map]; exact how, hbl⟩
end Go.Proofs.Ytpdigiefldnpaaa
