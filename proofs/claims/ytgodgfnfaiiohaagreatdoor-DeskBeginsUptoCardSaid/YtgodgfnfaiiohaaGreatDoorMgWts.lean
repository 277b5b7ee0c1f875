/- Merged: Sum, Wts. -/
import Derived.Test.YtgodgfnfaiiohaaGreatDoorMem
import Derived.Test.YtgodgfnfaiiohaaGreatDoorKit
/- Contract of the laws' own sum: the sum of a list of numbers, where no partial sum is too great. -/
namespace Go.Proofs.YtgodgfnfaiiohaaGreatDoor
open Go.ChangeShapes Go.WideShapes Go.ChangeAt Go.RowKit
set_option maxRecDepth 20000

/-- The sum of the first k. -/
def sumK (xs : List Int) : Nat → Int
  | 0 => 0
  | k + 1 => sumK xs k + gi xs k
end Go.Proofs.YtgodgfnfaiiohaaGreatDoor

/- Contracts of alias.Weights at every list, and of the running sums. -/
namespace Go.Proofs.YtgodgfnfaiiohaaGreatDoor
open Go.ChangeShapes Go.WideShapes Go.ChangeAt Go.RowKit
set_option maxRecDepth 20000

/-- May the first k be weights? -/
def okN (xs : List Int) : Nat → Bool
  | 0 => true
  | k + 1 => okN xs k && decide (0 ≤ gi xs k ∧ gi xs k ≤ 1000000000000)
theorem okN_at (xs : List Int) : ∀ k, okN xs k = true → ∀ i, i < k → 0 ≤ gi xs i ∧ gi xs i ≤ 1000000000000
  | 0, _, i, hi => by omega
  | k + 1, h, i, hi => by
    simp only [okN, Bool.and_eq_true, decide_eq_true_eq] at h
    by_cases e : i = k
    · rw [e]; exact h.2
    · exact okN_at xs k h.1 i (by omega)
theorem okN_of (xs : List Int) : ∀ k, (∀ i, i < k → 0 ≤ gi xs i ∧ gi xs i ≤ 1000000000000) → okN xs k = true
  | 0, _ => rfl
  | k + 1, h => by
    simp only [okN, Bool.and_eq_true, decide_eq_true_eq]
    exact ⟨okN_of xs k (fun i hi => h i (by omega)), h k (by omega)⟩
theorem okN_down (xs : List Int) (n k : Nat) (h : okN xs n = true) (hk : k ≤ n) : okN xs k = true := okN_of xs k (fun i hi => okN_at xs n h i (by omega))
theorem sumK_ok (xs : List Int) : ∀ k, okN xs k = true → 0 ≤ sumK xs k ∧ sumK xs k ≤ 1000000000000 * k
  | 0, _ => by simp [sumK]
  | k + 1, h => by
    have a := sumK_ok xs k (okN_down xs (k + 1) k h (by omega))
    have b := okN_at xs (k + 1) h k (by omega)
    simp only [sumK]
    omega
/-- The error that a list of weights gives, 0 if there is none. -/
def wtsE (xs : List Int) (n : Nat) : Int := if 40 < n then 2 else if okN xs n = true then (if sumK xs n = 0 then 6 else 0) else 1
def wtsV (xs : List Int) (n : Nat) : Int := if wtsE xs n = 0 then sumK xs n else 0
theorem wtsE_zero (xs : List Int) (n : Nat) (h : wtsE xs n = 0) : n ≤ 40 ∧ okN xs n = true ∧ 0 < sumK xs n := by
  unfold wtsE at h
  by_cases h1 : 40 < n
  · rw [if_pos h1] at h; omega
  · rw [if_neg h1] at h
    by_cases h2 : okN xs n = true
    · rw [if_pos h2] at h
      by_cases h3 : sumK xs n = 0
      · rw [if_pos h3] at h; omega
      · exact ⟨by omega, h2, by have := (sumK_ok xs n h2).1; omega⟩
    · rw [if_neg h2] at h; omega
theorem wtsE_ok (xs : List Int) (n : Nat) (h1 : n ≤ 40) (h2 : okN xs n = true) (h3 : 0 < sumK xs n) : wtsE xs n = 0 := by
  unfold wtsE; rw [if_neg (by omega), if_pos h2, if_neg (by omega)]
theorem wtsE_bd (xs : List Int) (n : Nat) : 0 ≤ wtsE xs n ∧ wtsE xs n ≤ 6 := by
  unfold wtsE; split
  · omega
  · split
    · split <;> omega
    · omega

set_option maxHeartbeats 2000000 in
theorem weights_c (a : Option Addr) (n c : Nat) (xs : List Int) (w : World) (h : IntsAt w a n c xs) :
    Calls Tryz.prog 88 #[.slice a n c] w fun e w' => e = .returned (.tuple #[.int .i64 (wtsV xs n), .int .i64 (wtsE xs n)]) ∧ w = w' := by
  obtain ⟨b, o, hz, hx⟩ := h.split
  have hz' : Hid (n = 0) ∨ a = some ⟨b, o, none⟩ := hz.imp_left hidp
  have HX := hidp hx
  have mm := h.max
  have ee := h.le
  clear hx hz h
  by_cases h40 : 40 < n
  · have E := hidp (show wtsE xs n = 2 by unfold wtsE; rw [if_pos h40])
    have V := hidp (show wtsV xs n = 0 by unfold wtsV; rw [E.out]; rfl)
    go_enter Tryz.func88, Tryz.ntmps88
    go_wp2_with fail
    go_ret2
    exact ⟨by rw [E.out, V.out]; rfl, rfl⟩
  · have hn : n ≤ 40 := by omega
    go_enter Tryz.func88, Tryz.ntmps88
    go_wp2_with fail
    go_loop [4, 12] (fun s i => ∃ k : Nat, k ≤ n ∧ i = .int .i64 k ∧ s = .int .i64 (sumK xs k) ∧ Hid (okN xs k = true)) (fun _ i => n - (intOf i).toNat)
    case atStart => exact ⟨0, by omega, rfl, rfl, rfl⟩
    case round =>
      obtain ⟨k, hk, rfl, rfl, hok⟩ := hrel
      obtain ⟨s1, s2⟩ := sumK_ok xs k hok.out
      by_cases hlt : k < n
      · obtain rfl : a = some ⟨b, o, none⟩ := hz'.resolve_left (fun e => by have := e.out; omega)
        have q := (HX.out k hlt).2
        have e : sumK xs (k + 1) = sumK xs k + gi xs k := rfl
        have E := hidp e
        clear e
        by_cases hg : 0 ≤ gi xs k ∧ gi xs k ≤ 1000000000000
        · obtain ⟨hg1, hg2⟩ := hg
          go_wp2_with fail
          go_round
          case rel => exact ⟨k + 1, by omega, by go_num, by rw [E.out], hidp (by simp only [okN, Bool.and_eq_true, decide_eq_true_eq]; exact ⟨hok.out, hg1, hg2⟩)⟩
          case measure => simp [intOf]; omega
        · have hno : ¬ okN xs n = true := fun h => hg (okN_at xs n h k hlt)
          have W := hidp (show wtsE xs n = 1 by unfold wtsE; rw [if_neg h40, if_neg hno])
          have V := hidp (show wtsV xs n = 0 by unfold wtsV; rw [W.out]; rfl)
          clear hno
          by_cases hg1 : gi xs k < 0
          · clear hg
            go_wp2_with fail
            go_ret2
            exact ⟨by rw [W.out, V.out]; rfl, rfl⟩
          · have hg2 : 1000000000000 < gi xs k := by omega
            have hg3 : 0 ≤ gi xs k := by omega
            clear hg hg1
            go_wp2_with fail
            go_ret2
            exact ⟨by rw [W.out, V.out]; rfl, rfl⟩
      · obtain rfl : k = n := by omega
        by_cases hs : sumK xs k = 0
        · have W := hidp (show wtsE xs k = 6 by unfold wtsE; rw [if_neg h40, if_pos hok.out, if_pos hs])
          have V := hidp (show wtsV xs k = 0 by unfold wtsV; rw [W.out]; rfl)
          have hs' : (sumK xs k == 0) = true := by rw [hs]; rfl
          clear hs
          go_wp2_with fail
          go_ret2
          exact ⟨by rw [W.out, V.out]; rfl, rfl⟩
        · have W := hidp (show wtsE xs k = 0 by unfold wtsE; rw [if_neg h40, if_pos hok.out, if_neg hs])
          have V := hidp (show wtsV xs k = sumK xs k by unfold wtsV; rw [W.out]; rfl)
          have hs' : (sumK xs k == 0) = false := by rw [beq_eq_false_iff_ne]; exact hs
          clear hs
          go_wp2_with fail
          go_ret2
          exact ⟨by rw [W.out, V.out]; rfl, rfl⟩
set_option maxHeartbeats 2000000 in
theorem sums_c (a : Option Addr) (n c : Nat) (xs : List Int) (w : World) (h : IntsAt w a n c xs) (hn : n ≤ 40) (hok : okN xs n = true) :
    Calls Tryz.prog 104 #[.slice a n c] w fun e w' => ∃ v, e = .returned v ∧ w'.ownsRow w.heap.size 3 1 v n ((tab (fun i => sumK xs (i + 1)) n).map (Value.int .i64)) ∧ Below w.heap.size w w' := by
  obtain ⟨ib, hib, hz0, hz1, hz2⟩ := info_parts info_int
  obtain ⟨b, o, hz, hx⟩ := h.split
  have hz' : Hid (n = 0) ∨ a = some ⟨b, o, none⟩ := hz.imp_left hidp
  have HX := hidp hx
  have mm := h.max
  have ee := h.le
  have OK := hidp hok
  clear hx hz h hok
  go_enter Tryz.func104, Tryz.ntmps104
  go_wp2_with (at_make; refine wpList_make_full w rfl _ _ 37 rfl w.heap.size 3 ib (.int .i64 0) 1 Tryz.underlying37 hib hz0 hz1 .i64 .i64 n n n rfl rfl rfl rfl (by rw [hz2]; omega) (by unfold maxLen; omega) (Nat.le_refl _) ?_; intro wb how hgr)
  have hbb : Below w.heap.size w wb := below_new hgr
  have e0 : (madeCells (Value.int .i64 0).cells (n * 1)).toList = tab (fun j => Value.int .i64 (if j < 0 then sumK xs (j + 1) else 0)) n := by
    show (madeCells #[Value.int .i64 0] (n * 1)).toList = _
    rw [made_tab]
    exact tab_congr _ _ _ (fun i _ => by rw [if_neg (by omega)])
  rw [e0] at how
  clear e0 hgr
  generalize hgg : w.heap.size = g at *
  have HG := hidp hgg
  have HXB := hidp (fun (wr : World) (hb : Below g w wr) k (hk : k < n) => show wr.cell? ⟨b, o + k, none⟩ = some (.int .i64 (gi xs k)) from carry_cell ⟨by rw [hgg]; exact (HX.out k hk).1, (HX.out k hk).2⟩ (by rw [hgg]; exact hb))
  clear hgg
  go_loopw [4, 12] (fun s i wr => ∃ k : Nat, k ≤ n ∧ i = .int .i64 k ∧ s = .int .i64 (sumK xs k) ∧ wr.ownsRow g 3 1 (.slice (some ⟨g, 0, none⟩) n n) n (tab (fun j => Value.int .i64 (if j < k then sumK xs (j + 1) else 0)) n) ∧ Below g w wr) (fun _ i _ => n - (intOf i).toNat)
  case atStart => exact ⟨0, by omega, rfl, rfl, how, hbb⟩
  case round =>
    obtain ⟨k, hk, rfl, rfl, ho, hbl⟩ := hrel
    obtain ⟨s1, s2⟩ := sumK_ok xs k (okN_down xs n k OK.out hk)
    by_cases hlt : k < n
    · obtain rfl : a = some ⟨b, o, none⟩ := hz'.resolve_left (fun e => by have := e.out; omega)
      have q := HXB.out wr hbl k hlt
      obtain ⟨q1, q2⟩ := okN_at xs n OK.out k hlt
      have q3 := ho.frozenAt k
      have q4 := ho.cellAt k (by omega)
      rw [tab_get _ _ _ hlt] at q4
      have E := hidp (show sumK xs (k + 1) = sumK xs k + gi xs k from rfl)
      go_wp2_with fail
      go_roundw
      case rel =>
        have st := own_store_tab ho k (.int .i64 (sumK xs k + gi xs k))
        refine ⟨k + 1, by omega, by go_num, by rw [E.out], ?_, hbl.setCell (p := ⟨g, k, none⟩) (Nat.le_refl _) _⟩
        rw [tab_congr _ (fun j => if j = k then Value.int .i64 (sumK xs k + gi xs k) else Value.int .i64 (if j < k then sumK xs (j + 1) else 0)) n (fun j _ => by
          by_cases e : j = k
          · rw [if_pos e, if_pos (by omega), e, E.out]
          · rw [if_neg e]
            by_cases e2 : j < k
            · rw [if_pos e2, if_pos (by omega)]
            · rw [if_neg e2, if_neg (by omega)])]
        exact st
      case measure => simp [intOf]; omega
    · obtain rfl : k = n := by omega
      go_wp2
      go_ret
      rw [HG.out]
      refine ⟨_, rfl, ?_, hbl⟩
      rw [tab_map, tab_congr (fun j => Value.int .i64 (sumK xs (j + 1))) (fun j => Value.int .i64 (if j < k then sumK xs (j + 1) else 0)) k (fun j hj => by rw [if_pos hj])]
      exact ho
end Go.Proofs.YtgodgfnfaiiohaaGreatDoor
