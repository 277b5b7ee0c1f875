/- Contracts of few.find (slices.BinarySearchFunc at counters) and of slices.MinFunc at counters, at the closures that few hands in. -/
import Derived.Test.YtffocoflmbhknaaFewMath
import Derived.Deep.LoopGhost
import Derived.Deep.QuietTactic
import Derived.BigQuiet
import Derived.Shelf.Abstract
namespace Go.Proofs.Ytffocoflmbhknaa
open Go.ChangeShapes Go.WideShapes Go.ChangeAt Go.RowKit
set_option maxRecDepth 20000
theorem findf_c (y n k : Int) (w : World) :
    Calls Try.prog 52 #[.agg #[.int .i64 y, .int .i64 n], .int .i64 k] w fun e w' => e = .returned (.int .i64 (if y < k then -1 else if k < y then 1 else 0)) ∧ Below w.heap.size w w' := by
  have hb : Below w.heap.size w (w.alloc (.cells #[.int .i64 y, .int .i64 n] 36)) := bal (Below.refl _ _) _
  by_cases h1 : y < k
  · rw [if_pos h1]
    go_enter Try.func52, Try.ntmps52
    go_wp2
    go_ret
    exact ⟨rfl, hb⟩
  · rw [if_neg h1]
    by_cases h2 : k < y
    · rw [if_pos h2]
      go_enter Try.func52, Try.ntmps52
      go_wp2
      go_ret
      exact ⟨rfl, hb⟩
    · rw [if_neg h2]
      go_enter Try.func52, Try.ntmps52
      go_wp2
      go_ret
      exact ⟨rfl, hb⟩
theorem kpos_eq (k : Int) : ∀ (L : List (Int × Int)) (i : Nat), i ≤ L.length → (∀ t, t < i → ckey L t < k) → (∀ t, i ≤ t → t < L.length → k ≤ ckey L t) → kpos L k = i
  | [], i, h, _, _ => by simp at h; rw [h]; rfl
  | p :: l, 0, _, _, h2 => by
    refine kpos_none k _ (fun q hq => ?_)
    obtain ⟨t, ht, e⟩ := List.getElem_of_mem hq
    have := h2 t (Nat.zero_le _) ht
    unfold ckey at this
    rw [List.getD_eq_getElem?_getD, List.getElem?_eq_getElem ht] at this
    rw [← e]; exact this
  | p :: l, i + 1, h, h1, h2 => by
    rw [kpos_cons p l k (h1 0 (by omega)), kpos_eq k l i (by simpa using h) (fun t ht => h1 (t + 1) (by omega)) (fun t h3 h4 => h2 (t + 1) (by omega) (by simpa using h4))]
theorem ckey_rise (L : List (Int × Int)) (h : KRise L) (i j : Nat) (hij : i ≤ j) (hj : j < L.length) : ckey L i ≤ ckey L j := by
  rcases Nat.eq_or_lt_of_le hij with e | e
  · rw [e]; exact Int.le_refl _
  · have := List.pairwise_iff_getElem.1 h i j (by omega) hj e
    have e1 : ckey L i = L[i].1 := by unfold ckey; rw [List.getD_eq_getElem?_getD, List.getElem?_eq_getElem (by omega)]; rfl
    have e2 : ckey L j = L[j].1 := by unfold ckey; rw [List.getD_eq_getElem?_getD, List.getElem?_eq_getElem hj]; rfl
    rw [e1, e2]; omega
set_option maxHeartbeats 4000000 in
theorem bsf_c (a : Option Addr) (n c : Nat) (L : List (Int × Int)) (k : Int) (w : World) (h : CntAt w a n c L) (hr : KRise L) (hn : n ≤ 1000) :
    Calls Try.prog 51 #[.slice a n c, .int .i64 k, .func (.func 52) #[] #[]] w fun e w' => e = .returned (.tuple #[.int .i64 (kpos L k : Nat), .bool (khas L k)]) ∧ Below w.heap.size w w' := by
  obtain ⟨b, o, hz, hx⟩ := h.split
  have hz' : Hid (n = 0) ∨ a = some ⟨b, o, none⟩ := hz.imp_left hidp
  have HX := hidp hx
  have mm := h.max
  have ee := h.le
  have LN := hidp h.len
  have RI := hidp (fun i j (hij : i ≤ j) (hj : j < n) => ckey_rise L hr i j hij (by rw [LN.out]; exact hj))
  have FF := hidp (fun y n W => findf_c y n k W)
  clear hx hz h hr
  go_enter Try.func51, Try.ntmps51
  go_wp2
  go_loopg [9, 10] n (fun gg s9 s10 wr => ∃ lo hi : Nat, s9 = .int .i64 lo ∧ s10 = .int .i64 hi ∧ lo ≤ hi ∧ hi ≤ n ∧ hi - lo ≤ gg ∧ Below w.heap.size w wr ∧ Hid ((∀ t, t < lo → ckey L t < k) ∧ (∀ t, hi ≤ t → t < n → k ≤ ckey L t)))
  case atStart => exact ⟨0, n, rfl, rfl, Nat.zero_le _, Nat.le_refl _, by omega, Below.refl _ _, hidp ⟨fun t ht => absurd ht (Nat.not_lt_zero _), fun t h1 h2 => by omega⟩⟩
  case round =>
    obtain ⟨lo, hi, rfl, rfl, hlh, hin, hg, hbl, I⟩ := hrel
    by_cases hlt : lo < hi
    · obtain rfl : a = some ⟨b, o, none⟩ := hz'.resolve_left (fun e => by have := e.out; omega)
      obtain ⟨hbs, hc1, hc2⟩ := HX.out ((lo + hi) / 2) (by omega)
      have q0 := carry_cell ⟨hbs, hc1⟩ hbl
      have q1 := carry_cell ⟨hbs, hc2⟩ hbl
      clear hc1 hc2
      have KY := hidp (rfl : ckey L ((lo + hi) / 2) = ckey L ((lo + hi) / 2))
      obtain ⟨y, hy⟩ : ∃ y, y = ckey L ((lo + hi) / 2) := ⟨_, rfl⟩
      rw [← hy] at q0
      have HY := hidp hy
      clear hy KY
      generalize cnum L ((lo + hi) / 2) = nu at *
      have hc := FF.out y nu wr
      by_cases hyx : y < k
      · rw [if_pos hyx] at hc
        have HC := hidp hc
        clear hc
        go_wp2_with fail
        refine HC.out.mono ?_
        rintro e w' ⟨rfl, hb1⟩
        go_wp2
        go_roundg (hi - ((lo + hi) / 2 + 1))
        case measure => omega
        case rel =>
          refine ⟨(lo + hi) / 2 + 1, hi, by rw [show ((lo : Int) + (hi : Int)) / 2 + 1 = (((lo + hi) / 2 + 1 : Nat) : Int) by omega], rfl, by omega, hin, Nat.le_refl _, bstep hbl hb1, hidp ⟨fun t ht => ?_, I.out.2⟩⟩
          have := RI.out t ((lo + hi) / 2) (by omega) (by omega)
          rw [← HY.out] at this; omega
      · have hc' : Calls Try.prog 52 #[.agg #[.int .i64 y, .int .i64 nu], .int .i64 k] wr fun e w' => (∃ r : Int, 0 ≤ r ∧ e = .returned (.int .i64 r)) ∧ Below wr.heap.size wr w' := by
          refine hc.mono ?_
          rintro e w' ⟨rfl, hb⟩
          refine ⟨⟨_, ?_, rfl⟩, hb⟩
          rw [if_neg hyx]; split <;> omega
        have HC := hidp hc'
        clear hc hc'
        go_wp2_with fail
        refine HC.out.mono ?_
        rintro e w' ⟨⟨r, hr0, rfl⟩, hb1⟩
        go_wp2
        go_roundg ((lo + hi) / 2 - lo)
        case measure => omega
        case rel =>
          refine ⟨lo, (lo + hi) / 2, rfl, by rw [show ((lo : Int) + (hi : Int)) / 2 = (((lo + hi) / 2 : Nat) : Int) by omega], by omega, by omega, Nat.le_refl _, bstep hbl hb1, hidp ⟨I.out.1, fun t ht htn => ?_⟩⟩
          have := RI.out ((lo + hi) / 2) t ht htn
          rw [← HY.out] at this; omega
    · obtain rfl : hi = lo := by omega
      have hkp := kpos_eq k L hi (by rw [LN.out]; exact hin) I.out.1 (fun t h3 h4 => I.out.2 t h3 (by rw [← LN.out]; exact h4))
      have hkh : khas L k = (decide (hi < n) && decide (ckey L hi = k)) := by unfold khas; rw [hkp, LN.out]
      replace hkp := hidp hkp
      replace hkh := hidp hkh
      have I2 := I.out.2 hi (Nat.le_refl _)
      clear I
      by_cases hn' : hi < n
      · obtain rfl : a = some ⟨b, o, none⟩ := hz'.resolve_left (fun e => by have := e.out; omega)
        obtain ⟨hbs, hc1, hc2⟩ := HX.out hi hn'
        have q0 := carry_cell ⟨hbs, hc1⟩ hbl
        have q1 := carry_cell ⟨hbs, hc2⟩ hbl
        clear hc1 hc2
        have hky := I2 hn'
        clear I2
        generalize ckey L hi = y at *
        generalize cnum L hi = nu at *
        have hc := FF.out y nu wr
        rw [if_neg (show ¬ y < k by omega)] at hc
        by_cases hyx : k < y
        · rw [if_pos hyx] at hc
          have HC := hidp hc
          clear hc
          have KH := hidp (show khas L k = false by rw [hkh.out, decide_eq_false (show ¬ y = k by omega)]; simp)
          go_wp2_with fail
          refine HC.out.mono ?_
          rintro e w' ⟨rfl, hb1⟩
          go_wp2
          go_ret2
          exact ⟨by rw [hkp.out, KH.out]; rfl, bstep hbl hb1⟩
        · rw [if_neg hyx] at hc
          have HC := hidp hc
          clear hc
          have KH := hidp (show khas L k = true by rw [hkh.out, decide_eq_true hn', decide_eq_true (show y = k by omega)]; rfl)
          go_wp2_with fail
          refine HC.out.mono ?_
          rintro e w' ⟨rfl, hb1⟩
          go_wp2
          go_ret2
          exact ⟨by rw [hkp.out, KH.out]; rfl, bstep hbl hb1⟩
      · have KH := hidp (show khas L k = false by rw [hkh.out, decide_eq_false hn']; simp)
        go_wp2
        go_ret2
        exact ⟨by rw [hkp.out, KH.out]; rfl, hbl⟩
theorem find_c (a : Option Addr) (n c : Nat) (L : List (Int × Int)) (k : Int) (w : World) (h : CntAt w a n c L) (hr : KRise L) (hn : n ≤ 1000) :
    Calls Try.prog 45 #[.slice a n c, .int .i64 k] w fun e w' => e = .returned (.tuple #[.int .i64 (kpos L k : Nat), .bool (khas L k)]) ∧ Below w.heap.size w w' := by
  have HC := hidp (bsf_c a n c L k w h hr hn)
  clear h hr
  go_enter Try.func45, Try.ntmps45
  go_wp2_with fail
  refine HC.out.mono ?_
  rintro e w' ⟨rfl, hb⟩
  go_wp2_with fail
  go_ret2
  exact ⟨rfl, hb⟩
theorem minf_c (y1 n1 y2 n2 : Int) (w : World) (h1 : 0 ≤ n1 ∧ n1 ≤ 4611686018427387904) (h2 : 0 ≤ n2 ∧ n2 ≤ 4611686018427387904) :
    Calls Try.prog 31 #[.agg #[.int .i64 y1, .int .i64 n1], .agg #[.int .i64 y2, .int .i64 n2]] w fun e w' => e = .returned (.int .i64 (n1 - n2)) ∧ Below w.heap.size w w' := by
  have hb : Below w.heap.size w ((w.alloc (.cells #[.int .i64 y1, .int .i64 n1] 36)).alloc (.cells #[.int .i64 y2, .int .i64 n2] 36)) := bal (bal (Below.refl _ _) _) _
  have hw := hidp (show IntKind.i64.wrap (n1 - n2) = n1 - n2 from IntWalk.i64_in _ (by omega))
  go_enter Try.func31, Try.ntmps31
  go_wp2
  go_ret
  exact ⟨ret_int (by first | rfl | exact hw.out), hb⟩
end Go.Proofs.Ytffocoflmbhknaa
