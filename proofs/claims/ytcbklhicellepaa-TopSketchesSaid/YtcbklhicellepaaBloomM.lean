/- Merged: BloomL, EqB, BloomSame. -/
import Derived.Test.YtcbklhicellepaaBloom
import Derived.Lib.MinMax
import Derived.Deep.RegionWith
import Derived.Deep.OwnRows
import Derived.Test.YtcbklhicellepaaMem
import Derived.Deep.QuietTactic
import Derived.BigQuiet
import Derived.WalkSmall
/- Contracts of the laws' own helpers on filters: empty and put; and of bloom.Put and Join where they give an error. -/
namespace Go.Proofs.Ytcbklhicellepaa
open Go.ChangeShapes Go.WideShapes Go.ChangeAt Go.RowKit
set_option maxRecDepth 20000

def esz (size : Int) : Nat := 1 + wn size 256
def ewy (ways : Int) : Nat := 1 + wn ways 8
theorem esz_bd (s : Int) : 1 ≤ esz s ∧ esz s ≤ 256 := by have := wn_lt s 256 (by omega); unfold esz; omega
theorem ewy_bd (s : Int) : 1 ≤ ewy s ∧ ewy s ≤ 8 := by have := wn_lt s 8 (by omega); unfold ewy; omega
theorem own_madeB (w : World) (B H : Nat) (n : Nat) (hH : w.heap.size = H) (hB : B ≤ H) (hn : n ≤ 1000) : (w.alloc (.cells (madeCells #[.bool false] n) 4)).ownsRow B 4 1 (.slice (some ⟨H, 0, none⟩) n n) n (tab (fun _ => Value.bool false) n) := by
  subst hH
  refine ⟨by rw [tab_len, Nat.mul_one], .inr ⟨w.heap.size, n, madeCells #[.bool false] n, rfl, hB, heap_alloc_new w _, Nat.le_refl _, by unfold maxLen; omega, by rw [size_madeCells]; simp, ?_⟩⟩
  have h := made_tab (.bool false) n
  rw [Nat.mul_one] at h
  rw [h, List.take_of_length_le (by rw [tab_len]; omega)]

/-- The bits when the first k keys were put. -/
def pf (sz wy : Nat) (f : Nat → Bool) (xs : List Int) : Nat → Nat → Bool
  | 0, j => f j
  | k + 1, j => pf sz wy f xs k j || hitP (plc sz (gi xs k)) wy j
theorem pf_iff (sz wy : Nat) (f : Nat → Bool) (xs : List Int) (k j : Nat) : pf sz wy f xs k j = true ↔ f j = true ∨ ∃ i, i < k ∧ hitP (plc sz (gi xs i)) wy j = true := by
  induction k with
  | zero => simp [pf]
  | succ k ih =>
    simp only [pf, Bool.or_eq_true, ih]
    constructor
    · rintro ((h | ⟨i, h1, h2⟩) | h)
      · exact .inl h
      · exact .inr ⟨i, by omega, h2⟩
      · exact .inr ⟨k, by omega, h⟩
    · rintro (h | ⟨i, h1, h2⟩)
      · exact .inl (.inl h)
      · by_cases e : i = k
        · exact .inr (by rw [← e]; exact h2)
        · exact .inl (.inr ⟨i, by omega, h2⟩)
theorem tab_gbs (bs : List Bool) (n : Nat) (h : bs.length = n) : tab (gb bs) n = bs := by
  apply List.ext_getElem?
  intro i
  by_cases hi : i < n
  · rw [tab_get _ _ _ hi, List.getElem?_eq_getElem (by omega)]
    simp [gb, List.getD_eq_getElem?_getD, List.getElem?_eq_getElem (show i < bs.length by omega)]
  · rw [List.getElem?_eq_none (by rw [tab_len]; omega), List.getElem?_eq_none (by omega)]
/-- What stands in memory while keys are put. -/
structure PutS (P sz wy : Nat) (g : Option Addr) (cv : Nat) (W : World) : Prop where
  lt : P + 1 < W.heap.size
  c0 : W.cell? ⟨P, 0, none⟩ = some (.int .i64 (sz : Nat))
  c1 : W.cell? ⟨P, 1, none⟩ = some (.int .i64 (wy : Nat))
  c2 : W.cell? ⟨P, 2, none⟩ = some (.slice g sz cv)
  r0 : ∃ v, W.cell? ⟨P + 1, 0, none⟩ = some v
  r1 : ∃ v, W.cell? ⟨P + 1, 1, none⟩ = some v
  r2 : ∃ v, W.cell? ⟨P + 1, 2, none⟩ = some v
  fp : ∀ o, W.frozen? ⟨P, o, none⟩ = false
  fr : ∀ o, W.frozen? ⟨P + 1, o, none⟩ = false
theorem PutS.below {P sz wy : Nat} {g : Option Addr} {cv : Nat} {W W' : World} (h : PutS P sz wy g cv W) (hb : Below W.heap.size W W') : PutS P sz wy g cv W' := by
  obtain ⟨lt, c0, c1, c2, ⟨v0, r0⟩, ⟨v1, r1⟩, ⟨v2, r2⟩, fp, fr⟩ := h
  exact ⟨Nat.lt_of_lt_of_le lt hb.size, ck hb c0, ck hb c1, ck hb c2, ⟨v0, ck hb r0⟩, ⟨v1, ck hb r1⟩, ⟨v2, ck hb r2⟩, fun o => (hb.frozen (p := ⟨P, o, none⟩) (by show P < _; omega)).trans (fp o), fun o => (hb.frozen (p := ⟨P + 1, o, none⟩) lt).trans (fr o)⟩
theorem PutS.set {P sz wy : Nat} {g : Option Addr} {cv : Nat} {W : World} (h : PutS P sz wy g cv W) (g' : Option Addr) (cv' : Nat) : PutS P sz wy g' cv' (((W.setCell ⟨P, 0, none⟩ (.int .i64 (sz : Nat))).setCell ⟨P, 1, none⟩ (.int .i64 (wy : Nat))).setCell ⟨P, 2, none⟩ (.slice g' sz cv')) := by
  obtain ⟨lt, c0, c1, c2, ⟨v0, r0⟩, ⟨v1, r1⟩, ⟨v2, r2⟩, fp, fr⟩ := h
  exact ⟨by simpa using lt, by go_simp, by go_simp, by go_simp, ⟨v0, cell_off (cell_off (cell_off r0 (by omega)) (by omega)) (by omega)⟩, ⟨v1, cell_off (cell_off (cell_off r1 (by omega)) (by omega)) (by omega)⟩, ⟨v2, cell_off (cell_off (cell_off r2 (by omega)) (by omega)) (by omega)⟩, fun o => by rw [← fp o]; simp, fun o => by rw [← fr o]; simp⟩
theorem BoolsAt.setCell {W : World} {a : Option Addr} {n c : Nat} {bs : List Bool} (h : BoolsAt W a n c bs) (P k : Nat) (u : Value) (hne : ∀ b o, a = some ⟨b, o, none⟩ → b ≠ P) : BoolsAt (W.setCell ⟨P, k, none⟩ u) a n c bs := by
  refine ⟨h.len, h.le, h.max, fun hn => ?_⟩
  obtain ⟨b, o, rfl, hb, hc⟩ := h.cells hn
  exact ⟨b, o, rfl, by simpa using hb, fun i hi => cell_off (hc i hi) (hne b o rfl)⟩

end Go.Proofs.Ytcbklhicellepaa

/- Contract of slices.Equal at truth values: whether two lists are the same. -/
namespace Go.Proofs.Ytcbklhicellepaa
open Go.ChangeShapes Go.WideShapes Go.ChangeAt Go.RowKit
set_option maxRecDepth 20000

theorem gb_ext (xs ys : List Bool) (h : xs.length = ys.length) (hg : ∀ j, j < xs.length → gb xs j = gb ys j) : xs = ys := by
  apply List.ext_getElem h
  intro i h1 h2
  have := hg i h1
  unfold gb at this
  rw [List.getD_eq_getElem?_getD, List.getD_eq_getElem?_getD, List.getElem?_eq_getElem h1, List.getElem?_eq_getElem h2] at this
  exact this

theorem equalb_c (a1 a2 : Option Addr) (n m c1 c2 : Nat) (xs ys : List Bool) (w : World) (h1 : BoolsAt w a1 n c1 xs) (h2 : BoolsAt w a2 m c2 ys) :
    Calls Try.prog 51 #[.slice a1 n c1, .slice a2 m c2] w fun e w' => e = .returned (.bool (decide (xs = ys))) ∧ Below w.heap.size w w' := by
  have l1 := h1.len
  have l2 := h2.len
  have m1 := h1.max
  have m2 := h2.max
  have e1 := h1.le
  have e2 := h2.le
  by_cases hnm : n = m
  · subst hnm
    rcases Nat.eq_zero_or_pos n with hz | hz
    · subst hz
      have hd : decide (xs = ys) = true := by
        rw [List.eq_nil_of_length_eq_zero l1, List.eq_nil_of_length_eq_zero l2]; rfl
      have HD := hidp hd
      clear h1 h2 l1 l2 hd
      go_enter Try.func51, Try.ntmps51
      go_wp2_with fail
      refine wp_loop_rounds 1 ?_; rw [rounds_succ]
      go_wp2
      go_ret
      exact ⟨ret_bool HD.out.symm, Below.refl _ _⟩
    · obtain ⟨b1, o1, rfl, hb1, hc1⟩ := h1.cells hz
      obtain ⟨b2, o2, rfl, hb2, hc2⟩ := h2.cells hz
      have C1 := hidp hc1
      have C2 := hidp hc2
      have L1 := hidp l1
      have L2 := hidp l2
      clear hc1 hc2 h1 h2 l1 l2
      go_enter Try.func51, Try.ntmps51
      go_wp2_with fail
      go_loopw [13] (fun i wr => ∃ k : Nat, k ≤ n ∧ i = .int .i64 k ∧ Hid (∀ j, j < k → gb xs j = gb ys j) ∧ Below w.heap.size w wr) (fun i _ => n - (intOf i).toNat)
      case atStart => exact ⟨0, by omega, rfl, fun j hj => by omega, Below.refl _ _⟩
      case round =>
        obtain ⟨k, hk, rfl, hsame, hbl⟩ := hrel
        by_cases hlt : k < n
        · have q1 := carry_cell ⟨hb1, C1.out k hlt⟩ hbl
          have q2 := carry_cell ⟨hb2, C2.out k hlt⟩ hbl
          by_cases hxy : gb xs k = gb ys k
          · have hB : (!gb xs k == gb ys k) = false := by rw [hxy]; simp
            have HXY := hidp hxy
            clear hxy
            go_wp2_with fail
            go_quiet (fail)
            go_wp2
            go_roundw
            case rel => exact ⟨k + 1, by omega, by go_num, fun j hj => by
              by_cases h : j < k
              · exact hsame.out j h
              · obtain rfl : j = k := by omega
                exact HXY.out, below_drewN hbl _⟩
            case measure => simp [intOf]; omega
          · have hB : (!gb xs k == gb ys k) = true := by simp [hxy]
            have hd : decide (xs = ys) = false := decide_eq_false (fun e => hxy (by rw [e]))
            have HD := hidp hd
            clear hxy hd
            go_wp2_with fail
            go_quiet (fail)
            go_wp2
            go_ret
            exact ⟨ret_bool HD.out.symm, below_drewN hbl _⟩
        · obtain rfl : k = n := by omega
          have hd : decide (xs = ys) = true := decide_eq_true (gb_ext xs ys (by rw [L1.out, L2.out]) (fun j hj => hsame.out j (by rw [L1.out] at hj; exact hj)))
          have HD := hidp hd
          clear hd
          go_wp2
          go_ret
          exact ⟨ret_bool HD.out.symm, hbl⟩
  · have hd : decide (xs = ys) = false := decide_eq_false (fun e => hnm (by rw [← l1, ← l2, e]))
    have HD := hidp hd
    have hne : ((n : Int) != (m : Int)) = true := by rw [bne_iff_ne]; omega
    clear h1 h2 l1 l2 hd
    go_enter Try.func51, Try.ntmps51
    go_wp2
    go_ret
    exact ⟨ret_bool HD.out.symm, Below.refl _ _⟩
end Go.Proofs.Ytcbklhicellepaa

/- Contract of culref.SameFilter at filters of the same bits. -/
namespace Go.Proofs.Ytcbklhicellepaa
open Go.ChangeShapes Go.WideShapes Go.ChangeAt Go.RowKit
set_option maxRecDepth 20000
set_option maxHeartbeats 2000000 in
theorem samef_c (sz wy : Nat) (a a' : Option Addr) (c c' : Nat) (bs : List Bool) (w : World) (h : BoolsAt w a sz c bs) (h' : BoolsAt w a' sz c' bs) :
    Calls Try.prog 22 #[.agg #[.int .i64 (sz : Nat), .int .i64 (wy : Nat), .slice a sz c], .agg #[.int .i64 (sz : Nat), .int .i64 (wy : Nat), .slice a' sz c']] w fun e w' => e = .returned (.bool true) ∧ Below w.heap.size w w' := by
  have hb0 : Below w.heap.size w ((w.alloc (.cells #[.int .i64 (sz : Nat), .int .i64 (wy : Nat), .slice a sz c] 33)).alloc (.cells #[.int .i64 (sz : Nat), .int .i64 (wy : Nat), .slice a' sz c'] 33)) := bal (bal (Below.refl _ _) _) _
  have H := hidp (h.below hb0)
  have H' := hidp (h'.below hb0)
  have HB := hidp hb0
  have es : ((sz : Int) == (sz : Int)) = true := by simp
  have ew : ((wy : Int) == (wy : Int)) = true := by simp
  clear h h' hb0
  go_enter Try.func22, Try.ntmps22
  go_wp2_with fail
  refine (equalb_c _ _ _ _ _ _ bs bs _ H.out H'.out).mono ?_
  rintro e wa ⟨rfl, hba⟩
  rw [decide_eq_true rfl]
  have hwa := bstep HB.out hba
  clear hba
  go_wp2_with fail
  go_ret
  exact ⟨rfl, hwa⟩
end Go.Proofs.Ytcbklhicellepaa
