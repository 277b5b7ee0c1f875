/- Merged: Lev, Span. -/
import Derived.Test.YtdfghgeccannnaaDoorBase
import Derived.Test.YtdfghgeccannnaaDoorMem
import Derived.Deep.QuietTactic
import Derived.BigQuiet
import Derived.WalkSmall
/- The threshold of a level, as a number (plain Lean). -/
namespace Go.Proofs.YtdfghgeccannnaaDoor

def lev (n : Nat) : Int := 72057594037927936 - 72057594037927936 / 2 ^ n
theorem lev_nat (n : Nat) : lev n = 72057594037927936 - ((72057594037927936 / 2 ^ n : Nat) : Int) := by
  unfold lev; rw [Int.natCast_ediv, Int.natCast_pow]; rfl
theorem lev_lo (n : Nat) : 0 ≤ lev n := by
  unfold lev
  have : (72057594037927936 : Int) / 2 ^ n ≤ 72057594037927936 := Int.ediv_le_self _ (by omega)
  omega
theorem lev_hi (n : Nat) : lev n ≤ 72057594037927936 := by
  unfold lev
  have : 0 ≤ (72057594037927936 : Int) / 2 ^ n := Int.ediv_nonneg (by omega) (Int.le_of_lt (Int.pow_pos (by omega)))
  omega
end Go.Proofs.YtdfghgeccannnaaDoor

/- Contracts of package span at spans that may be: what each call returns, and that old memory stays as it is. -/
namespace Go.Proofs.YtdfghgeccannnaaDoor
open Go.ChangeShapes Go.WideShapes Go.ChangeAt Go.RowKit
set_option maxRecDepth 20000

/-- A slice of spans: the places of their parents are us, their levels ls. -/
structure SpansAt (w : World) (a : Option Addr) (n cap : Nat) (us ls : List Int) : Prop where
  lu : us.length = n
  ll : ls.length = n
  le : n ≤ cap
  max : cap ≤ 9223372036854775807
  cells : 0 < n → ∃ b off, a = some ⟨b, off, none⟩ ∧ b < w.heap.size ∧ ∀ i, i < n → w.cell? ⟨b, off + i * 2, none⟩ = some (.int .i64 (gi us i)) ∧ w.cell? ⟨b, off + i * 2 + 1, none⟩ = some (.int .i64 (gi ls i))
theorem SpansAt.below {w w' : World} {a : Option Addr} {n cap : Nat} {us ls : List Int} (h : SpansAt w a n cap us ls) (hb : Below w.heap.size w w') : SpansAt w' a n cap us ls := by
  refine ⟨h.lu, h.ll, h.le, h.max, fun hn => ?_⟩
  obtain ⟨b, off, rfl, hlt, hc⟩ := h.cells hn
  exact ⟨b, off, rfl, Nat.lt_of_lt_of_le hlt hb.size, fun i hi => ⟨(hb.cell (p := ⟨b, off + i * 2, none⟩) hlt).trans (hc i hi).1, (hb.cell (p := ⟨b, off + i * 2 + 1, none⟩) hlt).trans (hc i hi).2⟩⟩
/-- Spans that may be. -/
def SpansOk (n : Nat) (us ls : List Int) : Prop := ∀ i, i < n → -1 ≤ gi us i ∧ gi us i < i ∧ 0 ≤ gi ls i ∧ gi ls i ≤ 20

set_option maxHeartbeats 400000 in
theorem scheck_c (a : Option Addr) (n c : Nat) (us ls : List Int) (w : World) (h : SpansAt w a n c us ls) (hn : n ≤ 40) (hok : SpansOk n us ls) :
    Calls Tryd.prog 42 #[.slice a n c] w fun e w' => e = .returned (.int .i64 0) ∧ Below w.heap.size w w' := by
  have OK := hidp hok
  clear hok
  rcases Nat.eq_zero_or_pos n with hz | hz
  · subst hz
    go_enter Tryd.func42, Tryd.ntmps42
    go_wp2_with fail
    refine wp_loop_rounds 1 ?_; rw [rounds_succ]
    go_wp2
    go_ret
    exact ⟨rfl, Below.refl _ _⟩
  · obtain ⟨b, o, rfl, hb, hc⟩ := h.cells hz
    have C := hidp hc
    clear hc h
    go_enter Tryd.func42, Tryd.ntmps42
    go_wp2_with fail
    go_loopw [10] (fun i wr => ∃ k : Nat, k ≤ n ∧ i = .int .i64 k ∧ Below w.heap.size w wr) (fun i _ => n - (intOf i).toNat)
    case atStart => exact ⟨0, by omega, rfl, Below.refl _ _⟩
    case round =>
      obtain ⟨k, hk, rfl, hbl⟩ := hrel
      by_cases hlt : k < n
      · have q0 := carry_cell ⟨hb, (C.out k hlt).1⟩ hbl
        have q1 := carry_cell ⟨hb, (C.out k hlt).2⟩ hbl
        obtain ⟨p1, p2, p3, p4⟩ := OK.out k hlt
        go_wp2
        go_roundw
        case rel => exact ⟨k + 1, by omega, by go_num, hbl.alloc hbl.size _⟩
        case measure => simp [intOf]; omega
      · go_wp2
        go_ret
        exact ⟨rfl, hbl⟩

/-- Which are kept. -/
def kb (ls : List Int) (r : Int) (i : Nat) : Bool := decide (lev (gi ls i).toNat ≤ r)

set_option maxRecDepth 20000 in
set_option maxHeartbeats 1000000 in
theorem kept_c (a : Option Addr) (n c : Nat) (us ls : List Int) (r : Int) (w : World) (h : SpansAt w a n c us ls) (hn : n ≤ 40) (hok : SpansOk n us ls) (h1 : 0 ≤ r) (h2 : r < 72057594037927936) :
    Calls Tryd.prog 15 #[.slice a n c, .int .i64 r] w fun e w' => ∃ v, e = .returned (.tuple #[v, .int .i64 0]) ∧ w'.ownsRow w.heap.size 4 1 v n ((tab (kb ls r) n).map Value.bool) ∧ Below w.heap.size w w' := by
  obtain ⟨ib, hib, hz0, hz1, hz2⟩ := info_parts info_bool
  have CH := hidp (scheck_c a n c us ls w h hn hok)
  have OK := hidp hok
  clear hok
  rcases Nat.eq_zero_or_pos n with hz | hz
  · subst hz
    clear h
    go_enter Tryd.func15, Tryd.ntmps15
    go_wp2_with fail
    refine CH.out.mono ?_
    rintro e wa ⟨rfl, hba⟩
    go_wp2_with (at_make; refine wpList_make_full wa rfl _ _ 40 rfl w.heap.size 4 ib (.bool false) 1 Tryd.underlying40 hib hz0 hz1 .i64 .i64 0 0 0 rfl rfl rfl rfl (by rw [hz2]; omega) (by unfold maxLen; omega) hba.size ?_; intro wb how hgr)
    refine wp_loop_rounds 1 ?_; rw [rounds_succ]
    go_wp2
    go_ret2
    exact ⟨_, rfl, by simpa [tab, madeCells] using how, hba.grown hgr hba.size (fun k hk => by simp at hk)⟩
  · obtain ⟨b, o, rfl, hb, hc⟩ := h.cells hz
    have C := hidp hc
    clear hc h
    go_enter Tryd.func15, Tryd.ntmps15
    go_wp2_with fail
    refine CH.out.mono ?_
    rintro e wa ⟨rfl, hba⟩
    go_wp2_with (at_make; refine wpList_make_full wa rfl _ _ 40 rfl w.heap.size 4 ib (.bool false) 1 Tryd.underlying40 hib hz0 hz1 .i64 .i64 n n n rfl rfl rfl rfl (by rw [hz2]; omega) (by unfold maxLen; omega) hba.size ?_; intro wb how hgr)
    have hbb : Below w.heap.size w wb := hba.grown hgr hba.size (fun k hk => by simp at hk)
    have hgl : wa.heap.size < wb.heap.size := (how.lt wa.heap.size rfl).2
    have hgB : w.heap.size ≤ wa.heap.size := hba.size
    have how0 : wb.ownsRow w.heap.size 4 1 (.slice (some ⟨wa.heap.size, 0, none⟩) n n) n ((tab (fun i => if i < 0 then kb ls r i else false) n).map Value.bool) := by
      have e : (madeCells (Value.bool false).cells (n * 1)).toList = (tab (fun i => if i < 0 then kb ls r i else false) n).map Value.bool := by
        show (madeCells #[Value.bool false] (n * 1)).toList = _
        rw [toList_madeCells_one, tab_map, Nat.mul_one]
        apply List.ext_getElem?
        intro i
        by_cases hi : i < n
        · rw [tab_get _ _ _ hi]; simp [hi]
        · rw [List.getElem?_eq_none (by simp; omega), List.getElem?_eq_none (by rw [tab_len]; omega)]
      rw [← e]; exact how
    clear how hgr hba
    generalize wa.heap.size = g at *
    go_loopw [26] (fun i wr => ∃ k : Nat, k ≤ n ∧ i = .int .i64 k ∧ wr.ownsRow w.heap.size 4 1 (.slice (some ⟨g, 0, none⟩) n n) n ((tab (fun i => if i < k then kb ls r i else false) n).map Value.bool) ∧ Below w.heap.size w wr ∧ g < wr.heap.size) (fun i _ => n - (intOf i).toNat)
    case atStart => exact ⟨0, by omega, rfl, how0, hbb, hgl⟩
    case round =>
      obtain ⟨k, hk, rfl, how, hbl, hgw⟩ := hrel
      by_cases hlt : k < n
      · have q0 := carry_cell ⟨hb, (C.out k hlt).1⟩ hbl
        have q1 := carry_cell ⟨hb, (C.out k hlt).2⟩ hbl
        obtain ⟨p1, p2, p3, p4⟩ := OK.out k hlt
        have q2 : wr.cell? ⟨g, k, none⟩ = some (.bool false) := by
          rw [how.cellAt k (by omega), tab_map, tab_get _ _ _ hlt, if_neg (by omega)]
        have q3 := how.frozenAt k
        have q9 := lev_lo (gi ls k).toNat
        have q10 := lev_hi (gi ls k).toNat
        have KB : kb ls r k = decide (72057594037927936 - 72057594037927936 / 2 ^ (gi ls k).toNat ≤ r) := rfl
        have HKB := hidp KB
        clear KB
        unfold lev at q9 q10
        go_wp2
        go_roundw
        case rel =>
          rw [tab_map] at how
          have st := own_store_tab how k (.bool (decide (72057594037927936 - 72057594037927936 / 2 ^ (gi ls k).toNat ≤ r)))
          refine ⟨k + 1, by omega, by go_num, ?_, (hbl.setCell (p := ⟨g, k, none⟩) hgB _).alloc (by simp; omega) _, by simp; omega⟩
          rw [tab_map, tab_congr _ (fun i => if i = k then Value.bool (decide (72057594037927936 - 72057594037927936 / 2 ^ (gi ls k).toNat ≤ r)) else Value.bool (if i < k then kb ls r i else false)) n ?_]
          · exact st.alloc _
          · intro i hi
            by_cases h1 : i = k
            · rw [if_pos h1, if_pos (by omega), h1, HKB.out]
            · rw [if_neg h1]
              by_cases h2 : i < k
              · rw [if_pos h2, if_pos (by omega)]
              · rw [if_neg h2, if_neg (by omega)]
        case measure => simp [intOf]; omega
      · obtain rfl : k = n := by omega
        go_wp2
        go_ret2
        refine ⟨_, rfl, ?_, hbl⟩
        rw [tab_congr (kb ls r) (fun i => if i < k then kb ls r i else false) k (fun i hi => by rw [if_pos hi])]
        exact how
end Go.Proofs.YtdfghgeccannnaaDoor
