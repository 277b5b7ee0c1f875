/- Merged: CloneB, CloneP, CloneS, EqP, EqS, TextAny, XTAll. -/
import Derived.Test.YtdfghgeccannnaaDoorClone
import Derived.Test.YtdfghgeccannnaaDoorPairs
import Derived.ArgAppend
import Derived.WalkSpells
import Derived.Test.YtdfghgeccannnaaDoorMgMend
import Derived.Deep.QuietTactic
import Derived.BigQuiet
import Derived.Test.YtdfghgeccannnaaDoorMgSpan
import Derived.Test.YtdfghgeccannnaaDoorSet
import Derived.Test.YtdfghgeccannnaaDoorFr
import Derived.Test.YtdfghgeccannnaaDoorBoardAny
import Derived.Test.YtdfghgeccannnaaDoorMgSpanAny
import Derived.Test.YtdfghgeccannnaaDoorWrite
import Derived.Test.YtdfghgeccannnaaDoorRead
import Derived.Test.YtdfghgeccannnaaDoorEqB
import Derived.Test.YtdfghgeccannnaaDoorRoomyB
import Derived.Test.YtdfghgeccannnaaDoorRoomyP
import Derived.Test.YtdfghgeccannnaaDoorRoomyS
import Derived.Test.YtdfghgeccannnaaDoorMgApartR
import Derived.Test.YtdfghgeccannnaaDoorMgOwnKit
import Derived.Test.YtdfghgeccannnaaDoorBulkText
/- Contract of slices.Clone at truth values: a copy in new memory. -/
namespace Go.Proofs.YtdfghgeccannnaaDoor
open Go.ChangeShapes Go.WideShapes Go.ChangeAt Go.RowKit
set_option maxRecDepth 20000

theorem bools_one (zs : List Bool) : ∀ u ∈ zs.map Value.bool, u.oneCell' = true := by
  intro u hu
  obtain ⟨_, _, rfl⟩ := List.mem_map.1 hu
  rfl
set_option maxHeartbeats 400000 in
theorem cloneb_c (a : Option Addr) (n c : Nat) (xs : List Bool) (w : World) (h : BoolsAt w a n c xs) (hn : n < 1000000000) :
    Calls Tryd.prog 27 #[.slice a n c] w fun e w' => ∃ v, e = .returned v ∧ w'.ownsRow w.heap.size 4 1 v n (xs.map Value.bool) ∧ Below w.heap.size w w' := by
  obtain ⟨i0, hi, hz0, hz1, hz2⟩ := info_parts info_bool
  have m := h.max
  have l := h.le
  have hl := h.len
  have qT : ∀ (w : World) (a : Option Addr) (n c n' c' : Nat), (binOp .eql 40 (.slice a n c) (.slice none n' c')).run Tryd.prog w = .ok (.bool a.isNone) w := fun w a n c n' c' => Lib.run_eql_slice_nil w _ _ a n c n' c' Tryd.underlying40
  cases a with
  | none =>
    have hn0 : n = 0 := by
      rcases Nat.eq_zero_or_pos n with hz | hz
      · exact hz
      · obtain ⟨b, o, hb, _⟩ := h.cells hz
        cases hb
    subst hn0
    have hx : xs = [] := List.eq_nil_of_length_eq_zero hl
    subst hx
    clear h hl
    go_enter Tryd.func27, Tryd.ntmps27
    go_wp2
    go_ret
    exact ⟨_, rfl, World.ownsRow_nil _ _ _ _, Below.refl _ _⟩
  | some x =>
    have hcells : ∀ o j u, (xs.map Value.bool)[j]? = some u → (w.alloc o).cell? (x.add j) = some u := by
      intro o j u hu
      obtain ⟨hj, hju⟩ := List.getElem?_eq_some_iff.1 hu
      have hj' : j < n := by simp at hj; omega
      obtain ⟨b, off, hb, hlt, hc⟩ := h.cells (by omega)
      cases hb
      rw [addr_add]
      have hq : Value.bool (gb xs j) = u := by
        rw [← hju]
        simp [gb, List.getD_eq_getElem?_getD, List.getElem?_eq_getElem (show j < xs.length by omega)]
      rw [← hq]
      exact carry_cell ⟨hlt, hc j hj'⟩ ((Below.refl _ _).alloc (Nat.le_refl _) o)
    have HC := hidp hcells
    clear hcells h
    go_enter Tryd.func27, Tryd.ntmps27
    go_wp2_with (at_builtin; refine wpList_append_own_at _ rfl (.tmp 5) (.tmp 6) 40 rfl w.heap.size 4 i0 (.bool false) 1 1 Tryd.underlying40 hi hz0 hz1 hz2 rfl (by decide) _ 0 [] rfl (World.ownsRow_lit w #[] 0 (Nat.le_refl _) (by unfold maxLen; omega) rfl) x n c (xs.map Value.bool) rfl (by simp; omega) (HC.out _) (bools_one _) (by unfold maxLen; omega) (by omega) (by simp) ?_; intro v1 w1 h1 h2 h3 h4)
    go_ret
    refine ⟨_, rfl, by simpa using h1, ((Below.refl _ _).alloc (Nat.le_refl _) _).grown h2 (by simp) (fun k hk => by cases hk; exact Nat.le_refl _)⟩
end Go.Proofs.YtdfghgeccannnaaDoor

/- Contracts at pairs: slices.Clone. -/
namespace Go.Proofs.YtdfghgeccannnaaDoor
open Go.ChangeShapes Go.WideShapes Go.ChangeAt Go.RowKit
set_option maxRecDepth 20000
set_option maxHeartbeats 400000 in
theorem clonep_c (a : Option Addr) (n c : Nat) (L : List (ByteArray × ByteArray)) (w : World) (h : PairsAt w a n c L) (hn : n < 1000000) :
    Calls Tryd.prog 25 #[.slice a n c] w fun e w' => ∃ v, e = .returned v ∧ w'.ownsRow w.heap.size 32 2 v n (psV L) ∧ Below w.heap.size w w' := by
  obtain ⟨i0, hi, hz0, hz1, hz2⟩ := info_parts info_pair
  have m := h.max
  have l := h.le
  have hl := h.len
  have qT : ∀ (w : World) (a : Option Addr) (n c n' c' : Nat), (binOp .eql 22 (.slice a n c) (.slice none n' c')).run Tryd.prog w = .ok (.bool a.isNone) w := fun w a n c n' c' => Lib.run_eql_slice_nil w _ _ a n c n' c' Tryd.underlying22
  cases a with
  | none =>
    have hn0 : n = 0 := by
      rcases Nat.eq_zero_or_pos n with hz | hz
      · exact hz
      · obtain ⟨b, o, hb, _⟩ := h.addr0 hz
        cases hb
    subst hn0
    have hx : L = [] := List.eq_nil_of_length_eq_zero hl
    subst hx
    clear h hl
    go_enter Tryd.func25, Tryd.ntmps25
    go_wp2
    go_ret
    exact ⟨_, rfl, World.ownsRow_nil _ _ _ _, Below.refl _ _⟩
  | some x =>
    have hcells : ∀ o j u, (psV L)[j]? = some u → (w.alloc o).cell? (x.add j) = some u := by
      intro o j u hu
      exact (h.below ((Below.refl _ _).alloc (Nat.le_refl _) o)).cellsAt x rfl j u hu
    have HC := hidp hcells
    have CV := hidp (psV_len L)
    have CO := hidp (psV_one L)
    generalize psV L = vs at *
    clear hcells h
    go_enter Tryd.func25, Tryd.ntmps25
    go_wp2_with (at_builtin; refine wpList_append_own_at _ rfl (.tmp 5) (.tmp 6) 22 rfl w.heap.size 32 i0 (.agg #[.string ⟨#[]⟩, .string ⟨#[]⟩]) 2 32 Tryd.underlying22 hi hz0 hz1 hz2 rfl (by decide) _ 0 [] rfl (World.ownsRow_lit w #[] 0 (Nat.le_refl _) (by unfold maxLen; omega) rfl) x n c vs rfl (by rw [CV.out, hl]) (HC.out _) CO.out (by unfold maxLen; omega) (by omega) (by simp) ?_; intro v1 w1 h1 h2 h3 h4)
    go_ret
    refine ⟨_, rfl, by simpa using h1, ((Below.refl _ _).alloc (Nat.le_refl _) _).grown h2 (by simp) (fun k hk => by cases hk; exact Nat.le_refl _)⟩
end Go.Proofs.YtdfghgeccannnaaDoor

/- Contracts at spans: slices.Clone. -/
namespace Go.Proofs.YtdfghgeccannnaaDoor
open Go.ChangeShapes Go.WideShapes Go.ChangeAt Go.RowKit
set_option maxRecDepth 20000
set_option maxHeartbeats 400000 in
theorem clones_c (a : Option Addr) (n c : Nat) (us ls : List Int) (w : World) (h : SpansAt w a n c us ls) (hn : n < 1000000) :
    Calls Tryd.prog 26 #[.slice a n c] w fun e w' => ∃ v, e = .returned v ∧ w'.ownsRow w.heap.size 36 2 v n (spanCells (gi us) (gi ls) n) ∧ Below w.heap.size w w' := by
  obtain ⟨i0, hi, hz0, hz1, hz2⟩ := info_parts info_span
  have m := h.max
  have l := h.le
  have qT : ∀ (w : World) (a : Option Addr) (n c n' c' : Nat), (binOp .eql 23 (.slice a n c) (.slice none n' c')).run Tryd.prog w = .ok (.bool a.isNone) w := fun w a n c n' c' => Lib.run_eql_slice_nil w _ _ a n c n' c' Tryd.underlying23
  cases a with
  | none =>
    have hn0 : n = 0 := by
      rcases Nat.eq_zero_or_pos n with hz | hz
      · exact hz
      · obtain ⟨b, o, hb, _⟩ := h.cells hz
        cases hb
    subst hn0
    clear h
    go_enter Tryd.func26, Tryd.ntmps26
    go_wp2
    go_ret
    exact ⟨_, rfl, World.ownsRow_nil _ _ _ _, Below.refl _ _⟩
  | some x =>
    have hcells : ∀ o j u, (spanCells (gi us) (gi ls) n)[j]? = some u → (w.alloc o).cell? (x.add j) = some u := by
      intro o j u hu
      exact spans_cells (h.below ((Below.refl _ _).alloc (Nat.le_refl _) o)) rfl j u hu
    have HC := hidp hcells
    have CV := hidp (spanCells_len (gi us) (gi ls) n)
    have CO := hidp (spanCells_one (gi us) (gi ls) n)
    generalize spanCells (gi us) (gi ls) n = vs at *
    clear hcells h
    go_enter Tryd.func26, Tryd.ntmps26
    go_wp2_with (at_builtin; refine wpList_append_own_at _ rfl (.tmp 5) (.tmp 6) 23 rfl w.heap.size 36 i0 (.agg #[.int .i64 0, .int .i64 0]) 2 16 Tryd.underlying23 hi hz0 hz1 hz2 rfl (by decide) _ 0 [] rfl (World.ownsRow_lit w #[] 0 (Nat.le_refl _) (by unfold maxLen; omega) rfl) x n c vs rfl (by rw [CV.out]) (HC.out _) CO.out (by unfold maxLen; omega) (by omega) (by simp) ?_; intro v1 w1 h1 h2 h3 h4)
    go_ret
    refine ⟨_, rfl, by simpa using h1, ((Below.refl _ _).alloc (Nat.le_refl _) _).grown h2 (by simp) (fun k hk => by cases hk; exact Nat.le_refl _)⟩
end Go.Proofs.YtdfghgeccannnaaDoor

/- Contract of slices.Equal at pairs of texts: equal where they are the same. -/
namespace Go.Proofs.YtdfghgeccannnaaDoor
open Go.ChangeShapes Go.WideShapes Go.ChangeAt Go.RowKit
set_option maxRecDepth 20000
theorem eqp_c (a1 a2 : Option Addr) (n c1 c2 : Nat) (L : List (ByteArray × ByteArray)) (w : World) (h1 : PairsAt w a1 n c1 L) (h2 : PairsAt w a2 n c2 L) :
    Calls Tryd.prog 5 #[.slice a1 n c1, .slice a2 n c2] w fun e w' => e = .returned (.bool true) ∧ Below w.heap.size w w' := by
  have m1 := h1.max
  have m2 := h2.max
  have e1 := h1.le
  have e2 := h2.le
  have hne : ((n : Int) != (n : Int)) = false := by simp
  have C1 := hidp h1.cells
  have C2 := hidp h2.cells
  clear h1 h2
  go_enter Tryd.func5, Tryd.ntmps5
  go_wp2_with fail
  go_loopw [13] (fun i wr => ∃ k : Nat, k ≤ n ∧ i = .int .i64 k ∧ Below w.heap.size w wr) (fun i _ => n - (intOf i).toNat)
  case atStart => exact ⟨0, by omega, rfl, Below.refl _ _⟩
  case round =>
    obtain ⟨k, hk, rfl, hbl⟩ := hrel
    by_cases hlt : k < n
    · obtain ⟨b, o, rfl, hb, hc⟩ := C1.out (by omega)
      obtain ⟨b', o', rfl, hb', hc'⟩ := C2.out (by omega)
      have q0 := carry_cell ⟨hb, (hc k hlt).1⟩ hbl
      have q1 := carry_cell ⟨hb, (hc k hlt).2⟩ hbl
      have q2 := carry_cell ⟨hb', (hc' k hlt).1⟩ hbl
      have q3 := carry_cell ⟨hb', (hc' k hlt).2⟩ hbl
      clear hc hc'
      generalize pk L k = s at *
      generalize pv L k = v at *
      go_wp2_with fail
      go_quiet (fail)
      go_wp2
      go_roundw
      case rel => exact ⟨k + 1, by omega, by go_num, below_drewN hbl _⟩
      case measure => simp [intOf]; omega
    · obtain rfl : k = n := by omega
      go_wp2
      go_ret
      exact ⟨rfl, hbl⟩
end Go.Proofs.YtdfghgeccannnaaDoor

/- Contract of slices.Equal at equal spans. -/
namespace Go.Proofs.YtdfghgeccannnaaDoor
open Go.ChangeShapes Go.WideShapes Go.ChangeAt Go.RowKit
set_option maxRecDepth 20000

theorem eqs_c (a1 a2 : Option Addr) (n c1 c2 : Nat) (us ls : List Int) (w : World) (h1 : SpansAt w a1 n c1 us ls) (h2 : SpansAt w a2 n c2 us ls) :
    Calls Tryd.prog 18 #[.slice a1 n c1, .slice a2 n c2] w fun e w' => e = .returned (.bool true) ∧ Below w.heap.size w w' := by
  have m1 := h1.max
  have m2 := h2.max
  have e1 := h1.le
  have e2 := h2.le
  have hne : ((n : Int) != (n : Int)) = false := by simp
  have C1 := hidp h1.cells
  have C2 := hidp h2.cells
  clear h1 h2
  go_enter Tryd.func18, Tryd.ntmps18
  go_wp2_with fail
  go_loopw [13] (fun i wr => ∃ k : Nat, k ≤ n ∧ i = .int .i64 k ∧ Below w.heap.size w wr) (fun i _ => n - (intOf i).toNat)
  case atStart => exact ⟨0, by omega, rfl, Below.refl _ _⟩
  case round =>
    obtain ⟨k, hk, rfl, hbl⟩ := hrel
    by_cases hlt : k < n
    · obtain ⟨b, o, rfl, hb, hc⟩ := C1.out (by omega)
      obtain ⟨b', o', rfl, hb', hc'⟩ := C2.out (by omega)
      have q0 := carry_cell ⟨hb, (hc k hlt).1⟩ hbl
      have q1 := carry_cell ⟨hb, (hc k hlt).2⟩ hbl
      have q2 := carry_cell ⟨hb', (hc' k hlt).1⟩ hbl
      have q3 := carry_cell ⟨hb', (hc' k hlt).2⟩ hbl
      clear hc hc'
      go_wp2_with fail
      go_quiet (fail)
      go_wp2
      go_roundw
      case rel => exact ⟨k + 1, by omega, by go_num, below_drewN hbl _⟩
      case measure => simp [intOf]; omega
    · obtain rfl : k = n := by omega
      go_wp2
      go_ret
      exact ⟨rfl, hbl⟩
end Go.Proofs.YtdfghgeccannnaaDoor

/- Contract of state.Set at whatever comes. -/
namespace Go.Proofs.YtdfghgeccannnaaDoor
open Go.ChangeShapes Go.WideShapes Go.ChangeAt Go.RowKit
set_option maxRecDepth 20000
/-- A short list of pairs that lies in a block that was not there at B (or nil). -/
def FrP (B : Nat) (W : World) (v : Value) : Prop := ∃ (n : Nat) (L : List (ByteArray × ByteArray)), W.ownsRow B 32 2 v n (psV L) ∧ n ≤ 1000 ∧ ∀ p ∈ L, p.1.size ≤ 9223372036854775807 ∧ p.2.size ≤ 9223372036854775807
theorem set_any (a : Option Addr) (n c : Nat) (L : List (ByteArray × ByteArray)) (th rv : Int) (ht hr : Bool) (w : World) (h : PairsAt w a n c L) :
    Calls Tryd.prog 10 #[.slice a n c, markV th rv ht hr] w fun e w' => ∃ v r, e = .returned (.tuple #[v, .int .i64 r]) ∧ FrP w.heap.size w' v ∧ Below w.heap.size w w' := by
  by_cases hE : chkE L = 0 ∧ (isNum th && isNum rv) = true
  · refine (set_ok a n c L th rv ht hr w h hE.1 hE.2).mono ?_
    rintro e w' ⟨v, rfl, ⟨h0, hO⟩ | ⟨_, rfl⟩, hB⟩
    · refine ⟨_, _, rfl, ⟨_, _, hO, ?_, setL_sz L th rv ht hr h.sz⟩, hB⟩
      have h1 := ((chkE_zero L).1 hE.1).1
      have h2 := preM_len th rv ht hr
      have h3 := List.length_filter_le isOth L
      unfold setL
      rw [List.length_append]
      omega
    · exact ⟨_, _, rfl, ⟨0, [], World.ownsRow_nil _ _ _ _, by omega, fun p hp => by simp at hp⟩, hB⟩
  · refine (set_bad a n c L th rv ht hr w h hE).mono ?_
    rintro e w' ⟨rfl, hB⟩
    exact ⟨_, _, rfl, ⟨0, [], World.ownsRow_nil _ _ _ _, by omega, fun p hp => by simp at hp⟩, hB⟩
end Go.Proofs.YtdfghgeccannnaaDoor

/- All that the walk of TextsOwn uses. -/
