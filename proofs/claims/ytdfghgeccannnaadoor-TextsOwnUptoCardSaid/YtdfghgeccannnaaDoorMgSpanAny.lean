/- Merged: Count, SpanAny. -/
import Derived.Test.YtdfghgeccannnaaDoorMgSpan
import Derived.Test.YtdfghgeccannnaaDoorMgMend
import Derived.Test.YtdfghgeccannnaaDoorWhole
import Derived.Test.YtdfghgeccannnaaDoorFr
/- Contract of span.Count at spans that may be: what the call returns, and that old memory stays as it is. -/
namespace Go.Proofs.YtdfghgeccannnaaDoor
open Go.ChangeShapes Go.WideShapes Go.ChangeAt Go.RowKit
set_option maxRecDepth 20000

/-- What the first k that are kept stand for. -/
def cntS (ls : List Int) (ks : List Bool) : Nat → Int
  | 0 => 0
  | k + 1 => cntS ls ks k + if gb ks k then 2 ^ (gi ls k).toNat else 0
theorem pow20 (m : Nat) (hm : m ≤ 20) : (1 : Int) ≤ 2 ^ m ∧ (2 : Int) ^ m ≤ 1048576 := by
  have h1 : ((2 ^ m : Nat) : Int) ≤ ((1048576 : Nat) : Int) := Int.ofNat_le.2 (Nat.pow_le_pow_right (show 0 < 2 by omega) hm)
  rw [Int.natCast_pow] at h1
  have h2 : (0 : Int) < 2 ^ m := Int.pow_pos (by omega)
  exact ⟨by omega, h1⟩
theorem cntS_bd (ls : List Int) (ks : List Bool) : ∀ k, (∀ i, i < k → 0 ≤ gi ls i ∧ gi ls i ≤ 20) → 0 ≤ cntS ls ks k ∧ cntS ls ks k ≤ 1048576 * k
  | 0, _ => by simp only [cntS]; exact ⟨by omega, by omega⟩
  | k + 1, h => by
    have a := cntS_bd ls ks k (fun i hi => h i (by omega))
    have b := h k (by omega)
    have c := pow20 (gi ls k).toNat (by omega)
    simp only [cntS]
    split <;> omega

set_option maxHeartbeats 1000000 in
theorem count_c (a a' : Option Addr) (n c c' : Nat) (us ls : List Int) (ks : List Bool) (w : World) (h : SpansAt w a n c us ls) (h' : BoolsAt w a' n c' ks) (hn : n ≤ 40) (hok : SpansOk n us ls) :
    Calls Tryd.prog 14 #[.slice a n c, .slice a' n c'] w fun e w' => e = .returned (.tuple #[.int .i64 (cntS ls ks n), .int .i64 0]) ∧ Below w.heap.size w w' := by
  have CH := hidp (scheck_c a n c us ls w h hn hok)
  have HB := hidp (fun k (hk : k ≤ n) => cntS_bd ls ks k (fun i hi => by have := hok i (by omega); omega))
  have OK := hidp hok
  clear hok
  have m := h.max
  have l := h.le
  have m' := h'.max
  have l' := h'.le
  rcases Nat.eq_zero_or_pos n with hz | hz
  · subst hz
    clear h h'
    go_enter Tryd.func14, Tryd.ntmps14
    go_wp2_with fail
    refine CH.out.mono ?_
    rintro e wa ⟨rfl, hba⟩
    go_wp2_with fail
    refine wp_loop_rounds 1 ?_; rw [rounds_succ]
    go_wp2
    go_ret2
    exact ⟨rfl, hba⟩
  · obtain ⟨b, o, rfl, hb, hc⟩ := h.cells hz
    obtain ⟨b', o', rfl, hb', hc'⟩ := h'.cells hz
    have C := hidp hc
    have C' := hidp hc'
    clear hc hc' h h'
    go_enter Tryd.func14, Tryd.ntmps14
    go_wp2_with fail
    refine CH.out.mono ?_
    rintro e wa ⟨rfl, hba⟩
    go_wp2_with fail
    go_loopw [7, 22] (fun s i wr => ∃ k : Nat, k ≤ n ∧ i = .int .i64 k ∧ s = .int .i64 (cntS ls ks k) ∧ Below w.heap.size w wr) (fun _ i _ => n - (intOf i).toNat)
    case atStart => exact ⟨0, by omega, rfl, rfl, hba⟩
    case round =>
      obtain ⟨k, hk, rfl, rfl, hbl⟩ := hrel
      have hsz := hbl.size
      obtain ⟨B1, B2⟩ := HB.out k hk
      by_cases hlt : k < n
      · have q0 := carry_cell ⟨hb, (C.out k hlt).1⟩ hbl
        have q1 := carry_cell ⟨hb, (C.out k hlt).2⟩ hbl
        have q2 := carry_cell ⟨hb', C'.out k hlt⟩ hbl
        obtain ⟨p1, p2, p3, p4⟩ := OK.out k hlt
        have hbw : b' < wr.heap.size := by omega
        obtain ⟨c1, c2⟩ := pow20 (gi ls k).toNat (by omega)
        cases hx : gb ks k
        · have E := hidp (show cntS ls ks (k + 1) = cntS ls ks k by simp only [cntS]; rw [hx]; simp)
          rw [hx] at q2
          clear hx
          go_wp2
          go_roundw
          case rel => exact ⟨k + 1, by omega, by go_num, v_int E.out.symm, hbl.alloc hsz _⟩
          case measure => simp [intOf]; omega
        · have E := hidp (show cntS ls ks (k + 1) = cntS ls ks k + 2 ^ (gi ls k).toNat by simp only [cntS]; rw [hx]; simp)
          rw [hx] at q2
          clear hx
          go_wp2
          go_roundw
          case rel => exact ⟨k + 1, by omega, by go_num, v_int E.out.symm, hbl.alloc hsz _⟩
          case measure => simp [intOf]; omega
      · obtain rfl : k = n := by omega
        go_wp2
        go_ret2
        exact ⟨rfl, hbl⟩
end Go.Proofs.YtdfghgeccannnaaDoor

/- Contracts of span's functions at whatever comes. -/
namespace Go.Proofs.YtdfghgeccannnaaDoor
open Go.ChangeShapes Go.WideShapes Go.ChangeAt Go.RowKit
set_option maxRecDepth 20000
/-- A short list of spans that lies in a block that was not there at B (or nil). -/
def FrS (B : Nat) (W : World) (v : Value) : Prop := ∃ (n : Nat) (u l : Nat → Int), W.ownsRow B 36 2 v n (spanCells u l n) ∧ n ≤ 1000
def FrBo (B : Nat) (W : World) (v : Value) : Prop := ∃ (n : Nat) (bs : List Bool), W.ownsRow B 4 1 v n (bs.map Value.bool) ∧ n ≤ 1000
def spOk (us ls : List Int) (i : Nat) : Prop := -1 ≤ gi us i ∧ gi us i < i ∧ 0 ≤ gi ls i ∧ gi ls i ≤ 20
set_option maxHeartbeats 2000000 in
theorem scheck_bad (a : Option Addr) (n c : Nat) (us ls : List Int) (w : World) (h : SpansAt w a n c us ls) (hbad : ¬ (n ≤ 40 ∧ SpansOk n us ls)) :
    Calls Tryd.prog 42 #[.slice a n c] w fun e w' => (∃ E : Int, e = .returned (.int .i64 E) ∧ (E != 0) = true) ∧ Below w.heap.size w w' := by
  by_cases h40 : 40 < n
  · have h40' : (40 : Int) < (n : Int) := by omega
    clear hbad
    go_enter Tryd.func42, Tryd.ntmps42
    go_wp2
    go_ret
    exact ⟨⟨2, rfl, rfl⟩, Below.refl _ _⟩
  · have hn : n ≤ 40 := by omega
    have hok : ¬ SpansOk n us ls := fun e => hbad ⟨hn, e⟩
    clear hbad h40
    have hz : 0 < n := by
      rcases Nat.eq_zero_or_pos n with h0 | h0
      · exact absurd (fun i hi => by omega) hok
      · exact h0
    have HN := hidp hok
    clear hok
    obtain ⟨b, o, rfl, hb, hc⟩ := h.cells hz
    have C := hidp hc
    clear hc h
    go_enter Tryd.func42, Tryd.ntmps42
    go_wp2_with fail
    go_loopw [10] (fun i wr => ∃ k : Nat, k ≤ n ∧ i = .int .i64 k ∧ Hid (∀ i, i < k → spOk us ls i) ∧ Below w.heap.size w wr) (fun i _ => n - (intOf i).toNat)
    case atStart => exact ⟨0, by omega, rfl, hidp (fun i hi => by omega), Below.refl _ _⟩
    case round =>
      obtain ⟨k, hk, rfl, HK, hbl⟩ := hrel
      by_cases hlt : k < n
      · have q0 := carry_cell ⟨hb, (C.out k hlt).1⟩ hbl
        have q1 := carry_cell ⟨hb, (C.out k hlt).2⟩ hbl
        by_cases ok : spOk us ls k
        · have HO := hidp ok
          obtain ⟨p1, p2, p3, p4⟩ := ok
          generalize gi us k = x at *
          generalize gi ls k = y at *
          go_wp2
          go_roundw
          case rel => exact ⟨k + 1, by omega, by go_num, hidp (fun i hi => by
            by_cases e : i = k
            · rw [e]; exact HO.out
            · exact HK.out i (by omega)), hbl.alloc hbl.size _⟩
          case measure => simp [intOf]; omega
        · unfold spOk at ok
          generalize gi us k = x at *
          generalize gi ls k = y at *
          by_cases p1 : -1 ≤ x
          · by_cases p2 : x < k
            · by_cases p3 : 0 ≤ y
              · have p4 : 20 < y := by omega
                clear ok
                go_wp2
                go_ret
                exact ⟨⟨1, rfl, by decide⟩, hbl.alloc hbl.size _⟩
              · have p3' : y < 0 := by omega
                clear ok
                go_wp2
                go_ret
                exact ⟨⟨1, rfl, by decide⟩, hbl.alloc hbl.size _⟩
            · have p2' : (k : Int) ≤ x := by omega
              clear ok
              go_wp2
              go_ret
              exact ⟨⟨1, rfl, by decide⟩, hbl.alloc hbl.size _⟩
          · have p1' : x < -1 := by omega
            clear ok
            go_wp2
            go_ret
            exact ⟨⟨1, rfl, by decide⟩, hbl.alloc hbl.size _⟩
      · exfalso
        obtain rfl : k = n := by omega
        exact HN.out HK.out
theorem mend_bad (a : Option Addr) (n c : Nat) (us ls : List Int) (w : World) (h : SpansAt w a n c us ls) (hbad : ¬ (n ≤ 40 ∧ SpansOk n us ls)) :
    Calls Tryd.prog 12 #[.slice a n c] w fun e w' => (∃ E : Int, e = .returned (.tuple #[.slice none 0 0, .int .i64 E])) ∧ Below w.heap.size w w' := by
  have CK := hidp (scheck_bad a n c us ls w h hbad)
  clear h hbad
  go_enter Tryd.func12, Tryd.ntmps12
  go_wp2_with fail
  refine CK.out.mono ?_
  rintro e w' ⟨⟨E, rfl, hE⟩, hb⟩
  clear CK
  go_wp2
  go_ret2
  exact ⟨⟨E, rfl⟩, hb⟩
theorem kept_bad (a : Option Addr) (n c : Nat) (us ls : List Int) (r : Int) (w : World) (h : SpansAt w a n c us ls) (hbad : ¬ (n ≤ 40 ∧ SpansOk n us ls)) :
    Calls Tryd.prog 15 #[.slice a n c, .int .i64 r] w fun e w' => (∃ E : Int, e = .returned (.tuple #[.slice none 0 0, .int .i64 E])) ∧ Below w.heap.size w w' := by
  have CK := hidp (scheck_bad a n c us ls w h hbad)
  clear h hbad
  go_enter Tryd.func15, Tryd.ntmps15
  go_wp2_with fail
  refine CK.out.mono ?_
  rintro e w' ⟨⟨E, rfl, hE⟩, hb⟩
  clear CK
  go_wp2
  go_ret2
  exact ⟨⟨E, rfl⟩, hb⟩
theorem kept_badr (a : Option Addr) (n c : Nat) (us ls : List Int) (r : Int) (w : World) (h : SpansAt w a n c us ls) (hn : n ≤ 40) (hok : SpansOk n us ls) (hr : r < 0 ∨ 72057594037927936 ≤ r) :
    Calls Tryd.prog 15 #[.slice a n c, .int .i64 r] w fun e w' => (∃ E : Int, e = .returned (.tuple #[.slice none 0 0, .int .i64 E])) ∧ Below w.heap.size w w' := by
  have CK := hidp (scheck_c a n c us ls w h hn hok)
  clear h hok
  by_cases h0 : r < 0
  · clear hr
    go_enter Tryd.func15, Tryd.ntmps15
    go_wp2_with fail
    refine CK.out.mono ?_
    rintro e w' ⟨rfl, hb⟩
    clear CK
    go_wp2
    go_ret2
    exact ⟨⟨_, rfl⟩, hb⟩
  · have h1 : 72057594037927936 ≤ r := by omega
    clear hr
    go_enter Tryd.func15, Tryd.ntmps15
    go_wp2_with fail
    refine CK.out.mono ?_
    rintro e w' ⟨rfl, hb⟩
    clear CK
    go_wp2
    go_ret2
    exact ⟨⟨_, rfl⟩, hb⟩
theorem whole_bad (a a' : Option Addr) (n c m c' : Nat) (us ls : List Int) (w : World) (h : SpansAt w a n c us ls) (hbad : ¬ (n ≤ 40 ∧ SpansOk n us ls)) :
    Calls Tryd.prog 13 #[.slice a n c, .slice a' m c'] w fun e w' => (∃ (b : Bool) (E : Int), e = .returned (.tuple #[.bool b, .int .i64 E])) ∧ Below w.heap.size w w' := by
  have CK := hidp (scheck_bad a n c us ls w h hbad)
  clear h hbad
  go_enter Tryd.func13, Tryd.ntmps13
  go_wp2_with fail
  refine CK.out.mono ?_
  rintro e w' ⟨⟨E, rfl, hE⟩, hb⟩
  clear CK
  go_wp2
  go_ret2
  exact ⟨⟨_, E, rfl⟩, hb⟩
theorem count_bad (a a' : Option Addr) (n c m c' : Nat) (us ls : List Int) (w : World) (h : SpansAt w a n c us ls) (hbad : ¬ (n ≤ 40 ∧ SpansOk n us ls)) :
    Calls Tryd.prog 14 #[.slice a n c, .slice a' m c'] w fun e w' => (∃ x E : Int, e = .returned (.tuple #[.int .i64 x, .int .i64 E])) ∧ Below w.heap.size w w' := by
  have CK := hidp (scheck_bad a n c us ls w h hbad)
  clear h hbad
  go_enter Tryd.func14, Tryd.ntmps14
  go_wp2_with fail
  refine CK.out.mono ?_
  rintro e w' ⟨⟨E, rfl, hE⟩, hb⟩
  clear CK
  go_wp2
  go_ret2
  exact ⟨⟨_, E, rfl⟩, hb⟩
theorem mend_any (a : Option Addr) (n c : Nat) (us ls : List Int) (w : World) (h : SpansAt w a n c us ls) :
    Calls Tryd.prog 12 #[.slice a n c] w fun e w' => ∃ v r, e = .returned (.tuple #[v, .int .i64 r]) ∧ FrS w.heap.size w' v ∧ Below w.heap.size w w' := by
  by_cases hE : n ≤ 40 ∧ SpansOk n us ls
  · refine (mend_c a n c us ls w h hE.1 hE.2).mono ?_
    rintro e w' ⟨v, rfl, hO, hB⟩
    exact ⟨_, _, rfl, ⟨n, _, _, hO, by omega⟩, hB⟩
  · refine (mend_bad a n c us ls w h hE).mono ?_
    rintro e w' ⟨⟨E, rfl⟩, hB⟩
    exact ⟨_, _, rfl, ⟨0, fun _ => 0, fun _ => 0, World.ownsRow_nil _ _ _ _, by omega⟩, hB⟩
theorem kept_any (a : Option Addr) (n c : Nat) (us ls : List Int) (r : Int) (w : World) (h : SpansAt w a n c us ls) :
    Calls Tryd.prog 15 #[.slice a n c, .int .i64 r] w fun e w' => ∃ v r, e = .returned (.tuple #[v, .int .i64 r]) ∧ FrBo w.heap.size w' v ∧ Below w.heap.size w w' := by
  have bad : ∀ (e : Ending) (w' : World), ((∃ E : Int, e = .returned (.tuple #[.slice none 0 0, .int .i64 E])) ∧ Below w.heap.size w w') → ∃ v r, e = .returned (.tuple #[v, .int .i64 r]) ∧ FrBo w.heap.size w' v ∧ Below w.heap.size w w' := by
    rintro e w' ⟨⟨E, rfl⟩, hB⟩
    exact ⟨_, _, rfl, ⟨0, [], World.ownsRow_nil _ _ _ _, by omega⟩, hB⟩
  by_cases hE : n ≤ 40 ∧ SpansOk n us ls
  · by_cases hr : r < 0 ∨ 72057594037927936 ≤ r
    · exact (kept_badr a n c us ls r w h hE.1 hE.2 hr).mono bad
    · refine (kept_c a n c us ls r w h hE.1 hE.2 (by omega) (by omega)).mono ?_
      rintro e w' ⟨v, rfl, hO, hB⟩
      exact ⟨_, _, rfl, ⟨n, _, hO, by omega⟩, hB⟩
  · exact (kept_bad a n c us ls r w h hE).mono bad
theorem whole_any (a a' : Option Addr) (n c c' : Nat) (us ls : List Int) (ks : List Bool) (w : World) (h : SpansAt w a n c us ls) (h' : BoolsAt w a' n c' ks) :
    Calls Tryd.prog 13 #[.slice a n c, .slice a' n c'] w fun e w' => (∃ (b : Bool) (E : Int), e = .returned (.tuple #[.bool b, .int .i64 E])) ∧ Below w.heap.size w w' := by
  by_cases hE : n ≤ 40 ∧ SpansOk n us ls
  · exact (whole_c a a' n c c' us ls ks w h h' hE.1 hE.2).mono (fun e w' h => ⟨⟨_, _, h.1⟩, h.2⟩)
  · exact whole_bad a a' n c n c' us ls w h hE
theorem count_any (a a' : Option Addr) (n c c' : Nat) (us ls : List Int) (ks : List Bool) (w : World) (h : SpansAt w a n c us ls) (h' : BoolsAt w a' n c' ks) :
    Calls Tryd.prog 14 #[.slice a n c, .slice a' n c'] w fun e w' => (∃ x E : Int, e = .returned (.tuple #[.int .i64 x, .int .i64 E])) ∧ Below w.heap.size w w' := by
  by_cases hE : n ≤ 40 ∧ SpansOk n us ls
  · exact (count_c a a' n c c' us ls ks w h h' hE.1 hE.2).mono (fun e w' h => ⟨⟨_, _, h.1⟩, h.2⟩)
  · exact count_bad a a' n c n c' us ls w h hE
end Go.Proofs.YtdfghgeccannnaaDoor
