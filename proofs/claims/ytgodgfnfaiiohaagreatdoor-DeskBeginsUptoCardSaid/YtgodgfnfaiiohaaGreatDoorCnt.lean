/- Slices of counters: a key and a number each. -/
import Derived.Test.YtgodgfnfaiiohaaGreatDoorKit
namespace Go.Proofs.YtgodgfnfaiiohaaGreatDoor
open Go.ChangeShapes Go.WideShapes Go.ChangeAt Go.RowKit
set_option maxRecDepth 20000
def ckey (L : List (Int × Int)) (i : Nat) : Int := (L.getD i (0, 0)).1
def cnum (L : List (Int × Int)) (i : Nat) : Int := (L.getD i (0, 0)).2
theorem cget (L : List (Int × Int)) (i : Nat) (h : i < L.length) : L[i]? = some (ckey L i, cnum L i) := by
  unfold ckey cnum
  rw [List.getD_eq_getElem?_getD, List.getElem?_eq_getElem h]; rfl
theorem cmem (L : List (Int × Int)) (i : Nat) (h : i < L.length) : (ckey L i, cnum L i) ∈ L := List.mem_of_getElem? (cget L i h)
theorem ctake (L : List (Int × Int)) (k : Nat) (h : k < L.length) : L.take (k + 1) = L.take k ++ [(ckey L k, cnum L k)] := by
  rw [List.take_add_one, cget L k h]; rfl
/-- The cells of counters. -/
def cntV : List (Int × Int) → List Value
  | [] => []
  | p :: l => Value.int .i64 p.1 :: Value.int .i64 p.2 :: cntV l
theorem cntV_append (l : List (Int × Int)) : ∀ m, cntV (m ++ l) = cntV m ++ cntV l
  | [] => rfl
  | p :: m => by simp only [List.cons_append, cntV]; rw [cntV_append l m]
theorem cntV_snoc (m : List (Int × Int)) (x y : Int) : cntV (m ++ [(x, y)]) = cntV m ++ [Value.int .i64 x, Value.int .i64 y] := cntV_append _ _
theorem cntV_len : ∀ l, (cntV l).length = l.length * 2
  | [] => rfl
  | p :: l => by simp only [cntV, List.length_cons]; rw [cntV_len l]; omega
theorem cntV_get : ∀ (l : List (Int × Int)) i, i < l.length → (cntV l)[i * 2]? = some (.int .i64 (ckey l i)) ∧ (cntV l)[i * 2 + 1]? = some (.int .i64 (cnum l i))
  | [], i, h => by simp at h
  | p :: l, 0, _ => ⟨rfl, rfl⟩
  | p :: l, i + 1, h => by
    have := cntV_get l i (by simpa using h)
    rw [show (i + 1) * 2 = i * 2 + 1 + 1 by omega]
    simp only [cntV, List.getElem?_cons_succ]
    exact this
theorem cntV_one : ∀ (l : List (Int × Int)), ∀ u ∈ cntV l, u.oneCell' = true
  | [], u, h => by simp [cntV] at h
  | p :: l, u, h => by
    simp only [cntV, List.mem_cons] at h
    rcases h with rfl | rfl | h
    · rfl
    · rfl
    · exact cntV_one l u h
/-- The sum of the numbers. -/
def csum : List (Int × Int) → Int
  | [] => 0
  | p :: l => p.2 + csum l
theorem csum_take (l : List (Int × Int)) (h : ∀ p ∈ l, 0 ≤ p.2) (k : Nat) : csum (l.take k) ≤ csum l ∧ 0 ≤ csum (l.take k) := by
  induction l generalizing k with
  | nil => simp [csum]
  | cons p l ih =>
    have h0 := h p (by simp)
    have h1 := fun k => ih (fun q hq => h q (by simp [hq])) k
    cases k with
    | zero =>
      have := h1 l.length
      rw [List.take_length] at this
      simp only [List.take_zero, csum]; omega
    | succ k =>
      have := h1 k
      simp only [List.take_succ_cons, csum]; omega
/-- A slice of counters. -/
structure CntAt (w : World) (a : Option Addr) (n cap : Nat) (L : List (Int × Int)) : Prop where
  len : L.length = n
  le : n ≤ cap
  max : cap ≤ 9223372036854775807
  cells : 0 < n → ∃ b off, a = some ⟨b, off, none⟩ ∧ b < w.heap.size ∧ ∀ i, i < n → w.cell? ⟨b, off + i * 2, none⟩ = some (.int .i64 (ckey L i)) ∧ w.cell? ⟨b, off + i * 2 + 1, none⟩ = some (.int .i64 (cnum L i))
theorem CntAt.below {w w' : World} {a : Option Addr} {n cap : Nat} {L : List (Int × Int)} (h : CntAt w a n cap L) (hb : Below w.heap.size w w') : CntAt w' a n cap L := by
  refine ⟨h.len, h.le, h.max, fun hn => ?_⟩
  obtain ⟨b, off, rfl, hlt, hc⟩ := h.cells hn
  exact ⟨b, off, rfl, Nat.lt_of_lt_of_le hlt hb.size, fun i hi => ⟨ck hb (hc i hi).1, ck hb (hc i hi).2⟩⟩
theorem CntAt.split {w : World} {a : Option Addr} {n cap : Nat} {L : List (Int × Int)} (h : CntAt w a n cap L) : ∃ b off, (n = 0 ∨ a = some ⟨b, off, none⟩) ∧ ∀ i, i < n → b < w.heap.size ∧ w.cell? ⟨b, off + i * 2, none⟩ = some (.int .i64 (ckey L i)) ∧ w.cell? ⟨b, off + i * 2 + 1, none⟩ = some (.int .i64 (cnum L i)) := by
  rcases Nat.eq_zero_or_pos n with h0 | h0
  · exact ⟨0, 0, .inl h0, fun i hi => by omega⟩
  · obtain ⟨b, off, ha, hb, hc⟩ := h.cells h0
    exact ⟨b, off, .inr ha, fun i hi => ⟨hb, hc i hi⟩⟩
theorem owns_cnts {w : World} {base : Nat} {e : TypeId} {v : Value} {n : Nat} {L : List (Int × Int)} (h : w.ownsRow base e 2 v n (cntV L)) : ∃ a cap, v = .slice a n cap ∧ CntAt w a n cap L := by
  obtain ⟨a, cap, rfl, h1, h2, h3⟩ := owns_cells h
  have hl := h.1
  rw [cntV_len] at hl
  have hl2 : L.length = n := by omega
  refine ⟨a, cap, rfl, hl2, h1, h2, fun hn => ?_⟩
  obtain ⟨b, off, ha, hb, hc⟩ := h3 (fun e => by have := cntV_len L; rw [e] at this; simp at this; omega)
  refine ⟨b, off, ha, hb, fun i hi => ?_⟩
  have := cntV_get L i (by omega)
  exact ⟨hc _ _ this.1, hc _ _ this.2⟩
/-- The cells of a slice of counters, one by one. -/
theorem CntAt.cellsAt {w : World} {a : Option Addr} {n cap : Nat} {L : List (Int × Int)} (h : CntAt w a n cap L) (x : Addr) (ha : a = some x) (j : Nat) (u : Value) (hu : (cntV L)[j]? = some u) : w.cell? (x.add j) = some u := by
  have hl := h.len
  have hj := (List.getElem?_eq_some_iff.1 hu).1
  rw [cntV_len] at hj
  obtain ⟨b, off, ha2, _, hc⟩ := h.cells (by omega)
  rw [ha] at ha2
  obtain rfl := Option.some.inj ha2
  rw [addr_add]
  have hi := hc (j / 2) (by omega)
  have hg := cntV_get L (j / 2) (by omega)
  rcases Nat.mod_two_eq_zero_or_one j with e | e
  · have e2 : j / 2 * 2 = j := by omega
    rw [e2] at hi hg
    rw [hi.1, ← hg.1, hu]
  · have e2 : j / 2 * 2 + 1 = j := by omega
    have e3 : off + j / 2 * 2 + 1 = off + j := by omega
    rw [e3] at hi
    rw [e2] at hg
    rw [hi.2, ← hg.2, hu]
theorem info_cnt : (Tryz.prog.info? 169).map (fun i => (i.zero, i.size, i.bytes)) = some (some (.agg #[.int .i64 0, .int .i64 0]), 2, 16) := by kernel_rfl
theorem one_two (x y : Int) : ∀ u ∈ [Value.int .i64 x, Value.int .i64 y], u.oneCell' = true := by
  intro u hu; simp at hu; rcases hu with rfl | rfl <;> rfl
end Go.Proofs.YtgodgfnfaiiohaaGreatDoor
