/- Slices of rules. -/
import Derived.Test.YtgodgfnfaiiohaaGreatDoorKit
namespace Go.Proofs.YtgodgfnfaiiohaaGreatDoor
open Go.ChangeShapes Go.WideShapes Go.ChangeAt Go.RowKit
set_option maxRecDepth 20000
abbrev Rl := ByteArray × Int × Int
def nilRl : Rl := (⟨#[]⟩, 0, 0)
def rp (L : List Rl) (i : Nat) : ByteArray := (L.getD i nilRl).1
def rl (L : List Rl) (i : Nat) : Int := (L.getD i nilRl).2.1
def re (L : List Rl) (i : Nat) : Int := (L.getD i nilRl).2.2
theorem rget (L : List Rl) (i : Nat) (h : i < L.length) : L[i]? = some (rp L i, rl L i, re L i) := by
  unfold rp rl re
  rw [List.getD_eq_getElem?_getD, List.getElem?_eq_getElem h]; rfl
theorem rmem (L : List Rl) (i : Nat) (h : i < L.length) : (rp L i, rl L i, re L i) ∈ L := List.mem_of_getElem? (rget L i h)
def rlV (r : Rl) : List Value := [.string r.1, .int .i64 r.2.1, .int .i64 r.2.2]
/-- The cells of rules. -/
def rsV : List Rl → List Value
  | [] => []
  | p :: l => Value.string p.1 :: Value.int .i64 p.2.1 :: Value.int .i64 p.2.2 :: rsV l
theorem rsV_append (l : List Rl) : ∀ m, rsV (m ++ l) = rsV m ++ rsV l
  | [] => rfl
  | p :: m => by simp only [List.cons_append, rsV]; rw [rsV_append l m]
theorem rsV_len : ∀ l, (rsV l).length = l.length * 3
  | [] => rfl
  | p :: l => by simp only [rsV, List.length_cons]; rw [rsV_len l]; omega
theorem rsV_get : ∀ (l : List Rl) i, i < l.length → (rsV l)[i * 3]? = some (.string (rp l i)) ∧ (rsV l)[i * 3 + 1]? = some (.int .i64 (rl l i)) ∧ (rsV l)[i * 3 + 2]? = some (.int .i64 (re l i))
  | [], i, h => by simp at h
  | p :: l, 0, _ => ⟨rfl, rfl, rfl⟩
  | p :: l, i + 1, h => by
    have := rsV_get l i (by simpa using h)
    rw [show (i + 1) * 3 = i * 3 + 1 + 1 + 1 by omega]
    simp only [rsV, List.getElem?_cons_succ]
    exact this
theorem rsV_one : ∀ (l : List Rl), ∀ u ∈ rsV l, u.oneCell' = true
  | [], u, h => by simp [rsV] at h
  | p :: l, u, h => by
    simp only [rsV, List.mem_cons] at h
    rcases h with rfl | rfl | rfl | h
    · rfl
    · rfl
    · rfl
    · exact rsV_one l u h
/-- A slice of rules. -/
structure RulesAt (w : World) (a : Option Addr) (n cap : Nat) (L : List Rl) : Prop where
  len : L.length = n
  le : n ≤ cap
  max : cap ≤ 9223372036854775807
  cells : 0 < n → ∃ b off, a = some ⟨b, off, none⟩ ∧ b < w.heap.size ∧ ∀ i, i < n → w.cell? ⟨b, off + i * 3, none⟩ = some (.string (rp L i)) ∧ w.cell? ⟨b, off + i * 3 + 1, none⟩ = some (.int .i64 (rl L i)) ∧ w.cell? ⟨b, off + i * 3 + 2, none⟩ = some (.int .i64 (re L i))
theorem RulesAt.below {w w' : World} {a : Option Addr} {n cap : Nat} {L : List Rl} (h : RulesAt w a n cap L) (hb : Below w.heap.size w w') : RulesAt w' a n cap L := by
  refine ⟨h.len, h.le, h.max, fun hn => ?_⟩
  obtain ⟨b, off, rfl, hlt, hc⟩ := h.cells hn
  exact ⟨b, off, rfl, Nat.lt_of_lt_of_le hlt hb.size, fun i hi => ⟨ck hb (hc i hi).1, ck hb (hc i hi).2.1, ck hb (hc i hi).2.2⟩⟩
theorem RulesAt.split {w : World} {a : Option Addr} {n cap : Nat} {L : List Rl} (h : RulesAt w a n cap L) : ∃ b off, (n = 0 ∨ a = some ⟨b, off, none⟩) ∧ ∀ i, i < n → b < w.heap.size ∧ w.cell? ⟨b, off + i * 3, none⟩ = some (.string (rp L i)) ∧ w.cell? ⟨b, off + i * 3 + 1, none⟩ = some (.int .i64 (rl L i)) ∧ w.cell? ⟨b, off + i * 3 + 2, none⟩ = some (.int .i64 (re L i)) := by
  rcases Nat.eq_zero_or_pos n with h0 | h0
  · exact ⟨0, 0, .inl h0, fun i hi => by omega⟩
  · obtain ⟨b, off, ha, hb, hc⟩ := h.cells h0
    exact ⟨b, off, .inr ha, fun i hi => ⟨hb, hc i hi⟩⟩
theorem RulesAt.addr0 {w : World} {a : Option Addr} {n cap : Nat} {L : List Rl} (h : RulesAt w a n cap L) (hn : 0 < n) : ∃ b off, a = some ⟨b, off, none⟩ ∧ b < w.heap.size := by
  obtain ⟨b, off, ha, hb, _⟩ := h.cells hn
  exact ⟨b, off, ha, hb⟩
theorem owns_rules {w : World} {base : Nat} {e : TypeId} {v : Value} {n : Nat} {L : List Rl} (h : w.ownsRow base e 3 v n (rsV L)) : ∃ a cap, v = .slice a n cap ∧ RulesAt w a n cap L := by
  obtain ⟨a, cap, rfl, h1, h2, h3⟩ := owns_cells h
  have hl := h.1
  rw [rsV_len] at hl
  have hl2 : L.length = n := by omega
  refine ⟨a, cap, rfl, hl2, h1, h2, fun hn => ?_⟩
  obtain ⟨b, off, ha, hb, hc⟩ := h3 (fun e => by have := rsV_len L; rw [e] at this; simp at this; omega)
  refine ⟨b, off, ha, hb, fun i hi => ?_⟩
  have := rsV_get L i (by omega)
  exact ⟨hc _ _ this.1, hc _ _ this.2.1, hc _ _ this.2.2⟩
/-- The cells of a slice of rules, one by one. -/
theorem RulesAt.cellsAt {w : World} {a : Option Addr} {n cap : Nat} {L : List Rl} (h : RulesAt w a n cap L) (x : Addr) (ha : a = some x) (j : Nat) (u : Value) (hu : (rsV L)[j]? = some u) : w.cell? (x.add j) = some u := by
  have hl := h.len
  have hj := (List.getElem?_eq_some_iff.1 hu).1
  rw [rsV_len] at hj
  obtain ⟨b, off, ha2, _, hc⟩ := h.cells (by omega)
  rw [ha] at ha2
  obtain rfl := Option.some.inj ha2
  rw [addr_add]
  have hi := hc (j / 3) (by omega)
  have hg := rsV_get L (j / 3) (by omega)
  rcases (by omega : j % 3 = 0 ∨ j % 3 = 1 ∨ j % 3 = 2) with e | e | e
  · have e2 : j / 3 * 3 = j := by omega
    rw [e2] at hi hg
    rw [hi.1, ← hg.1, hu]
  · have e2 : j / 3 * 3 + 1 = j := by omega
    have e3 : off + j / 3 * 3 + 1 = off + j := by omega
    rw [e3] at hi
    rw [e2] at hg
    rw [hi.2.1, ← hg.2.1, hu]
  · have e2 : j / 3 * 3 + 2 = j := by omega
    have e3 : off + j / 3 * 3 + 2 = off + j := by omega
    rw [e3] at hi
    rw [e2] at hg
    rw [hi.2.2, ← hg.2.2, hu]
theorem info_rule : (Tryz.prog.info? 146).map (fun i => (i.zero, i.size, i.bytes)) = some (some (.agg #[.string ⟨#[]⟩, .int .i64 0, .int .i64 0]), 3, 32) := by kernel_rfl
theorem one_rlV (r : Rl) : ∀ u ∈ rlV r, u.oneCell' = true := by
  intro u hu; simp [rlV] at hu; rcases hu with rfl | rfl | rfl <;> rfl
end Go.Proofs.YtgodgfnfaiiohaaGreatDoor
