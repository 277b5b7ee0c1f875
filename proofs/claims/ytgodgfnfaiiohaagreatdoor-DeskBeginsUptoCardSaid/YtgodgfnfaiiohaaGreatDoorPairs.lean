/- Slices of pairs of texts. -/
import Derived.Test.YtgodgfnfaiiohaaGreatDoorKit
import Derived.Test.YtgodgfnfaiiohaaGreatDoorMgParse
import Derived.Deep.SlicePairs
namespace Go.Proofs.YtgodgfnfaiiohaaGreatDoor
open Go.ChangeShapes Go.WideShapes Go.ChangeAt Go.RowKit
set_option maxRecDepth 20000
def nilT : ByteArray := ⟨#[]⟩
def pk (L : List (ByteArray × ByteArray)) (i : Nat) : ByteArray := (L.getD i (nilT, nilT)).1
def pv (L : List (ByteArray × ByteArray)) (i : Nat) : ByteArray := (L.getD i (nilT, nilT)).2
theorem pget (L : List (ByteArray × ByteArray)) (i : Nat) (h : i < L.length) : L[i]? = some (pk L i, pv L i) := by
  unfold pk pv
  rw [List.getD_eq_getElem?_getD, List.getElem?_eq_getElem h]; rfl
theorem pmem (L : List (ByteArray × ByteArray)) (i : Nat) (h : i < L.length) : (pk L i, pv L i) ∈ L := List.mem_of_getElem? (pget L i h)
theorem ptake (L : List (ByteArray × ByteArray)) (k : Nat) (h : k < L.length) : L.take (k + 1) = L.take k ++ [(pk L k, pv L k)] := by
  rw [List.take_add_one, pget L k h]; rfl
/-- The cells of pairs. -/
def psV : List (ByteArray × ByteArray) → List Value
  | [] => []
  | p :: l => Value.string p.1 :: Value.string p.2 :: psV l
theorem psV_append (l : List (ByteArray × ByteArray)) : ∀ m, psV (m ++ l) = psV m ++ psV l
  | [] => rfl
  | p :: m => by simp only [List.cons_append, psV]; rw [psV_append l m]
theorem psV_snoc (m : List (ByteArray × ByteArray)) (x y : ByteArray) : psV (m ++ [(x, y)]) = psV m ++ [Value.string x, Value.string y] := psV_append _ _
theorem psV_len : ∀ l, (psV l).length = l.length * 2
  | [] => rfl
  | p :: l => by simp only [psV, List.length_cons]; rw [psV_len l]; omega
theorem psV_get : ∀ (l : List (ByteArray × ByteArray)) i, i < l.length → (psV l)[i * 2]? = some (.string (pk l i)) ∧ (psV l)[i * 2 + 1]? = some (.string (pv l i))
  | [], i, h => by simp at h
  | p :: l, 0, _ => ⟨rfl, rfl⟩
  | p :: l, i + 1, h => by
    have := psV_get l i (by simpa using h)
    rw [show (i + 1) * 2 = i * 2 + 1 + 1 by omega]
    simp only [psV, List.getElem?_cons_succ]
    exact this
/-- A slice of pairs. -/
structure PairsAt (w : World) (a : Option Addr) (n cap : Nat) (L : List (ByteArray × ByteArray)) : Prop where
  len : L.length = n
  le : n ≤ cap
  max : cap ≤ 9223372036854775807
  cells : 0 < n → ∃ b off, a = some ⟨b, off, none⟩ ∧ b < w.heap.size ∧ ∀ i, i < n → w.cell? ⟨b, off + i * 2, none⟩ = some (.string (pk L i)) ∧ w.cell? ⟨b, off + i * 2 + 1, none⟩ = some (.string (pv L i))
  sz : ∀ p ∈ L, p.1.size ≤ 9223372036854775807 ∧ p.2.size ≤ 9223372036854775807
theorem PairsAt.below {w w' : World} {a : Option Addr} {n cap : Nat} {L : List (ByteArray × ByteArray)} (h : PairsAt w a n cap L) (hb : Below w.heap.size w w') : PairsAt w' a n cap L := by
  refine ⟨h.len, h.le, h.max, fun hn => ?_, h.sz⟩
  obtain ⟨b, off, rfl, hlt, hc⟩ := h.cells hn
  exact ⟨b, off, rfl, Nat.lt_of_lt_of_le hlt hb.size, fun i hi => ⟨ck hb (hc i hi).1, ck hb (hc i hi).2⟩⟩
theorem PairsAt.split {w : World} {a : Option Addr} {n cap : Nat} {L : List (ByteArray × ByteArray)} (h : PairsAt w a n cap L) : ∃ b off, (n = 0 ∨ a = some ⟨b, off, none⟩) ∧ ∀ i, i < n → b < w.heap.size ∧ w.cell? ⟨b, off + i * 2, none⟩ = some (.string (pk L i)) ∧ w.cell? ⟨b, off + i * 2 + 1, none⟩ = some (.string (pv L i)) := by
  rcases Nat.eq_zero_or_pos n with h0 | h0
  · exact ⟨0, 0, .inl h0, fun i hi => by omega⟩
  · obtain ⟨b, off, ha, hb, hc⟩ := h.cells h0
    exact ⟨b, off, .inr ha, fun i hi => ⟨hb, hc i hi⟩⟩
theorem PairsAt.addr0 {w : World} {a : Option Addr} {n cap : Nat} {L : List (ByteArray × ByteArray)} (h : PairsAt w a n cap L) (hn : 0 < n) : ∃ b off, a = some ⟨b, off, none⟩ ∧ b < w.heap.size := by
  obtain ⟨b, off, ha, hb, _⟩ := h.cells hn
  exact ⟨b, off, ha, hb⟩
theorem owns_pairs {w : World} {base : Nat} {e : TypeId} {v : Value} {n : Nat} {L : List (ByteArray × ByteArray)} (h : w.ownsRow base e 2 v n (psV L)) (hs : ∀ p ∈ L, p.1.size ≤ 9223372036854775807 ∧ p.2.size ≤ 9223372036854775807) : ∃ a cap, v = .slice a n cap ∧ PairsAt w a n cap L := by
  obtain ⟨a, cap, rfl, h1, h2, h3⟩ := owns_cells h
  have hl := h.1
  rw [psV_len] at hl
  have hl2 : L.length = n := by omega
  refine ⟨a, cap, rfl, hl2, h1, h2, fun hn => ?_, hs⟩
  obtain ⟨b, off, ha, hb, hc⟩ := h3 (fun e => by have := psV_len L; rw [e] at this; simp at this; omega)
  refine ⟨b, off, ha, hb, fun i hi => ?_⟩
  have := psV_get L i (by omega)
  exact ⟨hc _ _ this.1, hc _ _ this.2⟩
/-- The cells of a slice of pairs, one by one. -/
theorem PairsAt.cellsAt {w : World} {a : Option Addr} {n cap : Nat} {L : List (ByteArray × ByteArray)} (h : PairsAt w a n cap L) (x : Addr) (ha : a = some x) (j : Nat) (u : Value) (hu : (psV L)[j]? = some u) : w.cell? (x.add j) = some u := by
  have hl := h.len
  have hj := (List.getElem?_eq_some_iff.1 hu).1
  rw [psV_len] at hj
  obtain ⟨b, off, ha2, _, hc⟩ := h.cells (by omega)
  rw [ha] at ha2
  obtain rfl := Option.some.inj ha2
  rw [addr_add]
  have hi := hc (j / 2) (by omega)
  have hg := psV_get L (j / 2) (by omega)
  rcases Nat.mod_two_eq_zero_or_one j with e | e
  · have e2 : j / 2 * 2 = j := by omega
    rw [e2] at hi hg
    rw [hi.1, ← hg.1, hu]
  · have e2 : j / 2 * 2 + 1 = j := by omega
    have e3 : off + j / 2 * 2 + 1 = off + j := by omega
    rw [e3] at hi
    rw [e2] at hg
    rw [hi.2, ← hg.2, hu]
theorem PairsAt.take {w : World} {a : Option Addr} {n cap : Nat} {L : List (ByteArray × ByteArray)} (h : PairsAt w a n cap L) (k : Nat) (hk : k ≤ n) : PairsAt w a k cap (L.take k) := by
  have hl := h.len
  have hle := h.le
  have g : ∀ i, i < k → pk (L.take k) i = pk L i ∧ pv (L.take k) i = pv L i := fun i hi => by
    unfold pk pv
    rw [List.getD_eq_getElem?_getD, List.getD_eq_getElem?_getD, List.getElem?_take, if_pos hi]
    exact ⟨rfl, rfl⟩
  refine ⟨by rw [List.length_take]; omega, by omega, h.max, fun hn => ?_, fun p hp => h.sz p (List.mem_of_mem_take hp)⟩
  obtain ⟨b, off, ha, hb, hc⟩ := h.cells (by omega)
  exact ⟨b, off, ha, hb, fun i hi => by rw [(g i hi).1, (g i hi).2]; exact hc i (by omega)⟩
theorem info_pair : (Tryz.prog.info? 128).map (fun i => (i.zero, i.size, i.bytes)) = some (some (.agg #[.string ⟨#[]⟩, .string ⟨#[]⟩]), 2, 32) := by kernel_rfl
theorem one_twoS (x y : ByteArray) : ∀ u ∈ [Value.string x, Value.string y], u.oneCell' = true := by
  intro u hu; simp at hu; rcases hu with rfl | rfl <;> rfl
theorem toList_inj {s t : ByteArray} (h : s.toList = t.toList) : s = t := by
  rw [ByteArray.toList_eq, ByteArray.toList_eq] at h
  exact ByteArray.ext (Array.ext' h)
theorem data_inj {s t : ByteArray} (h : s.data.toList = t.data.toList) : s = t := ByteArray.ext (Array.ext' h)
theorem eqT {s t : ByteArray} (h : s = t) : (s.toList == t.toList) = true := by rw [h]; simp
theorem eqF {s t : ByteArray} (h : ¬ s = t) : (s.toList == t.toList) = false := by
  rw [beq_eq_false_iff_ne]; exact fun e => h (toList_inj e)
section
variable {H : Type} {enc : TypeId × Value → H} {w : World} {base : Nat} {spare : Nat → Bool} {held : Bool}
end
end Go.Proofs.YtgodgfnfaiiohaaGreatDoor
