/- Contract of the laws' own spans: the spans that it makes of lists of numbers. -/
import Derived.Test.YtmgagmnknhgkdaaSpan
import Derived.WalkSpells
namespace Go.Proofs.Ytmgagmnknhgkdaa
open Go.ChangeShapes Go.WideShapes Go.ChangeAt Go.RowKit
set_option maxRecDepth 20000

theorem SpansAt.alloc {w : World} {a : Option Addr} {n cap : Nat} {us ls : List Int} (h : SpansAt w a n cap us ls) (o : Obj) : SpansAt (w.alloc o) a n cap us ls := h.below ((Below.refl _ _).alloc (Nat.le_refl _) o)
def upf (xs : List (List Int)) (i : Nat) : Int := if 0 < (gl xs i).length then wi (gi (gl xs i) 0) ((i : Int) + 1) - 1 else -1
def lvf (xs : List (List Int)) (most : Int) (i : Nat) : Int := if 1 < (gl xs i).length then wi (gi (gl xs i) 1) (most + 1) else 0
theorem upf_bd (xs : List (List Int)) (i : Nat) : -1 ≤ upf xs i ∧ upf xs i < i := by
  unfold upf
  have := wi_lo (gi (gl xs i) 0) ((i : Int) + 1) (by omega)
  have := wi_hi (gi (gl xs i) 0) ((i : Int) + 1) (by omega)
  split <;> omega
theorem lvf_bd (xs : List (List Int)) (most : Int) (h : 0 ≤ most) (i : Nat) : 0 ≤ lvf xs most i ∧ lvf xs most i ≤ most := by
  unfold lvf
  have := wi_lo (gi (gl xs i) 1) (most + 1) (by omega)
  have := wi_hi (gi (gl xs i) 1) (most + 1) (by omega)
  split <;> omega
/-- The cells of k spans. -/
def spanCells (u l : Nat → Int) : Nat → List Value
  | 0 => []
  | k + 1 => spanCells u l k ++ [Value.int .i64 (u k), Value.int .i64 (l k)]
theorem spanCells_len (u l : Nat → Int) : ∀ k, (spanCells u l k).length = k * 2
  | 0 => rfl
  | k + 1 => by simp [spanCells, spanCells_len u l k]; omega
theorem spanCells_get (u l : Nat → Int) : ∀ k i, i < k → (spanCells u l k)[i * 2]? = some (.int .i64 (u i)) ∧ (spanCells u l k)[i * 2 + 1]? = some (.int .i64 (l i))
  | 0, i, h => by omega
  | k + 1, i, h => by
    have e := spanCells_len u l k
    by_cases hi : i < k
    · have a := spanCells_get u l k i hi
      simp only [spanCells]
      rw [List.getElem?_append_left (by omega), List.getElem?_append_left (by omega)]
      exact a
    · obtain rfl : i = k := by omega
      simp only [spanCells]
      rw [List.getElem?_append_right (by omega), List.getElem?_append_right (by omega), e]
      simp
theorem one_two (x y : Int) : ∀ u ∈ [Value.int .i64 x, Value.int .i64 y], u.oneCell' = true := by
  intro u hu; simp at hu; rcases hu with rfl | rfl <;> rfl
theorem info_span : (Try.prog.info? 64).map (fun i => (i.zero, i.size, i.bytes)) = some (some (.agg #[.int .i64 0, .int .i64 0]), 2, 16) := by kernel_rfl


/-- What the call itself has made reads as spans. -/
theorem owns_spans {w : World} {base : Nat} {e : TypeId} {v : Value} {n : Nat} {u l : Nat → Int} (h : w.ownsRow base e 2 v n (spanCells u l n)) : ∃ a cap, v = .slice a n cap ∧ SpansAt w a n cap (tab u n) (tab l n) := by
  obtain ⟨a, cap, rfl, h1, h2, h3⟩ := owns_cells h
  refine ⟨a, cap, rfl, tab_len _ _, tab_len _ _, h1, h2, fun hn => ?_⟩
  obtain ⟨b, off, ha, hb, hc⟩ := h3 (fun e => by have := spanCells_len u l n; rw [e] at this; simp at this; omega)
  refine ⟨b, off, ha, hb, fun i hi => ?_⟩
  have := spanCells_get u l n i hi
  rw [tab_gi _ _ _ hi, tab_gi _ _ _ hi]
  exact ⟨hc _ _ this.1, hc _ _ this.2⟩
theorem spans_ok (xs : List (List Int)) (most : Int) (h : 0 ≤ most) (h' : most ≤ 20) (n : Nat) : SpansOk n (tab (upf xs) n) (tab (lvf xs most) n) := by
  intro i hi
  rw [tab_gi _ _ _ hi, tab_gi _ _ _ hi]
  have := upf_bd xs i
  have := lvf_bd xs most h i
  exact ⟨by omega, by omega, by omega, by omega⟩
/-- A slice literal of one span. -/
theorem span_lit1 {w : World} {cs : List Value} {T : TypeId} {b : Nat} (u l : Int) (hbk : b = w.heap.size) (hcs : cs = [Value.int .i64 u, Value.int .i64 l]) : SpansAt (w.alloc (.cells cs.toArray T)) (some ⟨b, 0, none⟩) 1 1 [u] [l] := by
  subst hcs hbk
  refine ⟨rfl, rfl, Nat.le_refl _, by omega, fun _ => ⟨w.heap.size, 0, rfl, by simp, fun i hi => ?_⟩⟩
  have hh : (w.alloc (.cells [Value.int .i64 u, Value.int .i64 l].toArray T)).heap[w.heap.size]? = some (.cells [Value.int .i64 u, Value.int .i64 l].toArray T) := heap_alloc_new w _
  obtain rfl : i = 0 := by omega
  unfold World.cell?
  rw [hh]
  simp [gi]
theorem span_lit2 {w : World} {cs : List Value} {T : TypeId} {b : Nat} (u l u2 l2 : Int) (hbk : b = w.heap.size) (hcs : cs = [Value.int .i64 u, Value.int .i64 l, Value.int .i64 u2, Value.int .i64 l2]) : SpansAt (w.alloc (.cells cs.toArray T)) (some ⟨b, 0, none⟩) 2 2 [u, u2] [l, l2] := by
  subst hcs hbk
  refine ⟨rfl, rfl, Nat.le_refl _, by omega, fun _ => ⟨w.heap.size, 0, rfl, by simp, fun i hi => ?_⟩⟩
  have hh : (w.alloc (.cells [Value.int .i64 u, Value.int .i64 l, Value.int .i64 u2, Value.int .i64 l2].toArray T)).heap[w.heap.size]? = some (.cells [Value.int .i64 u, Value.int .i64 l, Value.int .i64 u2, Value.int .i64 l2].toArray T) := heap_alloc_new w _
  match i, hi with
  | 0, _ => unfold World.cell?; rw [hh]; simp [gi]
  | 1, _ => unfold World.cell?; rw [hh]; simp [gi]
end Go.Proofs.Ytmgagmnknhgkdaa
