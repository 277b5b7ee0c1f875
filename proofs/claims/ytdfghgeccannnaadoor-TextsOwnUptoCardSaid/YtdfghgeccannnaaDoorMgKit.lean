/- Merged: Take, Kit. -/
import Derived.Test.YtdfghgeccannnaaDoorClone
import Derived.Deep.AppendLies
import Derived.Deep.RegionHeld3
import Derived.OneCell
/- Small lemmas on slices: a part of one, where one lies. -/
namespace Go.Proofs.YtdfghgeccannnaaDoor
open Go.ChangeShapes Go.WideShapes Go.ChangeAt Go.RowKit
set_option maxRecDepth 20000

theorem IntsAt.take {w : World} {a : Option Addr} {n c : Nat} {xs : List Int} (h : IntsAt w a n c xs) (m : Nat) (hm : m ≤ n) : IntsAt w a m c (xs.take m) := by
  have hl := h.len
  refine ⟨by rw [List.length_take]; omega, Nat.le_trans hm h.le, h.max, fun hne => ?_, fun x hx => h.bd x (List.mem_of_mem_take hx)⟩
  have h1 : xs.map (Value.int .i64) ≠ [] := by
    intro e
    rw [List.map_eq_nil_iff] at e
    rw [e] at hne
    simp at hne
  obtain ⟨b, off, ha, hb, hc⟩ := h.cells h1
  refine ⟨b, off, ha, hb, fun i u hu => hc i u ?_⟩
  rw [List.map_take, List.getElem?_take] at hu
  split at hu
  · exact hu
  · cases hu
theorem owns_addr {w : World} {B : Nat} {e : TypeId} {size : Nat} {v : Value} {n : Nat} {xs : List Value} (h : w.ownsRow B e size v n xs) (hn : 0 < n) : ∃ g cap, v = .slice (some ⟨g, 0, none⟩) n cap ∧ B ≤ g ∧ g < w.heap.size ∧ n ≤ cap ∧ cap ≤ 9223372036854775807 := by
  rcases h.2 with ⟨_, h0⟩ | ⟨g, cap, cur, hv, hg, hh, hnc, hm, _⟩
  · omega
  · unfold maxLen at hm
    exact ⟨g, cap, hv, hg, (Array.getElem?_eq_some_iff.1 hh).1, hnc, hm⟩
theorem map_tab (xs : List Int) (n : Nat) (h : xs.length = n) : xs.map (Value.int .i64) = tab (fun j => Value.int .i64 (gi xs j)) n := by
  apply List.ext_getElem?
  intro i
  by_cases hi : i < n
  · rw [tab_get _ _ _ hi, List.getElem?_map, gi_get xs i (by omega)]; rfl
  · rw [List.getElem?_eq_none (by simp; omega), List.getElem?_eq_none (by rw [tab_len]; omega)]

end Go.Proofs.YtdfghgeccannnaaDoor

/- Small lemmas on cells behind calls, appends and stores. -/
namespace Go.Proofs.YtdfghgeccannnaaDoor
open Go.ChangeShapes Go.WideShapes Go.ChangeAt Go.RowKit
set_option maxRecDepth 20000

theorem owns_form {w : World} {B : Nat} {e : TypeId} {size : Nat} {v : Value} {n : Nat} {xs : List Value} (h : w.ownsRow B e size v n xs) : ∃ a cap, v = .slice a n cap ∧ n ≤ cap ∧ cap ≤ 9223372036854775807 := by
  obtain ⟨a, cap, h1, h2, h3, _⟩ := owns_cells h
  exact ⟨a, cap, h1, h2, h3⟩
theorem bcell {W w1 : World} (hb : Below W.heap.size W w1) : (∀ b o, b < W.heap.size → w1.cell? ⟨b, o, none⟩ = W.cell? ⟨b, o, none⟩) ∧ (∀ b o, b < W.heap.size → w1.frozen? ⟨b, o, none⟩ = W.frozen? ⟨b, o, none⟩) :=
  ⟨fun b o h => hb.cell (p := ⟨b, o, none⟩) h, fun b o h => hb.frozen (p := ⟨b, o, none⟩) h⟩
theorem ck {W w1 : World} {p : Addr} {v : Value} (hb : Below W.heap.size W w1) (h : W.cell? p = some v) : w1.cell? p = some v := (hb.cell (lt_of_cell h)).trans h
theorem ca {W : World} {p : Addr} {v : Value} (h : W.cell? p = some v) (o : Obj) : (W.alloc o).cell? p = some v := ck ((Below.refl _ _).alloc (Nat.le_refl _) o) h
theorem gk {W w1 : World} {row : Option Nat} {p : Addr} {v : Value} (hg : W.grownBy w1 row) (h : W.cell? p = some v) (hne : row ≠ some p.block) : w1.cell? p = some v := (hg.cell_far p (lt_of_cell h) (Ne.symm hne)).trans h
theorem gf {W w1 : World} {row : Option Nat} {p : Addr} (hg : W.grownBy w1 row) (h : W.frozen? p = false) (hlt : p.block < W.heap.size) (hne : row ≠ some p.block) : w1.frozen? p = false := (hg.frozen_far p hlt (Ne.symm hne)).trans h
theorem owns_far {w : World} {base : Nat} {e : TypeId} {size : Nat} {a : Option Addr} {n c m : Nat} {xs : List Value} (h : w.ownsRow base e size (.slice a n c) m xs) : ∀ b o, a = some ⟨b, o, none⟩ → base ≤ b ∧ b < w.heap.size := by
  intro b o hb
  subst hb
  rcases h.2 with ⟨h0, _⟩ | ⟨g, cap, cur, hv, hg, hh, _⟩
  · cases h0
  · simp only [Value.slice.injEq, Option.some.injEq, Addr.mk.injEq] at hv
    obtain ⟨⟨rfl, _, _⟩, _, _⟩ := hv
    exact ⟨hg, (Array.getElem?_eq_some_iff.1 hh).1⟩
theorem IntsAt.setCell {w : World} {a : Option Addr} {n c : Nat} {xs : List Int} (h : IntsAt w a n c xs) (p : Addr) (hne : ∀ b o, a = some ⟨b, o, none⟩ → b ≠ p.block) (u : Value) : IntsAt (w.setCell p u) a n c xs := by
  refine ⟨h.len, h.le, h.max, fun hx => ?_, h.bd⟩
  obtain ⟨b, off, ha, hb, hc⟩ := h.cells hx
  refine ⟨b, off, ha, by simpa using hb, fun i v hi => ?_⟩
  rw [World.cell?_setCell_far _ _ _ _ (fun e => hne b off ha e.symm)]
  exact hc i v hi
theorem ints_cell {W : World} {b o n c : Nat} {xs : List Int} (h : IntsAt W (some ⟨b, o, none⟩) n c xs) (i : Nat) (hi : i < n) : W.cell? ⟨b, o + i, none⟩ = some (.int .i64 (gi xs i)) := by
  obtain ⟨b', o', he, _, hc⟩ := h.addr (by omega)
  simp only [Option.some.injEq, Addr.mk.injEq] at he
  obtain ⟨rfl, rfl, _⟩ := he
  exact hc i hi
theorem owns_heap {w w' : World} {base : Nat} {e : TypeId} {size : Nat} {g n cap m : Nat} {xs : List Value} (h : w.ownsRow base e size (.slice (some ⟨g, 0, none⟩) n cap) m xs) (hh : w'.heap[g]? = w.heap[g]?) : w'.ownsRow base e size (.slice (some ⟨g, 0, none⟩) n cap) m xs := by
  refine ⟨h.1, ?_⟩
  rcases h.2 with h0 | ⟨g', cap', cur, hv, hg, hc, r⟩
  · exact .inl h0
  · have hv' := hv
    simp only [Value.slice.injEq, Option.some.injEq, Addr.mk.injEq] at hv'
    obtain ⟨⟨rfl, _, _⟩, _, _⟩ := hv'
    exact .inr ⟨g, cap', cur, hv, hg, hh.trans hc, r⟩
theorem below_new {W W1 : World} (h : W.grownBy W1 none) : Below W.heap.size W W1 := (Below.refl _ _).grown h (Nat.le_refl _) (fun k hk => by cases hk)
end Go.Proofs.YtdfghgeccannnaaDoor
