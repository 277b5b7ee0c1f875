/- Small lemmas on slices: a part of one, where one lies. -/
import Derived.Test.YtgodgfnfaiiohaaGreatDoorClone
namespace Go.Proofs.YtgodgfnfaiiohaaGreatDoor
open Go.ChangeShapes Go.WideShapes Go.ChangeAt Go.RowKit
set_option maxRecDepth 20000

theorem IntsAt.take {w : World} {a : Option Addr} {n c : Nat} {xs : List Int} (h : IntsAt w a n c xs) (m : Nat) (hm : m ≤ n) : IntsAt w a m c (xs.take m) := by
  have hl := h.len
  refine ⟨by rw [List.length_take]; omega, Nat.le_trans hm h.le, h.max, fun hne => ?_, fun x hx => h.bd x (List.mem_of_mem_take hx)⟩
  have h1 : xs.map (Value.int .i64) ≠ [] := by
    intro e
    rw [List.map_eq_nil_iff] at e
    rw [e] at hne
    simp at hne
  obtain ⟨b, off, ha, hb, hc⟩ := h.cells h1
  refine ⟨b, off, ha, hb, fun i u hu => hc i u ?_⟩
  rw [List.map_take, List.getElem?_take] at hu
  split at hu
  · exact hu
  · cases hu
theorem owns_addr {w : World} {B : Nat} {e : TypeId} {size : Nat} {v : Value} {n : Nat} {xs : List Value} (h : w.ownsRow B e size v n xs) (hn : 0 < n) : ∃ g cap, v = .slice (some ⟨g, 0, none⟩) n cap ∧ B ≤ g ∧ g < w.heap.size ∧ n ≤ cap ∧ cap ≤ 9223372036854775807 := by
  rcases h.2 with ⟨_, h0⟩ | ⟨g, cap, cur, hv, hg, hh, hnc, hm, _⟩
  · omega
  · unfold maxLen at hm
    exact ⟨g, cap, hv, hg, (Array.getElem?_eq_some_iff.1 hh).1, hnc, hm⟩
theorem map_tab (xs : List Int) (n : Nat) (h : xs.length = n) : xs.map (Value.int .i64) = tab (fun j => Value.int .i64 (gi xs j)) n := by
  apply List.ext_getElem?
  intro i
  by_cases hi : i < n
  · rw [tab_get _ _ _ hi, List.getElem?_map, gi_get xs i (by omega)]; rfl
  · rw [List.getElem?_eq_none (by simp; omega), List.getElem?_eq_none (by rw [tab_len]; omega)]

end Go.Proofs.YtgodgfnfaiiohaaGreatDoor
