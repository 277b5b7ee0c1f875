/- Contract of slices.Clone at truth values: a copy in new memory. -/
import Derived.Test.YtffocoflmbhknaaClone
namespace Go.Proofs.Ytffocoflmbhknaa
open Go.ChangeShapes Go.WideShapes Go.ChangeAt Go.RowKit
set_option maxRecDepth 20000

theorem bools_one (zs : List Bool) : ∀ u ∈ zs.map Value.bool, u.oneCell' = true := by
  intro u hu
  obtain ⟨_, _, rfl⟩ := List.mem_map.1 hu
  rfl
set_option maxHeartbeats 400000 in
theorem cloneb_c (a : Option Addr) (n c : Nat) (xs : List Bool) (w : World) (h : BoolsAt w a n c xs) (hn : n < 1000000000) :
    Calls Try.prog 21 #[.slice a n c] w fun e w' => ∃ v, e = .returned v ∧ w'.ownsRow w.heap.size 4 1 v n (xs.map Value.bool) ∧ Below w.heap.size w w' := by
  obtain ⟨i0, hi, hz0, hz1, hz2⟩ := info_parts info_bool
  have m := h.max
  have l := h.le
  have hl := h.len
  have qT : ∀ (w : World) (a : Option Addr) (n c n' c' : Nat), (binOp .eql 22 (.slice a n c) (.slice none n' c')).run Try.prog w = .ok (.bool a.isNone) w := fun w a n c n' c' => Lib.run_eql_slice_nil w _ _ a n c n' c' Try.underlying22
  cases a with
  | none =>
    have hn0 : n = 0 := by
      rcases Nat.eq_zero_or_pos n with hz | hz
      · exact hz
      · obtain ⟨b, o, hb, _⟩ := h.cells hz
        cases hb
    subst hn0
    have hx : xs = [] := List.eq_nil_of_length_eq_zero hl
    subst hx
    clear h hl
    go_enter Try.func21, Try.ntmps21
    go_wp2
    go_ret
    exact ⟨_, rfl, World.ownsRow_nil _ _ _ _, Below.refl _ _⟩
  | some x =>
    have hcells : ∀ o j u, (xs.map Value.bool)[j]? = some u → (w.alloc o).cell? (x.add j) = some u := by
      intro o j u hu
      obtain ⟨hj, hju⟩ := List.getElem?_eq_some_iff.1 hu
      have hj' : j < n := by simp at hj; omega
      obtain ⟨b, off, hb, hlt, hc⟩ := h.cells (by omega)
      cases hb
      rw [addr_add]
      have hq : Value.bool (gb xs j) = u := by
        rw [← hju]
        simp [gb, List.getD_eq_getElem?_getD, List.getElem?_eq_getElem (show j < xs.length by omega)]
      rw [← hq]
      exact carry_cell ⟨hlt, hc j hj'⟩ ((Below.refl _ _).alloc (Nat.le_refl _) o)
    have HC := hidp hcells
    clear hcells h
    go_enter Try.func21, Try.ntmps21
    go_wp2_with (at_builtin; refine wpList_append_own_at _ rfl (.tmp 5) (.tmp 6) 22 rfl w.heap.size 4 i0 (.bool false) 1 1 Try.underlying22 hi hz0 hz1 hz2 rfl (by decide) _ 0 [] rfl (World.ownsRow_lit w #[] 0 (Nat.le_refl _) (by unfold maxLen; omega) rfl) x n c (xs.map Value.bool) rfl (by simp; omega) (HC.out _) (bools_one _) (by unfold maxLen; omega) (by omega) (by simp) ?_; intro v1 w1 h1 h2 h3 h4)
    go_ret
    refine ⟨_, rfl, by simpa using h1, ((Below.refl _ _).alloc (Nat.le_refl _) _).grown h2 (by simp) (fun k hk => by cases hk; exact Nat.le_refl _)⟩
end Go.Proofs.Ytffocoflmbhknaa
