/- A pond in a cell of its own, and slices of numbers beside stores into other blocks. -/
import Derived.Test.YtmgagmnknhgkdaaKit
namespace Go.Proofs.Ytmgagmnknhgkdaa
open Go.ChangeShapes Go.WideShapes Go.ChangeAt Go.RowKit
set_option maxRecDepth 20000
/-- A pond in its cell. -/
structure PS (W : World) (Q : Nat) (K S : Int) (v : Value) : Prop where
  q0 : W.cell? ⟨Q, 0, none⟩ = some (.int .i64 K)
  q1 : W.cell? ⟨Q, 1, none⟩ = some (.int .i64 S)
  q2 : W.cell? ⟨Q, 2, none⟩ = some v
  fq : ∀ o, W.frozen? ⟨Q, o, none⟩ = false
theorem PS.below {W W' : World} {Q : Nat} {K S : Int} {v : Value} (h : PS W Q K S v) (hb : Below W.heap.size W W') : PS W' Q K S v :=
  ⟨ck hb h.q0, ck hb h.q1, ck hb h.q2, fun o => (hb.frozen (p := ⟨Q, o, none⟩) (show Q < _ from lt_of_cell h.q0)).trans (h.fq o)⟩
theorem PS.put {W : World} {Q : Nat} {K S : Int} {v : Value} (h : PS W Q K S v) (k2 s2 : Int) (v2 : Value) : PS (((W.setCell ⟨Q, 0, none⟩ (.int .i64 k2)).setCell ⟨Q, 1, none⟩ (.int .i64 s2)).setCell ⟨Q, 2, none⟩ v2) Q k2 s2 v2 := by
  obtain ⟨h0, h1, h2, hf⟩ := h
  exact ⟨by go_simp, by go_simp, by go_simp, fun o => by have := hf o; go_simp⟩
theorem PS.setFar {W : World} {Q : Nat} {K S : Int} {v : Value} (h : PS W Q K S v) (p : Addr) (hne : p.block ≠ Q) (u : Value) : PS (W.setCell p u) Q K S v := by
  have far : ∀ i x, W.cell? ⟨Q, i, none⟩ = some x → (W.setCell p u).cell? ⟨Q, i, none⟩ = some x := fun i x hx => by
    rw [World.cell?_setCell_far _ _ _ _ (show p.block ≠ Q from hne)]; exact hx
  exact ⟨far _ _ h.q0, far _ _ h.q1, far _ _ h.q2, fun o => by rw [World.frozen?_setCell]; exact h.fq o⟩
theorem PS.grown {W W' : World} {Q : Nat} {K S : Int} {v : Value} (h : PS W Q K S v) {r : Nat} (hg : W.grownBy W' (some r)) (hne : r ≠ Q) : PS W' Q K S v := by
  have e : some r ≠ some Q := fun e => hne (by simpa using e)
  exact ⟨gk hg h.q0 e, gk hg h.q1 e, gk hg h.q2 e, fun o => gf hg (h.fq o) (show Q < _ from lt_of_cell h.q0) e⟩
theorem ints_set3 {W : World} {a : Option Addr} {n c : Nat} {L : List Int} (h : IntsAt W a n c L) (Q : Nat) (hne : ∀ b o, a = some ⟨b, o, none⟩ → b ≠ Q) (x0 x1 x2 : Value) : IntsAt (((W.setCell ⟨Q, 0, none⟩ x0).setCell ⟨Q, 1, none⟩ x1).setCell ⟨Q, 2, none⟩ x2) a n c L :=
  ((h.setCell ⟨Q, 0, none⟩ hne x0).setCell ⟨Q, 1, none⟩ hne x1).setCell ⟨Q, 2, none⟩ hne x2
theorem ints_grownF {W W' : World} {a : Option Addr} {n c r : Nat} {xs : List Int} (h : IntsAt W a n c xs) (hg : W.grownBy W' (some r)) (hne : ∀ b o, a = some ⟨b, o, none⟩ → b ≠ r) : IntsAt W' a n c xs := by
  refine ⟨h.len, h.le, h.max, fun hx => ?_, h.bd⟩
  obtain ⟨b, off, ha, hb, hc⟩ := h.cells hx
  exact ⟨b, off, ha, Nat.lt_of_lt_of_le hb hg.size, fun i v hi => gk hg (hc i v hi) (fun e => hne b off ha (by simp only [Option.some.injEq] at e; exact e.symm))⟩
/-- A slice of the call's own that is not empty, with its block by name. -/
theorem own_some {w : World} {B : Nat} {e : TypeId} {size : Nat} {v : Value} {n : Nat} {xs : List Value} (h : w.ownsRow B e size v n xs) (hn : 1 ≤ n) (hs : 1 ≤ size) : ∃ g c, v = .slice (some ⟨g, 0, none⟩) n c ∧ n ≤ c ∧ c ≤ 9223372036854775807 ∧ B ≤ g ∧ g < w.heap.size := by
  rcases h.2 with ⟨_, h0⟩ | ⟨g, cap, cur, hv, hg, hh, h1, h2, _⟩
  · omega
  · exact ⟨g, cap, hv, h1, by unfold maxLen at h2; exact h2, hg, (Array.getElem?_eq_some_iff.1 hh).1⟩
end Go.Proofs.Ytmgagmnknhgkdaa
