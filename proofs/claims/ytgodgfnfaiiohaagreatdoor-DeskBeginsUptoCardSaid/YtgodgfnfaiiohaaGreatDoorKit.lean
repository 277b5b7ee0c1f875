/- Small lemmas on cells behind calls, appends and stores. -/
import Derived.Test.YtgodgfnfaiiohaaGreatDoorTake
import Derived.Deep.AppendLies
import Derived.Deep.RegionHeld3
import Derived.OneCell
namespace Go.Proofs.YtgodgfnfaiiohaaGreatDoor
open Go.ChangeShapes Go.WideShapes Go.ChangeAt Go.RowKit
set_option maxRecDepth 20000

theorem owns_form {w : World} {B : Nat} {e : TypeId} {size : Nat} {v : Value} {n : Nat} {xs : List Value} (h : w.ownsRow B e size v n xs) : ∃ a cap, v = .slice a n cap ∧ n ≤ cap ∧ cap ≤ 9223372036854775807 := by
  obtain ⟨a, cap, h1, h2, h3, _⟩ := owns_cells h
  exact ⟨a, cap, h1, h2, h3⟩
theorem bcell {W w1 : World} (hb : Below W.heap.size W w1) : (∀ b o, b < W.heap.size → w1.cell? ⟨b, o, none⟩ = W.cell? ⟨b, o, none⟩) ∧ (∀ b o, b < W.heap.size → w1.frozen? ⟨b, o, none⟩ = W.frozen? ⟨b, o, none⟩) :=
  ⟨fun b o h => hb.cell (p := ⟨b, o, none⟩) h, fun b o h => hb.frozen (p := ⟨b, o, none⟩) h⟩
theorem ck {W w1 : World} {p : Addr} {v : Value} (hb : Below W.heap.size W w1) (h : W.cell? p = some v) : w1.cell? p = some v := (hb.cell (lt_of_cell h)).trans h
theorem ca {W : World} {p : Addr} {v : Value} (h : W.cell? p = some v) (o : Obj) : (W.alloc o).cell? p = some v := ck ((Below.refl _ _).alloc (Nat.le_refl _) o) h
theorem gk {W w1 : World} {row : Option Nat} {p : Addr} {v : Value} (hg : W.grownBy w1 row) (h : W.cell? p = some v) (hne : row ≠ some p.block) : w1.cell? p = some v := (hg.cell_far p (lt_of_cell h) (Ne.symm hne)).trans h
theorem gf {W w1 : World} {row : Option Nat} {p : Addr} (hg : W.grownBy w1 row) (h : W.frozen? p = false) (hlt : p.block < W.heap.size) (hne : row ≠ some p.block) : w1.frozen? p = false := (hg.frozen_far p hlt (Ne.symm hne)).trans h
theorem IntsAt.setCell {w : World} {a : Option Addr} {n c : Nat} {xs : List Int} (h : IntsAt w a n c xs) (p : Addr) (hne : ∀ b o, a = some ⟨b, o, none⟩ → b ≠ p.block) (u : Value) : IntsAt (w.setCell p u) a n c xs := by
  refine ⟨h.len, h.le, h.max, fun hx => ?_, h.bd⟩
  obtain ⟨b, off, ha, hb, hc⟩ := h.cells hx
  refine ⟨b, off, ha, by simpa using hb, fun i v hi => ?_⟩
  rw [World.cell?_setCell_far _ _ _ _ (fun e => hne b off ha e.symm)]
  exact hc i v hi
theorem below_new {W W1 : World} (h : W.grownBy W1 none) : Below W.heap.size W W1 := (Below.refl _ _).grown h (Nat.le_refl _) (fun k hk => by cases hk)
end Go.Proofs.YtgodgfnfaiiohaaGreatDoor
