/- An argument that is a slice of integers, opened, with what the form's own reach says of its length. -/
import Derived.Test.YtfhmckmglkjbeaaMem
import Derived.SizedLaws
namespace Go.Proofs.Ytfhmckmglkjbeaa
open Go.ChangeShapes Go.WideShapes Go.ChangeAt Go.RowKit
set_option maxRecDepth 20000
section
variable {H : Type} {enc : TypeId × Value → H} {w : World} {base : Nat} {spare : Nat → Bool} {held : Bool}
theorem ints_open_s {t e : TypeId} {a : Option Addr} {len cap : Nat} {d : DataW H} {p : List MemPlace} (ht : Try.prog.underlying t = some (.slice e)) (he : Try.prog.underlying e = some (.int .i64)) (hc : Try.prog.cellsOf e = 1)
    (h : DataW.Trod enc Try.prog w base spare held t (.slice a len cap) d p) : (∃ xs, IntsAt w a len cap xs) ∧ (a = none → cap = 0) ∧ (len = 0 ∨ ∃ el sp, d = .slice el sp ∧ len ≤ el.length + sp.length) := by
  refine ⟨ints_open ht he hc h, ?_⟩
  obtain ⟨fuel, hf⟩ := h
  rcases open_ints ht he hc hf with ⟨hcs, _⟩ | ⟨x, l, c, zs, hcs, _, hl, hm, hz, hx, _, _⟩
  · simp [Value.cells] at hcs
    obtain ⟨rfl, rfl, rfl⟩ := hcs
    exact ⟨fun _ => rfl, .inl rfl⟩
  · simp [Value.cells] at hcs
    obtain ⟨rfl, rfl, rfl⟩ := hcs
    simp only [Prod.mk.injEq] at hx
    refine ⟨(fun h => by cases h), .inr ⟨_, _, hx.1, ?_⟩⟩
    have hlz : len ≤ zs.length := by rw [hz]; split <;> omega
    simp only [lits, List.length_map, List.length_take, List.length_drop]
    omega
end
end Go.Proofs.Ytfhmckmglkjbeaa
