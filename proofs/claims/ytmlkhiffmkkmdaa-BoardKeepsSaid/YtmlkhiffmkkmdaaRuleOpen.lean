/- An argument that is a rule, opened. -/
import Derived.Test.YtmlkhiffmkkmdaaRules
namespace Go.Proofs.Ytmlkhiffmkkmdaa
open Go.ChangeShapes Go.WideShapes Go.ChangeAt Go.RowKit
set_option maxRecDepth 20000
section
variable {H : Type} {enc : TypeId × Value → H} {w : World} {base : Nat} {spare : Nat → Bool} {held : Bool}
theorem rule_open {v : Value} {d : DataW H} {p : List MemPlace} (hv : ∃ cs, v = .agg cs ∧ cs.size = Try.prog.cellsOf 51)
    (h : DataW.Trod enc Try.prog w base spare held 51 v d p) : ∃ (s : ByteArray) (l e : Int), v = .agg #[.string s, .int .i64 l, .int .i64 e] := by
  obtain ⟨cs, rfl, hcs⟩ := hv
  obtain ⟨fuel, hf⟩ := h
  obtain ⟨xs, m, _, _, hl, hlen, hget⟩ := DataW.trod_struct Try.underlying51 hf
  have ci : Try.prog.cellsOf 3 = 1 := by kernel_rfl
  have cb : Try.prog.cellsOf 9 = 1 := by kernel_rfl
  have cf : Try.prog.cellsOf 51 = 3 := by kernel_rfl
  have h0 : DataW.trod enc Try.prog w base spare held m 9 (List.take (Try.prog.cellsOf 9) (List.drop 0 cs.toList)) = xs[0]? := hget 0 _ rfl
  have h1 : DataW.trod enc Try.prog w base spare held m 3 (List.take (Try.prog.cellsOf 3) (List.drop 1 cs.toList)) = xs[1]? := hget 1 _ rfl
  have h2 : DataW.trod enc Try.prog w base spare held m 3 (List.take (Try.prog.cellsOf 3) (List.drop 2 cs.toList)) = xs[2]? := hget 2 _ rfl
  rw [ci] at h1 h2
  rw [cb] at h0
  rw [cf] at hcs
  obtain ⟨l⟩ := cs
  simp only [List.size_toArray] at hcs
  match l, xs, hcs, hlen, h0, h1, h2 with
  | [c0, c1, c2], [x0, x1, x2], _, _, h0, h1, h2 =>
    obtain ⟨s, e0, _⟩ := DataW.trod_string Try.underlying9 (x := x0) (by simpa using h0)
    obtain ⟨t, e1, _⟩ := DataW.trod_int (k := .i64) Try.underlying3 (x := x1) (by simpa using h1)
    obtain ⟨u, e2, _⟩ := DataW.trod_int (k := .i64) Try.underlying3 (x := x2) (by simpa using h2)
    simp at e0 e1 e2
    subst e0 e1 e2
    exact ⟨s, t, u, rfl⟩
end
end Go.Proofs.Ytmlkhiffmkkmdaa
