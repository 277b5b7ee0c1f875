/- An argument that is a mark, opened. -/
import Derived.Test.YtdfghgeccannnaaDoorSet
namespace Go.Proofs.YtdfghgeccannnaaDoor
open Go.ChangeShapes Go.WideShapes Go.ChangeAt Go.RowKit
set_option maxRecDepth 20000
section
variable {H : Type} {enc : TypeId × Value → H} {w : World} {base : Nat} {spare : Nat → Bool} {held : Bool}
theorem mark_open {v : Value} {d : DataW H} {p : List MemPlace} (hv : ∃ cs, v = .agg cs ∧ cs.size = Tryd.prog.cellsOf 26)
    (h : DataW.Trod enc Tryd.prog w base spare held 26 v d p) : ∃ (th rv : Int) (ht hr : Bool), v = markV th rv ht hr := by
  obtain ⟨cs, rfl, hcs⟩ := hv
  obtain ⟨fuel, hf⟩ := h
  obtain ⟨xs, m, _, _, hl, hlen, hget⟩ := DataW.trod_struct Tryd.underlying26 hf
  have ci : Tryd.prog.cellsOf 3 = 1 := by kernel_rfl
  have cb : Tryd.prog.cellsOf 4 = 1 := by kernel_rfl
  have cf : Tryd.prog.cellsOf 26 = 4 := by kernel_rfl
  have h0 : DataW.trod enc Tryd.prog w base spare held m 3 (List.take (Tryd.prog.cellsOf 3) (List.drop 0 cs.toList)) = xs[0]? := hget 0 _ rfl
  have h1 : DataW.trod enc Tryd.prog w base spare held m 3 (List.take (Tryd.prog.cellsOf 3) (List.drop 1 cs.toList)) = xs[1]? := hget 1 _ rfl
  have h2 : DataW.trod enc Tryd.prog w base spare held m 4 (List.take (Tryd.prog.cellsOf 4) (List.drop 2 cs.toList)) = xs[2]? := hget 2 _ rfl
  have h3 : DataW.trod enc Tryd.prog w base spare held m 4 (List.take (Tryd.prog.cellsOf 4) (List.drop 3 cs.toList)) = xs[3]? := hget 3 _ rfl
  rw [ci] at h0 h1
  rw [cb] at h2 h3
  rw [cf] at hcs
  obtain ⟨l⟩ := cs
  simp only [List.size_toArray] at hcs
  match l, xs, hcs, hlen, h0, h1, h2, h3 with
  | [c0, c1, c2, c3], [x0, x1, x2, x3], _, _, h0, h1, h2, h3 =>
    obtain ⟨s, e0, _⟩ := DataW.trod_int (k := .i64) Tryd.underlying3 (x := x0) (by simpa using h0)
    obtain ⟨t, e1, _⟩ := DataW.trod_int (k := .i64) Tryd.underlying3 (x := x1) (by simpa using h1)
    obtain ⟨u, e2⟩ := DataW.trod_bool Tryd.underlying4 (x := x2) (by simpa using h2)
    obtain ⟨y, e3⟩ := DataW.trod_bool Tryd.underlying4 (x := x3) (by simpa using h3)
    simp at e0 e1 e2 e3
    obtain ⟨e2, _⟩ := e2
    obtain ⟨e3, _⟩ := e3
    subst e0 e1 e2 e3
    exact ⟨s, t, u, y, rfl⟩
end
end Go.Proofs.YtdfghgeccannnaaDoor
