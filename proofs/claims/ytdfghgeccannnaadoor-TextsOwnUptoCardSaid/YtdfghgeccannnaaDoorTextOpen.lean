/- Arguments that are slices of spans and of rules, opened. -/
import Derived.Test.YtdfghgeccannnaaDoorMgXTAll
import Derived.Deep.SlicePairs
namespace Go.Proofs.YtdfghgeccannnaaDoor
open Go.ChangeShapes Go.WideShapes Go.ChangeAt Go.RowKit
set_option maxRecDepth 20000
section
variable {H : Type} {enc : TypeId × Value → H} {w : World} {base : Nat} {spare : Nat → Bool} {held : Bool}
theorem spans_open {a : Option Addr} {len cap : Nat} {d : DataW H} {p : List MemPlace}
    (h : DataW.Trod enc Tryd.prog w base spare held 23 (.slice a len cap) d p) : ∃ us ls, SpansAt w a len cap us ls := by
  obtain ⟨fuel, hf⟩ := h
  rcases Go.Deep.open_slice_pairs Tryd.underlying23 Tryd.underlying36 (by kernel_rfl) rfl rfl (by kernel_rfl) (by kernel_rfl) hf with ⟨hcs, _⟩ | ⟨x, l, c, m, n, V0, V1, D0, D1, P0, P1, hcs, _, hl, hm, hmm, _, hx⟩
  · simp [Value.cells] at hcs
    obtain ⟨rfl, rfl, rfl⟩ := hcs
    exact ⟨[], [], rfl, rfl, Nat.le_refl _, by omega, fun h => by omega⟩
  · simp [Value.cells] at hcs
    obtain ⟨rfl, rfl, rfl⟩ := hcs
    have hml : len ≤ m := by rw [hmm]; split <;> omega
    unfold maxLen at hm
    obtain ⟨xs, hxl, hxg⟩ := choose_list (q := fun i (y : Int × Int) => V0 i = .int .i64 y.1 ∧ V1 i = .int .i64 y.2) (n := len) (fun i hi => by
      obtain ⟨_, _, h0, h1⟩ := hx i (by omega)
      obtain ⟨s, e0, _⟩ := DataW.trod_int (k := .i64) Tryd.underlying3 (x := (D0 i, P0 i)) h0
      obtain ⟨t, e1, _⟩ := DataW.trod_int (k := .i64) Tryd.underlying3 (x := (D1 i, P1 i)) h1
      exact ⟨(s, t), by simpa using e0, by simpa using e1⟩)
    refine ⟨xs.map (·.1), xs.map (·.2), by simp [hxl], by simp [hxl], hl, hm, fun hpos => ?_⟩
    have c0 := (hx 0 (by omega)).1
    obtain ⟨b, off, spot⟩ := x
    have hspot : spot = none := by simpa [Addr.add] using World.cell?_spot c0
    subst hspot
    refine ⟨b, off, rfl, ?_, fun i hi => ?_⟩
    · have := lt_of_cell c0
      rw [addr_add] at this
      exact this
    · obtain ⟨g0, g1, _⟩ := hx i (by omega)
      obtain ⟨e0, e1⟩ := hxg i (gi (xs.map (·.1)) i, gi (xs.map (·.2)) i) (by
        have hi' : i < xs.length := by omega
        simp [gi, List.getElem?_eq_getElem hi'])
      rw [addr_add, e0] at g0
      rw [addr_add, e1] at g1
      exact ⟨g0, by rw [Nat.add_assoc]; exact g1⟩
theorem rules_open {a : Option Addr} {len cap : Nat} {d : DataW H} {p : List MemPlace}
    (h : DataW.Trod enc Tryd.prog w base spare held 24 (.slice a len cap) d p) : ∃ L, RulesAt w a len cap L := by
  obtain ⟨fuel, hf⟩ := h
  rcases Go.Deep.open_slice Tryd.underlying24 hf with ⟨hcs, _⟩ | ⟨x, l, c, m, n, D, Pl, hcs, _, hl, hm, hmm, _, hx⟩
  · simp [Value.cells] at hcs
    obtain ⟨rfl, rfl, rfl⟩ := hcs
    exact ⟨[], rules_nil w⟩
  · simp [Value.cells] at hcs
    obtain ⟨rfl, rfl, rfl⟩ := hcs
    have hml : len ≤ m := by rw [hmm]; split <;> omega
    unfold maxLen at hm
    have ci : Tryd.prog.cellsOf 3 = 1 := by kernel_rfl
    have cs1 : Tryd.prog.cellsOf 9 = 1 := by kernel_rfl
    have cf : Tryd.prog.cellsOf 39 = 3 := by kernel_rfl
    obtain ⟨L, hLl, hLg⟩ := choose_list (q := fun i (y : Rl) => w.cell? (x.add (i * 3)) = some (.string y.1) ∧ w.cell? ((x.add (i * 3)).add 1) = some (.int .i64 y.2.1) ∧ w.cell? ((x.add (i * 3)).add 2) = some (.int .i64 y.2.2)) (n := len) (fun i hi => by
      obtain ⟨cs', h1, h2⟩ := hx i (by omega)
      rw [cf] at h1
      obtain ⟨_, hlen, hcell⟩ := World.cells?_some h1
      obtain ⟨xs, k, _, _, _, hxl, hget⟩ := DataW.trod_struct Tryd.underlying39 h2
      have g0 : DataW.trod enc Tryd.prog w base spare held k 9 (List.take (Tryd.prog.cellsOf 9) (List.drop 0 cs')) = xs[0]? := hget 0 _ rfl
      have g1 : DataW.trod enc Tryd.prog w base spare held k 3 (List.take (Tryd.prog.cellsOf 3) (List.drop 1 cs')) = xs[1]? := hget 1 _ rfl
      have g2 : DataW.trod enc Tryd.prog w base spare held k 3 (List.take (Tryd.prog.cellsOf 3) (List.drop 2 cs')) = xs[2]? := hget 2 _ rfl
      rw [ci] at g1 g2
      rw [cs1] at g0
      match xs, hxl, cs', hlen, g0, g1, g2, hcell with
      | [y0, y1, y2], _, [v0, v1, v2], _, g0, g1, g2, hcell =>
        obtain ⟨s, e0, _⟩ := DataW.trod_string Tryd.underlying9 (x := y0) (by simpa using g0)
        obtain ⟨t, e1, _⟩ := DataW.trod_int (k := .i64) Tryd.underlying3 (x := y1) (by simpa using g1)
        obtain ⟨u, e2, _⟩ := DataW.trod_int (k := .i64) Tryd.underlying3 (x := y2) (by simpa using g2)
        simp at e0 e1 e2
        subst e0 e1 e2
        have k0 := hcell 0 (by omega)
        have k1 := hcell 1 (by omega)
        have k2 := hcell 2 (by omega)
        exact ⟨(s, t, u), by simpa [Addr.add] using k0, by simpa using k1, by simpa using k2⟩)
    refine ⟨L, hLl, hl, hm, fun hpos => ?_⟩
    have c0 := (hLg 0 _ (rget L 0 (by omega))).1
    obtain ⟨b, off, spot⟩ := x
    have hspot : spot = none := by simpa [Addr.add] using World.cell?_spot c0
    subst hspot
    refine ⟨b, off, rfl, ?_, fun i hi => ?_⟩
    · have := lt_of_cell c0
      rw [addr_add] at this
      exact this
    · obtain ⟨g0, g1, g2⟩ := hLg i _ (rget L i (by omega))
      rw [addr_add] at g0 g1 g2
      rw [addr_add] at g1 g2
      exact ⟨g0, g1, g2⟩
end
end Go.Proofs.YtdfghgeccannnaaDoor
