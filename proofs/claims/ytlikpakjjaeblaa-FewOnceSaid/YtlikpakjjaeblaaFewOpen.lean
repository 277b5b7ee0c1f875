/- An argument that is a few, opened. -/
import Derived.Test.YtlikpakjjaeblaaFewMore
import Derived.Deep.SlicePairs
namespace Go.Proofs.Ytlikpakjjaeblaa
open Go.ChangeShapes Go.WideShapes Go.ChangeAt Go.RowKit
set_option maxRecDepth 20000
section
variable {H : Type} {enc : TypeId × Value → H} {w : World} {base : Nat} {spare : Nat → Bool} {held : Bool}
theorem choose_pairs {n : Nat} {q : Nat → Int × Int → Prop} (h : ∀ i, i < n → ∃ x, q i x) : ∃ l : List (Int × Int), l.length = n ∧ ∀ i x, l[i]? = some x → q i x := choose_list h
theorem cnts_open {a : Option Addr} {len cap : Nat} {d : DataW H} {p : List MemPlace}
    (h : DataW.Trod enc Try.prog w base spare held 43 (.slice a len cap) d p) : ∃ L, CntAt w a len cap L := by
  obtain ⟨fuel, hf⟩ := h
  rcases Go.Deep.open_slice_pairs Try.underlying43 Try.underlying51 (by kernel_rfl) rfl rfl (by kernel_rfl) (by kernel_rfl) hf with ⟨hcs, _⟩ | ⟨x, l, c, m, n, V0, V1, D0, D1, P0, P1, hcs, _, hl, hm, hmm, _, hx⟩
  · simp [Value.cells] at hcs
    obtain ⟨rfl, rfl, rfl⟩ := hcs
    exact ⟨[], cnt_nil w⟩
  · simp [Value.cells] at hcs
    obtain ⟨rfl, rfl, rfl⟩ := hcs
    have hml : len ≤ m := by rw [hmm]; split <;> omega
    unfold maxLen at hm
    obtain ⟨xs, hxl, hxg⟩ := choose_list (q := fun i (y : Int × Int) => V0 i = .int .i64 y.1 ∧ V1 i = .int .i64 y.2) (n := len) (fun i hi => by
      obtain ⟨_, _, h0, h1⟩ := hx i (by omega)
      obtain ⟨s, e0, _⟩ := DataW.trod_int (k := .i64) Try.underlying3 (x := (D0 i, P0 i)) h0
      obtain ⟨t, e1, _⟩ := DataW.trod_int (k := .i64) Try.underlying3 (x := (D1 i, P1 i)) h1
      exact ⟨(s, t), by simpa using e0, by simpa using e1⟩)
    refine ⟨xs, hxl, hl, hm, fun hpos => ?_⟩
    have c0 := (hx 0 (by omega)).1
    obtain ⟨b, off, spot⟩ := x
    have hspot : spot = none := by simpa [Addr.add] using World.cell?_spot c0
    subst hspot
    refine ⟨b, off, rfl, ?_, fun i hi => ?_⟩
    · have := lt_of_cell c0
      rw [addr_add] at this
      exact this
    · obtain ⟨g0, g1, _⟩ := hx i (by omega)
      obtain ⟨e0, e1⟩ := hxg i (ckey xs i, cnum xs i) (cget xs i (by omega))
      rw [addr_add, e0] at g0
      rw [addr_add, e1] at g1
      exact ⟨g0, by rw [Nat.add_assoc]; exact g1⟩
theorem few_open {v : Value} {d : DataW H} {p : List MemPlace} (hv : ∃ cs, v = .agg cs ∧ cs.size = Try.prog.cellsOf 45)
    (h : DataW.Trod enc Try.prog w base spare held 45 v d p) : ∃ (K lost : Int) (a : Option Addr) (n c : Nat) (L : List (Int × Int)), v = fewV K lost a n c ∧ CntAt w a n c L := by
  obtain ⟨cs, rfl, hcs⟩ := hv
  obtain ⟨fuel, hf⟩ := h
  obtain ⟨xs, m, _, _, hl, hlen, hget⟩ := DataW.trod_struct Try.underlying45 hf
  have ci : Try.prog.cellsOf 3 = 1 := by kernel_rfl
  have cb : Try.prog.cellsOf 43 = 1 := by kernel_rfl
  have cf : Try.prog.cellsOf 45 = 3 := by kernel_rfl
  have h0 : DataW.trod enc Try.prog w base spare held m 3 (List.take (Try.prog.cellsOf 3) (List.drop 0 cs.toList)) = xs[0]? := hget 0 _ rfl
  have h1 : DataW.trod enc Try.prog w base spare held m 3 (List.take (Try.prog.cellsOf 3) (List.drop 1 cs.toList)) = xs[1]? := hget 1 _ rfl
  have h2 : DataW.trod enc Try.prog w base spare held m 43 (List.take (Try.prog.cellsOf 43) (List.drop 2 cs.toList)) = xs[2]? := hget 2 _ rfl
  rw [ci] at h0 h1
  rw [cb] at h2
  rw [cf] at hcs
  obtain ⟨l⟩ := cs
  simp only [List.size_toArray] at hcs
  match l, xs, hcs, hlen, h0, h1, h2 with
  | [c0, c1, c2], [x0, x1, x2], _, _, h0, h1, h2 =>
    obtain ⟨s, e0, _⟩ := DataW.trod_int (k := .i64) Try.underlying3 (x := x0) (by simpa using h0)
    obtain ⟨t, e1, _⟩ := DataW.trod_int (k := .i64) Try.underlying3 (x := x1) (by simpa using h1)
    have h2' : DataW.trod enc Try.prog w base spare held m 43 [c2] = some x2 := by simpa using h2
    simp at e0 e1
    subst e0 e1
    have hs : ∃ a n c, c2 = .slice a n c := by
      rcases DataW.trod_slice Try.underlying43 h2' with ⟨h, _⟩ | ⟨x, l, c, _, _, _, _, h, _⟩
      · simp at h; exact ⟨_, _, _, h⟩
      · simp at h; exact ⟨_, _, _, h⟩
    obtain ⟨a, n, c, rfl⟩ := hs
    obtain ⟨L, hL⟩ := cnts_open (a := a) (len := n) (cap := c) (d := x2.1) (p := x2.2) ⟨m, by simpa [Value.cells] using h2'⟩
    exact ⟨s, t, a, n, c, L, rfl, hL⟩
end
end Go.Proofs.Ytlikpakjjaeblaa
