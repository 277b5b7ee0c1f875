/- What the bound on an argument's bulk says of a slice's length, and of the texts of pairs. -/
import Derived.Test.YtdfghgeccannnaaDoorPairs
import Derived.Deep.SlicePairs
namespace Go.Proofs.YtdfghgeccannnaaDoor
open Go.ChangeShapes Go.WideShapes Go.ChangeAt Go.RowKit
set_option maxRecDepth 20000
theorem bulk_one {H : Type} (d : DataW H) : 1 ≤ Rows.uptoBulk d := by
  cases d with
  | lit l => cases l <;> simp [Rows.uptoBulk]
  | nil => simp [Rows.uptoBulk]
  | ptr d => simp [Rows.uptoBulk]
  | slice elems spare => simp [Rows.uptoBulk]
  | agg parts => simp [Rows.uptoBulk]
  | iface t d => simp [Rows.uptoBulk]
  | map entries => simp [Rows.uptoBulk]
  | held h => simp [Rows.uptoBulk]
theorem bulk_part {H : Type} {d : DataW H} {l : List (DataW H)} (h : d ∈ l) : Rows.uptoBulk d ≤ Rows.uptoBulkAll l := by
  induction l with
  | nil => cases h
  | cons x r ih =>
    simp only [Rows.uptoBulkAll]
    cases List.mem_cons.1 h with
    | inl e => subst e; omega
    | inr e => have := ih e; omega
theorem bulk_len {H : Type} (l : List (DataW H)) : l.length ≤ Rows.uptoBulkAll l := by
  induction l with
  | nil => simp [Rows.uptoBulkAll]
  | cons x r ih => have := bulk_one x; simp only [Rows.uptoBulkAll, List.length_cons]; omega
section
variable {H : Type} {enc : TypeId × Value → H} {w : World} {base : Nat} {spare : Nat → Bool} {held : Bool}
/-- A slice: nil has no room; its length is at most its bulk. -/
theorem slice_bulk {t e : TypeId} {a : Option Addr} {len cap : Nat} {x : DataW H × List MemPlace} {fuel : Nat} (ht : Tryd.prog.underlying t = some (.slice e)) (h : DataW.trod enc Tryd.prog w base spare held fuel t [.slice a len cap] = some x) :
    (a = none → cap = 0) ∧ len ≤ Rows.uptoBulk x.1 := by
  rcases DataW.trod_slice ht h with ⟨hcs, _⟩ | ⟨b, l, c, elems, rest, n, _, hcs, hx, _, hl, hm, hlen, _⟩
  · simp at hcs
    obtain ⟨rfl, rfl, rfl⟩ := hcs
    exact ⟨fun _ => rfl, by omega⟩
  · simp at hcs
    obtain ⟨rfl, rfl, rfl⟩ := hcs
    refine ⟨(fun h => by cases h), ?_⟩
    rw [hx]
    have h1 := bulk_len (elems.map (·.1))
    rw [List.length_map] at h1
    simp only [Rows.uptoBulk]
    omega
theorem slice_bulk' {t e : TypeId} {a : Option Addr} {len cap : Nat} {d : DataW H} {p : List MemPlace} (ht : Tryd.prog.underlying t = some (.slice e)) (h : DataW.Trod enc Tryd.prog w base spare held t (.slice a len cap) d p) :
    (a = none → cap = 0) ∧ len ≤ Rows.uptoBulk d := by
  obtain ⟨fuel, hf⟩ := h
  exact slice_bulk (x := (d, p)) ht (by simpa [Value.cells] using hf)
/-- A slice of pairs, opened, with the bound on its texts. -/
theorem pairs_bulk {a : Option Addr} {len cap : Nat} {d : DataW H} {p : List MemPlace} {L : List (ByteArray × ByteArray)} (hP : PairsAt w a len cap L)
    (h : DataW.Trod enc Tryd.prog w base spare held 22 (.slice a len cap) d p) : ∀ q ∈ L, q.1.size ≤ Rows.uptoBulk d ∧ q.2.size ≤ Rows.uptoBulk d := by
  intro q hq
  have hn : 0 < len := by rw [← hP.len]; exact List.length_pos_of_mem hq
  obtain ⟨i, hi, e⟩ := List.getElem_of_mem hq
  have hil : i < len := by rw [← hP.len]; exact hi
  obtain ⟨b, off, ha, _, hc⟩ := hP.cells hn
  have hq2 : q = (pk L i, pv L i) := by
    have := pget L i hi
    rw [List.getElem?_eq_getElem hi, e] at this
    exact Option.some.inj this
  obtain ⟨fuel, hf⟩ := h
  rcases Go.Deep.open_slice_pairs Tryd.underlying22 Tryd.underlying32 (by kernel_rfl) rfl rfl (by kernel_rfl) (by kernel_rfl) hf with ⟨hcs, _⟩ | ⟨x, l, c, m, n, V0, V1, D0, D1, P0, P1, hcs, _, hl, hm, hmm, hxx, hx⟩
  · simp [Value.cells] at hcs
    omega
  · simp [Value.cells] at hcs
    obtain ⟨h1, rfl, rfl⟩ := hcs
    rw [ha] at h1
    obtain rfl := Option.some.inj h1
    have hml : len ≤ m := by rw [hmm]; split <;> omega
    obtain ⟨g0, g1, t0, t1⟩ := hx i (by omega)
    obtain ⟨s, e0, x0, _⟩ := DataW.trod_string Tryd.underlying9 (x := (D0 i, P0 i)) t0
    obtain ⟨t, e1, x1, _⟩ := DataW.trod_string Tryd.underlying9 (x := (D1 i, P1 i)) t1
    have f0 : V0 i = .string s := by simpa using e0
    have f1 : V1 i = .string t := by simpa using e1
    have k0 := (hc i hil).1
    have k1 := (hc i hil).2
    rw [addr_add, f0] at g0
    rw [addr_add, f1, ← Nat.add_assoc] at g1
    have y0 : pk L i = s := Value.string.inj (Option.some.inj (k0.symm.trans g0))
    have y1 : pv L i = t := Value.string.inj (Option.some.inj (k1.symm.trans g1))
    have d0 : D0 i = .lit (.string s.data.toList) := by simpa using congrArg Prod.fst x0
    have d1 : D1 i = .lit (.string t.data.toList) := by simpa using congrArg Prod.fst x1
    have hd : d = .slice ((List.range len).map fun i => .agg [D0 i, D1 i]) ((List.range (m - len)).map fun j => .agg [D0 (len + j), D1 (len + j)]) := by simpa using congrArg Prod.fst hxx
    have hmem : (DataW.agg [D0 i, D1 i] : DataW H) ∈ (List.range len).map fun i => DataW.agg [D0 i, D1 i] := List.mem_map.2 ⟨i, List.mem_range.2 hil, rfl⟩
    have hb := bulk_part hmem
    rw [d0, d1] at hb
    simp only [Rows.uptoBulk, Rows.uptoBulkAll, Array.length_toList] at hb
    rw [hq2, y0, y1, hd]
    simp only [Rows.uptoBulk]
    have z0 : s.data.size = s.size := rfl
    have z1 : t.data.size = t.size := rfl
    constructor <;> (show _ ≤ _; omega)
end
end Go.Proofs.YtdfghgeccannnaaDoor
