/- Merged: FewOpen, BulkOpen. -/
import Derived.Test.YtffocoflmbhknaaFewMore
import Derived.Deep.SlicePairs
import Derived.Test.YtffocoflmbhknaaMgXAll
import Derived.Test.YtffocoflmbhknaaTabOpen
import Derived.Test.YtffocoflmbhknaaFiltOpen
/- An argument that is a few, opened. -/
namespace Go.Proofs.Ytffocoflmbhknaa
open Go.ChangeShapes Go.WideShapes Go.ChangeAt Go.RowKit
set_option maxRecDepth 20000
section
variable {H : Type} {enc : TypeId × Value → H} {w : World} {base : Nat} {spare : Nat → Bool} {held : Bool}
theorem choose_pairs {n : Nat} {q : Nat → Int × Int → Prop} (h : ∀ i, i < n → ∃ x, q i x) : ∃ l : List (Int × Int), l.length = n ∧ ∀ i x, l[i]? = some x → q i x := choose_list h
theorem cnts_open {a : Option Addr} {len cap : Nat} {d : DataW H} {p : List MemPlace}
    (h : DataW.Trod enc Try.prog w base spare held 28 (.slice a len cap) d p) : ∃ L, CntAt w a len cap L := by
  obtain ⟨fuel, hf⟩ := h
  rcases Go.Deep.open_slice_pairs Try.underlying28 Try.underlying36 (by kernel_rfl) rfl rfl (by kernel_rfl) (by kernel_rfl) hf with ⟨hcs, _⟩ | ⟨x, l, c, m, n, V0, V1, D0, D1, P0, P1, hcs, _, hl, hm, hmm, _, hx⟩
  · simp [Value.cells] at hcs
    obtain ⟨rfl, rfl, rfl⟩ := hcs
    exact ⟨[], cnt_nil w⟩
  · simp [Value.cells] at hcs
    obtain ⟨rfl, rfl, rfl⟩ := hcs
    have hml : len ≤ m := by rw [hmm]; split <;> omega
    unfold maxLen at hm
    obtain ⟨xs, hxl, hxg⟩ := choose_list (q := fun i (y : Int × Int) => V0 i = .int .i64 y.1 ∧ V1 i = .int .i64 y.2) (n := len) (fun i hi => by
      obtain ⟨_, _, h0, h1⟩ := hx i (by omega)
      obtain ⟨s, e0, _⟩ := DataW.trod_int (k := .i64) Try.underlying3 (x := (D0 i, P0 i)) h0
      obtain ⟨t, e1, _⟩ := DataW.trod_int (k := .i64) Try.underlying3 (x := (D1 i, P1 i)) h1
      exact ⟨(s, t), by simpa using e0, by simpa using e1⟩)
    refine ⟨xs, hxl, hl, hm, fun hpos => ?_⟩
    have c0 := (hx 0 (by omega)).1
    obtain ⟨b, off, spot⟩ := x
    have hspot : spot = none := by simpa [Addr.add] using World.cell?_spot c0
    subst hspot
    refine ⟨b, off, rfl, ?_, fun i hi => ?_⟩
    · have := lt_of_cell c0
      rw [addr_add] at this
      exact this
    · obtain ⟨g0, g1, _⟩ := hx i (by omega)
      obtain ⟨e0, e1⟩ := hxg i (ckey xs i, cnum xs i) (cget xs i (by omega))
      rw [addr_add, e0] at g0
      rw [addr_add, e1] at g1
      exact ⟨g0, by rw [Nat.add_assoc]; exact g1⟩
theorem few_open {v : Value} {d : DataW H} {p : List MemPlace} (hv : ∃ cs, v = .agg cs ∧ cs.size = Try.prog.cellsOf 30)
    (h : DataW.Trod enc Try.prog w base spare held 30 v d p) : ∃ (K lost : Int) (a : Option Addr) (n c : Nat) (L : List (Int × Int)), v = fewV K lost a n c ∧ CntAt w a n c L := by
  obtain ⟨cs, rfl, hcs⟩ := hv
  obtain ⟨fuel, hf⟩ := h
  obtain ⟨xs, m, _, _, hl, hlen, hget⟩ := DataW.trod_struct Try.underlying30 hf
  have ci : Try.prog.cellsOf 3 = 1 := by kernel_rfl
  have cb : Try.prog.cellsOf 28 = 1 := by kernel_rfl
  have cf : Try.prog.cellsOf 30 = 3 := by kernel_rfl
  have h0 : DataW.trod enc Try.prog w base spare held m 3 (List.take (Try.prog.cellsOf 3) (List.drop 0 cs.toList)) = xs[0]? := hget 0 _ rfl
  have h1 : DataW.trod enc Try.prog w base spare held m 3 (List.take (Try.prog.cellsOf 3) (List.drop 1 cs.toList)) = xs[1]? := hget 1 _ rfl
  have h2 : DataW.trod enc Try.prog w base spare held m 28 (List.take (Try.prog.cellsOf 28) (List.drop 2 cs.toList)) = xs[2]? := hget 2 _ rfl
  rw [ci] at h0 h1
  rw [cb] at h2
  rw [cf] at hcs
  obtain ⟨l⟩ := cs
  simp only [List.size_toArray] at hcs
  match l, xs, hcs, hlen, h0, h1, h2 with
  | [c0, c1, c2], [x0, x1, x2], _, _, h0, h1, h2 =>
    obtain ⟨s, e0, _⟩ := DataW.trod_int (k := .i64) Try.underlying3 (x := x0) (by simpa using h0)
    obtain ⟨t, e1, _⟩ := DataW.trod_int (k := .i64) Try.underlying3 (x := x1) (by simpa using h1)
    have h2' : DataW.trod enc Try.prog w base spare held m 28 [c2] = some x2 := by simpa using h2
    simp at e0 e1
    subst e0 e1
    have hs : ∃ a n c, c2 = .slice a n c := by
      rcases DataW.trod_slice Try.underlying28 h2' with ⟨h, _⟩ | ⟨x, l, c, _, _, _, _, h, _⟩
      · simp at h; exact ⟨_, _, _, h⟩
      · simp at h; exact ⟨_, _, _, h⟩
    obtain ⟨a, n, c, rfl⟩ := hs
    obtain ⟨L, hL⟩ := cnts_open (a := a) (len := n) (cap := c) (d := x2.1) (p := x2.2) ⟨m, by simpa [Value.cells] using h2'⟩
    exact ⟨s, t, a, n, c, L, rfl, hL⟩
end
end Go.Proofs.Ytffocoflmbhknaa

/- Arguments of SketchOwn, opened, with what the bound on their bulk says of each slice's length. -/
namespace Go.Proofs.Ytffocoflmbhknaa
open Go.ChangeShapes Go.WideShapes Go.ChangeAt Go.RowKit
set_option maxRecDepth 20000
theorem bulk_one {H : Type} (d : DataW H) : 1 ≤ Rows.uptoBulk d := by
  cases d with
  | lit l => cases l <;> simp [Rows.uptoBulk]
  | nil => simp [Rows.uptoBulk]
  | ptr d => simp [Rows.uptoBulk]
  | slice elems spare => simp [Rows.uptoBulk]
  | agg parts => simp [Rows.uptoBulk]
  | iface t d => simp [Rows.uptoBulk]
  | map entries => simp [Rows.uptoBulk]
  | held h => simp [Rows.uptoBulk]
theorem bulk_part {H : Type} {d : DataW H} {l : List (DataW H)} (h : d ∈ l) : Rows.uptoBulk d ≤ Rows.uptoBulkAll l := by
  induction l with
  | nil => cases h
  | cons x r ih =>
    simp only [Rows.uptoBulkAll]
    cases List.mem_cons.1 h with
    | inl e => subst e; omega
    | inr e => have := ih e; omega
theorem bulk_len {H : Type} (l : List (DataW H)) : l.length ≤ Rows.uptoBulkAll l := by
  induction l with
  | nil => simp [Rows.uptoBulkAll]
  | cons x r ih => have := bulk_one x; simp only [Rows.uptoBulkAll, List.length_cons]; omega
section
variable {H : Type} {enc : TypeId × Value → H} {w : World} {base : Nat} {spare : Nat → Bool} {held : Bool}
/-- A slice: nil has no room; its length is at most its bulk. -/
theorem slice_bulk {t e : TypeId} {a : Option Addr} {len cap : Nat} {x : DataW H × List MemPlace} {fuel : Nat} (ht : Try.prog.underlying t = some (.slice e)) (h : DataW.trod enc Try.prog w base spare held fuel t [.slice a len cap] = some x) :
    (a = none → cap = 0) ∧ len ≤ Rows.uptoBulk x.1 := by
  rcases DataW.trod_slice ht h with ⟨hcs, _⟩ | ⟨b, l, c, elems, rest, n, _, hcs, hx, _, hl, hm, hlen, _⟩
  · simp at hcs
    obtain ⟨rfl, rfl, rfl⟩ := hcs
    exact ⟨fun _ => rfl, by omega⟩
  · simp at hcs
    obtain ⟨rfl, rfl, rfl⟩ := hcs
    refine ⟨(fun h => by cases h), ?_⟩
    rw [hx]
    have h1 := bulk_len (elems.map (·.1))
    rw [List.length_map] at h1
    simp only [Rows.uptoBulk]
    omega
theorem filt_open_u {v : Value} {d : DataW H} {p : List MemPlace} (hv : ∃ cs, v = .agg cs ∧ cs.size = Try.prog.cellsOf 24)
    (h : DataW.Trod enc Try.prog w base spare held 24 v d p) : ∃ (sz wy : Int) (a : Option Addr) (n c : Nat) (bs : List Bool), v = filtV sz wy a n c ∧ BoolsAt w a n c bs ∧ (a = none → c = 0) ∧ n ≤ Rows.uptoBulk d := by
  obtain ⟨cs, rfl, hcs⟩ := hv
  obtain ⟨fuel, hf⟩ := h
  obtain ⟨xs, m, _, hd, hl, hlen, hget⟩ := DataW.trod_struct Try.underlying24 hf
  have hdd : d = .agg (xs.map (·.1)) := by simpa using congrArg Prod.fst hd
  have ci : Try.prog.cellsOf 3 = 1 := by kernel_rfl
  have cb : Try.prog.cellsOf 22 = 1 := by kernel_rfl
  have cf : Try.prog.cellsOf 24 = 3 := by kernel_rfl
  have h0 : DataW.trod enc Try.prog w base spare held m 3 (List.take (Try.prog.cellsOf 3) (List.drop 0 cs.toList)) = xs[0]? := hget 0 _ rfl
  have h1 : DataW.trod enc Try.prog w base spare held m 3 (List.take (Try.prog.cellsOf 3) (List.drop 1 cs.toList)) = xs[1]? := hget 1 _ rfl
  have h2 : DataW.trod enc Try.prog w base spare held m 22 (List.take (Try.prog.cellsOf 22) (List.drop 2 cs.toList)) = xs[2]? := hget 2 _ rfl
  rw [ci] at h0 h1
  rw [cb] at h2
  rw [cf] at hcs
  clear hd hf
  obtain ⟨l⟩ := cs
  simp only [List.size_toArray] at hcs
  match l, xs, hcs, hlen, h0, h1, h2, hdd with
  | [c0, c1, c2], [x0, x1, x2], _, _, h0, h1, h2, hdd =>
    obtain ⟨s, e0, _⟩ := DataW.trod_int (k := .i64) Try.underlying3 (x := x0) (by simpa using h0)
    obtain ⟨y, e1, _⟩ := DataW.trod_int (k := .i64) Try.underlying3 (x := x1) (by simpa using h1)
    have h2' : DataW.trod enc Try.prog w base spare held m 22 [c2] = some x2 := by simpa using h2
    simp at e0 e1
    subst e0 e1
    have hs : ∃ a n c, c2 = .slice a n c := by
      rcases DataW.trod_slice Try.underlying22 h2' with ⟨h, _⟩ | ⟨x, l, c, _, _, _, _, h, _⟩
      · simp at h; exact ⟨_, _, _, h⟩
      · simp at h; exact ⟨_, _, _, h⟩
    obtain ⟨a, n, c, rfl⟩ := hs
    obtain ⟨bs, hb⟩ := bools_open Try.underlying22 Try.underlying4 (by kernel_rfl) (a := a) (len := n) (cap := c) (d := x2.1) (p := x2.2) ⟨m, by simpa [Value.cells] using h2'⟩
    obtain ⟨k1, k2⟩ := slice_bulk Try.underlying22 h2'
    refine ⟨s, y, a, n, c, bs, rfl, hb, k1, ?_⟩
    rw [hdd]
    simp only [List.map_cons, List.map_nil, Rows.uptoBulk, Rows.uptoBulkAll]
    omega
theorem few_open_u {v : Value} {d : DataW H} {p : List MemPlace} (hv : ∃ cs, v = .agg cs ∧ cs.size = Try.prog.cellsOf 30)
    (h : DataW.Trod enc Try.prog w base spare held 30 v d p) : ∃ (K lost : Int) (a : Option Addr) (n c : Nat) (L : List (Int × Int)), v = fewV K lost a n c ∧ CntAt w a n c L ∧ (a = none → c = 0) ∧ n ≤ Rows.uptoBulk d := by
  obtain ⟨cs, rfl, hcs⟩ := hv
  obtain ⟨fuel, hf⟩ := h
  obtain ⟨xs, m, _, hd, hl, hlen, hget⟩ := DataW.trod_struct Try.underlying30 hf
  have hdd : d = .agg (xs.map (·.1)) := by simpa using congrArg Prod.fst hd
  have ci : Try.prog.cellsOf 3 = 1 := by kernel_rfl
  have cb : Try.prog.cellsOf 28 = 1 := by kernel_rfl
  have cf : Try.prog.cellsOf 30 = 3 := by kernel_rfl
  have h0 : DataW.trod enc Try.prog w base spare held m 3 (List.take (Try.prog.cellsOf 3) (List.drop 0 cs.toList)) = xs[0]? := hget 0 _ rfl
  have h1 : DataW.trod enc Try.prog w base spare held m 3 (List.take (Try.prog.cellsOf 3) (List.drop 1 cs.toList)) = xs[1]? := hget 1 _ rfl
  have h2 : DataW.trod enc Try.prog w base spare held m 28 (List.take (Try.prog.cellsOf 28) (List.drop 2 cs.toList)) = xs[2]? := hget 2 _ rfl
  rw [ci] at h0 h1
  rw [cb] at h2
  rw [cf] at hcs
  clear hd hf
  obtain ⟨l⟩ := cs
  simp only [List.size_toArray] at hcs
  match l, xs, hcs, hlen, h0, h1, h2, hdd with
  | [c0, c1, c2], [x0, x1, x2], _, _, h0, h1, h2, hdd =>
    obtain ⟨s, e0, _⟩ := DataW.trod_int (k := .i64) Try.underlying3 (x := x0) (by simpa using h0)
    obtain ⟨t, e1, _⟩ := DataW.trod_int (k := .i64) Try.underlying3 (x := x1) (by simpa using h1)
    have h2' : DataW.trod enc Try.prog w base spare held m 28 [c2] = some x2 := by simpa using h2
    simp at e0 e1
    subst e0 e1
    have hs : ∃ a n c, c2 = .slice a n c := by
      rcases DataW.trod_slice Try.underlying28 h2' with ⟨h, _⟩ | ⟨x, l, c, _, _, _, _, h, _⟩
      · simp at h; exact ⟨_, _, _, h⟩
      · simp at h; exact ⟨_, _, _, h⟩
    obtain ⟨a, n, c, rfl⟩ := hs
    obtain ⟨L, hL⟩ := cnts_open (a := a) (len := n) (cap := c) (d := x2.1) (p := x2.2) ⟨m, by simpa [Value.cells] using h2'⟩
    obtain ⟨k1, k2⟩ := slice_bulk Try.underlying28 h2'
    refine ⟨s, t, a, n, c, L, rfl, hL, k1, ?_⟩
    rw [hdd]
    simp only [List.map_cons, List.map_nil, Rows.uptoBulk, Rows.uptoBulkAll]
    omega
theorem rowsz_open {a : Option Addr} {len cap : Nat} {x : DataW H × List MemPlace} {fuel : Nat} (h : DataW.trod enc Try.prog w base spare held fuel 25 [.slice a len cap] = some x) (hb : Rows.uptoBulk x.1 ≤ 1048576) :
    ∃ xs, RowsZ w a len cap xs := by
  rcases Go.Deep.open_slice1 Try.underlying25 (by kernel_rfl) h with ⟨hcs, _⟩ | ⟨b, l, c, m, n, V, D, Pl, hcs, _, hl, hm, hmm, hx, hc⟩
  · simp at hcs
    obtain ⟨rfl, rfl, rfl⟩ := hcs
    exact ⟨[], rfl, Nat.le_refl _, by omega, fun h => by omega⟩
  · simp at hcs
    obtain ⟨rfl, rfl, rfl⟩ := hcs
    have hml : len ≤ m := by rw [hmm]; split <;> omega
    obtain ⟨xs, hlx, hxs⟩ := choose_list (n := len) (q := fun i z => ∃ ai ni ci, V i = Value.slice ai ni ci ∧ IntsAt w ai ni ci z ∧ (ai = none → ci = 0) ∧ ni ≤ 17592186043904) (fun i hi => by
      have ht := (hc i (by omega)).2
      have hv : ∃ ai ni ci, V i = Value.slice ai ni ci := by
        rcases DataW.trod_slice Try.underlying53 ht with ⟨h0, _⟩ | ⟨x, l, c, _, _, _, _, h0, _⟩
        · simp at h0; exact ⟨_, _, _, h0⟩
        · simp at h0; exact ⟨_, _, _, h0⟩
      obtain ⟨ai, ni, ci, hv⟩ := hv
      rw [hv] at ht
      obtain ⟨z, hz⟩ := ints_open Try.underlying53 Try.underlying3 (by kernel_rfl) (a := ai) (len := ni) (cap := ci) (d := D i) (p := Pl i) ⟨n, by simpa [Value.cells] using ht⟩
      obtain ⟨k1, k2⟩ := slice_bulk Try.underlying53 ht
      refine ⟨z, ai, ni, ci, hv, hz, k1, ?_⟩
      have hmem : D i ∈ (List.range len).map D := List.mem_map.2 ⟨i, List.mem_range.2 hi, rfl⟩
      have h1 := bulk_part hmem
      rw [hx] at hb
      simp only [Rows.uptoBulk] at hb
      have k3 : ni ≤ Rows.uptoBulk (D i) := k2
      omega)
    unfold maxLen at hm
    refine ⟨xs, hlx, hl, hm, fun hpos => ?_⟩
    have h0 := (hc 0 (by omega)).1
    obtain ⟨bb, off, sp⟩ := b
    have hsp : sp = none := by
      cases sp with
      | none => rfl
      | some s =>
        exfalso
        simp [World.cell?, Addr.add] at h0
        split at h0 <;> cases h0
    subst hsp
    refine ⟨bb, off, rfl, by have := lt_of_cell h0; simpa [Addr.add] using this, fun i hi => ?_⟩
    obtain ⟨ai, ni, ci, hv, hI⟩ := hxs i (gl xs i) (by rw [List.getElem?_eq_getElem (by omega)]; simp [gl, List.getD_eq_getElem?_getD, List.getElem?_eq_getElem (show i < xs.length by omega)])
    have h1 := (hc i (by omega)).1
    have e : (⟨bb, off, none⟩ : Addr).add i = ⟨bb, off + i, none⟩ := by
      unfold Addr.add
      split
      · rename_i hz; rw [hz]; rfl
      · rfl
    rw [e, hv] at h1
    exact ⟨ai, ni, ci, h1, hI⟩
theorem tab_open_u {v : Value} {d : DataW H} {p : List MemPlace} (hv : ∃ cs, v = .agg cs ∧ cs.size = Try.prog.cellsOf 27)
    (h : DataW.Trod enc Try.prog w base spare held 27 v d p) (hB : Rows.uptoBulk d ≤ 1048576) : ∃ (wd : Int) (a : Option Addr) (n c : Nat) (xs : List (List Int)), v = tabV wd a n c ∧ RowsZ w a n c xs ∧ n ≤ Rows.uptoBulk d := by
  obtain ⟨cs, rfl, hcs⟩ := hv
  obtain ⟨fuel, hf⟩ := h
  obtain ⟨xs, m, _, hd, hl, hlen, hget⟩ := DataW.trod_struct Try.underlying27 hf
  have hdd : d = .agg (xs.map (·.1)) := by simpa using congrArg Prod.fst hd
  have ci : Try.prog.cellsOf 3 = 1 := by kernel_rfl
  have cb : Try.prog.cellsOf 25 = 1 := by kernel_rfl
  have cf : Try.prog.cellsOf 27 = 2 := by kernel_rfl
  have h0 : DataW.trod enc Try.prog w base spare held m 3 (List.take (Try.prog.cellsOf 3) (List.drop 0 cs.toList)) = xs[0]? := hget 0 _ rfl
  have h1 : DataW.trod enc Try.prog w base spare held m 25 (List.take (Try.prog.cellsOf 25) (List.drop 1 cs.toList)) = xs[1]? := hget 1 _ rfl
  rw [ci] at h0
  rw [cb] at h1
  rw [cf] at hcs
  clear hd hf
  obtain ⟨l⟩ := cs
  simp only [List.size_toArray] at hcs
  match l, xs, hcs, hlen, h0, h1, hdd with
  | [c0, c1], [x0, x1], _, _, h0, h1, hdd =>
    obtain ⟨s, e0, _⟩ := DataW.trod_int (k := .i64) Try.underlying3 (x := x0) (by simpa using h0)
    have h1' : DataW.trod enc Try.prog w base spare held m 25 [c1] = some x1 := by simpa using h1
    simp at e0
    subst e0
    have hs : ∃ a n c, c1 = .slice a n c := by
      rcases DataW.trod_slice Try.underlying25 h1' with ⟨h, _⟩ | ⟨x, l, c, _, _, _, _, h, _⟩
      · simp at h; exact ⟨_, _, _, h⟩
      · simp at h; exact ⟨_, _, _, h⟩
    obtain ⟨a, n, c, rfl⟩ := hs
    have hx1 : Rows.uptoBulk x1.1 ≤ Rows.uptoBulk d := by
      rw [hdd]
      simp only [List.map_cons, List.map_nil, Rows.uptoBulk, Rows.uptoBulkAll]
      omega
    obtain ⟨rs, hr⟩ := rowsz_open h1' (by omega)
    obtain ⟨k1, k2⟩ := slice_bulk Try.underlying25 h1'
    exact ⟨s, a, n, c, rs, rfl, hr, by omega⟩
end
end Go.Proofs.Ytffocoflmbhknaa
