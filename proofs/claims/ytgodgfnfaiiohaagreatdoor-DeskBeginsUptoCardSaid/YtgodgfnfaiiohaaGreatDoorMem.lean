/- Slices in memory, over any program: what a slice value reads as, how that is carried on, the law of append for one new element, how an argument is opened. -/
import Derived.Test.YtgodgfnfaiiohaaGreatDoorBase
import Derived.Maps.AppendAt
import Derived.Deep.Slices
import Derived.Deep.Matrix
import Derived.Deep.Grids
namespace Go.Proofs.YtgodgfnfaiiohaaGreatDoor
open Go.ChangeShapes Go.WideShapes Go.ChangeAt Go.RowKit
set_option maxRecDepth 20000

/-- Element i of a list of numbers. -/
def gi (xs : List Int) (i : Nat) : Int := xs.getD i 0
theorem gi_get (xs : List Int) (i : Nat) (h : i < xs.length) : xs[i]? = some (gi xs i) := by
  unfold gi; rw [List.getD_eq_getElem?_getD, List.getElem?_eq_getElem h]; rfl
theorem gi_mem (xs : List Int) (i : Nat) (h : i < xs.length) : gi xs i ∈ xs := List.mem_of_getElem? (gi_get xs i h)
/-- The list f 0, .., f (k - 1). -/
def tab {α : Type} (f : Nat → α) (k : Nat) : List α := (List.range k).map f
theorem tab_snoc {α : Type} (f : Nat → α) (k : Nat) : tab f (k + 1) = tab f k ++ [f k] := by simp [tab, List.range_succ]
theorem tab_len {α : Type} (f : Nat → α) (k : Nat) : (tab f k).length = k := by simp [tab]
theorem tab_get {α : Type} (f : Nat → α) (k i : Nat) (h : i < k) : (tab f k)[i]? = some (f i) := by
  unfold tab; rw [List.getElem?_map, List.getElem?_range h]; rfl
theorem tab_gi (f : Nat → Int) (k i : Nat) (h : i < k) : gi (tab f k) i = f i := by
  unfold gi; rw [List.getD_eq_getElem?_getD, tab_get f k i h]; rfl
theorem tab_mem {α : Type} (f : Nat → α) (k : Nat) (x : α) (h : x ∈ tab f k) : ∃ i, i < k ∧ x = f i := by
  simp [tab] at h
  obtain ⟨i, hi, rfl⟩ := h
  exact ⟨i, hi, rfl⟩
/-- The cells that a slice at address a leads to. -/
def CellsAt (w : World) (a : Option Addr) (cs : List Value) : Prop :=
  cs ≠ [] → ∃ b off, a = some ⟨b, off, none⟩ ∧ b < w.heap.size ∧ ∀ i u, cs[i]? = some u → w.cell? ⟨b, off + i, none⟩ = some u

/-- A slice of integers: its elements are xs. -/
structure IntsAt (w : World) (a : Option Addr) (n cap : Nat) (xs : List Int) : Prop where
  len : xs.length = n
  le : n ≤ cap
  max : cap ≤ 9223372036854775807
  cells : CellsAt w a (xs.map (Value.int .i64))
  bd : ∀ x ∈ xs, -9223372036854775808 ≤ x ∧ x ≤ 9223372036854775807

theorem lt_of_cell {w : World} {p : Addr} {v : Value} (h : w.cell? p = some v) : p.block < w.heap.size := World.block_lt_of_cell? w p h

theorem CellsAt.below {w w' : World} {a : Option Addr} {cs : List Value} (h : CellsAt w a cs) (hb : Below w.heap.size w w') : CellsAt w' a cs := by
  intro hne
  obtain ⟨b, off, rfl, hlt, hc⟩ := h hne
  exact ⟨b, off, rfl, Nat.lt_of_lt_of_le hlt hb.size, fun i u hu => (hb.cell (p := ⟨b, off + i, none⟩) hlt).trans (hc i u hu)⟩
theorem IntsAt.below {w w' : World} {a : Option Addr} {n cap : Nat} {xs : List Int} (h : IntsAt w a n cap xs) (hb : Below w.heap.size w w') : IntsAt w' a n cap xs :=
  ⟨h.len, h.le, h.max, h.cells.below hb, h.bd⟩
/-- Where there is an element, there is an address. -/
theorem IntsAt.addr {w : World} {a : Option Addr} {n cap : Nat} {xs : List Int} (h : IntsAt w a n cap xs) (hn : 0 < n) : ∃ b off, a = some ⟨b, off, none⟩ ∧ b < w.heap.size ∧ ∀ i, i < n → w.cell? ⟨b, off + i, none⟩ = some (.int .i64 (gi xs i)) := by
  have hne : xs.map (Value.int .i64) ≠ [] := by
    intro he
    have := h.len
    simp at he
    rw [he] at this
    simp at this
    omega
  obtain ⟨b, off, ha, hlt, hc⟩ := h.cells hne
  refine ⟨b, off, ha, hlt, fun i hi => hc i _ ?_⟩
  have := h.len
  rw [List.getElem?_map, List.getElem?_eq_getElem (by omega)]
  simp [gi, List.getD_eq_getElem?_getD, List.getElem?_eq_getElem (show i < xs.length by omega)]
theorem addr_add (b off i : Nat) : (⟨b, off, none⟩ : Addr).add i = ⟨b, off + i, none⟩ := by
  unfold Addr.add
  split
  · simp_all
  · rfl
theorem addr_add0 (b i : Nat) : (⟨b, 0, none⟩ : Addr).add i = ⟨b, i, none⟩ := by rw [addr_add, Nat.zero_add]
/-- Empty, or with an address. -/
theorem IntsAt.split {w : World} {a : Option Addr} {n cap : Nat} {xs : List Int} (h : IntsAt w a n cap xs) : ∃ b off, (n = 0 ∨ a = some ⟨b, off, none⟩) ∧ ∀ i, i < n → b < w.heap.size ∧ w.cell? ⟨b, off + i, none⟩ = some (.int .i64 (gi xs i)) := by
  rcases Nat.eq_zero_or_pos n with h0 | h0
  · exact ⟨0, 0, .inl h0, fun i hi => by omega⟩
  · obtain ⟨b, off, ha, hb, hc⟩ := h.addr h0
    exact ⟨b, off, .inr ha, fun i hi => ⟨hb, hc i hi⟩⟩
/-- The cell of an element, carried to a later world. -/
theorem carry_cell {w w' : World} {b off : Nat} {u : Value} (h : b < w.heap.size ∧ w.cell? ⟨b, off, none⟩ = some u) (hb : Below w.heap.size w w') : w'.cell? ⟨b, off, none⟩ = some u :=
  (hb.cell (p := ⟨b, off, none⟩) h.1).trans h.2
/-- Element i of a list of truth values. -/
def gb (xs : List Bool) (i : Nat) : Bool := xs.getD i false
theorem tab_set {α : Type} (f : Nat → α) (n k : Nat) (u : α) : (tab f n).set k u = tab (fun i => if i = k then u else f i) n := by
  apply List.ext_getElem?
  intro i
  rw [List.getElem?_set]
  by_cases hi : i < n
  · rw [tab_get _ _ _ hi, tab_get _ _ _ hi, tab_len]
    by_cases h : k = i
    · subst h; rw [if_pos rfl, if_pos hi, if_pos rfl]
    · rw [if_neg h, if_neg (fun e => h e.symm)]
  · rw [List.getElem?_eq_none (by rw [tab_len]; omega), List.getElem?_eq_none (by rw [tab_len]; omega), tab_len]
    by_cases h : k = i
    · subst h; rw [if_pos rfl, if_neg hi]
    · rw [if_neg h]
theorem tab_map {α β : Type} (f : Nat → α) (g : α → β) (n : Nat) : (tab f n).map g = tab (fun i => g (f i)) n := by simp [tab]
theorem tab_congr {α : Type} (f g : Nat → α) (n : Nat) (h : ∀ i, i < n → f i = g i) : tab f n = tab g n := by
  unfold tab
  apply List.map_congr_left
  intro i hi
  exact h i (List.mem_range.1 hi)
/-- A slice of truth values. -/
structure BoolsAt (w : World) (a : Option Addr) (n cap : Nat) (bs : List Bool) : Prop where
  len : bs.length = n
  le : n ≤ cap
  max : cap ≤ 9223372036854775807
  cells : 0 < n → ∃ b off, a = some ⟨b, off, none⟩ ∧ b < w.heap.size ∧ ∀ i, i < n → w.cell? ⟨b, off + i, none⟩ = some (.bool (gb bs i))
theorem BoolsAt.below {w w' : World} {a : Option Addr} {n cap : Nat} {bs : List Bool} (h : BoolsAt w a n cap bs) (hb : Below w.heap.size w w') : BoolsAt w' a n cap bs := by
  refine ⟨h.len, h.le, h.max, fun hn => ?_⟩
  obtain ⟨b, off, rfl, hlt, hc⟩ := h.cells hn
  exact ⟨b, off, rfl, Nat.lt_of_lt_of_le hlt hb.size, fun i hi => (hb.cell (p := ⟨b, off + i, none⟩) hlt).trans (hc i hi)⟩
theorem BoolsAt.alloc {w : World} {a : Option Addr} {n cap : Nat} {bs : List Bool} (h : BoolsAt w a n cap bs) (o : Obj) : BoolsAt (w.alloc o) a n cap bs := h.below ((Below.refl _ _).alloc (Nat.le_refl _) o)
theorem BoolsAt.split {w : World} {a : Option Addr} {n cap : Nat} {bs : List Bool} (h : BoolsAt w a n cap bs) : ∃ b off, (n = 0 ∨ a = some ⟨b, off, none⟩) ∧ ∀ i, i < n → b < w.heap.size ∧ w.cell? ⟨b, off + i, none⟩ = some (.bool (gb bs i)) := by
  rcases Nat.eq_zero_or_pos n with h0 | h0
  · exact ⟨0, 0, .inl h0, fun i hi => by omega⟩
  · obtain ⟨b, off, ha, hb, hc⟩ := h.cells h0
    exact ⟨b, off, .inr ha, fun i hi => ⟨hb, hc i hi⟩⟩
/-- Element i of a list of lists. -/
def gl {α : Type} (xs : List (List α)) (i : Nat) : List α := xs.getD i []
/-- A slice of slices of integers. -/
structure RowsAt (w : World) (a : Option Addr) (n cap : Nat) (xs : List (List Int)) : Prop where
  len : xs.length = n
  le : n ≤ cap
  max : cap ≤ 9223372036854775807
  cells : 0 < n → ∃ b off, a = some ⟨b, off, none⟩ ∧ b < w.heap.size ∧ ∀ i, i < n → ∃ ai ni ci, w.cell? ⟨b, off + i, none⟩ = some (.slice ai ni ci) ∧ IntsAt w ai ni ci (gl xs i)
theorem RowsAt.below {w w' : World} {a : Option Addr} {n cap : Nat} {xs : List (List Int)} (h : RowsAt w a n cap xs) (hb : Below w.heap.size w w') : RowsAt w' a n cap xs := by
  refine ⟨h.len, h.le, h.max, fun hn => ?_⟩
  obtain ⟨b, off, rfl, hlt, hc⟩ := h.cells hn
  refine ⟨b, off, rfl, Nat.lt_of_lt_of_le hlt hb.size, fun i hi => ?_⟩
  obtain ⟨ai, ni, ci, h1, h2⟩ := hc i hi
  exact ⟨ai, ni, ci, (hb.cell (p := ⟨b, off + i, none⟩) hlt).trans h1, h2.below hb⟩
theorem RowsAt.alloc {w : World} {a : Option Addr} {n cap : Nat} {xs : List (List Int)} (h : RowsAt w a n cap xs) (o : Obj) : RowsAt (w.alloc o) a n cap xs := h.below ((Below.refl _ _).alloc (Nat.le_refl _) o)
theorem bstep {w a b : World} (h : Below w.heap.size w a) (k : Below a.heap.size a b) : Below w.heap.size w b := h.trans (k.mono h.size)
theorem bal {w a : World} (h : Below w.heap.size w a) (o : Obj) : Below w.heap.size w (a.alloc o) := h.alloc h.size o
theorem made_tab (z : Value) (n : Nat) : (madeCells #[z] (n * 1)).toList = tab (fun _ => z) n := by
  rw [toList_madeCells_one, Nat.mul_one]
  apply List.ext_getElem?
  intro i
  by_cases hi : i < n
  · rw [tab_get _ _ _ hi]; simp [hi]
  · rw [List.getElem?_eq_none (by simp; omega), List.getElem?_eq_none (by rw [tab_len]; omega)]
/-- What the call itself has made reads as its cells. -/
theorem owns_cells {w : World} {base : Nat} {e : TypeId} {size : Nat} {v : Value} {n : Nat} {xs : List Value} (h : w.ownsRow base e size v n xs) :
    ∃ a cap, v = .slice a n cap ∧ n ≤ cap ∧ cap ≤ 9223372036854775807 ∧ CellsAt w a xs := by
  rcases h.2 with ⟨rfl, rfl⟩ | ⟨g, cap, cur, rfl, _, hg, hn, hm, _⟩
  · refine ⟨none, 0, rfl, Nat.le_refl _, by omega, fun hne => ?_⟩
    have := h.1
    simp at this
    exact absurd this hne
  · unfold maxLen at hm
    refine ⟨_, cap, rfl, hn, hm, fun _ => ⟨g, 0, rfl, (Array.getElem?_eq_some_iff.1 hg).1, fun i u hu => ?_⟩⟩
    have := h.cells (g := g) rfl i u hu
    rw [addr_add] at this
    exact this
theorem owns_ints {w : World} {base : Nat} {e : TypeId} {v : Value} {n : Nat} {xs : List Int} (h : w.ownsRow base e 1 v n (xs.map (Value.int .i64))) (hb : ∀ x ∈ xs, -9223372036854775808 ≤ x ∧ x ≤ 9223372036854775807) :
    ∃ a cap, v = .slice a n cap ∧ IntsAt w a n cap xs := by
  obtain ⟨a, cap, rfl, h1, h2, h3⟩ := owns_cells h
  have := h.1
  exact ⟨a, cap, rfl, by simpa using this, h1, h2, h3, hb⟩

theorem IntsAt.alloc {w : World} {a : Option Addr} {n cap : Nat} {xs : List Int} (h : IntsAt w a n cap xs) (o : Obj) : IntsAt (w.alloc o) a n cap xs := h.below ((Below.refl _ _).alloc (Nat.le_refl _) o)
theorem ints_nil (w : World) : IntsAt w none 0 0 [] := ⟨rfl, Nat.le_refl _, by omega, fun h => absurd rfl h, fun x hx => by simp at hx⟩
/-- A slice literal of integers. -/
theorem ints_lit {w : World} {cs : List Value} {T : TypeId} {b : Nat} (xs : List Int) {n : Nat} (hbk : b = w.heap.size) (hcs : cs = xs.map (Value.int .i64)) (hn : xs.length = n) (hb : ∀ x ∈ xs, -9223372036854775808 ≤ x ∧ x ≤ 9223372036854775807) (hm : n ≤ 9223372036854775807) : IntsAt (w.alloc (.cells cs.toArray T)) (some ⟨b, 0, none⟩) n n xs := by
  subst hcs hbk
  refine ⟨hn, Nat.le_refl _, hm, fun _ => ⟨w.heap.size, 0, rfl, by simp, fun i u hu => ?_⟩, hb⟩
  have hh : (w.alloc (.cells (xs.map (Value.int .i64)).toArray T)).heap[w.heap.size]? = some (.cells (xs.map (Value.int .i64)).toArray T) := heap_alloc_new w _
  unfold World.cell?
  rw [hh]
  simpa using hu
/-- A store into a slice of the call's own. -/
theorem own_store_tab {w : World} {B : Nat} {e : TypeId} {g n cap : Nat} {f : Nat → Value} (h : w.ownsRow B e 1 (.slice (some ⟨g, 0, none⟩) n cap) n (tab f n)) (k : Nat) (u : Value) :
    (w.setCell ⟨g, k, none⟩ u).ownsRow B e 1 (.slice (some ⟨g, 0, none⟩) n cap) n (tab (fun i => if i = k then u else f i) n) := by
  have := (h.stored k u).1
  rw [tab_set] at this
  exact this
/-- 'append' of one new element to a slice of the call's own. -/
theorem wpList_append_new {P : Program} {w : World} {news : List Value} {T : TypeId} {g : Nat} {ops : Array Oper} {rest : List Oper} {o : Oper} {a : Act} {Q : Exit → Act → World → Prop} (hgd : o.guard = none) (s x : Operand) (t : TypeId)
    (ho : o.op = .call { callee := .builtin .append, args := #[s, x], argTypes := #[t, t] })
    (base : Nat) (e : TypeId) (z : Value) (size bytes : Nat) (hinfo : (P.info? e).map (fun i => (i.zero, i.size, i.bytes)) = some (some z, size, bytes)) (hzs : z.cells.size = size) (hsz : 0 < size) (ht : P.underlying t = some (.slice e))
    (v : Value) (n : Nat) (xs : List Value) (hs : a.eval s = v) (hown : w.ownsRow base e size v n xs) (hl : news.length = size) (h1 : ∀ u ∈ news, u.oneCell' = true)
    (hx : a.eval x = .slice (some ⟨g, 0, none⟩) 1 1) (hgs : g = w.heap.size) (hn : n < 1000000000) (hby : bytes ≤ 100000) (hbase : base ≤ w.heap.size)
    (h : ∀ v' w', w'.ownsRow base e size v' (n + 1) (xs ++ news) → w.grownBy w' v.ownBlock → (v'.ownBlock = v.ownBlock ∨ ∃ k, v'.ownBlock = some k ∧ w.heap.size ≤ k) → wpList P ops Q rest (a.put o.dst v') w') :
    wpList P ops Q (o :: rest) a (w.alloc (.cells news.toArray T)) := by
  subst hgs
  obtain ⟨i, hi, hz, hsize, hbytes⟩ := info_parts hinfo
  have hb2 : (n + 1) * bytes ≤ 140737488355328 := Nat.le_trans (Nat.mul_le_mul (show n + 1 ≤ 1000000000 by omega) hby) (by omega)
  refine wpList_append_own_at (w.alloc (.cells news.toArray T)) hgd s x t ho base e i z size bytes ht hi hz hsize hbytes hzs hsz v n xs hs (hown.alloc _) ⟨w.heap.size, 0, none⟩ 1 1 news hx (by simpa using hl) ?_ h1 (by unfold maxLen; omega) hb2 (by simp; omega) ?_
  · intro j u hu
    have hj : j < news.length := (List.getElem?_eq_some_iff.1 hu).1
    have hh : (w.alloc (.cells news.toArray T)).heap[w.heap.size]? = some (.cells news.toArray T) := heap_alloc_new w _
    rw [addr_add0]
    unfold World.cell?
    rw [hh]
    simpa using hu
  · intro v' w' h2 h3 _ h5
    refine h v' w' h2 ⟨h3.os, h3.tape, h3.output, ?_, fun k hk hne => ?_⟩ ?_
    · have := h3.size
      simp at this
      omega
    · exact (h3.block k (by simp; omega) hne).trans (Below.heap_alloc w _ _ hk)
    · rcases h5 with h5 | h5
      · exact .inl h5
      · exact .inr ⟨_, h5, by simp⟩

theorem one_int (k : IntKind) (x : Int) : ∀ u ∈ [Value.int k x], u.oneCell' = true := by
  intro u hu; simp at hu; subst hu; rfl
/-- Two slices of the call's own lie apart. -/
def Apart (v u : Value) : Prop := v.ownBlock = none ∨ v.ownBlock ≠ u.ownBlock
theorem Apart.symm {v u : Value} (h : Apart v u) : Apart u v := by
  rcases h with h | h
  · rw [Apart, h]; cases hu : u.ownBlock <;> simp
  · exact .inr (fun e => h e.symm)
theorem Apart.grown {w : World} {base : Nat} {e : TypeId} {size : Nat} {v v' u : Value} {n : Nat} {xs : List Value} (h : Apart v u) (hu : w.ownsRow base e size u n xs) (hd : v'.ownBlock = v.ownBlock ∨ ∃ k, v'.ownBlock = some k ∧ w.heap.size ≤ k) : Apart v' u := by
  rcases hd with hd | ⟨k, hd, hk⟩
  · unfold Apart; rw [hd]; exact h
  · refine .inr fun e => ?_
    rw [hd] at e
    have := (hu.lt k e.symm).2
    omega

/-- What an append to v leaves: all else as it was. -/
theorem append_step {w w1 wB : World} {B : Nat} {e : TypeId} {size : Nat} {v : Value} {n : Nat} {xs : List Value} (hv : w.ownsRow B e size v n xs) (hb : Below B wB w) (hB : B ≤ wB.heap.size) (hg : w.grownBy w1 v.ownBlock) : Below B wB w1 :=
  hb.grown hg (Nat.le_trans hB hb.size) (fun k hk => (hv.lt k hk).1)

section
variable {H : Type} {enc : TypeId × Value → H} {w : World} {base : Nat} {spare : Nat → Bool} {held : Bool}
end
end Go.Proofs.YtgodgfnfaiiohaaGreatDoor
