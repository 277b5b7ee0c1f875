/- A map to numbers that a call makes, with just the keys that it has; and a loop over such a map. -/
import Derived.Test.YtpdigiefldnpaaaMapI
import Derived.Test.YtpdigiefldnpaaaMapN
import Derived.Maps.RangeWalk
namespace Go.Proofs.Ytpdigiefldnpaaa
open Go.ChangeShapes Go.WideShapes Go.ChangeAt Go.RowKit Go.Maps
set_option maxRecDepth 20000
/-- Block b is a map whose keys are just those of L, each once; it tells S of each key. -/
def MapIN (w : World) (P : Program) (k e : TypeId) (q : IntKind) (b n : Nat) (L : List Int) (S : Int → Int) : Prop :=
  ∃ D : DataW Unit, w.ownsMap P k (plainElem P e) b n D ∧ Tidy D ∧ Maps.size D = L.length ∧ (∀ x, Maps.has D (.int q x) = true ↔ x ∈ L) ∧ ∀ x, D.atKey (.int q x) (.lit (.int .i64 0)) = .lit (.int .i64 (S x))
theorem MapIN.made (w : World) (P : Program) (k e : TypeId) (q : IntKind) : MapIN (w.alloc (.map #[] 0)) P k e q w.heap.size 0 [] (fun _ => 0) :=
  ⟨_, World.ownsMap_made w P k _, tidy_empty, rfl, fun x => by simp [Maps.has], fun x => by simp [DataW.atKey]⟩
theorem MapIN.isI {w : World} {P : Program} {k e : TypeId} {q : IntKind} {b n : Nat} {L : List Int} {S : Int → Int} (h : MapIN w P k e q b n L S) : MapInt w P k e q b n S := by
  obtain ⟨D, h1, _, _, _, h5⟩ := h
  exact ⟨D, h1, h5⟩
theorem MapIN.below {w w' : World} {P : Program} {k e : TypeId} {b n : Nat} {L : List Int} {q : IntKind} {S : Int → Int} (h : MapIN w P k e q b n L S) (hb : Below w.heap.size w w') : MapIN w' P k e q b n L S := by
  obtain ⟨D, ⟨es, clock, hh, F, hs, hD⟩, h2⟩ := h
  exact ⟨D, ⟨es, clock, (hb.block b (Array.getElem?_eq_some_iff.1 hh).1).trans hh, F, hs, hD⟩, h2⟩
theorem MapIN.heap {w w' : World} {P : Program} {k e : TypeId} {b n : Nat} {L : List Int} {q : IntKind} {S : Int → Int} (h : MapIN w P k e q b n L S) (hb : w'.heap[b]? = w.heap[b]?) : MapIN w' P k e q b n L S := by
  obtain ⟨D, ⟨es, clock, hh, F, hs, hD⟩, h2⟩ := h
  exact ⟨D, ⟨es, clock, hb.trans hh, F, hs, hD⟩, h2⟩
theorem MapN.heap {w w' : World} {P : Program} {k e : TypeId} {b n : Nat} {L : List Int} {q : IntKind} (h : MapN w P k e q b n L) (hb : w'.heap[b]? = w.heap[b]?) : MapN w' P k e q b n L := by
  obtain ⟨D, ⟨es, clock, hh, F, hs, hD⟩, h2⟩ := h
  exact ⟨D, ⟨es, clock, hb.trans hh, F, hs, hD⟩, h2⟩
theorem MapIN.congr {w : World} {P : Program} {k e : TypeId} {b n : Nat} {L M : List Int} {S T : Int → Int} {q : IntKind} (h : MapIN w P k e q b n L S) (hL : L = M) (hST : ∀ x, S x = T x) : MapIN w P k e q b n M T := by
  obtain ⟨D, h1, h2, h3, h4, h5⟩ := h
  subst hL
  exact ⟨D, h1, h2, h3, h4, fun x => by rw [h5, hST]⟩
/-- 'm[k] = c'. -/
theorem wpList_mapUpdate_in {P : Program} {w : World} {ops : Array Oper} {rest : List Oper} {o : Oper} {a : Act} {Q : Exit → Act → World → Prop}
    (hg : o.guard = none) (m x v : Operand) (t : TypeId) (hop : o.op = Op.mapUpdate t m x v)
    (k e : TypeId) (K : Keyed P k) (ht : P.underlying t = some (.map k e)) (he : P.underlying e = some (.int .i64)) (b n : Nat) (L : List Int) (S : Int → Int) (q : IntKind)
    (hm : a.eval m = .map (some b)) (hown : MapIN w P k e q b n L S) (hn : n < 1000000) (y : Int) (c : Int) (hx : a.eval x = .int q y) (hv : a.eval v = .int .i64 c) (hkey : keyOf P k (.int q y) = some (.int q y)) (hc : (Lit.int .i64 c).wf = true)
    (hK : ∀ w', MapIN w' P k e q b (n + 1) (addN L y) (fun z => if z = y then c else S z) → w.grownBy w' (some b) → wpList P ops Q rest (a.put o.dst undef) w') : wpList P ops Q (o :: rest) a w := by
  obtain ⟨D, h1, h2, h3, h4, h5⟩ := hown
  have hkl : WideAt.IsKeyLit (.int q y) := by simp [WideAt.IsKeyLit]
  refine wpList_mapUpdate_own w hg m x v t hop k e K ht _ b n D hm h1 (by unfold maxLen; omega) _ _ _ hx hv hkey (.lit (.int .i64 c)) [] (plainElem_int he hc) fun w' r1 r2 => hK w' ⟨_, r1, h2.put hkl _, ?_, fun z => ?_, fun z => ?_⟩ r2
  · rw [Maps.size_put h2]
    unfold addN
    by_cases hy : y ∈ L
    · rw [if_pos hy, if_pos ((h4 y).2 hy), h3]
    · rw [if_neg hy, if_neg (fun e => hy ((h4 y).1 e)), h3, List.length_append]; rfl
  · rw [addN_mem]
    by_cases hzk : z = y
    · subst hzk
      simp [has_put_same h1.isMap hkl]
    · rw [has_put_other (by simp; exact hzk), h4]
      simp [hzk]
  · by_cases hzk : z = y
    · subst hzk
      show _ = DataW.lit (Lit.int .i64 (if z = z then c else S z))
      rw [if_pos rfl]
      exact atKey_put_same h1.isMap hkl _ _
    · show _ = DataW.lit (Lit.int .i64 (if z = y then c else S z))
      rw [if_neg hzk, atKey_put_other (by simp; exact hzk)]
      exact h5 z
/-- 'len(m)'. -/
theorem MapIN.len {w : World} {P : Program} {k e t : TypeId} {b n : Nat} {L : List Int} {q : IntKind} {S : Int → Int} (h : MapIN w P k e q b n L S) (ht : P.underlying t = some (.map k e)) (ty : TypeId) :
    (Builtin.len_ #[t] ty #[.map (some b)]).run P w = .ok (.int .i64 L.length) w := by
  obtain ⟨D, h1, _, h3, _⟩ := h
  rw [h1.len ht ty, h3]
/-- A loop over such a map under way: what comes out of it is a key of which Lp holds, and what S tells of it. -/
def RangeI (w : World) (P : Program) (k e : TypeId) (q : IntKind) (b r n : Nat) (S : Int → Int) (Lp : Int → Prop) (cnt : Nat) : Prop :=
  ∃ (D : DataW Unit) (left : Lit → Bool), w.ranges P k (plainElem P e) b r n D left cnt ∧ (∀ x, D.atKey (.int q x) (.lit (.int .i64 0)) = .lit (.int .i64 (S x))) ∧ ∀ x, left (.int q x) = true → Lp x
theorem RangeI.left_eq {w : World} {P : Program} {k e : TypeId} {q : IntKind} {b r n : Nat} {S : Int → Int} {Lp : Int → Prop} {cnt : Nat} (h : RangeI w P k e q b r n S Lp cnt) : w.rangeLeft b r = cnt := by
  obtain ⟨D, left, h, _⟩ := h
  exact h.left_eq
theorem RangeI.kept {w w' : World} {P : Program} {k e : TypeId} {q : IntKind} {b r n : Nat} {S : Int → Int} {Lp : Int → Prop} {cnt : Nat} (h : RangeI w P k e q b r n S Lp cnt) {row : Option Nat} (hg : w.grownBy w' row) (hb' : some b ≠ row) (hr' : some r ≠ row) : RangeI w' P k e q b r n S Lp cnt := by
  obtain ⟨D, left, h, h2⟩ := h
  exact ⟨D, left, h.kept hg hb' hr', h2⟩
theorem RangeI.alloc {w : World} {P : Program} {k e : TypeId} {q : IntKind} {b r n : Nat} {S : Int → Int} {Lp : Int → Prop} {cnt : Nat} (h : RangeI w P k e q b r n S Lp cnt) (o : Obj) : RangeI (w.alloc o) P k e q b r n S Lp cnt := by
  obtain ⟨D, left, h, h2⟩ := h
  exact ⟨D, left, h.alloc o, h2⟩
theorem RangeI.lt {w : World} {P : Program} {k e : TypeId} {q : IntKind} {b r n : Nat} {S : Int → Int} {Lp : Int → Prop} {cnt : Nat} (h : RangeI w P k e q b r n S Lp cnt) : r < w.heap.size ∧ b < w.heap.size := by
  obtain ⟨D, left, h, h2⟩ := h
  exact ⟨h.lt, h.owns.lt⟩
theorem RangeI.below {w w' : World} {P : Program} {k e : TypeId} {q : IntKind} {b r n : Nat} {S : Int → Int} {Lp : Int → Prop} {cnt : Nat} (h : RangeI w P k e q b r n S Lp cnt) (hb : Below w.heap.size w w') : RangeI w' P k e q b r n S Lp cnt := by
  obtain ⟨D, left, ⟨es, clock, since, seen, c0, h1, F, hs, hD, h2, rest⟩, h3⟩ := h
  exact ⟨D, left, ⟨es, clock, since, seen, c0, (hb.block b (Array.getElem?_eq_some_iff.1 h1).1).trans h1, F, hs, hD, (hb.block r (Array.getElem?_eq_some_iff.1 h2).1).trans h2, rest⟩, h3⟩
/-- 'range m', of whose keys nothing is asked. -/
theorem wpList_range_i {P : Program} {w : World} {ops : Array Oper} {rest : List Oper} {o : Oper} {a : Act} {Q : Exit → Act → World → Prop}
    (hg : o.guard = none) (m : Operand) (t : TypeId) (hop : o.op = Op.range t m) (k e : TypeId) (K : Keyed P k) (ht : P.underlying t = some (.map k e)) (q : IntKind) (b n : Nat) (S : Int → Int)
    (hm : a.eval m = .map (some b)) (hown : MapInt w P k e q b n S)
    (hK : ∀ w' cnt, RangeI w' P k e q b w.heap.size n S (fun _ => True) cnt → w.grownBy w' none → w'.heap.size = w.heap.size + 1 → wpList P ops Q rest (a.put o.dst (.pointer (some ⟨w.heap.size, 0, none⟩))) w') : wpList P ops Q (o :: rest) a w := by
  obtain ⟨D, h1, h2⟩ := hown
  exact wpList_range_own w hg m t hop k e K ht _ b n D hm h1 fun w' r1 r2 r3 => hK w' _ ⟨D, _, r1, h2, fun _ _ => trivial⟩ r2 r3
/-- 'range m', of whose keys all is known. -/
theorem wpList_range_in {P : Program} {w : World} {ops : Array Oper} {rest : List Oper} {o : Oper} {a : Act} {Q : Exit → Act → World → Prop}
    (hg : o.guard = none) (m : Operand) (t : TypeId) (hop : o.op = Op.range t m) (k e : TypeId) (K : Keyed P k) (ht : P.underlying t = some (.map k e)) (q : IntKind) (b n : Nat) (L : List Int) (S : Int → Int)
    (hm : a.eval m = .map (some b)) (hown : MapIN w P k e q b n L S)
    (hK : ∀ w' cnt, RangeI w' P k e q b w.heap.size n S (fun x => x ∈ L) cnt → w.grownBy w' none → w'.heap.size = w.heap.size + 1 → wpList P ops Q rest (a.put o.dst (.pointer (some ⟨w.heap.size, 0, none⟩))) w') : wpList P ops Q (o :: rest) a w := by
  obtain ⟨D, h1, _, _, h4, h5⟩ := hown
  exact wpList_range_own w hg m t hop k e K ht _ b n D hm h1 fun w' r1 r2 r3 => hK w' _ ⟨D, _, r1, h5, fun x hx => (h4 x).1 hx⟩ r2 r3
/-- The loop's step. -/
theorem wpList_next_i {P : Program} {w : World} {ops : Array Oper} {rest : List Oper} {o : Oper} {a : Act} {Q : Exit → Act → World → Prop}
    (hg : o.guard = none) (it : Operand) (hop : o.op = Op.next it false) (k e : TypeId) (q : IntKind) (K : Keyed P k) (hk : P.underlying k = some (.int q)) (he : P.underlying e = some (.int .i64))
    (b r n : Nat) (S : Int → Int) (Lp : Int → Prop) (cnt : Nat) (hit : a.eval it = .pointer (some ⟨r, 0, none⟩)) (h : RangeI w P k e q b r n S Lp cnt)
    (hDone : cnt = 0 → wpList P ops Q rest (a.put o.dst (.tuple #[.bool false])) w)
    (hMore : ∀ (x : Int) (w' : World) (cnt' : Nat), (Lit.int q x).wf = true → (Lit.int .i64 (S x)).wf = true → Lp x → RangeI w' P k e q b r n S Lp cnt' → cnt' < cnt →
      w.grownBy w' (some r) → w'.heap.size = w.heap.size → (Instr.entry (.pointer (some ⟨r, 0, none⟩))).run P w' = .ok (.tuple #[.int q x, .int .i64 (S x)]) w' → wpList P ops Q rest (a.put o.dst (.tuple #[.bool true, .int q x, .int .i64 (S x)])) w') :
    wpList P ops Q (o :: rest) a w := by
  obtain ⟨D, left, h1, h2, h3⟩ := h
  refine wpList_next_ranges_ii w hg it hop k e q .i64 K hk he b r n D left cnt hit h1 (fun h0 _ => hDone h0) (fun x c w' cnt' hwx hwc hl hat hr hlt hg2 hs hen => ?_)
  have hc : c = S x := by
    have := (hat (.lit (.int .i64 0))).symm.trans (h2 x)
    simpa using this
  subst hc
  exact hMore x w' cnt' hwx hwc (h3 x hl) ⟨D, _, hr, h2, fun y hy => h3 y (by simp at hy; exact hy.1)⟩ hlt hg2 hs hen
end Go.Proofs.Ytpdigiefldnpaaa
