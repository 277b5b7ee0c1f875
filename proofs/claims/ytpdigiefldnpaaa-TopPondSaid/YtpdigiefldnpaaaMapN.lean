/- A map to truth values that a call makes, with the exact number of its keys. -/
import Derived.Test.YtpdigiefldnpaaaMapB
import Derived.Maps.Views
namespace Go.Proofs.Ytpdigiefldnpaaa
open Go.ChangeShapes Go.WideShapes Go.ChangeAt Go.RowKit Go.Maps
set_option maxRecDepth 20000
/-- Block b is a map whose keys are just those of L, each once. -/
def MapN (w : World) (P : Program) (k e : TypeId) (q : IntKind) (b n : Nat) (L : List Int) : Prop :=
  ∃ D : DataW Unit, w.ownsMap P k (plainElem P e) b n D ∧ Tidy D ∧ Maps.size D = L.length ∧ (∀ x, Maps.has D (.int q x) = true ↔ x ∈ L) ∧ ∀ x, D.atKey (.int q x) (.lit (.bool false)) = .lit (.bool (decide (x ∈ L)))
theorem MapN.made (w : World) (P : Program) (k e : TypeId) (q : IntKind) : MapN (w.alloc (.map #[] 0)) P k e q w.heap.size 0 [] :=
  ⟨_, World.ownsMap_made w P k _, tidy_empty, rfl, fun x => by simp [Maps.has], fun x => by simp [DataW.atKey]⟩
theorem MapN.isB {w : World} {P : Program} {k e : TypeId} {q : IntKind} {b n : Nat} {L : List Int} (h : MapN w P k e q b n L) : MapIs w P k e q b n (fun x => decide (x ∈ L)) := by
  obtain ⟨D, h1, _, _, _, h5⟩ := h
  exact ⟨D, h1, h5⟩
theorem MapN.below {w w' : World} {P : Program} {k e : TypeId} {b n : Nat} {L : List Int} {q : IntKind} (h : MapN w P k e q b n L) (hb : Below w.heap.size w w') : MapN w' P k e q b n L := by
  obtain ⟨D, ⟨es, clock, hh, F, hs, hD⟩, h2⟩ := h
  exact ⟨D, ⟨es, clock, (hb.block b (Array.getElem?_eq_some_iff.1 hh).1).trans hh, F, hs, hD⟩, h2⟩
def addN (L : List Int) (y : Int) : List Int := if y ∈ L then L else L ++ [y]
theorem addN_mem (L : List Int) (y z : Int) : z ∈ addN L y ↔ z = y ∨ z ∈ L := by
  unfold addN
  split
  · rename_i h
    exact ⟨.inr, fun e => e.elim (fun e => e ▸ h) id⟩
  · simp only [List.mem_append, List.mem_singleton]; exact ⟨Or.symm, Or.symm⟩
/-- 'm[k] = true'. -/
theorem wpList_mapUpdate_true {P : Program} {w : World} {ops : Array Oper} {rest : List Oper} {o : Oper} {a : Act} {Q : Exit → Act → World → Prop}
    (hg : o.guard = none) (m x v : Operand) (t : TypeId) (hop : o.op = Op.mapUpdate t m x v)
    (k e : TypeId) (K : Keyed P k) (ht : P.underlying t = some (.map k e)) (he : P.underlying e = some .bool) (b n : Nat) (L : List Int) (q : IntKind)
    (hm : a.eval m = .map (some b)) (hown : MapN w P k e q b n L) (hn : n < 1000000) (y : Int) (hx : a.eval x = .int q y) (hv : a.eval v = .bool true) (hkey : keyOf P k (.int q y) = some (.int q y))
    (hK : ∀ w', MapN w' P k e q b (n + 1) (addN L y) → w.grownBy w' (some b) → wpList P ops Q rest (a.put o.dst undef) w') : wpList P ops Q (o :: rest) a w := by
  obtain ⟨D, h1, h2, h3, h4, h5⟩ := hown
  have hkl : WideAt.IsKeyLit (.int q y) := by simp [WideAt.IsKeyLit]
  refine wpList_mapUpdate_own w hg m x v t hop k e K ht _ b n D hm h1 (by unfold maxLen; omega) _ _ _ hx hv hkey (.lit (.bool true)) [] (plainElem_bool he true) fun w' r1 r2 => hK w' ⟨_, r1, h2.put hkl _, ?_, fun z => ?_, fun z => ?_⟩ r2
  · rw [Maps.size_put h2]
    unfold addN
    by_cases hy : y ∈ L
    · rw [if_pos hy, if_pos ((h4 y).2 hy), h3]
    · rw [if_neg hy, if_neg (fun e => hy ((h4 y).1 e)), h3, List.length_append]; rfl
  · rw [addN_mem]
    by_cases hzk : z = y
    · subst hzk
      simp [has_put_same h1.isMap hkl]
    · rw [has_put_other (by simp; exact hzk), h4]
      simp [hzk]
  · by_cases hzk : z = y
    · subst hzk
      rw [decide_eq_true ((addN_mem L z z).2 (.inl rfl))]
      exact atKey_put_same h1.isMap hkl _ _
    · rw [atKey_put_other (by simp; exact hzk), h5]
      have : (z ∈ addN L y) ↔ z ∈ L := by rw [addN_mem]; simp [hzk]
      simp [this]
/-- 'len(m)'. -/
theorem MapN.len {w : World} {P : Program} {k e t : TypeId} {b n : Nat} {L : List Int} {q : IntKind} (h : MapN w P k e q b n L) (ht : P.underlying t = some (.map k e)) (ty : TypeId) :
    (Builtin.len_ #[t] ty #[.map (some b)]).run P w = .ok (.int .i64 L.length) w := by
  obtain ⟨D, h1, _, h3, _⟩ := h
  rw [h1.len ht ty, h3]
end Go.Proofs.Ytpdigiefldnpaaa
