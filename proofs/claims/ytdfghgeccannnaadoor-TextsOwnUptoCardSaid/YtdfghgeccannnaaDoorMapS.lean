/- A map from texts to truth values that a call makes: what it holds, by a function on keys; the laws of a look-up and of a store, over any program. -/
import Derived.Test.YtdfghgeccannnaaDoorMem
import Derived.Maps.OwnOps
import Derived.Maps.OwnSet
import Derived.Maps.Keyed
import Derived.WalkSmall
import Derived.Deep.QuietTactic
namespace Go.Proofs.YtdfghgeccannnaaDoor
open Go.ChangeShapes Go.WideShapes Go.ChangeAt Go.RowKit Go.Maps
set_option maxRecDepth 20000

/-- Block b is a map of at most n keys that tells S of each key. -/
def MapSB (w : World) (P : Program) (k e : TypeId) (b n : Nat) (S : List UInt8 → Bool) : Prop :=
  ∃ D : DataW Unit, w.ownsMap P k (plainElem P e) b n D ∧ ∀ x, D.atKey (.string x) (.lit (.bool false)) = .lit (.bool (S x))

theorem MapSB.made (w : World) (P : Program) (k e : TypeId) : MapSB (w.alloc (.map #[] 0)) P k e w.heap.size 0 (fun _ => false) :=
  ⟨_, World.ownsMap_made w P k _, fun _ => rfl⟩
theorem MapSB.alloc {w : World} {P : Program} {k e : TypeId} {b n : Nat} {S : List UInt8 → Bool} (h : MapSB w P k e b n S) (o : Obj) : MapSB (w.alloc o) P k e b n S := by
  obtain ⟨D, h1, h2⟩ := h
  exact ⟨D, h1.alloc o, h2⟩
theorem MapSB.kept {w w' : World} {P : Program} {k e : TypeId} {b n : Nat} {S : List UInt8 → Bool} (h : MapSB w P k e b n S) {row : Option Nat} (hg : w.grownBy w' row) (hne : some b ≠ row) : MapSB w' P k e b n S := by
  obtain ⟨D, h1, h2⟩ := h
  exact ⟨D, h1.kept hg hne, h2⟩
theorem MapSB.below {w w' : World} {P : Program} {k e : TypeId} {b n : Nat} {S : List UInt8 → Bool} (h : MapSB w P k e b n S) (hb : Below w.heap.size w w') : MapSB w' P k e b n S := by
  obtain ⟨D, ⟨es, clock, hh, F, hs, hD⟩, h2⟩ := h
  exact ⟨D, ⟨es, clock, (hb.block b (Array.getElem?_eq_some_iff.1 hh).1).trans hh, F, hs, hD⟩, h2⟩
theorem MapSB.drewN {w : World} {P : Program} {k e : TypeId} {b n : Nat} {S : List UInt8 → Bool} (h : MapSB w P k e b n S) (m : Nat) : MapSB (w.drewN m) P k e b n S := h
theorem MapSB.lt {w : World} {P : Program} {k e : TypeId} {b n : Nat} {S : List UInt8 → Bool} (h : MapSB w P k e b n S) : b < w.heap.size := by
  obtain ⟨D, ⟨es, clock, hh, _⟩, _⟩ := h
  exact (Array.getElem?_eq_some_iff.1 hh).1

theorem plainElem_boolS_inv {P : Program} {e : TypeId} (he : P.underlying e = some .bool) {v : Value} {z : DataW Unit × List MemPlace} (h : plainElem P e v = some z) : ∃ a, v = .bool a ∧ z = (.lit (.bool a), []) := by
  unfold plainElem at h
  rw [he] at h
  cases v <;> simp at h
  exact ⟨_, rfl, h.symm⟩

/-- 'm[k]', as an equation laid ahead of the walk. -/
theorem MapSB.run {P : Program} {w : World} {k e : TypeId} {b n : Nat} {S : List UInt8 → Bool} (h : MapSB w P k e b n S) {t : TypeId} (K : Keyed P k) (ht : P.underlying t = some (.map k e)) (he : P.underlying e = some .bool) (hz : (zeroValue e).run P w = .ok (.bool false) w) (y : ByteArray) (hkey : keyOf P k (.string y) = some (.string y.data.toList)) :
    (Instr.lookup t (.map (some b)) (.string y) false).run P w = .ok (.bool (S y.data.toList)) w := by
  obtain ⟨D, h1, h2⟩ := h
  obtain ⟨v, ps, hrun, hv⟩ := h1.lookup K ht hz (plainElem_bool he false) hkey
  obtain ⟨c, rfl, hc⟩ := plainElem_boolS_inv he hv
  simp only [Prod.mk.injEq] at hc
  have hcS : c = S y.data.toList := by
    have := (h2 y.data.toList).symm.trans hc.1
    simpa using this.symm
  rw [hrun, hcS]
/-- 'm[k]'. -/
theorem wpList_lookup_boolS {P : Program} {w : World} {ops : Array Oper} {rest : List Oper} {o : Oper} {a : Act} {Q : Exit → Act → World → Prop}
    (hg : o.guard = none) (m x : Operand) (t : TypeId) (hop : o.op = Op.lookup t m x false)
    (k e : TypeId) (K : Keyed P k) (ht : P.underlying t = some (.map k e)) (he : P.underlying e = some .bool) (hz : (zeroValue e).run P w = .ok (.bool false) w) (b n : Nat) (S : List UInt8 → Bool)
    (hm : a.eval m = .map (some b)) (hown : MapSB w P k e b n S) (y : ByteArray) (hx : a.eval x = .string y) (hkey : keyOf P k (.string y) = some (.string y.data.toList))
    (hK : wpList P ops Q rest (a.put o.dst (.bool (S y.data.toList))) w) : wpList P ops Q (o :: rest) a w := by
  refine wpList_plain hg fun K' hK' => ?_
  obtain ⟨D, h1, h2⟩ := hown
  obtain ⟨v, ps, hrun, hv⟩ := h1.lookup K ht hz (plainElem_bool he false) hkey
  obtain ⟨c, rfl, hc⟩ := plainElem_boolS_inv he hv
  simp only [Prod.mk.injEq] at hc
  have hcS : c = S y.data.toList := by
    have := (h2 y.data.toList).symm.trans hc.1
    simpa using this.symm
  unfold Oper.wp
  simp [execOp, hop, hm, hx, hrun, Result.andThen]
  rw [hcS]
  exact hK' _ _ hK

/-- 'm[k] = c'. -/
theorem wpList_mapUpdate_boolS {P : Program} {w : World} {ops : Array Oper} {rest : List Oper} {o : Oper} {a : Act} {Q : Exit → Act → World → Prop}
    (hg : o.guard = none) (m x v : Operand) (t : TypeId) (hop : o.op = Op.mapUpdate t m x v)
    (k e : TypeId) (K : Keyed P k) (ht : P.underlying t = some (.map k e)) (he : P.underlying e = some .bool) (b n : Nat) (S : List UInt8 → Bool)
    (hm : a.eval m = .map (some b)) (hown : MapSB w P k e b n S) (hn : n < 1000000) (y : ByteArray) (c : Bool) (hx : a.eval x = .string y) (hv : a.eval v = .bool c) (hkey : keyOf P k (.string y) = some (.string y.data.toList))
    (hK : ∀ w', MapSB w' P k e b (n + 1) (fun z => if z = y.data.toList then c else S z) → w.grownBy w' (some b) → wpList P ops Q rest (a.put o.dst undef) w') : wpList P ops Q (o :: rest) a w := by
  obtain ⟨D, h1, h2⟩ := hown
  refine wpList_mapUpdate_own w hg m x v t hop k e K ht _ b n D hm h1 (by unfold maxLen; omega) _ _ _ hx hv hkey (.lit (.bool c)) [] (plainElem_bool he c) fun w' r1 r2 => hK w' ⟨_, r1, fun z => ?_⟩ r2
  by_cases hzk : z = y.data.toList
  · show _ = DataW.lit (Lit.bool (if z = y.data.toList then c else S z))
    rw [if_pos hzk, hzk]
    exact atKey_put_same h1.isMap (by simp [WideAt.IsKeyLit]) _ _
  · show _ = DataW.lit (Lit.bool (if z = y.data.toList then c else S z))
    rw [if_neg hzk, atKey_put_other (by simp; exact hzk)]
    exact h2 z
/-- An entry of a map literal. -/
theorem wpList_insert_boolS {P : Program} {w : World} {ops : Array Oper} {rest : List Oper} {o : Oper} {a : Act} {Q : Exit → Act → World → Prop}
    (hg : o.guard = none) (m x v : Operand) (t : TypeId) (hop : o.op = Op.insert t m x v)
    (k e : TypeId) (K : Keyed P k) (ht : P.underlying t = some (.map k e)) (he : P.underlying e = some .bool) (b n : Nat) (S : List UInt8 → Bool)
    (hm : a.eval m = .map (some b)) (hown : MapSB w P k e b n S) (hn : n < 1000000) (y : ByteArray) (c : Bool) (hx : a.eval x = .string y) (hv : a.eval v = .bool c) (hkey : keyOf P k (.string y) = some (.string y.data.toList))
    (hK : ∀ w', MapSB w' P k e b (n + 1) (fun z => if z = y.data.toList then c else S z) → w.grownBy w' (some b) → wpList P ops Q rest (a.put o.dst undef) w') : wpList P ops Q (o :: rest) a w := by
  obtain ⟨D, h1, h2⟩ := hown
  refine wpList_plain hg fun K' hK' => ?_
  obtain ⟨w', hrun, r1, r2⟩ := h1.store K ht (by unfold maxLen; omega) hkey (plainElem_bool he c)
  unfold Oper.wp
  simp [execOp, hop, hm, hx, hv, hrun, Result.andThen]
  refine hK' _ _ (hK w' ⟨_, r1, fun z => ?_⟩ r2.grown)
  by_cases hzk : z = y.data.toList
  · show _ = DataW.lit (Lit.bool (if z = y.data.toList then c else S z))
    rw [if_pos hzk, hzk]
    exact atKey_put_same h1.isMap (by simp [WideAt.IsKeyLit]) _ _
  · show _ = DataW.lit (Lit.bool (if z = y.data.toList then c else S z))
    rw [if_neg hzk, atKey_put_other (by simp; exact hzk)]
    exact h2 z
/-- 'delete(m, k)'. -/
theorem wpList_delete_boolS {P : Program} {w : World} {ops : Array Oper} {rest : List Oper} {o : Oper} {a : Act} {Q : Exit → Act → World → Prop}
    (hg : o.guard = none) (m x : Operand) (t k : TypeId) (hop : o.op = Op.call { callee := Callee.builtin Builtin.delete, args := #[m, x], argTypes := #[t, k] })
    (e : TypeId) (K : Keyed P k) (ht : P.underlying t = some (.map k e)) (b n : Nat) (S : List UInt8 → Bool)
    (hm : a.eval m = .map (some b)) (hown : MapSB w P k e b n S) (y : ByteArray) (hx : a.eval x = .string y) (hkey : keyOf P k (.string y) = some (.string y.data.toList))
    (hK : ∀ w', MapSB w' P k e b n (fun z => if z = y.data.toList then false else S z) → w.grownBy w' (some b) → wpList P ops Q rest (a.put o.dst (.tuple #[])) w') : wpList P ops Q (o :: rest) a w := by
  obtain ⟨D, h1, h2⟩ := hown
  refine wpList_delete_own w hg m x t k hop e K ht _ b n D hm h1 _ _ hx hkey fun w' r1 r2 => hK w' ⟨_, r1, fun z => ?_⟩ r2.grown
  by_cases hzk : z = y.data.toList
  · show _ = DataW.lit (Lit.bool (if z = y.data.toList then false else S z))
    rw [if_pos hzk, hzk]
    exact atKey_del_same _
  · show _ = DataW.lit (Lit.bool (if z = y.data.toList then false else S z))
    rw [if_neg hzk, atKey_del_other (by simp; exact hzk)]
    exact h2 z
end Go.Proofs.YtdfghgeccannnaaDoor
