/- A map to numbers that a call makes: what it holds, by a function on keys; the laws of a look-up and of a store, over any program. -/
import Derived.Test.YtcbklhicellepaaMem
import Derived.Maps.OwnOps
import Derived.Maps.OwnSet
import Derived.Maps.Keyed
import Derived.WalkSmall
import Derived.Deep.QuietTactic
namespace Go.Proofs.Ytcbklhicellepaa
open Go.ChangeShapes Go.WideShapes Go.ChangeAt Go.RowKit Go.Maps
set_option maxRecDepth 20000
/-- Block b is a map of at most n keys that tells S of each key. -/
def MapInt (w : World) (P : Program) (k e : TypeId) (q : IntKind) (b n : Nat) (S : Int → Int) : Prop :=
  ∃ D : DataW Unit, w.ownsMap P k (plainElem P e) b n D ∧ ∀ x, D.atKey (.int q x) (.lit (.int .i64 0)) = .lit (.int .i64 (S x))
theorem MapInt.made (w : World) (P : Program) (k e : TypeId) (q : IntKind) : MapInt (w.alloc (.map #[] 0)) P k e q w.heap.size 0 (fun _ => 0) :=
  ⟨_, World.ownsMap_made w P k _, fun _ => rfl⟩
theorem MapInt.alloc {w : World} {P : Program} {k e : TypeId} {b n : Nat} {S : Int → Int} {q : IntKind} (h : MapInt w P k e q b n S) (o : Obj) : MapInt (w.alloc o) P k e q b n S := by
  obtain ⟨D, h1, h2⟩ := h
  exact ⟨D, h1.alloc o, h2⟩
theorem MapInt.below {w w' : World} {P : Program} {k e : TypeId} {b n : Nat} {S : Int → Int} {q : IntKind} (h : MapInt w P k e q b n S) (hb : Below w.heap.size w w') : MapInt w' P k e q b n S := by
  obtain ⟨D, ⟨es, clock, hh, F, hs, hD⟩, h2⟩ := h
  exact ⟨D, ⟨es, clock, (hb.block b (Array.getElem?_eq_some_iff.1 hh).1).trans hh, F, hs, hD⟩, h2⟩
theorem MapInt.lt {w : World} {P : Program} {k e : TypeId} {b n : Nat} {S : Int → Int} {q : IntKind} (h : MapInt w P k e q b n S) : b < w.heap.size := by
  obtain ⟨D, ⟨es, clock, hh, _⟩, _⟩ := h
  exact (Array.getElem?_eq_some_iff.1 hh).1
theorem MapInt.congr {w : World} {P : Program} {k e : TypeId} {b n : Nat} {S T : Int → Int} {q : IntKind} (h : MapInt w P k e q b n S) (hST : ∀ x, S x = T x) : MapInt w P k e q b n T := by
  obtain ⟨D, h1, h2⟩ := h
  exact ⟨D, h1, fun x => by rw [h2, hST]⟩
/-- 'm[k]', as an equation laid ahead of the walk. -/
theorem MapInt.run {P : Program} {w : World} {k e : TypeId} {q : IntKind} {b n : Nat} {S : Int → Int} (h : MapInt w P k e q b n S) {t : TypeId} (K : Keyed P k) (ht : P.underlying t = some (.map k e)) (he : P.underlying e = some (.int .i64)) (hz : (zeroValue e).run P w = .ok (.int .i64 0) w) (y : Int) (hkey : keyOf P k (.int q y) = some (.int q y)) :
    (Instr.lookup t (.map (some b)) (.int q y) false).run P w = .ok (.int .i64 (S y)) w := by
  obtain ⟨D, h1, h2⟩ := h
  obtain ⟨v, ps, hrun, hv⟩ := h1.lookup K ht hz (plainElem_int (H := Unit) he (by rfl)) hkey
  obtain ⟨c, rfl, hc⟩ := plainElem_int_inv he hv
  have hc1 := (Prod.mk.inj hc.1).1
  have hcS : c = S y := by
    have := (h2 y).symm.trans hc1
    simpa using this.symm
  rw [hrun, hcS]
/-- 'm[k] = c'. -/
theorem wpList_mapUpdate_int {P : Program} {w : World} {ops : Array Oper} {rest : List Oper} {o : Oper} {a : Act} {Q : Exit → Act → World → Prop}
    (hg : o.guard = none) (m x v : Operand) (t : TypeId) (hop : o.op = Op.mapUpdate t m x v)
    (k e : TypeId) (K : Keyed P k) (ht : P.underlying t = some (.map k e)) (he : P.underlying e = some (.int .i64)) (b n : Nat) (S : Int → Int) (q : IntKind)
    (hm : a.eval m = .map (some b)) (hown : MapInt w P k e q b n S) (hn : n < 1000000) (y : Int) (c : Int) (hx : a.eval x = .int q y) (hv : a.eval v = .int .i64 c) (hkey : keyOf P k (.int q y) = some (.int q y)) (hc : (Lit.int .i64 c).wf = true)
    (hK : ∀ w', MapInt w' P k e q b (n + 1) (fun z => if z = y then c else S z) → w.grownBy w' (some b) → wpList P ops Q rest (a.put o.dst undef) w') : wpList P ops Q (o :: rest) a w := by
  obtain ⟨D, h1, h2⟩ := hown
  refine wpList_mapUpdate_own w hg m x v t hop k e K ht _ b n D hm h1 (by unfold maxLen; omega) _ _ _ hx hv hkey (.lit (.int .i64 c)) [] (plainElem_int he hc) fun w' r1 r2 => hK w' ⟨_, r1, fun z => ?_⟩ r2
  by_cases hzk : z = y
  · subst hzk
    show _ = DataW.lit (Lit.int .i64 (if z = z then c else S z))
    rw [if_pos rfl]
    exact atKey_put_same h1.isMap (by simp [WideAt.IsKeyLit]) _ _
  · show _ = DataW.lit (Lit.int .i64 (if z = y then c else S z))
    rw [if_neg hzk, atKey_put_other (by simp; exact hzk)]
    exact h2 z
end Go.Proofs.Ytcbklhicellepaa
