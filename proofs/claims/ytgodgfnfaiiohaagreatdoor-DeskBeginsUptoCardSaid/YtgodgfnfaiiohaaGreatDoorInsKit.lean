/- 'copy' into a block that is known whole, elements of whatever size; over any program. -/
import Derived.Test.YtgodgfnfaiiohaaGreatDoorKit
import Derived.Deep.RegionLaw
import Derived.Lib.AppendZeros
import Derived.Lib.AppendZerosOnto
import Derived.Lib.Overlaps
import Derived.Lib.Walk
import Derived.Laws.Externs
import Derived.Laws.IdiomCopy
namespace Go.Proofs.YtgodgfnfaiiohaaGreatDoor
open Go.ChangeShapes Go.WideShapes Go.ChangeAt Go.RowKit
set_option maxRecDepth 20000
/-- A row, from some place on overwritten. -/
def spl (L : List Value) (o : Nat) (cs : List Value) : List Value := L.take o ++ (cs ++ L.drop (o + cs.length))
theorem spl_len (L : List Value) (o : Nat) (cs : List Value) (h : o + cs.length ≤ L.length) : (spl L o cs).length = L.length := by
  unfold spl; simp; omega
theorem spl_get (L : List Value) (o : Nat) (cs : List Value) (h : o + cs.length ≤ L.length) (j : Nat) : (spl L o cs)[j]? = if j < o then L[j]? else if j < o + cs.length then cs[j - o]? else L[j]? := by
  unfold spl
  have ht : (L.take o).length = o := by rw [List.length_take]; omega
  by_cases h1 : j < o
  · rw [if_pos h1, List.getElem?_append_left (by omega), List.getElem?_take, if_pos h1]
  · rw [if_neg h1, List.getElem?_append_right (by omega), ht]
    by_cases h2 : j < o + cs.length
    · rw [if_pos h2, List.getElem?_append_left (by omega)]
    · rw [if_neg h2, List.getElem?_append_right (by omega), List.getElem?_drop]
      congr 1; omega
theorem spl_cons (L : List Value) (o : Nat) (v : Value) (r : List Value) (h : o + (r.length + 1) ≤ L.length) : spl (L.set o v) (o + 1) r = spl L o (v :: r) := by
  apply List.ext_getElem?
  intro j
  rw [spl_get _ _ _ (by rw [List.length_set]; omega), spl_get _ _ _ (by simp; omega)]
  simp only [List.getElem?_set, List.length_cons]
  by_cases h1 : j < o
  · rw [if_pos (by omega), if_neg (by omega), if_pos h1]
  · rw [if_neg h1]
    by_cases h2 : j = o
    · subst h2
      rw [if_pos (by omega), if_pos rfl, if_pos (by omega), if_pos (by omega), Nat.sub_self]; rfl
    · rw [if_neg (by omega)]
      by_cases h3 : j < o + 1 + r.length
      · rw [if_pos h3, if_pos (by omega), show j - o = (j - (o + 1)) + 1 by omega, List.getElem?_cons_succ]
      · rw [if_neg h3, if_neg (by omega), if_neg (by omega)]
theorem heap_setCells (b : Nat) (t : TypeId) : ∀ (cs : List Value) (o : Nat) (w : World) (cur : List Value), w.heap[b]? = some (.cells cur.toArray t (0, 0)) → o + cs.length ≤ cur.length → (w.setCells b o cs).heap[b]? = some (.cells (spl cur o cs).toArray t (0, 0))
  | [], o, w, cur, h, _ => by
    show w.heap[b]? = _
    rw [h]; simp [spl]
  | v :: r, o, w, cur, h, hl => by
    show ((w.setCell ⟨b, o, none⟩ v).setCells b (o + 1) r).heap[b]? = _
    simp only [List.length_cons] at hl
    have h1 := heap_setCell_same w b o cur.toArray t v h
    have e : (cur.toArray.setIfInBounds o v) = (cur.set o v).toArray := by simp
    rw [e] at h1
    rw [heap_setCells b t r (o + 1) _ (cur.set o v) h1 (by rw [List.length_set]; omega), spl_cons cur o v r hl]
theorem below_setCells {B b : Nat} (hB : B ≤ b) : ∀ (cs : List Value) (o : Nat) (W w : World), Below B W w → Below B W (w.setCells b o cs)
  | [], _, _, _, h => h
  | v :: r, o, W, w, h => below_setCells hB r (o + 1) W _ (h.setCell (p := ⟨b, o, none⟩) hB v)
theorem heap_setCells_ne (b : Nat) : ∀ (cs : List Value) (o : Nat) (w : World) (k : Nat), k ≠ b → (w.setCells b o cs).heap[k]? = w.heap[k]?
  | [], _, _, _, _ => rfl
  | v :: r, o, w, k, h => (heap_setCells_ne b r (o + 1) (w.setCell ⟨b, o, none⟩ v) k h).trans (Below.heap_setCell _ _ _ _ h)
theorem blk_cell {w : World} {b : Nat} {t : TypeId} {cur : List Value} (h : w.heap[b]? = some (.cells cur.toArray t (0, 0))) (j : Nat) : w.cell? ⟨b, j, none⟩ = cur[j]? := by
  unfold World.cell?; rw [h]; simp
theorem blk_fro {w : World} {b : Nat} {t : TypeId} {cur : List Value} (h : w.heap[b]? = some (.cells cur.toArray t (0, 0))) (j : Nat) : w.frozen? ⟨b, j, none⟩ = false := frozen_of_row w b j cur.toArray t h
theorem run_copy_blk {P : Program} (w : World) (dT sT ty elem : TypeId) (s b o dLen dCap : Nat) (a : Addr) (sLen sCap : Nat) (cs : List Value)
    (hu : P.underlying dT = some (.slice elem)) (hs : (P.info? elem).map (·.size) = some s) (hn : cs.length = Nat.min sLen dLen * s)
    (hsrc : ∀ j v, cs[j]? = some v → w.cell? (a.add j) = some v) (t : TypeId) (cur : List Value) (hg : w.heap[b]? = some (.cells cur.toArray t (0, 0))) (hfit : o + cs.length ≤ cur.length) (h1 : ∀ v ∈ cs, v.oneCell' = true) :
    (Builtin.copy_ #[dT, sT] ty #[.slice (some ⟨b, o, none⟩) dLen dCap, .slice (some a) sLen sCap]).run P w = .ok (goInt (Nat.min sLen dLen)) (w.setCells b o cs) := by
  have hl := run_loadCells_list (P := P) w a cs hsrc
  have hst := run_storeCells_cells (P := P) b o cs 0 w (fun j hj => by rw [blk_cell hg, List.getElem?_eq_getElem (by omega)]; rfl) (fun j hj => blk_fro hg _) h1
  cases hq : P.info? elem with
  | none => simp [hq] at hs
  | some i =>
    have hi : i.size = s := by simpa [hq] using hs
    simp [Builtin.copy_, run_underlying hu, Builtin.lenOf, Builtin.firstCells, sizeOf, typeInfo, hq, hi, ← hn, hl, hst]
/-- 'copy' at a list of operations. -/
theorem wpList_copy_blk {P : Program} {w : World} {ops : Array Oper} {rest : List Oper} {o : Oper} {a : Act} {Q : Exit → Act → World → Prop} (hgd : o.guard = none) (d x : Operand) (dT sT : TypeId)
    (ho : o.op = .call { callee := .builtin .copy, args := #[d, x], argTypes := #[dT, sT] }) (elem : TypeId) (hu : P.underlying dT = some (.slice elem)) (s : Nat) (hs : (P.info? elem).map (·.size) = some s)
    (b off dLen dCap : Nat) (ad : Addr) (sLen sCap : Nat) (hd : a.eval d = .slice (some ⟨b, off, none⟩) dLen dCap) (hx : a.eval x = .slice (some ad) sLen sCap) (cs : List Value) (hn : cs.length = Nat.min sLen dLen * s)
    (hsrc : ∀ j v, cs[j]? = some v → w.cell? (ad.add j) = some v) (t : TypeId) (cur : List Value) (hg : w.heap[b]? = some (.cells cur.toArray t (0, 0))) (hfit : off + cs.length ≤ cur.length) (h1 : ∀ v ∈ cs, v.oneCell' = true)
    (h : ∀ w', w'.heap[b]? = some (.cells (spl cur off cs).toArray t (0, 0)) → (∀ k, k ≠ b → w'.heap[k]? = w.heap[k]?) → Below b w w' → wpList P ops Q rest (a.put o.dst (goInt (Nat.min sLen dLen))) w') : wpList P ops Q (o :: rest) a w := by
  refine wpList_plain hgd fun K hK => ?_
  have hrun := run_copy_blk (P := P) w dT sT o.type elem s b off dLen dCap ad sLen sCap cs hu hs hn hsrc t cur hg hfit h1
  unfold Oper.wp
  simp [execOp, ho, resolve, invoke, builtin, hd, hx, hrun, Result.andThen]
  exact hK _ _ (h _ (heap_setCells b t cs off w cur hg hfit) (heap_setCells_ne b cs off w) (below_setCells (Nat.le_refl _) cs off w w (Below.refl _ _)))
/-- 'copy' as a step of a region that draws its order. -/
theorem step_copy_blk {P : Program} {ops : Array Oper} {o : Oper} {a : Act} {w : World} {K : Act → World → Prop} {Q : Exit → Act → World → Prop} {E : Prop} (hgd : o.guard = none) (d x : Operand) (dT sT : TypeId)
    (ho : o.op = .call { callee := .builtin .copy, args := #[d, x], argTypes := #[dT, sT] }) (elem : TypeId) (hu : P.underlying dT = some (.slice elem)) (s : Nat) (hs : (P.info? elem).map (·.size) = some s)
    (b off dLen dCap : Nat) (ad : Addr) (sLen sCap : Nat) (hd : a.eval d = .slice (some ⟨b, off, none⟩) dLen dCap) (hx : a.eval x = .slice (some ad) sLen sCap) (cs : List Value) (hn : cs.length = Nat.min sLen dLen * s)
    (hsrc : ∀ j v, cs[j]? = some v → w.cell? (ad.add j) = some v) (t : TypeId) (cur : List Value) (hg : w.heap[b]? = some (.cells cur.toArray t (0, 0))) (hfit : off + cs.length ≤ cur.length) (h1 : ∀ v ∈ cs, v.oneCell' = true)
    (h : ∀ w', w'.heap[b]? = some (.cells (spl cur off cs).toArray t (0, 0)) → (∀ k, k ≠ b → w'.heap[k]? = w.heap[k]?) → Below b w w' → K (a.put o.dst (goInt (Nat.min sLen dLen))) w') : if Region.wanted o (yielded ops a.tmps) = true then Oper.wp P o a w K Q else E := by
  have hw : Region.wanted o (yielded ops a.tmps) = true := by simp [Region.wanted, hgd]
  rw [if_pos hw]
  have hrun := run_copy_blk (P := P) w dT sT o.type elem s b off dLen dCap ad sLen sCap cs hu hs hn hsrc t cur hg hfit h1
  unfold Oper.wp
  simp [execOp, ho, resolve, invoke, builtin, hd, hx, hrun, Result.andThen]
  exact h _ (heap_setCells b t cs off w cur hg hfit) (heap_setCells_ne b cs off w) (below_setCells (Nat.le_refl _) cs off w w (Below.refl _ _))
/-- The slice lies in the row named, or in new memory. -/
def NearBlk (v : Value) (row : Option Nat) (s : Nat) : Prop := ∀ g, v.ownBlock = some g → row = some g ∨ s ≤ g
theorem grown_of {B : Nat} {w w' : World} {row : Option Nat} (hb : Below B w w') (h : ∀ k, k < w.heap.size → some k ≠ row → w'.heap[k]? = w.heap[k]?) : w.grownBy w' row := ⟨hb.os, hb.tape, hb.output, hb.size, h⟩
/-- In place: first what stands behind goes up, then the new ones come. -/
theorem spl_shift (L X V : List Value) (p s q : Nat) (hq : X.length = q) (hp : p ≤ q) (hV : V.length = s) (hX : L.take q = X) (hL : q + s ≤ L.length) :
    (spl (spl L (p + s) (X.drop p)) p V).take (q + s) = X.take p ++ V ++ X.drop p := by
  have hd : (X.drop p).length = q - p := by rw [List.length_drop, hq]
  have h1 := spl_len L (p + s) (X.drop p) (by omega)
  apply List.ext_getElem?
  intro j
  have ht : (X.take p).length = p := by rw [List.length_take]; omega
  by_cases hj : j < q + s
  · rw [List.getElem?_take, if_pos hj, spl_get _ _ _ (by omega), spl_get _ _ _ (by omega), List.append_assoc]
    by_cases a1 : j < p
    · rw [if_pos a1, if_pos (by omega), List.getElem?_append_left (by omega), ← hX, List.take_take, List.getElem?_take, if_pos (by omega)]
    · rw [if_neg a1, List.getElem?_append_right (by omega), ht]
      by_cases a2 : j < p + s
      · rw [if_pos (by omega), List.getElem?_append_left (by omega)]
      · rw [if_neg (by omega), if_neg (by omega), if_pos (by omega), List.getElem?_append_right (by omega)]
        congr 1; omega
  · rw [List.getElem?_eq_none (by rw [List.length_take]; omega), List.getElem?_eq_none (by simp [hd]; omega)]
/-- In new memory: the new ones behind what stood ahead, then what stood behind. -/
theorem spl_fresh (Z X V : List Value) (p s q : Nat) (hq : X.length = q) (hp : p ≤ q) (hV : V.length = s) (hZ : q + s ≤ p + Z.length) :
    (spl (spl (X.take p ++ Z) p V) (p + s) (X.drop p)).take (q + s) = X.take p ++ V ++ X.drop p := by
  have hd : (X.drop p).length = q - p := by rw [List.length_drop, hq]
  have ht : (X.take p).length = p := by rw [List.length_take]; omega
  have hl : (X.take p ++ Z).length = p + Z.length := by rw [List.length_append, ht]
  have h1 := spl_len (X.take p ++ Z) p V (by omega)
  apply List.ext_getElem?
  intro j
  by_cases hj : j < q + s
  · rw [List.getElem?_take, if_pos hj, spl_get _ _ _ (by omega), spl_get _ _ _ (by omega), List.append_assoc]
    by_cases a1 : j < p
    · rw [if_pos (by omega), if_pos a1, List.getElem?_append_left (by omega), List.getElem?_append_left (by omega)]
    · by_cases a2 : j < p + s
      · rw [if_pos (by omega), if_neg a1, if_pos (by omega), List.getElem?_append_right (by omega), ht, List.getElem?_append_left (by omega)]
      · rw [if_neg (by omega), if_pos (by omega), List.getElem?_append_right (by omega), ht, List.getElem?_append_right (by omega)]
        congr 1; omega
  · rw [List.getElem?_eq_none (by rw [List.length_take]; omega), List.getElem?_eq_none (by simp [hd]; omega)]
end Go.Proofs.YtgodgfnfaiiohaaGreatDoor
