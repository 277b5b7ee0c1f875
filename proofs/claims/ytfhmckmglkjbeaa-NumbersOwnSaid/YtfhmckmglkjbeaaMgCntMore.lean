/- Merged: Cnt, MapI, CntMore. -/
import Derived.Test.YtfhmckmglkjbeaaKit
import Derived.Test.YtfhmckmglkjbeaaMem
import Derived.Maps.OwnOps
import Derived.Maps.OwnSet
import Derived.Maps.Keyed
import Derived.WalkSmall
import Derived.Deep.QuietTactic
import Derived.ArgAppend
import Derived.WalkSpells
import Derived.Deep.LoopGhost
import Derived.Deep.DeepCutAuto
/- Slices of counters: a key and a number each. -/
namespace Go.Proofs.Ytfhmckmglkjbeaa
open Go.ChangeShapes Go.WideShapes Go.ChangeAt Go.RowKit
set_option maxRecDepth 20000
def ckey (L : List (Int × Int)) (i : Nat) : Int := (L.getD i (0, 0)).1
def cnum (L : List (Int × Int)) (i : Nat) : Int := (L.getD i (0, 0)).2
theorem cget (L : List (Int × Int)) (i : Nat) (h : i < L.length) : L[i]? = some (ckey L i, cnum L i) := by
  unfold ckey cnum
  rw [List.getD_eq_getElem?_getD, List.getElem?_eq_getElem h]; rfl
theorem cmem (L : List (Int × Int)) (i : Nat) (h : i < L.length) : (ckey L i, cnum L i) ∈ L := List.mem_of_getElem? (cget L i h)
theorem ctake (L : List (Int × Int)) (k : Nat) (h : k < L.length) : L.take (k + 1) = L.take k ++ [(ckey L k, cnum L k)] := by
  rw [List.take_add_one, cget L k h]; rfl
/-- The cells of counters. -/
def cntV : List (Int × Int) → List Value
  | [] => []
  | p :: l => Value.int .i64 p.1 :: Value.int .i64 p.2 :: cntV l
theorem cntV_append (l : List (Int × Int)) : ∀ m, cntV (m ++ l) = cntV m ++ cntV l
  | [] => rfl
  | p :: m => by simp only [List.cons_append, cntV]; rw [cntV_append l m]
theorem cntV_snoc (m : List (Int × Int)) (x y : Int) : cntV (m ++ [(x, y)]) = cntV m ++ [Value.int .i64 x, Value.int .i64 y] := cntV_append _ _
theorem cntV_len : ∀ l, (cntV l).length = l.length * 2
  | [] => rfl
  | p :: l => by simp only [cntV, List.length_cons]; rw [cntV_len l]; omega
theorem cntV_get : ∀ (l : List (Int × Int)) i, i < l.length → (cntV l)[i * 2]? = some (.int .i64 (ckey l i)) ∧ (cntV l)[i * 2 + 1]? = some (.int .i64 (cnum l i))
  | [], i, h => by simp at h
  | p :: l, 0, _ => ⟨rfl, rfl⟩
  | p :: l, i + 1, h => by
    have := cntV_get l i (by simpa using h)
    rw [show (i + 1) * 2 = i * 2 + 1 + 1 by omega]
    simp only [cntV, List.getElem?_cons_succ]
    exact this
theorem cntV_one : ∀ (l : List (Int × Int)), ∀ u ∈ cntV l, u.oneCell' = true
  | [], u, h => by simp [cntV] at h
  | p :: l, u, h => by
    simp only [cntV, List.mem_cons] at h
    rcases h with rfl | rfl | h
    · rfl
    · rfl
    · exact cntV_one l u h
/-- The sum of the numbers. -/
def csum : List (Int × Int) → Int
  | [] => 0
  | p :: l => p.2 + csum l
theorem csum_append (l : List (Int × Int)) : ∀ m, csum (m ++ l) = csum m + csum l
  | [] => by simp [csum]
  | p :: m => by simp only [List.cons_append, csum]; rw [csum_append l m]; omega
theorem csum_snoc (m : List (Int × Int)) (x y : Int) : csum (m ++ [(x, y)]) = csum m + y := by rw [csum_append]; simp [csum]
theorem csum_bd (B : Int) (hB : 0 ≤ B) : ∀ l : List (Int × Int), (∀ p ∈ l, 0 ≤ p.2 ∧ p.2 ≤ B) → 0 ≤ csum l ∧ csum l ≤ B * l.length
  | [], _ => by simp [csum]
  | p :: l, h => by
    have h1 := csum_bd B hB l (fun q hq => h q (by simp [hq]))
    have h2 := h p (by simp)
    simp only [csum, List.length_cons]
    rw [show B * ((l.length + 1 : Nat) : Int) = B * (l.length : Int) + B by rw [Int.natCast_add, Int.mul_add]; simp]
    omega
theorem csum_take (l : List (Int × Int)) (h : ∀ p ∈ l, 0 ≤ p.2) (k : Nat) : csum (l.take k) ≤ csum l ∧ 0 ≤ csum (l.take k) := by
  induction l generalizing k with
  | nil => simp [csum]
  | cons p l ih =>
    have h0 := h p (by simp)
    have h1 := fun k => ih (fun q hq => h q (by simp [hq])) k
    cases k with
    | zero =>
      have := h1 l.length
      rw [List.take_length] at this
      simp only [List.take_zero, csum]; omega
    | succ k =>
      have := h1 k
      simp only [List.take_succ_cons, csum]; omega
/-- A slice of counters. -/
structure CntAt (w : World) (a : Option Addr) (n cap : Nat) (L : List (Int × Int)) : Prop where
  len : L.length = n
  le : n ≤ cap
  max : cap ≤ 9223372036854775807
  cells : 0 < n → ∃ b off, a = some ⟨b, off, none⟩ ∧ b < w.heap.size ∧ ∀ i, i < n → w.cell? ⟨b, off + i * 2, none⟩ = some (.int .i64 (ckey L i)) ∧ w.cell? ⟨b, off + i * 2 + 1, none⟩ = some (.int .i64 (cnum L i))
theorem CntAt.below {w w' : World} {a : Option Addr} {n cap : Nat} {L : List (Int × Int)} (h : CntAt w a n cap L) (hb : Below w.heap.size w w') : CntAt w' a n cap L := by
  refine ⟨h.len, h.le, h.max, fun hn => ?_⟩
  obtain ⟨b, off, rfl, hlt, hc⟩ := h.cells hn
  exact ⟨b, off, rfl, Nat.lt_of_lt_of_le hlt hb.size, fun i hi => ⟨ck hb (hc i hi).1, ck hb (hc i hi).2⟩⟩
theorem CntAt.split {w : World} {a : Option Addr} {n cap : Nat} {L : List (Int × Int)} (h : CntAt w a n cap L) : ∃ b off, (n = 0 ∨ a = some ⟨b, off, none⟩) ∧ ∀ i, i < n → b < w.heap.size ∧ w.cell? ⟨b, off + i * 2, none⟩ = some (.int .i64 (ckey L i)) ∧ w.cell? ⟨b, off + i * 2 + 1, none⟩ = some (.int .i64 (cnum L i)) := by
  rcases Nat.eq_zero_or_pos n with h0 | h0
  · exact ⟨0, 0, .inl h0, fun i hi => by omega⟩
  · obtain ⟨b, off, ha, hb, hc⟩ := h.cells h0
    exact ⟨b, off, .inr ha, fun i hi => ⟨hb, hc i hi⟩⟩
theorem owns_cnts {w : World} {base : Nat} {e : TypeId} {v : Value} {n : Nat} {L : List (Int × Int)} (h : w.ownsRow base e 2 v n (cntV L)) : ∃ a cap, v = .slice a n cap ∧ CntAt w a n cap L := by
  obtain ⟨a, cap, rfl, h1, h2, h3⟩ := owns_cells h
  have hl := h.1
  rw [cntV_len] at hl
  have hl2 : L.length = n := by omega
  refine ⟨a, cap, rfl, hl2, h1, h2, fun hn => ?_⟩
  obtain ⟨b, off, ha, hb, hc⟩ := h3 (fun e => by have := cntV_len L; rw [e] at this; simp at this; omega)
  refine ⟨b, off, ha, hb, fun i hi => ?_⟩
  have := cntV_get L i (by omega)
  exact ⟨hc _ _ this.1, hc _ _ this.2⟩
theorem cnt_nil (w : World) : CntAt w none 0 0 [] := ⟨rfl, Nat.le_refl _, by omega, fun h => by omega⟩
/-- The cells of a slice of counters, one by one. -/
theorem CntAt.cellsAt {w : World} {a : Option Addr} {n cap : Nat} {L : List (Int × Int)} (h : CntAt w a n cap L) (x : Addr) (ha : a = some x) (j : Nat) (u : Value) (hu : (cntV L)[j]? = some u) : w.cell? (x.add j) = some u := by
  have hl := h.len
  have hj := (List.getElem?_eq_some_iff.1 hu).1
  rw [cntV_len] at hj
  obtain ⟨b, off, ha2, _, hc⟩ := h.cells (by omega)
  rw [ha] at ha2
  obtain rfl := Option.some.inj ha2
  rw [addr_add]
  have hi := hc (j / 2) (by omega)
  have hg := cntV_get L (j / 2) (by omega)
  rcases Nat.mod_two_eq_zero_or_one j with e | e
  · have e2 : j / 2 * 2 = j := by omega
    rw [e2] at hi hg
    rw [hi.1, ← hg.1, hu]
  · have e2 : j / 2 * 2 + 1 = j := by omega
    have e3 : off + j / 2 * 2 + 1 = off + j := by omega
    rw [e3] at hi
    rw [e2] at hg
    rw [hi.2, ← hg.2, hu]
theorem one_two (x y : Int) : ∀ u ∈ [Value.int .i64 x, Value.int .i64 y], u.oneCell' = true := by
  intro u hu; simp at hu; rcases hu with rfl | rfl <;> rfl
end Go.Proofs.Ytfhmckmglkjbeaa

/- A map to numbers that a call makes: what it holds, by a function on keys; the laws of a look-up and of a store, over any program. -/
namespace Go.Proofs.Ytfhmckmglkjbeaa
open Go.ChangeShapes Go.WideShapes Go.ChangeAt Go.RowKit Go.Maps
set_option maxRecDepth 20000
/-- Block b is a map of at most n keys that tells S of each key. -/
def MapInt (w : World) (P : Program) (k e : TypeId) (q : IntKind) (b n : Nat) (S : Int → Int) : Prop :=
  ∃ D : DataW Unit, w.ownsMap P k (plainElem P e) b n D ∧ ∀ x, D.atKey (.int q x) (.lit (.int .i64 0)) = .lit (.int .i64 (S x))
theorem MapInt.made (w : World) (P : Program) (k e : TypeId) (q : IntKind) : MapInt (w.alloc (.map #[] 0)) P k e q w.heap.size 0 (fun _ => 0) :=
  ⟨_, World.ownsMap_made w P k _, fun _ => rfl⟩
theorem MapInt.alloc {w : World} {P : Program} {k e : TypeId} {b n : Nat} {S : Int → Int} {q : IntKind} (h : MapInt w P k e q b n S) (o : Obj) : MapInt (w.alloc o) P k e q b n S := by
  obtain ⟨D, h1, h2⟩ := h
  exact ⟨D, h1.alloc o, h2⟩
theorem MapInt.below {w w' : World} {P : Program} {k e : TypeId} {b n : Nat} {S : Int → Int} {q : IntKind} (h : MapInt w P k e q b n S) (hb : Below w.heap.size w w') : MapInt w' P k e q b n S := by
  obtain ⟨D, ⟨es, clock, hh, F, hs, hD⟩, h2⟩ := h
  exact ⟨D, ⟨es, clock, (hb.block b (Array.getElem?_eq_some_iff.1 hh).1).trans hh, F, hs, hD⟩, h2⟩
theorem MapInt.lt {w : World} {P : Program} {k e : TypeId} {b n : Nat} {S : Int → Int} {q : IntKind} (h : MapInt w P k e q b n S) : b < w.heap.size := by
  obtain ⟨D, ⟨es, clock, hh, _⟩, _⟩ := h
  exact (Array.getElem?_eq_some_iff.1 hh).1
theorem MapInt.congr {w : World} {P : Program} {k e : TypeId} {b n : Nat} {S T : Int → Int} {q : IntKind} (h : MapInt w P k e q b n S) (hST : ∀ x, S x = T x) : MapInt w P k e q b n T := by
  obtain ⟨D, h1, h2⟩ := h
  exact ⟨D, h1, fun x => by rw [h2, hST]⟩
/-- 'm[k]', as an equation laid ahead of the walk. -/
theorem MapInt.run {P : Program} {w : World} {k e : TypeId} {q : IntKind} {b n : Nat} {S : Int → Int} (h : MapInt w P k e q b n S) {t : TypeId} (K : Keyed P k) (ht : P.underlying t = some (.map k e)) (he : P.underlying e = some (.int .i64)) (hz : (zeroValue e).run P w = .ok (.int .i64 0) w) (y : Int) (hkey : keyOf P k (.int q y) = some (.int q y)) :
    (Instr.lookup t (.map (some b)) (.int q y) false).run P w = .ok (.int .i64 (S y)) w := by
  obtain ⟨D, h1, h2⟩ := h
  obtain ⟨v, ps, hrun, hv⟩ := h1.lookup K ht hz (plainElem_int (H := Unit) he (by rfl)) hkey
  obtain ⟨c, rfl, hc⟩ := plainElem_int_inv he hv
  have hc1 := (Prod.mk.inj hc.1).1
  have hcS : c = S y := by
    have := (h2 y).symm.trans hc1
    simpa using this.symm
  rw [hrun, hcS]
/-- 'm[k] = c'. -/
theorem wpList_mapUpdate_int {P : Program} {w : World} {ops : Array Oper} {rest : List Oper} {o : Oper} {a : Act} {Q : Exit → Act → World → Prop}
    (hg : o.guard = none) (m x v : Operand) (t : TypeId) (hop : o.op = Op.mapUpdate t m x v)
    (k e : TypeId) (K : Keyed P k) (ht : P.underlying t = some (.map k e)) (he : P.underlying e = some (.int .i64)) (b n : Nat) (S : Int → Int) (q : IntKind)
    (hm : a.eval m = .map (some b)) (hown : MapInt w P k e q b n S) (hn : n < 1000000) (y : Int) (c : Int) (hx : a.eval x = .int q y) (hv : a.eval v = .int .i64 c) (hkey : keyOf P k (.int q y) = some (.int q y)) (hc : (Lit.int .i64 c).wf = true)
    (hK : ∀ w', MapInt w' P k e q b (n + 1) (fun z => if z = y then c else S z) → w.grownBy w' (some b) → wpList P ops Q rest (a.put o.dst undef) w') : wpList P ops Q (o :: rest) a w := by
  obtain ⟨D, h1, h2⟩ := hown
  refine wpList_mapUpdate_own w hg m x v t hop k e K ht _ b n D hm h1 (by unfold maxLen; omega) _ _ _ hx hv hkey (.lit (.int .i64 c)) [] (plainElem_int he hc) fun w' r1 r2 => hK w' ⟨_, r1, fun z => ?_⟩ r2
  by_cases hzk : z = y
  · subst hzk
    show _ = DataW.lit (Lit.int .i64 (if z = z then c else S z))
    rw [if_pos rfl]
    exact atKey_put_same h1.isMap (by simp [WideAt.IsKeyLit]) _ _
  · show _ = DataW.lit (Lit.int .i64 (if z = y then c else S z))
    rw [if_neg hzk, atKey_put_other (by simp; exact hzk)]
    exact h2 z
end Go.Proofs.Ytfhmckmglkjbeaa

/- Contracts on counters: slices.Clone, culref.Counts. -/
namespace Go.Proofs.Ytfhmckmglkjbeaa
open Go.ChangeShapes Go.WideShapes Go.ChangeAt Go.RowKit
set_option maxRecDepth 20000
theorem CntAt.addr {w : World} {a : Option Addr} {n cap : Nat} {L : List (Int × Int)} (h : CntAt w a n cap L) (hn : 0 < n) : ∃ b off, a = some ⟨b, off, none⟩ ∧ b < w.heap.size := by
  obtain ⟨b, off, ha, hb, _⟩ := h.cells hn
  exact ⟨b, off, ha, hb⟩
/-- How often a key came. -/
def occ : List (Int × Int) → Int → Int
  | [], _ => 0
  | p :: l, k => (if k = p.1 then p.2 else 0) + occ l k
theorem occ_append (l : List (Int × Int)) (k : Int) : ∀ m, occ (m ++ l) k = occ m k + occ l k
  | [] => by simp [occ]
  | p :: m => by simp only [List.cons_append, occ]; rw [occ_append l k m]; omega
theorem occ_bd (k : Int) : ∀ l : List (Int × Int), (∀ p ∈ l, 0 ≤ p.2) → 0 ≤ occ l k ∧ occ l k ≤ csum l
  | [], _ => by simp [occ, csum]
  | p :: l, h => by
    have h1 := occ_bd k l (fun q hq => h q (by simp [hq]))
    have h2 := h p (by simp)
    simp only [occ, csum]
    split <;> omega
theorem occ_step (L : List (Int × Int)) (k : Nat) (hk : k < L.length) (z : Int) : (if z = ckey L k then occ (L.take k) (ckey L k) + cnum L k else occ (L.take k) z) = occ (L.take (k + 1)) z := by
  rw [ctake L k hk, occ_append]
  simp only [occ]
  by_cases e : z = ckey L k
  · rw [if_pos e, if_pos e, e]; omega
  · rw [if_neg e, if_neg e]; omega
end Go.Proofs.Ytfhmckmglkjbeaa
