/- Merged: MapI, CntMore. -/
import Derived.Test.YtffocoflmbhknaaMem
import Derived.Maps.OwnOps
import Derived.Maps.OwnSet
import Derived.Maps.Keyed
import Derived.WalkSmall
import Derived.Deep.QuietTactic
import Derived.Test.YtffocoflmbhknaaCnt
import Derived.ArgAppend
import Derived.WalkSpells
import Derived.Deep.LoopGhost
import Derived.Deep.DeepCutAuto
/- A map to numbers that a call makes: what it holds, by a function on keys; the laws of a look-up and of a store, over any program. -/
namespace Go.Proofs.Ytffocoflmbhknaa
open Go.ChangeShapes Go.WideShapes Go.ChangeAt Go.RowKit Go.Maps
set_option maxRecDepth 20000
/-- Block b is a map of at most n keys that tells S of each key. -/
def MapInt (w : World) (P : Program) (k e : TypeId) (q : IntKind) (b n : Nat) (S : Int → Int) : Prop :=
  ∃ D : DataW Unit, w.ownsMap P k (plainElem P e) b n D ∧ ∀ x, D.atKey (.int q x) (.lit (.int .i64 0)) = .lit (.int .i64 (S x))
theorem MapInt.made (w : World) (P : Program) (k e : TypeId) (q : IntKind) : MapInt (w.alloc (.map #[] 0)) P k e q w.heap.size 0 (fun _ => 0) :=
  ⟨_, World.ownsMap_made w P k _, fun _ => rfl⟩
theorem MapInt.alloc {w : World} {P : Program} {k e : TypeId} {b n : Nat} {S : Int → Int} {q : IntKind} (h : MapInt w P k e q b n S) (o : Obj) : MapInt (w.alloc o) P k e q b n S := by
  obtain ⟨D, h1, h2⟩ := h
  exact ⟨D, h1.alloc o, h2⟩
theorem MapInt.below {w w' : World} {P : Program} {k e : TypeId} {b n : Nat} {S : Int → Int} {q : IntKind} (h : MapInt w P k e q b n S) (hb : Below w.heap.size w w') : MapInt w' P k e q b n S := by
  obtain ⟨D, ⟨es, clock, hh, F, hs, hD⟩, h2⟩ := h
  exact ⟨D, ⟨es, clock, (hb.block b (Array.getElem?_eq_some_iff.1 hh).1).trans hh, F, hs, hD⟩, h2⟩
theorem MapInt.lt {w : World} {P : Program} {k e : TypeId} {b n : Nat} {S : Int → Int} {q : IntKind} (h : MapInt w P k e q b n S) : b < w.heap.size := by
  obtain ⟨D, ⟨es, clock, hh, _⟩, _⟩ := h
  exact (Array.getElem?_eq_some_iff.1 hh).1
theorem MapInt.congr {w : World} {P : Program} {k e : TypeId} {b n : Nat} {S T : Int → Int} {q : IntKind} (h : MapInt w P k e q b n S) (hST : ∀ x, S x = T x) : MapInt w P k e q b n T := by
  obtain ⟨D, h1, h2⟩ := h
  exact ⟨D, h1, fun x => by rw [h2, hST]⟩
/-- 'm[k]', as an equation laid ahead of the walk. -/
theorem MapInt.run {P : Program} {w : World} {k e : TypeId} {q : IntKind} {b n : Nat} {S : Int → Int} (h : MapInt w P k e q b n S) {t : TypeId} (K : Keyed P k) (ht : P.underlying t = some (.map k e)) (he : P.underlying e = some (.int .i64)) (hz : (zeroValue e).run P w = .ok (.int .i64 0) w) (y : Int) (hkey : keyOf P k (.int q y) = some (.int q y)) :
    (Instr.lookup t (.map (some b)) (.int q y) false).run P w = .ok (.int .i64 (S y)) w := by
  obtain ⟨D, h1, h2⟩ := h
  obtain ⟨v, ps, hrun, hv⟩ := h1.lookup K ht hz (plainElem_int (H := Unit) he (by rfl)) hkey
  obtain ⟨c, rfl, hc⟩ := plainElem_int_inv he hv
  have hc1 := (Prod.mk.inj hc.1).1
  have hcS : c = S y := by
    have := (h2 y).symm.trans hc1
    simpa using this.symm
  rw [hrun, hcS]
/-- 'm[k] = c'. -/
theorem wpList_mapUpdate_int {P : Program} {w : World} {ops : Array Oper} {rest : List Oper} {o : Oper} {a : Act} {Q : Exit → Act → World → Prop}
    (hg : o.guard = none) (m x v : Operand) (t : TypeId) (hop : o.op = Op.mapUpdate t m x v)
    (k e : TypeId) (K : Keyed P k) (ht : P.underlying t = some (.map k e)) (he : P.underlying e = some (.int .i64)) (b n : Nat) (S : Int → Int) (q : IntKind)
    (hm : a.eval m = .map (some b)) (hown : MapInt w P k e q b n S) (hn : n < 1000000) (y : Int) (c : Int) (hx : a.eval x = .int q y) (hv : a.eval v = .int .i64 c) (hkey : keyOf P k (.int q y) = some (.int q y)) (hc : (Lit.int .i64 c).wf = true)
    (hK : ∀ w', MapInt w' P k e q b (n + 1) (fun z => if z = y then c else S z) → w.grownBy w' (some b) → wpList P ops Q rest (a.put o.dst undef) w') : wpList P ops Q (o :: rest) a w := by
  obtain ⟨D, h1, h2⟩ := hown
  refine wpList_mapUpdate_own w hg m x v t hop k e K ht _ b n D hm h1 (by unfold maxLen; omega) _ _ _ hx hv hkey (.lit (.int .i64 c)) [] (plainElem_int he hc) fun w' r1 r2 => hK w' ⟨_, r1, fun z => ?_⟩ r2
  by_cases hzk : z = y
  · subst hzk
    show _ = DataW.lit (Lit.int .i64 (if z = z then c else S z))
    rw [if_pos rfl]
    exact atKey_put_same h1.isMap (by simp [WideAt.IsKeyLit]) _ _
  · show _ = DataW.lit (Lit.int .i64 (if z = y then c else S z))
    rw [if_neg hzk, atKey_put_other (by simp; exact hzk)]
    exact h2 z
end Go.Proofs.Ytffocoflmbhknaa

/- Contracts on counters: slices.Clone, culref.Counts. -/
namespace Go.Proofs.Ytffocoflmbhknaa
open Go.ChangeShapes Go.WideShapes Go.ChangeAt Go.RowKit
set_option maxRecDepth 20000
theorem CntAt.addr {w : World} {a : Option Addr} {n cap : Nat} {L : List (Int × Int)} (h : CntAt w a n cap L) (hn : 0 < n) : ∃ b off, a = some ⟨b, off, none⟩ ∧ b < w.heap.size := by
  obtain ⟨b, off, ha, hb, _⟩ := h.cells hn
  exact ⟨b, off, ha, hb⟩
set_option maxHeartbeats 400000 in
theorem clonec_c (a : Option Addr) (n c : Nat) (L : List (Int × Int)) (w : World) (h : CntAt w a n c L) (hn : n < 1000000) :
    Calls Try.prog 22 #[.slice a n c] w fun e w' => ∃ v, e = .returned v ∧ w'.ownsRow w.heap.size 36 2 v n (cntV L) ∧ Below w.heap.size w w' := by
  obtain ⟨i0, hi, hz0, hz1, hz2⟩ := info_parts info_cnt
  have m := h.max
  have l := h.le
  have hl := h.len
  have qT : ∀ (w : World) (a : Option Addr) (n c n' c' : Nat), (binOp .eql 28 (.slice a n c) (.slice none n' c')).run Try.prog w = .ok (.bool a.isNone) w := fun w a n c n' c' => Lib.run_eql_slice_nil w _ _ a n c n' c' Try.underlying28
  cases a with
  | none =>
    have hn0 : n = 0 := by
      rcases Nat.eq_zero_or_pos n with hz | hz
      · exact hz
      · obtain ⟨b, o, hb, _⟩ := h.addr hz
        cases hb
    subst hn0
    have hx : L = [] := List.eq_nil_of_length_eq_zero hl
    subst hx
    clear h hl
    go_enter Try.func22, Try.ntmps22
    go_wp2
    go_ret
    exact ⟨_, rfl, World.ownsRow_nil _ _ _ _, Below.refl _ _⟩
  | some x =>
    have hcells : ∀ o j u, (cntV L)[j]? = some u → (w.alloc o).cell? (x.add j) = some u := by
      intro o j u hu
      exact (h.below ((Below.refl _ _).alloc (Nat.le_refl _) o)).cellsAt x rfl j u hu
    have HC := hidp hcells
    have CV := hidp (cntV_len L)
    have CO := hidp (cntV_one L)
    generalize cntV L = vs at *
    clear hcells h
    go_enter Try.func22, Try.ntmps22
    go_wp2_with (at_builtin; refine wpList_append_own_at _ rfl (.tmp 5) (.tmp 6) 28 rfl w.heap.size 36 i0 (.agg #[.int .i64 0, .int .i64 0]) 2 16 Try.underlying28 hi hz0 hz1 hz2 rfl (by decide) _ 0 [] rfl (World.ownsRow_lit w #[] 0 (Nat.le_refl _) (by unfold maxLen; omega) rfl) x n c vs rfl (by rw [CV.out, hl]) (HC.out _) CO.out (by unfold maxLen; omega) (by omega) (by simp) ?_; intro v1 w1 h1 h2 h3 h4)
    go_ret
    refine ⟨_, rfl, by simpa using h1, ((Below.refl _ _).alloc (Nat.le_refl _) _).grown h2 (by simp) (fun k hk => by cases hk; exact Nat.le_refl _)⟩
/-- How often a key came. -/
def occ : List (Int × Int) → Int → Int
  | [], _ => 0
  | p :: l, k => (if k = p.1 then p.2 else 0) + occ l k
theorem occ_append (l : List (Int × Int)) (k : Int) : ∀ m, occ (m ++ l) k = occ m k + occ l k
  | [] => by simp [occ]
  | p :: m => by simp only [List.cons_append, occ]; rw [occ_append l k m]; omega
theorem occ_bd (k : Int) : ∀ l : List (Int × Int), (∀ p ∈ l, 0 ≤ p.2) → 0 ≤ occ l k ∧ occ l k ≤ csum l
  | [], _ => by simp [occ, csum]
  | p :: l, h => by
    have h1 := occ_bd k l (fun q hq => h q (by simp [hq]))
    have h2 := h p (by simp)
    simp only [occ, csum]
    split <;> omega
theorem occ_step (L : List (Int × Int)) (k : Nat) (hk : k < L.length) (z : Int) : (if z = ckey L k then occ (L.take k) (ckey L k) + cnum L k else occ (L.take k) z) = occ (L.take (k + 1)) z := by
  rw [ctake L k hk, occ_append]
  simp only [occ]
  by_cases e : z = ckey L k
  · rw [if_pos e, if_pos e, e]; omega
  · rw [if_neg e, if_neg e]; omega
end Go.Proofs.Ytffocoflmbhknaa
