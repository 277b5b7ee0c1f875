/- A map from texts to functions that a call makes; desk.lists. -/
import Derived.Test.YtgodgfnfaiiohaaGreatDoorDeskList
import Derived.Maps.OwnOps
import Derived.Maps.OwnSet
import Derived.Maps.Keyed
import Derived.StringKeys
namespace Go.Proofs.YtgodgfnfaiiohaaGreatDoor
open Go.ChangeShapes Go.WideShapes Go.ChangeAt Go.RowKit Go.Maps
set_option maxRecDepth 20000
set_option linter.unusedVariables false
/-- How a function value reads: its number and 1, or 0. -/
def fnE (v : Value) : Option (DataW Unit × List MemPlace) :=
  match v with
  | .func (.func g) a c => if a.size = 0 ∧ c.size = 0 then some (.lit (.int .i64 ((g : Int) + 1)), []) else none
  | .nilFunc => some (.lit (.int .i64 0), [])
  | _ => none
def fnC : Option Nat → Int
  | some g => (g : Int) + 1
  | none => 0
def fnV : Option Nat → Value
  | some g => .func (.func g) #[] #[]
  | none => .nilFunc
theorem fnE_inv {v : Value} {o : Option Nat} {ps : List MemPlace} (h : fnE v = some (.lit (.int .i64 (fnC o)), ps)) : v = fnV o := by
  unfold fnE at h
  split at h
  · rename_i g a c
    split at h
    case isFalse => cases h
    rename_i hac
    obtain rfl := Array.eq_empty_of_size_eq_zero hac.1
    obtain rfl := Array.eq_empty_of_size_eq_zero hac.2
    simp only [Option.some.injEq, Prod.mk.injEq, DataW.lit.injEq, Lit.int.injEq] at h
    cases o with
    | none => exfalso; have := h.1.2; simp only [fnC] at this; omega
    | some g' =>
      have := h.1.2
      simp only [fnC] at this
      obtain rfl : g = g' := Int.ofNat.inj (by simpa using this)
      rfl
  · simp only [Option.some.injEq, Prod.mk.injEq, DataW.lit.injEq, Lit.int.injEq] at h
    cases o with
    | none => rfl
    | some g' => exact absurd (show (0 : Int) = (g' : Int) + 1 from by have := h.1; simpa [fnC] using this) (by omega)
  · cases h
/-- Block b is a map of at most n texts that gives the function S of each. -/
def MapFn (w : World) (P : Program) (k : TypeId) (b n : Nat) (S : List UInt8 → Option Nat) : Prop :=
  ∃ D : DataW Unit, w.ownsMap P k fnE b n D ∧ (∀ x, D.atKey (.string x) (.lit (.int .i64 0)) = .lit (.int .i64 (fnC (S x)))) ∧ ∀ x, Maps.has D (.string x) = (S x).isSome
theorem MapFn.made (w : World) (P : Program) (k : TypeId) : MapFn (w.alloc (.map #[] 0)) P k w.heap.size 0 (fun _ => none) :=
  ⟨_, World.ownsMap_made w P k _, fun _ => rfl, fun _ => rfl⟩
theorem wpList_insert_fn {P : Program} {w : World} {ops : Array Oper} {rest : List Oper} {o : Oper} {a : Act} {Q : Exit → Act → World → Prop}
    (hg : o.guard = none) (m x v : Operand) (t : TypeId) (hop : o.op = Op.insert t m x v)
    (k e : TypeId) (K : Keyed P k) (ht : P.underlying t = some (.map k e)) (b n : Nat) (S : List UInt8 → Option Nat)
    (hm : a.eval m = .map (some b)) (hown : MapFn w P k b n S) (hn : n < 1000000) (y : ByteArray) (g : Nat) (hx : a.eval x = .string y) (hv : a.eval v = .func (.func g) #[] #[]) (hkey : keyOf P k (.string y) = some (.string y.data.toList))
    (hK : ∀ w', MapFn w' P k b (n + 1) (fun z => if z = y.data.toList then some g else S z) → w.grownBy w' (some b) → wpList P ops Q rest (a.put o.dst undef) w') : wpList P ops Q (o :: rest) a w := by
  obtain ⟨D, h1, h2, h3⟩ := hown
  refine wpList_plain hg fun K' hK' => ?_
  obtain ⟨w', hrun, r1, r2⟩ := h1.store K ht (by unfold maxLen; omega) hkey (show fnE (.func (.func g) #[] #[]) = some (.lit (.int .i64 ((g : Int) + 1)), []) from rfl)
  unfold Oper.wp
  simp [execOp, hop, hm, hx, hv, hrun, Result.andThen]
  refine hK' _ _ (hK w' ⟨_, r1, fun z => ?_, fun z => ?_⟩ r2.grown)
  · by_cases hzk : z = y.data.toList
    · show _ = _
      simp only [if_pos hzk]
      rw [hzk]
      exact atKey_put_same h1.isMap (by simp [WideAt.IsKeyLit]) _ _
    · simp only [if_neg hzk]
      rw [atKey_put_other (by simp; exact hzk)]
      exact h2 z
  · by_cases hzk : z = y.data.toList
    · show _ = _
      simp only [if_pos hzk]
      rw [hzk]
      exact has_put_same h1.isMap (by simp [WideAt.IsKeyLit]) _
    · simp only [if_neg hzk]
      rw [has_put_other (by simp; exact hzk)]
      exact h3 z
theorem wpList_lookup_fn {P : Program} {w : World} {ops : Array Oper} {rest : List Oper} {o : Oper} {a : Act} {Q : Exit → Act → World → Prop}
    (hg : o.guard = none) (m x : Operand) (t : TypeId) (hop : o.op = Op.lookup t m x true)
    (k e : TypeId) (K : Keyed P k) (ht : P.underlying t = some (.map k e)) (hz : (zeroValue e).run P w = .ok .nilFunc w) (b n : Nat) (S : List UInt8 → Option Nat)
    (hm : a.eval m = .map (some b)) (hown : MapFn w P k b n S) (y : ByteArray) (hx : a.eval x = .string y) (hkey : keyOf P k (.string y) = some (.string y.data.toList)) (F : Value) (B : Bool) (hR : F = fnV (S y.data.toList) ∧ B = (S y.data.toList).isSome)
    (hK : wpList P ops Q rest (a.put o.dst (.tuple #[F, .bool B])) w) : wpList P ops Q (o :: rest) a w := by
  obtain ⟨D, h1, h2, h3⟩ := hown
  refine wpList_lookup_own_ok w hg m x t hop k e K ht fnE hz (.lit (.int .i64 0)) [] rfl b n D hm h1 (.string y) _ hx hkey fun v ps hv => ?_
  rw [h2] at hv
  rw [fnE_inv hv, h3]
  obtain ⟨rfl, rfl⟩ := hR
  exact hK
/-- Which function a word names. -/
def lsF (s : ByteArray) : Option Nat :=
  (fun z => if z = [109, 111, 115, 116] then some 43 else if z = [97, 108, 105, 97, 115] then some 39 else if z = [99, 111, 109, 98] then some 37 else if z = [114, 97, 110, 107] then some 34 else none) s.data.toList
theorem zeroFn (w : World) : (zeroValue 69).run Tryz.prog w = .ok .nilFunc w := by kernel_rfl
set_option maxHeartbeats 4000000 in
theorem lists_c (s : ByteArray) (hs : s.size ≤ 65536) (w : World) :
    Calls Tryz.prog 23 #[.string s] w fun e w' => e = .returned (.tuple #[fnV (lsF s), .bool (lsF s).isSome]) ∧ Below w.heap.size w w' := by
  have hmm := @run_makeMap Tryz.prog
  have KY := hidp (string_keyed (P := Tryz.prog) Tryz.underlying9)
  have HK := hidp (fun (y : ByteArray) (hy : y.size ≤ 65536) => Go.WideMaps.keyOf_string_mk (P := Tryz.prog) Tryz.underlying9 (Nat.le_trans hy (show 65536 ≤ maxLen by unfold maxLen; omega)))
  obtain ⟨F, hF⟩ : ∃ F, F = fnV (lsF s) := ⟨_, rfl⟩
  obtain ⟨B, hB⟩ : ∃ B, B = (lsF s).isSome := ⟨_, rfl⟩
  have HR := hidp (show F = fnV (lsF s) ∧ B = (lsF s).isSome from ⟨hF, hB⟩)
  clear hF hB
  go_enter Tryz.func23, Tryz.ntmps23
  go_wp2_with (first
    | (refine wpList_insert_fn rfl (.tmp 7) (.const (.string ⟨#[114, 97, 110, 107]⟩)) (.func 34) 90 rfl 9 69 KY.out Tryz.underlying90 w.heap.size 0 (fun _ => none) rfl (MapFn.made _ _ _) (by omega) _ _ rfl rfl (HK.out _ (by decide)) ?_; intro w1 hm1 hg1)
    | (refine wpList_insert_fn rfl (.tmp 7) (.const (.string ⟨#[99, 111, 109, 98]⟩)) (.func 37) 90 rfl 9 69 KY.out Tryz.underlying90 w.heap.size 1 _ rfl hm1 (by omega) _ _ rfl rfl (HK.out _ (by decide)) ?_; intro w2 hm2 hg2)
    | (refine wpList_insert_fn rfl (.tmp 7) (.const (.string ⟨#[97, 108, 105, 97, 115]⟩)) (.func 39) 90 rfl 9 69 KY.out Tryz.underlying90 w.heap.size 2 _ rfl hm2 (by omega) _ _ rfl rfl (HK.out _ (by decide)) ?_; intro w3 hm3 hg3)
    | (refine wpList_insert_fn rfl (.tmp 7) (.const (.string ⟨#[109, 111, 115, 116]⟩)) (.func 43) 90 rfl 9 69 KY.out Tryz.underlying90 w.heap.size 3 _ rfl hm3 (by omega) _ _ rfl rfl (HK.out _ (by decide)) ?_; intro w4 hm4 hg4)
    | (refine wpList_lookup_fn rfl (.tmp 8) (.tmp 9) 90 rfl 9 69 KY.out Tryz.underlying90 (zeroFn _) w.heap.size 4 _ rfl hm4 s rfl (HK.out _ hs) F B HR.out ?_))
  go_ret2
  refine ⟨by rw [← HR.out.1, ← HR.out.2]; rfl, ?_⟩
  have nw : ∀ k, some w.heap.size = some k → w.heap.size ≤ k := fun k e => by cases e; exact Nat.le_refl _
  have b1 : Below w.heap.size w w1 := (bal (Below.refl _ _) _).grown hg1 (by simp) nw
  have b2 := b1.grown hg2 b1.size nw
  have b3 := b2.grown hg3 b2.size nw
  exact b3.grown hg4 b3.size nw
end Go.Proofs.YtgodgfnfaiiohaaGreatDoor
