/- Contracts of the laws' own helpers on filters: empty and put; and of bloom.Put and Join where they give an error. -/
import Derived.Test.YtffocoflmbhknaaBloom
import Derived.Lib.MinMax
import Derived.Deep.RegionWith
import Derived.Deep.OwnRows
namespace Go.Proofs.Ytffocoflmbhknaa
open Go.ChangeShapes Go.WideShapes Go.ChangeAt Go.RowKit
set_option maxRecDepth 20000

def esz (size : Int) : Nat := 1 + wn size 256
def ewy (ways : Int) : Nat := 1 + wn ways 8
theorem esz_bd (s : Int) : 1 ≤ esz s ∧ esz s ≤ 256 := by have := wn_lt s 256 (by omega); unfold esz; omega
theorem ewy_bd (s : Int) : 1 ≤ ewy s ∧ ewy s ≤ 8 := by have := wn_lt s 8 (by omega); unfold ewy; omega
theorem own_madeB (w : World) (B H : Nat) (n : Nat) (hH : w.heap.size = H) (hB : B ≤ H) (hn : n ≤ 1000) : (w.alloc (.cells (madeCells #[.bool false] n) 4)).ownsRow B 4 1 (.slice (some ⟨H, 0, none⟩) n n) n (tab (fun _ => Value.bool false) n) := by
  subst hH
  refine ⟨by rw [tab_len, Nat.mul_one], .inr ⟨w.heap.size, n, madeCells #[.bool false] n, rfl, hB, heap_alloc_new w _, Nat.le_refl _, by unfold maxLen; omega, by rw [size_madeCells]; simp, ?_⟩⟩
  have h := made_tab (.bool false) n
  rw [Nat.mul_one] at h
  rw [h, List.take_of_length_le (by rw [tab_len]; omega)]

/-- The bits when the first k keys were put. -/
def pf (sz wy : Nat) (f : Nat → Bool) (xs : List Int) : Nat → Nat → Bool
  | 0, j => f j
  | k + 1, j => pf sz wy f xs k j || hitP (plc sz (gi xs k)) wy j
theorem pf_iff (sz wy : Nat) (f : Nat → Bool) (xs : List Int) (k j : Nat) : pf sz wy f xs k j = true ↔ f j = true ∨ ∃ i, i < k ∧ hitP (plc sz (gi xs i)) wy j = true := by
  induction k with
  | zero => simp [pf]
  | succ k ih =>
    simp only [pf, Bool.or_eq_true, ih]
    constructor
    · rintro ((h | ⟨i, h1, h2⟩) | h)
      · exact .inl h
      · exact .inr ⟨i, by omega, h2⟩
      · exact .inr ⟨k, by omega, h⟩
    · rintro (h | ⟨i, h1, h2⟩)
      · exact .inl (.inl h)
      · by_cases e : i = k
        · exact .inr (by rw [← e]; exact h2)
        · exact .inl (.inr ⟨i, by omega, h2⟩)
theorem tab_gbs (bs : List Bool) (n : Nat) (h : bs.length = n) : tab (gb bs) n = bs := by
  apply List.ext_getElem?
  intro i
  by_cases hi : i < n
  · rw [tab_get _ _ _ hi, List.getElem?_eq_getElem (by omega)]
    simp [gb, List.getD_eq_getElem?_getD, List.getElem?_eq_getElem (show i < bs.length by omega)]
  · rw [List.getElem?_eq_none (by rw [tab_len]; omega), List.getElem?_eq_none (by omega)]
/-- What stands in memory while keys are put. -/
structure PutS (P sz wy : Nat) (g : Option Addr) (cv : Nat) (W : World) : Prop where
  lt : P + 1 < W.heap.size
  c0 : W.cell? ⟨P, 0, none⟩ = some (.int .i64 (sz : Nat))
  c1 : W.cell? ⟨P, 1, none⟩ = some (.int .i64 (wy : Nat))
  c2 : W.cell? ⟨P, 2, none⟩ = some (.slice g sz cv)
  r0 : ∃ v, W.cell? ⟨P + 1, 0, none⟩ = some v
  r1 : ∃ v, W.cell? ⟨P + 1, 1, none⟩ = some v
  r2 : ∃ v, W.cell? ⟨P + 1, 2, none⟩ = some v
  fp : ∀ o, W.frozen? ⟨P, o, none⟩ = false
  fr : ∀ o, W.frozen? ⟨P + 1, o, none⟩ = false
theorem PutS.below {P sz wy : Nat} {g : Option Addr} {cv : Nat} {W W' : World} (h : PutS P sz wy g cv W) (hb : Below W.heap.size W W') : PutS P sz wy g cv W' := by
  obtain ⟨lt, c0, c1, c2, ⟨v0, r0⟩, ⟨v1, r1⟩, ⟨v2, r2⟩, fp, fr⟩ := h
  exact ⟨Nat.lt_of_lt_of_le lt hb.size, ck hb c0, ck hb c1, ck hb c2, ⟨v0, ck hb r0⟩, ⟨v1, ck hb r1⟩, ⟨v2, ck hb r2⟩, fun o => (hb.frozen (p := ⟨P, o, none⟩) (by show P < _; omega)).trans (fp o), fun o => (hb.frozen (p := ⟨P + 1, o, none⟩) lt).trans (fr o)⟩
theorem PutS.set {P sz wy : Nat} {g : Option Addr} {cv : Nat} {W : World} (h : PutS P sz wy g cv W) (g' : Option Addr) (cv' : Nat) : PutS P sz wy g' cv' (((W.setCell ⟨P, 0, none⟩ (.int .i64 (sz : Nat))).setCell ⟨P, 1, none⟩ (.int .i64 (wy : Nat))).setCell ⟨P, 2, none⟩ (.slice g' sz cv')) := by
  obtain ⟨lt, c0, c1, c2, ⟨v0, r0⟩, ⟨v1, r1⟩, ⟨v2, r2⟩, fp, fr⟩ := h
  exact ⟨by simpa using lt, by go_simp, by go_simp, by go_simp, ⟨v0, cell_off (cell_off (cell_off r0 (by omega)) (by omega)) (by omega)⟩, ⟨v1, cell_off (cell_off (cell_off r1 (by omega)) (by omega)) (by omega)⟩, ⟨v2, cell_off (cell_off (cell_off r2 (by omega)) (by omega)) (by omega)⟩, fun o => by rw [← fp o]; simp, fun o => by rw [← fr o]; simp⟩
theorem BoolsAt.setCell {W : World} {a : Option Addr} {n c : Nat} {bs : List Bool} (h : BoolsAt W a n c bs) (P k : Nat) (u : Value) (hne : ∀ b o, a = some ⟨b, o, none⟩ → b ≠ P) : BoolsAt (W.setCell ⟨P, k, none⟩ u) a n c bs := by
  refine ⟨h.len, h.le, h.max, fun hn => ?_⟩
  obtain ⟨b, o, rfl, hb, hc⟩ := h.cells hn
  exact ⟨b, o, rfl, by simpa using hb, fun i hi => cell_off (hc i hi) (hne b o rfl)⟩

end Go.Proofs.Ytffocoflmbhknaa
