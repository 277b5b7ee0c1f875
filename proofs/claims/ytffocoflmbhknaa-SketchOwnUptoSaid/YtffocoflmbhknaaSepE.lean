/- Rows of the call's own by the operation that made them: what each slot owns, all apart. -/
import Derived.Test.YtffocoflmbhknaaFr
namespace Go.Proofs.Ytffocoflmbhknaa
open Go.ChangeShapes Go.WideShapes Go.ChangeAt Go.RowKit
set_option maxRecDepth 20000
def flat (E : Nat → List Ent) : Nat → List Ent
  | 0 => []
  | n + 1 => flat E n ++ E n
def updE (E : Nat → List Ent) (i : Nat) (L : List Ent) : Nat → List Ent := fun j => if j = i then L else E j
theorem updE_self (E : Nat → List Ent) (i : Nat) (L : List Ent) : updE E i L i = L := by simp [updE]
theorem updE_ne (E : Nat → List Ent) {i j : Nat} (L : List Ent) (h : j ≠ i) : updE E i L j = E j := by simp [updE, h]
theorem flat_congr {E E' : Nat → List Ent} : ∀ n, (∀ i, i < n → E i = E' i) → flat E n = flat E' n
  | 0, _ => rfl
  | n + 1, h => by simp only [flat]; rw [flat_congr n (fun i hi => h i (by omega)), h n (by omega)]
theorem mem_flat {E : Nat → List Ent} {x : Ent} : ∀ {n i : Nat}, i < n → x ∈ E i → x ∈ flat E n
  | 0, _, hi, _ => by omega
  | n + 1, i, hi, hx => by
    simp only [flat, List.mem_append]
    by_cases h : i = n
    · subst h; exact .inr hx
    · exact .inl (mem_flat (by omega) hx)
/-- The slot i stands between what is before it and what is behind it. -/
theorem flat_split (E : Nat → List Ent) (i : Nat) : ∀ n, i < n → ∃ L1 L2, ∀ L, flat (updE E i L) n = L1 ++ (L ++ L2)
  | 0, hi => by omega
  | n + 1, hi => by
    by_cases h : i = n
    · subst h
      exact ⟨flat E i, [], fun L => by simp only [flat, updE_self, List.append_nil]; rw [flat_congr i (fun j hj => updE_ne E L (by omega))]⟩
    · obtain ⟨L1, L2, hL⟩ := flat_split E i n (by omega)
      exact ⟨L1, L2 ++ E n, fun L => by simp only [flat]; rw [hL, updE_ne E L (by omega)]; simp⟩
theorem updE_id (E : Nat → List Ent) (i : Nat) : updE E i (E i) = E := by
  funext j
  unfold updE
  split
  · rename_i h; rw [h]
  · rfl
/-- New rows, made by the operation i. -/
theorem Sep.put {B : Nat} {W W' : World} {E : Nat → List Ent} {n i : Nat} {L : List Ent} (h : Sep B W (flat E n)) (hi : i < n) (he : E i = []) (hB : B ≤ W.heap.size) (hb : Below W.heap.size W W') (hL : Sep W.heap.size W' L) : Sep B W' (flat (updE E i L) n) := by
  obtain ⟨L1, L2, hs⟩ := flat_split E i n hi
  have h0 : flat E n = L1 ++ L2 := by
    have := hs []
    rw [List.nil_append] at this
    rw [← this, ← he, updE_id]
  rw [h0] at h
  rw [hs L]
  have h' := h.below hb
  have hx : ∀ x ∈ L1 ++ L2, ∀ y ∈ L, Apart x.v y.v := fun x hx y hy => apart_new (h.own x hx) (hL.own y hy) (Nat.le_refl _)
  refine ⟨fun x hm => ?_, ?_⟩
  · simp only [List.mem_append] at hm
    rcases hm with hm | hm | hm
    · exact h'.own x (by simp [hm])
    · exact owns_mono (hL.own x hm) hB
    · exact h'.own x (by simp [hm])
  · have hp := List.pairwise_append.1 h.ap
    refine List.pairwise_append.2 ⟨hp.1, List.pairwise_append.2 ⟨hL.ap, hp.2.1, fun x hx1 y hy1 => (hx y (by simp [hy1]) x hx1).symm⟩, fun x hx1 y hy1 => ?_⟩
    rcases List.mem_append.1 hy1 with hy1 | hy1
    · exact hx x (by simp [hx1]) y hy1
    · exact hp.2.2 x hx1 y hy1
/-- One row of the slot i is written; its slice stays the same. -/
theorem Sep.poke {B : Nat} {W W' : World} {E : Nat → List Ent} {n i : Nat} {x x' : Ent} (h : Sep B W (flat E n)) (hi : i < n) (he : E i = [x]) (hv : x'.v = x.v) (hx : W'.ownsRow B x'.e x'.s x'.v x'.n x'.cs) (hg : W.grownBy W' x.v.ownBlock) : Sep B W' (flat (updE E i [x']) n) := by
  obtain ⟨L1, L2, hs⟩ := flat_split E i n hi
  have h0 : flat E n = L1 ++ ([x] ++ L2) := by rw [← hs [x], ← he, updE_id]
  rw [h0] at h
  rw [hs [x']]
  have hp := List.pairwise_append.1 h.ap
  have hp2 := List.pairwise_append.1 hp.2.1
  refine ⟨fun y hm => ?_, ?_⟩
  · simp only [List.mem_append, List.mem_singleton] at hm
    rcases hm with hm | rfl | hm
    · exact (h.own y (by simp [hm])).kept hg (hp.2.2 y hm x (by simp))
    · exact hx
    · exact (h.own y (by simp [hm])).kept hg (hp2.2.2 x (by simp) y hm).symm
  · refine List.pairwise_append.2 ⟨hp.1, List.pairwise_append.2 ⟨by simp, hp2.2.1, fun y hy z hz => ?_⟩, fun y hy z hz => ?_⟩
    · simp only [List.mem_singleton] at hy; subst hy; rw [hv]; exact hp2.2.2 x (by simp) z hz
    · rcases List.mem_append.1 hz with hz | hz
      · simp only [List.mem_singleton] at hz; subst hz; rw [hv]; exact hp.2.2 y hy x (by simp)
      · exact hp.2.2 y hy z (by simp [hz])
/-- A struct in a block of its own. -/
def sE (t : TypeId) (P : Nat) (cs : List Value) : Ent := ⟨t, cs.length, .slice (some ⟨P, 0, none⟩) 1 1, 1, cs⟩
theorem sE_new (W : World) (B : Nat) (hB : B ≤ W.heap.size) (t : TypeId) (cs : List Value) : (W.alloc (.cells cs.toArray t)).ownsRow B (sE t W.heap.size cs).e (sE t W.heap.size cs).s (sE t W.heap.size cs).v (sE t W.heap.size cs).n (sE t W.heap.size cs).cs := by
  have := World.ownsRow_lit (base := B) (e := t) (size := cs.length) W cs.toArray 1 hB (by unfold maxLen; omega) (by simp)
  simpa [sE] using this
theorem owns_store {B : Nat} {W : World} {t : TypeId} {P : Nat} {cs : List Value} (h : W.ownsRow B t cs.length (.slice (some ⟨P, 0, none⟩) 1 1) 1 cs) (k : Nat) (u : Value) : (W.setCell ⟨P, k, none⟩ u).ownsRow B t (cs.set k u).length (.slice (some ⟨P, 0, none⟩) 1 1) 1 (cs.set k u) := by
  rw [List.length_set]; exact (h.stored k u).1
theorem Sep.pokeS {B : Nat} {W : World} {E : Nat → List Ent} {n i : Nat} {t : TypeId} {P : Nat} {cs : List Value} (h : Sep B W (flat E n)) (hi : i < n) (he : E i = [sE t P cs]) (k : Nat) (u : Value) : Sep B (W.setCell ⟨P, k, none⟩ u) (flat (updE E i [sE t P (cs.set k u)]) n) := by
  have ho := h.own (sE t P cs) (mem_flat hi (by rw [he]; simp))
  exact h.poke (x' := sE t P (cs.set k u)) hi he rfl (owns_store ho k u) (World.ownsRow.stored ho k u).2
end Go.Proofs.Ytffocoflmbhknaa
