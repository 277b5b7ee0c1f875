/- Merged: SepE, OwnKit. -/
import Derived.Test.YtdfghgeccannnaaDoorFr
import Derived.Test.YtdfghgeccannnaaDoorRegInv
/- Rows of the call's own by the operation that made them: what each slot owns, all apart. -/
namespace Go.Proofs.YtdfghgeccannnaaDoor
open Go.ChangeShapes Go.WideShapes Go.ChangeAt Go.RowKit
set_option maxRecDepth 20000
def flat (E : Nat → List Ent) : Nat → List Ent
  | 0 => []
  | n + 1 => flat E n ++ E n
def updE (E : Nat → List Ent) (i : Nat) (L : List Ent) : Nat → List Ent := fun j => if j = i then L else E j
theorem updE_self (E : Nat → List Ent) (i : Nat) (L : List Ent) : updE E i L i = L := by simp [updE]
theorem updE_ne (E : Nat → List Ent) {i j : Nat} (L : List Ent) (h : j ≠ i) : updE E i L j = E j := by simp [updE, h]
theorem flat_congr {E E' : Nat → List Ent} : ∀ n, (∀ i, i < n → E i = E' i) → flat E n = flat E' n
  | 0, _ => rfl
  | n + 1, h => by simp only [flat]; rw [flat_congr n (fun i hi => h i (by omega)), h n (by omega)]
theorem mem_flat {E : Nat → List Ent} {x : Ent} : ∀ {n i : Nat}, i < n → x ∈ E i → x ∈ flat E n
  | 0, _, hi, _ => by omega
  | n + 1, i, hi, hx => by
    simp only [flat, List.mem_append]
    by_cases h : i = n
    · subst h; exact .inr hx
    · exact .inl (mem_flat (by omega) hx)
/-- The slot i stands between what is before it and what is behind it. -/
theorem flat_split (E : Nat → List Ent) (i : Nat) : ∀ n, i < n → ∃ L1 L2, ∀ L, flat (updE E i L) n = L1 ++ (L ++ L2)
  | 0, hi => by omega
  | n + 1, hi => by
    by_cases h : i = n
    · subst h
      exact ⟨flat E i, [], fun L => by simp only [flat, updE_self, List.append_nil]; rw [flat_congr i (fun j hj => updE_ne E L (by omega))]⟩
    · obtain ⟨L1, L2, hL⟩ := flat_split E i n (by omega)
      exact ⟨L1, L2 ++ E n, fun L => by simp only [flat]; rw [hL, updE_ne E L (by omega)]; simp⟩
theorem updE_id (E : Nat → List Ent) (i : Nat) : updE E i (E i) = E := by
  funext j
  unfold updE
  split
  · rename_i h; rw [h]
  · rfl
/-- New rows, made by the operation i. -/
theorem Sep.put {B : Nat} {W W' : World} {E : Nat → List Ent} {n i : Nat} {L : List Ent} (h : Sep B W (flat E n)) (hi : i < n) (he : E i = []) (hB : B ≤ W.heap.size) (hb : Below W.heap.size W W') (hL : Sep W.heap.size W' L) : Sep B W' (flat (updE E i L) n) := by
  obtain ⟨L1, L2, hs⟩ := flat_split E i n hi
  have h0 : flat E n = L1 ++ L2 := by
    have := hs []
    rw [List.nil_append] at this
    rw [← this, ← he, updE_id]
  rw [h0] at h
  rw [hs L]
  have h' := h.below hb
  have hx : ∀ x ∈ L1 ++ L2, ∀ y ∈ L, Apart x.v y.v := fun x hx y hy => apart_new (h.own x hx) (hL.own y hy) (Nat.le_refl _)
  refine ⟨fun x hm => ?_, ?_⟩
  · simp only [List.mem_append] at hm
    rcases hm with hm | hm | hm
    · exact h'.own x (by simp [hm])
    · exact owns_mono (hL.own x hm) hB
    · exact h'.own x (by simp [hm])
  · have hp := List.pairwise_append.1 h.ap
    refine List.pairwise_append.2 ⟨hp.1, List.pairwise_append.2 ⟨hL.ap, hp.2.1, fun x hx1 y hy1 => (hx y (by simp [hy1]) x hx1).symm⟩, fun x hx1 y hy1 => ?_⟩
    rcases List.mem_append.1 hy1 with hy1 | hy1
    · exact hx x (by simp [hx1]) y hy1
    · exact hp.2.2 x hx1 y hy1
/-- One row of the slot i is written; its slice stays the same. -/
theorem Sep.poke {B : Nat} {W W' : World} {E : Nat → List Ent} {n i : Nat} {x x' : Ent} (h : Sep B W (flat E n)) (hi : i < n) (he : E i = [x]) (hv : x'.v = x.v) (hx : W'.ownsRow B x'.e x'.s x'.v x'.n x'.cs) (hg : W.grownBy W' x.v.ownBlock) : Sep B W' (flat (updE E i [x']) n) := by
  obtain ⟨L1, L2, hs⟩ := flat_split E i n hi
  have h0 : flat E n = L1 ++ ([x] ++ L2) := by rw [← hs [x], ← he, updE_id]
  rw [h0] at h
  rw [hs [x']]
  have hp := List.pairwise_append.1 h.ap
  have hp2 := List.pairwise_append.1 hp.2.1
  refine ⟨fun y hm => ?_, ?_⟩
  · simp only [List.mem_append, List.mem_singleton] at hm
    rcases hm with hm | rfl | hm
    · exact (h.own y (by simp [hm])).kept hg (hp.2.2 y hm x (by simp))
    · exact hx
    · exact (h.own y (by simp [hm])).kept hg (hp2.2.2 x (by simp) y hm).symm
  · refine List.pairwise_append.2 ⟨hp.1, List.pairwise_append.2 ⟨by simp, hp2.2.1, fun y hy z hz => ?_⟩, fun y hy z hz => ?_⟩
    · simp only [List.mem_singleton] at hy; subst hy; rw [hv]; exact hp2.2.2 x (by simp) z hz
    · rcases List.mem_append.1 hz with hz | hz
      · simp only [List.mem_singleton] at hz; subst hz; rw [hv]; exact hp.2.2 y hy x (by simp)
      · exact hp.2.2 y hy z (by simp [hz])
/-- A struct in a block of its own. -/
def sE (t : TypeId) (P : Nat) (cs : List Value) : Ent := ⟨t, cs.length, .slice (some ⟨P, 0, none⟩) 1 1, 1, cs⟩
theorem sE_new (W : World) (B : Nat) (hB : B ≤ W.heap.size) (t : TypeId) (cs : List Value) : (W.alloc (.cells cs.toArray t)).ownsRow B (sE t W.heap.size cs).e (sE t W.heap.size cs).s (sE t W.heap.size cs).v (sE t W.heap.size cs).n (sE t W.heap.size cs).cs := by
  have := World.ownsRow_lit (base := B) (e := t) (size := cs.length) W cs.toArray 1 hB (by unfold maxLen; omega) (by simp)
  simpa [sE] using this
theorem owns_store {B : Nat} {W : World} {t : TypeId} {P : Nat} {cs : List Value} (h : W.ownsRow B t cs.length (.slice (some ⟨P, 0, none⟩) 1 1) 1 cs) (k : Nat) (u : Value) : (W.setCell ⟨P, k, none⟩ u).ownsRow B t (cs.set k u).length (.slice (some ⟨P, 0, none⟩) 1 1) 1 (cs.set k u) := by
  rw [List.length_set]; exact (h.stored k u).1
theorem Sep.pokeS {B : Nat} {W : World} {E : Nat → List Ent} {n i : Nat} {t : TypeId} {P : Nat} {cs : List Value} (h : Sep B W (flat E n)) (hi : i < n) (he : E i = [sE t P cs]) (k : Nat) (u : Value) : Sep B (W.setCell ⟨P, k, none⟩ u) (flat (updE E i [sE t P (cs.set k u)]) n) := by
  have ho := h.own (sE t P cs) (mem_flat hi (by rw [he]; simp))
  exact h.poke (x' := sE t P (cs.set k u)) hi he rfl (owns_store ho k u) (World.ownsRow.stored ho k u).2
end Go.Proofs.YtdfghgeccannnaaDoor

/- Kit for a walk over rows of the call's own: rows made late stay while older ones are spoilt. -/
namespace Go.Proofs.YtdfghgeccannnaaDoor
open Go.ChangeShapes Go.WideShapes Go.ChangeAt Go.RowKit
set_option maxRecDepth 20000
/-- What is left of a row of statements behind the first n. -/
def restC : Nat → Code → Code
  | 0, c => c
  | n + 1, .seq _ b => restC n b
  | _, c => c
theorem ck' {B : Nat} {W W' : World} (hb : Below B W W') {p : Addr} (hp : p.block < B) {v : Value} (h : W.cell? p = some v) : W'.cell? p = some v := by
  rw [← h]; exact hb.cell hp
theorem Sep.app {B : Nat} {W W' : World} {L L' : List Ent} (h : Sep B W L) (hB : B ≤ W.heap.size) (hb : Below W.heap.size W W') (hL : Sep W.heap.size W' L') : Sep B W' (L ++ L') := by
  have h' := h.below hb
  refine ⟨fun x hx => ?_, List.pairwise_append.2 ⟨h.ap, hL.ap, fun x hx y hy => apart_new (h.own x hx) (hL.own y hy) (Nat.le_refl _)⟩⟩
  rcases List.mem_append.1 hx with hx | hx
  · exact h'.own x hx
  · exact owns_mono (hL.own x hx) hB
theorem Sep.box {B : Nat} {W : World} {L : List Ent} (h : Sep B W L) (hB : B ≤ W.heap.size) (t : TypeId) (cs : List Value) : Sep B (W.alloc (.cells cs.toArray t)) (L ++ [sE t W.heap.size cs]) :=
  h.app hB ((Below.refl _ _).alloc (Nat.le_refl _) _) ⟨fun x hx => by rw [List.mem_singleton] at hx; subst hx; exact sE_new W _ (Nat.le_refl _) _ _, by simp⟩
theorem Sep.perm {B : Nat} {W : World} {L L' : List Ent} (h : Sep B W L) (hp : L.Perm L') : Sep B W L' :=
  ⟨fun x hx => h.own x (hp.mem_iff.2 hx), (hp.pairwise_iff (fun {a b} hab => hab.symm)).1 h.ap⟩
theorem Sep.one {B : Nat} {W : World} {x : Ent} (h : W.ownsRow B x.e x.s x.v x.n x.cs) : Sep B W [x] :=
  ⟨fun y hy => by rw [List.mem_singleton] at hy; subst hy; exact h, by simp⟩
theorem Sep.l {B : Nat} {W : World} {L L' : List Ent} (h : Sep B W (L ++ L')) : Sep B W L := h.sub (List.sublist_append_left _ _)
theorem Sep.r {B : Nat} {W : World} {L L' : List Ent} (h : Sep B W (L ++ L')) : Sep B W L' := h.sub (List.sublist_append_right _ _)
/-- Blocks made from B on stay. -/
structure Late (B : Nat) (W W' : World) : Prop where
  size : W.heap.size ≤ W'.heap.size
  block : ∀ g, B ≤ g → g < W.heap.size → W'.heap[g]? = W.heap[g]?
theorem Late.refl (B : Nat) (W : World) : Late B W W := ⟨Nat.le_refl _, fun _ _ _ => rfl⟩
theorem Late.trans {B : Nat} {W W1 W2 : World} (h : Late B W W1) (k : Late B W1 W2) : Late B W W2 :=
  ⟨Nat.le_trans h.size k.size, fun g h1 h2 => (k.block g h1 (Nat.lt_of_lt_of_le h2 h.size)).trans (h.block g h1 h2)⟩
theorem Late.below {B : Nat} {W W' : World} (h : Below W.heap.size W W') : Late B W W' := ⟨h.size, fun g _ h2 => h.block g h2⟩
theorem Late.grown {B : Nat} {W W' : World} {r : Option Nat} (h : W.grownBy W' r) (hr : ∀ k, r = some k → k < B) : Late B W W' :=
  ⟨h.size, fun g h1 h2 => h.block g h2 (fun e => by have := hr g e.symm; omega)⟩
theorem owns_late {B : Nat} {W W' : World} {e : TypeId} {s n : Nat} {v : Value} {xs : List Value} (h : W.ownsRow B e s v n xs) (hl : Late B W W') : W'.ownsRow B e s v n xs := by
  refine ⟨h.1, ?_⟩
  rcases h.2 with h0 | ⟨g, cap, cur, hv, hg, hh, r⟩
  · exact .inl h0
  · exact .inr ⟨g, cap, cur, hv, hg, by rw [hl.block g hg (Array.getElem?_eq_some_iff.1 hh).1]; exact hh, r⟩
theorem Sep.late {B : Nat} {W W' : World} {L : List Ent} (h : Sep B W L) (hl : Late B W W') : Sep B W' L := ⟨fun x hx => owns_late (h.own x hx) hl, h.ap⟩
/-- A row in the midst is written; its slice stays the same. -/
theorem Sep.mid {B : Nat} {W W' : World} {L1 L2 : List Ent} {x x' : Ent} (h : Sep B W (L1 ++ x :: L2)) (hv : x'.v = x.v) (hx : W'.ownsRow B x'.e x'.s x'.v x'.n x'.cs) (hg : W.grownBy W' x.v.ownBlock) : Sep B W' (L1 ++ x' :: L2) := by
  have hp := List.pairwise_append.1 h.ap
  have hp2 := List.pairwise_cons.1 hp.2.1
  refine ⟨fun y hy => ?_, List.pairwise_append.2 ⟨hp.1, List.pairwise_cons.2 ⟨fun y hy => by rw [hv]; exact hp2.1 y hy, hp2.2⟩, fun y hy z hz => ?_⟩⟩
  · rcases List.mem_append.1 hy with hy | hy
    · exact (h.own y (by simp [hy])).kept hg (hp.2.2 y hy x (by simp))
    · rcases List.mem_cons.1 hy with rfl | hy
      · exact hx
      · exact (h.own y (by simp [hy])).kept hg (hp2.1 y hy).symm
  · rcases List.mem_cons.1 hz with rfl | hz
    · rw [hv]; exact hp.2.2 y hy x (by simp)
    · exact hp.2.2 y hy z (by simp [hz])
/-- A row in the midst is spoilt: the others stay. -/
theorem Sep.spoil {B : Nat} {W W' : World} {L1 L2 : List Ent} {x : Ent} (h : Sep B W (L1 ++ x :: L2)) (hg : W.grownBy W' x.v.ownBlock) : Sep B W' (L1 ++ L2) := by
  have hp := List.pairwise_append.1 h.ap
  have hp2 := List.pairwise_cons.1 hp.2.1
  refine ⟨fun y hy => ?_, List.pairwise_append.2 ⟨hp.1, hp2.2, fun y hy z hz => hp.2.2 y hy z (by simp [hz])⟩⟩
  rcases List.mem_append.1 hy with hy | hy
  · exact (h.own y (by simp [hy])).kept hg (hp.2.2 y hy x (by simp))
  · exact (h.own y (by simp [hy])).kept hg (hp2.1 y hy).symm
/-- A row of Booleans, room and all. -/
def bE (v : Value) (n : Nat) (bs : List Bool) : Ent := ⟨4, 1, v, n, bs.map Value.bool⟩
theorem box_cell {B : Nat} {W : World} {L : List Ent} (S : Sep B W L) {t : TypeId} {P : Nat} {cs : List Value} (h : sE t P cs ∈ L) (k : Nat) (hk : k < cs.length) (W' : World) (hB : Below W.heap.size W W') : W'.cell? ⟨P, k, none⟩ = cs[k]? := by
  have h1 := World.ownsRow.cellAt (owns_below' (S.own _ h) hB) k (by show k < 1 * cs.length; omega)
  exact h1
def scells : Value → List Value
  | .agg a => a.toList
  | _ => []
theorem flat_pick (E : Nat → List Ent) : ∀ (n : Nat) (is : List Nat), is.Pairwise (· < ·) → (∀ i ∈ is, i < n) → (is.flatMap E).Sublist (flat E n)
  | 0, is, _, hn => by
    cases is with
    | nil => exact List.Sublist.refl _
    | cons i is => have := hn i (by simp); omega
  | n + 1, is, hp, hn => by
    rcases List.eq_nil_or_concat is with rfl | ⟨js, j, rfl⟩
    · exact List.nil_sublist _
    · rw [List.concat_eq_append] at hp hn ⊢
      have hp' := List.pairwise_append.1 hp
      by_cases hj : j = n
      · subst hj
        rw [List.flatMap_append]
        simp only [flat]
        refine List.Sublist.append (flat_pick E j js hp'.1 (fun i hi => ?_)) (by simp)
        exact hp'.2.2 i hi j (by simp)
      · refine (flat_pick E n _ hp (fun i hi => ?_)).trans (List.sublist_append_left _ _)
        have hi1 := hn i hi
        rcases List.mem_append.1 hi with hi2 | hi2
        · have h1 := hp'.2.2 i hi2 j (by simp)
          have h2 := hn j (by simp)
          omega
        · simp at hi2; omega
theorem owns_nil_cap {w : World} {B : Nat} {e : TypeId} {s : Nat} {n c m : Nat} {xs : List Value} (h : w.ownsRow B e s (.slice none n c) m xs) : c = 0 := by
  rcases h.2 with ⟨hv, _⟩ | ⟨g, cap, cur, hv, _⟩
  · simp only [Value.slice.injEq] at hv; exact hv.2.2
  · simp at hv
theorem room_hcB {W : World} {a : Option Addr} {n c : Nat} {bs : List Bool} (h : BoolsAt W a n c bs) : ∀ b, a = some b → ∀ j u, (bs.map Value.bool)[j]? = some u → W.cell? (b.add j) = some u := by
  intro b hb j u hu
  have hj := (List.getElem?_eq_some_iff.1 hu).1
  rw [List.length_map, h.len] at hj
  obtain ⟨b', off, ha, hlt, hc⟩ := h.cells (by omega)
  rw [ha] at hb
  obtain rfl := Option.some.inj hb
  have h1 := hc j hj
  rw [List.getElem?_map, List.getElem?_eq_getElem (by rw [h.len]; exact hj)] at hu
  have h2 := Option.some.inj hu
  have e : (⟨b', off, none⟩ : Addr).add j = ⟨b', off + j, none⟩ := by
    unfold Addr.add
    split
    · rename_i h0; rw [h0]; rfl
    · rfl
  rw [e, h1, ← h2]
  simp [gb, List.getElem?_eq_getElem (show j < bs.length by rw [h.len]; exact hj)]
theorem bools_room {B : Nat} {W : World} {g n : Nat} {bs : List Bool} (h : W.ownsRow B 4 1 (.slice (some ⟨g, 0, none⟩) (n + 3) (n + 3)) (n + 3) ((bs ++ [true, true, true]).map Value.bool)) : BoolsAt W (some ⟨g, 0, none⟩) n (n + 3) bs ∧ g < W.heap.size ∧ ∀ i, i < 3 → W.cell? ⟨g, (n + i) * 1 + 0, none⟩ = some (.bool true) := by
  have hl : bs.length = n := by have := h.1; simp at this; omega
  have hs := owns_short h n (by omega)
  have e : ((bs ++ [true, true, true]).map Value.bool).take (n * 1) = bs.map Value.bool := by
    rw [Nat.mul_one, List.map_append]
    exact List.take_left' (by simp [hl])
  rw [e] at hs
  obtain ⟨a, c, hv, hI⟩ := owns_bools hs
  simp only [Value.slice.injEq] at hv
  obtain ⟨rfl, _, rfl⟩ := hv
  refine ⟨hI, (h.lt g rfl).2, fun i hi => ?_⟩
  have h1 := World.ownsRow.cellAt h (n + i) (by omega)
  rw [show (n + i) * 1 + 0 = n + i by omega, h1, List.getElem?_map, List.getElem?_append_right (by omega), hl, show n + i - n = i by omega]
  match i, hi with
  | 0, _ => rfl
  | 1, _ => rfl
  | 2, _ => rfl
end Go.Proofs.YtdfghgeccannnaaDoor
