/- Kit for the walk of SketchOwn: the code behind a statement; rows made late stay while older rows are spoilt; a table's own rows. -/
import Derived.Test.YtffocoflmbhknaaMgXAll
import Derived.Test.YtffocoflmbhknaaSepE
namespace Go.Proofs.Ytffocoflmbhknaa
open Go.ChangeShapes Go.WideShapes Go.ChangeAt Go.RowKit
set_option maxRecDepth 20000
/-- Cells of boxes that lie below h. -/
structure Boxes (h : Nat) (L : List (Nat × Nat × Value)) (W : World) : Prop where
  lt : h ≤ W.heap.size
  at_ : ∀ b o v, (b, o, v) ∈ L → b < h ∧ W.cell? ⟨b, o, none⟩ = some v
theorem Boxes.below {h : Nat} {L : List (Nat × Nat × Value)} {W W' : World} (hb : Boxes h L W) (hB : Below W.heap.size W W') : Boxes h L W' :=
  ⟨Nat.le_trans hb.lt hB.size, fun b o v hm => ⟨(hb.at_ b o v hm).1, ck hB (hb.at_ b o v hm).2⟩⟩
theorem Boxes.setCell {h : Nat} {L : List (Nat × Nat × Value)} {W : World} (hb : Boxes h L W) (p : Addr) (hp : h ≤ p.block) (u : Value) : Boxes h L (W.setCell p u) :=
  ⟨by simpa using hb.lt, fun b o v hm => ⟨(hb.at_ b o v hm).1, by
    rw [World.cell?_setCell_far _ _ _ _ (fun e => by have := (hb.at_ b o v hm).1; simp at e; omega)]
    exact (hb.at_ b o v hm).2⟩⟩
theorem Boxes.below' {h B : Nat} {L : List (Nat × Nat × Value)} {W W' : World} (hb : Boxes h L W) (hB : Below B W W') (hh : h ≤ B) : Boxes h L W' :=
  ⟨Nat.le_trans hb.lt hB.size, fun b o v hm => ⟨(hb.at_ b o v hm).1, by
    rw [← (hb.at_ b o v hm).2]; exact hB.cell (Nat.lt_of_lt_of_le (hb.at_ b o v hm).1 hh)⟩⟩
/-- What is left of a row of statements behind the first n. -/
def restC : Nat → Code → Code
  | 0, c => c
  | n + 1, .seq _ b => restC n b
  | _, c => c
noncomputable def cd (k : Nat) : Code := restC k (Try.f3.body.getD .skip)
theorem ck' {B : Nat} {W W' : World} (hb : Below B W W') {p : Addr} (hp : p.block < B) {v : Value} (h : W.cell? p = some v) : W'.cell? p = some v := by
  rw [← h]; exact hb.cell hp
theorem Sep.app {B : Nat} {W W' : World} {L L' : List Ent} (h : Sep B W L) (hB : B ≤ W.heap.size) (hb : Below W.heap.size W W') (hL : Sep W.heap.size W' L') : Sep B W' (L ++ L') := by
  have h' := h.below hb
  refine ⟨fun x hx => ?_, List.pairwise_append.2 ⟨h.ap, hL.ap, fun x hx y hy => apart_new (h.own x hx) (hL.own y hy) (Nat.le_refl _)⟩⟩
  rcases List.mem_append.1 hx with hx | hx
  · exact h'.own x hx
  · exact owns_mono (hL.own x hx) hB
theorem Sep.box {B : Nat} {W : World} {L : List Ent} (h : Sep B W L) (hB : B ≤ W.heap.size) (t : TypeId) (cs : List Value) : Sep B (W.alloc (.cells cs.toArray t)) (L ++ [sE t W.heap.size cs]) :=
  h.app hB ((Below.refl _ _).alloc (Nat.le_refl _) _) ⟨fun x hx => by rw [List.mem_singleton] at hx; subst hx; exact sE_new W _ (Nat.le_refl _) _ _, by simp⟩
theorem Sep.perm {B : Nat} {W : World} {L L' : List Ent} (h : Sep B W L) (hp : L.Perm L') : Sep B W L' :=
  ⟨fun x hx => h.own x (hp.mem_iff.2 hx), (hp.pairwise_iff (fun {a b} hab => hab.symm)).1 h.ap⟩
theorem Sep.one {B : Nat} {W : World} {x : Ent} (h : W.ownsRow B x.e x.s x.v x.n x.cs) : Sep B W [x] :=
  ⟨fun y hy => by rw [List.mem_singleton] at hy; subst hy; exact h, by simp⟩
theorem Sep.l {B : Nat} {W : World} {L L' : List Ent} (h : Sep B W (L ++ L')) : Sep B W L := h.sub (List.sublist_append_left _ _)
theorem Sep.r {B : Nat} {W : World} {L L' : List Ent} (h : Sep B W (L ++ L')) : Sep B W L' := h.sub (List.sublist_append_right _ _)
/-- Blocks made from B on stay. -/
structure Late (B : Nat) (W W' : World) : Prop where
  size : W.heap.size ≤ W'.heap.size
  block : ∀ g, B ≤ g → g < W.heap.size → W'.heap[g]? = W.heap[g]?
theorem Late.refl (B : Nat) (W : World) : Late B W W := ⟨Nat.le_refl _, fun _ _ _ => rfl⟩
theorem Late.trans {B : Nat} {W W1 W2 : World} (h : Late B W W1) (k : Late B W1 W2) : Late B W W2 :=
  ⟨Nat.le_trans h.size k.size, fun g h1 h2 => (k.block g h1 (Nat.lt_of_lt_of_le h2 h.size)).trans (h.block g h1 h2)⟩
theorem Late.below {B : Nat} {W W' : World} (h : Below W.heap.size W W') : Late B W W' := ⟨h.size, fun g _ h2 => h.block g h2⟩
theorem Late.grown {B : Nat} {W W' : World} {r : Option Nat} (h : W.grownBy W' r) (hr : ∀ k, r = some k → k < B) : Late B W W' :=
  ⟨h.size, fun g h1 h2 => h.block g h2 (fun e => by have := hr g e.symm; omega)⟩
theorem owns_late {B : Nat} {W W' : World} {e : TypeId} {s n : Nat} {v : Value} {xs : List Value} (h : W.ownsRow B e s v n xs) (hl : Late B W W') : W'.ownsRow B e s v n xs := by
  refine ⟨h.1, ?_⟩
  rcases h.2 with h0 | ⟨g, cap, cur, hv, hg, hh, r⟩
  · exact .inl h0
  · exact .inr ⟨g, cap, cur, hv, hg, by rw [hl.block g hg (Array.getElem?_eq_some_iff.1 hh).1]; exact hh, r⟩
theorem Sep.late {B : Nat} {W W' : World} {L : List Ent} (h : Sep B W L) (hl : Late B W W') : Sep B W' L := ⟨fun x hx => owns_late (h.own x hx) hl, h.ap⟩
/-- A table's slice of rows, made from B on: what it names are the rows of L. -/
structure TabR (B : Nat) (W : World) (a : Option Addr) (n c : Nat) (xs : List (List Int)) (L : List Ent) : Prop where
  hd : (a = none ∧ n = 0 ∧ c = 0) ∨ ∃ g, a = some ⟨g, 0, none⟩ ∧ B ≤ g ∧ g < W.heap.size ∧ ∀ i x, L[i]? = some x → W.cell? ⟨g, i, none⟩ = some x.v
  len : L.length = n
  lx : xs.length = n
  le : n ≤ c
  max : c ≤ 9223372036854775807
  few : n ≤ 4
  row : ∀ i x, L[i]? = some x → x = ei x.v (gl xs i).length (gl xs i) ∧ (gl xs i).length ≤ 1000 ∧ Bd (gl xs i)
theorem TabR.late {B : Nat} {W W' : World} {a : Option Addr} {n c : Nat} {xs : List (List Int)} {L : List Ent} (h : TabR B W a n c xs L) (hl : Late B W W') : TabR B W' a n c xs L := by
  refine ⟨?_, h.len, h.lx, h.le, h.max, h.few, h.row⟩
  rcases h.hd with h0 | ⟨g, ha, hB, hlt, hc⟩
  · exact .inl h0
  · refine .inr ⟨g, ha, hB, Nat.lt_of_lt_of_le hlt hl.size, fun i x hx => ?_⟩
    have := hc i x hx
    unfold World.cell? at this ⊢
    simp only [hl.block g hB hlt]
    exact this
theorem TabR.isI {B : Nat} {W : World} {a : Option Addr} {n c : Nat} {xs : List (List Int)} {L : List Ent} (h : TabR B W a n c xs L) : ∀ x ∈ L, IsI x := fun x hx => by
  obtain ⟨i, hi, rfl⟩ := List.getElem_of_mem hx
  obtain ⟨h1, h2, h3⟩ := h.row i _ (List.getElem?_eq_getElem hi)
  exact ⟨_, _, h1, h2, h3⟩
theorem TabR.ints {B B' : Nat} {W : World} {a : Option Addr} {n c : Nat} {xs : List (List Int)} {L : List Ent} (h : TabR B W a n c xs L) (hS : Sep B' W L) (i : Nat) (x : Ent) (hx : L[i]? = some x) : ∃ ai ni ci, x.v = .slice ai ni ci ∧ IntsAt W ai ni ci (gl xs i) := by
  obtain ⟨h1, h2, h3⟩ := h.row i x hx
  have ho := hS.own x (List.mem_of_getElem? hx)
  rw [h1] at ho
  obtain ⟨ai, ci, hv, hI⟩ := owns_ints (show W.ownsRow B' 3 1 x.v (gl xs i).length ((gl xs i).map (Value.int .i64)) from ho) h3
  exact ⟨ai, _, ci, hv, hI⟩
theorem TabR.rows {B B' : Nat} {W : World} {a : Option Addr} {n c : Nat} {xs : List (List Int)} {L : List Ent} (h : TabR B W a n c xs L) (hS : Sep B' W L) : RowsAt W a n c xs := by
  refine ⟨h.lx, h.le, h.max, fun hn => ?_⟩
  rcases h.hd with ⟨_, h0, _⟩ | ⟨g, ha, hB, hlt, hc⟩
  · omega
  · refine ⟨g, 0, ha, hlt, fun i hi => ?_⟩
    have hL := List.getElem?_eq_getElem (l := L) (i := i) (by rw [h.len]; exact hi)
    obtain ⟨ai, ni, ci, hv, hI⟩ := h.ints hS i _ hL
    exact ⟨ai, ni, ci, by rw [Nat.zero_add, hc i _ hL, hv], hI⟩
theorem TabR.vrow {B B' : Nat} {W : World} {a : Option Addr} {n c : Nat} {xs : List (List Int)} {L : List Ent} (h : TabR B W a n c xs L) (hS : Sep B' W L) : VRow W a n (L.map (·.v)) := by
  refine ⟨by simp [h.len], fun hne => ?_, fun u hu => ?_⟩
  · rcases h.hd with ⟨_, h0, _⟩ | ⟨g, ha, hB, hlt, hc⟩
    · exact absurd (by have := h.len; rw [h0] at this; rw [List.eq_nil_of_length_eq_zero this]; rfl) hne
    · refine ⟨g, 0, ha, hlt, fun i u hu => ?_⟩
      rw [List.getElem?_map] at hu
      cases hx : L[i]? with
      | none => rw [hx] at hu; cases hu
      | some x => rw [hx] at hu; cases hu; rw [Nat.zero_add]; exact hc i x hx
  · obtain ⟨x, hx, rfl⟩ := List.mem_map.1 hu
    obtain ⟨i, hi, rfl⟩ := List.getElem_of_mem hx
    obtain ⟨ai, ni, ci, hv, _⟩ := h.ints hS i _ (List.getElem?_eq_getElem hi)
    rw [hv]; rfl
theorem TabR.base {B B' : Nat} {W : World} {a : Option Addr} {n c : Nat} {xs : List (List Int)} {L : List Ent} (h : TabR B W a n c xs L) (hB : B' ≤ B) : TabR B' W a n c xs L := by
  refine ⟨?_, h.len, h.lx, h.le, h.max, h.few, h.row⟩
  rcases h.hd with h0 | ⟨g, ha, h1, hlt, hc⟩
  · exact .inl h0
  · exact .inr ⟨g, ha, Nat.le_trans hB h1, hlt, hc⟩
/-- What table.Put and table.Join answer is such a table. -/
theorem frt_tab {B : Nat} {W : World} {v : Value} (h : FrT B W v) : ∃ a n c xs L, v = .slice a n c ∧ TabR B W a n c xs L ∧ Sep B W L := by
  rcases h with rfl | ⟨g, n, cp, m, G, C, T, rfl, hB, h1, h2, h3, h4, h5, h6, hO, hT⟩
  · exact ⟨none, 0, 0, [], [], rfl, ⟨.inl ⟨rfl, rfl, rfl⟩, rfl, rfl, by omega, by omega, by omega, fun i x hx => by simp at hx⟩, Sep.nil _ _⟩
  · have hg : ∀ i x, (tab (fun i => ei (.slice (some ⟨G i, 0, none⟩) m (C i)) m (tab (T i) m)) n)[i]? = some x → i < n ∧ x = ei (.slice (some ⟨G i, 0, none⟩) m (C i)) m (tab (T i) m) := fun i x hx => by
      have hi := (List.getElem?_eq_some_iff.1 hx).1
      rw [tab_len] at hi
      rw [tab_get _ _ _ hi] at hx
      exact ⟨hi, (Option.some.inj hx).symm⟩
    refine ⟨some ⟨g, 0, none⟩, n, cp, tabL T m n, tab (fun i => ei (.slice (some ⟨G i, 0, none⟩) m (C i)) m (tab (T i) m)) n, rfl, ⟨.inr ⟨g, rfl, hB, hO.lt, fun i x hx => ?_⟩, tab_len _ _, tab_len _ _, h1, h2, h4, fun i x hx => ?_⟩, ⟨fun x hx => ?_, ?_⟩⟩
    · obtain ⟨hi, rfl⟩ := hg i x hx
      exact hO.hd i hi
    · obtain ⟨hi, rfl⟩ := hg i x hx
      rw [tabL_gl T m n i hi, tab_len]
      refine ⟨rfl, by omega, fun z hz => ?_⟩
      obtain ⟨j, hj, rfl⟩ := tab_mem _ _ _ hz
      have := hT i j hi hj
      omega
    · obtain ⟨i, hi, rfl⟩ := tab_mem _ _ _ hx
      have := hO.row i hi
      show W.ownsRow B 3 1 (.slice (some ⟨G i, 0, none⟩) m (C i)) m ((tab (T i) m).map (Value.int .i64))
      rw [tab_map]; exact this
    · unfold tab
      rw [List.pairwise_map]
      refine List.Pairwise.imp_of_mem ?_ List.nodup_range
      intro i j hi hj hne
      refine .inr fun e => ?_
      have e' : G i = G j := by simpa [ei, Value.ownBlock] using e
      exact hne (hO.inj i j (List.mem_range.1 hi) (List.mem_range.1 hj) e')
/-- A copied table's rows. -/
theorem copied_rows {B : Nat} {W : World} {a : Option Addr} {n c : Nat} {xs : List (List Int)} {G : Nat → Nat} (h : Sep B W (hdrE (.slice a n c) n (rowsV xs G n) :: rowsE xs G n)) (hl : xs.length = n) (hb : ∀ i, i < n → Bd (gl xs i)) : RowsAt W a n c xs := by
  have h0 := h.own (hdrE (.slice a n c) n (rowsV xs G n)) (by simp)
  obtain ⟨a', c', hv, h1, h2, h3⟩ := owns_cells h0
  simp only [hdrE, Value.slice.injEq] at hv
  obtain ⟨rfl, _, rfl⟩ := hv
  refine ⟨hl, h1, h2, fun hn => ?_⟩
  obtain ⟨b, off, hab, hlt, hc⟩ := h3 (fun e => by have := congrArg List.length e; simp [hdrE, rowsV, tab_len] at this; omega)
  refine ⟨b, off, hab, hlt, fun i hi => ?_⟩
  have hr := h.own (ei (.slice (some ⟨G i, 0, none⟩) ((gl xs i).length + 3) ((gl xs i).length + 3)) ((gl xs i).length + 3) (gl xs i ++ [-7, -7, -7])) (by
    refine List.mem_cons_of_mem _ ?_
    unfold rowsE tab
    exact List.mem_map.2 ⟨i, List.mem_range.2 hi, rfl⟩)
  have hs := owns_short hr (gl xs i).length (by omega)
  have e : (List.map (Value.int .i64) (gl xs i ++ [-7, -7, -7])).take ((gl xs i).length * 1) = (gl xs i).map (Value.int .i64) := by
    rw [Nat.mul_one, List.map_append]
    exact List.take_left' (by simp)
  have hs' : W.ownsRow B 3 1 (.slice (some ⟨G i, 0, none⟩) (gl xs i).length ((gl xs i).length + 3)) (gl xs i).length ((gl xs i).map (Value.int .i64)) := by rw [← e]; exact hs
  obtain ⟨ai, ci, hv, hI⟩ := owns_ints hs' (hb i hi)
  refine ⟨ai, _, ci, ?_, hI⟩
  rw [← hv]
  exact hc i _ (by unfold hdrE rowsV; exact tab_get _ _ _ hi)
/-- Two slices of slices, one behind the other: the very slices. -/
theorem concatl2_v (aa ab : Option Addr) (LA LB ca cb : Nat) (va vb : List Value) (W : World) (ha : VRow W aa LA va) (hb : VRow W ab LB vb) (hL : LA + LB ≤ 50000000) :
    Calls Try.prog 19 #[.slice (some ⟨W.heap.size, 0, none⟩) 2 2] (W.alloc (.cells #[.slice aa LA ca, .slice ab LB cb] 25)) fun e w' => ∃ v, e = .returned v ∧ w'.ownsRow W.heap.size 53 1 v (LA + LB) (va ++ vb) ∧ Below W.heap.size W w' := by
  have hR : RwsL (W.alloc (.cells #[.slice aa LA ca, .slice ab LB cb] 25)) W.heap.size 0 2 (fun i => if i = 0 then aa else ab) (fun i => if i = 0 then LA else LB) (fun i => if i = 0 then ca else cb) (fun i => if i = 0 then va else vb) :=
    ⟨by simp, fun i hi => match i, hi with
      | 0, _ => by unfold World.cell?; rw [heap_alloc_new]; rfl
      | 1, _ => by unfold World.cell?; rw [heap_alloc_new]; rfl,
     fun i hi => match i, hi with
      | 0, _ => ha.below ((Below.refl _ _).alloc (Nat.le_refl _) _)
      | 1, _ => hb.below ((Below.refl _ _).alloc (Nat.le_refl _) _)⟩
  have hsum : sumL (fun i => if i = 0 then LA else LB) 2 = LA + LB := by simp [sumL]
  have hcat : catV (fun i => if i = 0 then va else vb) 2 = va ++ vb := by simp [catV]
  have CC := concatl_c W.heap.size 0 2 2 _ _ _ _ _ hR (by omega) (by omega) (by rw [hsum]; omega)
  rw [hsum, hcat] at CC
  refine CC.mono ?_
  rintro e w' ⟨v, rfl, hv, hbl⟩
  exact ⟨v, rfl, owns_mono hv (by simp), bstep (bal (Below.refl _ _) _) hbl⟩
/-- A row in the midst is written; its slice stays the same. -/
theorem Sep.mid {B : Nat} {W W' : World} {L1 L2 : List Ent} {x x' : Ent} (h : Sep B W (L1 ++ x :: L2)) (hv : x'.v = x.v) (hx : W'.ownsRow B x'.e x'.s x'.v x'.n x'.cs) (hg : W.grownBy W' x.v.ownBlock) : Sep B W' (L1 ++ x' :: L2) := by
  have hp := List.pairwise_append.1 h.ap
  have hp2 := List.pairwise_cons.1 hp.2.1
  refine ⟨fun y hy => ?_, List.pairwise_append.2 ⟨hp.1, List.pairwise_cons.2 ⟨fun y hy => by rw [hv]; exact hp2.1 y hy, hp2.2⟩, fun y hy z hz => ?_⟩⟩
  · rcases List.mem_append.1 hy with hy | hy
    · exact (h.own y (by simp [hy])).kept hg (hp.2.2 y hy x (by simp))
    · rcases List.mem_cons.1 hy with rfl | hy
      · exact hx
      · exact (h.own y (by simp [hy])).kept hg (hp2.1 y hy).symm
  · rcases List.mem_cons.1 hz with rfl | hz
    · rw [hv]; exact hp.2.2 y hy x (by simp)
    · exact hp.2.2 y hy z (by simp [hz])
/-- A row in the midst is spoilt: the others stay. -/
theorem Sep.spoil {B : Nat} {W W' : World} {L1 L2 : List Ent} {x : Ent} (h : Sep B W (L1 ++ x :: L2)) (hg : W.grownBy W' x.v.ownBlock) : Sep B W' (L1 ++ L2) := by
  have hp := List.pairwise_append.1 h.ap
  have hp2 := List.pairwise_cons.1 hp.2.1
  refine ⟨fun y hy => ?_, List.pairwise_append.2 ⟨hp.1, hp2.2, fun y hy z hz => hp.2.2 y hy z (by simp [hz])⟩⟩
  rcases List.mem_append.1 hy with hy | hy
  · exact (h.own y (by simp [hy])).kept hg (hp.2.2 y hy x (by simp))
  · exact (h.own y (by simp [hy])).kept hg (hp2.1 y hy).symm
/-- A row of Booleans, room and all. -/
def bE (v : Value) (n : Nat) (bs : List Bool) : Ent := ⟨4, 1, v, n, bs.map Value.bool⟩
theorem box_cell {B : Nat} {W : World} {L : List Ent} (S : Sep B W L) {t : TypeId} {P : Nat} {cs : List Value} (h : sE t P cs ∈ L) (k : Nat) (hk : k < cs.length) (W' : World) (hB : Below W.heap.size W W') : W'.cell? ⟨P, k, none⟩ = cs[k]? := by
  have h1 := World.ownsRow.cellAt (owns_below' (S.own _ h) hB) k (by show k < 1 * cs.length; omega)
  exact h1
/-- One Boolean is written. -/
theorem Sep.flip {B : Nat} {W : World} {L1 L2 : List Ent} {g n : Nat} {bs : List Bool} (h : Sep B W (L1 ++ bE (.slice (some ⟨g, 0, none⟩) n n) n bs :: L2)) (k : Nat) (u : Bool) : Sep B (W.setCell ⟨g, k, none⟩ (.bool u)) (L1 ++ bE (.slice (some ⟨g, 0, none⟩) n n) n (bs.set k u) :: L2) := by
  have ho := h.own (bE (.slice (some ⟨g, 0, none⟩) n n) n bs) (by simp)
  refine h.mid rfl ?_ (World.ownsRow.stored ho k (.bool u)).2
  have := (World.ownsRow.stored ho k (.bool u)).1
  show World.ownsRow _ B 4 1 (.slice (some ⟨g, 0, none⟩) n n) n ((bs.set k u).map Value.bool)
  rw [List.map_set]
  exact this
theorem flip_late {B B1 : Nat} {W : World} {e : TypeId} {s g n c : Nat} {xs : List Value} (h : W.ownsRow B e s (.slice (some ⟨g, 0, none⟩) n c) n xs) (k : Nat) (u : Value) (hg : g < B1) : Late B1 W (W.setCell ⟨g, k, none⟩ u) :=
  Late.grown (World.ownsRow.stored h k u).2 (fun q e => by cases e; exact hg)
/-- Rows with room behind them, in which -7 stands; as their table names them. -/
structure RV (B1 : Nat) (R : List Ent) (V : List Value) : Prop where
  len : R.length = V.length
  at_ : ∀ (i : Nat) (y : Ent), R[i]? = some y → ∃ (g : Nat) (zs : List Int), V[i]? = some (Value.slice (some ⟨g, 0, none⟩) zs.length (zs.length + 3)) ∧ y = ei (.slice (some ⟨g, 0, none⟩) (zs.length + 3) (zs.length + 3)) (zs.length + 3) (zs ++ [-7, -7, -7]) ∧ g < B1 ∧ zs.length ≤ 17592186043904
theorem RV.app {B1 : Nat} {R R' : List Ent} {V V' : List Value} (h : RV B1 R V) (h' : RV B1 R' V') : RV B1 (R ++ R') (V ++ V') := by
  refine ⟨by rw [List.length_append, List.length_append, h.len, h'.len], fun i y hy => ?_⟩
  by_cases hi : i < R.length
  · rw [List.getElem?_append_left hi] at hy
    rw [List.getElem?_append_left (by rw [← h.len]; exact hi)]
    exact h.at_ i y hy
  · rw [List.getElem?_append_right (by omega)] at hy
    rw [List.getElem?_append_right (by rw [← h.len]; omega), ← h.len]
    exact h'.at_ _ y hy
theorem rv_rows {B1 n : Nat} {xs : List (List Int)} {G : Nat → Nat} (hG : ∀ i, i < n → G i < B1) (hz : ∀ i, i < n → (gl xs i).length ≤ 17592186043904) : RV B1 (rowsE xs G n) (rowsV xs G n) := by
  refine ⟨by unfold rowsE rowsV; rw [tab_len, tab_len], fun i y hy => ?_⟩
  have hi := (List.getElem?_eq_some_iff.1 hy).1
  unfold rowsE at hi hy
  rw [tab_len] at hi
  rw [tab_get _ _ _ hi] at hy
  exact ⟨G i, gl xs i, by unfold rowsV; exact tab_get _ _ _ hi, (Option.some.inj hy).symm, hG i hi, hz i hi⟩
theorem hdr_vrow {B : Nat} {W : World} {a : Option Addr} {n c : Nat} {xs : List (List Int)} {G : Nat → Nat} (h : W.ownsRow B 53 1 (.slice a n c) n (rowsV xs G n)) : VRow W a n (rowsV xs G n) := by
  obtain ⟨a', c', hv, h1, h2, h3⟩ := owns_cells h
  simp only [Value.slice.injEq] at hv
  obtain ⟨rfl, _, rfl⟩ := hv
  refine ⟨by unfold rowsV; exact tab_len _ _, h3, fun u hu => ?_⟩
  unfold rowsV at hu
  obtain ⟨i, hi, rfl⟩ := tab_mem _ _ _ hu
  rfl
def scells : Value → List Value
  | .agg a => a.toList
  | _ => []
theorem flat_pick (E : Nat → List Ent) : ∀ (n : Nat) (is : List Nat), is.Pairwise (· < ·) → (∀ i ∈ is, i < n) → (is.flatMap E).Sublist (flat E n)
  | 0, is, _, hn => by
    cases is with
    | nil => exact List.Sublist.refl _
    | cons i is => have := hn i (by simp); omega
  | n + 1, is, hp, hn => by
    rcases List.eq_nil_or_concat is with rfl | ⟨js, j, rfl⟩
    · exact List.nil_sublist _
    · rw [List.concat_eq_append] at hp hn ⊢
      have hp' := List.pairwise_append.1 hp
      by_cases hj : j = n
      · subst hj
        rw [List.flatMap_append]
        simp only [flat]
        refine List.Sublist.append (flat_pick E j js hp'.1 (fun i hi => ?_)) (by simp)
        exact hp'.2.2 i hi j (by simp)
      · refine (flat_pick E n _ hp (fun i hi => ?_)).trans (List.sublist_append_left _ _)
        have hi1 := hn i hi
        rcases List.mem_append.1 hi with hi2 | hi2
        · have h1 := hp'.2.2 i hi2 j (by simp)
          have h2 := hn j (by simp)
          omega
        · simp at hi2; omega
theorem owns_nil_cap {w : World} {B : Nat} {e : TypeId} {s : Nat} {n c m : Nat} {xs : List Value} (h : w.ownsRow B e s (.slice none n c) m xs) : c = 0 := by
  rcases h.2 with ⟨hv, _⟩ | ⟨g, cap, cur, hv, _⟩
  · simp only [Value.slice.injEq] at hv; exact hv.2.2
  · simp at hv
theorem TabR.rowsZ {B B' : Nat} {W : World} {a : Option Addr} {n c : Nat} {xs : List (List Int)} {L : List Ent} (h : TabR B W a n c xs L) (hS : Sep B' W L) : RowsZ W a n c xs := by
  refine ⟨h.lx, h.le, h.max, fun hn => ?_⟩
  rcases h.hd with ⟨_, h0, _⟩ | ⟨g, ha, hB, hlt, hc⟩
  · omega
  · refine ⟨g, 0, ha, hlt, fun i hi => ?_⟩
    have hL := List.getElem?_eq_getElem (l := L) (i := i) (by rw [h.len]; exact hi)
    obtain ⟨ai, ni, ci, hv, hI⟩ := h.ints hS i _ hL
    refine ⟨ai, ni, ci, by rw [Nat.zero_add, hc i _ hL, hv], hI, fun e => ?_, ?_⟩
    · subst e
      have ho := hS.own _ (List.mem_of_getElem? hL)
      rw [hv] at ho
      exact owns_nil_cap ho
    · have h1 := (h.row i _ hL).2.1
      have h2 := hI.len
      omega
theorem room_hcB {W : World} {a : Option Addr} {n c : Nat} {bs : List Bool} (h : BoolsAt W a n c bs) : ∀ b, a = some b → ∀ j u, (bs.map Value.bool)[j]? = some u → W.cell? (b.add j) = some u := by
  intro b hb j u hu
  have hj := (List.getElem?_eq_some_iff.1 hu).1
  rw [List.length_map, h.len] at hj
  obtain ⟨b', off, ha, hlt, hc⟩ := h.cells (by omega)
  rw [ha] at hb
  obtain rfl := Option.some.inj hb
  have h1 := hc j hj
  rw [List.getElem?_map, List.getElem?_eq_getElem (by rw [h.len]; exact hj)] at hu
  have h2 := Option.some.inj hu
  have e : (⟨b', off, none⟩ : Addr).add j = ⟨b', off + j, none⟩ := by
    unfold Addr.add
    split
    · rename_i h0; rw [h0]; rfl
    · rfl
  rw [e, h1, ← h2]
  simp [gb, List.getElem?_eq_getElem (show j < bs.length by rw [h.len]; exact hj)]
theorem bools_room {B : Nat} {W : World} {g n : Nat} {bs : List Bool} (h : W.ownsRow B 4 1 (.slice (some ⟨g, 0, none⟩) (n + 3) (n + 3)) (n + 3) ((bs ++ [true, true, true]).map Value.bool)) : BoolsAt W (some ⟨g, 0, none⟩) n (n + 3) bs ∧ g < W.heap.size ∧ ∀ i, i < 3 → W.cell? ⟨g, (n + i) * 1 + 0, none⟩ = some (.bool true) := by
  have hl : bs.length = n := by have := h.1; simp at this; omega
  have hs := owns_short h n (by omega)
  have e : ((bs ++ [true, true, true]).map Value.bool).take (n * 1) = bs.map Value.bool := by
    rw [Nat.mul_one, List.map_append]
    exact List.take_left' (by simp [hl])
  rw [e] at hs
  obtain ⟨a, c, hv, hI⟩ := owns_bools hs
  simp only [Value.slice.injEq] at hv
  obtain ⟨rfl, _, rfl⟩ := hv
  refine ⟨hI, (h.lt g rfl).2, fun i hi => ?_⟩
  have h1 := World.ownsRow.cellAt h (n + i) (by omega)
  rw [show (n + i) * 1 + 0 = n + i by omega, h1, List.getElem?_map, List.getElem?_append_right (by omega), hl, show n + i - n = i by omega]
  match i, hi with
  | 0, _ => rfl
  | 1, _ => rfl
  | 2, _ => rfl
theorem cnts_room {B : Nat} {W : World} {g n : Nat} {L : List (Int × Int)} {x : Int} (h : W.ownsRow B 36 2 (.slice (some ⟨g, 0, none⟩) (n + 3) (n + 3)) (n + 3) (cntV L ++ [.int .i64 0, .int .i64 x, .int .i64 0, .int .i64 x, .int .i64 0, .int .i64 x])) : CntAt W (some ⟨g, 0, none⟩) n (n + 3) L ∧ g < W.heap.size ∧ ∀ i, i < 3 → W.cell? ⟨g, (n + i) * 2 + 0, none⟩ = some (.int .i64 0) ∧ W.cell? ⟨g, (n + i) * 2 + 1, none⟩ = some (.int .i64 x) := by
  have hl : (cntV L).length = n * 2 := by have := h.1; simp at this; omega
  have hs := owns_short h n (by omega)
  rw [List.take_left' hl] at hs
  obtain ⟨a, c, hv, hI⟩ := owns_cnts hs
  simp only [Value.slice.injEq] at hv
  obtain ⟨rfl, _, rfl⟩ := hv
  refine ⟨hI, (h.lt g rfl).2, fun i hi => ⟨?_, ?_⟩⟩
  · have h1 := World.ownsRow.cellAt h ((n + i) * 2) (by omega)
    rw [Nat.add_zero, h1, List.getElem?_append_right (by omega), hl, show (n + i) * 2 - n * 2 = i * 2 by omega]
    match i, hi with
    | 0, _ => rfl
    | 1, _ => rfl
    | 2, _ => rfl
  · have h1 := World.ownsRow.cellAt h ((n + i) * 2 + 1) (by omega)
    rw [h1, List.getElem?_append_right (by omega), hl, show (n + i) * 2 + 1 - n * 2 = i * 2 + 1 by omega]
    match i, hi with
    | 0, _ => rfl
    | 1, _ => rfl
    | 2, _ => rfl
end Go.Proofs.Ytffocoflmbhknaa
