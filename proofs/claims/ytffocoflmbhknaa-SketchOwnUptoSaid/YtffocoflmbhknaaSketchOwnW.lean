/- The walk of SketchOwn. -/
import Derived.Test.YtffocoflmbhknaaSkR8
namespace Go.Proofs.Ytffocoflmbhknaa.sketchOwn
open Go.ChangeShapes Go.WideShapes Go.ChangeAt Go.RowKit
open Go.Proofs.Ytffocoflmbhknaa
set_option maxRecDepth 20000
set_option linter.unusedVariables false
theorem sep_two (W : World) (t1 t2 : TypeId) (cs1 cs2 : List Value) : Sep W.heap.size ((W.alloc (.cells cs1.toArray t1)).alloc (.cells cs2.toArray t2)).drew [sE t1 W.heap.size cs1, sE t2 (W.heap.size + 1) cs2] := by
  have h1 := (Sep.nil W.heap.size W).snoc (x := sE t1 W.heap.size cs1) (Nat.le_refl _) (bal (Below.refl _ _) (.cells cs1.toArray t1)) (sE_new W _ (Nat.le_refl _) t1 cs1)
  have h2 := h1.snoc (x := sE t2 (W.alloc (.cells cs1.toArray t1)).heap.size cs2) (by simp) (bal (Below.refl _ _) (.cells cs2.toArray t2)) (sE_new (W.alloc (.cells cs1.toArray t1)) _ (Nat.le_refl _) t2 cs2)
  have e : (W.alloc (.cells cs1.toArray t1)).heap.size = W.heap.size + 1 := by simp
  rw [e] at h2
  exact h2.drew
theorem sep_swap {B : Nat} {W : World} {x y : Ent} (h : Sep B W [x, y]) : Sep B W [y, x] :=
  ⟨fun z hz => h.own z (by simp at hz ⊢; exact hz.symm), by have := h.ap; simp at this ⊢; exact this.symm⟩
theorem Sep.store {B : Nat} {W : World} {L1 L2 : List Ent} {t : TypeId} {P : Nat} {cs : List Value} (h : Sep B W (L1 ++ sE t P cs :: L2)) (k : Nat) (u : Value) : Sep B (W.setCell ⟨P, k, none⟩ u) (L1 ++ sE t P (cs.set k u) :: L2) := by
  have hap := List.pairwise_append.1 h.ap
  have hap2 := List.pairwise_cons.1 hap.2.1
  have ne : ∀ v, Apart v (Value.slice (some ⟨P, 0, none⟩) 1 1) → v.ownBlock ≠ some P := fun v hv e => by
    rcases hv with hv | hv
    · rw [e] at hv; cases hv
    · exact hv e
  refine ⟨fun x hx => ?_, ?_⟩
  · rcases List.mem_append.1 hx with hx | hx
    · exact ownsRow_setCell_other (h.own x (by simp [hx])) (ne _ (hap.2.2 x hx (sE t P cs) (by simp))) u
    · rcases List.mem_cons.1 hx with rfl | hx
      · exact owns_store (h.own (sE t P cs) (by simp)) k u
      · exact ownsRow_setCell_other (h.own x (by simp [hx])) (ne _ (hap2.1 x hx).symm) u
  · have e : ∀ c : List Value, (L1 ++ sE t P c :: L2).map (fun x => x.v) = L1.map (fun x => x.v) ++ (Value.slice (some ⟨P, 0, none⟩) 1 1) :: L2.map (fun x => x.v) := fun c => by simp [sE]
    have h2 : ((L1 ++ sE t P cs :: L2).map (fun x => x.v)).Pairwise Apart := List.pairwise_map.2 h.ap
    rw [e cs, ← e (cs.set k u)] at h2
    exact List.pairwise_map.1 h2
/-- The region of the two 'roomy' calls on the filters' bits. -/
def fullV : Value → Value
  | .slice a _ c => .slice a c c
  | v => v
structure K5 (h : Nat) (wd wc : World) (P Q : Nat) (sz0 wy0 : Int) (a0 : Option Addr) (n0 c0 : Nat) (bs0 : List Bool) (sz1 wy1 : Int) (a1 : Option Addr) (n1 c1 : Nat) (bs1 : List Bool) (D : Nat → Bool) (V : Nat → Value) (w : World) : Prop where
  v0 : D 0 = true → V 0 = .pointer (some ⟨h, 2, none⟩)
  v1 : D 1 = true → V 1 = .slice a0 n0 c0
  v2 : D 2 = true → ∃ g, V 2 = .slice (some ⟨g, 0, none⟩) n0 (n0 + 3)
  v3 : D 3 = true → V 3 = .pointer (some ⟨h + 1, 2, none⟩)
  v4 : D 4 = true → V 4 = .slice a1 n1 c1
  v5 : D 5 = true → ∃ g, V 5 = .slice (some ⟨g, 0, none⟩) n1 (n1 + 3)
  v6 : D 6 = true → V 6 = .pointer (some ⟨P, 2, none⟩)
  v8 : D 8 = true → V 8 = .pointer (some ⟨Q, 2, none⟩)
  o52 : D 5 = true → D 2 = true
  o75 : D 7 = true → D 5 = true
  o97 : D 9 = true → D 7 = true
  below : Below wd.heap.size wc w
  sep : Sep wd.heap.size w (([] : List Ent) ++ sE 24 P [.int .i64 sz0, .int .i64 wy0, if D 7 then V 2 else .slice a0 n0 c0] :: ([] ++ sE 24 Q [.int .i64 sz1, .int .i64 wy1, if D 9 then V 5 else .slice a1 n1 c1] ::
    ((if D 2 then [(⟨4, 1, fullV (V 2), n0 + 3, bs0.map Value.bool ++ ([.bool true] ++ ([.bool true] ++ [.bool true]))⟩ : Ent)] else []) ++
    (if D 5 then [(⟨4, 1, fullV (V 5), n1 + 3, bs1.map Value.bool ++ ([.bool true] ++ ([.bool true] ++ [.bool true]))⟩ : Ent)] else []))))
theorem K5.start {h : Nat} {wd wc : World} {P Q : Nat} {sz0 wy0 : Int} {a0 : Option Addr} {n0 c0 : Nat} {bs0 : List Bool} {sz1 wy1 : Int} {a1 : Option Addr} {n1 c1 : Nat} {bs1 : List Bool}
    (hS : Sep wd.heap.size wc [sE 24 P [.int .i64 sz0, .int .i64 wy0, .slice a0 n0 c0], sE 24 Q [.int .i64 sz1, .int .i64 wy1, .slice a1 n1 c1]]) : K5 h wd wc P Q sz0 wy0 a0 n0 c0 bs0 sz1 wy1 a1 n1 c1 bs1 (fun _ => false) (fun _ => undef) wc.drew := by
  refine ⟨?_, ?_, ?_, ?_, ?_, ?_, ?_, ?_, ?_, ?_, ?_, (Below.refl _ _).drew, ?_⟩
  all_goals try (intro hh; cases hh)
  simpa using hS.drew
theorem K5.up2 {h : Nat} {wd wc : World} {P Q : Nat} {sz0 wy0 : Int} {a0 : Option Addr} {n0 c0 : Nat} {bs0 : List Bool} {sz1 wy1 : Int} {a1 : Option Addr} {n1 c1 : Nat} {bs1 : List Bool} {D : Nat → Bool} {V : Nat → Value} {w : World} {w' : World} {g : Nat} (hK : K5 h wd wc P Q sz0 wy0 a0 n0 c0 bs0 sz1 wy1 a1 n1 c1 bs1 D V w) (hi : D 2 = false) (hP : wd.heap.size ≤ P ∧ P < wc.heap.size)
    (hO : w'.ownsRow w.heap.size 4 1 (.slice (some ⟨g, 0, none⟩) (n0 + 3) (n0 + 3)) (n0 + 3) (bs0.map Value.bool ++ ([.bool true] ++ ([.bool true] ++ [.bool true])))) (hB : Below w.heap.size w w') : K5 h wd wc P Q sz0 wy0 a0 n0 c0 bs0 sz1 wy1 a1 n1 c1 bs1 (updD D 2) (updV V 2 (.slice (some ⟨g, 0, none⟩) n0 (n0 + 3))) w' := by
  have hsz := hK.below.size
  have h5 : D 5 = false := by
    cases hD : D 5 with
    | false => rfl
    | true => have := hK.o52 hD; rw [hi] at this; cases this
  have h7 : D 7 = false := by
    cases hD : D 7 with
    | false => rfl
    | true => have := hK.o75 hD; rw [h5] at this; cases this
  have h9 : D 9 = false := by
    cases hD : D 9 with
    | false => rfl
    | true => have := hK.o97 hD; rw [h7] at this; cases this
  have hS := hK.sep
  simp only [hi, h5, h7, h9, Bool.false_eq_true, if_false, List.nil_append] at hS
  have hS2 := hS.snoc (x := ⟨4, 1, .slice (some ⟨g, 0, none⟩) (n0 + 3) (n0 + 3), n0 + 3, bs0.map Value.bool ++ ([.bool true] ++ ([.bool true] ++ [.bool true]))⟩) (by omega) hB hO
  refine ⟨(by first | exact hK.v0 | exact fun _ => rfl | exact fun h => (nomatch (show true = false from h))), (by first | exact hK.v1 | exact fun _ => rfl | exact fun h => (nomatch (show true = false from h))), fun _ => ⟨g, by simp [updV]⟩, (by first | exact hK.v3 | exact fun _ => rfl | exact fun h => (nomatch (show true = false from h))), (by first | exact hK.v4 | exact fun _ => rfl | exact fun h => (nomatch (show true = false from h))), (by first | exact hK.v5 | exact fun _ => rfl | exact fun h => (nomatch (show true = false from h))), (by first | exact hK.v6 | exact fun _ => rfl | exact fun h => (nomatch (show true = false from h))), (by first | exact hK.v8 | exact fun _ => rfl | exact fun h => (nomatch (show true = false from h))), (by first | exact hK.o52 | exact fun _ => rfl | exact fun h => (nomatch (show true = false from h))), (by first | exact hK.o75 | exact fun _ => rfl | exact fun h => (nomatch (show true = false from h))), (by first | exact hK.o97 | exact fun _ => rfl | exact fun h => (nomatch (show true = false from h))), hK.below.trans (hB.mono (by omega)), ?_⟩
  simpa [updD, updV, h5, h7, h9, fullV] using hS2
theorem K5.up5 {h : Nat} {wd wc : World} {P Q : Nat} {sz0 wy0 : Int} {a0 : Option Addr} {n0 c0 : Nat} {bs0 : List Bool} {sz1 wy1 : Int} {a1 : Option Addr} {n1 c1 : Nat} {bs1 : List Bool} {D : Nat → Bool} {V : Nat → Value} {w : World} {w' : World} {g : Nat} (hK : K5 h wd wc P Q sz0 wy0 a0 n0 c0 bs0 sz1 wy1 a1 n1 c1 bs1 D V w) (hi : D 5 = false) (h2 : D 2 = true) (hP : wd.heap.size ≤ P ∧ P < wc.heap.size)
    (hO : w'.ownsRow w.heap.size 4 1 (.slice (some ⟨g, 0, none⟩) (n1 + 3) (n1 + 3)) (n1 + 3) (bs1.map Value.bool ++ ([.bool true] ++ ([.bool true] ++ [.bool true])))) (hB : Below w.heap.size w w') : K5 h wd wc P Q sz0 wy0 a0 n0 c0 bs0 sz1 wy1 a1 n1 c1 bs1 (updD D 5) (updV V 5 (.slice (some ⟨g, 0, none⟩) n1 (n1 + 3))) w' := by
  have hsz := hK.below.size
  have h7 : D 7 = false := by
    cases hD : D 7 with
    | false => rfl
    | true => have := hK.o75 hD; rw [hi] at this; cases this
  have h9 : D 9 = false := by
    cases hD : D 9 with
    | false => rfl
    | true => have := hK.o97 hD; rw [h7] at this; cases this
  have hS := hK.sep
  simp only [hi, h2, h7, h9, Bool.false_eq_true, if_false, if_true, List.nil_append] at hS
  have hS2 := hS.snoc (x := ⟨4, 1, .slice (some ⟨g, 0, none⟩) (n1 + 3) (n1 + 3), n1 + 3, bs1.map Value.bool ++ ([.bool true] ++ ([.bool true] ++ [.bool true]))⟩) (by omega) hB hO
  refine ⟨(by first | exact hK.v0 | exact fun _ => rfl | exact fun h => (nomatch (show true = false from h))), (by first | exact hK.v1 | exact fun _ => rfl | exact fun h => (nomatch (show true = false from h))), (by first | exact hK.v2 | exact fun _ => rfl | exact fun h => (nomatch (show true = false from h))), (by first | exact hK.v3 | exact fun _ => rfl | exact fun h => (nomatch (show true = false from h))), (by first | exact hK.v4 | exact fun _ => rfl | exact fun h => (nomatch (show true = false from h))), fun _ => ⟨g, by simp [updV]⟩, (by first | exact hK.v6 | exact fun _ => rfl | exact fun h => (nomatch (show true = false from h))), (by first | exact hK.v8 | exact fun _ => rfl | exact fun h => (nomatch (show true = false from h))), by simp [updD, h2], (by first | exact hK.o75 | exact fun _ => rfl | exact fun h => (nomatch (show true = false from h))), (by first | exact hK.o97 | exact fun _ => rfl | exact fun h => (nomatch (show true = false from h))), hK.below.trans (hB.mono (by omega)), ?_⟩
  simpa [updD, updV, h2, h7, h9, fullV] using hS2
theorem K5.up7 {h : Nat} {wd wc : World} {P Q : Nat} {sz0 wy0 : Int} {a0 : Option Addr} {n0 c0 : Nat} {bs0 : List Bool} {sz1 wy1 : Int} {a1 : Option Addr} {n1 c1 : Nat} {bs1 : List Bool} {D : Nat → Bool} {V : Nat → Value} {w : World} (hK : K5 h wd wc P Q sz0 wy0 a0 n0 c0 bs0 sz1 wy1 a1 n1 c1 bs1 D V w) (hi : D 7 = false) (h5 : D 5 = true) (hP : wd.heap.size ≤ P) :
    w.frozen? ⟨P, 2, none⟩ = false ∧ w.cell? ⟨P, 2, none⟩ = some (.slice a0 n0 c0) ∧ K5 h wd wc P Q sz0 wy0 a0 n0 c0 bs0 sz1 wy1 a1 n1 c1 bs1 (updD D 7) (updV V 7 undef) (w.setCell ⟨P, 2, none⟩ (V 2)) := by
  have h9 : D 9 = false := by
    cases hD : D 9 with
    | false => rfl
    | true => have := hK.o97 hD; rw [hi] at this; cases this
  have h2 := hK.o52 h5
  have hS := hK.sep
  simp only [hi, h2, h5, h9, Bool.false_eq_true, if_false, if_true] at hS
  have hS2 := Sep.store (L1 := []) hS 2 (V 2)
  have hx := hS.own (sE 24 P [.int .i64 sz0, .int .i64 wy0, .slice a0 n0 c0]) (by simp)
  refine ⟨World.ownsRow.frozenAt hx 2, World.ownsRow.cellAt hx 2 (by show 2 < 1 * 3; omega), (by first | exact hK.v0 | exact fun _ => rfl | exact fun h => (nomatch (show true = false from h))), (by first | exact hK.v1 | exact fun _ => rfl | exact fun h => (nomatch (show true = false from h))), (by first | exact hK.v2 | exact fun _ => rfl | exact fun h => (nomatch (show true = false from h))), (by first | exact hK.v3 | exact fun _ => rfl | exact fun h => (nomatch (show true = false from h))), (by first | exact hK.v4 | exact fun _ => rfl | exact fun h => (nomatch (show true = false from h))), (by first | exact hK.v5 | exact fun _ => rfl | exact fun h => (nomatch (show true = false from h))), (by first | exact hK.v6 | exact fun _ => rfl | exact fun h => (nomatch (show true = false from h))), (by first | exact hK.v8 | exact fun _ => rfl | exact fun h => (nomatch (show true = false from h))), (by first | exact hK.o52 | exact fun _ => rfl | exact fun h => (nomatch (show true = false from h))), by simp [updD, h5], (by first | exact hK.o97 | exact fun _ => rfl | exact fun h => (nomatch (show true = false from h))), hK.below.trans ((Below.refl _ _).setCell hP _), ?_⟩
  simpa [updD, updV, h2, h5, h9] using hS2
theorem K5.up9 {h : Nat} {wd wc : World} {P Q : Nat} {sz0 wy0 : Int} {a0 : Option Addr} {n0 c0 : Nat} {bs0 : List Bool} {sz1 wy1 : Int} {a1 : Option Addr} {n1 c1 : Nat} {bs1 : List Bool} {D : Nat → Bool} {V : Nat → Value} {w : World} (hK : K5 h wd wc P Q sz0 wy0 a0 n0 c0 bs0 sz1 wy1 a1 n1 c1 bs1 D V w) (hi : D 9 = false) (h7 : D 7 = true) (hQ : wd.heap.size ≤ Q) :
    w.frozen? ⟨Q, 2, none⟩ = false ∧ w.cell? ⟨Q, 2, none⟩ = some (.slice a1 n1 c1) ∧ K5 h wd wc P Q sz0 wy0 a0 n0 c0 bs0 sz1 wy1 a1 n1 c1 bs1 (updD D 9) (updV V 9 undef) (w.setCell ⟨Q, 2, none⟩ (V 5)) := by
  have h5 := hK.o75 h7
  have h2 := hK.o52 h5
  have hS := hK.sep
  simp only [hi, h2, h5, h7, Bool.false_eq_true, if_false, if_true] at hS
  have hS2 := Sep.store (L1 := [sE 24 P [.int .i64 sz0, .int .i64 wy0, V 2]]) (by simpa using hS) 2 (V 5)
  have hx := hS.own (sE 24 Q [.int .i64 sz1, .int .i64 wy1, .slice a1 n1 c1]) (by simp)
  refine ⟨World.ownsRow.frozenAt hx 2, World.ownsRow.cellAt hx 2 (by show 2 < 1 * 3; omega), (by first | exact hK.v0 | exact fun _ => rfl | exact fun h => (nomatch (show true = false from h))), (by first | exact hK.v1 | exact fun _ => rfl | exact fun h => (nomatch (show true = false from h))), (by first | exact hK.v2 | exact fun _ => rfl | exact fun h => (nomatch (show true = false from h))), (by first | exact hK.v3 | exact fun _ => rfl | exact fun h => (nomatch (show true = false from h))), (by first | exact hK.v4 | exact fun _ => rfl | exact fun h => (nomatch (show true = false from h))), (by first | exact hK.v5 | exact fun _ => rfl | exact fun h => (nomatch (show true = false from h))), (by first | exact hK.v6 | exact fun _ => rfl | exact fun h => (nomatch (show true = false from h))), (by first | exact hK.v8 | exact fun _ => rfl | exact fun h => (nomatch (show true = false from h))), (by first | exact hK.o52 | exact fun _ => rfl | exact fun h => (nomatch (show true = false from h))), (by first | exact hK.o75 | exact fun _ => rfl | exact fun h => (nomatch (show true = false from h))), by simp [updD, h7], hK.below.trans ((Below.refl _ _).setCell hQ _), ?_⟩
  simpa [updD, updV, h2, h5, h7] using hS2
/-- The region of the two 'copied' calls on the tables. -/
def tcells : Value → List Value
  | .agg a => a.toList
  | _ => []
structure K6 (wd wc : World) (wd2 : Int) (a2 : Option Addr) (n2 c2 : Nat) (xs2 : List (List Int)) (wd3 : Int) (a3 : Option Addr) (n3 c3 : Nat) (xs3 : List (List Int)) (bs : List Ent) (E : Nat → List Ent) (D : Nat → Bool) (V : Nat → Value) (w : World) : Prop where
  v0 : D 0 = true → V 0 = .agg #[.int .i64 wd2, .slice a2 n2 c2]
  v1 : D 1 = true → ∃ av cp G, V 1 = .agg #[.int .i64 wd2, .slice av n2 cp] ∧ E 1 = hdrE (.slice av n2 cp) n2 (rowsV xs2 G n2) :: rowsE xs2 G n2
  v2 : D 2 = true → V 2 = .agg #[.int .i64 wd3, .slice a3 n3 c3]
  v3 : D 3 = true → ∃ av cp G, V 3 = .agg #[.int .i64 wd3, .slice av n3 cp] ∧ E 3 = hdrE (.slice av n3 cp) n3 (rowsV xs3 G n3) :: rowsE xs3 G n3
  v4 : D 4 = true → ∃ A, V 4 = .pointer (some ⟨A, 0, none⟩) ∧ wd.heap.size ≤ A ∧ E 4 = [sE 27 A (if D 6 then tcells (V 1) else [.int .i64 0, .slice none 0 0])]
  v5 : D 5 = true → ∃ A, V 5 = .pointer (some ⟨A, 0, none⟩) ∧ wd.heap.size ≤ A ∧ E 5 = [sE 27 A (if D 7 then tcells (V 3) else [.int .i64 0, .slice none 0 0])]
  n1 : D 1 = false → E 1 = []
  n3 : D 3 = false → E 3 = []
  n4 : D 4 = false → E 4 = []
  n5 : D 5 = false → E 5 = []
  o31 : D 3 = true → D 1 = true
  o63 : D 6 = true → D 3 = true
  o76 : D 7 = true → D 6 = true
  o64 : D 6 = true → D 4 = true
  o65 : D 7 = true → D 5 = true
  eb : E 8 = bs
  below : Below wd.heap.size wc w
  sep : Sep wd.heap.size w (flat E 9)
theorem K6.start {wd wc : World} {wd2 : Int} {a2 : Option Addr} {n2 c2 : Nat} {xs2 : List (List Int)} {wd3 : Int} {a3 : Option Addr} {n3 c3 : Nat} {xs3 : List (List Int)} {bs : List Ent} (hS : Sep wd.heap.size wc bs) :
    K6 wd wc wd2 a2 n2 c2 xs2 wd3 a3 n3 c3 xs3 bs (fun i => if i = 8 then bs else []) (fun _ => false) (fun _ => undef) wc.drew := by
  refine ⟨?_, ?_, ?_, ?_, ?_, ?_, fun _ => rfl, fun _ => rfl, fun _ => rfl, fun _ => rfl, ?_, ?_, ?_, ?_, ?_, rfl, (Below.refl _ _).drew, ?_⟩
  all_goals try (intro hh; cases hh)
  simpa [flat] using hS.drew
theorem K6.up1 {wd wc : World} {wd2 : Int} {a2 : Option Addr} {n2 c2 : Nat} {xs2 : List (List Int)} {wd3 : Int} {a3 : Option Addr} {n3 c3 : Nat} {xs3 : List (List Int)} {bs : List Ent} {E : Nat → List Ent} {D : Nat → Bool} {V : Nat → Value} {w : World} {w' : World} {av : Option Addr} {cp : Nat} {G : Nat → Nat} (hK : K6 wd wc wd2 a2 n2 c2 xs2 wd3 a3 n3 c3 xs3 bs E D V w) (hi : D 1 = false) (hw : wd.heap.size ≤ wc.heap.size)
    (hO : Sep w.heap.size w' (hdrE (.slice av n2 cp) n2 (rowsV xs2 G n2) :: rowsE xs2 G n2)) (hB : Below w.heap.size w w') :
    K6 wd wc wd2 a2 n2 c2 xs2 wd3 a3 n3 c3 xs3 bs (updE E 1 (hdrE (.slice av n2 cp) n2 (rowsV xs2 G n2) :: rowsE xs2 G n2)) (updD D 1) (updV V 1 (.agg #[.int .i64 wd2, .slice av n2 cp])) w' := by
  have hsz := hK.below.size
  have h3 : D 3 = false := by
    cases hD : D 3 with
    | false => rfl
    | true => have := hK.o31 hD; rw [hi] at this; cases this
  have h6 : D 6 = false := by
    cases hD : D 6 with
    | false => rfl
    | true => have := hK.o63 hD; rw [h3] at this; cases this
  have h7 : D 7 = false := by
    cases hD : D 7 with
    | false => rfl
    | true => have := hK.o76 hD; rw [h6] at this; cases this
  have hS := hK.sep.put (i := 1) (by omega) (hK.n1 hi) (by omega) hB hO
  exact ⟨(by first | exact hK.v0 | exact fun _ => rfl | exact fun h => (nomatch (show true = false from h))), fun _ => ⟨av, cp, G, by simp [updV], by simp [updE]⟩, (by first | exact hK.v2 | exact fun _ => rfl | exact fun h => (nomatch (show true = false from h))), (by first | exact hK.v3 | exact fun _ => rfl | exact fun h => (nomatch (show true = false from h))), by have hh := hK.v4; simpa [updD, updV, updE, h6] using hh, (by first | exact hK.v5 | exact fun _ => rfl | exact fun h => (nomatch (show true = false from h))), (by first | exact hK.n1 | exact fun _ => rfl | exact fun h => (nomatch (show true = false from h))), (by first | exact hK.n3 | exact fun _ => rfl | exact fun h => (nomatch (show true = false from h))), (by first | exact hK.n4 | exact fun _ => rfl | exact fun h => (nomatch (show true = false from h))), (by first | exact hK.n5 | exact fun _ => rfl | exact fun h => (nomatch (show true = false from h))), (by first | exact hK.o31 | exact fun _ => rfl | exact fun h => (nomatch (show true = false from h))), (by first | exact hK.o63 | exact fun _ => rfl | exact fun h => (nomatch (show true = false from h))), (by first | exact hK.o76 | exact fun _ => rfl | exact fun h => (nomatch (show true = false from h))), (by first | exact hK.o64 | exact fun _ => rfl | exact fun h => (nomatch (show true = false from h))), (by first | exact hK.o65 | exact fun _ => rfl | exact fun h => (nomatch (show true = false from h))), (by first | exact hK.eb | exact fun _ => rfl | exact fun h => (nomatch (show true = false from h))), hK.below.trans (hB.mono (by omega)), hS⟩
theorem K6.up3 {wd wc : World} {wd2 : Int} {a2 : Option Addr} {n2 c2 : Nat} {xs2 : List (List Int)} {wd3 : Int} {a3 : Option Addr} {n3 c3 : Nat} {xs3 : List (List Int)} {bs : List Ent} {E : Nat → List Ent} {D : Nat → Bool} {V : Nat → Value} {w : World} {w' : World} {av : Option Addr} {cp : Nat} {G : Nat → Nat} (hK : K6 wd wc wd2 a2 n2 c2 xs2 wd3 a3 n3 c3 xs3 bs E D V w) (hi : D 3 = false) (h1 : D 1 = true) (hw : wd.heap.size ≤ wc.heap.size)
    (hO : Sep w.heap.size w' (hdrE (.slice av n3 cp) n3 (rowsV xs3 G n3) :: rowsE xs3 G n3)) (hB : Below w.heap.size w w') :
    K6 wd wc wd2 a2 n2 c2 xs2 wd3 a3 n3 c3 xs3 bs (updE E 3 (hdrE (.slice av n3 cp) n3 (rowsV xs3 G n3) :: rowsE xs3 G n3)) (updD D 3) (updV V 3 (.agg #[.int .i64 wd3, .slice av n3 cp])) w' := by
  have hsz := hK.below.size
  have h6 : D 6 = false := by
    cases hD : D 6 with
    | false => rfl
    | true => have := hK.o63 hD; rw [hi] at this; cases this
  have h7 : D 7 = false := by
    cases hD : D 7 with
    | false => rfl
    | true => have := hK.o76 hD; rw [h6] at this; cases this
  have hS := hK.sep.put (i := 3) (by omega) (hK.n3 hi) (by omega) hB hO
  exact ⟨(by first | exact hK.v0 | exact fun _ => rfl | exact fun h => (nomatch (show true = false from h))), (by first | exact hK.v1 | exact fun _ => rfl | exact fun h => (nomatch (show true = false from h))), (by first | exact hK.v2 | exact fun _ => rfl | exact fun h => (nomatch (show true = false from h))), fun _ => ⟨av, cp, G, by simp [updV], by simp [updE]⟩, (by first | exact hK.v4 | exact fun _ => rfl | exact fun h => (nomatch (show true = false from h))), by have hh := hK.v5; simpa [updD, updV, updE, h7] using hh, (by first | exact hK.n1 | exact fun _ => rfl | exact fun h => (nomatch (show true = false from h))), (by first | exact hK.n3 | exact fun _ => rfl | exact fun h => (nomatch (show true = false from h))), (by first | exact hK.n4 | exact fun _ => rfl | exact fun h => (nomatch (show true = false from h))), (by first | exact hK.n5 | exact fun _ => rfl | exact fun h => (nomatch (show true = false from h))), by simp [updD, h1], (by first | exact hK.o63 | exact fun _ => rfl | exact fun h => (nomatch (show true = false from h))), (by first | exact hK.o76 | exact fun _ => rfl | exact fun h => (nomatch (show true = false from h))), (by first | exact hK.o64 | exact fun _ => rfl | exact fun h => (nomatch (show true = false from h))), (by first | exact hK.o65 | exact fun _ => rfl | exact fun h => (nomatch (show true = false from h))), (by first | exact hK.eb | exact fun _ => rfl | exact fun h => (nomatch (show true = false from h))), hK.below.trans (hB.mono (by omega)), hS⟩
theorem K6.up4 {wd wc : World} {wd2 : Int} {a2 : Option Addr} {n2 c2 : Nat} {xs2 : List (List Int)} {wd3 : Int} {a3 : Option Addr} {n3 c3 : Nat} {xs3 : List (List Int)} {bs : List Ent} {E : Nat → List Ent} {D : Nat → Bool} {V : Nat → Value} {w : World} (hK : K6 wd wc wd2 a2 n2 c2 xs2 wd3 a3 n3 c3 xs3 bs E D V w) (hi : D 4 = false) (hw : wd.heap.size ≤ wc.heap.size) :
    K6 wd wc wd2 a2 n2 c2 xs2 wd3 a3 n3 c3 xs3 bs (updE E 4 [sE 27 w.heap.size [.int .i64 0, .slice none 0 0]]) (updD D 4) (updV V 4 (.pointer (some ⟨w.heap.size, 0, none⟩))) (w.alloc (.cells #[.int .i64 0, .slice none 0 0] 27)) := by
  have hsz := hK.below.size
  have h6 : D 6 = false := by
    cases hD : D 6 with
    | false => rfl
    | true => have := hK.o64 hD; rw [hi] at this; cases this
  have hB : Below w.heap.size w (w.alloc (.cells #[.int .i64 0, .slice none 0 0] 27)) := (Below.refl _ _).alloc (Nat.le_refl _) _
  have hS := hK.sep.put (i := 4) (L := [sE 27 w.heap.size [.int .i64 0, .slice none 0 0]]) (by omega) (hK.n4 hi) (by omega) hB ⟨fun x hx => by
    rw [List.mem_singleton] at hx; subst hx; exact sE_new w _ (Nat.le_refl _) _ _, by simp⟩
  exact ⟨(by first | exact hK.v0 | exact fun _ => rfl | exact fun h => (nomatch (show true = false from h))), (by first | exact hK.v1 | exact fun _ => rfl | exact fun h => (nomatch (show true = false from h))), (by first | exact hK.v2 | exact fun _ => rfl | exact fun h => (nomatch (show true = false from h))), (by first | exact hK.v3 | exact fun _ => rfl | exact fun h => (nomatch (show true = false from h))), fun _ => ⟨w.heap.size, by simp [updV], by omega, by simp [updE, updD, h6]⟩, (by first | exact hK.v5 | exact fun _ => rfl | exact fun h => (nomatch (show true = false from h))), (by first | exact hK.n1 | exact fun _ => rfl | exact fun h => (nomatch (show true = false from h))), (by first | exact hK.n3 | exact fun _ => rfl | exact fun h => (nomatch (show true = false from h))), (by first | exact hK.n4 | exact fun _ => rfl | exact fun h => (nomatch (show true = false from h))), (by first | exact hK.n5 | exact fun _ => rfl | exact fun h => (nomatch (show true = false from h))), (by first | exact hK.o31 | exact fun _ => rfl | exact fun h => (nomatch (show true = false from h))), (by first | exact hK.o63 | exact fun _ => rfl | exact fun h => (nomatch (show true = false from h))), (by first | exact hK.o76 | exact fun _ => rfl | exact fun h => (nomatch (show true = false from h))), by simp [updD], (by first | exact hK.o65 | exact fun _ => rfl | exact fun h => (nomatch (show true = false from h))), (by first | exact hK.eb | exact fun _ => rfl | exact fun h => (nomatch (show true = false from h))), hK.below.trans (hB.mono (by omega)), hS⟩
theorem K6.up5 {wd wc : World} {wd2 : Int} {a2 : Option Addr} {n2 c2 : Nat} {xs2 : List (List Int)} {wd3 : Int} {a3 : Option Addr} {n3 c3 : Nat} {xs3 : List (List Int)} {bs : List Ent} {E : Nat → List Ent} {D : Nat → Bool} {V : Nat → Value} {w : World} (hK : K6 wd wc wd2 a2 n2 c2 xs2 wd3 a3 n3 c3 xs3 bs E D V w) (hi : D 5 = false) (hw : wd.heap.size ≤ wc.heap.size) :
    K6 wd wc wd2 a2 n2 c2 xs2 wd3 a3 n3 c3 xs3 bs (updE E 5 [sE 27 w.heap.size [.int .i64 0, .slice none 0 0]]) (updD D 5) (updV V 5 (.pointer (some ⟨w.heap.size, 0, none⟩))) (w.alloc (.cells #[.int .i64 0, .slice none 0 0] 27)) := by
  have hsz := hK.below.size
  have h7 : D 7 = false := by
    cases hD : D 7 with
    | false => rfl
    | true => have := hK.o65 hD; rw [hi] at this; cases this
  have hB : Below w.heap.size w (w.alloc (.cells #[.int .i64 0, .slice none 0 0] 27)) := (Below.refl _ _).alloc (Nat.le_refl _) _
  have hS := hK.sep.put (i := 5) (L := [sE 27 w.heap.size [.int .i64 0, .slice none 0 0]]) (by omega) (hK.n5 hi) (by omega) hB ⟨fun x hx => by
    rw [List.mem_singleton] at hx; subst hx; exact sE_new w _ (Nat.le_refl _) _ _, by simp⟩
  exact ⟨(by first | exact hK.v0 | exact fun _ => rfl | exact fun h => (nomatch (show true = false from h))), (by first | exact hK.v1 | exact fun _ => rfl | exact fun h => (nomatch (show true = false from h))), (by first | exact hK.v2 | exact fun _ => rfl | exact fun h => (nomatch (show true = false from h))), (by first | exact hK.v3 | exact fun _ => rfl | exact fun h => (nomatch (show true = false from h))), (by first | exact hK.v4 | exact fun _ => rfl | exact fun h => (nomatch (show true = false from h))), fun _ => ⟨w.heap.size, by simp [updV], by omega, by simp [updE, updD, h7]⟩, (by first | exact hK.n1 | exact fun _ => rfl | exact fun h => (nomatch (show true = false from h))), (by first | exact hK.n3 | exact fun _ => rfl | exact fun h => (nomatch (show true = false from h))), (by first | exact hK.n4 | exact fun _ => rfl | exact fun h => (nomatch (show true = false from h))), (by first | exact hK.n5 | exact fun _ => rfl | exact fun h => (nomatch (show true = false from h))), (by first | exact hK.o31 | exact fun _ => rfl | exact fun h => (nomatch (show true = false from h))), (by first | exact hK.o63 | exact fun _ => rfl | exact fun h => (nomatch (show true = false from h))), (by first | exact hK.o76 | exact fun _ => rfl | exact fun h => (nomatch (show true = false from h))), (by first | exact hK.o64 | exact fun _ => rfl | exact fun h => (nomatch (show true = false from h))), by simp [updD], (by first | exact hK.eb | exact fun _ => rfl | exact fun h => (nomatch (show true = false from h))), hK.below.trans (hB.mono (by omega)), hS⟩
theorem K6.up6 {wd wc : World} {wd2 : Int} {a2 : Option Addr} {n2 c2 : Nat} {xs2 : List (List Int)} {wd3 : Int} {a3 : Option Addr} {n3 c3 : Nat} {xs3 : List (List Int)} {bs : List Ent} {E : Nat → List Ent} {D : Nat → Bool} {V : Nat → Value} {w : World} {A : Nat} {av : Option Addr} {cp : Nat} (hK : K6 wd wc wd2 a2 n2 c2 xs2 wd3 a3 n3 c3 xs3 bs E D V w) (hi : D 6 = false) (h3 : D 3 = true) (h4 : D 4 = true) (hA : V 4 = .pointer (some ⟨A, 0, none⟩)) (h1 : V 1 = .agg #[.int .i64 wd2, .slice av n2 cp]) :
    (∀ k, w.frozen? ⟨A, k, none⟩ = false) ∧ w.cell? ⟨A, 0, none⟩ = some (.int .i64 0) ∧ w.cell? ⟨A, 1, none⟩ = some (.slice none 0 0) ∧ K6 wd wc wd2 a2 n2 c2 xs2 wd3 a3 n3 c3 xs3 bs (updE E 4 [sE 27 A [.int .i64 wd2, .slice av n2 cp]]) (updD D 6) (updV V 6 undef) ((w.setCell ⟨A, 0, none⟩ (.int .i64 wd2)).setCell ⟨A, 1, none⟩ (.slice av n2 cp)) := by
  have h7 : D 7 = false := by
    cases hD : D 7 with
    | false => rfl
    | true => have := hK.o76 hD; rw [hi] at this; cases this
  obtain ⟨A', hA', hle, hE⟩ := hK.v4 h4
  obtain rfl : A = A' := by rw [hA] at hA'; simpa using hA'
  simp only [hi, Bool.false_eq_true, if_false] at hE
  have hown := hK.sep.own (sE 27 A [.int .i64 0, .slice none 0 0]) (mem_flat (i := 4) (by omega) (by rw [hE]; simp))
  have hS1 := hK.sep.pokeS (i := 4) (by omega) hE 0 (.int .i64 wd2)
  have hS2 := hS1.pokeS (i := 4) (by omega) (updE_self _ _ _) 1 (.slice av n2 cp)
  have e : updE (updE E 4 [sE 27 A (List.set [.int .i64 0, .slice none 0 0] 0 (.int .i64 wd2))]) 4 [sE 27 A (List.set (List.set [.int .i64 0, .slice none 0 0] 0 (.int .i64 wd2)) 1 (.slice av n2 cp))] = updE E 4 [sE 27 A [.int .i64 wd2, .slice av n2 cp]] := by
    funext j; by_cases hj : j = 4 <;> simp [updE, hj]
  rw [e] at hS2
  refine ⟨fun k => World.ownsRow.frozenAt hown k, World.ownsRow.cellAt hown 0 (by show 0 < 1 * 2; omega), World.ownsRow.cellAt hown 1 (by show 1 < 1 * 2; omega), ?_⟩
  exact ⟨(by first | exact hK.v0 | exact fun _ => rfl | exact fun h => (nomatch (show true = false from h))), (by first | exact hK.v1 | exact fun _ => rfl | exact fun h => (nomatch (show true = false from h))), (by first | exact hK.v2 | exact fun _ => rfl | exact fun h => (nomatch (show true = false from h))), (by first | exact hK.v3 | exact fun _ => rfl | exact fun h => (nomatch (show true = false from h))), fun _ => ⟨A, by simpa [updV] using hA, hle, by simp [updE, updD, updV, h1, tcells]⟩, by have hh := hK.v5; simpa [updD, updV, updE, h7] using hh, (by first | exact hK.n1 | exact fun _ => rfl | exact fun h => (nomatch (show true = false from h))), (by first | exact hK.n3 | exact fun _ => rfl | exact fun h => (nomatch (show true = false from h))), by intro hh; simp [updD, h4] at hh, (by first | exact hK.n5 | exact fun _ => rfl | exact fun h => (nomatch (show true = false from h))), (by first | exact hK.o31 | exact fun _ => rfl | exact fun h => (nomatch (show true = false from h))), by simp [updD, h3], (by first | exact hK.o76 | exact fun _ => rfl | exact fun h => (nomatch (show true = false from h))), by simp [updD, h4], (by first | exact hK.o65 | exact fun _ => rfl | exact fun h => (nomatch (show true = false from h))), (by first | exact hK.eb | exact fun _ => rfl | exact fun h => (nomatch (show true = false from h))), (hK.below.setCell (by exact hle) _).setCell (by exact hle) _, hS2⟩
theorem K6.up7 {wd wc : World} {wd2 : Int} {a2 : Option Addr} {n2 c2 : Nat} {xs2 : List (List Int)} {wd3 : Int} {a3 : Option Addr} {n3 c3 : Nat} {xs3 : List (List Int)} {bs : List Ent} {E : Nat → List Ent} {D : Nat → Bool} {V : Nat → Value} {w : World} {A : Nat} {av : Option Addr} {cp : Nat} (hK : K6 wd wc wd2 a2 n2 c2 xs2 wd3 a3 n3 c3 xs3 bs E D V w) (hi : D 7 = false) (h3 : D 6 = true) (h4 : D 5 = true) (hA : V 5 = .pointer (some ⟨A, 0, none⟩)) (h1 : V 3 = .agg #[.int .i64 wd3, .slice av n3 cp]) :
    (∀ k, w.frozen? ⟨A, k, none⟩ = false) ∧ w.cell? ⟨A, 0, none⟩ = some (.int .i64 0) ∧ w.cell? ⟨A, 1, none⟩ = some (.slice none 0 0) ∧ K6 wd wc wd2 a2 n2 c2 xs2 wd3 a3 n3 c3 xs3 bs (updE E 5 [sE 27 A [.int .i64 wd3, .slice av n3 cp]]) (updD D 7) (updV V 7 undef) ((w.setCell ⟨A, 0, none⟩ (.int .i64 wd3)).setCell ⟨A, 1, none⟩ (.slice av n3 cp)) := by
  obtain ⟨A', hA', hle, hE⟩ := hK.v5 h4
  obtain rfl : A = A' := by rw [hA] at hA'; simpa using hA'
  simp only [hi, Bool.false_eq_true, if_false] at hE
  have hown := hK.sep.own (sE 27 A [.int .i64 0, .slice none 0 0]) (mem_flat (i := 5) (by omega) (by rw [hE]; simp))
  have hS1 := hK.sep.pokeS (i := 5) (by omega) hE 0 (.int .i64 wd3)
  have hS2 := hS1.pokeS (i := 5) (by omega) (updE_self _ _ _) 1 (.slice av n3 cp)
  have e : updE (updE E 5 [sE 27 A (List.set [.int .i64 0, .slice none 0 0] 0 (.int .i64 wd3))]) 5 [sE 27 A (List.set (List.set [.int .i64 0, .slice none 0 0] 0 (.int .i64 wd3)) 1 (.slice av n3 cp))] = updE E 5 [sE 27 A [.int .i64 wd3, .slice av n3 cp]] := by
    funext j; by_cases hj : j = 5 <;> simp [updE, hj]
  rw [e] at hS2
  refine ⟨fun k => World.ownsRow.frozenAt hown k, World.ownsRow.cellAt hown 0 (by show 0 < 1 * 2; omega), World.ownsRow.cellAt hown 1 (by show 1 < 1 * 2; omega), ?_⟩
  exact ⟨(by first | exact hK.v0 | exact fun _ => rfl | exact fun h => (nomatch (show true = false from h))), (by first | exact hK.v1 | exact fun _ => rfl | exact fun h => (nomatch (show true = false from h))), (by first | exact hK.v2 | exact fun _ => rfl | exact fun h => (nomatch (show true = false from h))), (by first | exact hK.v3 | exact fun _ => rfl | exact fun h => (nomatch (show true = false from h))), (by first | exact hK.v4 | exact fun _ => rfl | exact fun h => (nomatch (show true = false from h))), fun _ => ⟨A, by simpa [updV] using hA, hle, by simp [updE, updD, updV, h1, tcells]⟩, (by first | exact hK.n1 | exact fun _ => rfl | exact fun h => (nomatch (show true = false from h))), (by first | exact hK.n3 | exact fun _ => rfl | exact fun h => (nomatch (show true = false from h))), (by first | exact hK.n4 | exact fun _ => rfl | exact fun h => (nomatch (show true = false from h))), by intro hh; simp [updD, h4] at hh, (by first | exact hK.o31 | exact fun _ => rfl | exact fun h => (nomatch (show true = false from h))), (by first | exact hK.o63 | exact fun _ => rfl | exact fun h => (nomatch (show true = false from h))), by simp [updD, h3], (by first | exact hK.o64 | exact fun _ => rfl | exact fun h => (nomatch (show true = false from h))), by simp [updD, h4], (by first | exact hK.eb | exact fun _ => rfl | exact fun h => (nomatch (show true = false from h))), (hK.below.setCell (by exact hle) _).setCell (by exact hle) _, hS2⟩
structure K7 (wd wc : World) (kk4 lo4 : Int) (a4 : Option Addr) (n4 c4 : Nat) (kk5 lo5 : Int) (a5 : Option Addr) (n5 c5 : Nat) (bs : List Ent) (E : Nat → List Ent) (D : Nat → Bool) (V : Nat → Value) (w : World) : Prop where
  v0 : D 0 = true → V 0 = .agg #[.int .i64 kk4, .int .i64 lo4, .slice a4 n4 c4]
  v1 : D 1 = true → V 1 = .agg #[.int .i64 kk5, .int .i64 lo5, .slice a5 n5 c5]
  v2 : D 2 = true → ∃ A, V 2 = .pointer (some ⟨A, 0, none⟩) ∧ wd.heap.size ≤ A ∧ E 2 = [sE 30 A (if D 4 then scells (V 0) else [.int .i64 0, .int .i64 0, .slice none 0 0])]
  v3 : D 3 = true → ∃ A, V 3 = .pointer (some ⟨A, 0, none⟩) ∧ wd.heap.size ≤ A ∧ E 3 = [sE 30 A (if D 5 then scells (V 1) else [.int .i64 0, .int .i64 0, .slice none 0 0])]
  n2 : D 2 = false → E 2 = []
  n3 : D 3 = false → E 3 = []
  o4_2 : D 4 = true → D 2 = true
  o4_0 : D 4 = true → D 0 = true
  o5_4 : D 5 = true → D 4 = true
  o5_3 : D 5 = true → D 3 = true
  o5_1 : D 5 = true → D 1 = true
  eb : E 6 = bs
  below : Below wd.heap.size wc w
  sep : Sep wd.heap.size w (flat E 7)
theorem K7.start {wd wc : World} {kk4 lo4 : Int} {a4 : Option Addr} {n4 c4 : Nat} {kk5 lo5 : Int} {a5 : Option Addr} {n5 c5 : Nat} {bs : List Ent} (hS : Sep wd.heap.size wc bs) : K7 wd wc kk4 lo4 a4 n4 c4 kk5 lo5 a5 n5 c5 bs (fun i => if i = 6 then bs else []) (fun _ => false) (fun _ => undef) wc.drew := by
  refine ⟨?_, ?_, ?_, ?_, fun _ => rfl, fun _ => rfl, ?_, ?_, ?_, ?_, ?_, rfl, (Below.refl _ _).drew, ?_⟩
  all_goals try (intro hh; cases hh)
  simpa [flat] using hS.drew
theorem K7.up0 {wd wc : World} {kk4 lo4 : Int} {a4 : Option Addr} {n4 c4 : Nat} {kk5 lo5 : Int} {a5 : Option Addr} {n5 c5 : Nat} {bs : List Ent} {E : Nat → List Ent} {D : Nat → Bool} {V : Nat → Value} {w : World} (hK : K7 wd wc kk4 lo4 a4 n4 c4 kk5 lo5 a5 n5 c5 bs E D V w) (hi : D 0 = false) : K7 wd wc kk4 lo4 a4 n4 c4 kk5 lo5 a5 n5 c5 bs E (updD D 0) (updV V 0 (.agg #[.int .i64 kk4, .int .i64 lo4, .slice a4 n4 c4])) w := by
  have h4 : D 4 = false := by
    cases hD : D 4 with
    | false => rfl
    | true => have := hK.o4_0 hD; rw [hi] at this; cases this
  have h5 : D 5 = false := by
    cases hD : D 5 with
    | false => rfl
    | true => have := hK.o5_4 hD; rw [h4] at this; cases this
  exact ⟨fun _ => by simp [updV], (by first | exact hK.v1 | exact fun _ => rfl | exact fun h => (nomatch (show true = false from h))), by have hh := hK.v2; simpa [updD, updV, updE, h4, h5] using hh, by have hh := hK.v3; simpa [updD, updV, updE, h4, h5] using hh, (by first | exact hK.n2 | exact fun _ => rfl | exact fun h => (nomatch (show true = false from h))), (by first | exact hK.n3 | exact fun _ => rfl | exact fun h => (nomatch (show true = false from h))), (by first | exact hK.o4_2 | exact fun _ => rfl | exact fun h => (nomatch (show true = false from h))), (by first | exact hK.o4_0 | exact fun _ => rfl | exact fun h => (nomatch (show true = false from h))), (by first | exact hK.o5_4 | exact fun _ => rfl | exact fun h => (nomatch (show true = false from h))), (by first | exact hK.o5_3 | exact fun _ => rfl | exact fun h => (nomatch (show true = false from h))), (by first | exact hK.o5_1 | exact fun _ => rfl | exact fun h => (nomatch (show true = false from h))), (by first | exact hK.eb | exact fun _ => rfl | exact fun h => (nomatch (show true = false from h))), (by first | exact hK.below | exact fun _ => rfl | exact fun h => (nomatch (show true = false from h))), (by first | exact hK.sep | exact fun _ => rfl | exact fun h => (nomatch (show true = false from h)))⟩
theorem K7.up1 {wd wc : World} {kk4 lo4 : Int} {a4 : Option Addr} {n4 c4 : Nat} {kk5 lo5 : Int} {a5 : Option Addr} {n5 c5 : Nat} {bs : List Ent} {E : Nat → List Ent} {D : Nat → Bool} {V : Nat → Value} {w : World} (hK : K7 wd wc kk4 lo4 a4 n4 c4 kk5 lo5 a5 n5 c5 bs E D V w) (hi : D 1 = false) : K7 wd wc kk4 lo4 a4 n4 c4 kk5 lo5 a5 n5 c5 bs E (updD D 1) (updV V 1 (.agg #[.int .i64 kk5, .int .i64 lo5, .slice a5 n5 c5])) w := by
  have h5 : D 5 = false := by
    cases hD : D 5 with
    | false => rfl
    | true => have := hK.o5_1 hD; rw [hi] at this; cases this
  exact ⟨(by first | exact hK.v0 | exact fun _ => rfl | exact fun h => (nomatch (show true = false from h))), fun _ => by simp [updV], (by first | exact hK.v2 | exact fun _ => rfl | exact fun h => (nomatch (show true = false from h))), by have hh := hK.v3; simpa [updD, updV, updE, h5] using hh, (by first | exact hK.n2 | exact fun _ => rfl | exact fun h => (nomatch (show true = false from h))), (by first | exact hK.n3 | exact fun _ => rfl | exact fun h => (nomatch (show true = false from h))), (by first | exact hK.o4_2 | exact fun _ => rfl | exact fun h => (nomatch (show true = false from h))), (by first | exact hK.o4_0 | exact fun _ => rfl | exact fun h => (nomatch (show true = false from h))), (by first | exact hK.o5_4 | exact fun _ => rfl | exact fun h => (nomatch (show true = false from h))), (by first | exact hK.o5_3 | exact fun _ => rfl | exact fun h => (nomatch (show true = false from h))), (by first | exact hK.o5_1 | exact fun _ => rfl | exact fun h => (nomatch (show true = false from h))), (by first | exact hK.eb | exact fun _ => rfl | exact fun h => (nomatch (show true = false from h))), (by first | exact hK.below | exact fun _ => rfl | exact fun h => (nomatch (show true = false from h))), (by first | exact hK.sep | exact fun _ => rfl | exact fun h => (nomatch (show true = false from h)))⟩
theorem K7.up2 {wd wc : World} {kk4 lo4 : Int} {a4 : Option Addr} {n4 c4 : Nat} {kk5 lo5 : Int} {a5 : Option Addr} {n5 c5 : Nat} {bs : List Ent} {E : Nat → List Ent} {D : Nat → Bool} {V : Nat → Value} {w : World} (hK : K7 wd wc kk4 lo4 a4 n4 c4 kk5 lo5 a5 n5 c5 bs E D V w) (hi : D 2 = false) (hw : wd.heap.size ≤ wc.heap.size) :
    K7 wd wc kk4 lo4 a4 n4 c4 kk5 lo5 a5 n5 c5 bs (updE E 2 [sE 30 w.heap.size [.int .i64 0, .int .i64 0, .slice none 0 0]]) (updD D 2) (updV V 2 (.pointer (some ⟨w.heap.size, 0, none⟩))) (w.alloc (.cells #[.int .i64 0, .int .i64 0, .slice none 0 0] 30)) := by
  have hsz := hK.below.size
  have h4 : D 4 = false := by
    cases hD : D 4 with
    | false => rfl
    | true => have := hK.o4_2 hD; rw [hi] at this; cases this
  have h5 : D 5 = false := by
    cases hD : D 5 with
    | false => rfl
    | true => have := hK.o5_4 hD; rw [h4] at this; cases this
  have hB : Below w.heap.size w (w.alloc (.cells #[.int .i64 0, .int .i64 0, .slice none 0 0] 30)) := (Below.refl _ _).alloc (Nat.le_refl _) _
  have hS := hK.sep.put (i := 2) (L := [sE 30 w.heap.size [.int .i64 0, .int .i64 0, .slice none 0 0]]) (by omega) (hK.n2 hi) (by omega) hB ⟨fun x hx => by
    rw [List.mem_singleton] at hx; subst hx; exact sE_new w _ (Nat.le_refl _) _ _, by simp⟩
  exact ⟨(by first | exact hK.v0 | exact fun _ => rfl | exact fun h => (nomatch (show true = false from h))), (by first | exact hK.v1 | exact fun _ => rfl | exact fun h => (nomatch (show true = false from h))), fun _ => ⟨w.heap.size, by simp [updV], by omega, by simp [updE, updD, h4]⟩, by have hh := hK.v3; simpa [updD, updV, updE, h4, h5] using hh, (by first | exact hK.n2 | exact fun _ => rfl | exact fun h => (nomatch (show true = false from h))), (by first | exact hK.n3 | exact fun _ => rfl | exact fun h => (nomatch (show true = false from h))), (by first | exact hK.o4_2 | exact fun _ => rfl | exact fun h => (nomatch (show true = false from h))), (by first | exact hK.o4_0 | exact fun _ => rfl | exact fun h => (nomatch (show true = false from h))), (by first | exact hK.o5_4 | exact fun _ => rfl | exact fun h => (nomatch (show true = false from h))), (by first | exact hK.o5_3 | exact fun _ => rfl | exact fun h => (nomatch (show true = false from h))), (by first | exact hK.o5_1 | exact fun _ => rfl | exact fun h => (nomatch (show true = false from h))), (by first | exact hK.eb | exact fun _ => rfl | exact fun h => (nomatch (show true = false from h))), hK.below.trans (hB.mono (by omega)), hS⟩
theorem K7.up3 {wd wc : World} {kk4 lo4 : Int} {a4 : Option Addr} {n4 c4 : Nat} {kk5 lo5 : Int} {a5 : Option Addr} {n5 c5 : Nat} {bs : List Ent} {E : Nat → List Ent} {D : Nat → Bool} {V : Nat → Value} {w : World} (hK : K7 wd wc kk4 lo4 a4 n4 c4 kk5 lo5 a5 n5 c5 bs E D V w) (hi : D 3 = false) (hw : wd.heap.size ≤ wc.heap.size) :
    K7 wd wc kk4 lo4 a4 n4 c4 kk5 lo5 a5 n5 c5 bs (updE E 3 [sE 30 w.heap.size [.int .i64 0, .int .i64 0, .slice none 0 0]]) (updD D 3) (updV V 3 (.pointer (some ⟨w.heap.size, 0, none⟩))) (w.alloc (.cells #[.int .i64 0, .int .i64 0, .slice none 0 0] 30)) := by
  have hsz := hK.below.size
  have h5 : D 5 = false := by
    cases hD : D 5 with
    | false => rfl
    | true => have := hK.o5_3 hD; rw [hi] at this; cases this
  have hB : Below w.heap.size w (w.alloc (.cells #[.int .i64 0, .int .i64 0, .slice none 0 0] 30)) := (Below.refl _ _).alloc (Nat.le_refl _) _
  have hS := hK.sep.put (i := 3) (L := [sE 30 w.heap.size [.int .i64 0, .int .i64 0, .slice none 0 0]]) (by omega) (hK.n3 hi) (by omega) hB ⟨fun x hx => by
    rw [List.mem_singleton] at hx; subst hx; exact sE_new w _ (Nat.le_refl _) _ _, by simp⟩
  exact ⟨(by first | exact hK.v0 | exact fun _ => rfl | exact fun h => (nomatch (show true = false from h))), (by first | exact hK.v1 | exact fun _ => rfl | exact fun h => (nomatch (show true = false from h))), (by first | exact hK.v2 | exact fun _ => rfl | exact fun h => (nomatch (show true = false from h))), fun _ => ⟨w.heap.size, by simp [updV], by omega, by simp [updE, updD, h5]⟩, (by first | exact hK.n2 | exact fun _ => rfl | exact fun h => (nomatch (show true = false from h))), (by first | exact hK.n3 | exact fun _ => rfl | exact fun h => (nomatch (show true = false from h))), (by first | exact hK.o4_2 | exact fun _ => rfl | exact fun h => (nomatch (show true = false from h))), (by first | exact hK.o4_0 | exact fun _ => rfl | exact fun h => (nomatch (show true = false from h))), (by first | exact hK.o5_4 | exact fun _ => rfl | exact fun h => (nomatch (show true = false from h))), (by first | exact hK.o5_3 | exact fun _ => rfl | exact fun h => (nomatch (show true = false from h))), (by first | exact hK.o5_1 | exact fun _ => rfl | exact fun h => (nomatch (show true = false from h))), (by first | exact hK.eb | exact fun _ => rfl | exact fun h => (nomatch (show true = false from h))), hK.below.trans (hB.mono (by omega)), hS⟩
theorem K7.up4 {wd wc : World} {kk4 lo4 : Int} {a4 : Option Addr} {n4 c4 : Nat} {kk5 lo5 : Int} {a5 : Option Addr} {n5 c5 : Nat} {bs : List Ent} {E : Nat → List Ent} {D : Nat → Bool} {V : Nat → Value} {w : World} {A : Nat}  (hK : K7 wd wc kk4 lo4 a4 n4 c4 kk5 lo5 a5 n5 c5 bs E D V w) (hi : D 4 = false) (g2 : D 2 = true) (g0 : D 0 = true) (hA : V 2 = .pointer (some ⟨A, 0, none⟩)) (h1 : V 0 = .agg #[.int .i64 kk4, .int .i64 lo4, .slice a4 n4 c4]) :
    (∀ k, w.frozen? ⟨A, k, none⟩ = false) ∧ w.cell? ⟨A, 0, none⟩ = some (.int .i64 0) ∧ w.cell? ⟨A, 1, none⟩ = some (.int .i64 0) ∧ w.cell? ⟨A, 2, none⟩ = some (.slice none 0 0) ∧ K7 wd wc kk4 lo4 a4 n4 c4 kk5 lo5 a5 n5 c5 bs (updE E 2 [sE 30 A [.int .i64 kk4, .int .i64 lo4, .slice a4 n4 c4]]) (updD D 4) (updV V 4 undef) (((w.setCell ⟨A, 0, none⟩ (.int .i64 kk4)).setCell ⟨A, 1, none⟩ (.int .i64 lo4)).setCell ⟨A, 2, none⟩ (.slice a4 n4 c4)) := by
  have h5 : D 5 = false := by
    cases hD : D 5 with
    | false => rfl
    | true => have := hK.o5_4 hD; rw [hi] at this; cases this
  obtain ⟨A', hA', hle, hE⟩ := hK.v2 g2
  obtain rfl : A = A' := by rw [hA] at hA'; simpa using hA'
  simp only [hi, Bool.false_eq_true, if_false] at hE
  have hown := hK.sep.own (sE 30 A [.int .i64 0, .int .i64 0, .slice none 0 0]) (mem_flat (i := 2) (by omega) (by rw [hE]; simp))
  have hS0 := hK.sep.pokeS (i := 2) (by omega) hE 0 (.int .i64 kk4)
  have hS1 := hS0.pokeS (i := 2) (by omega) (updE_self _ _ _) 1 (.int .i64 lo4)
  have hS2 := hS1.pokeS (i := 2) (by omega) (updE_self _ _ _) 2 (.slice a4 n4 c4)
  have e : (updE (updE (updE E 2 [sE 30 A (List.set [.int .i64 0, .int .i64 0, .slice none 0 0] 0 (.int .i64 kk4))]) 2 [sE 30 A (List.set (List.set [.int .i64 0, .int .i64 0, .slice none 0 0] 0 (.int .i64 kk4)) 1 (.int .i64 lo4))]) 2 [sE 30 A (List.set (List.set (List.set [.int .i64 0, .int .i64 0, .slice none 0 0] 0 (.int .i64 kk4)) 1 (.int .i64 lo4)) 2 (.slice a4 n4 c4))]) = updE E 2 [sE 30 A [.int .i64 kk4, .int .i64 lo4, .slice a4 n4 c4]] := by
    funext j; by_cases hj : j = 2 <;> simp [updE, hj]
  have hS' := hS2
  rw [e] at hS'
  refine ⟨fun k => World.ownsRow.frozenAt hown k, World.ownsRow.cellAt hown 0 (by show 0 < 1 * 3; omega), World.ownsRow.cellAt hown 1 (by show 1 < 1 * 3; omega), World.ownsRow.cellAt hown 2 (by show 2 < 1 * 3; omega), ?_⟩
  exact ⟨(by first | exact hK.v0 | exact fun _ => rfl | exact fun h => (nomatch (show true = false from h))), (by first | exact hK.v1 | exact fun _ => rfl | exact fun h => (nomatch (show true = false from h))), fun _ => ⟨A, by simpa [updV] using hA, hle, by simp [updE, updD, updV, h1, scells]⟩, by have hh := hK.v3; simpa [updD, updV, updE, h5] using hh, by intro hh; simp [updD, g2] at hh, (by first | exact hK.n3 | exact fun _ => rfl | exact fun h => (nomatch (show true = false from h))), by simp [updD, g2], by simp [updD, g0], (by first | exact hK.o5_4 | exact fun _ => rfl | exact fun h => (nomatch (show true = false from h))), (by first | exact hK.o5_3 | exact fun _ => rfl | exact fun h => (nomatch (show true = false from h))), (by first | exact hK.o5_1 | exact fun _ => rfl | exact fun h => (nomatch (show true = false from h))), (by first | exact hK.eb | exact fun _ => rfl | exact fun h => (nomatch (show true = false from h))), (((hK.below.setCell (by exact hle) _).setCell (by exact hle) _).setCell (by exact hle) _), hS'⟩
theorem K7.up5 {wd wc : World} {kk4 lo4 : Int} {a4 : Option Addr} {n4 c4 : Nat} {kk5 lo5 : Int} {a5 : Option Addr} {n5 c5 : Nat} {bs : List Ent} {E : Nat → List Ent} {D : Nat → Bool} {V : Nat → Value} {w : World} {A : Nat}  (hK : K7 wd wc kk4 lo4 a4 n4 c4 kk5 lo5 a5 n5 c5 bs E D V w) (hi : D 5 = false) (g4 : D 4 = true) (g3 : D 3 = true) (g1 : D 1 = true) (hA : V 3 = .pointer (some ⟨A, 0, none⟩)) (h1 : V 1 = .agg #[.int .i64 kk5, .int .i64 lo5, .slice a5 n5 c5]) :
    (∀ k, w.frozen? ⟨A, k, none⟩ = false) ∧ w.cell? ⟨A, 0, none⟩ = some (.int .i64 0) ∧ w.cell? ⟨A, 1, none⟩ = some (.int .i64 0) ∧ w.cell? ⟨A, 2, none⟩ = some (.slice none 0 0) ∧ K7 wd wc kk4 lo4 a4 n4 c4 kk5 lo5 a5 n5 c5 bs (updE E 3 [sE 30 A [.int .i64 kk5, .int .i64 lo5, .slice a5 n5 c5]]) (updD D 5) (updV V 5 undef) (((w.setCell ⟨A, 0, none⟩ (.int .i64 kk5)).setCell ⟨A, 1, none⟩ (.int .i64 lo5)).setCell ⟨A, 2, none⟩ (.slice a5 n5 c5)) := by
  obtain ⟨A', hA', hle, hE⟩ := hK.v3 g3
  obtain rfl : A = A' := by rw [hA] at hA'; simpa using hA'
  simp only [hi, Bool.false_eq_true, if_false] at hE
  have hown := hK.sep.own (sE 30 A [.int .i64 0, .int .i64 0, .slice none 0 0]) (mem_flat (i := 3) (by omega) (by rw [hE]; simp))
  have hS0 := hK.sep.pokeS (i := 3) (by omega) hE 0 (.int .i64 kk5)
  have hS1 := hS0.pokeS (i := 3) (by omega) (updE_self _ _ _) 1 (.int .i64 lo5)
  have hS2 := hS1.pokeS (i := 3) (by omega) (updE_self _ _ _) 2 (.slice a5 n5 c5)
  have e : (updE (updE (updE E 3 [sE 30 A (List.set [.int .i64 0, .int .i64 0, .slice none 0 0] 0 (.int .i64 kk5))]) 3 [sE 30 A (List.set (List.set [.int .i64 0, .int .i64 0, .slice none 0 0] 0 (.int .i64 kk5)) 1 (.int .i64 lo5))]) 3 [sE 30 A (List.set (List.set (List.set [.int .i64 0, .int .i64 0, .slice none 0 0] 0 (.int .i64 kk5)) 1 (.int .i64 lo5)) 2 (.slice a5 n5 c5))]) = updE E 3 [sE 30 A [.int .i64 kk5, .int .i64 lo5, .slice a5 n5 c5]] := by
    funext j; by_cases hj : j = 3 <;> simp [updE, hj]
  have hS' := hS2
  rw [e] at hS'
  refine ⟨fun k => World.ownsRow.frozenAt hown k, World.ownsRow.cellAt hown 0 (by show 0 < 1 * 3; omega), World.ownsRow.cellAt hown 1 (by show 1 < 1 * 3; omega), World.ownsRow.cellAt hown 2 (by show 2 < 1 * 3; omega), ?_⟩
  exact ⟨(by first | exact hK.v0 | exact fun _ => rfl | exact fun h => (nomatch (show true = false from h))), (by first | exact hK.v1 | exact fun _ => rfl | exact fun h => (nomatch (show true = false from h))), (by first | exact hK.v2 | exact fun _ => rfl | exact fun h => (nomatch (show true = false from h))), fun _ => ⟨A, by simpa [updV] using hA, hle, by simp [updE, updD, updV, h1, scells]⟩, (by first | exact hK.n2 | exact fun _ => rfl | exact fun h => (nomatch (show true = false from h))), by intro hh; simp [updD, g3] at hh, (by first | exact hK.o4_2 | exact fun _ => rfl | exact fun h => (nomatch (show true = false from h))), (by first | exact hK.o4_0 | exact fun _ => rfl | exact fun h => (nomatch (show true = false from h))), by simp [updD, g4], by simp [updD, g3], by simp [updD, g1], (by first | exact hK.eb | exact fun _ => rfl | exact fun h => (nomatch (show true = false from h))), (((hK.below.setCell (by exact hle) _).setCell (by exact hle) _).setCell (by exact hle) _), hS'⟩
set_option maxHeartbeats 16000000 in
theorem walk (sz0 wy0 : Int) (a0 : Option Addr) (n0 c0 : Nat) (bs0 : List Bool) (sz1 wy1 : Int) (a1 : Option Addr) (n1 c1 : Nat) (bs1 : List Bool)
    (wd2 : Int) (a2 : Option Addr) (n2 c2 : Nat) (xs2 : List (List Int)) (wd3 : Int) (a3 : Option Addr) (n3 c3 : Nat) (xs3 : List (List Int))
    (kk4 lo4 : Int) (a4 : Option Addr) (n4 c4 : Nat) (L4 : List (Int × Int)) (kk5 lo5 : Int) (a5 : Option Addr) (n5 c5 : Nat) (L5 : List (Int × Int)) (key nn : Int) (w : World)
    (w0 : BoolsAt w a0 n0 c0 bs0) (w1 : BoolsAt w a1 n1 c1 bs1) (w2 : RowsZ w a2 n2 c2 xs2) (w3 : RowsZ w a3 n3 c3 xs3) (w4 : CntAt w a4 n4 c4 L4) (w5 : CntAt w a5 n5 c5 L5)
    (z0 : a0 = none → c0 = 0) (z1 : a1 = none → c1 = 0) (z4 : a4 = none → c4 = 0) (z5 : a5 = none → c5 = 0)
    (s0 : n0 ≤ 1048576) (s1 : n1 ≤ 1048576) (s2 : n2 ≤ 1048576) (s3 : n3 ≤ 1048576) (s4 : n4 ≤ 1048576) (s5 : n5 ≤ 1048576) :
    Calls Try.prog 3 #[filtV sz0 wy0 a0 n0 c0, filtV sz1 wy1 a1 n1 c1, tabV wd2 a2 n2 c2, tabV wd3 a3 n3 c3, fewV kk4 lo4 a4 n4 c4, fewV kk5 lo5 a5 n5 c5, .int .i64 key, .int .i64 nn] w fun e w' => e = .returned (.bool true) ∧ Below w.heap.size w w' := by
  have H0 := hidp w0
  have H1 := hidp w1
  have H2 := hidp w2
  have H3 := hidp w3
  have H4 := hidp w4
  have H5 := hidp w5
  have Z := hidp (And.intro z0 (And.intro z1 (And.intro z4 z5)))
  have P1 := hidp (show ∀ W, Calls Try.prog 4 #[.agg #[.int .i64 1, .int .i64 0, .slice none 0 0], .int .i64 5, .int .i64 2] W (fun e w' => (∃ a' n' c', e = .returned (.tuple #[.agg #[.int .i64 1, .int .i64 0, .slice a' n' c'], .int .i64 0]) ∧ w'.ownsRow W.heap.size 36 2 (.slice a' n' c') n' (cntV [(5, 2)])) ∧ Below W.heap.size W w') from fun W => by
    refine (fput_c 1 (0, []) none 0 0 5 2 W (cnt_nil W) ⟨by omega, by omega, by omega, by omega, by simp, List.Pairwise.nil, fun p hp => by simp at hp, fun p hp => by simp at hp⟩ (by omega)).mono ?_
    have e1 : fput 1 (0, []) 5 2 = (0, [(5, 2)]) := by decide
    rw [e1]
    rintro e w' ⟨⟨_, a', n', c', rfl, hO⟩ | ⟨hn, _⟩, hB⟩
    · exact ⟨⟨a', n', c', rfl, hO⟩, hB⟩
    · exact absurd ⟨by omega, by omega, by omega, by omega, by simp, by simp [KRise], fun p hp => by simp at hp; subst hp; simp, fun p hp => by simp at hp; subst hp; simp⟩ hn)
  clear w0 w1 w2 w3 w4 w5 z0 z1 z4 z5
  unfold filtV tabV fewV at *
  go_enter Try.func3, Try.ntmps3
  go_wp2_with fail
  obtain ⟨wb, hwb⟩ : ∃ wb, wb = ((((((w.alloc (.cells #[.int .i64 sz0, .int .i64 wy0, .slice a0 n0 c0] 24)).alloc (.cells #[.int .i64 sz1, .int .i64 wy1, .slice a1 n1 c1] 24)).alloc (.cells #[.int .i64 wd2, .slice a2 n2 c2] 27)).alloc (.cells #[.int .i64 wd3, .slice a3 n3 c3] 27)).alloc (.cells #[.int .i64 kk4, .int .i64 lo4, .slice a4 n4 c4] 30)).alloc (.cells #[.int .i64 kk5, .int .i64 lo5, .slice a5 n5 c5] 30)) := ⟨_, rfl⟩
  have hbb : Below w.heap.size w wb := by rw [hwb]; exact bal (bal (bal (bal (bal (bal (Below.refl _ _) _) _) _) _) _) _
  have BX := hidp (show Boxes (w.heap.size + 1 + 1 + 1 + 1 + 1 + 1) [(w.heap.size, 0, .int .i64 sz0), (w.heap.size, 1, .int .i64 wy0), (w.heap.size, 2, .slice a0 n0 c0), (w.heap.size + 1, 0, .int .i64 sz1), (w.heap.size + 1, 1, .int .i64 wy1), (w.heap.size + 1, 2, .slice a1 n1 c1),
      (w.heap.size + 1 + 1, 0, .int .i64 wd2), (w.heap.size + 1 + 1, 1, .slice a2 n2 c2), (w.heap.size + 1 + 1 + 1, 0, .int .i64 wd3), (w.heap.size + 1 + 1 + 1, 1, .slice a3 n3 c3), (w.heap.size + 1 + 1 + 1 + 1, 0, .int .i64 kk4), (w.heap.size + 1 + 1 + 1 + 1, 1, .int .i64 lo4), (w.heap.size + 1 + 1 + 1 + 1, 2, .slice a4 n4 c4),
      (w.heap.size + 1 + 1 + 1 + 1 + 1, 0, .int .i64 kk5), (w.heap.size + 1 + 1 + 1 + 1 + 1, 1, .int .i64 lo5), (w.heap.size + 1 + 1 + 1 + 1 + 1, 2, .slice a5 n5 c5)] wb from by
    rw [hwb]
    refine ⟨by simp, fun b o v hm => ?_⟩
    simp only [List.mem_cons, Prod.mk.injEq, List.not_mem_nil, or_false] at hm
    rcases hm with ⟨rfl, rfl, rfl⟩ | ⟨rfl, rfl, rfl⟩ | ⟨rfl, rfl, rfl⟩ | ⟨rfl, rfl, rfl⟩ | ⟨rfl, rfl, rfl⟩ | ⟨rfl, rfl, rfl⟩ | ⟨rfl, rfl, rfl⟩ | ⟨rfl, rfl, rfl⟩ | ⟨rfl, rfl, rfl⟩ | ⟨rfl, rfl, rfl⟩ | ⟨rfl, rfl, rfl⟩ | ⟨rfl, rfl, rfl⟩ | ⟨rfl, rfl, rfl⟩ | ⟨rfl, rfl, rfl⟩ | ⟨rfl, rfl, rfl⟩ | ⟨rfl, rfl, rfl⟩
    all_goals exact ⟨by omega, by go_simp⟩)
  rw [← hwb]
  clear hwb
  refine (P1.out wb).mono ?_
  rintro e wc ⟨⟨a6, n6, c6, rfl, hO⟩, hb⟩
  have hbc := bstep hbb hb
  have BXc := hidp (BX.out.below hb)
  obtain ⟨av, cv, hv, hI⟩ := owns_cnts hO
  simp only [Value.slice.injEq] at hv
  obtain ⟨rfl, _, rfl⟩ := hv
  have hn6 : n6 = 1 := by have := hI.len; simp at this; omega
  subst hn6
  have EQ := hidp (eqcc_c a6 (some ⟨wc.heap.size + 1, 0, none⟩) 1 c6 1 [(5, 2)] ((wc.alloc (.cells #[.int .i64 1, .int .i64 0, .slice a6 1 c6] 30)).alloc (.cells #[.int .i64 5, .int .i64 2] 36)) ((hI.below (bal (Below.refl _ _) _)).below (bal (Below.refl _ _) _)) ⟨rfl, Nat.le_refl _, by omega, fun _ => ⟨wc.heap.size + 1, 0, rfl, by simp, fun i hi => by
    obtain rfl : i = 0 := by omega
    exact ⟨by go_simp; rfl, by go_simp; rfl⟩⟩⟩)
  clear P1 hO hI hb hbb BX
  go_wp2_with fail
  refine EQ.out.mono ?_
  rintro e wd ⟨rfl, hb⟩
  have hb1 : Below wc.heap.size wc wd := bstep (bal (bal (Below.refl _ _) _) _) hb
  have BXd := hidp (BXc.out.below hb1)
  have hbd := bstep hbc hb1
  have hlt0 := BXd.out.lt
  clear EQ hb hb1 BXc hbc
  go_upto_region 4 with fail
  generalize hh : w.heap.size = h at *
  have HH := hidp hh
  clear hh
  have k0 := (BXd.out.at_ h 0 (.int .i64 sz0) (by simp)).2
  have k1 := (BXd.out.at_ h 1 (.int .i64 wy0) (by simp)).2
  have k2 := (BXd.out.at_ h 2 (.slice a0 n0 c0) (by simp)).2
  have k3 := (BXd.out.at_ (h + 1) 0 (.int .i64 sz1) (by simp)).2
  have k4 := (BXd.out.at_ (h + 1) 1 (.int .i64 wy1) (by simp)).2
  have k5 := (BXd.out.at_ (h + 1) 2 (.slice a1 n1 c1) (by simp)).2
  have l0 : h < wd.heap.size := by omega
  have l1 : h + 1 < wd.heap.size := by omega
  have d0 : ¬ h = wd.heap.size := by omega
  have d0' : ¬ wd.heap.size = h := by omega
  have d1 : ¬ h + 1 = wd.heap.size := by omega
  have d1' : ¬ wd.heap.size = h + 1 := by omega
  have d2 : ¬ h = wd.heap.size + 1 := by omega
  have d2' : ¬ wd.heap.size + 1 = h := by omega
  have d3 : ¬ h + 1 = wd.heap.size + 1 := by omega
  have d3' : ¬ wd.heap.size + 1 = h + 1 := by omega
  go_cut [19, 20] (fun s19 s20 wx => ∃ (P Q : Nat), s19 = .pointer (some ⟨P, 0, none⟩) ∧ s20 = .pointer (some ⟨Q, 0, none⟩) ∧ Hid (Sep wd.heap.size wx [sE 24 P [.int .i64 sz0, .int .i64 wy0, .slice a0 n0 c0], sE 24 Q [.int .i64 sz1, .int .i64 wy1, .slice a1 n1 c1]]) ∧ Below wd.heap.size wd wx)
  case first =>
    go_region
    all_goals go_wp2
    all_goals go_meet
    · exact ⟨wd.heap.size, wd.heap.size + 1, rfl, rfl, sep_two wd _ _ _ _, (bal (bal (Below.refl _ _) _) _).drew⟩
    · exact ⟨wd.heap.size + 1, wd.heap.size, rfl, rfl, sep_swap (sep_two wd _ _ _ _), (bal (bal (Below.refl _ _) _) _).drew⟩
  case rest =>
    obtain ⟨P, Q, rfl, rfl, SP, hb⟩ := hcut
    have hSP := SP.out
    have hP := (hSP.own (sE 24 P [.int .i64 sz0, .int .i64 wy0, .slice a0 n0 c0]) (by simp)).lt P rfl
    have hQ := (hSP.own (sE 24 Q [.int .i64 sz1, .int .i64 wy1, .slice a1 n1 c1]) (by simp)).lt Q rfl
    have BXc := hidp (BXd.out.below hb)
    have hbc := bstep (by rw [HH.out]; exact hbd : Below w.heap.size w wd) hb
    clear k0 k1 k2 k3 k4 k5 d0 d0' d1 d1' d2 d2' d3 d3' l0 l1 BXd hb hbd hSP
    go_upto_region 5 with fail
    have p0 := (BXc.out.at_ h 2 (.slice a0 n0 c0) (by simp)).2
    have p1 := (BXc.out.at_ (h + 1) 2 (.slice a1 n1 c1) (by simp)).2
    have hP2 : P < wc.heap.size := hP.2
    have hQ2 : Q < wc.heap.size := hQ.2
    have HZ := hidp (And.intro BXc.out.lt hbc.size)
    have C0 := hidp (fun W (hB : Below w.heap.size w W) => roomyB_c a0 n0 c0 (bs0.map Value.bool) true W (by rw [List.length_map, H0.out.len]; omega) (room_hcB (H0.out.below hB)) (bools_one bs0) (fun e => ⟨by have h1 := Z.out.1 e; have h2 := H0.out.le; omega, Z.out.1 e⟩) H0.out.le H0.out.max (by omega))
    have C1 := hidp (fun W (hB : Below w.heap.size w W) => roomyB_c a1 n1 c1 (bs1.map Value.bool) true W (by rw [List.length_map, H1.out.len]; omega) (room_hcB (H1.out.below hB)) (bools_one bs1) (fun e => ⟨by have h1 := Z.out.2.1 e; have h2 := H1.out.le; omega, Z.out.2.1 e⟩) H1.out.le H1.out.max (by omega))
    have x0 : wc.cell? ⟨P, 2, none⟩ = some (.slice a0 n0 c0) := by
      have := World.ownsRow.cellAt (SP.out.own (sE 24 P [.int .i64 sz0, .int .i64 wy0, .slice a0 n0 c0]) (by simp)) 2 (by show 2 < 1 * 3; omega)
      exact this
    have x1 : wc.cell? ⟨Q, 2, none⟩ = some (.slice a1 n1 c1) := by
      have := World.ownsRow.cellAt (SP.out.own (sE 24 Q [.int .i64 sz1, .int .i64 wy1, .slice a1 n1 c1]) (by simp)) 2 (by show 2 < 1 * 3; omega)
      exact this
    have f0 : wc.frozen? ⟨P, 2, none⟩ = false := World.ownsRow.frozenAt (SP.out.own (sE 24 P [.int .i64 sz0, .int .i64 wy0, .slice a0 n0 c0]) (by simp)) 2
    have f1 : wc.frozen? ⟨Q, 2, none⟩ = false := World.ownsRow.frozenAt (SP.out.own (sE 24 Q [.int .i64 sz1, .int .i64 wy1, .slice a1 n1 c1]) (by simp)) 2
    have hPQ : ¬ P = Q := by
      have := SP.out.ap
      simp [sE, Apart, Value.ownBlock] at this
      exact this
    have hQP : ¬ Q = P := fun e => hPQ e.symm
    have FZ := hidp (fun W (hB : Below wc.heap.size wc W) => And.intro ((hB.frozen (p := ⟨P, 2, none⟩) hP2).trans f0) ((hB.frozen (p := ⟨Q, 2, none⟩) hQ2).trans f1))
    generalize ha : Act.mk _ _ = A0
    have t8 : A0.eval (.tmp 8) = .pointer (some ⟨h, 0, none⟩) := by rw [← ha]; rfl
    have t9 : A0.eval (.tmp 9) = .pointer (some ⟨h + 1, 0, none⟩) := by rw [← ha]; rfl
    have t19 : A0.eval (.tmp 19) = .pointer (some ⟨P, 0, none⟩) := by rw [← ha]; rfl
    have t20 : A0.eval (.tmp 20) = .pointer (some ⟨Q, 0, none⟩) := by rw [← ha]; rfl
    have tsz : A0.tmps.size = 329 := by rw [← ha]; rfl
    refine region_duty (by kernel_rfl) (by kernel_rfl) (K5 h wd wc P Q sz0 wy0 a0 n0 c0 bs0 sz1 wy1 a1 n1 c1 bs1) (fun _ => undef) ?_ ?_ ?_
    · exact K5.start SP.out
    · refine ⟨?_, ?_, ?_, ?_, ?_, ?_, ?_, ?_, ?_, ?_, trivial⟩
      all_goals intro D V w b hs hi hb hK
      · have e := (hs.old 8 (by kernel_rfl)).trans t8
        simp [Act.eval] at e
        go_simp
        exact ⟨_, rfl, by exact ⟨(by first | exact hK.v0 | exact fun _ => rfl | exact fun h => (nomatch (show true = false from h))), (by first | exact hK.v1 | exact fun _ => rfl | exact fun h => (nomatch (show true = false from h))), (by first | exact hK.v2 | exact fun _ => rfl | exact fun h => (nomatch (show true = false from h))), (by first | exact hK.v3 | exact fun _ => rfl | exact fun h => (nomatch (show true = false from h))), (by first | exact hK.v4 | exact fun _ => rfl | exact fun h => (nomatch (show true = false from h))), (by first | exact hK.v5 | exact fun _ => rfl | exact fun h => (nomatch (show true = false from h))), (by first | exact hK.v6 | exact fun _ => rfl | exact fun h => (nomatch (show true = false from h))), (by first | exact hK.v8 | exact fun _ => rfl | exact fun h => (nomatch (show true = false from h))), (by first | exact hK.o52 | exact fun _ => rfl | exact fun h => (nomatch (show true = false from h))), (by first | exact hK.o75 | exact fun _ => rfl | exact fun h => (nomatch (show true = false from h))), (by first | exact hK.o97 | exact fun _ => rfl | exact fun h => (nomatch (show true = false from h))), (by first | exact hK.below | exact fun _ => rfl | exact fun h => (nomatch (show true = false from h))), (by first | exact hK.sep | exact fun _ => rfl | exact fun h => (nomatch (show true = false from h)))⟩⟩
      · have e := (hs.got 0 66 (hb 0 _ rfl rfl) rfl (by decide) (by rw [tsz]; decide)).trans (hK.v0 (hb 0 _ rfl rfl))
        simp [Act.eval] at e
        have hc := ck' hK.below (show h < wd.heap.size by omega) p0
        go_simp
        exact ⟨_, rfl, by exact ⟨(by first | exact hK.v0 | exact fun _ => rfl | exact fun h => (nomatch (show true = false from h))), (by first | exact hK.v1 | exact fun _ => rfl | exact fun h => (nomatch (show true = false from h))), (by first | exact hK.v2 | exact fun _ => rfl | exact fun h => (nomatch (show true = false from h))), (by first | exact hK.v3 | exact fun _ => rfl | exact fun h => (nomatch (show true = false from h))), (by first | exact hK.v4 | exact fun _ => rfl | exact fun h => (nomatch (show true = false from h))), (by first | exact hK.v5 | exact fun _ => rfl | exact fun h => (nomatch (show true = false from h))), (by first | exact hK.v6 | exact fun _ => rfl | exact fun h => (nomatch (show true = false from h))), (by first | exact hK.v8 | exact fun _ => rfl | exact fun h => (nomatch (show true = false from h))), (by first | exact hK.o52 | exact fun _ => rfl | exact fun h => (nomatch (show true = false from h))), (by first | exact hK.o75 | exact fun _ => rfl | exact fun h => (nomatch (show true = false from h))), (by first | exact hK.o97 | exact fun _ => rfl | exact fun h => (nomatch (show true = false from h))), (by first | exact hK.below | exact fun _ => rfl | exact fun h => (nomatch (show true = false from h))), (by first | exact hK.sep | exact fun _ => rfl | exact fun h => (nomatch (show true = false from h)))⟩⟩
      · have e := (hs.got 1 67 (hb 0 _ rfl rfl) rfl (by decide) (by rw [tsz]; decide)).trans (hK.v1 (hb 0 _ rfl rfl))
        refine op_call 6 #[.tmp 67, .const (.bool true)] _ rfl (fun _ _ => by kernel_rfl) #[.slice a0 n0 c0, .bool true] (by simp [e]; rfl) _ (C0.out w (hbc.trans (hK.below.mono (by rw [HH.out]; omega)))) ?_
        rintro _ w' ⟨g, rfl, hO, hB⟩
        exact ⟨_, rfl, _, rfl, hK.up2 hi hP hO hB⟩
      · have e := (hs.old 9 (by kernel_rfl)).trans t9
        simp [Act.eval] at e
        go_simp
        exact ⟨_, rfl, by exact ⟨(by first | exact hK.v0 | exact fun _ => rfl | exact fun h => (nomatch (show true = false from h))), (by first | exact hK.v1 | exact fun _ => rfl | exact fun h => (nomatch (show true = false from h))), (by first | exact hK.v2 | exact fun _ => rfl | exact fun h => (nomatch (show true = false from h))), (by first | exact hK.v3 | exact fun _ => rfl | exact fun h => (nomatch (show true = false from h))), (by first | exact hK.v4 | exact fun _ => rfl | exact fun h => (nomatch (show true = false from h))), (by first | exact hK.v5 | exact fun _ => rfl | exact fun h => (nomatch (show true = false from h))), (by first | exact hK.v6 | exact fun _ => rfl | exact fun h => (nomatch (show true = false from h))), (by first | exact hK.v8 | exact fun _ => rfl | exact fun h => (nomatch (show true = false from h))), (by first | exact hK.o52 | exact fun _ => rfl | exact fun h => (nomatch (show true = false from h))), (by first | exact hK.o75 | exact fun _ => rfl | exact fun h => (nomatch (show true = false from h))), (by first | exact hK.o97 | exact fun _ => rfl | exact fun h => (nomatch (show true = false from h))), (by first | exact hK.below | exact fun _ => rfl | exact fun h => (nomatch (show true = false from h))), (by first | exact hK.sep | exact fun _ => rfl | exact fun h => (nomatch (show true = false from h)))⟩⟩
      · have e := (hs.got 3 69 (hb 0 _ rfl rfl) rfl (by decide) (by rw [tsz]; decide)).trans (hK.v3 (hb 0 _ rfl rfl))
        simp [Act.eval] at e
        have hc := ck' hK.below (show h + 1 < wd.heap.size by omega) p1
        go_simp
        exact ⟨_, rfl, by exact ⟨(by first | exact hK.v0 | exact fun _ => rfl | exact fun h => (nomatch (show true = false from h))), (by first | exact hK.v1 | exact fun _ => rfl | exact fun h => (nomatch (show true = false from h))), (by first | exact hK.v2 | exact fun _ => rfl | exact fun h => (nomatch (show true = false from h))), (by first | exact hK.v3 | exact fun _ => rfl | exact fun h => (nomatch (show true = false from h))), (by first | exact hK.v4 | exact fun _ => rfl | exact fun h => (nomatch (show true = false from h))), (by first | exact hK.v5 | exact fun _ => rfl | exact fun h => (nomatch (show true = false from h))), (by first | exact hK.v6 | exact fun _ => rfl | exact fun h => (nomatch (show true = false from h))), (by first | exact hK.v8 | exact fun _ => rfl | exact fun h => (nomatch (show true = false from h))), (by first | exact hK.o52 | exact fun _ => rfl | exact fun h => (nomatch (show true = false from h))), (by first | exact hK.o75 | exact fun _ => rfl | exact fun h => (nomatch (show true = false from h))), (by first | exact hK.o97 | exact fun _ => rfl | exact fun h => (nomatch (show true = false from h))), (by first | exact hK.below | exact fun _ => rfl | exact fun h => (nomatch (show true = false from h))), (by first | exact hK.sep | exact fun _ => rfl | exact fun h => (nomatch (show true = false from h)))⟩⟩
      · have e := (hs.got 4 70 (hb 0 _ rfl rfl) rfl (by decide) (by rw [tsz]; decide)).trans (hK.v4 (hb 0 _ rfl rfl))
        refine op_call 6 #[.tmp 70, .const (.bool true)] _ rfl (fun _ _ => by kernel_rfl) #[.slice a1 n1 c1, .bool true] (by simp [e]; rfl) _ (C1.out w (hbc.trans (hK.below.mono (by rw [HH.out]; omega)))) ?_
        rintro _ w' ⟨g, rfl, hO, hB⟩
        exact ⟨_, rfl, _, rfl, hK.up5 hi (hb 1 _ rfl rfl) hP hO hB⟩
      · have e := (hs.old 19 (by kernel_rfl)).trans t19
        simp [Act.eval] at e
        go_simp
        exact ⟨_, rfl, by exact ⟨(by first | exact hK.v0 | exact fun _ => rfl | exact fun h => (nomatch (show true = false from h))), (by first | exact hK.v1 | exact fun _ => rfl | exact fun h => (nomatch (show true = false from h))), (by first | exact hK.v2 | exact fun _ => rfl | exact fun h => (nomatch (show true = false from h))), (by first | exact hK.v3 | exact fun _ => rfl | exact fun h => (nomatch (show true = false from h))), (by first | exact hK.v4 | exact fun _ => rfl | exact fun h => (nomatch (show true = false from h))), (by first | exact hK.v5 | exact fun _ => rfl | exact fun h => (nomatch (show true = false from h))), (by first | exact hK.v6 | exact fun _ => rfl | exact fun h => (nomatch (show true = false from h))), (by first | exact hK.v8 | exact fun _ => rfl | exact fun h => (nomatch (show true = false from h))), (by first | exact hK.o52 | exact fun _ => rfl | exact fun h => (nomatch (show true = false from h))), (by first | exact hK.o75 | exact fun _ => rfl | exact fun h => (nomatch (show true = false from h))), (by first | exact hK.o97 | exact fun _ => rfl | exact fun h => (nomatch (show true = false from h))), (by first | exact hK.below | exact fun _ => rfl | exact fun h => (nomatch (show true = false from h))), (by first | exact hK.sep | exact fun _ => rfl | exact fun h => (nomatch (show true = false from h)))⟩⟩
      · have e := (hs.got 6 72 (hb 0 _ rfl rfl) rfl (by decide) (by rw [tsz]; decide)).trans (hK.v6 (hb 0 _ rfl rfl))
        simp [Act.eval] at e
        obtain ⟨g, hg⟩ := hK.v2 (hb 1 _ rfl rfl)
        have e2 := (hs.got 2 68 (hb 1 _ rfl rfl) rfl (by decide) (by rw [tsz]; decide)).trans hg
        simp [Act.eval] at e2
        obtain ⟨hfz, hcl, hup⟩ := hK.up7 hi (hb 2 _ rfl rfl) hP.1
        rw [hg] at hup
        go_simp
        exact ⟨_, hup⟩
      · have e := (hs.old 20 (by kernel_rfl)).trans t20
        simp [Act.eval] at e
        go_simp
        exact ⟨_, rfl, by exact ⟨(by first | exact hK.v0 | exact fun _ => rfl | exact fun h => (nomatch (show true = false from h))), (by first | exact hK.v1 | exact fun _ => rfl | exact fun h => (nomatch (show true = false from h))), (by first | exact hK.v2 | exact fun _ => rfl | exact fun h => (nomatch (show true = false from h))), (by first | exact hK.v3 | exact fun _ => rfl | exact fun h => (nomatch (show true = false from h))), (by first | exact hK.v4 | exact fun _ => rfl | exact fun h => (nomatch (show true = false from h))), (by first | exact hK.v5 | exact fun _ => rfl | exact fun h => (nomatch (show true = false from h))), (by first | exact hK.v6 | exact fun _ => rfl | exact fun h => (nomatch (show true = false from h))), (by first | exact hK.v8 | exact fun _ => rfl | exact fun h => (nomatch (show true = false from h))), (by first | exact hK.o52 | exact fun _ => rfl | exact fun h => (nomatch (show true = false from h))), (by first | exact hK.o75 | exact fun _ => rfl | exact fun h => (nomatch (show true = false from h))), (by first | exact hK.o97 | exact fun _ => rfl | exact fun h => (nomatch (show true = false from h))), (by first | exact hK.below | exact fun _ => rfl | exact fun h => (nomatch (show true = false from h))), (by first | exact hK.sep | exact fun _ => rfl | exact fun h => (nomatch (show true = false from h)))⟩⟩
      · have e := (hs.got 8 73 (hb 0 _ rfl rfl) rfl (by decide) (by rw [tsz]; decide)).trans (hK.v8 (hb 0 _ rfl rfl))
        simp [Act.eval] at e
        obtain ⟨g, hg⟩ := hK.v5 (hb 1 _ rfl rfl)
        have e2 := (hs.got 5 71 (hb 1 _ rfl rfl) rfl (by decide) (by rw [tsz]; decide)).trans hg
        simp [Act.eval] at e2
        obtain ⟨hfz, hcl, hup⟩ := hK.up9 hi (hb 2 _ rfl rfl) hQ.1
        rw [hg] at hup
        go_simp
        exact ⟨_, hup⟩
    · intro D V wx hD hK
      have D2 := hD 2 (by decide)
      have D5 := hD 5 (by decide)
      have D7 := hD 7 (by decide)
      have D9 := hD 9 (by decide)
      have V0 := hK.v0 (hD 0 (by decide))
      have V1 := hK.v1 (hD 1 (by decide))
      obtain ⟨g0, V2⟩ := hK.v2 D2
      have V3 := hK.v3 (hD 3 (by decide))
      have V4 := hK.v4 (hD 4 (by decide))
      obtain ⟨g1, V5⟩ := hK.v5 D5
      have V6 := hK.v6 (hD 6 (by decide))
      have V8 := hK.v8 (hD 8 (by decide))
      have hS := hK.sep
      have hb := hK.below
      simp only [D2, D5, D7, D9, if_true, V2, V5, fullV, List.nil_append, List.cons_append] at hS
      clear hK
      have e : ∀ ops : Array Oper, ops.size = 10 → dstOf ops 0 = some 66 → dstOf ops 1 = some 67 → dstOf ops 2 = some 68 → dstOf ops 3 = some 69 → dstOf ops 4 = some 70 → dstOf ops 5 = some 71 → dstOf ops 6 = some 72 → dstOf ops 7 = none → dstOf ops 8 = some 73 → dstOf ops 9 = none →
          putM ops (Array.replicate ops.size true) V A0 ops.size = (((((((A0.put (some 66) (V 0)).put (some 67) (V 1)).put (some 68) (V 2)).put (some 69) (V 3)).put (some 70) (V 4)).put (some 71) (V 5)).put (some 72) (V 6)).put (some 73) (V 8) := fun ops hs d0 d1 d2 d3 d4 d5 d6 d7 d8 d9 => by
        rw [hs]; simp [putM, d0, d1, d2, d3, d4, d5, d6, d7, d8, d9, Act.put]
      rw [e _ rfl rfl rfl rfl rfl rfl rfl rfl rfl rfl rfl, V0, V1, V2, V3, V4, V5, V6, V8, ← ha]
      clear e ha V0 V1 V2 V3 V4 V5 V6 V8 hD D2 D5 D7 D9
      replace SP := hidp hS
      clear hS t8 t9 t19 t20 tsz x0 x1 f0 f1 FZ C0 C1
      go_simp
      have BXd := hidp (BXc.out.below' hb hlt0)
      have hbx := hbc.trans (hb.mono (by rw [HH.out]; omega))
      have hwx : wd.heap.size ≤ wx.heap.size := by have := hb.size; omega
      clear BXc hbc hb hP hQ hP2 hQ2 HZ p0 p1
      have C2 := hidp (fun W (hB : Below w.heap.size w W) => kcopied_c wd2 a2 n2 c2 xs2 W (H2.out.below hB) (by omega))
      have C3 := hidp (fun W (hB : Below w.heap.size w W) => kcopied_c wd3 a3 n3 c3 xs3 W (H3.out.below hB) (by omega))
      unfold tabV at C2 C3
      go_upto_region 6 with fail
      have q0 := (BXd.out.at_ (h + 1 + 1) 0 (.int .i64 wd2) (by simp)).2
      have q1 := (BXd.out.at_ (h + 1 + 1) 1 (.slice a2 n2 c2) (by simp)).2
      have q2 := (BXd.out.at_ (h + 1 + 1 + 1) 0 (.int .i64 wd3) (by simp)).2
      have q3 := (BXd.out.at_ (h + 1 + 1 + 1) 1 (.slice a3 n3 c3) (by simp)).2
      generalize ha : Act.mk _ _ = A0
      have t10 : A0.eval (.tmp 10) = .pointer (some ⟨h + 1 + 1, 0, none⟩) := by rw [← ha]; rfl
      have t11 : A0.eval (.tmp 11) = .pointer (some ⟨h + 1 + 1 + 1, 0, none⟩) := by rw [← ha]; rfl
      have tsz : A0.tmps.size = 329 := by rw [← ha]; rfl
      obtain ⟨bs, hbe, hbs⟩ : ∃ bs, Hid (bs = _) ∧ Sep wd.heap.size wx bs := ⟨_, hidp rfl, SP.out⟩
      refine region_duty (by kernel_rfl) (by kernel_rfl) (fun D V w => ∃ E, K6 wd wx wd2 a2 n2 c2 xs2 wd3 a3 n3 c3 xs3 bs E D V w) (fun _ => undef) ?_ ?_ ?_
      · exact ⟨_, K6.start hbs⟩
      · refine ⟨?_, ?_, ?_, ?_, ?_, ?_, ?_, ?_, trivial⟩
        all_goals rintro D V w b hs hi hb ⟨EE, hK⟩
        · have e := (hs.old 10 (by kernel_rfl)).trans t10
          simp [Act.eval] at e
          have hc := ck' hK.below (show h + 1 + 1 < wd.heap.size by omega) q0
          have hc' := ck' hK.below (show h + 1 + 1 < wd.heap.size by omega) q1
          go_simp
          exact ⟨_, rfl, EE, by exact ⟨(by first | exact hK.v0 | exact fun _ => rfl | exact fun h => (nomatch (show true = false from h))), (by first | exact hK.v1 | exact fun _ => rfl | exact fun h => (nomatch (show true = false from h))), (by first | exact hK.v2 | exact fun _ => rfl | exact fun h => (nomatch (show true = false from h))), (by first | exact hK.v3 | exact fun _ => rfl | exact fun h => (nomatch (show true = false from h))), (by first | exact hK.v4 | exact fun _ => rfl | exact fun h => (nomatch (show true = false from h))), (by first | exact hK.v5 | exact fun _ => rfl | exact fun h => (nomatch (show true = false from h))), (by first | exact hK.n1 | exact fun _ => rfl | exact fun h => (nomatch (show true = false from h))), (by first | exact hK.n3 | exact fun _ => rfl | exact fun h => (nomatch (show true = false from h))), (by first | exact hK.n4 | exact fun _ => rfl | exact fun h => (nomatch (show true = false from h))), (by first | exact hK.n5 | exact fun _ => rfl | exact fun h => (nomatch (show true = false from h))), (by first | exact hK.o31 | exact fun _ => rfl | exact fun h => (nomatch (show true = false from h))), (by first | exact hK.o63 | exact fun _ => rfl | exact fun h => (nomatch (show true = false from h))), (by first | exact hK.o76 | exact fun _ => rfl | exact fun h => (nomatch (show true = false from h))), (by first | exact hK.o64 | exact fun _ => rfl | exact fun h => (nomatch (show true = false from h))), (by first | exact hK.o65 | exact fun _ => rfl | exact fun h => (nomatch (show true = false from h))), (by first | exact hK.eb | exact fun _ => rfl | exact fun h => (nomatch (show true = false from h))), (by first | exact hK.below | exact fun _ => rfl | exact fun h => (nomatch (show true = false from h))), (by first | exact hK.sep | exact fun _ => rfl | exact fun h => (nomatch (show true = false from h)))⟩⟩
        · have e := (hs.got 0 74 (hb 0 _ rfl rfl) rfl (by decide) (by rw [tsz]; decide)).trans (hK.v0 (hb 0 _ rfl rfl))
          refine op_call 7 #[.tmp 74] _ rfl (fun _ _ => by kernel_rfl) #[.agg #[.int .i64 wd2, .slice a2 n2 c2]] (by simp [e]) _ (C2.out w (hbx.trans (hK.below.mono (by rw [HH.out]; omega)))) ?_
          rintro _ w' ⟨av, cp, G, rfl, hO, hB⟩
          exact ⟨_, rfl, _, rfl, _, hK.up1 hi hwx hO hB⟩
        · have e := (hs.old 11 (by kernel_rfl)).trans t11
          simp [Act.eval] at e
          have hc := ck' hK.below (show h + 1 + 1 + 1 < wd.heap.size by omega) q2
          have hc' := ck' hK.below (show h + 1 + 1 + 1 < wd.heap.size by omega) q3
          go_simp
          exact ⟨_, rfl, EE, by exact ⟨(by first | exact hK.v0 | exact fun _ => rfl | exact fun h => (nomatch (show true = false from h))), (by first | exact hK.v1 | exact fun _ => rfl | exact fun h => (nomatch (show true = false from h))), (by first | exact hK.v2 | exact fun _ => rfl | exact fun h => (nomatch (show true = false from h))), (by first | exact hK.v3 | exact fun _ => rfl | exact fun h => (nomatch (show true = false from h))), (by first | exact hK.v4 | exact fun _ => rfl | exact fun h => (nomatch (show true = false from h))), (by first | exact hK.v5 | exact fun _ => rfl | exact fun h => (nomatch (show true = false from h))), (by first | exact hK.n1 | exact fun _ => rfl | exact fun h => (nomatch (show true = false from h))), (by first | exact hK.n3 | exact fun _ => rfl | exact fun h => (nomatch (show true = false from h))), (by first | exact hK.n4 | exact fun _ => rfl | exact fun h => (nomatch (show true = false from h))), (by first | exact hK.n5 | exact fun _ => rfl | exact fun h => (nomatch (show true = false from h))), (by first | exact hK.o31 | exact fun _ => rfl | exact fun h => (nomatch (show true = false from h))), (by first | exact hK.o63 | exact fun _ => rfl | exact fun h => (nomatch (show true = false from h))), (by first | exact hK.o76 | exact fun _ => rfl | exact fun h => (nomatch (show true = false from h))), (by first | exact hK.o64 | exact fun _ => rfl | exact fun h => (nomatch (show true = false from h))), (by first | exact hK.o65 | exact fun _ => rfl | exact fun h => (nomatch (show true = false from h))), (by first | exact hK.eb | exact fun _ => rfl | exact fun h => (nomatch (show true = false from h))), (by first | exact hK.below | exact fun _ => rfl | exact fun h => (nomatch (show true = false from h))), (by first | exact hK.sep | exact fun _ => rfl | exact fun h => (nomatch (show true = false from h)))⟩⟩
        · have e := (hs.got 2 76 (hb 0 _ rfl rfl) rfl (by decide) (by rw [tsz]; decide)).trans (hK.v2 (hb 0 _ rfl rfl))
          refine op_call 7 #[.tmp 76] _ rfl (fun _ _ => by kernel_rfl) #[.agg #[.int .i64 wd3, .slice a3 n3 c3]] (by simp [e]) _ (C3.out w (hbx.trans (hK.below.mono (by rw [HH.out]; omega)))) ?_
          rintro _ w' ⟨av, cp, G, rfl, hO, hB⟩
          exact ⟨_, rfl, _, rfl, _, hK.up3 hi (hb 1 _ rfl rfl) hwx hO hB⟩
        · go_simp
          exact ⟨_, rfl, _, hK.up4 hi hwx⟩
        · go_simp
          exact ⟨_, rfl, _, hK.up5 hi hwx⟩
        · obtain ⟨A, hA, hle, _⟩ := hK.v4 (hb 0 _ rfl rfl)
          have e := (hs.got 4 21 (hb 0 _ rfl rfl) rfl (by decide) (by rw [tsz]; decide)).trans hA
          simp [Act.eval] at e
          obtain ⟨av, cp, G, hv, _⟩ := hK.v1 (hb 1 _ rfl rfl)
          have e2 := (hs.got 1 75 (hb 1 _ rfl rfl) rfl (by decide) (by rw [tsz]; decide)).trans hv
          simp [Act.eval] at e2
          obtain ⟨hfz, hc0, hc1, hup⟩ := hK.up6 hi (hb 2 _ rfl rfl) (hb 0 _ rfl rfl) hA hv
          have hf0 := hfz 0
          have hf1 := hfz 1
          go_simp
          exact ⟨_, _, hup⟩
        · obtain ⟨A, hA, hle, _⟩ := hK.v5 (hb 0 _ rfl rfl)
          have e := (hs.got 5 22 (hb 0 _ rfl rfl) rfl (by decide) (by rw [tsz]; decide)).trans hA
          simp [Act.eval] at e
          obtain ⟨av, cp, G, hv, _⟩ := hK.v3 (hb 1 _ rfl rfl)
          have e2 := (hs.got 3 77 (hb 1 _ rfl rfl) rfl (by decide) (by rw [tsz]; decide)).trans hv
          simp [Act.eval] at e2
          obtain ⟨hfz, hc0, hc1, hup⟩ := hK.up7 hi (hb 2 _ rfl rfl) (hb 0 _ rfl rfl) hA hv
          have hf0 := hfz 0
          have hf1 := hfz 1
          go_simp
          exact ⟨_, _, hup⟩
      · rintro D V wy hD ⟨EE, hK⟩
        have D6 := hD 6 (by decide)
        have D7 := hD 7 (by decide)
        have V0 := hK.v0 (hD 0 (by decide))
        obtain ⟨a7, c7, G2, V1, E1⟩ := hK.v1 (hD 1 (by decide))
        have V2 := hK.v2 (hD 2 (by decide))
        obtain ⟨a8, c8, G3, V3, E3⟩ := hK.v3 (hD 3 (by decide))
        obtain ⟨P2, V4, hP2, E4⟩ := hK.v4 (hD 4 (by decide))
        obtain ⟨P3, V5, hP3, E5⟩ := hK.v5 (hD 5 (by decide))
        simp only [D6, D7, if_true, V1, V3, tcells] at E4 E5
        have hS := hK.sep
        have hb := hK.below
        have E8 := hK.eb
        clear hK
        have e : ∀ ops : Array Oper, ops.size = 8 → dstOf ops 0 = some 74 → dstOf ops 1 = some 75 → dstOf ops 2 = some 76 → dstOf ops 3 = some 77 → dstOf ops 4 = some 21 → dstOf ops 5 = some 22 → dstOf ops 6 = none → dstOf ops 7 = none →
            putM ops (Array.replicate ops.size true) V A0 ops.size = (((((A0.put (some 74) (V 0)).put (some 75) (V 1)).put (some 76) (V 2)).put (some 77) (V 3)).put (some 21) (V 4)).put (some 22) (V 5) := fun ops hs d0 d1 d2 d3 d4 d5 d6 d7 => by
          rw [hs]; simp [putM, d0, d1, d2, d3, d4, d5, d6, d7, Act.put]
        rw [e _ rfl rfl rfl rfl rfl rfl rfl rfl rfl, V0, V1, V2, V3, V4, V5, ← ha]
        clear e ha V0 V1 V2 V3 V4 V5 hD D6 D7 t10 t11 tsz q0 q1 q2 q3 C2 C3
        go_simp
        have BXe := hidp (BXd.out.below' hb hlt0)
        have hby := hbx.trans (hb.mono (by rw [HH.out]; omega))
        have hwy : wd.heap.size ≤ wy.heap.size := by have := hb.size; omega
        clear BXd hbx hb
        go_upto_region 7 with fail
        have q0 := (BXe.out.at_ (h + 1 + 1 + 1 + 1) 0 (.int .i64 kk4) (by simp)).2
        have q1 := (BXe.out.at_ (h + 1 + 1 + 1 + 1) 1 (.int .i64 lo4) (by simp)).2
        have q2 := (BXe.out.at_ (h + 1 + 1 + 1 + 1) 2 (.slice a4 n4 c4) (by simp)).2
        have q3 := (BXe.out.at_ (h + 1 + 1 + 1 + 1 + 1) 0 (.int .i64 kk5) (by simp)).2
        have q4 := (BXe.out.at_ (h + 1 + 1 + 1 + 1 + 1) 1 (.int .i64 lo5) (by simp)).2
        have q5 := (BXe.out.at_ (h + 1 + 1 + 1 + 1 + 1) 2 (.slice a5 n5 c5) (by simp)).2
        generalize ha : Act.mk _ _ = A0
        have t12 : A0.eval (.tmp 12) = .pointer (some ⟨h + 1 + 1 + 1 + 1, 0, none⟩) := by rw [← ha]; rfl
        have t13 : A0.eval (.tmp 13) = .pointer (some ⟨h + 1 + 1 + 1 + 1 + 1, 0, none⟩) := by rw [← ha]; rfl
        have tsz : A0.tmps.size = 329 := by rw [← ha]; rfl
        obtain ⟨bs7, hbe7, hbs7⟩ : ∃ bs, Hid (bs = _) ∧ Sep wd.heap.size wy bs := ⟨_, hidp rfl, hS⟩
        refine region_duty (by kernel_rfl) (by kernel_rfl) (fun D V w => ∃ E, K7 wd wy kk4 lo4 a4 n4 c4 kk5 lo5 a5 n5 c5 bs7 E D V w) (fun _ => undef) ?h0 ?hst ?hfin
        case h0 => exact ⟨_, K7.start hbs7⟩
        case hst =>
          refine ⟨?_, ?_, ?_, ?_, ?_, ?_, trivial⟩
          all_goals rintro D V w b hs hi hb ⟨EE, hK⟩
          · have e := (hs.old 12 (by kernel_rfl)).trans t12
            simp [Act.eval] at e
            have hc0 := ck' hK.below (show h + 1 + 1 + 1 + 1 < wd.heap.size by omega) q0
            have hc1 := ck' hK.below (show h + 1 + 1 + 1 + 1 < wd.heap.size by omega) q1
            have hc2 := ck' hK.below (show h + 1 + 1 + 1 + 1 < wd.heap.size by omega) q2
            go_simp
            exact ⟨_, rfl, EE, hK.up0 hi⟩
          · have e := (hs.old 13 (by kernel_rfl)).trans t13
            simp [Act.eval] at e
            have hc0 := ck' hK.below (show h + 1 + 1 + 1 + 1 + 1 < wd.heap.size by omega) q3
            have hc1 := ck' hK.below (show h + 1 + 1 + 1 + 1 + 1 < wd.heap.size by omega) q4
            have hc2 := ck' hK.below (show h + 1 + 1 + 1 + 1 + 1 < wd.heap.size by omega) q5
            go_simp
            exact ⟨_, rfl, EE, hK.up1 hi⟩
          · go_simp
            exact ⟨_, rfl, _, hK.up2 hi hwy⟩
          · go_simp
            exact ⟨_, rfl, _, hK.up3 hi hwy⟩
          · obtain ⟨A, hA, hle, _⟩ := hK.v2 (hb 0 _ rfl rfl)
            have e := (hs.got 2 23 (hb 0 _ rfl rfl) rfl (by decide) (by rw [tsz]; decide)).trans hA
            simp [Act.eval] at e
            have hv := hK.v0 (hb 1 _ rfl rfl)
            have e2 := (hs.got 0 78 (hb 1 _ rfl rfl) rfl (by decide) (by rw [tsz]; decide)).trans hv
            simp [Act.eval] at e2
            obtain ⟨hfz, hc0, hc1, hc2, hup⟩ := hK.up4 hi (hb 0 _ rfl rfl) (hb 1 _ rfl rfl) hA hv
            have hf0 := hfz 0
            have hf1 := hfz 1
            have hf2 := hfz 2
            go_simp
            exact ⟨_, _, hup⟩
          · obtain ⟨A, hA, hle, _⟩ := hK.v3 (hb 0 _ rfl rfl)
            have e := (hs.got 3 24 (hb 0 _ rfl rfl) rfl (by decide) (by rw [tsz]; decide)).trans hA
            simp [Act.eval] at e
            have hv := hK.v1 (hb 1 _ rfl rfl)
            have e2 := (hs.got 1 79 (hb 1 _ rfl rfl) rfl (by decide) (by rw [tsz]; decide)).trans hv
            simp [Act.eval] at e2
            obtain ⟨hfz, hc0, hc1, hc2, hup⟩ := hK.up5 hi (hb 2 _ rfl rfl) (hb 0 _ rfl rfl) (hb 1 _ rfl rfl) hA hv
            have hf0 := hfz 0
            have hf1 := hfz 1
            have hf2 := hfz 2
            go_simp
            exact ⟨_, _, hup⟩
        rintro D V wz hD ⟨E7, hK⟩
        have D4 := hD 4 (by decide)
        have D5 := hD 5 (by decide)
        have V0 := hK.v0 (hD 0 (by decide))
        have V1 := hK.v1 (hD 1 (by decide))
        obtain ⟨P4, V2, hP4, F2⟩ := hK.v2 (hD 2 (by decide))
        obtain ⟨P5, V3, hP5, F3⟩ := hK.v3 (hD 3 (by decide))
        simp only [D4, if_true, V0, scells] at F2
        simp only [D5, if_true, V1, scells] at F3
        have hS7 := hK.sep
        have hb := hK.below
        have F6 := hK.eb
        clear hK
        have e : ∀ ops : Array Oper, ops.size = 6 → dstOf ops 0 = some 78 → dstOf ops 1 = some 79 → dstOf ops 2 = some 23 → dstOf ops 3 = some 24 → dstOf ops 4 = none → dstOf ops 5 = none →
            putM ops (Array.replicate ops.size true) V A0 ops.size = ((((A0.put (some 78) (V 0)).put (some 79) (V 1)).put (some 23) (V 2)).put (some 24) (V 3)) := fun ops hs d0 d1 d2 d3 d4 d5 => by
          rw [hs]; simp [putM, d0, d1, d2, d3, d4, d5, Act.put]
        rw [e _ rfl rfl rfl rfl rfl rfl rfl, V0, V1, V2, V3, ← ha]
        clear e ha V0 V1 V2 V3 hD D4 D5 t12 t13 tsz q0 q1 q2 q3 q4 q5
        go_simp
        go_step
        have hbz := hby.trans (hb.mono (by rw [HH.out]; omega))
        have BXf := BXe.out.below' hb hlt0
        have hX := hS7.sub (flat_pick E7 7 [2, 3, 6] (by decide) (by decide))
        simp only [List.flatMap_cons, List.flatMap_nil, List.append_nil, F2, F3, F6, hbe7.out] at hX
        have hY := hX.sub (List.Sublist.append (List.Sublist.refl _) (List.Sublist.append (List.Sublist.refl _) (flat_pick EE 9 [1, 3, 4, 5, 8] (by decide) (by decide))))
        simp only [List.flatMap_cons, List.flatMap_nil, List.append_nil, E1, E3, E4, E5, E8, hbe.out] at hY
        have hR : ∀ (v : Value) (n : Nat) (l : List Bool), (⟨4, 1, v, n, l.map Value.bool ++ [.bool true, .bool true, .bool true]⟩ : Ent) = bE v n (l ++ [true, true, true]) := fun v n l => by simp [bE]
        simp only [hR] at hY
        have hZ : Sep wd.heap.size wz ((([sE 27 P2 [.int .i64 wd2, .slice a7 n2 c7]] ++ (hdrE (.slice a7 n2 c7) n2 (rowsV xs2 G2 n2) :: rowsE xs2 G2 n2)) ++ (([sE 27 P3 [.int .i64 wd3, .slice a8 n3 c8]] ++ (hdrE (.slice a8 n3 c8) n3 (rowsV xs3 G3 n3) :: rowsE xs3 G3 n3)) ++ ([sE 24 P [.int .i64 sz0, .int .i64 wy0, .slice (some ⟨g0, 0, none⟩) n0 (n0 + 3)], bE (.slice (some ⟨g0, 0, none⟩) (n0 + 3) (n0 + 3)) (n0 + 3) (bs0 ++ [true, true, true])] ++ [sE 24 Q [.int .i64 sz1, .int .i64 wy1, .slice (some ⟨g1, 0, none⟩) n1 (n1 + 3)], bE (.slice (some ⟨g1, 0, none⟩) (n1 + 3) (n1 + 3)) (n1 + 3) (bs1 ++ [true, true, true])]))) ++ [sE 30 P4 [.int .i64 kk4, .int .i64 lo4, .slice a4 n4 c4]] ++ [sE 30 P5 [.int .i64 kk5, .int .i64 lo5, .slice a5 n5 c5]]) := hY.perm (by
          classical
          refine List.perm_iff_count.2 (fun x => ?_)
          simp only [List.count_append, List.count_cons, List.count_nil]
          omega)
        exact pR8 hbz (by rw [HH.out]; omega) (by have := hb.size; omega) hlt0 hZ BXf H0.out H1.out H2.out H3.out H4.out H5.out Z.out.2.2.1 Z.out.2.2.2 s0 s1 s2 s3 s4 s5
end Go.Proofs.Ytffocoflmbhknaa.sketchOwn
