/- The walk of SketchOwn: the counters' lists get room (region 8; printed by wip/gen/skR8.py). -/
import Derived.Test.YtffocoflmbhknaaSkA
namespace Go.Proofs.Ytffocoflmbhknaa.sketchOwn
set_option linter.unusedVariables false
open Go.ChangeShapes Go.WideShapes Go.ChangeAt Go.RowKit
open Go.Proofs.Ytffocoflmbhknaa
set_option maxRecDepth 20000
structure K8 (wd wc : World) (Q4 Q5 P4 P5 : Nat) (kk4 lo4 kk5 lo5 : Int) (a4 a5 : Option Addr) (n4 n5 c4 c5 : Nat) (L4 L5 : List (Int × Int)) (bs : List Ent) (E : Nat → List Ent) (D : Nat → Bool) (V : Nat → Value) (w : World) : Prop where
  v0 : D 0 = true → V 0 = .pointer (some ⟨Q4, 2, none⟩)
  v1 : D 1 = true → V 1 = .slice a4 n4 c4
  v2 : D 2 = true → V 2 = .agg #[.int .i64 0, .int .i64 (-7)]
  v3 : D 3 = true → ∃ g, V 3 = .slice (some ⟨g, 0, none⟩) n4 (n4 + 3) ∧ E 3 = [(⟨36, 2, .slice (some ⟨g, 0, none⟩) (n4 + 3) (n4 + 3), n4 + 3, cntV L4 ++ ([.int .i64 0, .int .i64 (-7)] ++ ([.int .i64 0, .int .i64 (-7)] ++ [.int .i64 0, .int .i64 (-7)]))⟩ : Ent)]
  v4 : D 4 = true → V 4 = .pointer (some ⟨Q5, 2, none⟩)
  v5 : D 5 = true → V 5 = .slice a5 n5 c5
  v6 : D 6 = true → V 6 = .agg #[.int .i64 0, .int .i64 (-8)]
  v7 : D 7 = true → ∃ g, V 7 = .slice (some ⟨g, 0, none⟩) n5 (n5 + 3) ∧ E 7 = [(⟨36, 2, .slice (some ⟨g, 0, none⟩) (n5 + 3) (n5 + 3), n5 + 3, cntV L5 ++ ([.int .i64 0, .int .i64 (-8)] ++ ([.int .i64 0, .int .i64 (-8)] ++ [.int .i64 0, .int .i64 (-8)]))⟩ : Ent)]
  v8 : D 8 = true → V 8 = .pointer (some ⟨P4, 2, none⟩)
  v10 : D 10 = true → V 10 = .pointer (some ⟨P5, 2, none⟩)
  n3 : D 3 = false → E 3 = []
  n7 : D 7 = false → E 7 = []
  o9_8 : D 9 = true → D 8 = true
  o9_3 : D 9 = true → D 3 = true
  o11_10 : D 11 = true → D 10 = true
  o11_7 : D 11 = true → D 7 = true
  eb : E 12 = bs
  x0 : E 13 = [sE 30 P4 [.int .i64 kk4, .int .i64 lo4, if D 9 then V 3 else .slice a4 n4 c4]]
  x1 : E 14 = [sE 30 P5 [.int .i64 kk5, .int .i64 lo5, if D 11 then V 7 else .slice a5 n5 c5]]
  below : Below wd.heap.size wc w
  sep : Sep wd.heap.size w (flat E 15)
theorem K8.start {wd wc : World} {Q4 Q5 P4 P5 : Nat} {kk4 lo4 kk5 lo5 : Int} {a4 a5 : Option Addr} {n4 n5 c4 c5 : Nat} {L4 L5 : List (Int × Int)} {bs : List Ent} (hS : Sep wd.heap.size wc (bs ++ [sE 30 P4 [.int .i64 kk4, .int .i64 lo4, .slice a4 n4 c4]] ++ [sE 30 P5 [.int .i64 kk5, .int .i64 lo5, .slice a5 n5 c5]])) : K8 wd wc Q4 Q5 P4 P5 kk4 lo4 kk5 lo5 a4 a5 n4 n5 c4 c5 L4 L5 bs (fun i => if i = 12 then bs else if i = 13 then [sE 30 P4 [.int .i64 kk4, .int .i64 lo4, .slice a4 n4 c4]] else if i = 14 then [sE 30 P5 [.int .i64 kk5, .int .i64 lo5, .slice a5 n5 c5]] else []) (fun _ => false) (fun _ => undef) wc.drew := by
  refine ⟨?_, ?_, ?_, ?_, ?_, ?_, ?_, ?_, ?_, ?_, fun _ => rfl, fun _ => rfl, ?_, ?_, ?_, ?_, rfl, by simp, by simp, (Below.refl _ _).drew, ?_⟩
  all_goals try (intro hh; cases hh)
  simpa [flat] using hS.drew
theorem K8.up0 {wd wc : World} {Q4 Q5 P4 P5 : Nat} {kk4 lo4 kk5 lo5 : Int} {a4 a5 : Option Addr} {n4 n5 c4 c5 : Nat} {L4 L5 : List (Int × Int)} {bs : List Ent} {E : Nat → List Ent} {D : Nat → Bool} {V : Nat → Value} {w : World} (hK : K8 wd wc Q4 Q5 P4 P5 kk4 lo4 kk5 lo5 a4 a5 n4 n5 c4 c5 L4 L5 bs E D V w) (hi : D 0 = false) : K8 wd wc Q4 Q5 P4 P5 kk4 lo4 kk5 lo5 a4 a5 n4 n5 c4 c5 L4 L5 bs E (updD D 0) (updV V 0 (.pointer (some ⟨Q4, 2, none⟩))) w := by
  exact ⟨fun _ => rfl, hK.v1, hK.v2, hK.v3, hK.v4, hK.v5, hK.v6, hK.v7, hK.v8, hK.v10, hK.n3, hK.n7, hK.o9_8, hK.o9_3, hK.o11_10, hK.o11_7, hK.eb, hK.x0, hK.x1, hK.below, hK.sep⟩
theorem K8.up1 {wd wc : World} {Q4 Q5 P4 P5 : Nat} {kk4 lo4 kk5 lo5 : Int} {a4 a5 : Option Addr} {n4 n5 c4 c5 : Nat} {L4 L5 : List (Int × Int)} {bs : List Ent} {E : Nat → List Ent} {D : Nat → Bool} {V : Nat → Value} {w : World} (hK : K8 wd wc Q4 Q5 P4 P5 kk4 lo4 kk5 lo5 a4 a5 n4 n5 c4 c5 L4 L5 bs E D V w) (hi : D 1 = false) : K8 wd wc Q4 Q5 P4 P5 kk4 lo4 kk5 lo5 a4 a5 n4 n5 c4 c5 L4 L5 bs E (updD D 1) (updV V 1 (.slice a4 n4 c4)) w := by
  exact ⟨hK.v0, fun _ => rfl, hK.v2, hK.v3, hK.v4, hK.v5, hK.v6, hK.v7, hK.v8, hK.v10, hK.n3, hK.n7, hK.o9_8, hK.o9_3, hK.o11_10, hK.o11_7, hK.eb, hK.x0, hK.x1, hK.below, hK.sep⟩
theorem K8.up2 {wd wc : World} {Q4 Q5 P4 P5 : Nat} {kk4 lo4 kk5 lo5 : Int} {a4 a5 : Option Addr} {n4 n5 c4 c5 : Nat} {L4 L5 : List (Int × Int)} {bs : List Ent} {E : Nat → List Ent} {D : Nat → Bool} {V : Nat → Value} {w : World} (hK : K8 wd wc Q4 Q5 P4 P5 kk4 lo4 kk5 lo5 a4 a5 n4 n5 c4 c5 L4 L5 bs E D V w) (hi : D 2 = false) : K8 wd wc Q4 Q5 P4 P5 kk4 lo4 kk5 lo5 a4 a5 n4 n5 c4 c5 L4 L5 bs E (updD D 2) (updV V 2 (.agg #[.int .i64 0, .int .i64 (-7)])) w := by
  exact ⟨hK.v0, hK.v1, fun _ => rfl, hK.v3, hK.v4, hK.v5, hK.v6, hK.v7, hK.v8, hK.v10, hK.n3, hK.n7, hK.o9_8, hK.o9_3, hK.o11_10, hK.o11_7, hK.eb, hK.x0, hK.x1, hK.below, hK.sep⟩
theorem K8.up3 {wd wc : World} {Q4 Q5 P4 P5 : Nat} {kk4 lo4 kk5 lo5 : Int} {a4 a5 : Option Addr} {n4 n5 c4 c5 : Nat} {L4 L5 : List (Int × Int)} {bs : List Ent} {E : Nat → List Ent} {D : Nat → Bool} {V : Nat → Value} {w : World} {w' : World} {g : Nat} (hK : K8 wd wc Q4 Q5 P4 P5 kk4 lo4 kk5 lo5 a4 a5 n4 n5 c4 c5 L4 L5 bs E D V w) (hi : D 3 = false) (hw : wd.heap.size ≤ wc.heap.size) (hO : Sep w.heap.size w' ([(⟨36, 2, .slice (some ⟨g, 0, none⟩) (n4 + 3) (n4 + 3), n4 + 3, cntV L4 ++ ([.int .i64 0, .int .i64 (-7)] ++ ([.int .i64 0, .int .i64 (-7)] ++ [.int .i64 0, .int .i64 (-7)]))⟩ : Ent)])) (hB : Below w.heap.size w w') :
    K8 wd wc Q4 Q5 P4 P5 kk4 lo4 kk5 lo5 a4 a5 n4 n5 c4 c5 L4 L5 bs (updE E 3 ([(⟨36, 2, .slice (some ⟨g, 0, none⟩) (n4 + 3) (n4 + 3), n4 + 3, cntV L4 ++ ([.int .i64 0, .int .i64 (-7)] ++ ([.int .i64 0, .int .i64 (-7)] ++ [.int .i64 0, .int .i64 (-7)]))⟩ : Ent)])) (updD D 3) (updV V 3 (.slice (some ⟨g, 0, none⟩) n4 (n4 + 3))) w' := by
  have hsz := hK.below.size
  have h9 : D 9 = false := by
    cases hD : D 9 with
    | false => rfl
    | true => have := hK.o9_3 hD; rw [hi] at this; cases this
  have hS := hK.sep.put (i := 3) (by omega) (hK.n3 hi) (by omega) hB hO
  exact ⟨hK.v0, hK.v1, hK.v2, fun _ => ⟨g, rfl, rfl⟩, hK.v4, hK.v5, hK.v6, hK.v7, hK.v8, hK.v10, (fun h => (nomatch (show true = false from h))), hK.n7, hK.o9_8, fun _ => rfl, hK.o11_10, hK.o11_7, hK.eb, by
    have hh := hK.x0
    rw [h9] at hh
    show E 13 = [sE 30 P4 [.int .i64 kk4, .int .i64 lo4, if D 9 = true then (.slice (some ⟨g, 0, none⟩) n4 (n4 + 3)) else .slice a4 n4 c4]]
    rw [h9]
    exact hh, hK.x1, hK.below.trans (hB.mono (by omega)), hS⟩
theorem K8.up4 {wd wc : World} {Q4 Q5 P4 P5 : Nat} {kk4 lo4 kk5 lo5 : Int} {a4 a5 : Option Addr} {n4 n5 c4 c5 : Nat} {L4 L5 : List (Int × Int)} {bs : List Ent} {E : Nat → List Ent} {D : Nat → Bool} {V : Nat → Value} {w : World} (hK : K8 wd wc Q4 Q5 P4 P5 kk4 lo4 kk5 lo5 a4 a5 n4 n5 c4 c5 L4 L5 bs E D V w) (hi : D 4 = false) : K8 wd wc Q4 Q5 P4 P5 kk4 lo4 kk5 lo5 a4 a5 n4 n5 c4 c5 L4 L5 bs E (updD D 4) (updV V 4 (.pointer (some ⟨Q5, 2, none⟩))) w := by
  exact ⟨hK.v0, hK.v1, hK.v2, hK.v3, fun _ => rfl, hK.v5, hK.v6, hK.v7, hK.v8, hK.v10, hK.n3, hK.n7, hK.o9_8, hK.o9_3, hK.o11_10, hK.o11_7, hK.eb, hK.x0, hK.x1, hK.below, hK.sep⟩
theorem K8.up5 {wd wc : World} {Q4 Q5 P4 P5 : Nat} {kk4 lo4 kk5 lo5 : Int} {a4 a5 : Option Addr} {n4 n5 c4 c5 : Nat} {L4 L5 : List (Int × Int)} {bs : List Ent} {E : Nat → List Ent} {D : Nat → Bool} {V : Nat → Value} {w : World} (hK : K8 wd wc Q4 Q5 P4 P5 kk4 lo4 kk5 lo5 a4 a5 n4 n5 c4 c5 L4 L5 bs E D V w) (hi : D 5 = false) : K8 wd wc Q4 Q5 P4 P5 kk4 lo4 kk5 lo5 a4 a5 n4 n5 c4 c5 L4 L5 bs E (updD D 5) (updV V 5 (.slice a5 n5 c5)) w := by
  exact ⟨hK.v0, hK.v1, hK.v2, hK.v3, hK.v4, fun _ => rfl, hK.v6, hK.v7, hK.v8, hK.v10, hK.n3, hK.n7, hK.o9_8, hK.o9_3, hK.o11_10, hK.o11_7, hK.eb, hK.x0, hK.x1, hK.below, hK.sep⟩
theorem K8.up6 {wd wc : World} {Q4 Q5 P4 P5 : Nat} {kk4 lo4 kk5 lo5 : Int} {a4 a5 : Option Addr} {n4 n5 c4 c5 : Nat} {L4 L5 : List (Int × Int)} {bs : List Ent} {E : Nat → List Ent} {D : Nat → Bool} {V : Nat → Value} {w : World} (hK : K8 wd wc Q4 Q5 P4 P5 kk4 lo4 kk5 lo5 a4 a5 n4 n5 c4 c5 L4 L5 bs E D V w) (hi : D 6 = false) : K8 wd wc Q4 Q5 P4 P5 kk4 lo4 kk5 lo5 a4 a5 n4 n5 c4 c5 L4 L5 bs E (updD D 6) (updV V 6 (.agg #[.int .i64 0, .int .i64 (-8)])) w := by
  exact ⟨hK.v0, hK.v1, hK.v2, hK.v3, hK.v4, hK.v5, fun _ => rfl, hK.v7, hK.v8, hK.v10, hK.n3, hK.n7, hK.o9_8, hK.o9_3, hK.o11_10, hK.o11_7, hK.eb, hK.x0, hK.x1, hK.below, hK.sep⟩
theorem K8.up7 {wd wc : World} {Q4 Q5 P4 P5 : Nat} {kk4 lo4 kk5 lo5 : Int} {a4 a5 : Option Addr} {n4 n5 c4 c5 : Nat} {L4 L5 : List (Int × Int)} {bs : List Ent} {E : Nat → List Ent} {D : Nat → Bool} {V : Nat → Value} {w : World} {w' : World} {g : Nat} (hK : K8 wd wc Q4 Q5 P4 P5 kk4 lo4 kk5 lo5 a4 a5 n4 n5 c4 c5 L4 L5 bs E D V w) (hi : D 7 = false) (hw : wd.heap.size ≤ wc.heap.size) (hO : Sep w.heap.size w' ([(⟨36, 2, .slice (some ⟨g, 0, none⟩) (n5 + 3) (n5 + 3), n5 + 3, cntV L5 ++ ([.int .i64 0, .int .i64 (-8)] ++ ([.int .i64 0, .int .i64 (-8)] ++ [.int .i64 0, .int .i64 (-8)]))⟩ : Ent)])) (hB : Below w.heap.size w w') :
    K8 wd wc Q4 Q5 P4 P5 kk4 lo4 kk5 lo5 a4 a5 n4 n5 c4 c5 L4 L5 bs (updE E 7 ([(⟨36, 2, .slice (some ⟨g, 0, none⟩) (n5 + 3) (n5 + 3), n5 + 3, cntV L5 ++ ([.int .i64 0, .int .i64 (-8)] ++ ([.int .i64 0, .int .i64 (-8)] ++ [.int .i64 0, .int .i64 (-8)]))⟩ : Ent)])) (updD D 7) (updV V 7 (.slice (some ⟨g, 0, none⟩) n5 (n5 + 3))) w' := by
  have hsz := hK.below.size
  have h11 : D 11 = false := by
    cases hD : D 11 with
    | false => rfl
    | true => have := hK.o11_7 hD; rw [hi] at this; cases this
  have hS := hK.sep.put (i := 7) (by omega) (hK.n7 hi) (by omega) hB hO
  exact ⟨hK.v0, hK.v1, hK.v2, hK.v3, hK.v4, hK.v5, hK.v6, fun _ => ⟨g, rfl, rfl⟩, hK.v8, hK.v10, hK.n3, (fun h => (nomatch (show true = false from h))), hK.o9_8, hK.o9_3, hK.o11_10, fun _ => rfl, hK.eb, hK.x0, by
    have hh := hK.x1
    rw [h11] at hh
    show E 14 = [sE 30 P5 [.int .i64 kk5, .int .i64 lo5, if D 11 = true then (.slice (some ⟨g, 0, none⟩) n5 (n5 + 3)) else .slice a5 n5 c5]]
    rw [h11]
    exact hh, hK.below.trans (hB.mono (by omega)), hS⟩
theorem K8.up8 {wd wc : World} {Q4 Q5 P4 P5 : Nat} {kk4 lo4 kk5 lo5 : Int} {a4 a5 : Option Addr} {n4 n5 c4 c5 : Nat} {L4 L5 : List (Int × Int)} {bs : List Ent} {E : Nat → List Ent} {D : Nat → Bool} {V : Nat → Value} {w : World} (hK : K8 wd wc Q4 Q5 P4 P5 kk4 lo4 kk5 lo5 a4 a5 n4 n5 c4 c5 L4 L5 bs E D V w) (hi : D 8 = false) : K8 wd wc Q4 Q5 P4 P5 kk4 lo4 kk5 lo5 a4 a5 n4 n5 c4 c5 L4 L5 bs E (updD D 8) (updV V 8 (.pointer (some ⟨P4, 2, none⟩))) w := by
  have h9 : D 9 = false := by
    cases hD : D 9 with
    | false => rfl
    | true => have := hK.o9_8 hD; rw [hi] at this; cases this
  exact ⟨hK.v0, hK.v1, hK.v2, hK.v3, hK.v4, hK.v5, hK.v6, hK.v7, fun _ => rfl, hK.v10, hK.n3, hK.n7, fun _ => rfl, hK.o9_3, hK.o11_10, hK.o11_7, hK.eb, hK.x0, hK.x1, hK.below, hK.sep⟩
theorem K8.up9 {wd wc : World} {Q4 Q5 P4 P5 : Nat} {kk4 lo4 kk5 lo5 : Int} {a4 a5 : Option Addr} {n4 n5 c4 c5 : Nat} {L4 L5 : List (Int × Int)} {bs : List Ent} {E : Nat → List Ent} {D : Nat → Bool} {V : Nat → Value} {w : World} {g : Nat} (hK : K8 wd wc Q4 Q5 P4 P5 kk4 lo4 kk5 lo5 a4 a5 n4 n5 c4 c5 L4 L5 bs E D V w) (hi : D 9 = false) (g8 : D 8 = true) (g3 : D 3 = true) (hP : wd.heap.size ≤ P4) (h1 : V 3 = .slice (some ⟨g, 0, none⟩) n4 (n4 + 3)) :
    w.frozen? ⟨P4, 2, none⟩ = false ∧ w.cell? ⟨P4, 2, none⟩ = some (.slice a4 n4 c4) ∧ K8 wd wc Q4 Q5 P4 P5 kk4 lo4 kk5 lo5 a4 a5 n4 n5 c4 c5 L4 L5 bs (updE E 13 [sE 30 P4 [.int .i64 kk4, .int .i64 lo4, .slice (some ⟨g, 0, none⟩) n4 (n4 + 3)]]) (updD D 9) (updV V 9 undef) (w.setCell ⟨P4, 2, none⟩ (.slice (some ⟨g, 0, none⟩) n4 (n4 + 3))) := by
  have hE := hK.x0
  simp only [hi, Bool.false_eq_true, if_false] at hE
  have hown := hK.sep.own (sE 30 P4 [.int .i64 kk4, .int .i64 lo4, .slice a4 n4 c4]) (mem_flat (i := 13) (by omega) (by rw [hE]; simp))
  have hS0 := hK.sep.pokeS (i := 13) (by omega) hE 2 (.slice (some ⟨g, 0, none⟩) n4 (n4 + 3))
  have hS' : Sep wd.heap.size (w.setCell ⟨P4, 2, none⟩ (.slice (some ⟨g, 0, none⟩) n4 (n4 + 3))) (flat (updE E 13 [sE 30 P4 [.int .i64 kk4, .int .i64 lo4, .slice (some ⟨g, 0, none⟩) n4 (n4 + 3)]]) 15) := hS0
  refine ⟨World.ownsRow.frozenAt hown 2, World.ownsRow.cellAt hown 2 (by show 2 < 1 * 3; omega), ?_⟩
  exact ⟨hK.v0, hK.v1, hK.v2, hK.v3, hK.v4, hK.v5, hK.v6, hK.v7, hK.v8, hK.v10, hK.n3, hK.n7, fun _ => g8, fun _ => g3, hK.o11_10, hK.o11_7, hK.eb, by
    show [sE 30 P4 [.int .i64 kk4, .int .i64 lo4, .slice (some ⟨g, 0, none⟩) n4 (n4 + 3)]] = [sE 30 P4 [.int .i64 kk4, .int .i64 lo4, V 3]]
    rw [h1], hK.x1, (hK.below.setCell (by exact hP) _), hS'⟩
theorem K8.up10 {wd wc : World} {Q4 Q5 P4 P5 : Nat} {kk4 lo4 kk5 lo5 : Int} {a4 a5 : Option Addr} {n4 n5 c4 c5 : Nat} {L4 L5 : List (Int × Int)} {bs : List Ent} {E : Nat → List Ent} {D : Nat → Bool} {V : Nat → Value} {w : World} (hK : K8 wd wc Q4 Q5 P4 P5 kk4 lo4 kk5 lo5 a4 a5 n4 n5 c4 c5 L4 L5 bs E D V w) (hi : D 10 = false) : K8 wd wc Q4 Q5 P4 P5 kk4 lo4 kk5 lo5 a4 a5 n4 n5 c4 c5 L4 L5 bs E (updD D 10) (updV V 10 (.pointer (some ⟨P5, 2, none⟩))) w := by
  have h11 : D 11 = false := by
    cases hD : D 11 with
    | false => rfl
    | true => have := hK.o11_10 hD; rw [hi] at this; cases this
  exact ⟨hK.v0, hK.v1, hK.v2, hK.v3, hK.v4, hK.v5, hK.v6, hK.v7, hK.v8, fun _ => rfl, hK.n3, hK.n7, hK.o9_8, hK.o9_3, fun _ => rfl, hK.o11_7, hK.eb, hK.x0, hK.x1, hK.below, hK.sep⟩
theorem K8.up11 {wd wc : World} {Q4 Q5 P4 P5 : Nat} {kk4 lo4 kk5 lo5 : Int} {a4 a5 : Option Addr} {n4 n5 c4 c5 : Nat} {L4 L5 : List (Int × Int)} {bs : List Ent} {E : Nat → List Ent} {D : Nat → Bool} {V : Nat → Value} {w : World} {g : Nat} (hK : K8 wd wc Q4 Q5 P4 P5 kk4 lo4 kk5 lo5 a4 a5 n4 n5 c4 c5 L4 L5 bs E D V w) (hi : D 11 = false) (g10 : D 10 = true) (g7 : D 7 = true) (hP : wd.heap.size ≤ P5) (h1 : V 7 = .slice (some ⟨g, 0, none⟩) n5 (n5 + 3)) :
    w.frozen? ⟨P5, 2, none⟩ = false ∧ w.cell? ⟨P5, 2, none⟩ = some (.slice a5 n5 c5) ∧ K8 wd wc Q4 Q5 P4 P5 kk4 lo4 kk5 lo5 a4 a5 n4 n5 c4 c5 L4 L5 bs (updE E 14 [sE 30 P5 [.int .i64 kk5, .int .i64 lo5, .slice (some ⟨g, 0, none⟩) n5 (n5 + 3)]]) (updD D 11) (updV V 11 undef) (w.setCell ⟨P5, 2, none⟩ (.slice (some ⟨g, 0, none⟩) n5 (n5 + 3))) := by
  have hE := hK.x1
  simp only [hi, Bool.false_eq_true, if_false] at hE
  have hown := hK.sep.own (sE 30 P5 [.int .i64 kk5, .int .i64 lo5, .slice a5 n5 c5]) (mem_flat (i := 14) (by omega) (by rw [hE]; simp))
  have hS0 := hK.sep.pokeS (i := 14) (by omega) hE 2 (.slice (some ⟨g, 0, none⟩) n5 (n5 + 3))
  have hS' : Sep wd.heap.size (w.setCell ⟨P5, 2, none⟩ (.slice (some ⟨g, 0, none⟩) n5 (n5 + 3))) (flat (updE E 14 [sE 30 P5 [.int .i64 kk5, .int .i64 lo5, .slice (some ⟨g, 0, none⟩) n5 (n5 + 3)]]) 15) := hS0
  refine ⟨World.ownsRow.frozenAt hown 2, World.ownsRow.cellAt hown 2 (by show 2 < 1 * 3; omega), ?_⟩
  exact ⟨hK.v0, hK.v1, hK.v2, hK.v3, hK.v4, hK.v5, hK.v6, hK.v7, hK.v8, hK.v10, hK.n3, hK.n7, hK.o9_8, hK.o9_3, fun _ => g10, fun _ => g7, hK.eb, hK.x0, by
    show [sE 30 P5 [.int .i64 kk5, .int .i64 lo5, .slice (some ⟨g, 0, none⟩) n5 (n5 + 3)]] = [sE 30 P5 [.int .i64 kk5, .int .i64 lo5, V 7]]
    rw [h1], (hK.below.setCell (by exact hP) _), hS'⟩
theorem row_one (x : Int) : [Value.int .i64 0, .int .i64 x] ++ ([.int .i64 0, .int .i64 x] ++ [.int .i64 0, .int .i64 x]) = [.int .i64 0, .int .i64 x, .int .i64 0, .int .i64 x, .int .i64 0, .int .i64 x] := rfl
set_option maxHeartbeats 16000000 in
theorem pR8 {w0 wd W : World} {P4 P5 P0 g0 n0 P1 g1 n1 n4 n5 : Nat} {kk4 lo4 kk5 lo5 sz0 wy0 sz1 wy1 : Int} {bf0 bf1 : List Bool} {L4 L5 : List (Int × Int)} {Q0 Q1 Q2 Q3 Q4 Q5 hh c0 c1 c2 c3 c4 c5 : Nat} {a0 a1 a2 a3 a4 a5 : Option Addr} {P2 P3 n2 n3 c7 c8 : Nat} {a7 a8 : Option Addr} {wd2 wd3 : Int} {xs2 xs3 : List (List Int)} {G2 G3 : Nat → Nat} {key nn : Int}
    {u0 u1 u2 u3 u4 u5 u14 u15 u16 u17 u18 u25 u26 u27 u28 u29 u30 u31 u32 u33 u34 u35 u36 u37 u38 u39 u40 u41 u42 u43 u44 u45 u46 u47 u48 u49 u50 u51 u52 u53 u54 u55 u56 u57 u58 u59 u60 u61 u62 u63 u64 u65 u66 u67 u68 u69 u70 u71 u72 u73 u74 u75 u76 u77 u78 u79 u80 u81 u82 u83 u84 u85 u86 u87 u88 u89 u90 u91 u92 u93 u94 u95 u96 u97 u98 u99 u100 u101 u102 u103 u104 u105 u106 u107 u108 u109 u110 u111 u112 u113 u114 u115 u116 u117 u118 u119 u120 u121 u122 u123 u124 u125 u126 u127 u128 u129 u130 u131 u132 u133 u134 u135 u136 u137 u138 u139 u140 u141 u142 u143 u144 u145 u146 u147 u148 u149 u150 u151 u152 u153 u154 u155 u156 u157 u158 u159 u160 u161 u162 u163 u164 u165 u166 u167 u168 u169 u170 u171 u172 u173 u174 u175 u176 u177 u178 u179 u180 u181 u182 u183 u184 u185 u186 u187 u188 u189 u190 u191 u192 u193 u194 u195 u196 u197 u198 u199 u200 u201 u202 u203 u204 u205 u206 u207 u208 u209 u210 u211 u212 u213 u214 u215 u216 u217 u218 u219 u220 u221 u222 u223 u224 u225 u226 u227 u228 u229 u230 u231 u232 u233 u234 u235 u236 u237 u238 u239 u240 u241 u242 u243 u244 u245 u246 u247 u248 u249 u250 u251 u252 u253 u254 u255 u256 u257 u258 u259 u260 u261 u262 u263 u264 u265 u266 u267 u268 u269 u270 u271 u272 u273 u274 u275 u276 u277 u278 u279 u280 u281 u282 u283 u284 u285 u286 u287 u288 u289 u290 u291 u292 u293 u294 u295 u296 u297 u298 u299 u300 u301 u302 u303 u304 u305 u306 u307 u308 u309 u310 u311 u312 u313 u314 u315 u316 u317 u318 u319 u320 u321 u322 u323 u324 u325 u326 u327 u328 : Value}
    (hw : Below w0.heap.size w0 W) (hB0 : w0.heap.size ≤ wd.heap.size) (hwc : wd.heap.size ≤ W.heap.size) (hhh : hh ≤ wd.heap.size)
    (S : Sep wd.heap.size W ((([sE 27 P2 [.int .i64 wd2, .slice a7 n2 c7]] ++ (hdrE (.slice a7 n2 c7) n2 (rowsV xs2 G2 n2) :: rowsE xs2 G2 n2)) ++ (([sE 27 P3 [.int .i64 wd3, .slice a8 n3 c8]] ++ (hdrE (.slice a8 n3 c8) n3 (rowsV xs3 G3 n3) :: rowsE xs3 G3 n3)) ++ ([sE 24 P0 [.int .i64 sz0, .int .i64 wy0, .slice (some ⟨g0, 0, none⟩) n0 (n0 + 3)], bE (.slice (some ⟨g0, 0, none⟩) (n0 + 3) (n0 + 3)) (n0 + 3) (bf0 ++ [true, true, true])] ++ [sE 24 P1 [.int .i64 sz1, .int .i64 wy1, .slice (some ⟨g1, 0, none⟩) n1 (n1 + 3)], bE (.slice (some ⟨g1, 0, none⟩) (n1 + 3) (n1 + 3)) (n1 + 3) (bf1 ++ [true, true, true])]))) ++ [sE 30 P4 [.int .i64 kk4, .int .i64 lo4, .slice a4 n4 c4]] ++ [sE 30 P5 [.int .i64 kk5, .int .i64 lo5, .slice a5 n5 c5]]))
    (BX : Boxes hh [(Q0, 0, .int .i64 sz0), (Q0, 1, .int .i64 wy0), (Q0, 2, .slice a0 n0 c0), (Q1, 0, .int .i64 sz1), (Q1, 1, .int .i64 wy1), (Q1, 2, .slice a1 n1 c1), (Q2, 0, .int .i64 wd2), (Q2, 1, .slice a2 n2 c2), (Q3, 0, .int .i64 wd3), (Q3, 1, .slice a3 n3 c3), (Q4, 0, .int .i64 kk4), (Q4, 1, .int .i64 lo4), (Q4, 2, .slice a4 n4 c4), (Q5, 0, .int .i64 kk5), (Q5, 1, .int .i64 lo5), (Q5, 2, .slice a5 n5 c5)] W) (I0 : BoolsAt w0 a0 n0 c0 bf0) (I1 : BoolsAt w0 a1 n1 c1 bf1) (I2 : RowsZ w0 a2 n2 c2 xs2) (I3 : RowsZ w0 a3 n3 c3 xs3) (I4 : CntAt w0 a4 n4 c4 L4) (I5 : CntAt w0 a5 n5 c5 L5)
    (z4 : a4 = none → c4 = 0) (z5 : a5 = none → c5 = 0)
    (hn0 : n0 ≤ 1048576) (hn1 : n1 ≤ 1048576) (hn2 : n2 ≤ 1048576) (hn3 : n3 ≤ 1048576) (hn4 : n4 ≤ 1048576) (hn5 : n5 ≤ 1048576) :
    (cd 6).wp Try.prog (bodyPost Try.prog Try.f3 (fun e w' => e = .returned (.bool true) ∧ Below w0.heap.size w0 w'))
      ⟨#[u0, u1, u2, u3, u4, u5, .int .i64 key, .int .i64 nn, .pointer (some ⟨Q0, 0, none⟩), .pointer (some ⟨Q1, 0, none⟩), .pointer (some ⟨Q2, 0, none⟩), .pointer (some ⟨Q3, 0, none⟩), .pointer (some ⟨Q4, 0, none⟩), .pointer (some ⟨Q5, 0, none⟩), u14, u15, u16, u17, u18, .pointer (some ⟨P0, 0, none⟩), .pointer (some ⟨P1, 0, none⟩), .pointer (some ⟨P2, 0, none⟩), .pointer (some ⟨P3, 0, none⟩), .pointer (some ⟨P4, 0, none⟩), .pointer (some ⟨P5, 0, none⟩), u25, u26, u27, u28, u29, u30, u31, u32, u33, u34, u35, u36, u37, u38, u39, u40, u41, u42, u43, u44, u45, u46, u47, u48, u49, u50, u51, u52, u53, u54, u55, u56, u57, u58, u59, u60, u61, u62, u63, u64, u65, u66, u67, u68, u69, u70, u71, u72, u73, u74, u75, u76, u77, u78, u79, u80, u81, u82, u83, u84, u85, u86, u87, u88, u89, u90, u91, u92, u93, u94, u95, u96, u97, u98, u99, u100, u101, u102, u103, u104, u105, u106, u107, u108, u109, u110, u111, u112, u113, u114, u115, u116, u117, u118, u119, u120, u121, u122, u123, u124, u125, u126, u127, u128, u129, u130, u131, u132, u133, u134, u135, u136, u137, u138, u139, u140, u141, u142, u143, u144, u145, u146, u147, u148, u149, u150, u151, u152, u153, u154, u155, u156, u157, u158, u159, u160, u161, u162, u163, u164, u165, u166, u167, u168, u169, u170, u171, u172, u173, u174, u175, u176, u177, u178, u179, u180, u181, u182, u183, u184, u185, u186, u187, u188, u189, u190, u191, u192, u193, u194, u195, u196, u197, u198, u199, u200, u201, u202, u203, u204, u205, u206, u207, u208, u209, u210, u211, u212, u213, u214, u215, u216, u217, u218, u219, u220, u221, u222, u223, u224, u225, u226, u227, u228, u229, u230, u231, u232, u233, u234, u235, u236, u237, u238, u239, u240, u241, u242, u243, u244, u245, u246, u247, u248, u249, u250, u251, u252, u253, u254, u255, u256, u257, u258, u259, u260, u261, u262, u263, u264, u265, u266, u267, u268, u269, u270, u271, u272, u273, u274, u275, u276, u277, u278, u279, u280, u281, u282, u283, u284, u285, u286, u287, u288, u289, u290, u291, u292, u293, u294, u295, u296, u297, u298, u299, u300, u301, u302, u303, u304, u305, u306, u307, u308, u309, u310, u311, u312, u313, u314, u315, u316, u317, u318, u319, u320, u321, u322, u323, u324, u325, u326, u327, u328], []⟩ W := by
  have HI := hidp (And.intro I0 (And.intro I1 (And.intro I2 (And.intro I3 (And.intro I4 I5)))))
  have HBX := hidp BX
  have HW := hidp hw
  have HS := hidp S
  have q4 : W.cell? ⟨Q4, 2, none⟩ = some (.slice a4 n4 c4) := (BX.at_ Q4 2 (.slice a4 n4 c4) (by simp)).2
  have q5 : W.cell? ⟨Q5, 2, none⟩ = some (.slice a5 n5 c5) := (BX.at_ Q5 2 (.slice a5 n5 c5) (by simp)).2
  have lQ4 : Q4 < wd.heap.size := Nat.lt_of_lt_of_le (BX.at_ Q4 2 (.slice a4 n4 c4) (by simp)).1 hhh
  have lQ5 : Q5 < wd.heap.size := Nat.lt_of_lt_of_le (BX.at_ Q5 2 (.slice a5 n5 c5) (by simp)).1 hhh
  have hP4 := ((S.own (sE 30 P4 [.int .i64 kk4, .int .i64 lo4, .slice a4 n4 c4]) (by simp)).lt P4 rfl).1
  have hP5 := ((S.own (sE 30 P5 [.int .i64 kk5, .int .i64 lo5, .slice a5 n5 c5]) (by simp)).lt P5 rfl).1
  have C4 := hidp (fun W' (hB : Below w0.heap.size w0 W') => (roomyC_c a4 n4 c4 (cntV L4) 0 (-7) W' (by rw [cntV_len, I4.len]) (fun b hb j u hu => (I4.below hB).cellsAt b hb j u hu) (cntV_one L4) (fun e => by have h1 := I4.le; have h2 := z4 e; exact ⟨by omega, h2⟩) I4.le I4.max (by omega)).mono (fun e w' h => (show ∃ g, e = .returned (.slice (some ⟨g, 0, none⟩) n4 (n4 + 3)) ∧ Sep W'.heap.size w' [(⟨36, 2, .slice (some ⟨g, 0, none⟩) (n4 + 3) (n4 + 3), n4 + 3, cntV L4 ++ ([.int .i64 0, .int .i64 (-7)] ++ ([.int .i64 0, .int .i64 (-7)] ++ [.int .i64 0, .int .i64 (-7)]))⟩ : Ent)] ∧ Below W'.heap.size W' w' from by
    obtain ⟨g, h1, h2, h3⟩ := h
    exact ⟨g, h1, Sep.one h2, h3⟩)))
  have C5 := hidp (fun W' (hB : Below w0.heap.size w0 W') => (roomyC_c a5 n5 c5 (cntV L5) 0 (-8) W' (by rw [cntV_len, I5.len]) (fun b hb j u hu => (I5.below hB).cellsAt b hb j u hu) (cntV_one L5) (fun e => by have h1 := I5.le; have h2 := z5 e; exact ⟨by omega, h2⟩) I5.le I5.max (by omega)).mono (fun e w' h => (show ∃ g, e = .returned (.slice (some ⟨g, 0, none⟩) n5 (n5 + 3)) ∧ Sep W'.heap.size w' [(⟨36, 2, .slice (some ⟨g, 0, none⟩) (n5 + 3) (n5 + 3), n5 + 3, cntV L5 ++ ([.int .i64 0, .int .i64 (-8)] ++ ([.int .i64 0, .int .i64 (-8)] ++ [.int .i64 0, .int .i64 (-8)]))⟩ : Ent)] ∧ Below W'.heap.size W' w' from by
    obtain ⟨g, h1, h2, h3⟩ := h
    exact ⟨g, h1, Sep.one h2, h3⟩)))
  clear S BX I0 I1 I2 I3 I4 I5 hw
  conv => arg 2; whnf
  dsimp only
  apply wp_seq_k; intro K hK
  have HK := hidp hK
  clear hK
  go_upto_region 8 with fail
  obtain ⟨bs8, hbe⟩ : ∃ bs, Hid (bs = (([sE 27 P2 [.int .i64 wd2, .slice a7 n2 c7]] ++ (hdrE (.slice a7 n2 c7) n2 (rowsV xs2 G2 n2) :: rowsE xs2 G2 n2)) ++ (([sE 27 P3 [.int .i64 wd3, .slice a8 n3 c8]] ++ (hdrE (.slice a8 n3 c8) n3 (rowsV xs3 G3 n3) :: rowsE xs3 G3 n3)) ++ ([sE 24 P0 [.int .i64 sz0, .int .i64 wy0, .slice (some ⟨g0, 0, none⟩) n0 (n0 + 3)], bE (.slice (some ⟨g0, 0, none⟩) (n0 + 3) (n0 + 3)) (n0 + 3) (bf0 ++ [true, true, true])] ++ [sE 24 P1 [.int .i64 sz1, .int .i64 wy1, .slice (some ⟨g1, 0, none⟩) n1 (n1 + 3)], bE (.slice (some ⟨g1, 0, none⟩) (n1 + 3) (n1 + 3)) (n1 + 3) (bf1 ++ [true, true, true])])))) := ⟨_, hidp rfl⟩
  have hS8 : Sep wd.heap.size W (bs8 ++ [sE 30 P4 [.int .i64 kk4, .int .i64 lo4, .slice a4 n4 c4]] ++ [sE 30 P5 [.int .i64 kk5, .int .i64 lo5, .slice a5 n5 c5]]) := by rw [hbe.out]; exact HS.out
  generalize ha : Act.mk _ _ = A0
  have t12 : A0.eval (.tmp 12) = .pointer (some ⟨Q4, 0, none⟩) := by rw [← ha]; rfl
  have t13 : A0.eval (.tmp 13) = .pointer (some ⟨Q5, 0, none⟩) := by rw [← ha]; rfl
  have t23 : A0.eval (.tmp 23) = .pointer (some ⟨P4, 0, none⟩) := by rw [← ha]; rfl
  have t24 : A0.eval (.tmp 24) = .pointer (some ⟨P5, 0, none⟩) := by rw [← ha]; rfl
  have tsz : A0.tmps.size = 329 := by rw [← ha]; rfl
  refine region_duty (by kernel_rfl) (by kernel_rfl) (fun D V w => ∃ E, K8 wd W Q4 Q5 P4 P5 kk4 lo4 kk5 lo5 a4 a5 n4 n5 c4 c5 L4 L5 bs8 E D V w) (fun _ => undef) ?h0 ?hst ?hfin
  case h0 => exact ⟨_, K8.start hS8⟩
  case hst =>
    refine ⟨?_, ?_, ?_, ?_, ?_, ?_, ?_, ?_, ?_, ?_, ?_, ?_, trivial⟩
    all_goals rintro D V w b hs hi hb ⟨EE, hK⟩
    · have e := (hs.old 12 (by kernel_rfl)).trans t12
      simp [Act.eval] at e
      go_simp
      exact ⟨_, rfl, EE, hK.up0 hi⟩
    · have e := (hs.got 0 80 (hb 0 _ rfl rfl) rfl (by decide) (by rw [tsz]; decide)).trans (hK.v0 (hb 0 _ rfl rfl))
      simp [Act.eval] at e
      have hc0 := ck' hK.below (lQ4) q4
      go_simp
      exact ⟨_, rfl, EE, hK.up1 hi⟩
    · go_simp
      exact ⟨_, rfl, EE, hK.up2 hi⟩
    · have e0 := (hs.got 1 81 (hb 0 _ rfl rfl) rfl (by decide) (by rw [tsz]; decide)).trans (hK.v1 (hb 0 _ rfl rfl))
      have e1 := (hs.got 2 82 (hb 1 _ rfl rfl) rfl (by decide) (by rw [tsz]; decide)).trans (hK.v2 (hb 1 _ rfl rfl))
      refine op_call 8 #[.tmp 81, .tmp 82] _ rfl (fun _ _ => by kernel_rfl) #[.slice a4 n4 c4, .agg #[.int .i64 0, .int .i64 (-7)]] (by simp [e0, e1]) _ (C4.out w (HW.out.trans (hK.below.mono hB0))) ?_
      rintro _ w' ⟨g, rfl, hO, hB⟩
      exact ⟨_, rfl, _, rfl, _, hK.up3 hi hwc hO hB⟩
    · have e := (hs.old 13 (by kernel_rfl)).trans t13
      simp [Act.eval] at e
      go_simp
      exact ⟨_, rfl, EE, hK.up4 hi⟩
    · have e := (hs.got 4 84 (hb 0 _ rfl rfl) rfl (by decide) (by rw [tsz]; decide)).trans (hK.v4 (hb 0 _ rfl rfl))
      simp [Act.eval] at e
      have hc0 := ck' hK.below (lQ5) q5
      go_simp
      exact ⟨_, rfl, EE, hK.up5 hi⟩
    · go_simp
      exact ⟨_, rfl, EE, hK.up6 hi⟩
    · have e0 := (hs.got 5 85 (hb 0 _ rfl rfl) rfl (by decide) (by rw [tsz]; decide)).trans (hK.v5 (hb 0 _ rfl rfl))
      have e1 := (hs.got 6 86 (hb 1 _ rfl rfl) rfl (by decide) (by rw [tsz]; decide)).trans (hK.v6 (hb 1 _ rfl rfl))
      refine op_call 8 #[.tmp 85, .tmp 86] _ rfl (fun _ _ => by kernel_rfl) #[.slice a5 n5 c5, .agg #[.int .i64 0, .int .i64 (-8)]] (by simp [e0, e1]) _ (C5.out w (HW.out.trans (hK.below.mono hB0))) ?_
      rintro _ w' ⟨g, rfl, hO, hB⟩
      exact ⟨_, rfl, _, rfl, _, hK.up7 hi hwc hO hB⟩
    · have e := (hs.old 23 (by kernel_rfl)).trans t23
      simp [Act.eval] at e
      go_simp
      exact ⟨_, rfl, EE, hK.up8 hi⟩
    · have e := (hs.got 8 88 (hb 0 _ rfl rfl) rfl (by decide) (by rw [tsz]; decide)).trans (hK.v8 (hb 0 _ rfl rfl))
      simp [Act.eval] at e
      obtain ⟨g, hv, _⟩ := hK.v3 (hb 1 _ rfl rfl)
      have e2 := (hs.got 3 83 (hb 1 _ rfl rfl) rfl (by decide) (by rw [tsz]; decide)).trans hv
      simp [Act.eval] at e2
      obtain ⟨hfz, hcl, hup⟩ := hK.up9 hi (hb 0 _ rfl rfl) (hb 1 _ rfl rfl) hP4 hv
      go_simp
      exact ⟨_, _, hup⟩
    · have e := (hs.old 24 (by kernel_rfl)).trans t24
      simp [Act.eval] at e
      go_simp
      exact ⟨_, rfl, EE, hK.up10 hi⟩
    · have e := (hs.got 10 89 (hb 0 _ rfl rfl) rfl (by decide) (by rw [tsz]; decide)).trans (hK.v10 (hb 0 _ rfl rfl))
      simp [Act.eval] at e
      obtain ⟨g, hv, _⟩ := hK.v7 (hb 1 _ rfl rfl)
      have e2 := (hs.got 7 87 (hb 1 _ rfl rfl) rfl (by decide) (by rw [tsz]; decide)).trans hv
      simp [Act.eval] at e2
      obtain ⟨hfz, hcl, hup⟩ := hK.up11 hi (hb 0 _ rfl rfl) (hb 1 _ rfl rfl) hP5 hv
      go_simp
      exact ⟨_, _, hup⟩
  rintro D V W1 hD ⟨EE, hK⟩
  have D9 := hD 9 (by decide)
  have D11 := hD 11 (by decide)
  have V0 := hK.v0 (hD 0 (by decide))
  have V1 := hK.v1 (hD 1 (by decide))
  have V2 := hK.v2 (hD 2 (by decide))
  obtain ⟨g4, V3, E3⟩ := hK.v3 (hD 3 (by decide))
  have V4 := hK.v4 (hD 4 (by decide))
  have V5 := hK.v5 (hD 5 (by decide))
  have V6 := hK.v6 (hD 6 (by decide))
  obtain ⟨g5, V7, E7⟩ := hK.v7 (hD 7 (by decide))
  have V8 := hK.v8 (hD 8 (by decide))
  have V10 := hK.v10 (hD 10 (by decide))
  have X0' := hK.x0
  simp only [D9, if_true, V3] at X0'
  have X1' := hK.x1
  simp only [D11, if_true, V7] at X1'
  have EB := hK.eb
  have hS := hK.sep
  have hb := hK.below
  clear hK
  have e : ∀ ops : Array Oper, ops.size = 12 → dstOf ops 0 = some 80 → dstOf ops 1 = some 81 → dstOf ops 2 = some 82 → dstOf ops 3 = some 83 → dstOf ops 4 = some 84 → dstOf ops 5 = some 85 → dstOf ops 6 = some 86 → dstOf ops 7 = some 87 → dstOf ops 8 = some 88 → dstOf ops 9 = none → dstOf ops 10 = some 89 → dstOf ops 11 = none →
      putM ops (Array.replicate ops.size true) V A0 ops.size = ((((((((((A0.put (some 80) (V 0)).put (some 81) (V 1)).put (some 82) (V 2)).put (some 83) (V 3)).put (some 84) (V 4)).put (some 85) (V 5)).put (some 86) (V 6)).put (some 87) (V 7)).put (some 88) (V 8)).put (some 89) (V 10)) := fun ops hs d0 d1 d2 d3 d4 d5 d6 d7 d8 d9 d10 d11 => by
    rw [hs]; simp [putM, d0, d1, d2, d3, d4, d5, d6, d7, d8, d9, d10, d11, Act.put]
  rw [e _ rfl rfl rfl rfl rfl rfl rfl rfl rfl rfl rfl rfl rfl, V0, V1, V2, V3, V4, V5, V6, V7, V8, V10, ← ha]
  clear e ha V0 V1 V2 V3 V4 V5 V6 V7 V8 V10 hD D9 D11 t12 t13 t23 t24 tsz
  go_simp
  refine HK.out _ _ ?_
  clear q4 q5 C4 C5 HK
  have hP := hS.sub (flat_pick EE 15 [3, 7, 12, 13, 14] (by decide) (by decide))
  simp only [List.flatMap_cons, List.flatMap_nil, List.append_nil, E3, E7, EB, X0', X1', hbe.out, row_one] at hP
  have hQ : Sep wd.heap.size W1 (([sE 27 P2 [.int .i64 wd2, .slice a7 n2 c7]] ++ (hdrE (.slice a7 n2 c7) n2 (rowsV xs2 G2 n2) :: rowsE xs2 G2 n2)) ++ (([sE 27 P3 [.int .i64 wd3, .slice a8 n3 c8]] ++ (hdrE (.slice a8 n3 c8) n3 (rowsV xs3 G3 n3) :: rowsE xs3 G3 n3)) ++ ([sE 30 P4 [.int .i64 kk4, .int .i64 lo4, .slice (some ⟨g4, 0, none⟩) n4 (n4 + 3)], ⟨36, 2, .slice (some ⟨g4, 0, none⟩) (n4 + 3) (n4 + 3), n4 + 3, cntV L4 ++ [.int .i64 0, .int .i64 (-7), .int .i64 0, .int .i64 (-7), .int .i64 0, .int .i64 (-7)]⟩] ++ ([sE 30 P5 [.int .i64 kk5, .int .i64 lo5, .slice (some ⟨g5, 0, none⟩) n5 (n5 + 3)], ⟨36, 2, .slice (some ⟨g5, 0, none⟩) (n5 + 3) (n5 + 3), n5 + 3, cntV L5 ++ [.int .i64 0, .int .i64 (-8), .int .i64 0, .int .i64 (-8), .int .i64 0, .int .i64 (-8)]⟩] ++ ([sE 24 P0 [.int .i64 sz0, .int .i64 wy0, .slice (some ⟨g0, 0, none⟩) n0 (n0 + 3)], bE (.slice (some ⟨g0, 0, none⟩) (n0 + 3) (n0 + 3)) (n0 + 3) (bf0 ++ [true, true, true])] ++ [sE 24 P1 [.int .i64 sz1, .int .i64 wy1, .slice (some ⟨g1, 0, none⟩) n1 (n1 + 3)], bE (.slice (some ⟨g1, 0, none⟩) (n1 + 3) (n1 + 3)) (n1 + 3) (bf1 ++ [true, true, true])]))))) := hP.perm (by
    classical
    refine List.perm_iff_count.2 (fun x => ?_)
    simp only [List.count_append, List.count_cons, List.count_nil]
    omega)
  have hb2 : Below w0.heap.size w0 W1 := HW.out.trans (hb.mono hB0)
  obtain ⟨I0, I1, I2, I3, I4, I5⟩ := HI.out
  have lt : ∀ x ∈ ([] : List Ent), True := fun _ _ => trivial
  exact pA hb2 hB0 (Nat.le_trans hwc hb.size) hQ ((hQ.own (⟨36, 2, .slice (some ⟨g4, 0, none⟩) (n4 + 3) (n4 + 3), n4 + 3, cntV L4 ++ [.int .i64 0, .int .i64 (-7), .int .i64 0, .int .i64 (-7), .int .i64 0, .int .i64 (-7)]⟩ : Ent) (by simp)).lt g4 rfl).2 ((hQ.own (⟨36, 2, .slice (some ⟨g5, 0, none⟩) (n5 + 3) (n5 + 3), n5 + 3, cntV L5 ++ [.int .i64 0, .int .i64 (-8), .int .i64 0, .int .i64 (-8), .int .i64 0, .int .i64 (-8)]⟩ : Ent) (by simp)).lt g5 rfl).2 ((hQ.own (bE (.slice (some ⟨g0, 0, none⟩) (n0 + 3) (n0 + 3)) (n0 + 3) (bf0 ++ [true, true, true])) (by simp)).lt g0 rfl).2 hn0 ((hQ.own (bE (.slice (some ⟨g1, 0, none⟩) (n1 + 3) (n1 + 3)) (n1 + 3) (bf1 ++ [true, true, true])) (by simp)).lt g1 rfl).2 hn1 hn2 hn3 (fun i hi => ((hQ.l.r.own (ei (.slice (some ⟨G2 i, 0, none⟩) ((gl xs2 i).length + 3) ((gl xs2 i).length + 3)) ((gl xs2 i).length + 3) (gl xs2 i ++ [-7, -7, -7])) (List.mem_cons_of_mem _ (by unfold rowsE tab; exact List.mem_map.2 ⟨i, List.mem_range.2 hi, rfl⟩))).lt (G2 i) rfl).2) (fun i hi => ((hQ.r.l.r.own (ei (.slice (some ⟨G3 i, 0, none⟩) ((gl xs3 i).length + 3) ((gl xs3 i).length + 3)) ((gl xs3 i).length + 3) (gl xs3 i ++ [-7, -7, -7])) (List.mem_cons_of_mem _ (by unfold rowsE tab; exact List.mem_map.2 ⟨i, List.mem_range.2 hi, rfl⟩))).lt (G3 i) rfl).2) (HBX.out.below' hb hhh) (I0.below hb2) (I1.below hb2) (I2.below hb2) (I3.below hb2) (I4.below hb2) (I5.below hb2) hn4 hn5
end Go.Proofs.Ytffocoflmbhknaa.sketchOwn
