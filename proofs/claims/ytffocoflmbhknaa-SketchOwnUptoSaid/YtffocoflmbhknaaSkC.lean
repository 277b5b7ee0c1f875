/- The walk of SketchOwn: what was answered is copied (printed by wip/gen/skC.py). -/
import Derived.Test.YtffocoflmbhknaaSkD
namespace Go.Proofs.Ytffocoflmbhknaa.sketchOwn
set_option linter.unusedVariables false
open Go.ChangeShapes Go.WideShapes Go.ChangeAt Go.RowKit
open Go.Proofs.Ytffocoflmbhknaa
set_option maxRecDepth 20000
structure K24 (wd wc : World) (X4 X5 : Nat) (ak am : Option Addr) (nk nm ck cm : Nat) (lk lm : List (Int × Int)) (bs : List Ent) (E : Nat → List Ent) (D : Nat → Bool) (V : Nat → Value) (w : World) : Prop where
  v0 : D 0 = true → V 0 = .pointer (some ⟨X4, 2, none⟩)
  v1 : D 1 = true → V 1 = .slice ak nk ck
  v2 : D 2 = true → ∃ v, V 2 = v ∧ E 2 = [ec v nk lk]
  v3 : D 3 = true → V 3 = .pointer (some ⟨X5, 2, none⟩)
  v4 : D 4 = true → V 4 = .slice am nm cm
  v5 : D 5 = true → ∃ v, V 5 = v ∧ E 5 = [ec v nm lm]
  v6 : D 6 = true → V 6 = V 2
  v7 : D 7 = true → V 7 = V 5
  n2 : D 2 = false → E 2 = []
  n5 : D 5 = false → E 5 = []
  o6_2 : D 6 = true → D 2 = true
  o7_5 : D 7 = true → D 5 = true
  eb : E 8 = bs
  below : Below wd.heap.size wc w
  sep : Sep wd.heap.size w (flat E 9)
theorem K24.start {wd wc : World} {X4 X5 : Nat} {ak am : Option Addr} {nk nm ck cm : Nat} {lk lm : List (Int × Int)} {bs : List Ent} (hS : Sep wd.heap.size wc (bs)) : K24 wd wc X4 X5 ak am nk nm ck cm lk lm bs (fun i => if i = 8 then bs else []) (fun _ => false) (fun _ => undef) wc.drew := by
  refine ⟨?_, ?_, ?_, ?_, ?_, ?_, ?_, ?_, fun _ => rfl, fun _ => rfl, ?_, ?_, rfl, (Below.refl _ _).drew, ?_⟩
  all_goals try (intro hh; cases hh)
  simpa [flat] using hS.drew
theorem K24.up0 {wd wc : World} {X4 X5 : Nat} {ak am : Option Addr} {nk nm ck cm : Nat} {lk lm : List (Int × Int)} {bs : List Ent} {E : Nat → List Ent} {D : Nat → Bool} {V : Nat → Value} {w : World} (hK : K24 wd wc X4 X5 ak am nk nm ck cm lk lm bs E D V w) (hi : D 0 = false) : K24 wd wc X4 X5 ak am nk nm ck cm lk lm bs E (updD D 0) (updV V 0 (.pointer (some ⟨X4, 2, none⟩))) w := by
  exact ⟨fun _ => rfl, hK.v1, hK.v2, hK.v3, hK.v4, hK.v5, hK.v6, hK.v7, hK.n2, hK.n5, hK.o6_2, hK.o7_5, hK.eb, hK.below, hK.sep⟩
theorem K24.up1 {wd wc : World} {X4 X5 : Nat} {ak am : Option Addr} {nk nm ck cm : Nat} {lk lm : List (Int × Int)} {bs : List Ent} {E : Nat → List Ent} {D : Nat → Bool} {V : Nat → Value} {w : World} (hK : K24 wd wc X4 X5 ak am nk nm ck cm lk lm bs E D V w) (hi : D 1 = false) : K24 wd wc X4 X5 ak am nk nm ck cm lk lm bs E (updD D 1) (updV V 1 (.slice ak nk ck)) w := by
  exact ⟨hK.v0, fun _ => rfl, hK.v2, hK.v3, hK.v4, hK.v5, hK.v6, hK.v7, hK.n2, hK.n5, hK.o6_2, hK.o7_5, hK.eb, hK.below, hK.sep⟩
theorem K24.up2 {wd wc : World} {X4 X5 : Nat} {ak am : Option Addr} {nk nm ck cm : Nat} {lk lm : List (Int × Int)} {bs : List Ent} {E : Nat → List Ent} {D : Nat → Bool} {V : Nat → Value} {w : World} {w' : World} {v : Value} (hK : K24 wd wc X4 X5 ak am nk nm ck cm lk lm bs E D V w) (hi : D 2 = false) (hw : wd.heap.size ≤ wc.heap.size) (hO : Sep w.heap.size w' ([ec v nk lk])) (hB : Below w.heap.size w w') :
    K24 wd wc X4 X5 ak am nk nm ck cm lk lm bs (updE E 2 ([ec v nk lk])) (updD D 2) (updV V 2 (v)) w' := by
  have hsz := hK.below.size
  have h6 : D 6 = false := by
    cases hD : D 6 with
    | false => rfl
    | true => have := hK.o6_2 hD; rw [hi] at this; cases this
  have hS := hK.sep.put (i := 2) (by omega) (hK.n2 hi) (by omega) hB hO
  exact ⟨hK.v0, hK.v1, fun _ => ⟨v, rfl, rfl⟩, hK.v3, hK.v4, hK.v5, (fun h => (nomatch (h6.symm.trans (show D 6 = true from h)))), hK.v7, (fun h => (nomatch (show true = false from h))), hK.n5, fun _ => rfl, hK.o7_5, hK.eb, hK.below.trans (hB.mono (by omega)), hS⟩
theorem K24.up3 {wd wc : World} {X4 X5 : Nat} {ak am : Option Addr} {nk nm ck cm : Nat} {lk lm : List (Int × Int)} {bs : List Ent} {E : Nat → List Ent} {D : Nat → Bool} {V : Nat → Value} {w : World} (hK : K24 wd wc X4 X5 ak am nk nm ck cm lk lm bs E D V w) (hi : D 3 = false) : K24 wd wc X4 X5 ak am nk nm ck cm lk lm bs E (updD D 3) (updV V 3 (.pointer (some ⟨X5, 2, none⟩))) w := by
  exact ⟨hK.v0, hK.v1, hK.v2, fun _ => rfl, hK.v4, hK.v5, hK.v6, hK.v7, hK.n2, hK.n5, hK.o6_2, hK.o7_5, hK.eb, hK.below, hK.sep⟩
theorem K24.up4 {wd wc : World} {X4 X5 : Nat} {ak am : Option Addr} {nk nm ck cm : Nat} {lk lm : List (Int × Int)} {bs : List Ent} {E : Nat → List Ent} {D : Nat → Bool} {V : Nat → Value} {w : World} (hK : K24 wd wc X4 X5 ak am nk nm ck cm lk lm bs E D V w) (hi : D 4 = false) : K24 wd wc X4 X5 ak am nk nm ck cm lk lm bs E (updD D 4) (updV V 4 (.slice am nm cm)) w := by
  exact ⟨hK.v0, hK.v1, hK.v2, hK.v3, fun _ => rfl, hK.v5, hK.v6, hK.v7, hK.n2, hK.n5, hK.o6_2, hK.o7_5, hK.eb, hK.below, hK.sep⟩
theorem K24.up5 {wd wc : World} {X4 X5 : Nat} {ak am : Option Addr} {nk nm ck cm : Nat} {lk lm : List (Int × Int)} {bs : List Ent} {E : Nat → List Ent} {D : Nat → Bool} {V : Nat → Value} {w : World} {w' : World} {v : Value} (hK : K24 wd wc X4 X5 ak am nk nm ck cm lk lm bs E D V w) (hi : D 5 = false) (hw : wd.heap.size ≤ wc.heap.size) (hO : Sep w.heap.size w' ([ec v nm lm])) (hB : Below w.heap.size w w') :
    K24 wd wc X4 X5 ak am nk nm ck cm lk lm bs (updE E 5 ([ec v nm lm])) (updD D 5) (updV V 5 (v)) w' := by
  have hsz := hK.below.size
  have h7 : D 7 = false := by
    cases hD : D 7 with
    | false => rfl
    | true => have := hK.o7_5 hD; rw [hi] at this; cases this
  have hS := hK.sep.put (i := 5) (by omega) (hK.n5 hi) (by omega) hB hO
  exact ⟨hK.v0, hK.v1, hK.v2, hK.v3, hK.v4, fun _ => ⟨v, rfl, rfl⟩, hK.v6, (fun h => (nomatch (h7.symm.trans (show D 7 = true from h)))), hK.n2, (fun h => (nomatch (show true = false from h))), hK.o6_2, fun _ => rfl, hK.eb, hK.below.trans (hB.mono (by omega)), hS⟩
theorem K24.up6 {wd wc : World} {X4 X5 : Nat} {ak am : Option Addr} {nk nm ck cm : Nat} {lk lm : List (Int × Int)} {bs : List Ent} {E : Nat → List Ent} {D : Nat → Bool} {V : Nat → Value} {w : World} {v : Value} (hK : K24 wd wc X4 X5 ak am nk nm ck cm lk lm bs E D V w) (hi : D 6 = false) (g2 : D 2 = true) (hv : V 2 = v) : K24 wd wc X4 X5 ak am nk nm ck cm lk lm bs E (updD D 6) (updV V 6 v) w := by
  exact ⟨hK.v0, hK.v1, hK.v2, hK.v3, hK.v4, hK.v5, fun _ => hv.symm, hK.v7, hK.n2, hK.n5, fun _ => g2, hK.o7_5, hK.eb, hK.below, hK.sep⟩
theorem K24.up7 {wd wc : World} {X4 X5 : Nat} {ak am : Option Addr} {nk nm ck cm : Nat} {lk lm : List (Int × Int)} {bs : List Ent} {E : Nat → List Ent} {D : Nat → Bool} {V : Nat → Value} {w : World} {v : Value} (hK : K24 wd wc X4 X5 ak am nk nm ck cm lk lm bs E D V w) (hi : D 7 = false) (g5 : D 5 = true) (hv : V 5 = v) : K24 wd wc X4 X5 ak am nk nm ck cm lk lm bs E (updD D 7) (updV V 7 v) w := by
  exact ⟨hK.v0, hK.v1, hK.v2, hK.v3, hK.v4, hK.v5, hK.v6, fun _ => hv.symm, hK.n2, hK.n5, hK.o6_2, fun _ => g5, hK.eb, hK.below, hK.sep⟩
structure K23 (wd wc : World) (X0 X1 X2 X3 : Nat) (ax ay ap aq : Option Addr) (nx ny np nq cx cy cp cq : Nat) (bx by_ : List Bool) (kp kq : Int) (xp xq : List (List Int)) (bs : List Ent) (E : Nat → List Ent) (D : Nat → Bool) (V : Nat → Value) (w : World) : Prop where
  v0 : D 0 = true → V 0 = .pointer (some ⟨X0, 2, none⟩)
  v1 : D 1 = true → V 1 = .slice ax nx cx
  v2 : D 2 = true → ∃ v, V 2 = v ∧ E 2 = [bE v nx bx]
  v3 : D 3 = true → V 3 = .pointer (some ⟨X1, 2, none⟩)
  v4 : D 4 = true → V 4 = .slice ay ny cy
  v5 : D 5 = true → ∃ v, V 5 = v ∧ E 5 = [bE v ny by_]
  v6 : D 6 = true → V 6 = .agg #[.int .i64 kp, .slice ap np cp]
  v7 : D 7 = true → ∃ av cw G, V 7 = .agg #[.int .i64 kp, .slice av np cw] ∧ E 7 = hdrE (.slice av np cw) np (rowsV xp G np) :: rowsE xp G np
  v8 : D 8 = true → V 8 = .agg #[.int .i64 kq, .slice aq nq cq]
  v9 : D 9 = true → ∃ av cw G, V 9 = .agg #[.int .i64 kq, .slice av nq cw] ∧ E 9 = hdrE (.slice av nq cw) nq (rowsV xq G nq) :: rowsE xq G nq
  v10 : D 10 = true → ∃ A, V 10 = .pointer (some ⟨A, 0, none⟩) ∧ wd.heap.size ≤ A ∧ E 10 = [sE 27 A (if D 14 then scells (V 7) else [.int .i64 0, .slice none 0 0])]
  v11 : D 11 = true → ∃ A, V 11 = .pointer (some ⟨A, 0, none⟩) ∧ wd.heap.size ≤ A ∧ E 11 = [sE 27 A (if D 15 then scells (V 9) else [.int .i64 0, .slice none 0 0])]
  v12 : D 12 = true → V 12 = V 2
  v13 : D 13 = true → V 13 = V 5
  n2 : D 2 = false → E 2 = []
  n5 : D 5 = false → E 5 = []
  n7 : D 7 = false → E 7 = []
  n9 : D 9 = false → E 9 = []
  n10 : D 10 = false → E 10 = []
  n11 : D 11 = false → E 11 = []
  o12_2 : D 12 = true → D 2 = true
  o13_5 : D 13 = true → D 5 = true
  o14_10 : D 14 = true → D 10 = true
  o14_7 : D 14 = true → D 7 = true
  o15_11 : D 15 = true → D 11 = true
  o15_9 : D 15 = true → D 9 = true
  eb : E 16 = bs
  below : Below wd.heap.size wc w
  sep : Sep wd.heap.size w (flat E 17)
theorem K23.start {wd wc : World} {X0 X1 X2 X3 : Nat} {ax ay ap aq : Option Addr} {nx ny np nq cx cy cp cq : Nat} {bx by_ : List Bool} {kp kq : Int} {xp xq : List (List Int)} {bs : List Ent} (hS : Sep wd.heap.size wc (bs)) : K23 wd wc X0 X1 X2 X3 ax ay ap aq nx ny np nq cx cy cp cq bx by_ kp kq xp xq bs (fun i => if i = 16 then bs else []) (fun _ => false) (fun _ => undef) wc.drew := by
  refine ⟨?_, ?_, ?_, ?_, ?_, ?_, ?_, ?_, ?_, ?_, ?_, ?_, ?_, ?_, fun _ => rfl, fun _ => rfl, fun _ => rfl, fun _ => rfl, fun _ => rfl, fun _ => rfl, ?_, ?_, ?_, ?_, ?_, ?_, rfl, (Below.refl _ _).drew, ?_⟩
  all_goals try (intro hh; cases hh)
  simpa [flat] using hS.drew
theorem K23.up0 {wd wc : World} {X0 X1 X2 X3 : Nat} {ax ay ap aq : Option Addr} {nx ny np nq cx cy cp cq : Nat} {bx by_ : List Bool} {kp kq : Int} {xp xq : List (List Int)} {bs : List Ent} {E : Nat → List Ent} {D : Nat → Bool} {V : Nat → Value} {w : World} (hK : K23 wd wc X0 X1 X2 X3 ax ay ap aq nx ny np nq cx cy cp cq bx by_ kp kq xp xq bs E D V w) (hi : D 0 = false) : K23 wd wc X0 X1 X2 X3 ax ay ap aq nx ny np nq cx cy cp cq bx by_ kp kq xp xq bs E (updD D 0) (updV V 0 (.pointer (some ⟨X0, 2, none⟩))) w := by
  exact ⟨fun _ => rfl, hK.v1, hK.v2, hK.v3, hK.v4, hK.v5, hK.v6, hK.v7, hK.v8, hK.v9, hK.v10, hK.v11, hK.v12, hK.v13, hK.n2, hK.n5, hK.n7, hK.n9, hK.n10, hK.n11, hK.o12_2, hK.o13_5, hK.o14_10, hK.o14_7, hK.o15_11, hK.o15_9, hK.eb, hK.below, hK.sep⟩
theorem K23.up1 {wd wc : World} {X0 X1 X2 X3 : Nat} {ax ay ap aq : Option Addr} {nx ny np nq cx cy cp cq : Nat} {bx by_ : List Bool} {kp kq : Int} {xp xq : List (List Int)} {bs : List Ent} {E : Nat → List Ent} {D : Nat → Bool} {V : Nat → Value} {w : World} (hK : K23 wd wc X0 X1 X2 X3 ax ay ap aq nx ny np nq cx cy cp cq bx by_ kp kq xp xq bs E D V w) (hi : D 1 = false) : K23 wd wc X0 X1 X2 X3 ax ay ap aq nx ny np nq cx cy cp cq bx by_ kp kq xp xq bs E (updD D 1) (updV V 1 (.slice ax nx cx)) w := by
  exact ⟨hK.v0, fun _ => rfl, hK.v2, hK.v3, hK.v4, hK.v5, hK.v6, hK.v7, hK.v8, hK.v9, hK.v10, hK.v11, hK.v12, hK.v13, hK.n2, hK.n5, hK.n7, hK.n9, hK.n10, hK.n11, hK.o12_2, hK.o13_5, hK.o14_10, hK.o14_7, hK.o15_11, hK.o15_9, hK.eb, hK.below, hK.sep⟩
theorem K23.up2 {wd wc : World} {X0 X1 X2 X3 : Nat} {ax ay ap aq : Option Addr} {nx ny np nq cx cy cp cq : Nat} {bx by_ : List Bool} {kp kq : Int} {xp xq : List (List Int)} {bs : List Ent} {E : Nat → List Ent} {D : Nat → Bool} {V : Nat → Value} {w : World} {w' : World} {v : Value} (hK : K23 wd wc X0 X1 X2 X3 ax ay ap aq nx ny np nq cx cy cp cq bx by_ kp kq xp xq bs E D V w) (hi : D 2 = false) (hw : wd.heap.size ≤ wc.heap.size) (hO : Sep w.heap.size w' ([bE v nx bx])) (hB : Below w.heap.size w w') :
    K23 wd wc X0 X1 X2 X3 ax ay ap aq nx ny np nq cx cy cp cq bx by_ kp kq xp xq bs (updE E 2 ([bE v nx bx])) (updD D 2) (updV V 2 (v)) w' := by
  have hsz := hK.below.size
  have h12 : D 12 = false := by
    cases hD : D 12 with
    | false => rfl
    | true => have := hK.o12_2 hD; rw [hi] at this; cases this
  have hS := hK.sep.put (i := 2) (by omega) (hK.n2 hi) (by omega) hB hO
  exact ⟨hK.v0, hK.v1, fun _ => ⟨v, rfl, rfl⟩, hK.v3, hK.v4, hK.v5, hK.v6, hK.v7, hK.v8, hK.v9, hK.v10, hK.v11, (fun h => (nomatch (h12.symm.trans (show D 12 = true from h)))), hK.v13, (fun h => (nomatch (show true = false from h))), hK.n5, hK.n7, hK.n9, hK.n10, hK.n11, fun _ => rfl, hK.o13_5, hK.o14_10, hK.o14_7, hK.o15_11, hK.o15_9, hK.eb, hK.below.trans (hB.mono (by omega)), hS⟩
theorem K23.up3 {wd wc : World} {X0 X1 X2 X3 : Nat} {ax ay ap aq : Option Addr} {nx ny np nq cx cy cp cq : Nat} {bx by_ : List Bool} {kp kq : Int} {xp xq : List (List Int)} {bs : List Ent} {E : Nat → List Ent} {D : Nat → Bool} {V : Nat → Value} {w : World} (hK : K23 wd wc X0 X1 X2 X3 ax ay ap aq nx ny np nq cx cy cp cq bx by_ kp kq xp xq bs E D V w) (hi : D 3 = false) : K23 wd wc X0 X1 X2 X3 ax ay ap aq nx ny np nq cx cy cp cq bx by_ kp kq xp xq bs E (updD D 3) (updV V 3 (.pointer (some ⟨X1, 2, none⟩))) w := by
  exact ⟨hK.v0, hK.v1, hK.v2, fun _ => rfl, hK.v4, hK.v5, hK.v6, hK.v7, hK.v8, hK.v9, hK.v10, hK.v11, hK.v12, hK.v13, hK.n2, hK.n5, hK.n7, hK.n9, hK.n10, hK.n11, hK.o12_2, hK.o13_5, hK.o14_10, hK.o14_7, hK.o15_11, hK.o15_9, hK.eb, hK.below, hK.sep⟩
theorem K23.up4 {wd wc : World} {X0 X1 X2 X3 : Nat} {ax ay ap aq : Option Addr} {nx ny np nq cx cy cp cq : Nat} {bx by_ : List Bool} {kp kq : Int} {xp xq : List (List Int)} {bs : List Ent} {E : Nat → List Ent} {D : Nat → Bool} {V : Nat → Value} {w : World} (hK : K23 wd wc X0 X1 X2 X3 ax ay ap aq nx ny np nq cx cy cp cq bx by_ kp kq xp xq bs E D V w) (hi : D 4 = false) : K23 wd wc X0 X1 X2 X3 ax ay ap aq nx ny np nq cx cy cp cq bx by_ kp kq xp xq bs E (updD D 4) (updV V 4 (.slice ay ny cy)) w := by
  exact ⟨hK.v0, hK.v1, hK.v2, hK.v3, fun _ => rfl, hK.v5, hK.v6, hK.v7, hK.v8, hK.v9, hK.v10, hK.v11, hK.v12, hK.v13, hK.n2, hK.n5, hK.n7, hK.n9, hK.n10, hK.n11, hK.o12_2, hK.o13_5, hK.o14_10, hK.o14_7, hK.o15_11, hK.o15_9, hK.eb, hK.below, hK.sep⟩
theorem K23.up5 {wd wc : World} {X0 X1 X2 X3 : Nat} {ax ay ap aq : Option Addr} {nx ny np nq cx cy cp cq : Nat} {bx by_ : List Bool} {kp kq : Int} {xp xq : List (List Int)} {bs : List Ent} {E : Nat → List Ent} {D : Nat → Bool} {V : Nat → Value} {w : World} {w' : World} {v : Value} (hK : K23 wd wc X0 X1 X2 X3 ax ay ap aq nx ny np nq cx cy cp cq bx by_ kp kq xp xq bs E D V w) (hi : D 5 = false) (hw : wd.heap.size ≤ wc.heap.size) (hO : Sep w.heap.size w' ([bE v ny by_])) (hB : Below w.heap.size w w') :
    K23 wd wc X0 X1 X2 X3 ax ay ap aq nx ny np nq cx cy cp cq bx by_ kp kq xp xq bs (updE E 5 ([bE v ny by_])) (updD D 5) (updV V 5 (v)) w' := by
  have hsz := hK.below.size
  have h13 : D 13 = false := by
    cases hD : D 13 with
    | false => rfl
    | true => have := hK.o13_5 hD; rw [hi] at this; cases this
  have hS := hK.sep.put (i := 5) (by omega) (hK.n5 hi) (by omega) hB hO
  exact ⟨hK.v0, hK.v1, hK.v2, hK.v3, hK.v4, fun _ => ⟨v, rfl, rfl⟩, hK.v6, hK.v7, hK.v8, hK.v9, hK.v10, hK.v11, hK.v12, (fun h => (nomatch (h13.symm.trans (show D 13 = true from h)))), hK.n2, (fun h => (nomatch (show true = false from h))), hK.n7, hK.n9, hK.n10, hK.n11, hK.o12_2, fun _ => rfl, hK.o14_10, hK.o14_7, hK.o15_11, hK.o15_9, hK.eb, hK.below.trans (hB.mono (by omega)), hS⟩
theorem K23.up6 {wd wc : World} {X0 X1 X2 X3 : Nat} {ax ay ap aq : Option Addr} {nx ny np nq cx cy cp cq : Nat} {bx by_ : List Bool} {kp kq : Int} {xp xq : List (List Int)} {bs : List Ent} {E : Nat → List Ent} {D : Nat → Bool} {V : Nat → Value} {w : World} (hK : K23 wd wc X0 X1 X2 X3 ax ay ap aq nx ny np nq cx cy cp cq bx by_ kp kq xp xq bs E D V w) (hi : D 6 = false) : K23 wd wc X0 X1 X2 X3 ax ay ap aq nx ny np nq cx cy cp cq bx by_ kp kq xp xq bs E (updD D 6) (updV V 6 (.agg #[.int .i64 kp, .slice ap np cp])) w := by
  exact ⟨hK.v0, hK.v1, hK.v2, hK.v3, hK.v4, hK.v5, fun _ => rfl, hK.v7, hK.v8, hK.v9, hK.v10, hK.v11, hK.v12, hK.v13, hK.n2, hK.n5, hK.n7, hK.n9, hK.n10, hK.n11, hK.o12_2, hK.o13_5, hK.o14_10, hK.o14_7, hK.o15_11, hK.o15_9, hK.eb, hK.below, hK.sep⟩
theorem K23.up7 {wd wc : World} {X0 X1 X2 X3 : Nat} {ax ay ap aq : Option Addr} {nx ny np nq cx cy cp cq : Nat} {bx by_ : List Bool} {kp kq : Int} {xp xq : List (List Int)} {bs : List Ent} {E : Nat → List Ent} {D : Nat → Bool} {V : Nat → Value} {w : World} {w' : World} {av : Option Addr} {cw : Nat} {G : Nat → Nat} (hK : K23 wd wc X0 X1 X2 X3 ax ay ap aq nx ny np nq cx cy cp cq bx by_ kp kq xp xq bs E D V w) (hi : D 7 = false) (hw : wd.heap.size ≤ wc.heap.size) (hO : Sep w.heap.size w' (hdrE (.slice av np cw) np (rowsV xp G np) :: rowsE xp G np)) (hB : Below w.heap.size w w') :
    K23 wd wc X0 X1 X2 X3 ax ay ap aq nx ny np nq cx cy cp cq bx by_ kp kq xp xq bs (updE E 7 (hdrE (.slice av np cw) np (rowsV xp G np) :: rowsE xp G np)) (updD D 7) (updV V 7 (.agg #[.int .i64 kp, .slice av np cw])) w' := by
  have hsz := hK.below.size
  have h14 : D 14 = false := by
    cases hD : D 14 with
    | false => rfl
    | true => have := hK.o14_7 hD; rw [hi] at this; cases this
  have hS := hK.sep.put (i := 7) (by omega) (hK.n7 hi) (by omega) hB hO
  exact ⟨hK.v0, hK.v1, hK.v2, hK.v3, hK.v4, hK.v5, hK.v6, fun _ => ⟨av, cw, G, rfl, rfl⟩, hK.v8, hK.v9, fun hD => by
    obtain ⟨A, a1, a2, a3⟩ := hK.v10 hD
    rw [h14] at a3
    refine ⟨A, a1, a2, ?_⟩
    show E 10 = [sE 27 A (if D 14 = true then scells (.agg #[.int .i64 kp, .slice av np cw]) else [.int .i64 0, .slice none 0 0])]
    rw [h14]
    exact a3, hK.v11, hK.v12, hK.v13, hK.n2, hK.n5, (fun h => (nomatch (show true = false from h))), hK.n9, hK.n10, hK.n11, hK.o12_2, hK.o13_5, hK.o14_10, fun _ => rfl, hK.o15_11, hK.o15_9, hK.eb, hK.below.trans (hB.mono (by omega)), hS⟩
theorem K23.up8 {wd wc : World} {X0 X1 X2 X3 : Nat} {ax ay ap aq : Option Addr} {nx ny np nq cx cy cp cq : Nat} {bx by_ : List Bool} {kp kq : Int} {xp xq : List (List Int)} {bs : List Ent} {E : Nat → List Ent} {D : Nat → Bool} {V : Nat → Value} {w : World} (hK : K23 wd wc X0 X1 X2 X3 ax ay ap aq nx ny np nq cx cy cp cq bx by_ kp kq xp xq bs E D V w) (hi : D 8 = false) : K23 wd wc X0 X1 X2 X3 ax ay ap aq nx ny np nq cx cy cp cq bx by_ kp kq xp xq bs E (updD D 8) (updV V 8 (.agg #[.int .i64 kq, .slice aq nq cq])) w := by
  exact ⟨hK.v0, hK.v1, hK.v2, hK.v3, hK.v4, hK.v5, hK.v6, hK.v7, fun _ => rfl, hK.v9, hK.v10, hK.v11, hK.v12, hK.v13, hK.n2, hK.n5, hK.n7, hK.n9, hK.n10, hK.n11, hK.o12_2, hK.o13_5, hK.o14_10, hK.o14_7, hK.o15_11, hK.o15_9, hK.eb, hK.below, hK.sep⟩
theorem K23.up9 {wd wc : World} {X0 X1 X2 X3 : Nat} {ax ay ap aq : Option Addr} {nx ny np nq cx cy cp cq : Nat} {bx by_ : List Bool} {kp kq : Int} {xp xq : List (List Int)} {bs : List Ent} {E : Nat → List Ent} {D : Nat → Bool} {V : Nat → Value} {w : World} {w' : World} {av : Option Addr} {cw : Nat} {G : Nat → Nat} (hK : K23 wd wc X0 X1 X2 X3 ax ay ap aq nx ny np nq cx cy cp cq bx by_ kp kq xp xq bs E D V w) (hi : D 9 = false) (hw : wd.heap.size ≤ wc.heap.size) (hO : Sep w.heap.size w' (hdrE (.slice av nq cw) nq (rowsV xq G nq) :: rowsE xq G nq)) (hB : Below w.heap.size w w') :
    K23 wd wc X0 X1 X2 X3 ax ay ap aq nx ny np nq cx cy cp cq bx by_ kp kq xp xq bs (updE E 9 (hdrE (.slice av nq cw) nq (rowsV xq G nq) :: rowsE xq G nq)) (updD D 9) (updV V 9 (.agg #[.int .i64 kq, .slice av nq cw])) w' := by
  have hsz := hK.below.size
  have h15 : D 15 = false := by
    cases hD : D 15 with
    | false => rfl
    | true => have := hK.o15_9 hD; rw [hi] at this; cases this
  have hS := hK.sep.put (i := 9) (by omega) (hK.n9 hi) (by omega) hB hO
  exact ⟨hK.v0, hK.v1, hK.v2, hK.v3, hK.v4, hK.v5, hK.v6, hK.v7, hK.v8, fun _ => ⟨av, cw, G, rfl, rfl⟩, hK.v10, fun hD => by
    obtain ⟨A, a1, a2, a3⟩ := hK.v11 hD
    rw [h15] at a3
    refine ⟨A, a1, a2, ?_⟩
    show E 11 = [sE 27 A (if D 15 = true then scells (.agg #[.int .i64 kq, .slice av nq cw]) else [.int .i64 0, .slice none 0 0])]
    rw [h15]
    exact a3, hK.v12, hK.v13, hK.n2, hK.n5, hK.n7, (fun h => (nomatch (show true = false from h))), hK.n10, hK.n11, hK.o12_2, hK.o13_5, hK.o14_10, hK.o14_7, hK.o15_11, fun _ => rfl, hK.eb, hK.below.trans (hB.mono (by omega)), hS⟩
theorem K23.up10 {wd wc : World} {X0 X1 X2 X3 : Nat} {ax ay ap aq : Option Addr} {nx ny np nq cx cy cp cq : Nat} {bx by_ : List Bool} {kp kq : Int} {xp xq : List (List Int)} {bs : List Ent} {E : Nat → List Ent} {D : Nat → Bool} {V : Nat → Value} {w : World} (hK : K23 wd wc X0 X1 X2 X3 ax ay ap aq nx ny np nq cx cy cp cq bx by_ kp kq xp xq bs E D V w) (hi : D 10 = false) (hw : wd.heap.size ≤ wc.heap.size) :
    K23 wd wc X0 X1 X2 X3 ax ay ap aq nx ny np nq cx cy cp cq bx by_ kp kq xp xq bs (updE E 10 [sE 27 w.heap.size [.int .i64 0, .slice none 0 0]]) (updD D 10) (updV V 10 (.pointer (some ⟨w.heap.size, 0, none⟩))) (w.alloc (.cells #[.int .i64 0, .slice none 0 0] 27)) := by
  have hsz := hK.below.size
  have h14 : D 14 = false := by
    cases hD : D 14 with
    | false => rfl
    | true => have := hK.o14_10 hD; rw [hi] at this; cases this
  have hB : Below w.heap.size w (w.alloc (.cells #[.int .i64 0, .slice none 0 0] 27)) := (Below.refl _ _).alloc (Nat.le_refl _) _
  have hS := hK.sep.put (i := 10) (L := [sE 27 w.heap.size [.int .i64 0, .slice none 0 0]]) (by omega) (hK.n10 hi) (by omega) hB ⟨fun x hx => by
    rw [List.mem_singleton] at hx; subst hx; exact sE_new w _ (Nat.le_refl _) _ _, by simp⟩
  exact ⟨hK.v0, hK.v1, hK.v2, hK.v3, hK.v4, hK.v5, hK.v6, hK.v7, hK.v8, hK.v9, fun _ => ⟨w.heap.size, rfl, by omega, by
    show [sE 27 w.heap.size [.int .i64 0, .slice none 0 0]] = [sE 27 w.heap.size (if D 14 = true then scells (V 7) else [.int .i64 0, .slice none 0 0])]
    rw [h14]
    rfl⟩, hK.v11, hK.v12, hK.v13, hK.n2, hK.n5, hK.n7, hK.n9, (fun h => (nomatch (show true = false from h))), hK.n11, hK.o12_2, hK.o13_5, fun _ => rfl, hK.o14_7, hK.o15_11, hK.o15_9, hK.eb, hK.below.trans (hB.mono (by omega)), hS⟩
theorem K23.up11 {wd wc : World} {X0 X1 X2 X3 : Nat} {ax ay ap aq : Option Addr} {nx ny np nq cx cy cp cq : Nat} {bx by_ : List Bool} {kp kq : Int} {xp xq : List (List Int)} {bs : List Ent} {E : Nat → List Ent} {D : Nat → Bool} {V : Nat → Value} {w : World} (hK : K23 wd wc X0 X1 X2 X3 ax ay ap aq nx ny np nq cx cy cp cq bx by_ kp kq xp xq bs E D V w) (hi : D 11 = false) (hw : wd.heap.size ≤ wc.heap.size) :
    K23 wd wc X0 X1 X2 X3 ax ay ap aq nx ny np nq cx cy cp cq bx by_ kp kq xp xq bs (updE E 11 [sE 27 w.heap.size [.int .i64 0, .slice none 0 0]]) (updD D 11) (updV V 11 (.pointer (some ⟨w.heap.size, 0, none⟩))) (w.alloc (.cells #[.int .i64 0, .slice none 0 0] 27)) := by
  have hsz := hK.below.size
  have h15 : D 15 = false := by
    cases hD : D 15 with
    | false => rfl
    | true => have := hK.o15_11 hD; rw [hi] at this; cases this
  have hB : Below w.heap.size w (w.alloc (.cells #[.int .i64 0, .slice none 0 0] 27)) := (Below.refl _ _).alloc (Nat.le_refl _) _
  have hS := hK.sep.put (i := 11) (L := [sE 27 w.heap.size [.int .i64 0, .slice none 0 0]]) (by omega) (hK.n11 hi) (by omega) hB ⟨fun x hx => by
    rw [List.mem_singleton] at hx; subst hx; exact sE_new w _ (Nat.le_refl _) _ _, by simp⟩
  exact ⟨hK.v0, hK.v1, hK.v2, hK.v3, hK.v4, hK.v5, hK.v6, hK.v7, hK.v8, hK.v9, hK.v10, fun _ => ⟨w.heap.size, rfl, by omega, by
    show [sE 27 w.heap.size [.int .i64 0, .slice none 0 0]] = [sE 27 w.heap.size (if D 15 = true then scells (V 9) else [.int .i64 0, .slice none 0 0])]
    rw [h15]
    rfl⟩, hK.v12, hK.v13, hK.n2, hK.n5, hK.n7, hK.n9, hK.n10, (fun h => (nomatch (show true = false from h))), hK.o12_2, hK.o13_5, hK.o14_10, hK.o14_7, fun _ => rfl, hK.o15_9, hK.eb, hK.below.trans (hB.mono (by omega)), hS⟩
theorem K23.up12 {wd wc : World} {X0 X1 X2 X3 : Nat} {ax ay ap aq : Option Addr} {nx ny np nq cx cy cp cq : Nat} {bx by_ : List Bool} {kp kq : Int} {xp xq : List (List Int)} {bs : List Ent} {E : Nat → List Ent} {D : Nat → Bool} {V : Nat → Value} {w : World} {v : Value} (hK : K23 wd wc X0 X1 X2 X3 ax ay ap aq nx ny np nq cx cy cp cq bx by_ kp kq xp xq bs E D V w) (hi : D 12 = false) (g2 : D 2 = true) (hv : V 2 = v) : K23 wd wc X0 X1 X2 X3 ax ay ap aq nx ny np nq cx cy cp cq bx by_ kp kq xp xq bs E (updD D 12) (updV V 12 v) w := by
  exact ⟨hK.v0, hK.v1, hK.v2, hK.v3, hK.v4, hK.v5, hK.v6, hK.v7, hK.v8, hK.v9, hK.v10, hK.v11, fun _ => hv.symm, hK.v13, hK.n2, hK.n5, hK.n7, hK.n9, hK.n10, hK.n11, fun _ => g2, hK.o13_5, hK.o14_10, hK.o14_7, hK.o15_11, hK.o15_9, hK.eb, hK.below, hK.sep⟩
theorem K23.up13 {wd wc : World} {X0 X1 X2 X3 : Nat} {ax ay ap aq : Option Addr} {nx ny np nq cx cy cp cq : Nat} {bx by_ : List Bool} {kp kq : Int} {xp xq : List (List Int)} {bs : List Ent} {E : Nat → List Ent} {D : Nat → Bool} {V : Nat → Value} {w : World} {v : Value} (hK : K23 wd wc X0 X1 X2 X3 ax ay ap aq nx ny np nq cx cy cp cq bx by_ kp kq xp xq bs E D V w) (hi : D 13 = false) (g5 : D 5 = true) (hv : V 5 = v) : K23 wd wc X0 X1 X2 X3 ax ay ap aq nx ny np nq cx cy cp cq bx by_ kp kq xp xq bs E (updD D 13) (updV V 13 v) w := by
  exact ⟨hK.v0, hK.v1, hK.v2, hK.v3, hK.v4, hK.v5, hK.v6, hK.v7, hK.v8, hK.v9, hK.v10, hK.v11, hK.v12, fun _ => hv.symm, hK.n2, hK.n5, hK.n7, hK.n9, hK.n10, hK.n11, hK.o12_2, fun _ => g5, hK.o14_10, hK.o14_7, hK.o15_11, hK.o15_9, hK.eb, hK.below, hK.sep⟩
theorem K23.up14 {wd wc : World} {X0 X1 X2 X3 : Nat} {ax ay ap aq : Option Addr} {nx ny np nq cx cy cp cq : Nat} {bx by_ : List Bool} {kp kq : Int} {xp xq : List (List Int)} {bs : List Ent} {E : Nat → List Ent} {D : Nat → Bool} {V : Nat → Value} {w : World} {A : Nat} {av : Option Addr} {cw : Nat} (hK : K23 wd wc X0 X1 X2 X3 ax ay ap aq nx ny np nq cx cy cp cq bx by_ kp kq xp xq bs E D V w) (hi : D 14 = false) (g10 : D 10 = true) (g7 : D 7 = true) (hA : V 10 = .pointer (some ⟨A, 0, none⟩)) (h1 : V 7 = .agg #[.int .i64 kp, .slice av np cw]) :
    (∀ k, w.frozen? ⟨A, k, none⟩ = false) ∧ w.cell? ⟨A, 0, none⟩ = some (.int .i64 0) ∧ w.cell? ⟨A, 1, none⟩ = some (.slice none 0 0) ∧ K23 wd wc X0 X1 X2 X3 ax ay ap aq nx ny np nq cx cy cp cq bx by_ kp kq xp xq bs (updE E 10 [sE 27 A [.int .i64 kp, .slice av np cw]]) (updD D 14) (updV V 14 undef) ((w.setCell ⟨A, 0, none⟩ (.int .i64 kp)).setCell ⟨A, 1, none⟩ (.slice av np cw)) := by
  obtain ⟨A', hA', hle, hE⟩ := hK.v10 g10
  obtain rfl : A = A' := by rw [hA] at hA'; simpa using hA'
  simp only [hi, Bool.false_eq_true, if_false] at hE
  have hown := hK.sep.own (sE 27 A [.int .i64 0, .slice none 0 0]) (mem_flat (i := 10) (by omega) (by rw [hE]; simp))
  have hS0 := hK.sep.pokeS (i := 10) (by omega) hE 0 (.int .i64 kp)
  have hS1 := hS0.pokeS (i := 10) (by omega) (updE_self _ _ _) 1 (.slice av np cw)
  have e : (updE (updE E 10 [sE 27 A (List.set [.int .i64 0, .slice none 0 0] 0 (.int .i64 kp))]) 10 [sE 27 A (List.set (List.set [.int .i64 0, .slice none 0 0] 0 (.int .i64 kp)) 1 (.slice av np cw))]) = updE E 10 [sE 27 A [.int .i64 kp, .slice av np cw]] := by
    funext j; by_cases hj : j = 10 <;> simp [updE, hj]
  have hS' := hS1
  rw [e] at hS'
  refine ⟨fun k => World.ownsRow.frozenAt hown k, World.ownsRow.cellAt hown 0 (by show 0 < 1 * 2; omega), World.ownsRow.cellAt hown 1 (by show 1 < 1 * 2; omega), ?_⟩
  exact ⟨hK.v0, hK.v1, hK.v2, hK.v3, hK.v4, hK.v5, hK.v6, hK.v7, hK.v8, hK.v9, fun _ => ⟨A, hA, hle, by
    show [sE 27 A [.int .i64 kp, .slice av np cw]] = [sE 27 A (scells (V 7))]
    rw [h1]
    rfl⟩, hK.v11, hK.v12, hK.v13, hK.n2, hK.n5, hK.n7, hK.n9, (fun h => (nomatch (g10.symm.trans (show D 10 = false from h)))), hK.n11, hK.o12_2, hK.o13_5, fun _ => g10, fun _ => g7, hK.o15_11, hK.o15_9, hK.eb, ((hK.below.setCell (by exact hle) _).setCell (by exact hle) _), hS'⟩
theorem K23.up15 {wd wc : World} {X0 X1 X2 X3 : Nat} {ax ay ap aq : Option Addr} {nx ny np nq cx cy cp cq : Nat} {bx by_ : List Bool} {kp kq : Int} {xp xq : List (List Int)} {bs : List Ent} {E : Nat → List Ent} {D : Nat → Bool} {V : Nat → Value} {w : World} {A : Nat} {av : Option Addr} {cw : Nat} (hK : K23 wd wc X0 X1 X2 X3 ax ay ap aq nx ny np nq cx cy cp cq bx by_ kp kq xp xq bs E D V w) (hi : D 15 = false) (g11 : D 11 = true) (g9 : D 9 = true) (hA : V 11 = .pointer (some ⟨A, 0, none⟩)) (h1 : V 9 = .agg #[.int .i64 kq, .slice av nq cw]) :
    (∀ k, w.frozen? ⟨A, k, none⟩ = false) ∧ w.cell? ⟨A, 0, none⟩ = some (.int .i64 0) ∧ w.cell? ⟨A, 1, none⟩ = some (.slice none 0 0) ∧ K23 wd wc X0 X1 X2 X3 ax ay ap aq nx ny np nq cx cy cp cq bx by_ kp kq xp xq bs (updE E 11 [sE 27 A [.int .i64 kq, .slice av nq cw]]) (updD D 15) (updV V 15 undef) ((w.setCell ⟨A, 0, none⟩ (.int .i64 kq)).setCell ⟨A, 1, none⟩ (.slice av nq cw)) := by
  obtain ⟨A', hA', hle, hE⟩ := hK.v11 g11
  obtain rfl : A = A' := by rw [hA] at hA'; simpa using hA'
  simp only [hi, Bool.false_eq_true, if_false] at hE
  have hown := hK.sep.own (sE 27 A [.int .i64 0, .slice none 0 0]) (mem_flat (i := 11) (by omega) (by rw [hE]; simp))
  have hS0 := hK.sep.pokeS (i := 11) (by omega) hE 0 (.int .i64 kq)
  have hS1 := hS0.pokeS (i := 11) (by omega) (updE_self _ _ _) 1 (.slice av nq cw)
  have e : (updE (updE E 11 [sE 27 A (List.set [.int .i64 0, .slice none 0 0] 0 (.int .i64 kq))]) 11 [sE 27 A (List.set (List.set [.int .i64 0, .slice none 0 0] 0 (.int .i64 kq)) 1 (.slice av nq cw))]) = updE E 11 [sE 27 A [.int .i64 kq, .slice av nq cw]] := by
    funext j; by_cases hj : j = 11 <;> simp [updE, hj]
  have hS' := hS1
  rw [e] at hS'
  refine ⟨fun k => World.ownsRow.frozenAt hown k, World.ownsRow.cellAt hown 0 (by show 0 < 1 * 2; omega), World.ownsRow.cellAt hown 1 (by show 1 < 1 * 2; omega), ?_⟩
  exact ⟨hK.v0, hK.v1, hK.v2, hK.v3, hK.v4, hK.v5, hK.v6, hK.v7, hK.v8, hK.v9, hK.v10, fun _ => ⟨A, hA, hle, by
    show [sE 27 A [.int .i64 kq, .slice av nq cw]] = [sE 27 A (scells (V 9))]
    rw [h1]
    rfl⟩, hK.v12, hK.v13, hK.n2, hK.n5, hK.n7, hK.n9, hK.n10, (fun h => (nomatch (g11.symm.trans (show D 11 = false from h)))), hK.o12_2, hK.o13_5, hK.o14_10, hK.o14_7, fun _ => g11, fun _ => g9, hK.eb, ((hK.below.setCell (by exact hle) _).setCell (by exact hle) _), hS'⟩
set_option maxHeartbeats 16000000 in
theorem pC2 {w0 W : World} {B0 B1 : Nat} {X0 X1 X2 X3 X4 X5 T1 T2 : Nat} {s0 y0 s1 y1 kp kq k4 l4 k5 l5 : Int} {vx vy vk vm vx1 vy1 : Value} {nx ny nk nm : Nat} {bx by_ : List Bool} {lk lm : List (Int × Int)} {ap aq ap1 aq1 : Option Addr} {np nq cp cq cp1 cq1 : Nat} {xp xq : List (List Int)} {Lp Lq : List Ent} {Gp Gq : Nat → Nat} {P4 g4 n4 P5 g5 n5 P0 g0 n0 P1 g1 n1 : Nat} {kk4 lo4 kk5 lo5 sz0 wy0 sz1 wy1 : Int} {cs4 cs5 : List Value} {bs0 bs1 : List Bool} {P2 P3 n2 n3 c7 c8 : Nat} {a7 a8 : Option Addr} {wd2 wd3 : Int} {xs2 xs3 : List (List Int)} {G2 G3 : Nat → Nat}
    {u0 u1 u2 u3 u4 u5 u6 u7 u8 u9 u10 u11 u12 u13 u14 u15 u16 u17 u18 u26 u28 u30 u32 u34 u36 u37 u38 u43 u44 u45 u46 u47 u48 u49 u50 u51 u52 u53 u54 u55 u56 u57 u58 u59 u60 u61 u62 u63 u64 u65 u66 u67 u68 u69 u70 u71 u72 u73 u74 u75 u76 u77 u78 u79 u80 u81 u82 u83 u84 u85 u86 u87 u88 u89 u90 u91 u92 u93 u94 u95 u96 u97 u98 u99 u100 u101 u102 u103 u104 u105 u106 u107 u108 u109 u110 u111 u112 u113 u114 u115 u116 u117 u118 u119 u120 u121 u122 u123 u124 u125 u126 u127 u128 u129 u130 u131 u132 u133 u134 u135 u136 u137 u138 u139 u140 u141 u142 u143 u144 u145 u146 u147 u148 u149 u150 u151 u152 u153 u154 u155 u156 u157 u158 u159 u160 u161 u162 u163 u164 u165 u166 u167 u168 u169 u170 u171 u172 u173 u174 u175 u176 u177 u178 u179 u180 u181 u182 u183 u184 u185 u186 u187 u188 u189 u190 u191 u192 u193 u194 u195 u196 u197 u198 u199 u200 u201 u202 u203 u204 u205 u206 u207 u208 u209 u210 u211 u212 u213 u214 u215 u216 u217 u218 u219 u220 u221 u222 u223 u224 u225 u226 u227 u228 u229 u230 u231 u232 u233 u234 u235 u236 u237 u238 u239 u240 u241 u242 u243 u244 u245 u246 u247 u248 u249 u250 u251 u252 u253 u254 u255 u256 u257 u258 u259 u260 u261 u262 u263 u264 u265 u266 u267 u268 u269 u270 u271 u272 u273 u274 u275 u276 u277 u278 u279 u280 u281 u282 u283 u284 u285 u286 u287 u288 u289 u290 u291 u292 u293 u294 u295 u296 u297 u298 u299 u300 u301 u302 u303 u304 u305 u306 u307 u308 u309 u310 u311 u312 u313 u314 u315 u316 u317 u318 u319 u320 u321 u322 u323 u324 u325 u326 u327 u328 : Value}
    (hw : Below w0.heap.size w0 W) (hB0 : w0.heap.size ≤ B0) (hB01 : B0 ≤ B1) (hB1 : B1 ≤ W.heap.size)
    (S : Sep B1 W ([bE vx nx bx, sE 24 X0 [.int .i64 s0, .int .i64 y0, vx], bE vy ny by_, sE 24 X1 [.int .i64 s1, .int .i64 y1, vy]] ++ ((Lp ++ [sE 27 X2 [.int .i64 kp, .slice ap np cp]]) ++ ((Lq ++ [sE 27 X3 [.int .i64 kq, .slice aq nq cq]]) ++ ([ec vk nk lk, sE 30 X4 [.int .i64 k4, .int .i64 l4, vk], ec vm nm lm, sE 30 X5 [.int .i64 k5, .int .i64 l5, vm]] ++ ([bE vx1 nx bx, bE vy1 ny by_] ++ (hdrE (.slice ap1 np cp1) np (rowsV xp Gp np) :: rowsE xp Gp np) ++ (hdrE (.slice aq1 nq cq1) nq (rowsV xq Gq nq) :: rowsE xq Gq nq) ++ [sE 27 T1 [.int .i64 kp, .slice ap1 np cp1], sE 27 T2 [.int .i64 kq, .slice aq1 nq cq1]]))))))
    (TP : TabR B1 W ap np cp xp Lp) (TQ : TabR B1 W aq nq cq xq Lq) (hnx : nx ≤ 1000) (hny : ny ≤ 1000) (hnk : nk ≤ 1000) (hnm : nm ≤ 1000)
    (SO : Sep B0 W (([sE 27 P2 [.int .i64 wd2, .slice a7 n2 c7]] ++ (hdrE (.slice a7 n2 c7) n2 (rowsV xs2 G2 n2) :: rowsE xs2 G2 n2)) ++ (([sE 27 P3 [.int .i64 wd3, .slice a8 n3 c8]] ++ (hdrE (.slice a8 n3 c8) n3 (rowsV xs3 G3 n3) :: rowsE xs3 G3 n3)) ++ ([sE 30 P4 [.int .i64 kk4, .int .i64 lo4, .slice (some ⟨g4, 0, none⟩) n4 (n4 + 3)], ⟨36, 2, .slice (some ⟨g4, 0, none⟩) (n4 + 3) (n4 + 3), n4 + 3, cs4⟩] ++ ([sE 30 P5 [.int .i64 kk5, .int .i64 lo5, .slice (some ⟨g5, 0, none⟩) n5 (n5 + 3)], ⟨36, 2, .slice (some ⟨g5, 0, none⟩) (n5 + 3) (n5 + 3), n5 + 3, cs5⟩] ++ ([sE 24 P0 [.int .i64 sz0, .int .i64 wy0, .slice (some ⟨g0, 0, none⟩) n0 (n0 + 3)], bE (.slice (some ⟨g0, 0, none⟩) (n0 + 3) (n0 + 3)) (n0 + 3) bs0] ++ [sE 24 P1 [.int .i64 sz1, .int .i64 wy1, .slice (some ⟨g1, 0, none⟩) n1 (n1 + 3)], bE (.slice (some ⟨g1, 0, none⟩) (n1 + 3) (n1 + 3)) (n1 + 3) bs1])))))) (hg4 : g4 < B1) (hg5 : g5 < B1) (hg0 : g0 < B1) (hn0 : n0 ≤ 1048576) (hg1 : g1 < B1) (hn1 : n1 ≤ 1048576) (hn2 : n2 ≤ 1048576) (hn3 : n3 ≤ 1048576) (hR2 : ∀ i, i < n2 → G2 i < B1) (hR3 : ∀ i, i < n3 → G3 i < B1) (hZ2 : ∀ i, i < n2 → (gl xs2 i).length ≤ 17592186043904) (hZ3 : ∀ i, i < n3 → (gl xs3 i).length ≤ 17592186043904) :
    (cd 16).wp Try.prog (bodyPost Try.prog Try.f3 (fun e w' => e = .returned (.bool true) ∧ Below w0.heap.size w0 w'))
      ⟨#[u0, u1, u2, u3, u4, u5, u6, u7, u8, u9, u10, u11, u12, u13, u14, u15, u16, u17, u18, .pointer (some ⟨P0, 0, none⟩), .pointer (some ⟨P1, 0, none⟩), .pointer (some ⟨P2, 0, none⟩), .pointer (some ⟨P3, 0, none⟩), .pointer (some ⟨P4, 0, none⟩), .pointer (some ⟨P5, 0, none⟩), .pointer (some ⟨X0, 0, none⟩), u26, .pointer (some ⟨X1, 0, none⟩), u28, .pointer (some ⟨X2, 0, none⟩), u30, .pointer (some ⟨X3, 0, none⟩), u32, .pointer (some ⟨X4, 0, none⟩), u34, .pointer (some ⟨X5, 0, none⟩), u36, u37, u38, vx1, vy1, .pointer (some ⟨T1, 0, none⟩), .pointer (some ⟨T2, 0, none⟩), u43, u44, u45, u46, u47, u48, u49, u50, u51, u52, u53, u54, u55, u56, u57, u58, u59, u60, u61, u62, u63, u64, u65, u66, u67, u68, u69, u70, u71, u72, u73, u74, u75, u76, u77, u78, u79, u80, u81, u82, u83, u84, u85, u86, u87, u88, u89, u90, u91, u92, u93, u94, u95, u96, u97, u98, u99, u100, u101, u102, u103, u104, u105, u106, u107, u108, u109, u110, u111, u112, u113, u114, u115, u116, u117, u118, u119, u120, u121, u122, u123, u124, u125, u126, u127, u128, u129, u130, u131, u132, u133, u134, u135, u136, u137, u138, u139, u140, u141, u142, u143, u144, u145, u146, u147, u148, u149, u150, u151, u152, u153, u154, u155, u156, u157, u158, u159, u160, u161, u162, u163, u164, u165, u166, u167, u168, u169, u170, u171, u172, u173, u174, u175, u176, u177, u178, u179, u180, u181, u182, u183, u184, u185, u186, u187, u188, u189, u190, u191, u192, u193, u194, u195, u196, u197, u198, u199, u200, u201, u202, u203, u204, u205, u206, u207, u208, u209, u210, u211, u212, u213, u214, u215, u216, u217, u218, u219, u220, u221, u222, u223, u224, u225, u226, u227, u228, u229, u230, u231, u232, u233, u234, u235, u236, u237, u238, u239, u240, u241, u242, u243, u244, u245, u246, u247, u248, u249, u250, u251, u252, u253, u254, u255, u256, u257, u258, u259, u260, u261, u262, u263, u264, u265, u266, u267, u268, u269, u270, u271, u272, u273, u274, u275, u276, u277, u278, u279, u280, u281, u282, u283, u284, u285, u286, u287, u288, u289, u290, u291, u292, u293, u294, u295, u296, u297, u298, u299, u300, u301, u302, u303, u304, u305, u306, u307, u308, u309, u310, u311, u312, u313, u314, u315, u316, u317, u318, u319, u320, u321, u322, u323, u324, u325, u326, u327, u328], []⟩ W := by
  obtain ⟨ak, ck, ek, hk⟩ := owns_cnts (show W.ownsRow B1 36 2 vk nk (cntV lk) from S.own (ec vk nk lk) (by simp))
  obtain ⟨am, cm, em, hm⟩ := owns_cnts (show W.ownsRow B1 36 2 vm nm (cntV lm) from S.own (ec vm nm lm) (by simp))
  subst ek em
  have lX4 : X4 < W.heap.size := ((S.own (sE 30 X4 [.int .i64 k4, .int .i64 l4, .slice ak nk ck]) (by simp)).lt X4 rfl).2
  have q4 : W.cell? ⟨X4, 2, none⟩ = some (.slice ak nk ck) := box_cell S (t := 30) (P := X4) (cs := [.int .i64 k4, .int .i64 l4, .slice ak nk ck]) (by simp) 2 (by simp) W (Below.refl _ _)
  have lX5 : X5 < W.heap.size := ((S.own (sE 30 X5 [.int .i64 k5, .int .i64 l5, .slice am nm cm]) (by simp)).lt X5 rfl).2
  have q5 : W.cell? ⟨X5, 2, none⟩ = some (.slice am nm cm) := box_cell S (t := 30) (P := X5) (cs := [.int .i64 k5, .int .i64 l5, .slice am nm cm]) (by simp) 2 (by simp) W (Below.refl _ _)
  have C4 := hidp (fun W' (hB : Below W.heap.size W W') => (clonec_c ak nk ck lk W' (hk.below hB) (by omega)).mono (fun e w' h => (show ∃ v, e = .returned v ∧ Sep W'.heap.size w' [ec v nk lk] ∧ Below W'.heap.size W' w' from by
    obtain ⟨v, h1, h2, h3⟩ := h
    exact ⟨v, h1, Sep.one h2, h3⟩)))
  have C5 := hidp (fun W' (hB : Below W.heap.size W W') => (clonec_c am nm cm lm W' (hm.below hB) (by omega)).mono (fun e w' h => (show ∃ v, e = .returned v ∧ Sep W'.heap.size w' [ec v nm lm] ∧ Below W'.heap.size W' w' from by
    obtain ⟨v, h1, h2, h3⟩ := h
    exact ⟨v, h1, Sep.one h2, h3⟩)))
  clear hk hm
  have HS := hidp (And.intro S (And.intro TP (And.intro TQ SO)))
  have HW := hidp hw
  clear S TP TQ SO hw
  conv => arg 2; whnf
  dsimp only
  apply wp_seq_k; intro K hK
  have HK := hidp hK
  clear hK
  go_upto_region 24 with fail
  generalize ha : Act.mk _ _ = A0
  have t33 : A0.eval (.tmp 33) = .pointer (some ⟨X4, 0, none⟩) := by rw [← ha]; rfl
  have t35 : A0.eval (.tmp 35) = .pointer (some ⟨X5, 0, none⟩) := by rw [← ha]; rfl
  have tsz : A0.tmps.size = 329 := by rw [← ha]; rfl
  refine region_duty (by kernel_rfl) (by kernel_rfl) (fun D V w => ∃ E, K24 W W X4 X5 ak am nk nm ck cm lk lm [] E D V w) (fun _ => undef) ?h0 ?hst ?hfin
  case h0 => exact ⟨_, K24.start (Sep.nil _ _)⟩
  case hst =>
    refine ⟨?_, ?_, ?_, ?_, ?_, ?_, ?_, ?_, trivial⟩
    all_goals rintro D V w b hs hi hb ⟨EE, hK⟩
    · have e := (hs.old 33 (by kernel_rfl)).trans t33
      simp [Act.eval] at e
      go_simp
      exact ⟨_, rfl, EE, hK.up0 hi⟩
    · have e := (hs.got 0 213 (hb 0 _ rfl rfl) rfl (by decide) (by rw [tsz]; decide)).trans (hK.v0 (hb 0 _ rfl rfl))
      simp [Act.eval] at e
      have hc0 := ck' hK.below (lX4) q4
      go_simp
      exact ⟨_, rfl, EE, hK.up1 hi⟩
    · have e0 := (hs.got 1 214 (hb 0 _ rfl rfl) rfl (by decide) (by rw [tsz]; decide)).trans (hK.v1 (hb 0 _ rfl rfl))
      refine op_call 22 #[.tmp 214] _ rfl (fun _ _ => by kernel_rfl) #[.slice ak nk ck] (by simp [e0]) _ (C4.out w hK.below) ?_
      rintro _ w' ⟨v, rfl, hO, hB⟩
      exact ⟨_, rfl, _, rfl, _, hK.up2 hi (Nat.le_refl _) hO hB⟩
    · have e := (hs.old 35 (by kernel_rfl)).trans t35
      simp [Act.eval] at e
      go_simp
      exact ⟨_, rfl, EE, hK.up3 hi⟩
    · have e := (hs.got 3 216 (hb 0 _ rfl rfl) rfl (by decide) (by rw [tsz]; decide)).trans (hK.v3 (hb 0 _ rfl rfl))
      simp [Act.eval] at e
      have hc0 := ck' hK.below (lX5) q5
      go_simp
      exact ⟨_, rfl, EE, hK.up4 hi⟩
    · have e0 := (hs.got 4 217 (hb 0 _ rfl rfl) rfl (by decide) (by rw [tsz]; decide)).trans (hK.v4 (hb 0 _ rfl rfl))
      refine op_call 22 #[.tmp 217] _ rfl (fun _ _ => by kernel_rfl) #[.slice am nm cm] (by simp [e0]) _ (C5.out w hK.below) ?_
      rintro _ w' ⟨v, rfl, hO, hB⟩
      exact ⟨_, rfl, _, rfl, _, hK.up5 hi (Nat.le_refl _) hO hB⟩
    · obtain ⟨v, hv, _⟩ := hK.v2 (hb 0 _ rfl rfl)
      have e := (hs.got 2 215 (hb 0 _ rfl rfl) rfl (by decide) (by rw [tsz]; decide)).trans hv
      simp [Act.eval] at e
      go_simp
      exact ⟨_, rfl, EE, hK.up6 hi (hb 0 _ rfl rfl) hv⟩
    · obtain ⟨v, hv, _⟩ := hK.v5 (hb 0 _ rfl rfl)
      have e := (hs.got 5 218 (hb 0 _ rfl rfl) rfl (by decide) (by rw [tsz]; decide)).trans hv
      simp [Act.eval] at e
      go_simp
      exact ⟨_, rfl, EE, hK.up7 hi (hb 0 _ rfl rfl) hv⟩
  rintro D V W1 hD ⟨EE, hK⟩
  have V0 := hK.v0 (hD 0 (by decide))
  have V1 := hK.v1 (hD 1 (by decide))
  obtain ⟨vk1, V2, E2⟩ := hK.v2 (hD 2 (by decide))
  have V3 := hK.v3 (hD 3 (by decide))
  have V4 := hK.v4 (hD 4 (by decide))
  obtain ⟨vm1, V5, E5⟩ := hK.v5 (hD 5 (by decide))
  have V6 := (hK.v6 (hD 6 (by decide))).trans V2
  have V7 := (hK.v7 (hD 7 (by decide))).trans V5
  have EB := hK.eb
  have hS := hK.sep
  have hb := hK.below
  clear hK
  have e : ∀ ops : Array Oper, ops.size = 8 → dstOf ops 0 = some 213 → dstOf ops 1 = some 214 → dstOf ops 2 = some 215 → dstOf ops 3 = some 216 → dstOf ops 4 = some 217 → dstOf ops 5 = some 218 → dstOf ops 6 = some 43 → dstOf ops 7 = some 44 →
      putM ops (Array.replicate ops.size true) V A0 ops.size = ((((((((A0.put (some 213) (V 0)).put (some 214) (V 1)).put (some 215) (V 2)).put (some 216) (V 3)).put (some 217) (V 4)).put (some 218) (V 5)).put (some 43) (V 6)).put (some 44) (V 7)) := fun ops hs d0 d1 d2 d3 d4 d5 d6 d7 => by
    rw [hs]; simp [putM, d0, d1, d2, d3, d4, d5, d6, d7, Act.put]
  rw [e _ rfl rfl rfl rfl rfl rfl rfl rfl rfl, V0, V1, V2, V3, V4, V5, V6, V7, ← ha]
  clear e ha V0 V1 V2 V3 V4 V5 V6 V7 hD  t33 t35 tsz
  go_simp
  clear q4 q5 C4 C5
  refine HK.out _ _ ?_
  have hP := hS.sub (flat_pick EE 9 [2, 5] (by decide) (by decide))
  simp only [List.flatMap_cons, List.flatMap_nil, E2, E5] at hP
  have hA := Sep.app HS.out.1 hB1 hb hP
  have hl : Late B1 W W1 := Late.below hb
  have hSO := HS.out.2.2.2.below hb
  have hA' : Sep B1 W1 ([bE vx nx bx, sE 24 X0 [.int .i64 s0, .int .i64 y0, vx], bE vy ny by_, sE 24 X1 [.int .i64 s1, .int .i64 y1, vy]] ++ ((Lp ++ [sE 27 X2 [.int .i64 kp, .slice ap np cp]]) ++ ((Lq ++ [sE 27 X3 [.int .i64 kq, .slice aq nq cq]]) ++ ([ec (.slice ak nk ck) nk lk, sE 30 X4 [.int .i64 k4, .int .i64 l4, (.slice ak nk ck)], ec (.slice am nm cm) nm lm, sE 30 X5 [.int .i64 k5, .int .i64 l5, (.slice am nm cm)]] ++ ([bE vx1 nx bx, bE vy1 ny by_] ++ (hdrE (.slice ap1 np cp1) np (rowsV xp Gp np) :: rowsE xp Gp np) ++ (hdrE (.slice aq1 nq cq1) nq (rowsV xq Gq nq) :: rowsE xq Gq nq) ++ [sE 27 T1 [.int .i64 kp, .slice ap1 np cp1], sE 27 T2 [.int .i64 kq, .slice aq1 nq cq1]] ++ [ec vk1 nk lk, ec vm1 nm lm]))))) := by
    simp only [List.append_assoc, List.cons_append, List.nil_append, List.append_nil] at hA ⊢
    exact hA
  exact pD (bstep HW.out hb) hB0 hB01 (Nat.le_trans hB1 hb.size) hA' (HS.out.2.1.late hl) (HS.out.2.2.1.late hl) hnx hny hnk hnm (SO := hSO) hg4 hg5 hg0 hn0 hg1 hn1 hn2 hn3 hR2 hR3 hZ2 hZ3
set_option maxHeartbeats 16000000 in
theorem pC1 {w0 W : World} {B0 B1 : Nat} {X0 X1 X2 X3 X4 X5 : Nat} {s0 y0 s1 y1 kp kq k4 l4 k5 l5 : Int} {vx vy vk vm : Value} {nx ny nk nm : Nat} {bx by_ : List Bool} {lk lm : List (Int × Int)} {ap aq : Option Addr} {np nq cp cq : Nat} {xp xq : List (List Int)} {Lp Lq : List Ent} {P4 g4 n4 P5 g5 n5 P0 g0 n0 P1 g1 n1 : Nat} {kk4 lo4 kk5 lo5 sz0 wy0 sz1 wy1 : Int} {cs4 cs5 : List Value} {bs0 bs1 : List Bool} {P2 P3 n2 n3 c7 c8 : Nat} {a7 a8 : Option Addr} {wd2 wd3 : Int} {xs2 xs3 : List (List Int)} {G2 G3 : Nat → Nat}
    {u0 u1 u2 u3 u4 u5 u6 u7 u8 u9 u10 u11 u12 u13 u14 u15 u16 u17 u18 u26 u28 u30 u32 u34 u36 u37 u38 u39 u40 u41 u42 u43 u44 u45 u46 u47 u48 u49 u50 u51 u52 u53 u54 u55 u56 u57 u58 u59 u60 u61 u62 u63 u64 u65 u66 u67 u68 u69 u70 u71 u72 u73 u74 u75 u76 u77 u78 u79 u80 u81 u82 u83 u84 u85 u86 u87 u88 u89 u90 u91 u92 u93 u94 u95 u96 u97 u98 u99 u100 u101 u102 u103 u104 u105 u106 u107 u108 u109 u110 u111 u112 u113 u114 u115 u116 u117 u118 u119 u120 u121 u122 u123 u124 u125 u126 u127 u128 u129 u130 u131 u132 u133 u134 u135 u136 u137 u138 u139 u140 u141 u142 u143 u144 u145 u146 u147 u148 u149 u150 u151 u152 u153 u154 u155 u156 u157 u158 u159 u160 u161 u162 u163 u164 u165 u166 u167 u168 u169 u170 u171 u172 u173 u174 u175 u176 u177 u178 u179 u180 u181 u182 u183 u184 u185 u186 u187 u188 u189 u190 u191 u192 u193 u194 u195 u196 u197 u198 u199 u200 u201 u202 u203 u204 u205 u206 u207 u208 u209 u210 u211 u212 u213 u214 u215 u216 u217 u218 u219 u220 u221 u222 u223 u224 u225 u226 u227 u228 u229 u230 u231 u232 u233 u234 u235 u236 u237 u238 u239 u240 u241 u242 u243 u244 u245 u246 u247 u248 u249 u250 u251 u252 u253 u254 u255 u256 u257 u258 u259 u260 u261 u262 u263 u264 u265 u266 u267 u268 u269 u270 u271 u272 u273 u274 u275 u276 u277 u278 u279 u280 u281 u282 u283 u284 u285 u286 u287 u288 u289 u290 u291 u292 u293 u294 u295 u296 u297 u298 u299 u300 u301 u302 u303 u304 u305 u306 u307 u308 u309 u310 u311 u312 u313 u314 u315 u316 u317 u318 u319 u320 u321 u322 u323 u324 u325 u326 u327 u328 : Value}
    (hw : Below w0.heap.size w0 W) (hB0 : w0.heap.size ≤ B0) (hB01 : B0 ≤ B1) (hB1 : B1 ≤ W.heap.size)
    (S : Sep B1 W ([bE vx nx bx, sE 24 X0 [.int .i64 s0, .int .i64 y0, vx], bE vy ny by_, sE 24 X1 [.int .i64 s1, .int .i64 y1, vy]] ++ ((Lp ++ [sE 27 X2 [.int .i64 kp, .slice ap np cp]]) ++ ((Lq ++ [sE 27 X3 [.int .i64 kq, .slice aq nq cq]]) ++ [ec vk nk lk, sE 30 X4 [.int .i64 k4, .int .i64 l4, vk], ec vm nm lm, sE 30 X5 [.int .i64 k5, .int .i64 l5, vm]]))))
    (TP : TabR B1 W ap np cp xp Lp) (TQ : TabR B1 W aq nq cq xq Lq) (hnx : nx ≤ 1000) (hny : ny ≤ 1000) (hnk : nk ≤ 1000) (hnm : nm ≤ 1000)
    (SO : Sep B0 W (([sE 27 P2 [.int .i64 wd2, .slice a7 n2 c7]] ++ (hdrE (.slice a7 n2 c7) n2 (rowsV xs2 G2 n2) :: rowsE xs2 G2 n2)) ++ (([sE 27 P3 [.int .i64 wd3, .slice a8 n3 c8]] ++ (hdrE (.slice a8 n3 c8) n3 (rowsV xs3 G3 n3) :: rowsE xs3 G3 n3)) ++ ([sE 30 P4 [.int .i64 kk4, .int .i64 lo4, .slice (some ⟨g4, 0, none⟩) n4 (n4 + 3)], ⟨36, 2, .slice (some ⟨g4, 0, none⟩) (n4 + 3) (n4 + 3), n4 + 3, cs4⟩] ++ ([sE 30 P5 [.int .i64 kk5, .int .i64 lo5, .slice (some ⟨g5, 0, none⟩) n5 (n5 + 3)], ⟨36, 2, .slice (some ⟨g5, 0, none⟩) (n5 + 3) (n5 + 3), n5 + 3, cs5⟩] ++ ([sE 24 P0 [.int .i64 sz0, .int .i64 wy0, .slice (some ⟨g0, 0, none⟩) n0 (n0 + 3)], bE (.slice (some ⟨g0, 0, none⟩) (n0 + 3) (n0 + 3)) (n0 + 3) bs0] ++ [sE 24 P1 [.int .i64 sz1, .int .i64 wy1, .slice (some ⟨g1, 0, none⟩) n1 (n1 + 3)], bE (.slice (some ⟨g1, 0, none⟩) (n1 + 3) (n1 + 3)) (n1 + 3) bs1])))))) (hg4 : g4 < B1) (hg5 : g5 < B1) (hg0 : g0 < B1) (hn0 : n0 ≤ 1048576) (hg1 : g1 < B1) (hn1 : n1 ≤ 1048576) (hn2 : n2 ≤ 1048576) (hn3 : n3 ≤ 1048576) (hR2 : ∀ i, i < n2 → G2 i < B1) (hR3 : ∀ i, i < n3 → G3 i < B1) (hZ2 : ∀ i, i < n2 → (gl xs2 i).length ≤ 17592186043904) (hZ3 : ∀ i, i < n3 → (gl xs3 i).length ≤ 17592186043904) :
    (cd 15).wp Try.prog (bodyPost Try.prog Try.f3 (fun e w' => e = .returned (.bool true) ∧ Below w0.heap.size w0 w'))
      ⟨#[u0, u1, u2, u3, u4, u5, u6, u7, u8, u9, u10, u11, u12, u13, u14, u15, u16, u17, u18, .pointer (some ⟨P0, 0, none⟩), .pointer (some ⟨P1, 0, none⟩), .pointer (some ⟨P2, 0, none⟩), .pointer (some ⟨P3, 0, none⟩), .pointer (some ⟨P4, 0, none⟩), .pointer (some ⟨P5, 0, none⟩), .pointer (some ⟨X0, 0, none⟩), u26, .pointer (some ⟨X1, 0, none⟩), u28, .pointer (some ⟨X2, 0, none⟩), u30, .pointer (some ⟨X3, 0, none⟩), u32, .pointer (some ⟨X4, 0, none⟩), u34, .pointer (some ⟨X5, 0, none⟩), u36, u37, u38, u39, u40, u41, u42, u43, u44, u45, u46, u47, u48, u49, u50, u51, u52, u53, u54, u55, u56, u57, u58, u59, u60, u61, u62, u63, u64, u65, u66, u67, u68, u69, u70, u71, u72, u73, u74, u75, u76, u77, u78, u79, u80, u81, u82, u83, u84, u85, u86, u87, u88, u89, u90, u91, u92, u93, u94, u95, u96, u97, u98, u99, u100, u101, u102, u103, u104, u105, u106, u107, u108, u109, u110, u111, u112, u113, u114, u115, u116, u117, u118, u119, u120, u121, u122, u123, u124, u125, u126, u127, u128, u129, u130, u131, u132, u133, u134, u135, u136, u137, u138, u139, u140, u141, u142, u143, u144, u145, u146, u147, u148, u149, u150, u151, u152, u153, u154, u155, u156, u157, u158, u159, u160, u161, u162, u163, u164, u165, u166, u167, u168, u169, u170, u171, u172, u173, u174, u175, u176, u177, u178, u179, u180, u181, u182, u183, u184, u185, u186, u187, u188, u189, u190, u191, u192, u193, u194, u195, u196, u197, u198, u199, u200, u201, u202, u203, u204, u205, u206, u207, u208, u209, u210, u211, u212, u213, u214, u215, u216, u217, u218, u219, u220, u221, u222, u223, u224, u225, u226, u227, u228, u229, u230, u231, u232, u233, u234, u235, u236, u237, u238, u239, u240, u241, u242, u243, u244, u245, u246, u247, u248, u249, u250, u251, u252, u253, u254, u255, u256, u257, u258, u259, u260, u261, u262, u263, u264, u265, u266, u267, u268, u269, u270, u271, u272, u273, u274, u275, u276, u277, u278, u279, u280, u281, u282, u283, u284, u285, u286, u287, u288, u289, u290, u291, u292, u293, u294, u295, u296, u297, u298, u299, u300, u301, u302, u303, u304, u305, u306, u307, u308, u309, u310, u311, u312, u313, u314, u315, u316, u317, u318, u319, u320, u321, u322, u323, u324, u325, u326, u327, u328], []⟩ W := by
  obtain ⟨ax, cx, ex, hx⟩ := owns_bools (show W.ownsRow B1 4 1 vx nx (bx.map Value.bool) from S.own (bE vx nx bx) (by simp))
  obtain ⟨ay, cy, ey, hy⟩ := owns_bools (show W.ownsRow B1 4 1 vy ny (by_.map Value.bool) from S.own (bE vy ny by_) (by simp))
  subst ex ey
  have lX0 : X0 < W.heap.size := ((S.own (sE 24 X0 [.int .i64 s0, .int .i64 y0, .slice ax nx cx]) (by simp)).lt X0 rfl).2
  have q0 : W.cell? ⟨X0, 2, none⟩ = some (.slice ax nx cx) := box_cell S (t := 24) (P := X0) (cs := [.int .i64 s0, .int .i64 y0, .slice ax nx cx]) (by simp) 2 (by simp) W (Below.refl _ _)
  have lX1 : X1 < W.heap.size := ((S.own (sE 24 X1 [.int .i64 s1, .int .i64 y1, .slice ay ny cy]) (by simp)).lt X1 rfl).2
  have q1 : W.cell? ⟨X1, 2, none⟩ = some (.slice ay ny cy) := box_cell S (t := 24) (P := X1) (cs := [.int .i64 s1, .int .i64 y1, .slice ay ny cy]) (by simp) 2 (by simp) W (Below.refl _ _)
  have lX2 : X2 < W.heap.size := ((S.own (sE 27 X2 [.int .i64 kp, .slice ap np cp]) (by simp)).lt X2 rfl).2
  have q2 : W.cell? ⟨X2, 0, none⟩ = some (.int .i64 kp) := box_cell S (t := 27) (P := X2) (cs := [.int .i64 kp, .slice ap np cp]) (by simp) 0 (by simp) W (Below.refl _ _)
  have q2b : W.cell? ⟨X2, 1, none⟩ = some (.slice ap np cp) := box_cell S (t := 27) (P := X2) (cs := [.int .i64 kp, .slice ap np cp]) (by simp) 1 (by simp) W (Below.refl _ _)
  have lX3 : X3 < W.heap.size := ((S.own (sE 27 X3 [.int .i64 kq, .slice aq nq cq]) (by simp)).lt X3 rfl).2
  have q3 : W.cell? ⟨X3, 0, none⟩ = some (.int .i64 kq) := box_cell S (t := 27) (P := X3) (cs := [.int .i64 kq, .slice aq nq cq]) (by simp) 0 (by simp) W (Below.refl _ _)
  have q3b : W.cell? ⟨X3, 1, none⟩ = some (.slice aq nq cq) := box_cell S (t := 27) (P := X3) (cs := [.int .i64 kq, .slice aq nq cq]) (by simp) 1 (by simp) W (Below.refl _ _)
  have SP : Sep B1 W Lp := S.r.l.l
  have SQ : Sep B1 W Lq := S.r.r.l.l
  have zp := TP.rowsZ SP
  have zq := TQ.rowsZ SQ
  have C0 := hidp (fun W' (hB : Below W.heap.size W W') => (cloneb_c ax nx cx bx W' (hx.below hB) (by omega)).mono (fun e w' h => (show ∃ v, e = .returned v ∧ Sep W'.heap.size w' [bE v nx bx] ∧ Below W'.heap.size W' w' from by
    obtain ⟨v, h1, h2, h3⟩ := h
    exact ⟨v, h1, Sep.one h2, h3⟩)))
  have C1 := hidp (fun W' (hB : Below W.heap.size W W') => (cloneb_c ay ny cy by_ W' (hy.below hB) (by omega)).mono (fun e w' h => (show ∃ v, e = .returned v ∧ Sep W'.heap.size w' [bE v ny by_] ∧ Below W'.heap.size W' w' from by
    obtain ⟨v, h1, h2, h3⟩ := h
    exact ⟨v, h1, Sep.one h2, h3⟩)))
  have C2 := hidp (fun W' (hB : Below W.heap.size W W') => kcopied_c kp ap np cp xp W' (zp.below hB) (by have := TP.few; omega))
  have C3 := hidp (fun W' (hB : Below W.heap.size W W') => kcopied_c kq aq nq cq xq W' (zq.below hB) (by have := TQ.few; omega))
  unfold tabV at C2 C3
  clear hx hy SP SQ zp zq
  have HS := hidp (And.intro S (And.intro TP (And.intro TQ SO)))
  have HW := hidp hw
  clear S TP TQ SO hw
  conv => arg 2; whnf
  dsimp only
  apply wp_seq_k; intro K hK
  have HK := hidp hK
  clear hK
  go_upto_region 23 with fail
  generalize ha : Act.mk _ _ = A0
  have t25 : A0.eval (.tmp 25) = .pointer (some ⟨X0, 0, none⟩) := by rw [← ha]; rfl
  have t27 : A0.eval (.tmp 27) = .pointer (some ⟨X1, 0, none⟩) := by rw [← ha]; rfl
  have t29 : A0.eval (.tmp 29) = .pointer (some ⟨X2, 0, none⟩) := by rw [← ha]; rfl
  have t31 : A0.eval (.tmp 31) = .pointer (some ⟨X3, 0, none⟩) := by rw [← ha]; rfl
  have tsz : A0.tmps.size = 329 := by rw [← ha]; rfl
  refine region_duty (by kernel_rfl) (by kernel_rfl) (fun D V w => ∃ E, K23 W W X0 X1 X2 X3 ax ay ap aq nx ny np nq cx cy cp cq bx by_ kp kq xp xq [] E D V w) (fun _ => undef) ?h0 ?hst ?hfin
  case h0 => exact ⟨_, K23.start (Sep.nil _ _)⟩
  case hst =>
    refine ⟨?_, ?_, ?_, ?_, ?_, ?_, ?_, ?_, ?_, ?_, ?_, ?_, ?_, ?_, ?_, ?_, trivial⟩
    all_goals rintro D V w b hs hi hb ⟨EE, hK⟩
    · have e := (hs.old 25 (by kernel_rfl)).trans t25
      simp [Act.eval] at e
      go_simp
      exact ⟨_, rfl, EE, hK.up0 hi⟩
    · have e := (hs.got 0 203 (hb 0 _ rfl rfl) rfl (by decide) (by rw [tsz]; decide)).trans (hK.v0 (hb 0 _ rfl rfl))
      simp [Act.eval] at e
      have hc0 := ck' hK.below (lX0) q0
      go_simp
      exact ⟨_, rfl, EE, hK.up1 hi⟩
    · have e0 := (hs.got 1 204 (hb 0 _ rfl rfl) rfl (by decide) (by rw [tsz]; decide)).trans (hK.v1 (hb 0 _ rfl rfl))
      refine op_call 21 #[.tmp 204] _ rfl (fun _ _ => by kernel_rfl) #[.slice ax nx cx] (by simp [e0]) _ (C0.out w hK.below) ?_
      rintro _ w' ⟨v, rfl, hO, hB⟩
      exact ⟨_, rfl, _, rfl, _, hK.up2 hi (Nat.le_refl _) hO hB⟩
    · have e := (hs.old 27 (by kernel_rfl)).trans t27
      simp [Act.eval] at e
      go_simp
      exact ⟨_, rfl, EE, hK.up3 hi⟩
    · have e := (hs.got 3 206 (hb 0 _ rfl rfl) rfl (by decide) (by rw [tsz]; decide)).trans (hK.v3 (hb 0 _ rfl rfl))
      simp [Act.eval] at e
      have hc0 := ck' hK.below (lX1) q1
      go_simp
      exact ⟨_, rfl, EE, hK.up4 hi⟩
    · have e0 := (hs.got 4 207 (hb 0 _ rfl rfl) rfl (by decide) (by rw [tsz]; decide)).trans (hK.v4 (hb 0 _ rfl rfl))
      refine op_call 21 #[.tmp 207] _ rfl (fun _ _ => by kernel_rfl) #[.slice ay ny cy] (by simp [e0]) _ (C1.out w hK.below) ?_
      rintro _ w' ⟨v, rfl, hO, hB⟩
      exact ⟨_, rfl, _, rfl, _, hK.up5 hi (Nat.le_refl _) hO hB⟩
    · have e := (hs.old 29 (by kernel_rfl)).trans t29
      simp [Act.eval] at e
      have hc0 := ck' hK.below (lX2) q2
      have hc1 := ck' hK.below (lX2) q2b
      go_simp
      exact ⟨_, rfl, EE, hK.up6 hi⟩
    · have e0 := (hs.got 6 209 (hb 0 _ rfl rfl) rfl (by decide) (by rw [tsz]; decide)).trans (hK.v6 (hb 0 _ rfl rfl))
      refine op_call 7 #[.tmp 209] _ rfl (fun _ _ => by kernel_rfl) #[.agg #[.int .i64 kp, .slice ap np cp]] (by simp [e0]) _ (C2.out w hK.below) ?_
      rintro _ w' ⟨av, cw, G, rfl, hO, hB⟩
      exact ⟨_, rfl, _, rfl, _, hK.up7 hi (Nat.le_refl _) hO hB⟩
    · have e := (hs.old 31 (by kernel_rfl)).trans t31
      simp [Act.eval] at e
      have hc0 := ck' hK.below (lX3) q3
      have hc1 := ck' hK.below (lX3) q3b
      go_simp
      exact ⟨_, rfl, EE, hK.up8 hi⟩
    · have e0 := (hs.got 8 211 (hb 0 _ rfl rfl) rfl (by decide) (by rw [tsz]; decide)).trans (hK.v8 (hb 0 _ rfl rfl))
      refine op_call 7 #[.tmp 211] _ rfl (fun _ _ => by kernel_rfl) #[.agg #[.int .i64 kq, .slice aq nq cq]] (by simp [e0]) _ (C3.out w hK.below) ?_
      rintro _ w' ⟨av, cw, G, rfl, hO, hB⟩
      exact ⟨_, rfl, _, rfl, _, hK.up9 hi (Nat.le_refl _) hO hB⟩
    · go_simp
      exact ⟨_, rfl, _, hK.up10 hi (Nat.le_refl _)⟩
    · go_simp
      exact ⟨_, rfl, _, hK.up11 hi (Nat.le_refl _)⟩
    · obtain ⟨v, hv, _⟩ := hK.v2 (hb 0 _ rfl rfl)
      have e := (hs.got 2 205 (hb 0 _ rfl rfl) rfl (by decide) (by rw [tsz]; decide)).trans hv
      simp [Act.eval] at e
      go_simp
      exact ⟨_, rfl, EE, hK.up12 hi (hb 0 _ rfl rfl) hv⟩
    · obtain ⟨v, hv, _⟩ := hK.v5 (hb 0 _ rfl rfl)
      have e := (hs.got 5 208 (hb 0 _ rfl rfl) rfl (by decide) (by rw [tsz]; decide)).trans hv
      simp [Act.eval] at e
      go_simp
      exact ⟨_, rfl, EE, hK.up13 hi (hb 0 _ rfl rfl) hv⟩
    · obtain ⟨A, hA, hle, _⟩ := hK.v10 (hb 0 _ rfl rfl)
      have e := (hs.got 10 41 (hb 0 _ rfl rfl) rfl (by decide) (by rw [tsz]; decide)).trans hA
      simp [Act.eval] at e
      obtain ⟨av, cw, G, hv, _⟩ := hK.v7 (hb 1 _ rfl rfl)
      have e2 := (hs.got 7 210 (hb 1 _ rfl rfl) rfl (by decide) (by rw [tsz]; decide)).trans hv
      simp [Act.eval] at e2
      obtain ⟨hfz, hc0, hc1, hup⟩ := hK.up14 hi (hb 0 _ rfl rfl) (hb 1 _ rfl rfl) hA hv
      have hf0 := hfz 0
      have hf1 := hfz 1
      go_simp
      exact ⟨_, _, hup⟩
    · obtain ⟨A, hA, hle, _⟩ := hK.v11 (hb 0 _ rfl rfl)
      have e := (hs.got 11 42 (hb 0 _ rfl rfl) rfl (by decide) (by rw [tsz]; decide)).trans hA
      simp [Act.eval] at e
      obtain ⟨av, cw, G, hv, _⟩ := hK.v9 (hb 1 _ rfl rfl)
      have e2 := (hs.got 9 212 (hb 1 _ rfl rfl) rfl (by decide) (by rw [tsz]; decide)).trans hv
      simp [Act.eval] at e2
      obtain ⟨hfz, hc0, hc1, hup⟩ := hK.up15 hi (hb 0 _ rfl rfl) (hb 1 _ rfl rfl) hA hv
      have hf0 := hfz 0
      have hf1 := hfz 1
      go_simp
      exact ⟨_, _, hup⟩
  rintro D V W1 hD ⟨EE, hK⟩
  have D14 := hD 14 (by decide)
  have D15 := hD 15 (by decide)
  have V0 := hK.v0 (hD 0 (by decide))
  have V1 := hK.v1 (hD 1 (by decide))
  obtain ⟨vx1, V2, E2⟩ := hK.v2 (hD 2 (by decide))
  have V3 := hK.v3 (hD 3 (by decide))
  have V4 := hK.v4 (hD 4 (by decide))
  obtain ⟨vy1, V5, E5⟩ := hK.v5 (hD 5 (by decide))
  have V6 := hK.v6 (hD 6 (by decide))
  obtain ⟨ap1, cp1, Gp, V7, E7⟩ := hK.v7 (hD 7 (by decide))
  have V8 := hK.v8 (hD 8 (by decide))
  obtain ⟨aq1, cq1, Gq, V9, E9⟩ := hK.v9 (hD 9 (by decide))
  obtain ⟨T1, V10, hA10, E10⟩ := hK.v10 (hD 10 (by decide))
  simp only [D14, if_true, V7, scells] at E10
  obtain ⟨T2, V11, hA11, E11⟩ := hK.v11 (hD 11 (by decide))
  simp only [D15, if_true, V9, scells] at E11
  have V12 := (hK.v12 (hD 12 (by decide))).trans V2
  have V13 := (hK.v13 (hD 13 (by decide))).trans V5
  have EB := hK.eb
  have hS := hK.sep
  have hb := hK.below
  clear hK
  have e : ∀ ops : Array Oper, ops.size = 16 → dstOf ops 0 = some 203 → dstOf ops 1 = some 204 → dstOf ops 2 = some 205 → dstOf ops 3 = some 206 → dstOf ops 4 = some 207 → dstOf ops 5 = some 208 → dstOf ops 6 = some 209 → dstOf ops 7 = some 210 → dstOf ops 8 = some 211 → dstOf ops 9 = some 212 → dstOf ops 10 = some 41 → dstOf ops 11 = some 42 → dstOf ops 12 = some 39 → dstOf ops 13 = some 40 → dstOf ops 14 = none → dstOf ops 15 = none →
      putM ops (Array.replicate ops.size true) V A0 ops.size = ((((((((((((((A0.put (some 203) (V 0)).put (some 204) (V 1)).put (some 205) (V 2)).put (some 206) (V 3)).put (some 207) (V 4)).put (some 208) (V 5)).put (some 209) (V 6)).put (some 210) (V 7)).put (some 211) (V 8)).put (some 212) (V 9)).put (some 41) (V 10)).put (some 42) (V 11)).put (some 39) (V 12)).put (some 40) (V 13)) := fun ops hs d0 d1 d2 d3 d4 d5 d6 d7 d8 d9 d10 d11 d12 d13 d14 d15 => by
    rw [hs]; simp [putM, d0, d1, d2, d3, d4, d5, d6, d7, d8, d9, d10, d11, d12, d13, d14, d15, Act.put]
  rw [e _ rfl rfl rfl rfl rfl rfl rfl rfl rfl rfl rfl rfl rfl rfl rfl rfl rfl, V0, V1, V2, V3, V4, V5, V6, V7, V8, V9, V10, V11, V12, V13, ← ha]
  clear e ha V0 V1 V2 V3 V4 V5 V6 V7 V8 V9 V10 V11 V12 V13 hD D14 D15 t25 t27 t29 t31 tsz
  go_simp
  clear q0 q1 q2 q3 q2b q3b C0 C1 C2 C3
  refine HK.out _ _ ?_
  have hP := hS.sub (flat_pick EE 17 [2, 5, 7, 9, 10, 11] (by decide) (by decide))
  simp only [List.flatMap_cons, List.flatMap_nil, E2, E5, E7, E9, E10, E11] at hP
  have hA := Sep.app HS.out.1 hB1 hb hP
  have hl : Late B1 W W1 := Late.below hb
  have hSO := HS.out.2.2.2.below hb
  have hA' : Sep B1 W1 ([bE (.slice ax nx cx) nx bx, sE 24 X0 [.int .i64 s0, .int .i64 y0, (.slice ax nx cx)], bE (.slice ay ny cy) ny by_, sE 24 X1 [.int .i64 s1, .int .i64 y1, (.slice ay ny cy)]] ++ ((Lp ++ [sE 27 X2 [.int .i64 kp, .slice ap np cp]]) ++ ((Lq ++ [sE 27 X3 [.int .i64 kq, .slice aq nq cq]]) ++ ([ec vk nk lk, sE 30 X4 [.int .i64 k4, .int .i64 l4, vk], ec vm nm lm, sE 30 X5 [.int .i64 k5, .int .i64 l5, vm]] ++ ([bE vx1 nx bx, bE vy1 ny by_] ++ (hdrE (.slice ap1 np cp1) np (rowsV xp Gp np) :: rowsE xp Gp np) ++ (hdrE (.slice aq1 nq cq1) nq (rowsV xq Gq nq) :: rowsE xq Gq nq) ++ [sE 27 T1 [.int .i64 kp, .slice ap1 np cp1], sE 27 T2 [.int .i64 kq, .slice aq1 nq cq1]]))))) := by
    simp only [List.append_assoc, List.cons_append, List.nil_append, List.append_nil] at hA ⊢
    exact hA
  exact pC2 (bstep HW.out hb) hB0 hB01 (Nat.le_trans hB1 hb.size) hA' (HS.out.2.1.late hl) (HS.out.2.2.1.late hl) hnx hny hnk hnm (SO := hSO) hg4 hg5 hg0 hn0 hg1 hn1 hn2 hn3 hR2 hR3 hZ2 hZ3
end Go.Proofs.Ytffocoflmbhknaa.sketchOwn
