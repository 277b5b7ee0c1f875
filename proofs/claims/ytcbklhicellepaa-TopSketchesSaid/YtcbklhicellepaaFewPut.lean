/- Contract of few.Put. -/
import Derived.Test.YtcbklhicellepaaFewAdd
namespace Go.Proofs.Ytcbklhicellepaa
open Go.ChangeShapes Go.WideShapes Go.ChangeAt Go.RowKit
set_option maxRecDepth 20000
theorem res3 {W : World} {P : Nat} {u0 u1 u2 : Value} (x0 x1 x2 : Value) (h0 : W.cell? ⟨P, 0, none⟩ = some u0) (h1 : W.cell? ⟨P, 1, none⟩ = some u1) (h2 : W.cell? ⟨P, 2, none⟩ = some u2) :
    (((W.setCell ⟨P, 0, none⟩ x0).setCell ⟨P, 1, none⟩ x1).setCell ⟨P, 2, none⟩ x2).cell? ⟨P, 0, none⟩ = some x0 ∧ (((W.setCell ⟨P, 0, none⟩ x0).setCell ⟨P, 1, none⟩ x1).setCell ⟨P, 2, none⟩ x2).cell? ⟨P, 1, none⟩ = some x1 ∧ (((W.setCell ⟨P, 0, none⟩ x0).setCell ⟨P, 1, none⟩ x1).setCell ⟨P, 2, none⟩ x2).cell? ⟨P, 2, none⟩ = some x2 :=
  ⟨con (con (cset h0) (by omega)) (by omega), con (cset (con h1 (by omega))) (by omega), cset (con (con h2 (by omega)) (by omega))⟩
theorem below_set3 {w W : World} (h : Below w.heap.size w W) (P : Nat) (hP : w.heap.size ≤ P) (x0 x1 x2 : Value) : Below w.heap.size w (((W.setCell ⟨P, 0, none⟩ x0).setCell ⟨P, 1, none⟩ x1).setCell ⟨P, 2, none⟩ x2) :=
  (below_set2 h P hP x0 x1).setCell (p := ⟨P, 2, none⟩) hP _
theorem coff3 {W : World} {b b' i : Nat} {v x0 x1 x2 : Value} (h : W.cell? ⟨b, i, none⟩ = some v) (hne : b ≠ b') : (((W.setCell ⟨b', 0, none⟩ x0).setCell ⟨b', 1, none⟩ x1).setCell ⟨b', 2, none⟩ x2).cell? ⟨b, i, none⟩ = some v := coff (coff (coff h hne) hne) hne
theorem frs3 {W : World} {P : Nat} {q : Addr} {x0 x1 x2 : Value} (h : W.frozen? q = false) : (((W.setCell ⟨P, 0, none⟩ x0).setCell ⟨P, 1, none⟩ x1).setCell ⟨P, 2, none⟩ x2).frozen? q = false := frs (frs (frs h))
theorem own_set3 {W : World} {base : Nat} {e : TypeId} {size : Nat} {v : Value} {n : Nat} {xs : List Value} (h : W.ownsRow base e size v n xs) (P : Nat) (hP : P < base) (x0 x1 x2 : Value) : (((W.setCell ⟨P, 0, none⟩ x0).setCell ⟨P, 1, none⟩ x1).setCell ⟨P, 2, none⟩ x2).ownsRow base e size v n xs :=
  ownsRow_setCell_below (ownsRow_setCell_below (ownsRow_setCell_below h (a := ⟨P, 0, none⟩) hP x0) (a := ⟨P, 1, none⟩) hP x1) (a := ⟨P, 2, none⟩) hP x2
theorem CntAt.setCell {w : World} {a : Option Addr} {n c : Nat} {L : List (Int × Int)} (h : CntAt w a n c L) (p : Addr) (hne : ∀ b o, a = some ⟨b, o, none⟩ → b ≠ p.block) (u : Value) : CntAt (w.setCell p u) a n c L := by
  refine ⟨h.len, h.le, h.max, fun hx => ?_⟩
  obtain ⟨b, off, ha, hb, hc⟩ := h.cells hx
  refine ⟨b, off, ha, by simpa using hb, fun i hi => ?_⟩
  rw [World.cell?_setCell_far _ _ _ _ (fun e => hne b off ha e.symm), World.cell?_setCell_far _ _ _ _ (fun e => hne b off ha e.symm)]
  exact hc i hi
theorem run_cnt_field (x y : Int) (W : World) : (Instr.field 95 (.agg #[.int .i64 x, .int .i64 y]) 1).run Try.prog W = .ok (.int .i64 y) W := by
  kernel_rfl
abbrev few0 : Obj := .cells #[.int .i64 0, .int .i64 0, .slice none 0 0] 39
/-- A place for a few that stands new. -/
theorem zz3 {W vb : World} {P : Nat} (hP : W.heap.size = P) (hb : Below (W.alloc few0).drew.heap.size (W.alloc few0).drew vb) :
    vb.cell? ⟨P, 0, none⟩ = some (.int .i64 0) ∧ vb.cell? ⟨P, 1, none⟩ = some (.int .i64 0) ∧ vb.cell? ⟨P, 2, none⟩ = some (.slice none 0 0) ∧ (∀ o, vb.frozen? ⟨P, o, none⟩ = false) ∧ P < vb.heap.size ∧ Below W.heap.size W vb ∧ (∀ Q j u, W.cell? ⟨Q, j, none⟩ = some u → vb.cell? ⟨Q, j, none⟩ = some u) := by
  subst hP
  have hB : Below W.heap.size W vb := bstep (bal (Below.refl _ _) _).drew hb
  have h0 : vb.cell? ⟨W.heap.size, 0, none⟩ = some (.int .i64 0) := ck hb (by go_simp)
  exact ⟨h0, ck hb (by go_simp), ck hb (by go_simp), fun o => (hb.frozen (p := ⟨W.heap.size, o, none⟩) (by simp)).trans (by go_simp), ltc h0, hB, fun Q j u h => ck hB h⟩
/-- What stands while a few is put to: the argument's box P, the result's cell R, the new few's Q. -/
structure FewS (W : World) (P R Q : Nat) (K lost l2 : Int) (va v : Value) : Prop where
  p0 : W.cell? ⟨P, 0, none⟩ = some (.int .i64 K)
  p1 : W.cell? ⟨P, 1, none⟩ = some (.int .i64 lost)
  p2 : W.cell? ⟨P, 2, none⟩ = some va
  r0 : ∃ u, W.cell? ⟨R, 0, none⟩ = some u
  r1 : ∃ u, W.cell? ⟨R, 1, none⟩ = some u
  r2 : ∃ u, W.cell? ⟨R, 2, none⟩ = some u
  fr : ∀ o, W.frozen? ⟨R, o, none⟩ = false
  q0 : W.cell? ⟨Q, 0, none⟩ = some (.int .i64 K)
  q1 : W.cell? ⟨Q, 1, none⟩ = some (.int .i64 l2)
  q2 : W.cell? ⟨Q, 2, none⟩ = some v
  fq : ∀ o, W.frozen? ⟨Q, o, none⟩ = false
theorem FewS.below {W W' : World} {P R Q : Nat} {K lost l2 : Int} {va v : Value} (h : FewS W P R Q K lost l2 va v) (hb : Below W.heap.size W W') : FewS W' P R Q K lost l2 va v :=
  ⟨ck hb h.p0, ck hb h.p1, ck hb h.p2, h.r0.imp (fun _ e => ck hb e), h.r1.imp (fun _ e => ck hb e), h.r2.imp (fun _ e => ck hb e), fun o => by
    obtain ⟨u, e⟩ := h.r0
    exact (hb.frozen (p := ⟨R, o, none⟩) (show R < _ from ltc e)).trans (h.fr o), ck hb h.q0, ck hb h.q1, ck hb h.q2, fun o => (hb.frozen (p := ⟨Q, o, none⟩) (show Q < _ from ltc h.q0)).trans (h.fq o)⟩
theorem FewS.put1 {W : World} {P R Q : Nat} {K lost l2 : Int} {va v : Value} (h : FewS W P R Q K lost l2 va v) (hP : P ≠ Q) (hR : R ≠ Q) (l3 : Int) : FewS (W.setCell ⟨Q, 1, none⟩ (.int .i64 l3)) P R Q K lost l3 va v :=
  ⟨coff h.p0 hP, coff h.p1 hP, coff h.p2 hP, h.r0.imp (fun _ e => coff e hR), h.r1.imp (fun _ e => coff e hR), h.r2.imp (fun _ e => coff e hR), fun o => frs (h.fr o), con h.q0 (by omega), cset h.q1, con h.q2 (by omega), fun o => frs (h.fq o)⟩
theorem FewS.put2 {W : World} {P R Q : Nat} {K lost l2 : Int} {va v : Value} (h : FewS W P R Q K lost l2 va v) (hP : P ≠ Q) (hR : R ≠ Q) (v2 : Value) : FewS (W.setCell ⟨Q, 2, none⟩ v2) P R Q K lost l2 va v2 :=
  ⟨coff h.p0 hP, coff h.p1 hP, coff h.p2 hP, h.r0.imp (fun _ e => coff e hR), h.r1.imp (fun _ e => coff e hR), h.r2.imp (fun _ e => coff e hR), fun o => frs (h.fr o), con h.q0 (by omega), con h.q1 (by omega), cset h.q2, fun o => frs (h.fq o)⟩
end Go.Proofs.Ytcbklhicellepaa
