/- Two slices that grow in one drawn region, one of them in a cell: what stands, whatever the order. -/
import Derived.Test.YtpdigiefldnpaaaDealAllC
import Derived.Test.YtpdigiefldnpaaaStepCall
import Derived.Deep.AppendLies
import Derived.Deep.DeepCutAuto
import Derived.Deep.RegionHeld3
namespace Go.Proofs.Ytpdigiefldnpaaa.dealAll
open Go.ChangeShapes Go.WideShapes Go.ChangeAt Go.RowKit Go.Maps OdoMath
open Go.Proofs.Ytpdigiefldnpaaa
set_option maxRecDepth 20000
theorem bds_snoc (k : Nat) : bds (k + 1) = bds k ++ [(k : Int) + 1] := tab_snoc _ _
theorem idn_snoc (k : Nat) : idn (k + 1) = idn k ++ [(k : Int)] := tab_snoc _ _
structure RB (w W : World) (P6 : Nat) (vc vb : Value) (kb : Nat) (vr : Value) (kr : Nat) : Prop where
  c : W.cell? ⟨P6, 0, none⟩ = some vc
  f : W.frozen? ⟨P6, 0, none⟩ = false
  hb : W.ownsRow (P6 + 1) 3 1 vb kb ((bds kb).map (Value.int .i64))
  hr : W.ownsRow (P6 + 1) 3 1 vr kr ((idn kr).map (Value.int .i64))
  ap : Apart vb vr
  bl : Below w.heap.size w W
  sz : P6 + 1 ≤ W.heap.size
  ps : w.heap.size ≤ P6
theorem RB.alloc {w W : World} {P6 : Nat} {vc vb vr : Value} {kb kr : Nat} (h : RB w W P6 vc vb kb vr kr) (o : Obj) : RB w (W.alloc o) P6 vc vb kb vr kr :=
  ⟨ca h.c o, ((bal (Below.refl _ _) o).frozen (p := ⟨P6, 0, none⟩) (lt_of_cell h.c)).trans h.f, h.hb.alloc o, h.hr.alloc o, h.ap, bal h.bl o, by have := h.sz; simp; omega, h.ps⟩
theorem RB.nec {w W : World} {P6 : Nat} {vc vb vr : Value} {kb kr : Nat} (h : RB w W P6 vc vb kb vr kr) : ¬ P6 = W.heap.size ∧ ¬ W.heap.size = P6 ∧ P6 < W.heap.size := by
  have := h.sz
  omega
theorem RB.drew {w W : World} {P6 : Nat} {vc vb vr : Value} {kb kr : Nat} (h : RB w W P6 vc vb kb vr kr) : RB w W.drew P6 vc vb kb vr kr :=
  ⟨h.c, h.f, h.hb, h.hr, h.ap, h.bl.drew, h.sz, h.ps⟩
theorem RB.put {w W : World} {P6 : Nat} {vc vb vr : Value} {kb kr : Nat} (h : RB w W P6 vc vb kb vr kr) (v : Value) : RB w (W.setCell ⟨P6, 0, none⟩ v) P6 v vb kb vr kr :=
  ⟨World.cell?_setCell_same _ _ _ h.c, by rw [← h.f]; simp, ownsRow_setCell_below h.hb (a := ⟨P6, 0, none⟩) (by show P6 < P6 + 1; omega) _, ownsRow_setCell_below h.hr (a := ⟨P6, 0, none⟩) (by show P6 < P6 + 1; omega) _, h.ap, h.bl.setCell (p := ⟨P6, 0, none⟩) h.ps _, by have := h.sz; simp; omega, h.ps⟩
theorem apart_of {w : World} {a b a' : Value} {B n g : Nat} {e : TypeId} {xs : List Value} (h : Apart a b) (hb : w.ownsRow B e 1 b n xs) (ha : a'.ownBlock = some g) (hg : a.ownBlock = some g ∨ g = w.heap.size) : Apart a' b := by
  rcases hg with hg | hg
  · rcases h with h | h
    · rw [h] at hg; cases hg
    · right; rw [ha]; rw [hg] at h; exact h
  · right
    rw [ha]
    intro e2
    have := (hb.lt g e2.symm).2
    omega
theorem news1 {W : World} {g : Nat} {x : Value} (h : W.cell? ⟨g, 0, none⟩ = some x) : ∀ j u, [x][j]? = some u → W.cell? ((⟨g, 0, none⟩ : Addr).add j) = some u := by
  intro j u hu
  match j, hu with
  | 0, hu =>
    simp at hu
    subst hu
    rw [addr_add]; exact h
  | j + 1, hu => simp at hu
theorem carry1 {W W' : World} {v : Value} {b G : Nat} {x : Value} (g : W.grownBy W' v.ownBlock) (hl : ∀ g, v.ownBlock = some g → g < b) (hG : b ≤ G) (h : W.cell? ⟨G, 0, none⟩ = some x) : W'.cell? ⟨G, 0, none⟩ = some x :=
  gk g h (fun e => by have := hl G e; omega)
theorem cell_new (W : World) (x : Value) (T : TypeId) : (W.alloc (.cells #[x] T)).cell? ⟨W.heap.size, 0, none⟩ = some x := by go_simp
theorem cell_new2 (W : World) (o : Obj) (x : Value) (T : TypeId) : ((W.alloc o).alloc (.cells #[x] T)).cell? ⟨W.heap.size + 1, 0, none⟩ = some x := by go_simp
/-- The bounds grow. -/
theorem step_appB {ops : Array Oper} {o : Oper} {a : Act} {W w : World} {K : Act → World → Prop} {Q : Exit → Act → World → Prop} {E : Prop} {P6 k kr g : Nat} {vc vb vr : Value} (hgd : o.guard = none) (s x : Operand)
    (ho : o.op = .call { callee := .builtin .append, args := #[s, x], argTypes := #[22, 22] }) (hs : a.eval s = vb) (hx : a.eval x = .slice (some ⟨g, 0, none⟩) 1 1)
    (hR : RB w W P6 vc vb k vr kr) (hn : W.cell? ⟨g, 0, none⟩ = some (.int .i64 ((k : Int) + 1))) (hk : k < 1000)
    (h : ∀ v' W', RB w W' P6 vc v' (k + 1) vr kr → W.grownBy W' vb.ownBlock → (∀ g, v'.ownBlock = some g → P6 + 1 ≤ g) → K (a.put o.dst v') W') :
    if Region.wanted o (yielded ops a.tmps) = true then Oper.wp Try.prog o a W K Q else E := by
  obtain ⟨i, hi, hz, hsize, hbytes⟩ := info_parts info_int
  refine step_append_lies W hgd s x 22 ho (P6 + 1) 3 i (.int .i64 0) 1 8 Try.underlying22 hi hz hsize hbytes rfl (by decide) vb k _ hs hR.hb ⟨g, 0, none⟩ 1 1 [.int .i64 ((k : Int) + 1)] hx rfl (news1 hn) (one_int _ _) (by decide) (by unfold maxLen; omega) (by omega) hR.sz _ rfl ?_
  intro g' cap w' h1 h2 h3 h4
  have hne : vb.ownBlock ≠ some P6 := fun e => by have := (hR.hb.lt P6 e).1; omega
  have hlr : vr.ownBlock = none ∨ vr.ownBlock ≠ vb.ownBlock := by
    rcases hR.ap with e | e
    · by_cases hv : vr.ownBlock = none
      · exact .inl hv
      · exact .inr (by rw [e]; exact hv)
    · exact .inr (Ne.symm e)
  refine h _ w' ⟨gk h2 hR.c hne, gf h2 hR.f (lt_of_cell hR.c) hne, ?_, hR.hr.kept h2 hlr, apart_of hR.ap hR.hr rfl h3, hR.bl.grown h2 hR.bl.size (fun q e => by have := (hR.hb.lt q e).1; have := hR.ps; omega), by have := hR.sz; have := h2.size; omega, hR.ps⟩ h2 (fun q e => (h1.lt q e).1)
  rw [bds_snoc, List.map_append]; exact h1
/-- The row grows. -/
theorem step_appR {ops : Array Oper} {o : Oper} {a : Act} {W w : World} {K : Act → World → Prop} {Q : Exit → Act → World → Prop} {E : Prop} {P6 k kb g : Nat} {vc vb vr : Value} (hgd : o.guard = none) (s x : Operand)
    (ho : o.op = .call { callee := .builtin .append, args := #[s, x], argTypes := #[22, 22] }) (hs : a.eval s = vr) (hx : a.eval x = .slice (some ⟨g, 0, none⟩) 1 1)
    (hR : RB w W P6 vc vb kb vr k) (hn : W.cell? ⟨g, 0, none⟩ = some (.int .i64 (k : Int))) (hk : k < 1000)
    (h : ∀ g' cap W', RB w W' P6 vc vb kb (.slice (some ⟨g', 0, none⟩) (k + 1) cap) (k + 1) → W.grownBy W' vr.ownBlock → K (a.put o.dst (.slice (some ⟨g', 0, none⟩) (k + 1) cap)) W') :
    if Region.wanted o (yielded ops a.tmps) = true then Oper.wp Try.prog o a W K Q else E := by
  obtain ⟨i, hi, hz, hsize, hbytes⟩ := info_parts info_int
  refine step_append_lies W hgd s x 22 ho (P6 + 1) 3 i (.int .i64 0) 1 8 Try.underlying22 hi hz hsize hbytes rfl (by decide) vr k _ hs hR.hr ⟨g, 0, none⟩ 1 1 [.int .i64 (k : Int)] hx rfl (news1 hn) (one_int _ _) (by decide) (by unfold maxLen; omega) (by omega) hR.sz _ rfl ?_
  intro g' cap w' h1 h2 h3 h4
  have hne : vr.ownBlock ≠ some P6 := fun e => by have := (hR.hr.lt P6 e).1; omega
  have hlb : vb.ownBlock = none ∨ vb.ownBlock ≠ vr.ownBlock := by
    rcases hR.ap with e | e
    · exact .inl e
    · exact .inr e
  refine h _ _ w' ⟨gk h2 hR.c hne, gf h2 hR.f (lt_of_cell hR.c) hne, hR.hb.kept h2 hlb, ?_, (apart_of hR.ap.symm hR.hb rfl h3).symm, hR.bl.grown h2 hR.bl.size (fun q e => by have := (hR.hr.lt q e).1; have := hR.ps; omega), by have := hR.sz; have := h2.size; omega, hR.ps⟩ h2
  rw [idn_snoc, List.map_append]; exact h1
end Go.Proofs.Ytpdigiefldnpaaa.dealAll
