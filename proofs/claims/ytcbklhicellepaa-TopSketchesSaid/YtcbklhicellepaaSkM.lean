/- Merged: SkKit, SkFresh, SkFill, SkUse, SkJoin, Strs. -/
import Derived.Test.YtcbklhicellepaaTopSkMath
import Derived.Test.YtcbklhicellepaaCounted
import Derived.Test.YtcbklhicellepaaFewMore
import Derived.Test.YtcbklhicellepaaBloomM
import Derived.Test.YtcbklhicellepaaRepeatB
import Derived.Test.YtcbklhicellepaaRepeat
import Derived.Test.YtcbklhicellepaaBotFill
import Derived.Test.YtcbklhicellepaaBotJoin
import Derived.Test.YtcbklhicellepaaTabM
import Derived.Test.YtcbklhicellepaaEqI
import Derived.Test.YtcbklhicellepaaFewJoin
import Derived.Test.YtcbklhicellepaaKit
import Derived.SliceStrings
/- Five sketches in memory: what keeps them. -/
namespace Go.Proofs.Ytcbklhicellepaa
open Go.ChangeShapes Go.WideShapes Go.ChangeAt Go.RowKit
set_option maxRecDepth 20000
/-- A value of five sketches. -/
def allV (ab : Option Addr) (nb cb : Nat) (af : Option Addr) (cf : Nat) (at' : Option Addr) (ct : Nat) (ar : Option Addr) (cr : Nat) (lo : Int) (ac : Option Addr) (nc cc : Nat) : Value :=
  .agg #[.int .i64 5, .slice ab nb cb, .int .i64 100, .int .i64 3, .slice af 100 cf, .int .i64 7, .slice at' 2 ct, .slice ar 4 cr, .int .i64 4, .int .i64 lo, .slice ac nc cc]
/-- Five sketches in memory. -/
structure SkAt (w : World) (ab : Option Addr) (nb cb : Nat) (af : Option Addr) (cf : Nat) (at' : Option Addr) (ct : Nat) (ar : Option Addr) (cr : Nat) (ac : Option Addr) (nc cc : Nat) (B : List Int) (F : List Bool) (T : Nat → Nat → Int) (G : List Int) (C : List (Int × Int)) : Prop where
  b : IntsAt w ab nb cb B
  f : BoolsAt w af 100 cf F
  t : RowsAt w at' 2 ct (tabL T 7 2)
  r : IntsAt w ar 4 cr G
  c : CntAt w ac nc cc C
section
variable {ab : Option Addr} {nb cb : Nat} {af : Option Addr} {cf : Nat} {at' : Option Addr} {ct : Nat} {ar : Option Addr} {cr : Nat} {ac : Option Addr} {nc cc : Nat} {B : List Int} {F : List Bool} {T : Nat → Nat → Int} {G : List Int} {C : List (Int × Int)}
theorem SkAt.below {w w' : World} (h : SkAt w ab nb cb af cf at' ct ar cr ac nc cc B F T G C) (hb : Below w.heap.size w w') : SkAt w' ab nb cb af cf at' ct ar cr ac nc cc B F T G C :=
  ⟨h.b.below hb, h.f.below hb, h.t.below hb, h.r.below hb, h.c.below hb⟩
end
/-- Their blocks are such as N says. -/
def OnB (a : Option Addr) (N : Nat → Prop) : Prop := ∀ b o, a = some ⟨b, o, none⟩ → N b
def RowsOn (W : World) (a : Option Addr) (n : Nat) (N : Nat → Prop) : Prop := ∀ b o, a = some ⟨b, o, none⟩ → N b ∧ ∀ i, i < n → ∀ bi oi ni ci, W.cell? ⟨b, o + i, none⟩ = some (.slice (some ⟨bi, oi, none⟩) ni ci) → N bi
structure SkOn (w : World) (N : Nat → Prop) (ab af at' ar ac : Option Addr) : Prop where
  b : OnB ab N
  f : OnB af N
  t : RowsOn w at' 2 N
  r : OnB ar N
  c : OnB ac N
theorem OnB.imp {a : Option Addr} {N M : Nat → Prop} (h : OnB a N) (hi : ∀ b, N b → M b) : OnB a M := fun b o e => hi b (h b o e)
theorem RowsOn.imp {W : World} {a : Option Addr} {n : Nat} {N M : Nat → Prop} (h : RowsOn W a n N) (hi : ∀ b, N b → M b) : RowsOn W a n M := fun b o e => ⟨hi b (h b o e).1, fun i hil bi oi ni ci hc => hi bi ((h b o e).2 i hil bi oi ni ci hc)⟩
theorem RowsOn.below {W W' : World} {a : Option Addr} {n c : Nat} {xs : List (List Int)} {N : Nat → Prop} (h : RowsOn W a n N) (hr : RowsAt W a n c xs) (hb : Below W.heap.size W W') : RowsOn W' a n N := by
  intro b o ha
  refine ⟨(h b o ha).1, fun i hi bi oi ni ci hc => ?_⟩
  obtain ⟨b', o', ha', hlt, _⟩ := hr.cells (by omega)
  rw [ha] at ha'
  simp only [Option.some.injEq, Addr.mk.injEq] at ha'
  obtain ⟨rfl, rfl, _⟩ := ha'
  exact (h b o ha).2 i hi bi oi ni ci ((hb.cell (p := ⟨b, o + i, none⟩) hlt).symm.trans hc)
theorem RowsOn.set {W : World} {a : Option Addr} {n P : Nat} {N : Nat → Prop} (h : RowsOn W a n N) (hP : ¬ N P) (k : Nat) (v : Value) : RowsOn (W.setCell ⟨P, k, none⟩ v) a n N := by
  intro b o ha
  refine ⟨(h b o ha).1, fun i hi bi oi ni ci hc => (h b o ha).2 i hi bi oi ni ci ?_⟩
  rw [World.cell?_setCell_far _ _ _ _ (fun e => hP (by have := (h b o ha).1; rw [← show P = b from e] at this; exact this))] at hc
  exact hc
theorem SkOn.imp {w : World} {N M : Nat → Prop} {ab af at' ar ac : Option Addr} (h : SkOn w N ab af at' ar ac) (hi : ∀ b, N b → M b) : SkOn w M ab af at' ar ac :=
  ⟨h.b.imp hi, h.f.imp hi, h.t.imp hi, h.r.imp hi, h.c.imp hi⟩
section
variable {ab : Option Addr} {nb cb : Nat} {af : Option Addr} {cf : Nat} {at' : Option Addr} {ct : Nat} {ar : Option Addr} {cr : Nat} {ac : Option Addr} {nc cc : Nat} {B : List Int} {F : List Bool} {T : Nat → Nat → Int} {G : List Int} {C : List (Int × Int)} {N : Nat → Prop}
theorem SkOn.below {w w' : World} (h : SkOn w N ab af at' ar ac) (hs : SkAt w ab nb cb af cf at' ct ar cr ac nc cc B F T G C) (hb : Below w.heap.size w w') : SkOn w' N ab af at' ar ac :=
  ⟨h.b, h.f, h.t.below hs.t hb, h.r, h.c⟩
theorem SkOn.set {w : World} (h : SkOn w N ab af at' ar ac) {P : Nat} (hP : ¬ N P) (k : Nat) (v : Value) : SkOn (w.setCell ⟨P, k, none⟩ v) N ab af at' ar ac :=
  ⟨h.b, h.f, h.t.set hP k v, h.r, h.c⟩
theorem nne {P b : Nat} (h : N b) (hP : ¬ N P) : b ≠ P := fun e => hP (e ▸ h)
theorem onB_ne {a : Option Addr} {P : Nat} (h : OnB a N) (hP : ¬ N P) : ∀ b o, a = some ⟨b, o, none⟩ → b ≠ P := fun b o e hb => hP (hb ▸ h b o e)
theorem SkAt.set {w : World} (hs : SkAt w ab nb cb af cf at' ct ar cr ac nc cc B F T G C) (h : SkOn w N ab af at' ar ac) {P : Nat} (hP : ¬ N P) (k : Nat) (v : Value) : SkAt (w.setCell ⟨P, k, none⟩ v) ab nb cb af cf at' ct ar cr ac nc cc B F T G C :=
  ⟨hs.b.setCell ⟨P, k, none⟩ (onB_ne h.b hP) v, hs.f.setCell P k v (onB_ne h.f hP), hs.t.setFar (fun b o e => ⟨nne (h.t b o e).1 hP, fun i hi bi oi ni ci hc => nne ((h.t b o e).2 i hi bi oi ni ci hc) hP⟩) k v, hs.r.setCell ⟨P, k, none⟩ (onB_ne h.r hP) v, hs.c.setCell ⟨P, k, none⟩ (onB_ne h.c hP) v⟩
/-- Both at once. -/
def SkIn (w : World) (N : Nat → Prop) (ab : Option Addr) (nb cb : Nat) (af : Option Addr) (cf : Nat) (at' : Option Addr) (ct : Nat) (ar : Option Addr) (cr : Nat) (ac : Option Addr) (nc cc : Nat) (B : List Int) (F : List Bool) (T : Nat → Nat → Int) (G : List Int) (C : List (Int × Int)) : Prop := SkAt w ab nb cb af cf at' ct ar cr ac nc cc B F T G C ∧ SkOn w N ab af at' ar ac
theorem SkIn.below {w w' : World} (h : SkIn w N ab nb cb af cf at' ct ar cr ac nc cc B F T G C) (hb : Below w.heap.size w w') : SkIn w' N ab nb cb af cf at' ct ar cr ac nc cc B F T G C := ⟨h.1.below hb, h.2.below h.1 hb⟩
theorem SkIn.set {w : World} (h : SkIn w N ab nb cb af cf at' ct ar cr ac nc cc B F T G C) {P : Nat} (hP : ¬ N P) (k : Nat) (v : Value) : SkIn (w.setCell ⟨P, k, none⟩ v) N ab nb cb af cf at' ct ar cr ac nc cc B F T G C := ⟨h.1.set h.2 hP k v, h.2.set hP k v⟩
theorem SkIn.imp {w : World} {M : Nat → Prop} (h : SkIn w N ab nb cb af cf at' ct ar cr ac nc cc B F T G C) (hi : ∀ b, N b → M b) : SkIn w M ab nb cb af cf at' ct ar cr ac nc cc B F T G C := ⟨h.1, h.2.imp hi⟩
end
/-- Eleven cells of a call's own. -/
structure Own11 (W : World) (P : Nat) : Prop where
  c0 : ∃ v, W.cell? ⟨P, 0, none⟩ = some v
  c1 : ∃ v, W.cell? ⟨P, 1, none⟩ = some v
  c2 : ∃ v, W.cell? ⟨P, 2, none⟩ = some v
  c3 : ∃ v, W.cell? ⟨P, 3, none⟩ = some v
  c4 : ∃ v, W.cell? ⟨P, 4, none⟩ = some v
  c5 : ∃ v, W.cell? ⟨P, 5, none⟩ = some v
  c6 : ∃ v, W.cell? ⟨P, 6, none⟩ = some v
  c7 : ∃ v, W.cell? ⟨P, 7, none⟩ = some v
  c8 : ∃ v, W.cell? ⟨P, 8, none⟩ = some v
  c9 : ∃ v, W.cell? ⟨P, 9, none⟩ = some v
  c10 : ∃ v, W.cell? ⟨P, 10, none⟩ = some v
  fr : ∀ o, W.frozen? ⟨P, o, none⟩ = false
theorem Own11.below {W W' : World} {P : Nat} (h : Own11 W P) (hb : Below W.heap.size W W') : Own11 W' P :=
  ⟨h.c0.imp (fun _ e => ck hb e), h.c1.imp (fun _ e => ck hb e), h.c2.imp (fun _ e => ck hb e), h.c3.imp (fun _ e => ck hb e), h.c4.imp (fun _ e => ck hb e), h.c5.imp (fun _ e => ck hb e), h.c6.imp (fun _ e => ck hb e), h.c7.imp (fun _ e => ck hb e), h.c8.imp (fun _ e => ck hb e), h.c9.imp (fun _ e => ck hb e), h.c10.imp (fun _ e => ck hb e), fun o => (hb.frozen (p := ⟨P, o, none⟩) (by obtain ⟨_, e⟩ := h.c0; have := lt_of_cell e; exact this)).trans (h.fr o)⟩
end Go.Proofs.Ytcbklhicellepaa

/- TopSketches: what its closure fresh gives. -/
namespace Go.Proofs.Ytcbklhicellepaa
open Go.ChangeShapes Go.WideShapes Go.ChangeAt Go.RowKit
set_option maxRecDepth 20000
theorem zeroRow (c : Nat) : (tab (fun _ => (0 : Int)) c).length = c := tab_len _ _
theorem skFL_nil : tab (fun _ => false) 100 = skFL [] := tab_congr _ _ _ (fun _ _ => rfl)
theorem skT_nil (i : Nat) : tab (fun _ => (0 : Int)) 7 = tab (skT [] i) 7 := tab_congr _ _ _ (fun _ _ => rfl)
theorem skR_nil : tab (fun _ => (0 : Int)) 4 = skR [] := tab_congr _ _ _ (fun _ _ => rfl)
theorem zero_bd (n : Nat) : ∀ x ∈ tab (fun _ => (0 : Int)) n, -9223372036854775808 ≤ x ∧ x ≤ 9223372036854775807 := fun x hx => by
  obtain ⟨_, _, rfl⟩ := tab_mem _ _ _ hx; omega
theorem bool_lit (w : World) (T : TypeId) : BoolsAt (w.alloc (.cells #[.bool false] T)) (some ⟨w.heap.size, 0, none⟩) 1 1 [false] :=
  ⟨rfl, Nat.le_refl _, by omega, fun _ => ⟨_, _, rfl, by simp, fun i hi => by obtain rfl : i = 0 := (by omega); go_simp; rfl⟩⟩
theorem rows_two {W : World} {a1 a2 : Option Addr} {n1 c1 n2 c2 : Nat} {X1 X2 : List Int} (T : TypeId) (h1 : IntsAt W a1 n1 c1 X1) (h2 : IntsAt W a2 n2 c2 X2) : RowsAt (W.alloc (.cells #[.slice a1 n1 c1, .slice a2 n2 c2] T)) (some ⟨W.heap.size, 0, none⟩) 2 2 [X1, X2] := by
  refine ⟨rfl, Nat.le_refl _, by omega, fun _ => ⟨_, _, rfl, by simp, fun i hi => ?_⟩⟩
  rcases (by omega : i = 0 ∨ i = 1) with rfl | rfl
  · exact ⟨a1, n1, c1, by go_simp, h1.alloc _⟩
  · exact ⟨a2, n2, c2, by go_simp, h2.alloc _⟩
theorem owns_boolsR {w : World} {base : Nat} {e : TypeId} {v : Value} {n : Nat} {bs : List Bool} (h : w.ownsRow base e 1 v n (bs.map Value.bool)) : ∃ a cap, v = .slice a n cap ∧ BoolsAt w a n cap bs := by
  obtain ⟨a, cap, rfl, h1, h2, h3⟩ := owns_cells h
  have hl : bs.length = n := by have := h.1; simpa using this
  refine ⟨a, cap, rfl, hl, h1, h2, fun hn => ?_⟩
  obtain ⟨b, off, ha, hb, hc⟩ := h3 (fun e => by have := congrArg List.length e; rw [List.length_map, hl, List.length_nil] at this; omega)
  refine ⟨b, off, ha, hb, fun i hi => hc i _ ?_⟩
  rw [List.getElem?_map, List.getElem?_eq_getElem (by omega)]
  unfold gb
  rw [List.getD_eq_getElem?_getD, List.getElem?_eq_getElem (by omega)]; rfl
set_option maxHeartbeats 8000000 in
theorem fresh_core (w : World)
    (hB : ∀ (W : World) (a : Option Addr) (c : Nat), BoolsAt W a 1 c [false] → Calls Try.prog 8 #[.slice a 1 c, .int .i64 100] W fun e w' => ∃ v, e = .returned v ∧ w'.ownsRow W.heap.size 4 1 v 100 ((tab (fun _ => false) 100).map Value.bool) ∧ Below W.heap.size W w')
    (hI : ∀ (n : Nat) (W : World) (a : Option Addr) (c : Nat), n ≤ 1000 → IntsAt W a 1 c [0] → Calls Try.prog 9 #[.slice a 1 c, .int .i64 n] W fun e w' => ∃ v, e = .returned v ∧ w'.ownsRow W.heap.size 3 1 v n ((tab (fun _ => (0 : Int)) n).map (Value.int .i64)) ∧ Below W.heap.size W w') :
    Calls Try.prog 7 #[] w fun e w' => ∃ af cf at' ct ar cr, e = .returned (allV none 0 0 af cf at' ct ar cr 0 none 0 0) ∧ SkIn w' (fun b => w.heap.size < b ∧ b < w'.heap.size) none 0 0 af cf at' ct ar cr none 0 0 [] (skFL []) (skT []) (skR []) [] ∧ Below w.heap.size w w' := by
  have RB := hidp hB
  have R7 := hidp (fun W a c h => hI 7 W a c (by omega) h)
  have R4 := hidp (fun W a c h => hI 4 W a c (by omega) h)
  clear hB hI
  have O0 : Hid (Own11 (w.alloc (.cells #[.int .i64 0, .slice none 0 0, .int .i64 0, .int .i64 0, .slice none 0 0, .int .i64 0, .slice none 0 0, .slice none 0 0, .int .i64 0, .int .i64 0, .slice none 0 0] 41)) w.heap.size) := hidp ⟨⟨.int .i64 0, by go_simp⟩, ⟨.slice none 0 0, by go_simp⟩, ⟨.int .i64 0, by go_simp⟩, ⟨.int .i64 0, by go_simp⟩, ⟨.slice none 0 0, by go_simp⟩, ⟨.int .i64 0, by go_simp⟩, ⟨.slice none 0 0, by go_simp⟩, ⟨.slice none 0 0, by go_simp⟩, ⟨.int .i64 0, by go_simp⟩, ⟨.int .i64 0, by go_simp⟩, ⟨.slice none 0 0, by go_simp⟩, fun o => by simp⟩
  have b0 := bal (Below.refl w.heap.size w) (.cells #[.int .i64 0, .slice none 0 0, .int .i64 0, .int .i64 0, .slice none 0 0, .int .i64 0, .slice none 0 0, .slice none 0 0, .int .i64 0, .int .i64 0, .slice none 0 0] 41)
  go_enter Try.func7, Try.ntmps7
  go_upto_region 1 with fail
  generalize w.alloc (.cells #[.int .i64 0, .slice none 0 0, .int .i64 0, .int .i64 0, .slice none 0 0, .int .i64 0, .slice none 0 0, .slice none 0 0, .int .i64 0, .int .i64 0, .slice none 0 0] 41) = v0 at *
  go_wp2_with fail
  refine (RB.out _ _ _ (bool_lit v0 _)).mono ?_
  rintro e v1 ⟨x1, rfl, hv1, hb1⟩
  obtain ⟨af, cf, rfl, hF⟩ := owns_boolsR hv1
  have B1 : Below v0.heap.size v0 v1 := bstep (bal (Below.refl _ _) (.cells #[.bool false] 4)) hb1
  have S1 := B1.size
  have S0 : w.heap.size < v0.heap.size := by obtain ⟨_, e⟩ := O0.out.c0; exact lt_of_cell (p := ⟨w.heap.size, 0, none⟩) e
  have HF := hidp hF
  have OF := hidp (fun b o e => owns_far hv1 b o e)
  clear hv1 hb1 hF RB
  go_wp2_with fail
  refine (R7.out _ _ _ (ints_lit [0] (n := 1) rfl rfl rfl (by simp) (by omega))).mono ?_
  rintro e v2 ⟨x2, rfl, hv2, hb2⟩
  obtain ⟨a6, c6, rfl, hI⟩ := owns_ints hv2 (zero_bd 7)
  have bb2 : Below v1.heap.size v1 v2 := bstep (bal (Below.refl _ _) (.cells #[.int .i64 0] 3)) hb2
  have B2 := bstep B1 bb2
  have HF2 := hidp (HF.out.below bb2)
  have HI := hidp hI
  have O6 := hidp (fun b o e => owns_far hv2 b o e)
  have S2 := bb2.size
  clear hv2 hb2 hI HF B1 bb2
  go_wp2_with fail
  refine (R7.out _ _ _ (ints_lit [0] (n := 1) rfl rfl rfl (by simp) (by omega))).mono ?_
  rintro e v3 ⟨x3, rfl, hv3, hb3⟩
  obtain ⟨a8, c8, rfl, hJ⟩ := owns_ints hv3 (zero_bd 7)
  have bb3 : Below v2.heap.size v2 v3 := bstep (bal (Below.refl _ _) (.cells #[.int .i64 0] 3)) hb3
  have B3 := bstep B2 bb3
  have HF3 := hidp (HF2.out.below bb3)
  have O8 := hidp (fun b o e => owns_far hv3 b o e)
  have S3 := bb3.size
  have HT := hidp (rows_two 24 (HI.out.below bb3) hJ)
  have B4 := bal B3 (.cells #[.slice a6 7 c6, .slice a8 7 c8] 24)
  have HF4 := hidp (HF3.out.below (bal (Below.refl _ v3) (.cells #[.slice a6 7 c6, .slice a8 7 c8] 24)))
  clear hv3 hb3 hJ HF2 HF3 HI B2 B3 bb3 R7
  go_wp2_with fail
  refine (R4.out _ _ _ (ints_lit [0] (n := 1) (by simp) rfl rfl (by simp) (by omega))).mono ?_
  rintro e v5 ⟨x5, rfl, hv5, hb5⟩
  obtain ⟨ar, cr, rfl, hR⟩ := owns_ints hv5 (zero_bd 4)
  generalize hv4 : v3.alloc (.cells #[.slice a6 7 c6, .slice a8 7 c8] 24) = v4 at *
  have bb5 : Below v4.heap.size v4 v5 := bstep (bal (Below.refl _ _) (.cells #[.int .i64 0] 3)) hb5
  have B5 := bstep B4 bb5
  have HF5 := hidp (HF4.out.below bb5)
  have HT5 := hidp (HT.out.below bb5)
  have HR := hidp hR
  have OR := hidp (fun b o e => owns_far hv5 b o e)
  have S5 := bb5.size
  have k6 := ck bb5 (show v4.cell? ⟨v3.heap.size, 0, none⟩ = some (.slice a6 7 c6) by rw [← hv4]; clear hv4; go_simp)
  have k8 := ck bb5 (show v4.cell? ⟨v3.heap.size, 1, none⟩ = some (.slice a8 7 c8) by rw [← hv4]; clear hv4; go_simp)
  have z4 : v4.heap.size = v3.heap.size + 1 := by rw [← hv4]; simp
  have BW := bstep b0 B5
  have OW := O0.out.below B5
  have hfar : ∀ b o, af = some ⟨b, o, none⟩ → True := fun _ _ _ => trivial
  obtain ⟨⟨_, q0⟩, ⟨_, q1⟩, ⟨_, q2⟩, ⟨_, q3⟩, ⟨_, q4⟩, ⟨_, q5⟩, ⟨_, q6⟩, ⟨_, q7⟩, ⟨_, q8⟩, ⟨_, q9⟩, ⟨_, q10⟩, ofr⟩ := OW
  have f0 := ofr 0
  have f1 := ofr 1
  have f2 := ofr 2
  have f3 := ofr 3
  have f4 := ofr 4
  have f5 := ofr 5
  have f6 := ofr 6
  have f7 := ofr 7
  have f8 := ofr 8
  have f9 := ofr 9
  have f10 := ofr 10
  clear ofr
  clear hv5 hb5 hR HF4 HT R4 hfar B4 B5 bb5 b0
  have K5 : SkIn v5 (fun b => w.heap.size < b ∧ b < v5.heap.size) none 0 0 af cf (some ⟨v3.heap.size, 0, none⟩) 2 ar cr none 0 0 [] (skFL []) (skT []) (skR []) [] := by
    refine ⟨⟨ints_nil _, by rw [← skFL_nil]; exact HF5.out, ?_, by rw [← skR_nil]; exact HR.out, cnt_nil _⟩, ⟨fun b o e => (by cases e), fun b o e => ?_, ?_, fun b o e => ?_, fun b o e => (by cases e)⟩⟩
    · exact HT5.out
    · have := OF.out b o e; simp at this; omega
    · intro b o e
      simp only [Option.some.injEq, Addr.mk.injEq] at e
      obtain ⟨rfl, rfl, _⟩ := e
      refine ⟨by omega, fun i hi bi oi ni ci hc => ?_⟩
      rcases (by omega : i = 0 ∨ i = 1) with rfl | rfl
      · rw [Nat.zero_add, k6] at hc
        simp only [Option.some.injEq, Value.slice.injEq] at hc
        have := O6.out bi oi hc.1; simp at this; omega
      · rw [Nat.zero_add, k8] at hc
        simp only [Option.some.injEq, Value.slice.injEq] at hc
        have := O8.out bi oi hc.1; simp at this; omega
    · have := OR.out b o e; simp at this; omega
  have hN : ¬ (w.heap.size < w.heap.size ∧ w.heap.size < v5.heap.size) := by omega
  have KF := hidp (((((((((((K5.set hN 0 (.int .i64 5)).set hN 1 (.slice none 0 0)).set hN 2 (.int .i64 100)).set hN 3 (.int .i64 3)).set hN 4 (.slice af 100 cf)).set hN 5 (.int .i64 7)).set hN 6 (.slice (some ⟨v3.heap.size, 0, none⟩) 2 2)).set hN 7 (.slice ar 4 cr)).set hN 8 (.int .i64 4)).set hN 9 (.int .i64 0)).set hN 10 (.slice none 0 0))
  have BF := hidp (((((((((((BW.setCell (p := ⟨w.heap.size, 0, none⟩) (Nat.le_refl _) (.int .i64 5)).setCell (p := ⟨w.heap.size, 1, none⟩) (Nat.le_refl _) (.slice none 0 0)).setCell (p := ⟨w.heap.size, 2, none⟩) (Nat.le_refl _) (.int .i64 100)).setCell (p := ⟨w.heap.size, 3, none⟩) (Nat.le_refl _) (.int .i64 3)).setCell (p := ⟨w.heap.size, 4, none⟩) (Nat.le_refl _) (.slice af 100 cf)).setCell (p := ⟨w.heap.size, 5, none⟩) (Nat.le_refl _) (.int .i64 7)).setCell (p := ⟨w.heap.size, 6, none⟩) (Nat.le_refl _) (.slice (some ⟨v3.heap.size, 0, none⟩) 2 2)).setCell (p := ⟨w.heap.size, 7, none⟩) (Nat.le_refl _) (.slice ar 4 cr)).setCell (p := ⟨w.heap.size, 8, none⟩) (Nat.le_refl _) (.int .i64 4)).setCell (p := ⟨w.heap.size, 9, none⟩) (Nat.le_refl _) (.int .i64 0)).setCell (p := ⟨w.heap.size, 10, none⟩) (Nat.le_refl _) (.slice none 0 0))
  have ZF : ((((((((((((v5.setCell ⟨w.heap.size, 0, none⟩ (.int .i64 5)).setCell ⟨w.heap.size, 1, none⟩ (.slice none 0 0)).setCell ⟨w.heap.size, 2, none⟩ (.int .i64 100)).setCell ⟨w.heap.size, 3, none⟩ (.int .i64 3)).setCell ⟨w.heap.size, 4, none⟩ (.slice af 100 cf)).setCell ⟨w.heap.size, 5, none⟩ (.int .i64 7)).setCell ⟨w.heap.size, 6, none⟩ (.slice (some ⟨v3.heap.size, 0, none⟩) 2 2)).setCell ⟨w.heap.size, 7, none⟩ (.slice ar 4 cr)).setCell ⟨w.heap.size, 8, none⟩ (.int .i64 4)).setCell ⟨w.heap.size, 9, none⟩ (.int .i64 0)).setCell ⟨w.heap.size, 10, none⟩ (.slice none 0 0))).heap.size = v5.heap.size := by simp
  have t0 : ((((((((((((v5.setCell ⟨w.heap.size, 0, none⟩ (.int .i64 5)).setCell ⟨w.heap.size, 1, none⟩ (.slice none 0 0)).setCell ⟨w.heap.size, 2, none⟩ (.int .i64 100)).setCell ⟨w.heap.size, 3, none⟩ (.int .i64 3)).setCell ⟨w.heap.size, 4, none⟩ (.slice af 100 cf)).setCell ⟨w.heap.size, 5, none⟩ (.int .i64 7)).setCell ⟨w.heap.size, 6, none⟩ (.slice (some ⟨v3.heap.size, 0, none⟩) 2 2)).setCell ⟨w.heap.size, 7, none⟩ (.slice ar 4 cr)).setCell ⟨w.heap.size, 8, none⟩ (.int .i64 4)).setCell ⟨w.heap.size, 9, none⟩ (.int .i64 0)).setCell ⟨w.heap.size, 10, none⟩ (.slice none 0 0))).cell? ⟨w.heap.size, 0, none⟩ = some (.int .i64 5) := by go_simp
  have t1 : ((((((((((((v5.setCell ⟨w.heap.size, 0, none⟩ (.int .i64 5)).setCell ⟨w.heap.size, 1, none⟩ (.slice none 0 0)).setCell ⟨w.heap.size, 2, none⟩ (.int .i64 100)).setCell ⟨w.heap.size, 3, none⟩ (.int .i64 3)).setCell ⟨w.heap.size, 4, none⟩ (.slice af 100 cf)).setCell ⟨w.heap.size, 5, none⟩ (.int .i64 7)).setCell ⟨w.heap.size, 6, none⟩ (.slice (some ⟨v3.heap.size, 0, none⟩) 2 2)).setCell ⟨w.heap.size, 7, none⟩ (.slice ar 4 cr)).setCell ⟨w.heap.size, 8, none⟩ (.int .i64 4)).setCell ⟨w.heap.size, 9, none⟩ (.int .i64 0)).setCell ⟨w.heap.size, 10, none⟩ (.slice none 0 0))).cell? ⟨w.heap.size, 1, none⟩ = some (.slice none 0 0) := by go_simp
  have t2 : ((((((((((((v5.setCell ⟨w.heap.size, 0, none⟩ (.int .i64 5)).setCell ⟨w.heap.size, 1, none⟩ (.slice none 0 0)).setCell ⟨w.heap.size, 2, none⟩ (.int .i64 100)).setCell ⟨w.heap.size, 3, none⟩ (.int .i64 3)).setCell ⟨w.heap.size, 4, none⟩ (.slice af 100 cf)).setCell ⟨w.heap.size, 5, none⟩ (.int .i64 7)).setCell ⟨w.heap.size, 6, none⟩ (.slice (some ⟨v3.heap.size, 0, none⟩) 2 2)).setCell ⟨w.heap.size, 7, none⟩ (.slice ar 4 cr)).setCell ⟨w.heap.size, 8, none⟩ (.int .i64 4)).setCell ⟨w.heap.size, 9, none⟩ (.int .i64 0)).setCell ⟨w.heap.size, 10, none⟩ (.slice none 0 0))).cell? ⟨w.heap.size, 2, none⟩ = some (.int .i64 100) := by go_simp
  have t3 : ((((((((((((v5.setCell ⟨w.heap.size, 0, none⟩ (.int .i64 5)).setCell ⟨w.heap.size, 1, none⟩ (.slice none 0 0)).setCell ⟨w.heap.size, 2, none⟩ (.int .i64 100)).setCell ⟨w.heap.size, 3, none⟩ (.int .i64 3)).setCell ⟨w.heap.size, 4, none⟩ (.slice af 100 cf)).setCell ⟨w.heap.size, 5, none⟩ (.int .i64 7)).setCell ⟨w.heap.size, 6, none⟩ (.slice (some ⟨v3.heap.size, 0, none⟩) 2 2)).setCell ⟨w.heap.size, 7, none⟩ (.slice ar 4 cr)).setCell ⟨w.heap.size, 8, none⟩ (.int .i64 4)).setCell ⟨w.heap.size, 9, none⟩ (.int .i64 0)).setCell ⟨w.heap.size, 10, none⟩ (.slice none 0 0))).cell? ⟨w.heap.size, 3, none⟩ = some (.int .i64 3) := by go_simp
  have t4 : ((((((((((((v5.setCell ⟨w.heap.size, 0, none⟩ (.int .i64 5)).setCell ⟨w.heap.size, 1, none⟩ (.slice none 0 0)).setCell ⟨w.heap.size, 2, none⟩ (.int .i64 100)).setCell ⟨w.heap.size, 3, none⟩ (.int .i64 3)).setCell ⟨w.heap.size, 4, none⟩ (.slice af 100 cf)).setCell ⟨w.heap.size, 5, none⟩ (.int .i64 7)).setCell ⟨w.heap.size, 6, none⟩ (.slice (some ⟨v3.heap.size, 0, none⟩) 2 2)).setCell ⟨w.heap.size, 7, none⟩ (.slice ar 4 cr)).setCell ⟨w.heap.size, 8, none⟩ (.int .i64 4)).setCell ⟨w.heap.size, 9, none⟩ (.int .i64 0)).setCell ⟨w.heap.size, 10, none⟩ (.slice none 0 0))).cell? ⟨w.heap.size, 4, none⟩ = some (.slice af 100 cf) := by go_simp
  have t5 : ((((((((((((v5.setCell ⟨w.heap.size, 0, none⟩ (.int .i64 5)).setCell ⟨w.heap.size, 1, none⟩ (.slice none 0 0)).setCell ⟨w.heap.size, 2, none⟩ (.int .i64 100)).setCell ⟨w.heap.size, 3, none⟩ (.int .i64 3)).setCell ⟨w.heap.size, 4, none⟩ (.slice af 100 cf)).setCell ⟨w.heap.size, 5, none⟩ (.int .i64 7)).setCell ⟨w.heap.size, 6, none⟩ (.slice (some ⟨v3.heap.size, 0, none⟩) 2 2)).setCell ⟨w.heap.size, 7, none⟩ (.slice ar 4 cr)).setCell ⟨w.heap.size, 8, none⟩ (.int .i64 4)).setCell ⟨w.heap.size, 9, none⟩ (.int .i64 0)).setCell ⟨w.heap.size, 10, none⟩ (.slice none 0 0))).cell? ⟨w.heap.size, 5, none⟩ = some (.int .i64 7) := by go_simp
  have t6 : ((((((((((((v5.setCell ⟨w.heap.size, 0, none⟩ (.int .i64 5)).setCell ⟨w.heap.size, 1, none⟩ (.slice none 0 0)).setCell ⟨w.heap.size, 2, none⟩ (.int .i64 100)).setCell ⟨w.heap.size, 3, none⟩ (.int .i64 3)).setCell ⟨w.heap.size, 4, none⟩ (.slice af 100 cf)).setCell ⟨w.heap.size, 5, none⟩ (.int .i64 7)).setCell ⟨w.heap.size, 6, none⟩ (.slice (some ⟨v3.heap.size, 0, none⟩) 2 2)).setCell ⟨w.heap.size, 7, none⟩ (.slice ar 4 cr)).setCell ⟨w.heap.size, 8, none⟩ (.int .i64 4)).setCell ⟨w.heap.size, 9, none⟩ (.int .i64 0)).setCell ⟨w.heap.size, 10, none⟩ (.slice none 0 0))).cell? ⟨w.heap.size, 6, none⟩ = some (.slice (some ⟨v3.heap.size, 0, none⟩) 2 2) := by go_simp
  have t7 : ((((((((((((v5.setCell ⟨w.heap.size, 0, none⟩ (.int .i64 5)).setCell ⟨w.heap.size, 1, none⟩ (.slice none 0 0)).setCell ⟨w.heap.size, 2, none⟩ (.int .i64 100)).setCell ⟨w.heap.size, 3, none⟩ (.int .i64 3)).setCell ⟨w.heap.size, 4, none⟩ (.slice af 100 cf)).setCell ⟨w.heap.size, 5, none⟩ (.int .i64 7)).setCell ⟨w.heap.size, 6, none⟩ (.slice (some ⟨v3.heap.size, 0, none⟩) 2 2)).setCell ⟨w.heap.size, 7, none⟩ (.slice ar 4 cr)).setCell ⟨w.heap.size, 8, none⟩ (.int .i64 4)).setCell ⟨w.heap.size, 9, none⟩ (.int .i64 0)).setCell ⟨w.heap.size, 10, none⟩ (.slice none 0 0))).cell? ⟨w.heap.size, 7, none⟩ = some (.slice ar 4 cr) := by go_simp
  have t8 : ((((((((((((v5.setCell ⟨w.heap.size, 0, none⟩ (.int .i64 5)).setCell ⟨w.heap.size, 1, none⟩ (.slice none 0 0)).setCell ⟨w.heap.size, 2, none⟩ (.int .i64 100)).setCell ⟨w.heap.size, 3, none⟩ (.int .i64 3)).setCell ⟨w.heap.size, 4, none⟩ (.slice af 100 cf)).setCell ⟨w.heap.size, 5, none⟩ (.int .i64 7)).setCell ⟨w.heap.size, 6, none⟩ (.slice (some ⟨v3.heap.size, 0, none⟩) 2 2)).setCell ⟨w.heap.size, 7, none⟩ (.slice ar 4 cr)).setCell ⟨w.heap.size, 8, none⟩ (.int .i64 4)).setCell ⟨w.heap.size, 9, none⟩ (.int .i64 0)).setCell ⟨w.heap.size, 10, none⟩ (.slice none 0 0))).cell? ⟨w.heap.size, 8, none⟩ = some (.int .i64 4) := by go_simp
  have t9 : ((((((((((((v5.setCell ⟨w.heap.size, 0, none⟩ (.int .i64 5)).setCell ⟨w.heap.size, 1, none⟩ (.slice none 0 0)).setCell ⟨w.heap.size, 2, none⟩ (.int .i64 100)).setCell ⟨w.heap.size, 3, none⟩ (.int .i64 3)).setCell ⟨w.heap.size, 4, none⟩ (.slice af 100 cf)).setCell ⟨w.heap.size, 5, none⟩ (.int .i64 7)).setCell ⟨w.heap.size, 6, none⟩ (.slice (some ⟨v3.heap.size, 0, none⟩) 2 2)).setCell ⟨w.heap.size, 7, none⟩ (.slice ar 4 cr)).setCell ⟨w.heap.size, 8, none⟩ (.int .i64 4)).setCell ⟨w.heap.size, 9, none⟩ (.int .i64 0)).setCell ⟨w.heap.size, 10, none⟩ (.slice none 0 0))).cell? ⟨w.heap.size, 9, none⟩ = some (.int .i64 0) := by go_simp
  have t10 : ((((((((((((v5.setCell ⟨w.heap.size, 0, none⟩ (.int .i64 5)).setCell ⟨w.heap.size, 1, none⟩ (.slice none 0 0)).setCell ⟨w.heap.size, 2, none⟩ (.int .i64 100)).setCell ⟨w.heap.size, 3, none⟩ (.int .i64 3)).setCell ⟨w.heap.size, 4, none⟩ (.slice af 100 cf)).setCell ⟨w.heap.size, 5, none⟩ (.int .i64 7)).setCell ⟨w.heap.size, 6, none⟩ (.slice (some ⟨v3.heap.size, 0, none⟩) 2 2)).setCell ⟨w.heap.size, 7, none⟩ (.slice ar 4 cr)).setCell ⟨w.heap.size, 8, none⟩ (.int .i64 4)).setCell ⟨w.heap.size, 9, none⟩ (.int .i64 0)).setCell ⟨w.heap.size, 10, none⟩ (.slice none 0 0))).cell? ⟨w.heap.size, 10, none⟩ = some (.slice none 0 0) := by go_simp
  clear hv4 K5 HF5 HT5 HR OF O6 O8 OR k6 k8 hN
  go_wp2_with fail
  clear q0 q1 q2 q3 q4 q5 q6 q7 q8 q9 q10
  clear f0 f1 f2 f3 f4 f5 f6 f7 f8 f9 f10
  generalize (((((((((((v5.setCell ⟨w.heap.size, 0, none⟩ (.int .i64 5)).setCell ⟨w.heap.size, 1, none⟩ (.slice none 0 0)).setCell ⟨w.heap.size, 2, none⟩ (.int .i64 100)).setCell ⟨w.heap.size, 3, none⟩ (.int .i64 3)).setCell ⟨w.heap.size, 4, none⟩ (.slice af 100 cf)).setCell ⟨w.heap.size, 5, none⟩ (.int .i64 7)).setCell ⟨w.heap.size, 6, none⟩ (.slice (some ⟨v3.heap.size, 0, none⟩) 2 2)).setCell ⟨w.heap.size, 7, none⟩ (.slice ar 4 cr)).setCell ⟨w.heap.size, 8, none⟩ (.int .i64 4)).setCell ⟨w.heap.size, 9, none⟩ (.int .i64 0)).setCell ⟨w.heap.size, 10, none⟩ (.slice none 0 0)) = w7 at *
  refine bodyPost_ret (v := .agg #[.int .i64 5, .slice none 0 0, .int .i64 100, .int .i64 3, .slice af 100 cf, .int .i64 7, .slice (some ⟨v3.heap.size, 0, none⟩) 2 2, .slice ar 4 cr, .int .i64 4, .int .i64 0, .slice none 0 0]) (by simp [results, Try.results7, go_sem, t0, t1, t2, t3, t4, t5, t6, t7, t8, t9, t10]) rfl ⟨af, cf, _, 2, ar, cr, rfl, ?_, BF.out⟩
  rw [ZF]
  exact KF.out
end Go.Proofs.Ytcbklhicellepaa

/- TopSketches: what its closure fill gives, by the contracts of the five Puts (premises). -/
namespace Go.Proofs.Ytcbklhicellepaa
open Go.ChangeShapes Go.WideShapes Go.ChangeAt Go.RowKit
set_option maxRecDepth 20000
/-- The variable that is filled. -/
structure SkX (W : World) (P : Nat) (ab : Option Addr) (nb cb : Nat) (af : Option Addr) (cf : Nat) (at' : Option Addr) (ct : Nat) (ar : Option Addr) (cr : Nat) (lo : Int) (ac : Option Addr) (nc cc : Nat) : Prop where
  c0 : W.cell? ⟨P, 0, none⟩ = some (.int .i64 5)
  c1 : W.cell? ⟨P, 1, none⟩ = some (.slice ab nb cb)
  c2 : W.cell? ⟨P, 2, none⟩ = some (.int .i64 100)
  c3 : W.cell? ⟨P, 3, none⟩ = some (.int .i64 3)
  c4 : W.cell? ⟨P, 4, none⟩ = some (.slice af 100 cf)
  c5 : W.cell? ⟨P, 5, none⟩ = some (.int .i64 7)
  c6 : W.cell? ⟨P, 6, none⟩ = some (.slice at' 2 ct)
  c7 : W.cell? ⟨P, 7, none⟩ = some (.slice ar 4 cr)
  c8 : W.cell? ⟨P, 8, none⟩ = some (.int .i64 4)
  c9 : W.cell? ⟨P, 9, none⟩ = some (.int .i64 lo)
  c10 : W.cell? ⟨P, 10, none⟩ = some (.slice ac nc cc)
  fr : ∀ o, W.frozen? ⟨P, o, none⟩ = false
section
variable {W W' : World} {P : Nat} {ab : Option Addr} {nb cb : Nat} {af : Option Addr} {cf : Nat} {at' : Option Addr} {ct : Nat} {ar : Option Addr} {cr : Nat} {lo : Int} {ac : Option Addr} {nc cc : Nat}
theorem SkX.below (h : SkX W P ab nb cb af cf at' ct ar cr lo ac nc cc) (hb : Below W.heap.size W W') : SkX W' P ab nb cb af cf at' ct ar cr lo ac nc cc :=
  ⟨ck hb h.c0, ck hb h.c1, ck hb h.c2, ck hb h.c3, ck hb h.c4, ck hb h.c5, ck hb h.c6, ck hb h.c7, ck hb h.c8, ck hb h.c9, ck hb h.c10, fun o => (hb.frozen (p := ⟨P, o, none⟩) (by have := lt_of_cell h.c0; exact this)).trans (h.fr o)⟩
theorem SkX.setB (h : SkX W P ab nb cb af cf at' ct ar cr lo ac nc cc) (g : Option Addr) (n' c' : Nat) : SkX ((W.setCell ⟨P, 0, none⟩ (.int .i64 5)).setCell ⟨P, 1, none⟩ (.slice g n' c')) P g n' c' af cf at' ct ar cr lo ac nc cc := by
  obtain ⟨c0, c1, c2, c3, c4, c5, c6, c7, c8, c9, c10, fr⟩ := h
  exact ⟨by go_simp, by go_simp, by go_simp, by go_simp, by go_simp, by go_simp, by go_simp, by go_simp, by go_simp, by go_simp, by go_simp, fun o => by rw [← fr o]; simp⟩
theorem SkX.setF (h : SkX W P ab nb cb af cf at' ct ar cr lo ac nc cc) (g : Option Addr) (c' : Nat) : SkX (((W.setCell ⟨P, 2, none⟩ (.int .i64 100)).setCell ⟨P, 3, none⟩ (.int .i64 3)).setCell ⟨P, 4, none⟩ (.slice g 100 c')) P ab nb cb g c' at' ct ar cr lo ac nc cc := by
  obtain ⟨c0, c1, c2, c3, c4, c5, c6, c7, c8, c9, c10, fr⟩ := h
  exact ⟨by go_simp, by go_simp, by go_simp, by go_simp, by go_simp, by go_simp, by go_simp, by go_simp, by go_simp, by go_simp, by go_simp, fun o => by rw [← fr o]; simp⟩
theorem SkX.setT (h : SkX W P ab nb cb af cf at' ct ar cr lo ac nc cc) (g : Option Addr) (c' : Nat) : SkX ((W.setCell ⟨P, 5, none⟩ (.int .i64 7)).setCell ⟨P, 6, none⟩ (.slice g 2 c')) P ab nb cb af cf g c' ar cr lo ac nc cc := by
  obtain ⟨c0, c1, c2, c3, c4, c5, c6, c7, c8, c9, c10, fr⟩ := h
  exact ⟨by go_simp, by go_simp, by go_simp, by go_simp, by go_simp, by go_simp, by go_simp, by go_simp, by go_simp, by go_simp, by go_simp, fun o => by rw [← fr o]; simp⟩
theorem SkX.setR (h : SkX W P ab nb cb af cf at' ct ar cr lo ac nc cc) (g : Option Addr) (c' : Nat) : SkX (W.setCell ⟨P, 7, none⟩ (.slice g 4 c')) P ab nb cb af cf at' ct g c' lo ac nc cc := by
  obtain ⟨c0, c1, c2, c3, c4, c5, c6, c7, c8, c9, c10, fr⟩ := h
  exact ⟨by go_simp, by go_simp, by go_simp, by go_simp, by go_simp, by go_simp, by go_simp, by go_simp, by go_simp, by go_simp, by go_simp, fun o => by rw [← fr o]; simp⟩
theorem SkX.setC (h : SkX W P ab nb cb af cf at' ct ar cr lo ac nc cc) (l' : Int) (g : Option Addr) (n' c' : Nat) : SkX (((W.setCell ⟨P, 8, none⟩ (.int .i64 4)).setCell ⟨P, 9, none⟩ (.int .i64 l')).setCell ⟨P, 10, none⟩ (.slice g n' c')) P ab nb cb af cf at' ct ar cr l' g n' c' := by
  obtain ⟨c0, c1, c2, c3, c4, c5, c6, c7, c8, c9, c10, fr⟩ := h
  exact ⟨by go_simp, by go_simp, by go_simp, by go_simp, by go_simp, by go_simp, by go_simp, by go_simp, by go_simp, by go_simp, by go_simp, fun o => by rw [← fr o]; simp⟩
end
theorem carry0 {w v : World} {b i : Nat} {u : Value} (h : b < w.heap.size ∧ w.cell? ⟨b, i, none⟩ = some u) (hb : Below w.heap.size w v) : b < v.heap.size ∧ v.cell? ⟨b, i, none⟩ = some u := ⟨Nat.lt_of_lt_of_le h.1 hb.size, ck hb h.2⟩
set_option maxHeartbeats 16000000 in
theorem fill_core (n : Nat) (hn : n ≤ 1000) (xs : List Int) (B : Nat → List Int) (F : Nat → List Bool) (T : Nat → Nat → Nat → Int) (G : Nat → List Int) (C : Nat → Int × List (Int × Int))
    (hfresh : ∀ W, Calls Try.prog 7 #[] W fun e w' => ∃ af cf at' ct ar cr, e = .returned (allV none 0 0 af cf at' ct ar cr (C 0).1 none 0 0) ∧ SkIn w' (fun b => W.heap.size < b ∧ b < w'.heap.size) none 0 0 af cf at' ct ar cr none 0 0 (B 0) (F 0) (T 0) (G 0) (C 0).2 ∧ Below W.heap.size W w')
    (hB : ∀ k W a m c, k < n → IntsAt W a m c (B k) → Calls Try.prog 11 #[.agg #[.int .i64 5, .slice a m c], .int .i64 (gi xs k)] W fun e w' => ∃ g n' c', e = .returned (.tuple #[.agg #[.int .i64 5, .slice g n' c'], .int .i64 0]) ∧ IntsAt w' g n' c' (B (k + 1)) ∧ OnB g (fun b => W.heap.size ≤ b) ∧ Below W.heap.size W w')
    (hF : ∀ k W a c, k < n → BoolsAt W a 100 c (F k) → Calls Try.prog 12 #[.agg #[.int .i64 100, .int .i64 3, .slice a 100 c], .int .i64 (gi xs k)] W fun e w' => ∃ g c', e = .returned (.tuple #[.agg #[.int .i64 100, .int .i64 3, .slice g 100 c'], .int .i64 0]) ∧ BoolsAt w' g 100 c' (F (k + 1)) ∧ OnB g (fun b => W.heap.size ≤ b) ∧ Below W.heap.size W w')
    (hT : ∀ k W a c, k < n → RowsAt W a 2 c (tabL (T k) 7 2) → Calls Try.prog 13 #[.agg #[.int .i64 7, .slice a 2 c], .int .i64 (gi xs k), .int .i64 1] W fun e w' => ∃ g c', e = .returned (.tuple #[.agg #[.int .i64 7, .slice g 2 c'], .int .i64 0]) ∧ RowsAt w' g 2 c' (tabL (T (k + 1)) 7 2) ∧ RowsOn w' g 2 (fun b => W.heap.size ≤ b) ∧ Below W.heap.size W w')
    (hR : ∀ k W a c, k < n → IntsAt W a 4 c (G k) → Calls Try.prog 14 #[.slice a 4 c, .int .i64 (gi xs k)] W fun e w' => ∃ g c', e = .returned (.tuple #[.slice g 4 c', .int .i64 0]) ∧ IntsAt w' g 4 c' (G (k + 1)) ∧ OnB g (fun b => W.heap.size ≤ b) ∧ Below W.heap.size W w')
    (hC : ∀ k W a m c, k < n → CntAt W a m c (C k).2 → Calls Try.prog 15 #[.agg #[.int .i64 4, .int .i64 (C k).1, .slice a m c], .int .i64 (gi xs k), .int .i64 1] W fun e w' => ∃ g n' c', e = .returned (.tuple #[.agg #[.int .i64 4, .int .i64 (C (k + 1)).1, .slice g n' c'], .int .i64 0]) ∧ CntAt w' g n' c' (C (k + 1)).2 ∧ OnB g (fun b => W.heap.size ≤ b) ∧ Below W.heap.size W w')
    (al : Option Addr) (cl PB : Nat) (w : World) (hx : IntsAt w al n cl xs) (hPB : w.cell? ⟨PB, 0, none⟩ = some (.func (.func 7) #[] #[])) :
    Calls Try.prog 10 #[.slice al n cl, .pointer (some ⟨PB, 0, none⟩)] w fun e w' => ∃ ab nb cb af cf at' ct ar cr ac nc cc, e = .returned (.tuple #[allV ab nb cb af cf at' ct ar cr (C n).1 ac nc cc, .bool true]) ∧ SkAt w' ab nb cb af cf at' ct ar cr ac nc cc (B n) (F n) (T n) (G n) (C n).2 ∧ Below w.heap.size w w' := by
  have FR := hidp hfresh
  have PutB := hidp hB
  have PutF := hidp hF
  have PutT := hidp hT
  have PutR := hidp hR
  have PutC := hidp hC
  have H := hidp hx
  have mm := hx.max
  have ee := hx.le
  obtain ⟨b, o, hz, hcx⟩ := hx.split
  have hz' : Hid (n = 0) ∨ al = some ⟨b, o, none⟩ := hz.imp_left hidp
  have HX := hidp hcx
  have O0 : Hid (Own11 (w.alloc (.cells #[.int .i64 0, .slice none 0 0, .int .i64 0, .int .i64 0, .slice none 0 0, .int .i64 0, .slice none 0 0, .slice none 0 0, .int .i64 0, .int .i64 0, .slice none 0 0] 41)) w.heap.size) := hidp ⟨⟨.int .i64 0, by go_simp⟩, ⟨.slice none 0 0, by go_simp⟩, ⟨.int .i64 0, by go_simp⟩, ⟨.int .i64 0, by go_simp⟩, ⟨.slice none 0 0, by go_simp⟩, ⟨.int .i64 0, by go_simp⟩, ⟨.slice none 0 0, by go_simp⟩, ⟨.slice none 0 0, by go_simp⟩, ⟨.int .i64 0, by go_simp⟩, ⟨.int .i64 0, by go_simp⟩, ⟨.slice none 0 0, by go_simp⟩, fun o => by simp⟩
  have b0 := bal (Below.refl w.heap.size w) (.cells #[.int .i64 0, .slice none 0 0, .int .i64 0, .int .i64 0, .slice none 0 0, .int .i64 0, .slice none 0 0, .slice none 0 0, .int .i64 0, .int .i64 0, .slice none 0 0] 41)
  have hPB0 := ck (bal (Below.refl w.heap.size w) (.cells #[.int .i64 0, .slice none 0 0, .int .i64 0, .int .i64 0, .slice none 0 0, .int .i64 0, .slice none 0 0, .slice none 0 0, .int .i64 0, .int .i64 0, .slice none 0 0] 41)) hPB
  clear hfresh hB hF hT hR hC hx hz hcx hPB
  go_enter Try.func10, Try.ntmps10
  go_upto_region 1 with fail
  generalize w.alloc (.cells #[.int .i64 0, .slice none 0 0, .int .i64 0, .int .i64 0, .slice none 0 0, .int .i64 0, .slice none 0 0, .slice none 0 0, .int .i64 0, .int .i64 0, .slice none 0 0] 41) = v0 at *
  go_wp2_with fail
  refine (FR.out _).mono ?_
  rintro e v1 ⟨af, cf, at', ct, ar, cr, rfl, hK, hb1⟩
  have S0 : w.heap.size < v0.heap.size := by obtain ⟨_, e⟩ := O0.out.c0; exact lt_of_cell (p := ⟨w.heap.size, 0, none⟩) e
  have S1 := hb1.size
  unfold allV
  go_upto_region 2 with fail
  obtain ⟨P, hP⟩ : ∃ P, P = v1.heap.size := ⟨_, rfl⟩
  obtain ⟨N, hNd⟩ : ∃ N : Nat → Prop, N = fun b => b ≠ P ∧ b ≠ w.heap.size := ⟨_, rfl⟩
  have X0 := hidp (show SkX (v1.alloc (.cells #[.int .i64 5, .slice none 0 0, .int .i64 100, .int .i64 3, .slice af 100 cf, .int .i64 7, .slice at' 2 ct, .slice ar 4 cr, .int .i64 4, .int .i64 (C 0).1, .slice none 0 0] 41)) v1.heap.size none 0 0 af cf at' ct ar cr (C 0).1 none 0 0 from ⟨by go_simp, by go_simp, by go_simp, by go_simp, by go_simp, by go_simp, by go_simp, by go_simp, by go_simp, by go_simp, by go_simp, fun o => by simp⟩)
  have K0 := hidp ((hK.imp (M := N) (fun b hb => by rw [hNd]; exact ⟨by omega, by omega⟩)).below (bal (Below.refl v1.heap.size v1) (.cells #[.int .i64 5, .slice none 0 0, .int .i64 100, .int .i64 3, .slice af 100 cf, .int .i64 7, .slice at' 2 ct, .slice ar 4 cr, .int .i64 4, .int .i64 (C 0).1, .slice none 0 0] 41)))
  have B0 := bal hb1 (.cells #[.int .i64 5, .slice none 0 0, .int .i64 100, .int .i64 3, .slice af 100 cf, .int .i64 7, .slice at' 2 ct, .slice ar 4 cr, .int .i64 4, .int .i64 (C 0).1, .slice none 0 0] 41)
  have z2 : (v1.alloc (.cells #[.int .i64 5, .slice none 0 0, .int .i64 100, .int .i64 3, .slice af 100 cf, .int .i64 7, .slice at' 2 ct, .slice ar 4 cr, .int .i64 4, .int .i64 (C 0).1, .slice none 0 0] 41)).heap.size = P + 1 := by rw [hP]; simp
  have hN : ¬ N P := by rw [hNd]; exact fun h => h.1 rfl
  have hNR : ¬ N w.heap.size := by rw [hNd]; exact fun h => h.2 rfl
  have NGE := hidp (fun (W : World) (hW : P + 1 ≤ W.heap.size) b (hb : W.heap.size ≤ b) => show N b by rw [hNd]; exact ⟨by omega, by omega⟩)
  generalize v1.alloc (.cells #[.int .i64 5, .slice none 0 0, .int .i64 100, .int .i64 3, .slice af 100 cf, .int .i64 7, .slice at' 2 ct, .slice ar 4 cr, .int .i64 4, .int .i64 (C 0).1, .slice none 0 0] 41) = v2 at *
  rw [← hP] at X0 ⊢
  have hPv : v0.heap.size ≤ P := by omega
  clear hK hb1 hNd hP
  go_wp2_with fail
  go_loopg [17] n (fun gg i wr => ∃ (k : Nat) (ab : Option Addr) (nb cb : Nat) (af : Option Addr) (cf : Nat) (at' : Option Addr) (ct : Nat) (ar : Option Addr) (cr : Nat) (ac : Option Addr) (nc cc : Nat), k ≤ n ∧ n - k ≤ gg ∧ i = .int .i64 k ∧ Hid (SkX wr P ab nb cb af cf at' ct ar cr (C k).1 ac nc cc) ∧ Hid (SkIn wr N ab nb cb af cf at' ct ar cr ac nc cc (B k) (F k) (T k) (G k) (C k).2) ∧ Below v0.heap.size v0 wr ∧ P + 1 ≤ wr.heap.size)
  case atStart => exact ⟨0, none, 0, 0, af, cf, at', ct, ar, cr, none, 0, 0, by omega, by omega, rfl, X0, K0, B0, by omega⟩
  case round =>
    clear X0 K0 B0 z2
    obtain ⟨k, ab, nb, cb, af, cf, at', ct, ar, cr, ac, nc, cc, hk, hgg, rfl, X, K, hbl, hsz⟩ := hrel
    by_cases hlt : k < n
    · obtain rfl : al = some ⟨b, o, none⟩ := hz'.resolve_left (fun e => by have := e.out; omega)
      have q := carry_cell (carry0 (HX.out k hlt) b0) hbl
      have PB1 := hidp (fun W a m c h => PutB.out k W a m c hlt h)
      have PF1 := hidp (fun W a c h => PutF.out k W a c hlt h)
      have PT1 := hidp (fun W a c h => PutT.out k W a c hlt h)
      have PR1 := hidp (fun W a c h => PutR.out k W a c hlt h)
      have PC1 := hidp (fun W a m c h => PutC.out k W a m c hlt h)
      generalize gi xs k = x at *
      generalize hCk : (C k).1 = lo at *
      generalize hCl : (C (k + 1)).1 = lo2 at *
      have HCl := hidp hCl
      have hbP : b ≠ P := by have := (HX.out k hlt).1; omega
      clear hCk hCl
      have q0 := X.out.c0
      have q1 := X.out.c1
      go_wp2_with fail
      refine (PB1.out _ _ _ _ K.out.1.b).mono ?_
      rintro e u1w ⟨g1, m1, d1, rfl, hI, hO, hb⟩
      replace q := ck hb q
      have X1 := hidp (X.out.below hb)
      have K1 := hidp (K.out.below hb)
      have K2 := hidp (show SkIn u1w N g1 m1 d1 af cf at' ct ar cr ac nc cc (B (k + 1)) (F k) (T k) (G k) (C k).2 from ⟨⟨hI, K1.out.1.f, K1.out.1.t, K1.out.1.r, K1.out.1.c⟩, ⟨hO.imp (NGE.out _ hsz), K1.out.2.f, K1.out.2.t, K1.out.2.r, K1.out.2.c⟩⟩)
      have r0 := X1.out.c0
      have r1 := X1.out.c1
      have f0 := X1.out.fr 0
      have f1 := X1.out.fr 1
      have X2 := hidp (X1.out.setB g1 m1 d1)
      have K3 := hidp ((K2.out.set hN 0 (.int .i64 5)).set hN 1 (.slice g1 m1 d1))
      have B3 := (((bstep hbl hb).setCell (p := ⟨P, 0, none⟩) hPv (.int .i64 5)).setCell (p := ⟨P, 1, none⟩) hPv (.slice g1 m1 d1))
      have z3 : P + 1 ≤ ((u1w.setCell ⟨P, 0, none⟩ (.int .i64 5)).setCell ⟨P, 1, none⟩ (.slice g1 m1 d1)).heap.size := by simp; have := hb.size; omega
      have q' := (show (((u1w.setCell ⟨P, 0, none⟩ (.int .i64 5)).setCell ⟨P, 1, none⟩ (.slice g1 m1 d1))).cell? ⟨b, o + k, none⟩ = some (.int .i64 x) from (coff (coff q hbP) hbP))
      clear hI hO q0 q1
      have hbs := hb.size
      clear hb X K X1 K1 K2 hbl PB1 q
      go_upto_region 7 with fail
      generalize ((u1w.setCell ⟨P, 0, none⟩ (.int .i64 5)).setCell ⟨P, 1, none⟩ (.slice g1 m1 d1)) = v3 at *
      clear r0 r1 f0 f1 hbs hsz
      have X := X2
      have K := K3
      have hbl := B3
      have hsz := z3
      have q := q'
      clear X2 K3 B3 z3 q'
      have q2 := X.out.c2
      have q3 := X.out.c3
      have q4 := X.out.c4
      go_wp2_with fail
      refine (PF1.out _ _ _ K.out.1.f).mono ?_
      rintro e u3w ⟨g2, d2, rfl, hI, hO, hb⟩
      replace q := ck hb q
      have X1 := hidp (X.out.below hb)
      have K1 := hidp (K.out.below hb)
      have K2 := hidp (show SkIn u3w N g1 m1 d1 g2 d2 at' ct ar cr ac nc cc (B (k + 1)) (F (k + 1)) (T k) (G k) (C k).2 from ⟨⟨K1.out.1.b, hI, K1.out.1.t, K1.out.1.r, K1.out.1.c⟩, ⟨K1.out.2.b, hO.imp (NGE.out _ hsz), K1.out.2.t, K1.out.2.r, K1.out.2.c⟩⟩)
      have r2 := X1.out.c2
      have r3 := X1.out.c3
      have r4 := X1.out.c4
      have f2 := X1.out.fr 2
      have f3 := X1.out.fr 3
      have f4 := X1.out.fr 4
      have X2 := hidp (X1.out.setF g2 d2)
      have K3 := hidp (((K2.out.set hN 2 (.int .i64 100)).set hN 3 (.int .i64 3)).set hN 4 (.slice g2 100 d2))
      have B3 := ((((bstep hbl hb).setCell (p := ⟨P, 2, none⟩) hPv (.int .i64 100)).setCell (p := ⟨P, 3, none⟩) hPv (.int .i64 3)).setCell (p := ⟨P, 4, none⟩) hPv (.slice g2 100 d2))
      have z3 : P + 1 ≤ (((u3w.setCell ⟨P, 2, none⟩ (.int .i64 100)).setCell ⟨P, 3, none⟩ (.int .i64 3)).setCell ⟨P, 4, none⟩ (.slice g2 100 d2)).heap.size := by simp; have := hb.size; omega
      have q' := (show ((((u3w.setCell ⟨P, 2, none⟩ (.int .i64 100)).setCell ⟨P, 3, none⟩ (.int .i64 3)).setCell ⟨P, 4, none⟩ (.slice g2 100 d2))).cell? ⟨b, o + k, none⟩ = some (.int .i64 x) from (coff (coff (coff q hbP) hbP) (by omega)))
      clear hI hO q2 q3 q4
      have hbs := hb.size
      clear hb X K X1 K1 K2 hbl PF1 q
      go_upto_region 8 with fail
      generalize (((u3w.setCell ⟨P, 2, none⟩ (.int .i64 100)).setCell ⟨P, 3, none⟩ (.int .i64 3)).setCell ⟨P, 4, none⟩ (.slice g2 100 d2)) = v4 at *
      clear r2 r3 r4 f2 f3 f4 hbs hsz
      have X := X2
      have K := K3
      have hbl := B3
      have hsz := z3
      have q := q'
      clear X2 K3 B3 z3 q'
      have q5 := X.out.c5
      have q6 := X.out.c6
      go_wp2_with fail
      refine (PT1.out _ _ _ K.out.1.t).mono ?_
      rintro e u5w ⟨g3, d3, rfl, hI, hO, hb⟩
      replace q := ck hb q
      have X1 := hidp (X.out.below hb)
      have K1 := hidp (K.out.below hb)
      have K2 := hidp (show SkIn u5w N g1 m1 d1 g2 d2 g3 d3 ar cr ac nc cc (B (k + 1)) (F (k + 1)) (T (k + 1)) (G k) (C k).2 from ⟨⟨K1.out.1.b, K1.out.1.f, hI, K1.out.1.r, K1.out.1.c⟩, ⟨K1.out.2.b, K1.out.2.f, hO.imp (NGE.out _ hsz), K1.out.2.r, K1.out.2.c⟩⟩)
      have r5 := X1.out.c5
      have r6 := X1.out.c6
      have f5 := X1.out.fr 5
      have f6 := X1.out.fr 6
      have X2 := hidp (X1.out.setT g3 d3)
      have K3 := hidp ((K2.out.set hN 5 (.int .i64 7)).set hN 6 (.slice g3 2 d3))
      have B3 := (((bstep hbl hb).setCell (p := ⟨P, 5, none⟩) hPv (.int .i64 7)).setCell (p := ⟨P, 6, none⟩) hPv (.slice g3 2 d3))
      have z3 : P + 1 ≤ ((u5w.setCell ⟨P, 5, none⟩ (.int .i64 7)).setCell ⟨P, 6, none⟩ (.slice g3 2 d3)).heap.size := by simp; have := hb.size; omega
      have q' := (show (((u5w.setCell ⟨P, 5, none⟩ (.int .i64 7)).setCell ⟨P, 6, none⟩ (.slice g3 2 d3))).cell? ⟨b, o + k, none⟩ = some (.int .i64 x) from (coff (coff q hbP) hbP))
      clear hI hO q5 q6
      have hbs := hb.size
      clear hb X K X1 K1 K2 hbl PT1 q
      go_upto_region 9 with fail
      generalize ((u5w.setCell ⟨P, 5, none⟩ (.int .i64 7)).setCell ⟨P, 6, none⟩ (.slice g3 2 d3)) = v5 at *
      clear r5 r6 f5 f6 hbs hsz
      have X := X2
      have K := K3
      have hbl := B3
      have hsz := z3
      have q := q'
      clear X2 K3 B3 z3 q'
      have q7 := X.out.c7
      go_wp2_with fail
      refine (PR1.out _ _ _ K.out.1.r).mono ?_
      rintro e u7w ⟨g4, d4, rfl, hI, hO, hb⟩
      replace q := ck hb q
      have X1 := hidp (X.out.below hb)
      have K1 := hidp (K.out.below hb)
      have K2 := hidp (show SkIn u7w N g1 m1 d1 g2 d2 g3 d3 g4 d4 ac nc cc (B (k + 1)) (F (k + 1)) (T (k + 1)) (G (k + 1)) (C k).2 from ⟨⟨K1.out.1.b, K1.out.1.f, K1.out.1.t, hI, K1.out.1.c⟩, ⟨K1.out.2.b, K1.out.2.f, K1.out.2.t, hO.imp (NGE.out _ hsz), K1.out.2.c⟩⟩)
      have r7 := X1.out.c7
      have f7 := X1.out.fr 7
      have X2 := hidp (X1.out.setR g4 d4)
      have K3 := hidp (K2.out.set hN 7 (.slice g4 4 d4))
      have B3 := ((bstep hbl hb).setCell (p := ⟨P, 7, none⟩) hPv (.slice g4 4 d4))
      have z3 : P + 1 ≤ (u7w.setCell ⟨P, 7, none⟩ (.slice g4 4 d4)).heap.size := by simp; have := hb.size; omega
      have q' := (show ((u7w.setCell ⟨P, 7, none⟩ (.slice g4 4 d4))).cell? ⟨b, o + k, none⟩ = some (.int .i64 x) from (coff q hbP))
      clear hI hO q7
      have hbs := hb.size
      clear hb X K X1 K1 K2 hbl PR1 q
      go_upto_region 10 with fail
      generalize (u7w.setCell ⟨P, 7, none⟩ (.slice g4 4 d4)) = v6 at *
      clear r7 f7 hbs hsz
      have X := X2
      have K := K3
      have hbl := B3
      have hsz := z3
      have q := q'
      clear X2 K3 B3 z3 q'
      have q8 := X.out.c8
      have q9 := X.out.c9
      have q10 := X.out.c10
      go_wp2_with fail
      refine (PC1.out _ _ _ _ K.out.1.c).mono ?_
      rintro e u9w ⟨g5, m5, d5, rfl, hI, hO, hb⟩
      replace q := ck hb q
      have X1 := hidp (X.out.below hb)
      have K1 := hidp (K.out.below hb)
      have K2 := hidp (show SkIn u9w N g1 m1 d1 g2 d2 g3 d3 g4 d4 g5 m5 d5 (B (k + 1)) (F (k + 1)) (T (k + 1)) (G (k + 1)) (C (k + 1)).2 from ⟨⟨K1.out.1.b, K1.out.1.f, K1.out.1.t, K1.out.1.r, hI⟩, ⟨K1.out.2.b, K1.out.2.f, K1.out.2.t, K1.out.2.r, hO.imp (NGE.out _ hsz)⟩⟩)
      have r8 := X1.out.c8
      have r9 := X1.out.c9
      have r10 := X1.out.c10
      have f8 := X1.out.fr 8
      have f9 := X1.out.fr 9
      have f10 := X1.out.fr 10
      have X2 := hidp (X1.out.setC lo2 g5 m5 d5)
      have K3 := hidp (((K2.out.set hN 8 (.int .i64 4)).set hN 9 (.int .i64 lo2)).set hN 10 (.slice g5 m5 d5))
      have B3 := ((((bstep hbl hb).setCell (p := ⟨P, 8, none⟩) hPv (.int .i64 4)).setCell (p := ⟨P, 9, none⟩) hPv (.int .i64 lo2)).setCell (p := ⟨P, 10, none⟩) hPv (.slice g5 m5 d5))
      have z3 : P + 1 ≤ (((u9w.setCell ⟨P, 8, none⟩ (.int .i64 4)).setCell ⟨P, 9, none⟩ (.int .i64 lo2)).setCell ⟨P, 10, none⟩ (.slice g5 m5 d5)).heap.size := by simp; have := hb.size; omega
      have q' := (show ((((u9w.setCell ⟨P, 8, none⟩ (.int .i64 4)).setCell ⟨P, 9, none⟩ (.int .i64 lo2)).setCell ⟨P, 10, none⟩ (.slice g5 m5 d5))).cell? ⟨b, o + k, none⟩ = some (.int .i64 x) from (coff (coff (coff q hbP) hbP) (by omega)))
      clear hI hO q8 q9 q10
      have hbs := hb.size
      clear hb X K X1 K1 K2 hbl PC1 q
      go_upto_region 11 with fail
      generalize (((u9w.setCell ⟨P, 8, none⟩ (.int .i64 4)).setCell ⟨P, 9, none⟩ (.int .i64 lo2)).setCell ⟨P, 10, none⟩ (.slice g5 m5 d5)) = v7 at *
      clear r8 r9 r10 f8 f9 f10 hbs hsz
      have X := X2
      have K := K3
      have hbl := B3
      have hsz := z3
      have q := q'
      clear X2 K3 B3 z3 q'
      go_wp2_with fail
      go_roundg (n - (k + 1))
      case measure => omega
      case rel => exact ⟨k + 1, g1, m1, d1, g2, d2, g3, d3, g4, d4, g5, m5, d5, by omega, by omega, by go_num, by rw [HCl.out]; exact X, K, hbl, hsz⟩
    · obtain rfl : n = k := by omega
      have HLO := hidp (show (C n).1 = (C n).1 from rfl)
      obtain ⟨lo, hlo⟩ : ∃ lo, lo = (C n).1 := ⟨_, rfl⟩
      rw [← hlo] at X
      have HL := hidp hlo
      clear hlo HLO
      have OW := O0.out.below hbl
      obtain ⟨⟨_, y0⟩, ⟨_, y1⟩, ⟨_, y2⟩, ⟨_, y3⟩, ⟨_, y4⟩, ⟨_, y5⟩, ⟨_, y6⟩, ⟨_, y7⟩, ⟨_, y8⟩, ⟨_, y9⟩, ⟨_, y10⟩, ofr⟩ := OW
      have f0 := ofr 0
      have f1 := ofr 1
      have f2 := ofr 2
      have f3 := ofr 3
      have f4 := ofr 4
      have f5 := ofr 5
      have f6 := ofr 6
      have f7 := ofr 7
      have f8 := ofr 8
      have f9 := ofr 9
      have f10 := ofr 10
      have KF := hidp ((((((((((((K.out.set hNR 0 (.int .i64 5)).set hNR 1 (.slice ab nb cb)).set hNR 2 (.int .i64 100)).set hNR 3 (.int .i64 3)).set hNR 4 (.slice af 100 cf)).set hNR 5 (.int .i64 7)).set hNR 6 (.slice at' 2 ct)).set hNR 7 (.slice ar 4 cr)).set hNR 8 (.int .i64 4)).set hNR 9 (.int .i64 lo)).set hNR 10 (.slice ac nc cc)))
      have BF := hidp (((((((((((((bstep b0 hbl).setCell (p := ⟨w.heap.size, 0, none⟩) (Nat.le_refl _) (.int .i64 5)).setCell (p := ⟨w.heap.size, 1, none⟩) (Nat.le_refl _) (.slice ab nb cb)).setCell (p := ⟨w.heap.size, 2, none⟩) (Nat.le_refl _) (.int .i64 100)).setCell (p := ⟨w.heap.size, 3, none⟩) (Nat.le_refl _) (.int .i64 3)).setCell (p := ⟨w.heap.size, 4, none⟩) (Nat.le_refl _) (.slice af 100 cf)).setCell (p := ⟨w.heap.size, 5, none⟩) (Nat.le_refl _) (.int .i64 7)).setCell (p := ⟨w.heap.size, 6, none⟩) (Nat.le_refl _) (.slice at' 2 ct)).setCell (p := ⟨w.heap.size, 7, none⟩) (Nat.le_refl _) (.slice ar 4 cr)).setCell (p := ⟨w.heap.size, 8, none⟩) (Nat.le_refl _) (.int .i64 4)).setCell (p := ⟨w.heap.size, 9, none⟩) (Nat.le_refl _) (.int .i64 lo)).setCell (p := ⟨w.heap.size, 10, none⟩) (Nat.le_refl _) (.slice ac nc cc)))
      have t0 : ((((((((((((wr.setCell ⟨w.heap.size, 0, none⟩ (.int .i64 5)).setCell ⟨w.heap.size, 1, none⟩ (.slice ab nb cb)).setCell ⟨w.heap.size, 2, none⟩ (.int .i64 100)).setCell ⟨w.heap.size, 3, none⟩ (.int .i64 3)).setCell ⟨w.heap.size, 4, none⟩ (.slice af 100 cf)).setCell ⟨w.heap.size, 5, none⟩ (.int .i64 7)).setCell ⟨w.heap.size, 6, none⟩ (.slice at' 2 ct)).setCell ⟨w.heap.size, 7, none⟩ (.slice ar 4 cr)).setCell ⟨w.heap.size, 8, none⟩ (.int .i64 4)).setCell ⟨w.heap.size, 9, none⟩ (.int .i64 lo)).setCell ⟨w.heap.size, 10, none⟩ (.slice ac nc cc))).cell? ⟨w.heap.size, 0, none⟩ = some (.int .i64 5) := by go_simp
      have t1 : ((((((((((((wr.setCell ⟨w.heap.size, 0, none⟩ (.int .i64 5)).setCell ⟨w.heap.size, 1, none⟩ (.slice ab nb cb)).setCell ⟨w.heap.size, 2, none⟩ (.int .i64 100)).setCell ⟨w.heap.size, 3, none⟩ (.int .i64 3)).setCell ⟨w.heap.size, 4, none⟩ (.slice af 100 cf)).setCell ⟨w.heap.size, 5, none⟩ (.int .i64 7)).setCell ⟨w.heap.size, 6, none⟩ (.slice at' 2 ct)).setCell ⟨w.heap.size, 7, none⟩ (.slice ar 4 cr)).setCell ⟨w.heap.size, 8, none⟩ (.int .i64 4)).setCell ⟨w.heap.size, 9, none⟩ (.int .i64 lo)).setCell ⟨w.heap.size, 10, none⟩ (.slice ac nc cc))).cell? ⟨w.heap.size, 1, none⟩ = some (.slice ab nb cb) := by go_simp
      have t2 : ((((((((((((wr.setCell ⟨w.heap.size, 0, none⟩ (.int .i64 5)).setCell ⟨w.heap.size, 1, none⟩ (.slice ab nb cb)).setCell ⟨w.heap.size, 2, none⟩ (.int .i64 100)).setCell ⟨w.heap.size, 3, none⟩ (.int .i64 3)).setCell ⟨w.heap.size, 4, none⟩ (.slice af 100 cf)).setCell ⟨w.heap.size, 5, none⟩ (.int .i64 7)).setCell ⟨w.heap.size, 6, none⟩ (.slice at' 2 ct)).setCell ⟨w.heap.size, 7, none⟩ (.slice ar 4 cr)).setCell ⟨w.heap.size, 8, none⟩ (.int .i64 4)).setCell ⟨w.heap.size, 9, none⟩ (.int .i64 lo)).setCell ⟨w.heap.size, 10, none⟩ (.slice ac nc cc))).cell? ⟨w.heap.size, 2, none⟩ = some (.int .i64 100) := by go_simp
      have t3 : ((((((((((((wr.setCell ⟨w.heap.size, 0, none⟩ (.int .i64 5)).setCell ⟨w.heap.size, 1, none⟩ (.slice ab nb cb)).setCell ⟨w.heap.size, 2, none⟩ (.int .i64 100)).setCell ⟨w.heap.size, 3, none⟩ (.int .i64 3)).setCell ⟨w.heap.size, 4, none⟩ (.slice af 100 cf)).setCell ⟨w.heap.size, 5, none⟩ (.int .i64 7)).setCell ⟨w.heap.size, 6, none⟩ (.slice at' 2 ct)).setCell ⟨w.heap.size, 7, none⟩ (.slice ar 4 cr)).setCell ⟨w.heap.size, 8, none⟩ (.int .i64 4)).setCell ⟨w.heap.size, 9, none⟩ (.int .i64 lo)).setCell ⟨w.heap.size, 10, none⟩ (.slice ac nc cc))).cell? ⟨w.heap.size, 3, none⟩ = some (.int .i64 3) := by go_simp
      have t4 : ((((((((((((wr.setCell ⟨w.heap.size, 0, none⟩ (.int .i64 5)).setCell ⟨w.heap.size, 1, none⟩ (.slice ab nb cb)).setCell ⟨w.heap.size, 2, none⟩ (.int .i64 100)).setCell ⟨w.heap.size, 3, none⟩ (.int .i64 3)).setCell ⟨w.heap.size, 4, none⟩ (.slice af 100 cf)).setCell ⟨w.heap.size, 5, none⟩ (.int .i64 7)).setCell ⟨w.heap.size, 6, none⟩ (.slice at' 2 ct)).setCell ⟨w.heap.size, 7, none⟩ (.slice ar 4 cr)).setCell ⟨w.heap.size, 8, none⟩ (.int .i64 4)).setCell ⟨w.heap.size, 9, none⟩ (.int .i64 lo)).setCell ⟨w.heap.size, 10, none⟩ (.slice ac nc cc))).cell? ⟨w.heap.size, 4, none⟩ = some (.slice af 100 cf) := by go_simp
      have t5 : ((((((((((((wr.setCell ⟨w.heap.size, 0, none⟩ (.int .i64 5)).setCell ⟨w.heap.size, 1, none⟩ (.slice ab nb cb)).setCell ⟨w.heap.size, 2, none⟩ (.int .i64 100)).setCell ⟨w.heap.size, 3, none⟩ (.int .i64 3)).setCell ⟨w.heap.size, 4, none⟩ (.slice af 100 cf)).setCell ⟨w.heap.size, 5, none⟩ (.int .i64 7)).setCell ⟨w.heap.size, 6, none⟩ (.slice at' 2 ct)).setCell ⟨w.heap.size, 7, none⟩ (.slice ar 4 cr)).setCell ⟨w.heap.size, 8, none⟩ (.int .i64 4)).setCell ⟨w.heap.size, 9, none⟩ (.int .i64 lo)).setCell ⟨w.heap.size, 10, none⟩ (.slice ac nc cc))).cell? ⟨w.heap.size, 5, none⟩ = some (.int .i64 7) := by go_simp
      have t6 : ((((((((((((wr.setCell ⟨w.heap.size, 0, none⟩ (.int .i64 5)).setCell ⟨w.heap.size, 1, none⟩ (.slice ab nb cb)).setCell ⟨w.heap.size, 2, none⟩ (.int .i64 100)).setCell ⟨w.heap.size, 3, none⟩ (.int .i64 3)).setCell ⟨w.heap.size, 4, none⟩ (.slice af 100 cf)).setCell ⟨w.heap.size, 5, none⟩ (.int .i64 7)).setCell ⟨w.heap.size, 6, none⟩ (.slice at' 2 ct)).setCell ⟨w.heap.size, 7, none⟩ (.slice ar 4 cr)).setCell ⟨w.heap.size, 8, none⟩ (.int .i64 4)).setCell ⟨w.heap.size, 9, none⟩ (.int .i64 lo)).setCell ⟨w.heap.size, 10, none⟩ (.slice ac nc cc))).cell? ⟨w.heap.size, 6, none⟩ = some (.slice at' 2 ct) := by go_simp
      have t7 : ((((((((((((wr.setCell ⟨w.heap.size, 0, none⟩ (.int .i64 5)).setCell ⟨w.heap.size, 1, none⟩ (.slice ab nb cb)).setCell ⟨w.heap.size, 2, none⟩ (.int .i64 100)).setCell ⟨w.heap.size, 3, none⟩ (.int .i64 3)).setCell ⟨w.heap.size, 4, none⟩ (.slice af 100 cf)).setCell ⟨w.heap.size, 5, none⟩ (.int .i64 7)).setCell ⟨w.heap.size, 6, none⟩ (.slice at' 2 ct)).setCell ⟨w.heap.size, 7, none⟩ (.slice ar 4 cr)).setCell ⟨w.heap.size, 8, none⟩ (.int .i64 4)).setCell ⟨w.heap.size, 9, none⟩ (.int .i64 lo)).setCell ⟨w.heap.size, 10, none⟩ (.slice ac nc cc))).cell? ⟨w.heap.size, 7, none⟩ = some (.slice ar 4 cr) := by go_simp
      have t8 : ((((((((((((wr.setCell ⟨w.heap.size, 0, none⟩ (.int .i64 5)).setCell ⟨w.heap.size, 1, none⟩ (.slice ab nb cb)).setCell ⟨w.heap.size, 2, none⟩ (.int .i64 100)).setCell ⟨w.heap.size, 3, none⟩ (.int .i64 3)).setCell ⟨w.heap.size, 4, none⟩ (.slice af 100 cf)).setCell ⟨w.heap.size, 5, none⟩ (.int .i64 7)).setCell ⟨w.heap.size, 6, none⟩ (.slice at' 2 ct)).setCell ⟨w.heap.size, 7, none⟩ (.slice ar 4 cr)).setCell ⟨w.heap.size, 8, none⟩ (.int .i64 4)).setCell ⟨w.heap.size, 9, none⟩ (.int .i64 lo)).setCell ⟨w.heap.size, 10, none⟩ (.slice ac nc cc))).cell? ⟨w.heap.size, 8, none⟩ = some (.int .i64 4) := by go_simp
      have t9 : ((((((((((((wr.setCell ⟨w.heap.size, 0, none⟩ (.int .i64 5)).setCell ⟨w.heap.size, 1, none⟩ (.slice ab nb cb)).setCell ⟨w.heap.size, 2, none⟩ (.int .i64 100)).setCell ⟨w.heap.size, 3, none⟩ (.int .i64 3)).setCell ⟨w.heap.size, 4, none⟩ (.slice af 100 cf)).setCell ⟨w.heap.size, 5, none⟩ (.int .i64 7)).setCell ⟨w.heap.size, 6, none⟩ (.slice at' 2 ct)).setCell ⟨w.heap.size, 7, none⟩ (.slice ar 4 cr)).setCell ⟨w.heap.size, 8, none⟩ (.int .i64 4)).setCell ⟨w.heap.size, 9, none⟩ (.int .i64 lo)).setCell ⟨w.heap.size, 10, none⟩ (.slice ac nc cc))).cell? ⟨w.heap.size, 9, none⟩ = some (.int .i64 lo) := by go_simp
      have t10 : ((((((((((((wr.setCell ⟨w.heap.size, 0, none⟩ (.int .i64 5)).setCell ⟨w.heap.size, 1, none⟩ (.slice ab nb cb)).setCell ⟨w.heap.size, 2, none⟩ (.int .i64 100)).setCell ⟨w.heap.size, 3, none⟩ (.int .i64 3)).setCell ⟨w.heap.size, 4, none⟩ (.slice af 100 cf)).setCell ⟨w.heap.size, 5, none⟩ (.int .i64 7)).setCell ⟨w.heap.size, 6, none⟩ (.slice at' 2 ct)).setCell ⟨w.heap.size, 7, none⟩ (.slice ar 4 cr)).setCell ⟨w.heap.size, 8, none⟩ (.int .i64 4)).setCell ⟨w.heap.size, 9, none⟩ (.int .i64 lo)).setCell ⟨w.heap.size, 10, none⟩ (.slice ac nc cc))).cell? ⟨w.heap.size, 10, none⟩ = some (.slice ac nc cc) := by go_simp
      have q0 := X.out.c0
      have q1 := X.out.c1
      have q2 := X.out.c2
      have q3 := X.out.c3
      have q4 := X.out.c4
      have q5 := X.out.c5
      have q6 := X.out.c6
      have q7 := X.out.c7
      have q8 := X.out.c8
      have q9 := X.out.c9
      have q10 := X.out.c10
      clear ofr PutB PutF PutT PutR PutC FR NGE
      go_wp2_with fail
      clear q0 q1 q2 q3 q4 q5 q6 q7 q8 q9 q10 f0 f1 f2 f3 f4 f5 f6 f7 f8 f9 f10 y0 y1 y2 y3 y4 y5 y6 y7 y8 y9 y10
      generalize (((((((((((wr.setCell ⟨w.heap.size, 0, none⟩ (.int .i64 5)).setCell ⟨w.heap.size, 1, none⟩ (.slice ab nb cb)).setCell ⟨w.heap.size, 2, none⟩ (.int .i64 100)).setCell ⟨w.heap.size, 3, none⟩ (.int .i64 3)).setCell ⟨w.heap.size, 4, none⟩ (.slice af 100 cf)).setCell ⟨w.heap.size, 5, none⟩ (.int .i64 7)).setCell ⟨w.heap.size, 6, none⟩ (.slice at' 2 ct)).setCell ⟨w.heap.size, 7, none⟩ (.slice ar 4 cr)).setCell ⟨w.heap.size, 8, none⟩ (.int .i64 4)).setCell ⟨w.heap.size, 9, none⟩ (.int .i64 lo)).setCell ⟨w.heap.size, 10, none⟩ (.slice ac nc cc)) = w7 at *
      refine bodyPost_ret (v := .tuple #[.agg #[.int .i64 5, .slice ab nb cb, .int .i64 100, .int .i64 3, .slice af 100 cf, .int .i64 7, .slice at' 2 ct, .slice ar 4 cr, .int .i64 4, .int .i64 lo, .slice ac nc cc], .bool true]) (by simp [results, Try.results10, go_sem, t0, t1, t2, t3, t4, t5, t6, t7, t8, t9, t10]) rfl ⟨ab, nb, cb, af, cf, at', ct, ar, cr, ac, nc, cc, by rw [← HL.out]; rfl, KF.out.1, BF.out⟩
end Go.Proofs.Ytcbklhicellepaa

/- TopSketches: the five Puts at what keys leave, and what fill gives. -/
namespace Go.Proofs.Ytcbklhicellepaa
open Go.ChangeShapes Go.WideShapes Go.ChangeAt Go.RowKit
set_option maxRecDepth 20000
/-- Keys of the range of random values. -/
def KeyOk (X : List Int) : Prop := ∀ x ∈ X, 0 ≤ x ∧ x < 72057594037927936
theorem KeyOk.take {X : List Int} (h : KeyOk X) (k : Nat) : KeyOk (X.take k) := fun x hx => h x (List.mem_of_mem_take hx)
theorem KeyOk.drop {X : List Int} (h : KeyOk X) (k : Nat) : KeyOk (X.drop k) := fun x hx => h x (List.mem_of_mem_drop hx)
theorem KeyOk.at {X : List Int} (h : KeyOk X) (k : Nat) (hk : k < X.length) : 0 ≤ gi X k ∧ gi X k < 72057594037927936 := by
  apply h
  unfold gi; rw [List.getD_eq_getElem?_getD, List.getElem?_eq_getElem hk]
  exact List.getElem_mem hk
theorem gtakeK (X : List Int) (k : Nat) (hk : k < X.length) : X.take (k + 1) = X.take k ++ [gi X k] := by
  rw [List.take_succ_eq_append_getElem hk]
  unfold gi; rw [List.getD_eq_getElem?_getD, List.getElem?_eq_getElem hk]; rfl
theorem KeyOk.bot {X : List Int} (h : KeyOk X) : BotOk 5 (botL 5 X) := ⟨by omega, by omega, botL_len _ _, botL_rising _ _, fun x hx => h x (botL_mem _ _ _ hx)⟩
theorem KeyOk.bd {X : List Int} (h : KeyOk X) : ∀ x ∈ botL 5 X, -9223372036854775808 ≤ x ∧ x ≤ 9223372036854775807 := fun x hx => by
  have := h x (botL_mem _ _ _ hx); omega
theorem sk_tabOk (X : List Int) (h : X.length ≤ 1000) : TabOk 7 2 (tabL (skT X) 7 2) := tabL_ok _ _ _ (by omega) (by omega) (by omega) (by omega) (fun i j _ _ => by have := skT_bd X i j; omega)
theorem reg_bd {X : List Int} {n : Nat} (h : RegOk X n) (hl : X.length = n) : ∀ x ∈ X, -9223372036854775808 ≤ x ∧ x ≤ 9223372036854775807 := fun x hx => by
  obtain ⟨i, hi, rfl⟩ := List.mem_iff_getElem.1 hx
  have := h.2 i (by omega)
  unfold gi at this
  rw [List.getD_eq_getElem?_getD, List.getElem?_eq_getElem hi] at this
  simp only [Option.getD_some] at this
  omega
theorem skR_bd {X : List Int} (h : KeyOk X) : ∀ x ∈ skR X, -9223372036854775808 ≤ x ∧ x ≤ 9223372036854775807 := reg_bd (skR_ok X h) (tab_len _ _)
theorem use_b {Y : List Int} (x : Int) (hY : KeyOk (Y ++ [x])) (W : World) (a : Option Addr) (m c : Nat) (h : IntsAt W a m c (botL 5 Y)) :
    Calls Try.prog 11 #[.agg #[.int .i64 5, .slice a m c], .int .i64 x] W fun e w' => ∃ g n' c', e = .returned (.tuple #[.agg #[.int .i64 5, .slice g n' c'], .int .i64 0]) ∧ IntsAt w' g n' c' (botL 5 (Y ++ [x])) ∧ OnB g (fun b => W.heap.size ≤ b) ∧ Below W.heap.size W w' := by
  have hY1 : KeyOk Y := fun y hy => hY y (by simp [hy])
  refine (boput_c 5 a m c _ x W h hY1.bot (hY x (by simp))).mono ?_
  rw [botL_snoc]
  rintro e w' ⟨g, n', c', rfl, hO, hb⟩
  obtain ⟨_, _, e, hI⟩ := owns_ints hO hY.bd
  cases e
  exact ⟨g, n', c', rfl, hI, fun b o e => (owns_far hO b o e).1, hb⟩
theorem use_f (Y : List Int) (x : Int) (W : World) (a : Option Addr) (c : Nat) (h : BoolsAt W a 100 c (skFL Y)) :
    Calls Try.prog 12 #[.agg #[.int .i64 100, .int .i64 3, .slice a 100 c], .int .i64 x] W fun e w' => ∃ g c', e = .returned (.tuple #[.agg #[.int .i64 100, .int .i64 3, .slice g 100 c'], .int .i64 0]) ∧ BoolsAt w' g 100 c' (skFL (Y ++ [x])) ∧ OnB g (fun b => W.heap.size ≤ b) ∧ Below W.heap.size W w' := by
  refine (bput_c 100 3 a c _ x W h (by omega) (by omega) (by omega) (by omega)).mono ?_
  rw [skF_snoc]
  rintro e w' ⟨g, cv, rfl, hO, hb⟩
  obtain ⟨_, _, e, hI⟩ := owns_boolsR hO
  cases e
  exact ⟨_, cv, rfl, hI, fun b o e => (owns_far hO b o e).1, hb⟩
theorem rows_ge {W : World} {a : Option Addr} {n B : Nat} (h : ∀ P, P < B → RowsNe W a n P) : RowsOn W a n (fun b => B ≤ b) := fun b o e =>
  ⟨Nat.le_of_not_lt (fun hlt => (h b hlt b o e).1 rfl), fun i hi bi oi ni ci hc => Nat.le_of_not_lt (fun hlt => (h bi hlt b o e).2 i hi bi oi ni ci hc rfl)⟩
theorem use_t (Y : List Int) (x : Int) (hY : Y.length ≤ 1000) (W : World) (a : Option Addr) (c : Nat) (h : RowsAt W a 2 c (tabL (skT Y) 7 2)) :
    Calls Try.prog 13 #[.agg #[.int .i64 7, .slice a 2 c], .int .i64 x, .int .i64 1] W fun e w' => ∃ g c', e = .returned (.tuple #[.agg #[.int .i64 7, .slice g 2 c'], .int .i64 0]) ∧ RowsAt w' g 2 c' (tabL (skT (Y ++ [x])) 7 2) ∧ RowsOn w' g 2 (fun b => W.heap.size ≤ b) ∧ Below W.heap.size W w' := by
  refine (tput_ok 7 a 2 c _ x 1 W h (sk_tabOk Y hY) (by omega) (by omega) (fun i _ => by have := skT_bd Y i (plc 7 x i); omega)).mono ?_
  rw [skT_snoc]
  rintro e w' ⟨g, cp, rfl, hR, hN, hb⟩
  exact ⟨_, cp, rfl, hR, rows_ge hN, hb⟩
theorem use_r {Y : List Int} (x : Int) (hY : KeyOk (Y ++ [x])) (W : World) (a : Option Addr) (c : Nat) (h : IntsAt W a 4 c (skR Y)) :
    Calls Try.prog 14 #[.slice a 4 c, .int .i64 x] W fun e w' => ∃ g c', e = .returned (.tuple #[.slice g 4 c', .int .i64 0]) ∧ IntsAt w' g 4 c' (skR (Y ++ [x])) ∧ OnB g (fun b => W.heap.size ≤ b) ∧ Below W.heap.size W w' := by
  have hY1 : KeyOk Y := fun y hy => hY y (by simp [hy])
  have hx := hY x (by simp)
  have hc := rput_c a 4 c _ x.toNat W h (skR_ok Y hY1) (by omega)
  rw [skR_snoc, show ((x.toNat : Nat) : Int) = x from by omega] at hc
  refine hc.mono ?_
  rintro e w' ⟨v, rfl, hO, hb⟩
  obtain ⟨_, _, rfl, hI⟩ := owns_ints hO (skR_bd hY)
  exact ⟨_, _, rfl, hI, fun b o e => (owns_far hO b o e).1, hb⟩
theorem use_c (Y : List Int) (x : Int) (hY : Y.length + 1 ≤ 1000) (W : World) (a : Option Addr) (m c : Nat) (h : CntAt W a m c (skC Y).2) :
    Calls Try.prog 15 #[.agg #[.int .i64 4, .int .i64 (skC Y).1, .slice a m c], .int .i64 x, .int .i64 1] W fun e w' => ∃ g n' c', e = .returned (.tuple #[.agg #[.int .i64 4, .int .i64 (skC (Y ++ [x])).1, .slice g n' c'], .int .i64 0]) ∧ CntAt w' g n' c' (skC (Y ++ [x])).2 ∧ OnB g (fun b => W.heap.size ≤ b) ∧ Below W.heap.size W w' := by
  refine (fput_c 4 (skC Y) a m c x 1 W h (skC_ok Y (by omega)) (by omega)).mono ?_
  rw [skC_snoc]
  have hok := skC_ok (Y ++ [x]) (by simpa using hY)
  rintro e w' ⟨⟨_, g, n', c', rfl, hO⟩ | ⟨hne, _⟩, hb⟩
  · obtain ⟨_, _, e, hI⟩ := owns_cnts hO
    cases e
    exact ⟨g, n', c', rfl, hI, fun b o e => (owns_far hO b o e).1, hb⟩
  · exact absurd hok hne
theorem use_fresh (W : World) :
    Calls Try.prog 7 #[] W fun e w' => ∃ af cf at' ct ar cr, e = .returned (allV none 0 0 af cf at' ct ar cr 0 none 0 0) ∧ SkIn w' (fun b => W.heap.size < b ∧ b < w'.heap.size) none 0 0 af cf at' ct ar cr none 0 0 [] (skFL []) (skT []) (skR []) [] ∧ Below W.heap.size W w' :=
  fresh_core W (fun W a c h => repeatb_c a c false 100 (by omega) W h) (fun n W a c hn h => repeat_c a c 0 n hn W h)
theorem fill_c (n : Nat) (hn : n ≤ 60) (xs : List Int) (hl : xs.length = n) (hk : KeyOk xs) (al : Option Addr) (cl PB : Nat) (w : World) (hx : IntsAt w al n cl xs) (hPB : w.cell? ⟨PB, 0, none⟩ = some (.func (.func 7) #[] #[])) :
    Calls Try.prog 10 #[.slice al n cl, .pointer (some ⟨PB, 0, none⟩)] w fun e w' => ∃ ab nb cb af cf at' ct ar cr ac nc cc, e = .returned (.tuple #[allV ab nb cb af cf at' ct ar cr (skC xs).1 ac nc cc, .bool true]) ∧ SkAt w' ab nb cb af cf at' ct ar cr ac nc cc (botL 5 xs) (skFL xs) (skT xs) (skR xs) (skC xs).2 ∧ Below w.heap.size w w' := by
  obtain ⟨B, hB⟩ : ∃ B : Nat → List Int, ∀ k, B k = botL 5 (xs.take k) := ⟨_, fun _ => rfl⟩
  obtain ⟨F, hF⟩ : ∃ F : Nat → List Bool, ∀ k, F k = skFL (xs.take k) := ⟨_, fun _ => rfl⟩
  obtain ⟨T, hT⟩ : ∃ T : Nat → Nat → Nat → Int, ∀ k, T k = skT (xs.take k) := ⟨_, fun _ => rfl⟩
  obtain ⟨G, hG⟩ : ∃ G : Nat → List Int, ∀ k, G k = skR (xs.take k) := ⟨_, fun _ => rfl⟩
  obtain ⟨C, hC⟩ : ∃ C : Nat → Int × List (Int × Int), ∀ k, C k = skC (xs.take k) := ⟨_, fun _ => rfl⟩
  have key := fill_core n (by omega) xs B F T G C
    (fun W => by rw [hB, hF, hT, hG, hC, List.take_zero]; exact use_fresh W)
    (fun k W a m c hkn h => by
      rw [hB] at h; rw [hB, gtakeK xs k (by omega)]
      exact use_b _ (by rw [← gtakeK xs k (by omega)]; exact hk.take _) W a m c h)
    (fun k W a c hkn h => by
      rw [hF] at h; rw [hF, gtakeK xs k (by omega)]
      exact use_f _ _ W a c h)
    (fun k W a c hkn h => by
      rw [hT] at h; rw [hT, gtakeK xs k (by omega)]
      exact use_t _ _ (by rw [List.length_take]; omega) W a c h)
    (fun k W a c hkn h => by
      rw [hG] at h; rw [hG, gtakeK xs k (by omega)]
      exact use_r _ (by rw [← gtakeK xs k (by omega)]; exact hk.take _) W a c h)
    (fun k W a m c hkn h => by
      rw [hC] at h ⊢; rw [hC, gtakeK xs k (by omega)]
      exact use_c _ _ (by rw [List.length_take]; omega) W a m c h)
    al cl PB w hx hPB
  rw [hB, hF, hT, hG, hC, List.take_of_length_le (by omega)] at key
  exact key
end Go.Proofs.Ytcbklhicellepaa

/- TopSketches: the five Joins, the four comparisons and the questions, at what keys leave. -/
namespace Go.Proofs.Ytcbklhicellepaa
open Go.ChangeShapes Go.WideShapes Go.ChangeAt Go.RowKit
set_option maxRecDepth 20000
theorem jn_b {Y Z : List Int} (hY : KeyOk Y) (hZ : KeyOk Z) (W : World) (a a2 : Option Addr) (n c n2 c2 : Nat) (h : IntsAt W a n c (botL 5 Y)) (h2 : IntsAt W a2 n2 c2 (botL 5 Z)) :
    Calls Try.prog 16 #[.agg #[.int .i64 5, .slice a n c], .agg #[.int .i64 5, .slice a2 n2 c2]] W fun e w' => ∃ g n' c', e = .returned (.tuple #[.agg #[.int .i64 5, .slice g n' c'], .int .i64 0]) ∧ IntsAt w' g n' c' (botL 5 (Z ++ Y)) ∧ Below W.heap.size W w' := by
  refine (botjoin_c 5 a n c _ a2 n2 c2 _ W h h2 hY.bot hZ.bot).mono ?_
  rw [sk_bot]
  rintro e w' ⟨g, n', c', rfl, hO, hb⟩
  obtain ⟨_, _, e, hI⟩ := owns_ints hO (KeyOk.bd (X := Z ++ Y) (fun x hx => (List.mem_append.1 hx).elim (hZ x) (hY x)))
  cases e
  exact ⟨g, n', c', rfl, hI, hb⟩
theorem jn_f (Y Z : List Int) (W : World) (a a2 : Option Addr) (c c2 : Nat) (h : BoolsAt W a 100 c (skFL Y)) (h2 : BoolsAt W a2 100 c2 (skFL Z)) :
    Calls Try.prog 17 #[.agg #[.int .i64 100, .int .i64 3, .slice a 100 c], .agg #[.int .i64 100, .int .i64 3, .slice a2 100 c2]] W fun e w' => ∃ g c', e = .returned (.tuple #[.agg #[.int .i64 100, .int .i64 3, .slice g 100 c'], .int .i64 0]) ∧ BoolsAt w' g 100 c' (skFL (Z ++ Y)) ∧ Below W.heap.size W w' := by
  refine (bjoin_c 100 3 a a2 c c2 _ _ W h h2 (by omega) (by omega) (by omega) (by omega)).mono ?_
  rw [skF_join, skF_comm]
  rintro e w' ⟨g, cv, rfl, hO, hb⟩
  obtain ⟨_, _, e, hI⟩ := owns_boolsR hO
  cases e
  exact ⟨_, cv, rfl, hI, hb⟩
theorem jn_t {Y Z : List Int} (hl : (Z ++ Y).length ≤ 1000) (W : World) (a a2 : Option Addr) (c c2 : Nat) (h : RowsAt W a 2 c (tabL (skT Y) 7 2)) (h2 : RowsAt W a2 2 c2 (tabL (skT Z) 7 2)) :
    Calls Try.prog 18 #[.agg #[.int .i64 7, .slice a 2 c], .agg #[.int .i64 7, .slice a2 2 c2]] W fun e w' => ∃ g c', e = .returned (.tuple #[.agg #[.int .i64 7, .slice g 2 c'], .int .i64 0]) ∧ RowsAt w' g 2 c' (tabL (skT (Z ++ Y)) 7 2) ∧ Below W.heap.size W w' := by
  rw [List.length_append] at hl
  refine (tjoin_c 7 a a2 2 c c2 _ _ W h (sk_tabOk Y (by omega)) h2 (sk_tabOk Z (by omega)) (fun i j _ _ => by have := skT_bd Y i j; have := skT_bd Z i j; omega)).mono ?_
  rw [skT_join, skT_comm]
  rintro e w' ⟨g, cp, rfl, hR, hb⟩
  exact ⟨_, cp, rfl, hR, hb⟩
theorem jn_r {Y Z : List Int} (hY : KeyOk Y) (hZ : KeyOk Z) (W : World) (a a2 : Option Addr) (c c2 : Nat) (h : IntsAt W a 4 c (skR Y)) (h2 : IntsAt W a2 4 c2 (skR Z)) :
    Calls Try.prog 19 #[.slice a 4 c, .slice a2 4 c2] W fun e w' => ∃ g c', e = .returned (.tuple #[.slice g 4 c', .int .i64 0]) ∧ IntsAt w' g 4 c' (skR (Z ++ Y)) ∧ Below W.heap.size W w' := by
  refine (rjoin_c a a2 4 c c2 _ _ W h h2 (skR_ok Y hY) (skR_ok Z hZ)).mono ?_
  rw [skR_join, skR_comm]
  rintro e w' ⟨v, rfl, hO, hb⟩
  obtain ⟨_, _, rfl, hI⟩ := owns_ints hO (skR_bd (X := Z ++ Y) (fun x hx => (List.mem_append.1 hx).elim (hZ x) (hY x)))
  exact ⟨_, _, rfl, hI, hb⟩
theorem jn_c {Y Z : List Int} (hl : (Z ++ Y).length ≤ 1000) (W : World) (a a2 : Option Addr) (n c n2 c2 : Nat) (h : CntAt W a n c (skC Y).2) (h2 : CntAt W a2 n2 c2 (skC Z).2) :
    Calls Try.prog 20 #[.agg #[.int .i64 4, .int .i64 (skC Y).1, .slice a n c], .agg #[.int .i64 4, .int .i64 (skC Z).1, .slice a2 n2 c2]] W fun e w' => ∃ g n' c', e = .returned (.tuple #[.agg #[.int .i64 4, .int .i64 (skJ Y Z).1, .slice g n' c'], .int .i64 0]) ∧ CntAt w' g n' c' (skJ Y Z).2 ∧ Below W.heap.size W w' := by
  have hl' := hl
  rw [List.length_append] at hl
  have s1 := skC_sum Y (by omega)
  have s2 := skC_sum Z (by omega)
  refine (fjoin_c 4 (skC Y) (skC Z) a n c a2 n2 c2 W h h2 (skC_ok Y (by omega)) (skC_ok Z (by omega)) (by omega) (skJ_ok Y Z (by rw [List.length_append]; omega))).mono ?_
  rintro e w' ⟨g, n', c', rfl, hI, hb⟩
  exact ⟨g, n', c', rfl, hI.1, hb⟩
theorem sm_b (X : List Int) (W : World) (a a2 : Option Addr) (n c n2 c2 : Nat) (h : IntsAt W a n c (botL 5 X)) (h2 : IntsAt W a2 n2 c2 (botL 5 X)) :
    Calls Try.prog 21 #[.agg #[.int .i64 5, .slice a n c], .agg #[.int .i64 5, .slice a2 n2 c2]] W fun e w' => e = .returned (.bool true) ∧ Below W.heap.size W w' :=
  samebot_c 5 a a2 n n2 c c2 _ _ W h h2 rfl
theorem sm_f (X : List Int) (W : World) (a a2 : Option Addr) (c c2 : Nat) (h : BoolsAt W a 100 c (skFL X)) (h2 : BoolsAt W a2 100 c2 (skFL X)) :
    Calls Try.prog 22 #[.agg #[.int .i64 100, .int .i64 3, .slice a 100 c], .agg #[.int .i64 100, .int .i64 3, .slice a2 100 c2]] W fun e w' => e = .returned (.bool true) ∧ Below W.heap.size W w' :=
  samef_c 100 3 a a2 c c2 _ W h h2
theorem sm_t (X : List Int) (W : World) (a a2 : Option Addr) (c c2 : Nat) (h : RowsAt W a 2 c (tabL (skT X) 7 2)) (h2 : RowsAt W a2 2 c2 (tabL (skT X) 7 2)) :
    Calls Try.prog 23 #[.agg #[.int .i64 7, .slice a 2 c], .agg #[.int .i64 7, .slice a2 2 c2]] W fun e w' => e = .returned (.bool true) ∧ Below W.heap.size W w' :=
  samet_c 7 a a2 2 c c2 _ W h h2 (by omega) (by omega) (by omega)
theorem sm_r (X : List Int) (W : World) (a a2 : Option Addr) (c c2 : Nat) (h : IntsAt W a 4 c (skR X)) (h2 : IntsAt W a2 4 c2 (skR X)) :
    Calls Try.prog 24 #[.slice a 4 c, .slice a2 4 c2] W fun e w' => e = .returned (.bool true) ∧ Below W.heap.size W w' := by
  refine (equali_c a a2 4 4 c c2 _ _ W h h2).mono ?_
  rintro e w' ⟨rfl, hb⟩
  rw [decide_eq_true rfl]
  exact ⟨rfl, hb⟩
theorem ask_t {X : List Int} (hl : X.length ≤ 1000) (x : Int) (W : World) (a : Option Addr) (c : Nat) (h : RowsAt W a 2 c (tabL (skT X) 7 2)) :
    Calls Try.prog 25 #[.agg #[.int .i64 7, .slice a 2 c], .int .i64 x] W fun e w' => e = .returned (.tuple #[.int .i64 (tmin (skT X) (plc 7 x) 2), .int .i64 0]) ∧ Below W.heap.size W w' :=
  task_c 7 a 2 c _ x W h (sk_tabOk X hl)
theorem ask_c (s : Int × List (Int × Int)) (hok : FewOk 4 s) (x : Int) (W : World) (a : Option Addr) (n c : Nat) (h : CntAt W a n c s.2) :
    Calls Try.prog 26 #[.agg #[.int .i64 4, .int .i64 s.1, .slice a n c], .int .i64 x] W fun e w' => e = .returned (.tuple #[.int .i64 (occ s.2 x), .int .i64 (occ s.2 x + s.1), .int .i64 0]) ∧ Below W.heap.size W w' :=
  fask_c 4 s a n c x W h hok
theorem ask_f {X : List Int} (x : Int) (hx : x ∈ X) (W : World) (a : Option Addr) (c : Nat) (h : BoolsAt W a 100 c (skFL X)) :
    Calls Try.prog 27 #[.agg #[.int .i64 100, .int .i64 3, .slice a 100 c], .int .i64 x] W fun e w' => e = .returned (.tuple #[.bool true, .int .i64 0]) ∧ Below W.heap.size W w' := by
  have := bhas_c 100 3 a c (skFL X) x W h (by omega) (by omega) (by omega) (by omega)
  rw [skF_has X x hx] at this
  exact this
end Go.Proofs.Ytcbklhicellepaa

/- Slices of texts: read. -/
namespace Go.Proofs.Ytcbklhicellepaa
open Go.ChangeShapes Go.WideShapes Go.ChangeAt Go.RowKit
set_option maxRecDepth 20000
/-- The text at i. -/
def gs (S : List ByteArray) (i : Nat) : ByteArray := S.getD i ByteArray.empty
/-- A slice of texts. -/
structure StrsAt (w : World) (a : Option Addr) (n cap : Nat) (S : List ByteArray) : Prop where
  len : S.length = n
  le : n ≤ cap
  max : cap ≤ 9223372036854775807
  cells : 0 < n → ∃ b off, a = some ⟨b, off, none⟩ ∧ b < w.heap.size ∧ ∀ i, i < n → w.cell? ⟨b, off + i, none⟩ = some (.string (gs S i))
  sz : ∀ i, (gs S i).size ≤ 9223372036854775807
theorem StrsAt.split {w : World} {a : Option Addr} {n cap : Nat} {S : List ByteArray} (h : StrsAt w a n cap S) : ∃ b off, (n = 0 ∨ a = some ⟨b, off, none⟩) ∧ ∀ i, i < n → b < w.heap.size ∧ w.cell? ⟨b, off + i, none⟩ = some (.string (gs S i)) := by
  rcases Nat.eq_zero_or_pos n with h0 | h0
  · exact ⟨0, 0, .inl h0, fun i hi => by omega⟩
  · obtain ⟨b, off, ha, hb, hc⟩ := h.cells h0
    exact ⟨b, off, .inr ha, fun i hi => ⟨hb, hc i hi⟩⟩
section
variable {H : Type} {enc : TypeId × Value → H} {w : World} {base : Nat} {spare : Nat → Bool} {held : Bool}
/-- An argument that is a slice of texts, opened. -/
theorem strings_open {t e : TypeId} {a : Option Addr} {len cap : Nat} {d : DataW H} {p : List MemPlace} (ht : Try.prog.underlying t = some (.slice e)) (he : Try.prog.underlying e = some .string) (hc : Try.prog.cellsOf e = 1)
    (h : DataW.Trod enc Try.prog w base spare held t (.slice a len cap) d p) : ∃ S, StrsAt w a len cap S := by
  obtain ⟨fuel, hf⟩ := h
  rcases open_strings ht he hc hf with ⟨hcs, _⟩ | ⟨x, l, c, zs, hcs, _, hl, hm, hz, _, hcell, hwz⟩
  · simp [Value.cells] at hcs
    obtain ⟨rfl, rfl, rfl⟩ := hcs
    exact ⟨[], rfl, Nat.le_refl _, by omega, fun h => absurd h (by omega), fun i => by unfold gs; simp⟩
  · simp [Value.cells] at hcs
    obtain ⟨rfl, rfl, rfl⟩ := hcs
    have hlz : len ≤ zs.length := by rw [hz]; split <;> omega
    unfold maxLen at hm hwz
    have hg : ∀ i, i < len → gs (zs.take len) i = zs.getD i ByteArray.empty := fun i hi => by
      unfold gs
      rw [List.getD_eq_getElem?_getD, List.getD_eq_getElem?_getD, List.getElem?_take, if_pos hi]
    refine ⟨zs.take len, by rw [List.length_take]; omega, hl, hm, fun hpos => ?_, fun i => ?_⟩
    · have c0 := hcell 0 (by omega)
      obtain ⟨b, off, spot⟩ := x
      have hspot : spot = none := by simpa [Addr.add] using World.cell?_spot c0
      subst hspot
      refine ⟨b, off, rfl, ?_, fun i hi => ?_⟩
      · have := lt_of_cell c0
        rw [addr_add] at this
        exact this
      · have hi2 := hcell i (by omega)
        rw [addr_add] at hi2
        rw [hi2, hg i hi]
    · unfold gs
      rw [List.getD_eq_getElem?_getD]
      cases he : (zs.take len)[i]? with
      | none => simp
      | some y => exact hwz y (List.mem_of_mem_take (List.mem_of_getElem? he))
end
end Go.Proofs.Ytcbklhicellepaa
