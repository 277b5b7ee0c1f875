/- The walk of BloomJoins: the law returns true at all inputs, and no old memory changes. -/
import Derived.Test.YtpghnbpoodcglaaBloomSame
import Derived.Test.YtpghnbpoodcglaaConcat2
import Derived.Deep.DeepCutAuto
namespace Go.Proofs.Ytpghnbpoodcglaa.bloomJoins
open Go.ChangeShapes Go.WideShapes Go.ChangeAt Go.RowKit
open Go.Proofs.Ytpghnbpoodcglaa
set_option maxRecDepth 20000
theorem zn0 (W : World) (P : Nat) (h : W.heap.size = P) : (W.alloc (.cells #[.int .i64 0, .int .i64 0, .slice none 0 0] 35)).cell? ⟨P, 0, none⟩ = some (.int .i64 0) := by subst h; go_simp
theorem znf0 (W : World) (P : Nat) (h : W.heap.size = P) : (W.alloc (.cells #[.int .i64 0, .int .i64 0, .slice none 0 0] 35)).frozen? ⟨P, 0, none⟩ = false := by subst h; go_simp
theorem zb0 (W : World) (P : Nat) (h : W.heap.size = P) (r : Array Value) (T : TypeId) : ((W.alloc (.cells #[.int .i64 0, .int .i64 0, .slice none 0 0] 35)).alloc (.cells r T)).cell? ⟨P, 0, none⟩ = some (.int .i64 0) := ca (zn0 W P h) _
theorem zbf0 (W : World) (P : Nat) (h : W.heap.size = P) (r : Array Value) (T : TypeId) : ((W.alloc (.cells #[.int .i64 0, .int .i64 0, .slice none 0 0] 35)).alloc (.cells r T)).frozen? ⟨P, 0, none⟩ = false := by subst h; go_simp
theorem zc0 (W : World) (P : Nat) (h : W.heap.size = P) (r : Array Value) (T : TypeId) : ((W.alloc (.cells r T)).alloc (.cells #[.int .i64 0, .int .i64 0, .slice none 0 0] 35)).cell? ⟨P + 1, 0, none⟩ = some (.int .i64 0) := zn0 _ _ (by simp [h])
theorem zcf0 (W : World) (P : Nat) (h : W.heap.size = P) (r : Array Value) (T : TypeId) : ((W.alloc (.cells r T)).alloc (.cells #[.int .i64 0, .int .i64 0, .slice none 0 0] 35)).frozen? ⟨P + 1, 0, none⟩ = false := znf0 _ _ (by simp [h])
theorem zn1 (W : World) (P : Nat) (h : W.heap.size = P) : (W.alloc (.cells #[.int .i64 0, .int .i64 0, .slice none 0 0] 35)).cell? ⟨P, 1, none⟩ = some (.int .i64 0) := by subst h; go_simp
theorem znf1 (W : World) (P : Nat) (h : W.heap.size = P) : (W.alloc (.cells #[.int .i64 0, .int .i64 0, .slice none 0 0] 35)).frozen? ⟨P, 1, none⟩ = false := by subst h; go_simp
theorem zb1 (W : World) (P : Nat) (h : W.heap.size = P) (r : Array Value) (T : TypeId) : ((W.alloc (.cells #[.int .i64 0, .int .i64 0, .slice none 0 0] 35)).alloc (.cells r T)).cell? ⟨P, 1, none⟩ = some (.int .i64 0) := ca (zn1 W P h) _
theorem zbf1 (W : World) (P : Nat) (h : W.heap.size = P) (r : Array Value) (T : TypeId) : ((W.alloc (.cells #[.int .i64 0, .int .i64 0, .slice none 0 0] 35)).alloc (.cells r T)).frozen? ⟨P, 1, none⟩ = false := by subst h; go_simp
theorem zc1 (W : World) (P : Nat) (h : W.heap.size = P) (r : Array Value) (T : TypeId) : ((W.alloc (.cells r T)).alloc (.cells #[.int .i64 0, .int .i64 0, .slice none 0 0] 35)).cell? ⟨P + 1, 1, none⟩ = some (.int .i64 0) := zn1 _ _ (by simp [h])
theorem zcf1 (W : World) (P : Nat) (h : W.heap.size = P) (r : Array Value) (T : TypeId) : ((W.alloc (.cells r T)).alloc (.cells #[.int .i64 0, .int .i64 0, .slice none 0 0] 35)).frozen? ⟨P + 1, 1, none⟩ = false := znf1 _ _ (by simp [h])
theorem zn2 (W : World) (P : Nat) (h : W.heap.size = P) : (W.alloc (.cells #[.int .i64 0, .int .i64 0, .slice none 0 0] 35)).cell? ⟨P, 2, none⟩ = some (.slice none 0 0) := by subst h; go_simp
theorem znf2 (W : World) (P : Nat) (h : W.heap.size = P) : (W.alloc (.cells #[.int .i64 0, .int .i64 0, .slice none 0 0] 35)).frozen? ⟨P, 2, none⟩ = false := by subst h; go_simp
theorem zb2 (W : World) (P : Nat) (h : W.heap.size = P) (r : Array Value) (T : TypeId) : ((W.alloc (.cells #[.int .i64 0, .int .i64 0, .slice none 0 0] 35)).alloc (.cells r T)).cell? ⟨P, 2, none⟩ = some (.slice none 0 0) := ca (zn2 W P h) _
theorem zbf2 (W : World) (P : Nat) (h : W.heap.size = P) (r : Array Value) (T : TypeId) : ((W.alloc (.cells #[.int .i64 0, .int .i64 0, .slice none 0 0] 35)).alloc (.cells r T)).frozen? ⟨P, 2, none⟩ = false := by subst h; go_simp
theorem zc2 (W : World) (P : Nat) (h : W.heap.size = P) (r : Array Value) (T : TypeId) : ((W.alloc (.cells r T)).alloc (.cells #[.int .i64 0, .int .i64 0, .slice none 0 0] 35)).cell? ⟨P + 1, 2, none⟩ = some (.slice none 0 0) := zn2 _ _ (by simp [h])
theorem zcf2 (W : World) (P : Nat) (h : W.heap.size = P) (r : Array Value) (T : TypeId) : ((W.alloc (.cells r T)).alloc (.cells #[.int .i64 0, .int .i64 0, .slice none 0 0] 35)).frozen? ⟨P + 1, 2, none⟩ = false := znf2 _ _ (by simp [h])
theorem go_ne {gb go : Option Addr} {B S PZ : Nat} (hg : ∀ b o, gb = some (⟨b, o, none⟩ : Addr) → b < B) (hfr : go = gb ∨ ∃ b, go = some ⟨b, 0, none⟩ ∧ S ≤ b) (hlt : PZ < S) (hP : B ≤ PZ) : ∀ b o, go = some (⟨b, o, none⟩ : Addr) → b ≠ PZ := by
  intro b o h
  rcases hfr with rfl | ⟨b', h', hb'⟩
  · have := hg b o h; omega
  · rw [h'] at h
    simp only [Option.some.injEq, Addr.mk.injEq] at h
    omega
theorem close_set {V vp : World} {PZ sz wy co : Nat} {go : Option Addr} {bs : List Bool} {u0 u1 u2 : Value} (hbo : BoolsAt vp go sz co bs) (h0 : vp.cell? ⟨PZ, 0, none⟩ = some u0) (h1 : vp.cell? ⟨PZ, 1, none⟩ = some u1) (h2 : vp.cell? ⟨PZ, 2, none⟩ = some u2)
    (hne : ∀ b o, go = some (⟨b, o, none⟩ : Addr) → b ≠ PZ) (hbq : Below V.heap.size V vp) (hP : V.heap.size ≤ PZ) :
    let W := ((vp.setCell ⟨PZ, 0, none⟩ (.int .i64 (sz : Nat))).setCell ⟨PZ, 1, none⟩ (.int .i64 (wy : Nat))).setCell ⟨PZ, 2, none⟩ (.slice go sz co)
    W.cell? ⟨PZ, 0, none⟩ = some (.int .i64 (sz : Nat)) ∧ W.cell? ⟨PZ, 1, none⟩ = some (.int .i64 (wy : Nat)) ∧ W.cell? ⟨PZ, 2, none⟩ = some (.slice go sz co) ∧ BoolsAt W go sz co bs ∧ Below V.heap.size V W :=
  ⟨by go_simp, by go_simp, by go_simp, ((hbo.setCell PZ 0 _ hne).setCell PZ 1 _ hne).setCell PZ 2 _ hne, ((hbq.setCell (p := ⟨PZ, 0, none⟩) hP _).setCell (p := ⟨PZ, 1, none⟩) hP _).setCell (p := ⟨PZ, 2, none⟩) hP _⟩
theorem close_new {V vp : World} {sz wy co : Nat} {go : Option Addr} {bs : List Bool} (hbo : BoolsAt vp go sz co bs) (hbq : Below V.heap.size V vp) :
    let W := vp.alloc (.cells #[.int .i64 (sz : Nat), .int .i64 (wy : Nat), .slice go sz co] 35)
    W.cell? ⟨vp.heap.size, 0, none⟩ = some (.int .i64 (sz : Nat)) ∧ W.cell? ⟨vp.heap.size, 1, none⟩ = some (.int .i64 (wy : Nat)) ∧ W.cell? ⟨vp.heap.size, 2, none⟩ = some (.slice go sz co) ∧ BoolsAt W go sz co bs ∧ Below V.heap.size V W :=
  ⟨by go_simp, by go_simp, by go_simp, hbo.alloc _, bal hbq _⟩
theorem isA {V vj : World} {r : Array Value} {T : TypeId} (h : Below (V.alloc (.cells r T)).heap.size (V.alloc (.cells r T)) vj) : True := trivial
theorem eB (V : World) (o : Obj) : V.heap.size + 1 = (V.drew.alloc o).heap.size := by simp
theorem lt_cell {W : World} {P i : Nat} {v : Value} (h : W.cell? ⟨P, i, none⟩ = some v) : P < W.heap.size := lt_of_cell h
theorem ne_cell {W : World} {P i : Nat} {v : Value} (h : W.cell? ⟨P, i, none⟩ = some v) : ¬ P = W.heap.size ∧ ¬ W.heap.size = P ∧ ¬ P = W.heap.size + 1 ∧ ¬ W.heap.size + 1 = P := by
  have h1 : P < W.heap.size := lt_of_cell h
  omega
theorem hA (V : World) (r : Obj) : Below (V.drew.alloc r).heap.size (V.drew.alloc r) (V.alloc r).drew := Below.refl _ _
theorem hB (V : World) (o r : Obj) : Below ((V.drew.alloc o).alloc r).heap.size ((V.drew.alloc o).alloc r) ((V.alloc o).alloc r).drew := Below.refl _ _
theorem hC (V : World) (r o : Obj) : Below (V.drew.alloc r).heap.size (V.drew.alloc r) ((V.alloc r).alloc o).drew := (Below.refl _ _).alloc (Nat.le_refl _) o
theorem z_carry {P j : Nat} {v : Value} {W W' : World} (hc : W.cell? ⟨P, j, none⟩ = some v) (hf : W.frozen? ⟨P, j, none⟩ = false) (hb : Below W.heap.size W W') : W'.cell? ⟨P, j, none⟩ = some v ∧ W'.frozen? ⟨P, j, none⟩ = false :=
  ⟨ck hb hc, (hb.frozen (p := ⟨P, j, none⟩) (lt_of_cell hc)).trans hf⟩
set_option linter.unusedVariables false
set_option maxHeartbeats 40000000 in
theorem core (sz wy : Nat) (hs1 : 1 ≤ sz) (F : List Int → List Bool) (a0 a1 : Int) (a2 : Option Addr) (len2 cap2 : Nat) (z2 : List Int) (a3 : Option Addr) (len3 cap3 : Nat) (z3 : List Int) (w : World)
    (w2 : IntsAt w a2 len2 cap2 z2) (w3 : IntsAt w a3 len3 cap3 z3)
    (hL : ∀ b W, BoolsAt W (some ⟨b, 0, none⟩) 1 1 [false] → Calls Try.prog 23 #[.agg #[.int .i64 1, .int .i64 1, .slice (some ⟨b, 0, none⟩) 1 1], .int .i64 5] W fun e w' => ∃ g cv, e = .returned (.tuple #[.agg #[.int .i64 1, .int .i64 1, .slice (some ⟨g, 0, none⟩) 1 cv], .int .i64 0]) ∧ BoolsAt w' (some ⟨g, 0, none⟩) 1 cv [true] ∧ Below W.heap.size W w')
    (hE : ∀ W, Calls Try.prog 22 #[.int .i64 a0, .int .i64 a1] W fun e w' => ∃ g, e = .returned (.agg #[.int .i64 (sz : Nat), .int .i64 (wy : Nat), .slice (some ⟨g, 0, none⟩) sz sz]) ∧ BoolsAt w' (some ⟨g, 0, none⟩) sz sz (F []) ∧ Below W.heap.size W w')
    (hB : ∀ a c al n cl x y W, BoolsAt W a sz c (F x) → IntsAt W al n cl y → n ≤ 100 → Calls Try.prog 21 #[.agg #[.int .i64 (sz : Nat), .int .i64 (wy : Nat), .slice a sz c], .slice al n cl] W fun e w' => ∃ g cv, e = .returned (.tuple #[.agg #[.int .i64 (sz : Nat), .int .i64 (wy : Nat), .slice g sz cv], .bool true]) ∧ BoolsAt w' g sz cv (F (x ++ y)) ∧ Below W.heap.size W w' ∧ (g = a ∨ ∃ b, g = some ⟨b, 0, none⟩ ∧ W.heap.size ≤ b))
    (hJ : ∀ a c a' c' x y W, BoolsAt W a sz c (F x) → BoolsAt W a' sz c' (F y) → Calls Try.prog 26 #[.agg #[.int .i64 (sz : Nat), .int .i64 (wy : Nat), .slice a sz c], .agg #[.int .i64 (sz : Nat), .int .i64 (wy : Nat), .slice a' sz c']] W fun e w' => ∃ g cv, e = .returned (.tuple #[.agg #[.int .i64 (sz : Nat), .int .i64 (wy : Nat), .slice (some ⟨g, 0, none⟩) sz cv], .int .i64 0]) ∧ BoolsAt w' (some ⟨g, 0, none⟩) sz cv (F (x ++ y)) ∧ Below W.heap.size W w')
    (hS : ∀ a c a' c' x y W, F x = F y → BoolsAt W a sz c (F x) → BoolsAt W a' sz c' (F y) → Calls Try.prog 36 #[.agg #[.int .i64 (sz : Nat), .int .i64 (wy : Nat), .slice a sz c], .agg #[.int .i64 (sz : Nat), .int .i64 (wy : Nat), .slice a' sz c']] W fun e w' => e = .returned (.bool true) ∧ Below W.heap.size W w')
    (e1 : ∀ l m, F (m ++ l) = F (l ++ m)) (e2 : ∀ x, F (x ++ x) = F x) (e3 : ∀ l m, F (m ++ (l ++ l)) = F (l ++ m)) :
    Calls Try.prog 9 #[.int .i64 a0, .int .i64 a1, .slice a2 len2 cap2, .slice a3 len3 cap3] w fun e w' => e = .returned (.bool true) ∧ Below w.heap.size w w' := by
  have m2 := w2.max
  have l2 := w2.le
  have m3 := w3.max
  have l3 := w3.le
  obtain ⟨M1, hM1⟩ : ∃ M : Nat, M = min len2 50 := ⟨_, rfl⟩
  obtain ⟨M2, hM2⟩ : ∃ M : Nat, M = min len3 50 := ⟨_, rfl⟩
  have b1 : M1 ≤ 50 ∧ M1 ≤ len2 := by omega
  have b2 : M2 ≤ 50 ∧ M2 ≤ len3 := by omega
  have hmin1 : min (len2 : Int) 50 = (M1 : Int) := by omega
  have hmin2 : min (len3 : Int) 50 = (M2 : Int) := by omega
  have L := hidp (w2.take M1 b1.2)
  have M := hidp (w3.take M2 b2.2)
  generalize z2.take M1 = l at *
  generalize z3.take M2 = m at *
  have CL := hidp hL
  have CE := hidp hE
  have CB := hidp hB
  have CJ := hidp hJ
  have CS := hidp hS
  have E1 := hidp e1
  have E2 := hidp e2
  have E3 := hidp e3
  clear hL hE hB hJ hS e1 e2 e3 w2 w3 hM1 hM2
  go_enter Try.func9, Try.ntmps9
  go_wp2_with fail
  refine (CL.out _ _ ?s0).mono ?_
  case s0 => exact bools_lit [false] (by simp) (by rfl) (by rfl) (by omega)
  rintro e wa ⟨g, cv, rfl, hbo, hba⟩
  have hwa : Below w.heap.size w (wa.alloc (.cells #[.int .i64 1, .int .i64 1, .slice (some ⟨g, 0, none⟩) 1 cv] 35)) := bal (bstep (bal (Below.refl _ _) _) hba) _
  have c2 : (wa.alloc (.cells #[.int .i64 1, .int .i64 1, .slice (some ⟨g, 0, none⟩) 1 cv] 35)).cell? ⟨wa.heap.size, 2, none⟩ = some (.slice (some ⟨g, 0, none⟩) 1 cv) := by go_simp
  have HBO := hidp ((hbo.alloc (.cells #[.int .i64 1, .int .i64 1, .slice (some ⟨g, 0, none⟩) 1 cv] 35)))
  clear hbo hba
  go_upto_region 2 with fail
  generalize (wa.alloc (.cells #[.int .i64 1, .int .i64 1, .slice (some ⟨g, 0, none⟩) 1 cv] 35)) = wb at *
  generalize wa.heap.size = PF at *
  go_wp2_with fail
  refine (equalb_c _ _ 1 1 _ _ [true] [true] _ (HBO.out.alloc _) ?s3).mono ?_
  case s3 => exact bools_lit [true] (by simp) (by rfl) (by rfl) (by omega)
  rintro e wc ⟨rfl, hbc⟩
  rw [decide_eq_true rfl]
  have hwc : Below w.heap.size w wc := bstep (bal hwa _) hbc
  clear hbc hwa c2 HBO
  go_wp2_with fail
  go_quiet (fail)
  have hw0 := below_drewN hwc nq
  generalize wc.drewN nq = v0 at *
  clear hwc
  go_wp2_with fail
  refine (CE.out _).mono ?_
  rintro e v1 ⟨ge, rfl, hbe, hb⟩
  have hw1 := bstep hw0 hb
  clear hw0
  have HE := hidp hbe
  clear hb hbe
  go_wp2_with fail
  refine (CB.out _ _ _ M1 _ [] l _ HE.out (L.out.below hw1) (by omega)).mono ?_
  rintro e v2 ⟨ga, ca, rfl, hbo, hb, -⟩
  have hw2 := bstep hw1 hb
  clear hw1
  rw [List.nil_append] at hbo
  clear HE
  have hx : Below v2.heap.size v2 (v2.alloc (.cells #[.int .i64 (sz : Nat), .int .i64 (wy : Nat), .slice ga sz ca] 35)) := bal (Below.refl _ _) _
  have fa0 : (v2.alloc (.cells #[.int .i64 (sz : Nat), .int .i64 (wy : Nat), .slice ga sz ca] 35)).cell? ⟨v2.heap.size, 0, none⟩ = some (.int .i64 (sz : Nat)) := by go_simp
  have fa1 : (v2.alloc (.cells #[.int .i64 (sz : Nat), .int .i64 (wy : Nat), .slice ga sz ca] 35)).cell? ⟨v2.heap.size, 1, none⟩ = some (.int .i64 (wy : Nat)) := by go_simp
  have fa2 : (v2.alloc (.cells #[.int .i64 (sz : Nat), .int .i64 (wy : Nat), .slice ga sz ca] 35)).cell? ⟨v2.heap.size, 2, none⟩ = some (.slice ga sz ca) := by go_simp
  have Hfa := hidp (hbo.alloc (.cells #[.int .i64 (sz : Nat), .int .i64 (wy : Nat), .slice ga sz ca] 35))
  have hw3 := bstep hw2 hx
  clear hx hbo hb hw2
  go_upto_region 6 with fail
  generalize (v2.alloc (.cells #[.int .i64 (sz : Nat), .int .i64 (wy : Nat), .slice ga sz ca] 35)) = v3 at *
  generalize v2.heap.size = Pfa at *
  go_wp2_with fail
  refine (CE.out _).mono ?_
  rintro e v4 ⟨ge, rfl, hbe, hb⟩
  replace fa0 := ck hb fa0
  replace fa1 := ck hb fa1
  replace fa2 := ck hb fa2
  replace Hfa := hidp (Hfa.out.below hb)
  have hw4 := bstep hw3 hb
  clear hw3
  have HE := hidp hbe
  clear hb hbe
  go_wp2_with fail
  refine (CB.out _ _ _ M2 _ [] m _ HE.out (M.out.below hw4) (by omega)).mono ?_
  rintro e v5 ⟨gb, cb, rfl, hbo, hb, -⟩
  replace fa0 := ck hb fa0
  replace fa1 := ck hb fa1
  replace fa2 := ck hb fa2
  replace Hfa := hidp (Hfa.out.below hb)
  have hw5 := bstep hw4 hb
  clear hw4
  rw [List.nil_append] at hbo
  clear HE
  have hx : Below v5.heap.size v5 (v5.alloc (.cells #[.int .i64 (sz : Nat), .int .i64 (wy : Nat), .slice gb sz cb] 35)) := bal (Below.refl _ _) _
  have fb0 : (v5.alloc (.cells #[.int .i64 (sz : Nat), .int .i64 (wy : Nat), .slice gb sz cb] 35)).cell? ⟨v5.heap.size, 0, none⟩ = some (.int .i64 (sz : Nat)) := by go_simp
  have fb1 : (v5.alloc (.cells #[.int .i64 (sz : Nat), .int .i64 (wy : Nat), .slice gb sz cb] 35)).cell? ⟨v5.heap.size, 1, none⟩ = some (.int .i64 (wy : Nat)) := by go_simp
  have fb2 : (v5.alloc (.cells #[.int .i64 (sz : Nat), .int .i64 (wy : Nat), .slice gb sz cb] 35)).cell? ⟨v5.heap.size, 2, none⟩ = some (.slice gb sz cb) := by go_simp
  have Hfb := hidp (hbo.alloc (.cells #[.int .i64 (sz : Nat), .int .i64 (wy : Nat), .slice gb sz cb] 35))
  replace fa0 := ck hx fa0
  replace fa1 := ck hx fa1
  replace fa2 := ck hx fa2
  replace Hfa := hidp (Hfa.out.below hx)
  have hw6 := bstep hw5 hx
  clear hx hbo hb hw5
  go_upto_region 7 with fail
  generalize (v5.alloc (.cells #[.int .i64 (sz : Nat), .int .i64 (wy : Nat), .slice gb sz cb] 35)) = v6 at *
  generalize v5.heap.size = Pfb at *
  go_wp2_with fail
  refine (CE.out _).mono ?_
  rintro e v7 ⟨ge, rfl, hbe, hb⟩
  replace fa0 := ck hb fa0
  replace fa1 := ck hb fa1
  replace fa2 := ck hb fa2
  replace Hfa := hidp (Hfa.out.below hb)
  replace fb0 := ck hb fb0
  replace fb1 := ck hb fb1
  replace fb2 := ck hb fb2
  replace Hfb := hidp (Hfb.out.below hb)
  have hw7 := bstep hw6 hb
  clear hw6
  have HE := hidp hbe
  clear hb hbe
  go_wp2_with fail
  refine (concat2_c a2 a3 M1 M2 cap2 cap3 l m v7 (L.out.below hw7) (M.out.below hw7) (by omega)).mono ?_
  rintro e v8 ⟨ja, jc, rfl, hj, hb⟩
  replace fa0 := ck hb fa0
  replace fa1 := ck hb fa1
  replace fa2 := ck hb fa2
  replace Hfa := hidp (Hfa.out.below hb)
  replace fb0 := ck hb fb0
  replace fb1 := ck hb fb1
  replace fb2 := ck hb fb2
  replace Hfb := hidp (Hfb.out.below hb)
  have HE := hidp (HE.out.below hb)
  have hw8 := bstep hw7 hb
  clear hw7 hb
  go_wp2_with fail
  refine (CB.out _ _ _ (M1 + M2) _ [] (l ++ m) _ HE.out hj (by omega)).mono ?_
  rintro e v9 ⟨gd, cd, rfl, hbo, hb, -⟩
  replace fa0 := ck hb fa0
  replace fa1 := ck hb fa1
  replace fa2 := ck hb fa2
  replace Hfa := hidp (Hfa.out.below hb)
  replace fb0 := ck hb fb0
  replace fb1 := ck hb fb1
  replace fb2 := ck hb fb2
  replace Hfb := hidp (Hfb.out.below hb)
  have hw9 := bstep hw8 hb
  clear hw8
  rw [List.nil_append] at hbo
  clear HE hj
  have hx : Below v9.heap.size v9 (v9.alloc (.cells #[.int .i64 (sz : Nat), .int .i64 (wy : Nat), .slice gd sz cd] 35)) := bal (Below.refl _ _) _
  have fd0 : (v9.alloc (.cells #[.int .i64 (sz : Nat), .int .i64 (wy : Nat), .slice gd sz cd] 35)).cell? ⟨v9.heap.size, 0, none⟩ = some (.int .i64 (sz : Nat)) := by go_simp
  have fd1 : (v9.alloc (.cells #[.int .i64 (sz : Nat), .int .i64 (wy : Nat), .slice gd sz cd] 35)).cell? ⟨v9.heap.size, 1, none⟩ = some (.int .i64 (wy : Nat)) := by go_simp
  have fd2 : (v9.alloc (.cells #[.int .i64 (sz : Nat), .int .i64 (wy : Nat), .slice gd sz cd] 35)).cell? ⟨v9.heap.size, 2, none⟩ = some (.slice gd sz cd) := by go_simp
  have Hfd := hidp (hbo.alloc (.cells #[.int .i64 (sz : Nat), .int .i64 (wy : Nat), .slice gd sz cd] 35))
  replace fa0 := ck hx fa0
  replace fa1 := ck hx fa1
  replace fa2 := ck hx fa2
  replace Hfa := hidp (Hfa.out.below hx)
  replace fb0 := ck hx fb0
  replace fb1 := ck hx fb1
  replace fb2 := ck hx fb2
  replace Hfb := hidp (Hfb.out.below hx)
  have hw10 := bstep hw9 hx
  clear hx hbo hb hw9
  go_upto_region 8 with fail
  generalize (v9.alloc (.cells #[.int .i64 (sz : Nat), .int .i64 (wy : Nat), .slice gd sz cd] 35)) = v10 at *
  generalize v9.heap.size = Pfd at *
  have hwL := hidp (L.out.below hw10.drew)
  have hwLZ := hidp ((L.out.below hw10.drew).alloc (.cells #[.int .i64 0, .int .i64 0, .slice none 0 0] 35))
  have HGB := hidp (show ∀ b o, gb = some (⟨b, o, none⟩ : Addr) → b < v10.heap.size from fun b o h => by
    obtain ⟨b', o', h1, h2, _⟩ := Hfb.out.cells (by omega)
    rw [h1] at h
    simp only [Option.some.injEq, Addr.mk.injEq] at h
    omega)
  obtain ⟨n1, n2, n3, n4⟩ := ne_cell fb0
  have n0 := lt_cell fb0
  go_cut [17, 18] (fun s17 s18 wx => ∃ (Pfo : Nat) (go : Option Addr) (co : Nat), s17 = .pointer (some ⟨Pfo, 0, none⟩) ∧ s18 = .bool true ∧ wx.cell? ⟨Pfo, 0, none⟩ = some (.int .i64 (sz : Nat)) ∧ wx.cell? ⟨Pfo, 1, none⟩ = some (.int .i64 (wy : Nat)) ∧ wx.cell? ⟨Pfo, 2, none⟩ = some (.slice go sz co) ∧ BoolsAt wx go sz co (F (m ++ (l ++ l))) ∧ Below v10.heap.size v10 wx)
  case first =>
    go_region_with (first
      | (go_at_call 35; go_loud (refine Calls.mono (concat2_g a2 a2 M1 M1 cap2 cap2 l l ?_ _ _ ?_ ?_ ?_ (by omega) ?_) ?_; rotate_left 4; (first | exact hB v10 _ _ | exact hA v10 _ | exact hC v10 _ _); rotate_left 1; (first | exact eB v10 _ | rfl); (first | exact hwL.out | exact hwLZ.out); (first | exact hwL.out | exact hwLZ.out); rintro e vj ⟨ja, jc, rfl, hj, hbd⟩; (first | have hbj := bstep (bal (Below.refl v10.heap.size v10).drew _) hbd | have hbj := bstep (bal (bal (Below.refl v10.heap.size v10).drew _) _) hbd); have q0 := ck hbj fb0; have q1 := ck hbj fb1; have q2 := ck hbj fb2; obtain ⟨n5, n6, n7, n8⟩ := ne_cell q0; have n9 := lt_cell q0))
      | (go_at_call 21; go_loud (refine Calls.mono (CB.out _ _ _ (M1 + M1) _ m (l ++ l) _ ?_ ?_ (by omega)) ?_; (first | exact Hfb.out.below hbj | exact (Hfb.out.below hbj).alloc _); (first | exact hj | exact hj.alloc _); rintro e vp ⟨go, co, rfl, hbo, hbp, hfr⟩; (first | have hbq := bstep hbj hbp | have hbq := bstep (bal hbj _) hbp); first | (have zy0 := z_carry (zc0 v10.drew v10.heap.size rfl _ _) (zcf0 v10.drew v10.heap.size rfl _ _) hbd; have zz0 := z_carry zy0.1 zy0.2 hbp; have zy1 := z_carry (zc1 v10.drew v10.heap.size rfl _ _) (zcf1 v10.drew v10.heap.size rfl _ _) hbd; have zz1 := z_carry zy1.1 zy1.2 hbp; have zy2 := z_carry (zc2 v10.drew v10.heap.size rfl _ _) (zcf2 v10.drew v10.heap.size rfl _ _) hbd; have zz2 := z_carry zy2.1 zy2.2 hbp; obtain ⟨zd0, ze0⟩ := zz0; obtain ⟨zd1, ze1⟩ := zz1; obtain ⟨zd2, ze2⟩ := zz2; have hgo := go_ne HGB.out hfr (lt_cell zy0.1) (Nat.le_succ _); have hcl := hidp (close_set (wy := wy) hbo zd0 zd1 zd2 hgo hbq (Nat.le_succ _))) | (have zy0 := z_carry (zb0 v10.drew v10.heap.size rfl _ _) (zbf0 v10.drew v10.heap.size rfl _ _) hbd; have zz0 := z_carry zy0.1 zy0.2 hbp; have zy1 := z_carry (zb1 v10.drew v10.heap.size rfl _ _) (zbf1 v10.drew v10.heap.size rfl _ _) hbd; have zz1 := z_carry zy1.1 zy1.2 hbp; have zy2 := z_carry (zb2 v10.drew v10.heap.size rfl _ _) (zbf2 v10.drew v10.heap.size rfl _ _) hbd; have zz2 := z_carry zy2.1 zy2.2 hbp; obtain ⟨zd0, ze0⟩ := zz0; obtain ⟨zd1, ze1⟩ := zz1; obtain ⟨zd2, ze2⟩ := zz2; have hgo := go_ne HGB.out hfr (lt_cell zy0.1) (Nat.le_refl _); have hcl := hidp (close_set (wy := wy) hbo zd0 zd1 zd2 hgo hbq (Nat.le_refl _))) | (have zz0 := z_carry (zn0 vj vj.heap.size rfl) (znf0 vj vj.heap.size rfl) hbp; have zz1 := z_carry (zn1 vj vj.heap.size rfl) (znf1 vj vj.heap.size rfl) hbp; have zz2 := z_carry (zn2 vj vj.heap.size rfl) (znf2 vj vj.heap.size rfl) hbp; obtain ⟨zd0, ze0⟩ := zz0; obtain ⟨zd1, ze1⟩ := zz1; obtain ⟨zd2, ze2⟩ := zz2; have hgo := go_ne HGB.out hfr (lt_cell (zn0 vj vj.heap.size rfl)) hbj.size; have hcl := hidp (close_set (wy := wy) hbo zd0 zd1 zd2 hgo hbq hbj.size)) | (have hcl := hidp (close_new (wy := wy) hbo hbq)))))
    all_goals go_wp2
    all_goals go_meet
    all_goals exact ⟨_, go, co, rfl, rfl, hcl.out.1, hcl.out.2.1, hcl.out.2.2.1, hcl.out.2.2.2.1, hcl.out.2.2.2.2⟩
  case rest =>
    obtain ⟨Pfo, go, co, rfl, rfl, fo0, fo1, fo2, hbo, hb⟩ := hcut
    replace fa0 := ck hb fa0
    replace fa1 := ck hb fa1
    replace fa2 := ck hb fa2
    replace Hfa := hidp (Hfa.out.below hb)
    replace fb0 := ck hb fb0
    replace fb1 := ck hb fb1
    replace fb2 := ck hb fb2
    replace Hfb := hidp (Hfb.out.below hb)
    replace fd0 := ck hb fd0
    replace fd1 := ck hb fd1
    replace fd2 := ck hb fd2
    replace Hfd := hidp (Hfd.out.below hb)
    have Hfo := hidp hbo
    have hw100 := bstep hw10 hb
    clear hb hbo hw10
    rw [E3.out] at Hfo
    go_wp2_with fail
    refine (CJ.out _ _ _ _ l m _ Hfa.out Hfb.out).mono ?_
    rintro e ufx ⟨gfx, cfx, rfl, hbo, hb⟩
    have hx : Below wc.heap.size wc (ufx.alloc (.cells #[.int .i64 (sz : Nat), .int .i64 (wy : Nat), .slice (some ⟨gfx, 0, none⟩) sz cfx] 35)) := bal hb _
    have fx0 : (ufx.alloc (.cells #[.int .i64 (sz : Nat), .int .i64 (wy : Nat), .slice (some ⟨gfx, 0, none⟩) sz cfx] 35)).cell? ⟨ufx.heap.size, 0, none⟩ = some (.int .i64 (sz : Nat)) := by go_simp
    have fx1 : (ufx.alloc (.cells #[.int .i64 (sz : Nat), .int .i64 (wy : Nat), .slice (some ⟨gfx, 0, none⟩) sz cfx] 35)).cell? ⟨ufx.heap.size, 1, none⟩ = some (.int .i64 (wy : Nat)) := by go_simp
    have fx2 : (ufx.alloc (.cells #[.int .i64 (sz : Nat), .int .i64 (wy : Nat), .slice (some ⟨gfx, 0, none⟩) sz cfx] 35)).cell? ⟨ufx.heap.size, 2, none⟩ = some (.slice (some ⟨gfx, 0, none⟩) sz cfx) := by go_simp
    have Hfx := hidp (hbo.alloc (.cells #[.int .i64 (sz : Nat), .int .i64 (wy : Nat), .slice (some ⟨gfx, 0, none⟩) sz cfx] 35))
    replace fa0 := ck hx fa0
    replace fa1 := ck hx fa1
    replace fa2 := ck hx fa2
    replace Hfa := hidp (Hfa.out.below hx)
    replace fb0 := ck hx fb0
    replace fb1 := ck hx fb1
    replace fb2 := ck hx fb2
    replace Hfb := hidp (Hfb.out.below hx)
    replace fd0 := ck hx fd0
    replace fd1 := ck hx fd1
    replace fd2 := ck hx fd2
    replace Hfd := hidp (Hfd.out.below hx)
    replace fo0 := ck hx fo0
    replace fo1 := ck hx fo1
    replace fo2 := ck hx fo2
    replace Hfo := hidp (Hfo.out.below hx)
    have hw101 := bstep hw100 hx
    clear hx hbo hb hw100
    go_upto_region 10 with fail
    generalize (ufx.alloc (.cells #[.int .i64 (sz : Nat), .int .i64 (wy : Nat), .slice (some ⟨gfx, 0, none⟩) sz cfx] 35)) = tfx at *
    generalize ufx.heap.size = Pfx at *
    go_wp2_with fail
    refine (CJ.out _ _ _ _ m l _ Hfb.out Hfa.out).mono ?_
    rintro e ufy ⟨gfy, cfy, rfl, hbo, hb⟩
    rw [E1.out] at hbo
    have hx : Below tfx.heap.size tfx (ufy.alloc (.cells #[.int .i64 (sz : Nat), .int .i64 (wy : Nat), .slice (some ⟨gfy, 0, none⟩) sz cfy] 35)) := bal hb _
    have fy0 : (ufy.alloc (.cells #[.int .i64 (sz : Nat), .int .i64 (wy : Nat), .slice (some ⟨gfy, 0, none⟩) sz cfy] 35)).cell? ⟨ufy.heap.size, 0, none⟩ = some (.int .i64 (sz : Nat)) := by go_simp
    have fy1 : (ufy.alloc (.cells #[.int .i64 (sz : Nat), .int .i64 (wy : Nat), .slice (some ⟨gfy, 0, none⟩) sz cfy] 35)).cell? ⟨ufy.heap.size, 1, none⟩ = some (.int .i64 (wy : Nat)) := by go_simp
    have fy2 : (ufy.alloc (.cells #[.int .i64 (sz : Nat), .int .i64 (wy : Nat), .slice (some ⟨gfy, 0, none⟩) sz cfy] 35)).cell? ⟨ufy.heap.size, 2, none⟩ = some (.slice (some ⟨gfy, 0, none⟩) sz cfy) := by go_simp
    have Hfy := hidp (hbo.alloc (.cells #[.int .i64 (sz : Nat), .int .i64 (wy : Nat), .slice (some ⟨gfy, 0, none⟩) sz cfy] 35))
    replace fa0 := ck hx fa0
    replace fa1 := ck hx fa1
    replace fa2 := ck hx fa2
    replace Hfa := hidp (Hfa.out.below hx)
    replace fb0 := ck hx fb0
    replace fb1 := ck hx fb1
    replace fb2 := ck hx fb2
    replace Hfb := hidp (Hfb.out.below hx)
    replace fd0 := ck hx fd0
    replace fd1 := ck hx fd1
    replace fd2 := ck hx fd2
    replace Hfd := hidp (Hfd.out.below hx)
    replace fo0 := ck hx fo0
    replace fo1 := ck hx fo1
    replace fo2 := ck hx fo2
    replace Hfo := hidp (Hfo.out.below hx)
    replace fx0 := ck hx fx0
    replace fx1 := ck hx fx1
    replace fx2 := ck hx fx2
    replace Hfx := hidp (Hfx.out.below hx)
    have hw102 := bstep hw101 hx
    clear hx hbo hb hw101
    go_upto_region 11 with fail
    generalize (ufy.alloc (.cells #[.int .i64 (sz : Nat), .int .i64 (wy : Nat), .slice (some ⟨gfy, 0, none⟩) sz cfy] 35)) = tfy at *
    generalize ufy.heap.size = Pfy at *
    go_wp2_with fail
    refine (CJ.out _ _ _ _ (l ++ m) (l ++ m) _ Hfx.out Hfx.out).mono ?_
    rintro e ufz ⟨gfz, cfz, rfl, hbo, hb⟩
    rw [E2.out] at hbo
    have hx : Below tfy.heap.size tfy (ufz.alloc (.cells #[.int .i64 (sz : Nat), .int .i64 (wy : Nat), .slice (some ⟨gfz, 0, none⟩) sz cfz] 35)) := bal hb _
    have fz0 : (ufz.alloc (.cells #[.int .i64 (sz : Nat), .int .i64 (wy : Nat), .slice (some ⟨gfz, 0, none⟩) sz cfz] 35)).cell? ⟨ufz.heap.size, 0, none⟩ = some (.int .i64 (sz : Nat)) := by go_simp
    have fz1 : (ufz.alloc (.cells #[.int .i64 (sz : Nat), .int .i64 (wy : Nat), .slice (some ⟨gfz, 0, none⟩) sz cfz] 35)).cell? ⟨ufz.heap.size, 1, none⟩ = some (.int .i64 (wy : Nat)) := by go_simp
    have fz2 : (ufz.alloc (.cells #[.int .i64 (sz : Nat), .int .i64 (wy : Nat), .slice (some ⟨gfz, 0, none⟩) sz cfz] 35)).cell? ⟨ufz.heap.size, 2, none⟩ = some (.slice (some ⟨gfz, 0, none⟩) sz cfz) := by go_simp
    have Hfz := hidp (hbo.alloc (.cells #[.int .i64 (sz : Nat), .int .i64 (wy : Nat), .slice (some ⟨gfz, 0, none⟩) sz cfz] 35))
    replace fa0 := ck hx fa0
    replace fa1 := ck hx fa1
    replace fa2 := ck hx fa2
    replace Hfa := hidp (Hfa.out.below hx)
    replace fb0 := ck hx fb0
    replace fb1 := ck hx fb1
    replace fb2 := ck hx fb2
    replace Hfb := hidp (Hfb.out.below hx)
    replace fd0 := ck hx fd0
    replace fd1 := ck hx fd1
    replace fd2 := ck hx fd2
    replace Hfd := hidp (Hfd.out.below hx)
    replace fo0 := ck hx fo0
    replace fo1 := ck hx fo1
    replace fo2 := ck hx fo2
    replace Hfo := hidp (Hfo.out.below hx)
    replace fx0 := ck hx fx0
    replace fx1 := ck hx fx1
    replace fx2 := ck hx fx2
    replace Hfx := hidp (Hfx.out.below hx)
    replace fy0 := ck hx fy0
    replace fy1 := ck hx fy1
    replace fy2 := ck hx fy2
    replace Hfy := hidp (Hfy.out.below hx)
    have hw103 := bstep hw102 hx
    clear hx hbo hb hw102
    go_upto_region 12 with fail
    generalize (ufz.alloc (.cells #[.int .i64 (sz : Nat), .int .i64 (wy : Nat), .slice (some ⟨gfz, 0, none⟩) sz cfz] 35)) = tfz at *
    generalize ufz.heap.size = Pfz at *
    go_wp2_with fail
    refine (CS.out _ _ _ _ (l ++ m) (l ++ m) _ rfl Hfx.out Hfd.out).mono ?_
    rintro e s0 ⟨rfl, hb⟩
    replace fa0 := ck hb fa0
    replace fa1 := ck hb fa1
    replace fa2 := ck hb fa2
    replace Hfa := hidp (Hfa.out.below hb)
    replace fb0 := ck hb fb0
    replace fb1 := ck hb fb1
    replace fb2 := ck hb fb2
    replace Hfb := hidp (Hfb.out.below hb)
    replace fd0 := ck hb fd0
    replace fd1 := ck hb fd1
    replace fd2 := ck hb fd2
    replace Hfd := hidp (Hfd.out.below hb)
    replace fo0 := ck hb fo0
    replace fo1 := ck hb fo1
    replace fo2 := ck hb fo2
    replace Hfo := hidp (Hfo.out.below hb)
    replace fx0 := ck hb fx0
    replace fx1 := ck hb fx1
    replace fx2 := ck hb fx2
    replace Hfx := hidp (Hfx.out.below hb)
    replace fy0 := ck hb fy0
    replace fy1 := ck hb fy1
    replace fy2 := ck hb fy2
    replace Hfy := hidp (Hfy.out.below hb)
    replace fz0 := ck hb fz0
    replace fz1 := ck hb fz1
    replace fz2 := ck hb fz2
    replace Hfz := hidp (Hfz.out.below hb)
    have hw104 := bstep hw103 hb
    clear hb hw103
    go_wp2_with fail
    refine (CS.out _ _ _ _ (l ++ m) (l ++ m) _ rfl Hfy.out Hfd.out).mono ?_
    rintro e s1 ⟨rfl, hb⟩
    replace fa0 := ck hb fa0
    replace fa1 := ck hb fa1
    replace fa2 := ck hb fa2
    replace Hfa := hidp (Hfa.out.below hb)
    replace fb0 := ck hb fb0
    replace fb1 := ck hb fb1
    replace fb2 := ck hb fb2
    replace Hfb := hidp (Hfb.out.below hb)
    replace fd0 := ck hb fd0
    replace fd1 := ck hb fd1
    replace fd2 := ck hb fd2
    replace Hfd := hidp (Hfd.out.below hb)
    replace fo0 := ck hb fo0
    replace fo1 := ck hb fo1
    replace fo2 := ck hb fo2
    replace Hfo := hidp (Hfo.out.below hb)
    replace fx0 := ck hb fx0
    replace fx1 := ck hb fx1
    replace fx2 := ck hb fx2
    replace Hfx := hidp (Hfx.out.below hb)
    replace fy0 := ck hb fy0
    replace fy1 := ck hb fy1
    replace fy2 := ck hb fy2
    replace Hfy := hidp (Hfy.out.below hb)
    replace fz0 := ck hb fz0
    replace fz1 := ck hb fz1
    replace fz2 := ck hb fz2
    replace Hfz := hidp (Hfz.out.below hb)
    have hw105 := bstep hw104 hb
    clear hb hw104
    go_wp2_with fail
    refine (CS.out _ _ _ _ (l ++ m) (l ++ m) _ rfl Hfz.out Hfd.out).mono ?_
    rintro e s2 ⟨rfl, hb⟩
    replace fa0 := ck hb fa0
    replace fa1 := ck hb fa1
    replace fa2 := ck hb fa2
    replace Hfa := hidp (Hfa.out.below hb)
    replace fb0 := ck hb fb0
    replace fb1 := ck hb fb1
    replace fb2 := ck hb fb2
    replace Hfb := hidp (Hfb.out.below hb)
    replace fd0 := ck hb fd0
    replace fd1 := ck hb fd1
    replace fd2 := ck hb fd2
    replace Hfd := hidp (Hfd.out.below hb)
    replace fo0 := ck hb fo0
    replace fo1 := ck hb fo1
    replace fo2 := ck hb fo2
    replace Hfo := hidp (Hfo.out.below hb)
    replace fx0 := ck hb fx0
    replace fx1 := ck hb fx1
    replace fx2 := ck hb fx2
    replace Hfx := hidp (Hfx.out.below hb)
    replace fy0 := ck hb fy0
    replace fy1 := ck hb fy1
    replace fy2 := ck hb fy2
    replace Hfy := hidp (Hfy.out.below hb)
    replace fz0 := ck hb fz0
    replace fz1 := ck hb fz1
    replace fz2 := ck hb fz2
    replace Hfz := hidp (Hfz.out.below hb)
    have hw106 := bstep hw105 hb
    clear hb hw105
    go_wp2_with fail
    refine (CS.out _ _ _ _ (l ++ m) (l ++ m) _ rfl Hfo.out Hfd.out).mono ?_
    rintro e s3 ⟨rfl, hb⟩
    replace fa0 := ck hb fa0
    replace fa1 := ck hb fa1
    replace fa2 := ck hb fa2
    replace Hfa := hidp (Hfa.out.below hb)
    replace fb0 := ck hb fb0
    replace fb1 := ck hb fb1
    replace fb2 := ck hb fb2
    replace Hfb := hidp (Hfb.out.below hb)
    replace fd0 := ck hb fd0
    replace fd1 := ck hb fd1
    replace fd2 := ck hb fd2
    replace Hfd := hidp (Hfd.out.below hb)
    replace fo0 := ck hb fo0
    replace fo1 := ck hb fo1
    replace fo2 := ck hb fo2
    replace Hfo := hidp (Hfo.out.below hb)
    replace fx0 := ck hb fx0
    replace fx1 := ck hb fx1
    replace fx2 := ck hb fx2
    replace Hfx := hidp (Hfx.out.below hb)
    replace fy0 := ck hb fy0
    replace fy1 := ck hb fy1
    replace fy2 := ck hb fy2
    replace Hfy := hidp (Hfy.out.below hb)
    replace fz0 := ck hb fz0
    replace fz1 := ck hb fz1
    replace fz2 := ck hb fz2
    replace Hfz := hidp (Hfz.out.below hb)
    have hw107 := bstep hw106 hb
    clear hb hw106
    go_wp2_with fail
    go_ret
    exact ⟨rfl, hw107⟩
/-- The bits that a list of keys makes. -/
def FF (H : Int → Nat → Bool) (sz : Nat) (l : List Int) : List Bool := tab (fun j => l.any (fun k => H k j)) sz
theorem FF_swap (H : Int → Nat → Bool) (sz : Nat) (l m : List Int) : FF H sz (m ++ l) = FF H sz (l ++ m) := tab_congr _ _ _ (fun j _ => by rw [List.any_append, List.any_append, Bool.or_comm])
theorem FF_twice (H : Int → Nat → Bool) (sz : Nat) (x : List Int) : FF H sz (x ++ x) = FF H sz x := tab_congr _ _ _ (fun j _ => by rw [List.any_append, Bool.or_self])
theorem FF_three (H : Int → Nat → Bool) (sz : Nat) (l m : List Int) : FF H sz (m ++ (l ++ l)) = FF H sz (l ++ m) := tab_congr _ _ _ (fun j _ => by rw [List.any_append, List.any_append, List.any_append, Bool.or_self, Bool.or_comm])
theorem FF_join (H : Int → Nat → Bool) (sz : Nat) (x y : List Int) : tab (fun j => gb (FF H sz x) j || gb (FF H sz y) j) sz = FF H sz (x ++ y) := tab_congr _ _ _ (fun j hj => by
  unfold FF
  rw [tab_gb _ _ _ hj, tab_gb _ _ _ hj, List.any_append])
theorem pf_any (sz wy : Nat) (f : Nat → Bool) (xs : List Int) (j : Nat) : ∀ k, k ≤ xs.length → pf sz wy f xs k j = (f j || (xs.take k).any (fun x => hitP (plc sz x) wy j))
  | 0, _ => by simp [pf]
  | k + 1, h => by
    have e : xs.take (k + 1) = xs.take k ++ [gi xs k] := by
      rw [List.take_add_one, gi_get xs k (by omega)]; rfl
    simp only [pf]
    rw [pf_any sz wy f xs j k (by omega), e, List.any_append, Bool.or_assoc]
    simp
theorem FF_put (sz wy : Nat) (x y : List Int) (n : Nat) (hn : y.length = n) (h : n ≤ 100) : tab (pf sz wy (gb (FF (fun k j => hitP (plc sz k) wy j) sz x)) y (min n 100)) sz = FF (fun k j => hitP (plc sz k) wy j) sz (x ++ y) := tab_congr _ _ _ (fun j hj => by
  rw [pf_any _ _ _ _ _ _ (by omega), show min n 100 = n by omega, ← hn, List.take_length]
  unfold FF
  rw [tab_gb _ _ _ hj, List.any_append])
theorem lit_put : tab (fun j => gb [false] j || hitP (plc 1 5) 1 j) 1 = [true] := by
  have h : hitP (plc 1 5) 1 0 = true := (hit_iff _ _ _).2 ⟨0, by omega, by have := plc_lt 1 5 0 (by omega); omega⟩
  unfold tab
  simp [List.range_succ, h]
set_option linter.unusedVariables false
theorem walk (a0 : Int) (a1 : Int) (a2 : Option Addr) (len2 cap2 : Nat) (z2 : List Int) (a3 : Option Addr) (len3 cap3 : Nat) (z3 : List Int) (w : World)
    (w0 : (Lit.int .i64 a0).wf = true) (w1 : (Lit.int .i64 a1).wf = true) (w2 : IntsAt w a2 len2 cap2 z2) (w3 : IntsAt w a3 len3 cap3 z3) :
    Calls Try.prog 9 #[.int .i64 a0, .int .i64 a1, .slice a2 len2 cap2, .slice a3 len3 cap3] w fun e w' => e = .returned (.bool true) ∧ Below w.heap.size w w' := by
  obtain ⟨s1, s2⟩ := esz_bd a0
  obtain ⟨y1, y2⟩ := ewy_bd a1
  refine core (esz a0) (ewy a1) s1 (FF (fun k j => hitP (plc (esz a0) k) (ewy a1) j) (esz a0)) a0 a1 a2 len2 cap2 z2 a3 len3 cap3 z3 w w2 w3 ?_ ?_ ?_ ?_ ?_ (FF_swap _ _) (FF_twice _ _) (FF_three _ _)
  · intro b W h
    refine (bput_c 1 1 _ 1 [false] 5 W h (by omega) (by omega) (by omega) (by omega)).mono ?_
    rintro e w' ⟨g, cv, rfl, hv, hb⟩
    rw [lit_put] at hv
    obtain ⟨_, _, hve, hbo⟩ := owns_bools hv
    simp only [Value.slice.injEq] at hve
    obtain ⟨rfl, _, rfl⟩ := hve
    exact ⟨g, cv, rfl, hbo, hb⟩
  · intro W
    refine (empty_c a0 a1 W).mono ?_
    rintro e w' ⟨g, rfl, hv, hb⟩
    obtain ⟨_, _, hve, hbo⟩ := owns_bools hv
    simp only [Value.slice.injEq] at hve
    obtain ⟨rfl, _, rfl⟩ := hve
    exact ⟨g, rfl, hbo, hb⟩
  · intro a c al n cl x y W h hx hn
    refine (bputl_c (esz a0) (ewy a1) a c _ al n cl y W h hx s1 s2 y1 y2).mono ?_
    rintro e w' ⟨g, cv, rfl, hbo, hb, hfr⟩
    rw [FF_put _ _ x y n hx.len hn] at hbo
    exact ⟨g, cv, rfl, hbo, hb, hfr⟩
  · intro a c a' c' x y W h h'
    refine (bjoin_c (esz a0) (ewy a1) a a' c c' _ _ W h h' s1 s2 y1 y2).mono ?_
    rintro e w' ⟨g, cv, rfl, hv, hb⟩
    rw [FF_join] at hv
    obtain ⟨_, _, hve, hbo⟩ := owns_bools hv
    simp only [Value.slice.injEq] at hve
    obtain ⟨rfl, _, rfl⟩ := hve
    exact ⟨g, cv, rfl, hbo, hb⟩
  · intro a c a' c' x y W he h h'
    rw [← he] at h'
    exact samef_c (esz a0) (ewy a1) a a' c c' _ W h h'
end Go.Proofs.Ytpghnbpoodcglaa.bloomJoins
