/- The walk of EstSpreads: the law returns true at all inputs, and no old memory changes. -/
import Derived.Test.YtboacbimmggleaaSprDo
import Derived.Test.YtboacbimmggleaaWorth
namespace Go.Proofs.Ytboacbimmggleaa.estSpreads
open Go.ChangeShapes Go.WideShapes Go.ChangeAt Go.RowKit
open Go.Proofs.Ytboacbimmggleaa OdoMath

theorem ex1 : sprS [3, 2] [1, 2] 2 = 21 := by decide +kernel
def eights (n : Nat) : List Int := tab (fun _ => 8) n
theorem prd_eights (n : Nat) : ∀ j, j ≤ n → prd (bn (eights n)) j = 8 ^ j
  | 0, _ => rfl
  | j + 1, h => by
    simp only [prd]
    rw [prd_eights n j (by omega), Nat.pow_succ]
    congr 1
    unfold bn eights
    rw [tab_gi _ _ _ (by omega)]; rfl
theorem way_eights (n t : Nat) : way (eights n) n t = tab (fun j => (d8 t j : Int)) n := by
  unfold way
  refine tab_congr _ _ _ (fun j hj => ?_)
  unfold dgt d8
  rw [qv_div, prd_eights n j (by omega)]
  congr 2
  unfold bn eights
  rw [tab_gi _ _ _ hj]; rfl
theorem way_bd (n t j : Nat) (h : j < n) : 0 ≤ gi (way (eights n) n t) j ∧ gi (way (eights n) n t) j ≤ 7 := by
  rw [way_eights, tab_gi _ _ _ h]
  unfold d8
  omega
def farT (vs ls : List Int) (n : Nat) (R : Int) (t : Nat) : Int := sumT (fun s => sqr vs ls (way (eights n) n s) n R) t
theorem sqr_bd (vs ls ws : List Int) (n : Nat) (R : Int) (hn : n ≤ 3) (bv : ∀ i, i < n → -1000 ≤ gi vs i ∧ gi vs i ≤ 1000) (bl : ∀ i, i < n → 0 ≤ gi ls i ∧ gi ls i ≤ 3) (hR : -4000 ≤ R ∧ R ≤ 4000) : 0 ≤ sqr vs ls ws n R ∧ sqr vs ls ws n R ≤ 784000000 := by
  have eb := estS_bd3 1000 vs ls (drawsOf ws n) n (fun i hi => by have := bv i hi; have := bl i hi; omega)
  exact sq_le _ 28000 (by omega) (by omega)
theorem far_all (vs ls : List Int) (n : Nat) (bl : ∀ i, i < n → 0 ≤ gi ls i ∧ gi ls i ≤ 3) : farT vs ls n (sumK vs n) (8 ^ n) = ((8 ^ n : Nat) : Int) * sprS vs ls n := by
  rw [← (dev_sum vs ls n bl).2]
  unfold farT
  refine sumT_congr (fun t _ => ?_)
  unfold sqr
  rw [way_eights, estS_dev vs ls n t n (Nat.le_refl _)]
theorem ints_far {w : World} {a : Option Addr} {n c : Nat} {xs : List Int} (h : IntsAt w a n c xs) : xs ≠ [] → ∀ b o, a = some ⟨b, o, none⟩ → b < w.heap.size := by
  intro hx b o ha
  obtain ⟨b', o', ha', hb, _⟩ := h.cells (fun e => hx (List.map_eq_nil_iff.1 e))
  rw [ha] at ha'
  simp only [Option.some.injEq, Addr.mk.injEq] at ha'
  omega
theorem ints_set {w : World} {a : Option Addr} {n c : Nat} {xs : List Int} (h : IntsAt w a n c xs) (p : Addr) (hne : xs ≠ [] → ∀ b o, a = some ⟨b, o, none⟩ → b ≠ p.block) (u : Value) : IntsAt (w.setCell p u) a n c xs := by
  refine ⟨h.len, h.le, h.max, fun hx => ?_, h.bd⟩
  obtain ⟨b, off, ha, hb, hc⟩ := h.cells hx
  refine ⟨b, off, ha, by simpa using hb, fun i v hi => ?_⟩
  rw [World.cell?_setCell_far _ _ _ _ (fun e => hne (fun e2 => hx (by rw [e2]; rfl)) b off ha e.symm)]
  exact hc i v hi

/-- What holds behind t ways. -/
structure Inv (w0 : World) (B : Nat) (av al ab : Option Addr) (n cv cl cb : Nat) (vs ls : List Int) (R : Int) (p7 p8 p11 p12 : Nat) (t : Nat) (W : World) : Prop where
  c7 : W.cell? ⟨p7, 0, none⟩ = some (.slice av n cv)
  c8 : W.cell? ⟨p8, 0, none⟩ = some (.slice al n cl)
  c11 : W.cell? ⟨p11, 0, none⟩ = some (.int .i64 R)
  c12 : W.cell? ⟨p12, 0, none⟩ = some (.int .i64 (farT vs ls n R t))
  f12 : W.frozen? ⟨p12, 0, none⟩ = false
  iv : IntsAt W av n cv vs
  il : IntsAt W al n cl ls
  ib : IntsAt W ab n cb (eights n)
  bel : Below w0.heap.size w0 W
theorem Inv.set {w0 : World} {B : Nat} {av al ab : Option Addr} {n cv cl cb : Nat} {vs ls : List Int} {R : Int} {p7 p8 p11 p12 t : Nat} {W : World} (h : Inv w0 B av al ab n cv cl cb vs ls R p7 p8 p11 p12 t W)
    (h7 : p7 < B) (h8 : p8 < B) (h11 : p11 < B) (h12 : p12 < B) (hv : vs ≠ [] → ∀ b o, av = some ⟨b, o, none⟩ → b < B) (hl : ls ≠ [] → ∀ b o, al = some ⟨b, o, none⟩ → b < B) (hb : eights n ≠ [] → ∀ b o, ab = some ⟨b, o, none⟩ → b < B)
    (hB : w0.heap.size ≤ B) (i : Nat) (v : Value) : Inv w0 B av al ab n cv cl cb vs ls R p7 p8 p11 p12 t (W.setCell ⟨B, i, none⟩ v) := by
  have far : ∀ (p : Nat) (x : Value), p < B → W.cell? ⟨p, 0, none⟩ = some x → (W.setCell ⟨B, i, none⟩ v).cell? ⟨p, 0, none⟩ = some x := fun p x hp hx => by
    rw [World.cell?_setCell_far _ _ _ _ (by show B ≠ p; omega)]; exact hx
  exact ⟨far _ _ h7 h.c7, far _ _ h8 h.c8, far _ _ h11 h.c11, far _ _ h12 h.c12, by simpa using h.f12, ints_set h.iv _ (fun e b o ha => Nat.ne_of_lt (hv e b o ha)) v, ints_set h.il _ (fun e b o ha => Nat.ne_of_lt (hl e b o ha)) v, ints_set h.ib _ (fun e b o ha => Nat.ne_of_lt (hb e b o ha)) v, h.bel.setCell (p := ⟨B, i, none⟩) hB v⟩
theorem Inv.below {w0 : World} {B : Nat} {av al ab : Option Addr} {n cv cl cb : Nat} {vs ls : List Int} {R : Int} {p7 p8 p11 p12 t : Nat} {W W' : World} (h : Inv w0 B av al ab n cv cl cb vs ls R p7 p8 p11 p12 t W) (hb : Below W.heap.size W W') : Inv w0 B av al ab n cv cl cb vs ls R p7 p8 p11 p12 t W' :=
  ⟨ck hb h.c7, ck hb h.c8, ck hb h.c11, ck hb h.c12, (hb.frozen (lt_of_cell h.c12)).trans h.f12, h.iv.below hb, h.il.below hb, h.ib.below hb, bstep h.bel hb⟩

set_option linter.unusedVariables false
set_option maxRecDepth 100000 in
set_option maxHeartbeats 4000000 in
theorem walk (a0 : Option Addr) (len0 cap0 : Nat) (z0 : List Int) (a1 : Option Addr) (len1 cap1 : Nat) (z1 : List Int) (w : World)
    (w0 : IntsAt w a0 len0 cap0 z0) (w1 : IntsAt w a1 len1 cap1 z1) :
    Calls Try.prog 12 #[.slice a0 len0 cap0, .slice a1 len1 cap1] w fun e w' => e = .returned (.bool true) ∧ Below w.heap.size w w' := by
  obtain ⟨ib, hib, hz0, hz1, hz2⟩ := info_parts info_int
  go_enter Try.func12, Try.ntmps12
  go_wp2_with fail
  refine (spread_c _ _ 2 2 2 [3, 2] [1, 2] _ ?s0 ?s1 (by omega) ?s2 ?s3).mono ?_
  case s0 => exact (ints_lit [3, 2] (by simp) (by rfl) (by rfl) (by simp) (by omega)).alloc _
  case s1 => exact ints_lit [1, 2] (by simp) (by rfl) (by rfl) (by simp) (by omega)
  case s2 => intro i hi; match i, hi with | 0, _ => decide | 1, _ => decide
  case s3 => intro i hi; match i, hi with | 0, _ => decide | 1, _ => decide
  rintro e wa ⟨rfl, rfl⟩
  rw [ex1]
  go_wp2_with fail
  refine (worth_i a0 a1 len0 cap0 len1 cap1 z0 z1 3 3 _ ?f0 ?f1 (by omega) (by omega) (by omega)).mono ?_
  case f0 => exact (w0.alloc _).alloc _
  case f1 => exact (w1.alloc _).alloc _
  rintro e wb ⟨av, al, cv, cl, rfl, hav, hal, hbb⟩
  have hwb : Below w.heap.size w wb := (((Below.refl _ _).alloc (Nat.le_refl _) _).alloc (by simp) _).trans (hbb.mono (by simp; omega))
  have hN : min len0 3 ≤ 3 := by omega
  generalize min len0 3 = N at *
  clear hbb w0 w1
  have D1 : ∀ i, i < N → -1000 ≤ gi (wv z0 N) i ∧ gi (wv z0 N) i ≤ 1000 := fun i hi => by
    rw [show gi (wv z0 N) i = wvf z0 i from tab_gi _ _ _ hi]; have := wvf_bd z0 i; omega
  have D2 : ∀ i, i < N → 0 ≤ gi (wl' z1 3 N) i ∧ gi (wl' z1 3 N) i ≤ 3 := fun i hi => by
    rw [show gi (wl' z1 3 N) i = wlf z1 3 i from tab_gi _ _ _ hi]; have := wlf_bd z1 3 (by omega) i; omega
  have SB := fun k (hk : k ≤ N) => sumK_bd (wv z0 N) 1000 (by omega) k (fun i hi => D1 i (by omega))
  have HD1 := hidp D1
  have HD2 := hidp D2
  have HSB := hidp SB
  have hR := SB N (Nat.le_refl _)
  have SP := sprS_bd (wv z0 N) (wl' z1 3 N) N (fun i hi => ⟨by have := D1 i hi; omega, by have := D2 i hi; omega⟩)
  have FA := hidp (far_all (wv z0 N) (wl' z1 3 N) N D2)
  clear D1 D2 SB
  generalize hVS : wv z0 N = vs at *
  generalize hLS : wl' z1 3 N = ls at *
  clear hVS hLS
  go_wp2_with fail
  refine (spread_c _ _ _ _ _ vs ls _ ((hav.alloc _).alloc _) ((hal.alloc _).alloc _) (by omega) (fun i hi => by have := HD1.out i hi; omega) (fun i hi => by have := HD2.out i hi; omega)).mono ?_
  rintro e w' ⟨rfl, rfl⟩
  go_wp2_with fail
  refine (isum_c _ _ _ vs _ ((hav.alloc _).alloc _) (fun k hk => by have := HSB.out k hk; omega)).mono ?_
  rintro e w' ⟨rfl, rfl⟩
  have hR' : -4000 ≤ sumK vs N ∧ sumK vs N ≤ 4000 := by omega
  clear hR
  generalize hRR : sumK vs N = R at *
  clear hRR
  generalize hSPR : sprS vs ls N = SPR at *
  clear hSPR
  go_wp2_with (at_make; refine wpList_make_full _ rfl _ _ 22 rfl wb.heap.size 3 ib (.int .i64 0) 1 Try.underlying22 hib hz0 hz1 .i64 .i64 N N N rfl rfl rfl rfl (by rw [hz2]; omega) (by unfold maxLen; omega) (by simp; omega) ?_; intro wc how hgr)
  have hbm := below_new hgr
  have c7 : wc.cell? ⟨wb.heap.size, 0, none⟩ = some (.slice av N cv) := ck hbm (by go_simp)
  have c8 : wc.cell? ⟨wb.heap.size + 1, 0, none⟩ = some (.slice al N cl) := ck hbm (by go_simp)
  have c11 : wc.cell? ⟨wb.heap.size + 1 + 1, 0, none⟩ = some (.int .i64 R) := ck hbm (by go_simp)
  have c12 : wc.cell? ⟨wb.heap.size + 1 + 1 + 1, 0, none⟩ = some (.int .i64 0) := ck hbm (by go_simp)
  have f12 : wc.frozen? ⟨wb.heap.size + 1 + 1 + 1, 0, none⟩ = false := by rw [hbm.frozen (p := ⟨wb.heap.size + 1 + 1 + 1, 0, none⟩) (by simp)]; go_simp
  have hbc : Below wb.heap.size wb wc := (bal (bal (bal (bal (Below.refl _ _) _) _) _) _).trans (hbm.mono (by simp; omega))
  have gl := (how.lt _ rfl).2
  have e : (madeCells (Value.int .i64 0).cells (N * 1)).toList = tab (fun j => Value.int .i64 (if j < 0 then 8 else 0)) N := by
    show (madeCells #[Value.int .i64 0] (N * 1)).toList = _
    rw [made_tab]
    exact tab_congr _ _ _ (fun i _ => by rw [if_neg (by omega)])
  rw [e] at how
  clear e hgr hbm
  simp at how gl
  have hbc0 := hbc.size
  go_loopw [49] (fun i wr => ∃ k : Nat, k ≤ N ∧ i = .int .i64 k ∧ wr.ownsRow wb.heap.size 3 1 (.slice (some ⟨wb.heap.size + 1 + 1 + 1 + 1, 0, none⟩) N N) N (tab (fun j => Value.int .i64 (if j < k then 8 else 0)) N) ∧ Below (wb.heap.size + 1 + 1 + 1 + 1) wc wr) (fun i _ => N - (intOf i).toNat)
  case atStart => exact ⟨0, by omega, rfl, how, Below.refl _ _⟩
  case round =>
    obtain ⟨k, hk, rfl, ho, hbl⟩ := hrel
    by_cases hlt : k < N
    · have q1 := ho.frozenAt k
      have q2 := ho.cellAt k (by omega)
      rw [tab_get _ _ _ hlt] at q2
      go_wp2_with fail
      go_roundw
      case rel =>
        have st := own_store_tab ho k (.int .i64 8)
        refine ⟨k + 1, by omega, by go_num, ?_, hbl.setCell (p := ⟨wb.heap.size + 1 + 1 + 1 + 1, k, none⟩) (Nat.le_refl _) _⟩
        rw [tab_congr _ (fun j => if j = k then Value.int .i64 8 else Value.int .i64 (if j < k then 8 else 0)) N (fun j _ => by
          by_cases e : j = k
          · rw [if_pos e, if_pos (by omega)]
          · rw [if_neg e]
            by_cases e2 : j < k
            · rw [if_pos e2, if_pos (by omega)]
            · rw [if_neg e2, if_neg (by omega)])]
        exact st
      case measure => simp [intOf]; omega
    · obtain rfl : k = N := by omega
      have e2 : (tab (fun j => Value.int .i64 (if j < k then 8 else 0)) k) = (eights k).map (Value.int .i64) := by
        unfold eights; rw [tab_map]; exact tab_congr _ _ _ (fun i hi => by rw [if_pos hi])
      rw [e2] at ho
      obtain ⟨ab, cb, hbe, hab⟩ := owns_ints ho (fun x hx => by obtain ⟨i, hi, rfl⟩ := tab_mem _ _ _ hx; omega)
      simp only [Value.slice.injEq] at hbe
      obtain ⟨rfl, _, rfl⟩ := hbe
      have s7 := (hbl.cell (p := ⟨wb.heap.size, 0, none⟩) (by show wb.heap.size < _; omega)).trans c7
      have s8 := (hbl.cell (p := ⟨wb.heap.size + 1, 0, none⟩) (by show wb.heap.size + 1 < _; omega)).trans c8
      have s11 := (hbl.cell (p := ⟨wb.heap.size + 1 + 1, 0, none⟩) (by show wb.heap.size + 1 + 1 < _; omega)).trans c11
      have s12 := (hbl.cell (p := ⟨wb.heap.size + 1 + 1 + 1, 0, none⟩) (by show wb.heap.size + 1 + 1 + 1 < _; omega)).trans c12
      have g12 := (hbl.frozen (p := ⟨wb.heap.size + 1 + 1 + 1, 0, none⟩) (by show wb.heap.size + 1 + 1 + 1 < _; omega)).trans f12
      have hbr : Below wb.heap.size wb wr := hbc.trans (hbl.mono (by omega))
      have hsr := hbl.size
      have I0 : Inv w wr.heap.size av al (some ⟨wb.heap.size + 1 + 1 + 1 + 1, 0, none⟩) k cv cl k vs ls R wb.heap.size (wb.heap.size + 1) (wb.heap.size + 1 + 1) (wb.heap.size + 1 + 1 + 1) 0 wr :=
        ⟨s7, s8, s11, s12, g12, hav.below hbr, hal.below hbr, hab, bstep hwb hbr⟩
      have IV := hidp I0
      clear s7 s8 s11 s12 g12 c7 c8 c11 c12 f12 ho hab how
      go_wp2_with fail
      have FB := fun t => hidp (sumT_bd (fun s => sqr vs ls (way (eights k) k s) k R) 784000000 t (fun i _ => sqr_bd vs ls _ k R hN HD1.out HD2.out hR'))
      have hvf := ints_far (hav.below hbr)
      have hlf := ints_far (hal.below hbr)
      have hef := ints_far IV.out.ib
      have E := each_c 32 #[.pointer (some ⟨wb.heap.size, 0, none⟩), .pointer (some ⟨wb.heap.size + 1, 0, none⟩), .pointer (some ⟨wb.heap.size + 1 + 1 + 1, 0, none⟩), .pointer (some ⟨wb.heap.size + 1 + 1, 0, none⟩)] (fun _ _ => by kernel_rfl)
        (some ⟨wb.heap.size + 1 + 1 + 1 + 1, 0, none⟩) k k (eights k) wr (Inv w wr.heap.size av al (some ⟨wb.heap.size + 1 + 1 + 1 + 1, 0, none⟩) k cv cl k vs ls R wb.heap.size (wb.heap.size + 1) (wb.heap.size + 1 + 1) (wb.heap.size + 1 + 1 + 1))
        IV.out.ib (by omega) (fun j hj => by unfold eights; rw [tab_gi _ _ _ hj]; omega)
        (fun t W i v h => h.set (by omega) (by omega) (by omega) (by omega) hvf hlf hef (by have := hwb.size; omega) i v)
        (fun t W q h => h.below (below_drewN (Below.refl _ _) _))
        (fun W h => IV.out.below (below_new h))
        (fun t W h => h.ib)
        (fun t W ht h hsz hway => by
          have hP : prd (bn (eights k)) k ≤ 512 := by
            rw [prd_eights k k (Nat.le_refl _)]
            have : k = 0 ∨ k = 1 ∨ k = 2 ∨ k = 3 := by omega
            rcases this with rfl | rfl | rfl | rfl <;> decide
          have hfb := (FB t).out
          refine (sprdo_c _ av al k k cv cl vs ls (way (eights k) k t) wb.heap.size (wb.heap.size + 1) (wb.heap.size + 1 + 1 + 1) (wb.heap.size + 1 + 1) (farT vs ls k R t) R W hway h.iv h.il hN HD1.out HD2.out (fun i hi => way_bd k t i hi) hR' ⟨hfb.1, ?_⟩ h.c7 h.c8 h.c12 h.c11 h.f12).mono ?_
          · refine Int.le_trans hfb.2 ?_
            have : (t : Int) ≤ 512 := by omega
            omega
          · rintro e W' ⟨rfl, W1, hb, rfl⟩
            have h1 := h.below hb
            refine ⟨rfl, ⟨?_, ?_, ?_, ?_, ?_, ?_, ?_, ?_, ?_⟩, ?_, ?_⟩
            · rw [World.cell?_setCell_far _ _ _ _ (by show wb.heap.size + 1 + 1 + 1 ≠ wb.heap.size; omega)]; exact h1.c7
            · rw [World.cell?_setCell_far _ _ _ _ (by show wb.heap.size + 1 + 1 + 1 ≠ wb.heap.size + 1; omega)]; exact h1.c8
            · rw [World.cell?_setCell_far _ _ _ _ (by show wb.heap.size + 1 + 1 + 1 ≠ wb.heap.size + 1 + 1; omega)]; exact h1.c11
            · rw [show farT vs ls k R (t + 1) = farT vs ls k R t + sqr vs ls (way (eights k) k t) k R from rfl]
              have := h1.c12
              go_simp
            · simpa using h1.f12
            · exact ints_set h1.iv _ (fun e b o ha => by have := ints_far hav e b o ha; show b ≠ wb.heap.size + 1 + 1 + 1; omega) _
            · exact ints_set h1.il _ (fun e b o ha => by have := ints_far hal e b o ha; show b ≠ wb.heap.size + 1 + 1 + 1; omega) _
            · exact ints_set h1.ib _ (fun e b o ha => by simp only [Option.some.injEq, Addr.mk.injEq] at ha; show b ≠ wb.heap.size + 1 + 1 + 1; omega) _
            · exact h1.bel.setCell (by show w.heap.size ≤ wb.heap.size + 1 + 1 + 1; have := hwb.size; omega) _
            · rw [Below.heap_setCell _ _ _ _ (by show wr.heap.size ≠ wb.heap.size + 1 + 1 + 1; omega)]
              exact hb.block _ hsz
            · simpa using hb.size)
      rw [prd_eights k k (Nat.le_refl _)] at E
      have EE := hidp E
      clear E hvf hlf hef
      go_wp2_with fail
      refine EE.out.mono ?_
      rintro e we ⟨rfl, hI⟩
      have t12 := hI.c12
      have t7 := hI.c7
      have hfin := hI.bel
      have FBK := (FB (8 ^ k)).out
      rw [show sumT (fun s => sqr vs ls (way (eights k) k s) k R) (8 ^ k) = ((8 ^ k : Nat) : Int) * SPR from FA.out] at FBK
      rw [FA.out] at t12
      have hsz7 := lt_of_cell t7
      clear hI EE IV FB FA HSB HD1 HD2 I0 SP
      have hcases : k = 0 ∨ k = 1 ∨ k = 2 ∨ k = 3 := by omega
      rcases hcases with rfl | rfl | rfl | rfl
      · have hM : ((8 ^ 0 : Nat) : Int) * SPR = 1 * SPR := rfl
        rw [hM] at t12 FBK
        have hB : 0 ≤ SPR ∧ SPR ≤ 784000000 := by
          obtain ⟨x1, x2⟩ := FBK
          have x3 : 1 * SPR ≤ 1 * 784000000 := x2
          omega
        obtain ⟨hB1, hB2⟩ := hB
        clear hM FBK
        go_wp2_with fail
        go_quiet (fail)
        go_wp2
        go_ret
        exact ⟨by first | rfl | exact ret_bool (by rw [beq_iff_eq]; omega), below_drewN hfin _⟩
      · have hM : ((8 ^ 1 : Nat) : Int) * SPR = 8 * SPR := rfl
        rw [hM] at t12 FBK
        have hB : 0 ≤ SPR ∧ SPR ≤ 784000000 := by
          obtain ⟨x1, x2⟩ := FBK
          have x3 : 8 * SPR ≤ 8 * 784000000 := x2
          omega
        obtain ⟨hB1, hB2⟩ := hB
        clear hM FBK
        go_wp2_with fail
        go_quiet (fail)
        go_wp2
        go_ret
        exact ⟨by first | rfl | exact ret_bool (by rw [beq_iff_eq]; omega), below_drewN hfin _⟩
      · have hM : ((8 ^ 2 : Nat) : Int) * SPR = 64 * SPR := rfl
        rw [hM] at t12 FBK
        have hB : 0 ≤ SPR ∧ SPR ≤ 784000000 := by
          obtain ⟨x1, x2⟩ := FBK
          have x3 : 64 * SPR ≤ 64 * 784000000 := x2
          omega
        obtain ⟨hB1, hB2⟩ := hB
        clear hM FBK
        go_wp2_with fail
        go_quiet (fail)
        go_wp2
        go_ret
        exact ⟨by first | rfl | exact ret_bool (by rw [beq_iff_eq]; omega), below_drewN hfin _⟩
      · have hM : ((8 ^ 3 : Nat) : Int) * SPR = 512 * SPR := rfl
        rw [hM] at t12 FBK
        have hB : 0 ≤ SPR ∧ SPR ≤ 784000000 := by
          obtain ⟨x1, x2⟩ := FBK
          have x3 : 512 * SPR ≤ 512 * 784000000 := x2
          omega
        obtain ⟨hB1, hB2⟩ := hB
        clear hM FBK
        go_wp2_with fail
        go_quiet (fail)
        go_wp2
        go_ret
        exact ⟨by first | rfl | exact ret_bool (by rw [beq_iff_eq]; omega), below_drewN hfin _⟩
end Go.Proofs.Ytboacbimmggleaa.estSpreads
