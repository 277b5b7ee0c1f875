/- Contracts of pond.Check and pond.Put within their bounds. -/
import Derived.Test.YtgodgfnfaiiohaaGreatDoorKit
import Derived.Lib.MinMax
import Derived.Deep.RegionHeld3
import Derived.Deep.DeepCutAuto
namespace Go.Proofs.YtgodgfnfaiiohaaGreatDoor
open Go.ChangeShapes Go.WideShapes Go.ChangeAt Go.RowKit
set_option maxRecDepth 20000

theorem pcheck_c (K S : Int) (a : Option Addr) (n c : Nat) (w : World) (hK0 : 1 ≤ K) (hK1 : K ≤ 16) (hS0 : 0 ≤ S) (hS1 : S ≤ 1000000000000) (hn : min K S = (n : Int)) :
    Calls Tryz.prog 141 #[.agg #[.int .i64 K, .int .i64 S, .slice a n c]] w fun e w' => e = .returned (.int .i64 0) ∧ Below w.heap.size w w' := by
  have hne : ((n : Int) != (n : Int)) = false := by simp
  go_enter Tryz.func141, Tryz.ntmps141
  go_wp2
  go_ret
  exact ⟨rfl, (Below.refl _ _).alloc (Nat.le_refl _) _⟩

/-- What the ponds's items are behind a thing that came. -/
def pput (K S : Int) (xs : List Int) (x d : Int) : List Int := if S < K then xs ++ [x] else if d < K then xs.set d.toNat x else xs

set_option maxHeartbeats 2000000 in
theorem pput_c (K S x d : Int) (a : Option Addr) (n c : Nat) (xs : List Int) (w : World) (h : IntsAt w a n c xs) (hK0 : 1 ≤ K) (hK1 : K ≤ 16) (hS0 : 0 ≤ S) (hS1 : S < 1000000000000) (hn : min K S = (n : Int)) (hd0 : 0 ≤ d) (hd1 : d ≤ S) :
    Calls Tryz.prog 109 #[.agg #[.int .i64 K, .int .i64 S, .slice a n c], .int .i64 x, .int .i64 d] w fun e w' => ∃ v, e = .returned (.tuple #[.agg #[.int .i64 K, .int .i64 (S + 1), v], .int .i64 0]) ∧
      w'.ownsRow w.heap.size 3 1 v (pput K S xs x d).length ((pput K S xs x d).map (Value.int .i64)) ∧ Below w.heap.size w w' := by
  have CK := hidp (pcheck_c K S a n c)
  have hl := hidp h.len
  have CC := hidp (fun W hB => clonei_c a n c xs W (h.below hB) (by omega))
  have HN := hidp hn
  have hn16 : n ≤ 16 := by omega
  have hSne : (S == 1000000000000) = false := by rw [beq_eq_false_iff_ne]; omega
  clear h hn
  go_enter Tryz.func109, Tryz.ntmps109
  go_wp2_with fail
  refine (CK.out _ hK0 hK1 hS0 (by omega) HN.out).mono ?_
  rintro e wq ⟨rfl, hbc⟩
  have hbw : Below w.heap.size w wq := bstep (bal (bal (Below.refl _ _) _) _) hbc
  have hsz := hbc.size
  simp at hsz
  have cf : ∀ i, wq.cell? ⟨w.heap.size, i, none⟩ = ((w.alloc (.cells #[.int .i64 K, .int .i64 S, .slice a n c] 39)).alloc (.cells #[.int .i64 0, .int .i64 0, .slice none 0 0] 39)).cell? ⟨w.heap.size, i, none⟩ := fun i => hbc.cell (p := ⟨w.heap.size, i, none⟩) (by simp; omega)
  have cg : ∀ i, wq.cell? ⟨w.heap.size + 1, i, none⟩ = ((w.alloc (.cells #[.int .i64 K, .int .i64 S, .slice a n c] 39)).alloc (.cells #[.int .i64 0, .int .i64 0, .slice none 0 0] 39)).cell? ⟨w.heap.size + 1, i, none⟩ := fun i => hbc.cell (p := ⟨w.heap.size + 1, i, none⟩) (by simp)
  have cz : ∀ i, wq.frozen? ⟨w.heap.size + 1, i, none⟩ = false := fun i => by rw [hbc.frozen (p := ⟨w.heap.size + 1, i, none⟩) (by simp)]; simp
  have c0 : wq.cell? ⟨w.heap.size, 0, none⟩ = some (.int .i64 K) := by rw [cf]; simp
  have c1 : wq.cell? ⟨w.heap.size, 1, none⟩ = some (.int .i64 S) := by rw [cf]; simp
  have c2 : wq.cell? ⟨w.heap.size, 2, none⟩ = some (.slice a n c) := by rw [cf]; simp
  have k0 : wq.cell? ⟨w.heap.size + 1, 0, none⟩ = some (.int .i64 0) := by rw [cg]; simp
  have k1 : wq.cell? ⟨w.heap.size + 1, 1, none⟩ = some (.int .i64 0) := by rw [cg]; simp
  have k2 : wq.cell? ⟨w.heap.size + 1, 2, none⟩ = some (.slice none 0 0) := by rw [cg]; simp
  have CZ := hidp cz
  have n1 : ¬ w.heap.size = wq.heap.size := by omega
  have n2 : ¬ wq.heap.size = w.heap.size := by omega
  have hwr : IntKind.i64.wrap (S + 1) = S + 1 := IntWalk.i64_in _ (by omega)
  clear cf cg cz hbc
  go_upto_region 8 with fail
  go_cut [9] (fun s9 wx => ∃ (g : Nat) (av : Option Addr) (cv : Nat), s9 = .pointer (some ⟨g, 0, none⟩) ∧ w.heap.size + 1 < g ∧ g < wx.heap.size ∧
    wx.cell? ⟨g, 0, none⟩ = some (.int .i64 K) ∧ wx.cell? ⟨g, 1, none⟩ = some (.int .i64 (S + 1)) ∧ wx.cell? ⟨g, 2, none⟩ = some (.slice av n cv) ∧ wx.frozen? ⟨g, 2, none⟩ = false ∧
    wx.ownsRow wq.heap.size 3 1 (.slice av n cv) n (xs.map (Value.int .i64)) ∧ (Value.slice av n cv).ownBlock ≠ some g ∧ Below wq.heap.size wq wx)
  case first =>
    go_region_held3 (fun w' => w'.cell? ⟨w.heap.size, 0, none⟩ = some (.int .i64 K) ∧ w'.cell? ⟨w.heap.size, 1, none⟩ = some (.int .i64 S) ∧ w'.cell? ⟨w.heap.size, 2, none⟩ = some (.slice a n c))
      (go_keep)
      (first
        | (go_at_call 142; refine (CC.out _ ?_).mono ?_; exact (hbw.alloc hbw.size _).drew; rintro e wd ⟨v, rfl, hv, hbd⟩; obtain ⟨hcA, hfA⟩ := bcell hbd; have hsd := hbd.size; have e0 := hcA wq.heap.size 0 (by simp); have e1 := hcA wq.heap.size 1 (by simp); have e2 := hcA wq.heap.size 2 (by simp); have f0 := hfA wq.heap.size 0 (by simp); have f1 := hfA wq.heap.size 1 (by simp); have f2 := hfA wq.heap.size 2 (by simp); simp at e0 e1 e2 f0 f1 f2 hsd; have d0 := ck hbd (ca c0 _); have d1 := ck hbd (ca c1 _); have d2 := ck hbd (ca c2 _); clear hcA hfA; obtain ⟨av, cv, hve, hcv1, hcv2⟩ := owns_form hv; subst hve)
        | (go_at_call 142; refine (CC.out _ ?_).mono ?_; exact hbw.drew; rintro e wd ⟨v, rfl, hv, hbd⟩; have hsd := hbd.size; simp at hsd; have d0 := ck hbd c0; have d1 := ck hbd c1; have d2 := ck hbd c2; obtain ⟨av, cv, hve, hcv1, hcv2⟩ := owns_form hv; subst hve))
    · go_wp2_with fail
      go_meet
      refine ⟨wd.heap.size, av, cv, rfl, by omega, by simp, by simp, by simp, by simp, by simp, hv.alloc _, ?_, bal (bstep (Below.refl wq.heap.size wq).drew hbd) _⟩
      intro e
      have := (hv.lt _ e).2
      omega
    · go_wp2_with fail
      go_meet
      refine ⟨wq.heap.size, av, cv, rfl, by omega, by simp; omega, by go_simp, by go_simp, by go_simp, by go_simp, ?_, ?_, ?_⟩
      · have h0 := ownsRow_setCell_below hv (a := ⟨wq.heap.size, 0, none⟩) (by show wq.heap.size < _; simp) (.int .i64 K)
        have h1 := ownsRow_setCell_below h0 (a := ⟨wq.heap.size, 1, none⟩) (by show wq.heap.size < _; simp) (.int .i64 (S + 1))
        have h2 := ownsRow_setCell_below h1 (a := ⟨wq.heap.size, 2, none⟩) (by show wq.heap.size < _; simp) (.slice av n cv)
        exact owns_mono h2 (by simp)
      · intro e
        have := (hv.lt _ e).1
        simp at this
        omega
      · have hb0 : Below wq.heap.size wq wd := ((Below.refl wq.heap.size wq).alloc (Nat.le_refl _) _).drew.trans (hbd.mono (by simp))
        exact ((hb0.setCell (Nat.le_refl _) _).setCell (Nat.le_refl _) _).setCell (Nat.le_refl _) _
  case rest =>
    obtain ⟨g, av, cv, rfl, hg1, hg2, r0, r1, r2, rf, hv, hne, hbx⟩ := hcut
    have b0 := ck hbx c0
    have b1 := ck hbx c1
    have b2 := ck hbx c2
    have x0 := ck hbx k0
    have x1 := ck hbx k1
    have x2 := ck hbx k2
    clear c0 c1 c2 k0 k1 k2
    have z0 : wc.frozen? ⟨w.heap.size + 1, 0, none⟩ = false := by rw [hbx.frozen (p := ⟨w.heap.size + 1, 0, none⟩) (by show w.heap.size + 1 < _; omega)]; exact CZ.out 0
    have z1 : wc.frozen? ⟨w.heap.size + 1, 1, none⟩ = false := by rw [hbx.frozen (p := ⟨w.heap.size + 1, 1, none⟩) (by show w.heap.size + 1 < _; omega)]; exact CZ.out 1
    have z2 : wc.frozen? ⟨w.heap.size + 1, 2, none⟩ = false := by rw [hbx.frozen (p := ⟨w.heap.size + 1, 2, none⟩) (by show w.heap.size + 1 < _; omega)]; exact CZ.out 2
    have hba : Below w.heap.size w wc := bstep hbw hbx
    have hn6 : (Value.slice av n cv).ownBlock ≠ some (w.heap.size + 1) := fun e => by have := (hv.lt _ e).1; omega
    have hg6 : ¬ g = w.heap.size + 1 := by omega
    by_cases hSK : S < K
    · have P := hidp (show pput K S xs x d = xs ++ [x] by unfold pput; rw [if_pos hSK])
      go_wp2_with (at_builtin; go_loud (refine wpList_append_new rfl (.tmp 45) (.tmp 47) 37 rfl wq.heap.size 3 _ 1 8 info_int rfl (by decide) Tryz.underlying37 (.slice av n cv) n _ rfl hv rfl (one_int _ _) rfl rfl (by omega) (by decide) hbx.size ?_; intro v1 w1 o1 g1 d1; obtain ⟨a1, c1, hv1, hc1, hc1'⟩ := owns_form o1; subst hv1; have y0 := gk g1 r0 hne; have y1 := gk g1 r1 hne; have y2 := gk g1 r2 hne; have yf := gf g1 rf hg2 hne; have t0 := gk g1 x0 hn6; have t1 := gk g1 x1 hn6; have t2 := gk g1 x2 hn6; have u0 := gf g1 z0 (lt_of_cell x0) hn6; have u1 := gf g1 z1 (lt_of_cell x1) hn6; have u2 := gf g1 z2 (lt_of_cell x2) hn6))
      have q1 : (Value.slice a1 (n + 1) c1).ownBlock ≠ some g := by
        rcases d1 with d1 | ⟨k, d1, hk⟩
        · rw [d1]; exact hne
        · rw [d1]; intro e; cases e; omega
      have q2 : (Value.slice a1 (n + 1) c1).ownBlock ≠ some (w.heap.size + 1) := by
        rcases d1 with d1 | ⟨k, d1, hk⟩
        · rw [d1]; exact hn6
        · rw [d1]; intro e; cases e; omega
      refine bodyPost_ret (v := .tuple #[.agg #[.int .i64 K, .int .i64 (S + 1), .slice a1 (n + 1) c1], .int .i64 0]) (by simp [results, Tryz.results109, go_sem, t0, t1, t2]) rfl ⟨_, rfl, ?_, ?_⟩
      · rw [P.out, List.length_append, hl.out, List.map_append]
        exact owns_mono (ownsRow_setCell_other (ownsRow_setCell_other (ownsRow_setCell_other (ownsRow_setCell_other o1 q1 _) q2 _) q2 _) q2 _) (by omega)
      · have hb1 := append_step hv hbx (Nat.le_refl _) g1
        have hb2 : Below w.heap.size w w1 := bstep hbw hb1
        exact (((hb2.setCell (by show w.heap.size ≤ g; omega) _).setCell (by show w.heap.size ≤ w.heap.size + 1; omega) _).setCell (by show w.heap.size ≤ w.heap.size + 1; omega) _).setCell (by show w.heap.size ≤ w.heap.size + 1; omega) _
    · have hnK : (n : Int) = K := by have := HN.out; omega
      by_cases hdK : d < K
      · obtain ⟨D, rfl⟩ := Int.eq_ofNat_of_zero_le hd0
        have P := hidp (show pput K S xs x D = xs.set D x by unfold pput; rw [if_neg hSK, if_pos hdK]; rfl)
        have hDn : D < n := by omega
        obtain ⟨ga, ca, hve, hga1, hga2, hga3, hga4⟩ := owns_addr hv (by omega)
        simp only [Value.slice.injEq] at hve
        obtain ⟨rfl, _, rfl⟩ := hve
        have q1 : ¬ ga = g := fun e => hne (by rw [← e]; rfl)
        have q2 : ¬ ga = w.heap.size + 1 := by omega
        have q3 := hv.frozenAt D
        have q4 := hv.cellAt D (by omega)
        rw [map_tab xs n hl.out, tab_get _ _ _ hDn] at q4
        have HNK := hidp hnK
        clear hnK
        go_wp2_with fail
        refine bodyPost_ret (v := .tuple #[.agg #[.int .i64 K, .int .i64 (S + 1), .slice (some ⟨ga, 0, none⟩) n cv], .int .i64 0]) (by simp [results, Tryz.results109, go_sem, x0, x1, x2]) rfl ⟨_, rfl, ?_, ?_⟩
        · rw [P.out, List.length_set, hl.out]
          have o1 := own_store_tab (by rw [map_tab xs n hl.out] at hv; exact hv) D (.int .i64 x)
          have q5 : (Value.slice (some ⟨ga, 0, none⟩) n cv).ownBlock ≠ some (w.heap.size + 1) := by
            simp [Value.ownBlock]; omega
          have e1 : (xs.set D x).map (Value.int .i64) = tab (fun i => if i = D then Value.int .i64 x else Value.int .i64 (gi xs i)) n := by
            rw [← tab_set, ← map_tab xs n hl.out, List.map_set]
          rw [e1]
          exact owns_mono (ownsRow_setCell_other (ownsRow_setCell_other (ownsRow_setCell_other o1 q5 _) q5 _) q5 _) (by omega)
        · exact (((hba.setCell (by show w.heap.size ≤ ga; omega) _).setCell (by show w.heap.size ≤ w.heap.size + 1; omega) _).setCell (by show w.heap.size ≤ w.heap.size + 1; omega) _).setCell (by show w.heap.size ≤ w.heap.size + 1; omega) _
      · have P := hidp (show pput K S xs x d = xs by unfold pput; rw [if_neg hSK, if_neg hdK])
        clear hnK
        go_wp2_with fail
        refine bodyPost_ret (v := .tuple #[.agg #[.int .i64 K, .int .i64 (S + 1), .slice av n cv], .int .i64 0]) (by simp [results, Tryz.results109, go_sem, x0, x1, x2]) rfl ⟨_, rfl, ?_, ?_⟩
        · rw [P.out, hl.out]
          exact owns_mono (ownsRow_setCell_other (ownsRow_setCell_other (ownsRow_setCell_other hv hn6 _) hn6 _) hn6 _) (by omega)
        · exact ((hba.setCell (by show w.heap.size ≤ w.heap.size + 1; omega) _).setCell (by show w.heap.size ≤ w.heap.size + 1; omega) _).setCell (by show w.heap.size ≤ w.heap.size + 1; omega) _
end Go.Proofs.YtgodgfnfaiiohaaGreatDoor
