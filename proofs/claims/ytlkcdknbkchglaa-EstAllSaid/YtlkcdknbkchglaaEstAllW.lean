/- The walk of EstAll: the law returns true at all inputs, and no old memory changes. -/
import Derived.Test.YtlkcdknbkchglaaEst
import Derived.Test.YtlkcdknbkchglaaWorth
import Derived.Test.YtlkcdknbkchglaaSum
namespace Go.Proofs.Ytlkcdknbkchglaa.estAll
open Go.ChangeShapes Go.WideShapes Go.ChangeAt Go.RowKit
open Go.Proofs.Ytlkcdknbkchglaa

theorem est_ex : estS [5] [1] [0] 1 = 0 := by decide +kernel

def rf (ds : List Int) (i : Nat) : Int := if i < ds.length then drw (gi ds i) else 0
def lf (ds : List Int) (i : Nat) : Int := rf ds i / 2
theorem rf_bd (ds : List Int) (i : Nat) : 0 ≤ rf ds i ∧ rf ds i < 72057594037927936 := by
  unfold rf
  have := drw_lo (gi ds i)
  have := drw_hi (gi ds i)
  split <;> omega
theorem lf_bd (ds : List Int) (i : Nat) : 0 ≤ lf ds i ∧ lf ds i < 36028797018963968 := by
  unfold lf
  have := rf_bd ds i
  omega
theorem lev1 : lev (1 : Int).toNat = 36028797018963968 := by decide +kernel
theorem lev0 : lev (0 : Int).toNat = 0 := by decide +kernel
theorem wlf0 (i : Nat) : wlf [] 0 i = 0 := by have := wlf_bd [] 0 (by omega) i; omega

/-- The plain law: at level 0 the estimate is the sum. -/
theorem plain_all (z0 z1 : List Int) (n : Nat) : ∀ k, k ≤ n → estS (wv z0 n) (wl' [] 0 n) (tab (rf z1) n) k = sumK (wv z0 n) k
  | 0, _ => rfl
  | k + 1, h => by
    have a := plain_all z0 z1 n k (by omega)
    simp only [estS, sumK]
    rw [a]
    have e1 : gi (wl' [] 0 n) k = 0 := (tab_gi _ _ _ (by omega)).trans (wlf0 k)
    have e2 : gi (tab (rf z1) n) k = rf z1 k := tab_gi _ _ _ (by omega)
    have e3 := rf_bd z1 k
    unfold est1
    rw [e1, e2, lev0, if_pos e3.1]
    simp
/-- The plain law: at level 1, by draws that are less than half, it is nothing. -/
theorem plain_none (z0 z1 : List Int) (n : Nat) : ∀ k, k ≤ n → estS (wv z0 n) (tab (fun _ => 1) n) (tab (lf z1) n) k = 0
  | 0, _ => rfl
  | k + 1, h => by
    have a := plain_none z0 z1 n k (by omega)
    simp only [estS]
    rw [a]
    have e1 : gi (tab (fun _ => 1) n) k = 1 := tab_gi _ _ _ (by omega)
    have e2 : gi (tab (lf z1) n) k = lf z1 k := tab_gi _ _ _ (by omega)
    have e3 := lf_bd z1 k
    unfold est1
    rw [e1, e2, lev1, if_neg (by omega)]
    simp

set_option linter.unusedVariables false
set_option maxHeartbeats 4000000 in
theorem walk (a0 : Option Addr) (len0 cap0 : Nat) (z0 : List Int) (a1 : Option Addr) (len1 cap1 : Nat) (z1 : List Int) (w : World)
    (w0 : IntsAt w a0 len0 cap0 z0) (w1 : IntsAt w a1 len1 cap1 z1) :
    Calls Try.prog 13 #[.slice a0 len0 cap0, .slice a1 len1 cap1] w fun e w' => e = .returned (.bool true) ∧ Below w.heap.size w w' := by
  obtain ⟨b1, o1, hz1, hx1⟩ := w1.split
  have hz1' : Hid (len1 = 0) ∨ a1 = some ⟨b1, o1, none⟩ := hz1.imp_left hidp
  clear hz1
  have HX1 := hidp hx1
  have m1 := w1.max
  have e1 := w1.le
  have l1 := w1.len
  have L1 := hidp l1
  clear hx1 l1
  have hex := est_ex
  rcases hz1' with hz1 | rfl
  all_goals
    go_enter Try.func13, Try.ntmps13
    go_wp2_with fail
    refine (sum_ok _ _ _ 1 1 1 1 [5] [1] [0] _ ?d0 ?d1 ?d2 (by omega) ?c1 ?c2 ?c3).mono ?_
    case d0 => exact ((ints_lit [5] (by simp) (by rfl) (by rfl) (by simp) (by omega)).alloc _).alloc _
    case d1 => exact (ints_lit [1] (by simp) (by rfl) (by rfl) (by simp) (by omega)).alloc _
    case d2 => exact ints_lit [0] (by simp) (by rfl) (by rfl) (by simp) (by omega)
    case c1 => intro i hi; match i, hi with | 0, _ => decide
    case c2 => intro i hi; match i, hi with | 0, _ => decide
    case c3 => intro i hi; match i, hi with | 0, _ => decide
    rintro e wa ⟨rfl, hba⟩
    rw [hex]
    go_wp2_with fail
    refine (worth_i a0 none len0 cap0 0 0 z0 [] 40 0 wa ?f0 (ints_nil wa) (by omega) (by omega) (by omega)).mono ?_
    case f0 => exact (((w0.alloc _).alloc _).alloc _).below hba
    rintro e wb ⟨av, al, cv, cl, rfl, hav, hal, hbb⟩
    have hba' : Below w.heap.size w wa := ((((Below.refl _ _).alloc (Nat.le_refl _) _).alloc (by simp) _).alloc (by simp; omega) _).trans (hba.mono (by simp; omega))
    have hbw : Below w.heap.size w wb := hba'.trans (hbb.mono hba'.size)
    have hN : min len0 40 ≤ 40 := by omega
    generalize hNe : min len0 40 = N at *
    have HNe := hidp hNe
    clear hNe hba hba' hbb
    have MV := hidp hav.max
    go_wp2_with fail
    go_loopw [9, 10, 11, 38] (fun r l o i wr => ∃ k : Nat, k ≤ N ∧ i = .int .i64 k ∧ wr.ownsRow wb.heap.size 3 1 r k ((tab (rf z1) k).map (Value.int .i64)) ∧ wr.ownsRow wb.heap.size 3 1 l k ((tab (lf z1) k).map (Value.int .i64)) ∧ wr.ownsRow wb.heap.size 3 1 o k ((tab (fun _ => (1 : Int)) k).map (Value.int .i64)) ∧ Apart r l ∧ Apart r o ∧ Apart l o ∧ Below wb.heap.size wb wr) (fun _ _ _ i _ => N - (intOf i).toNat)
    case atStart => exact ⟨0, by omega, rfl, World.ownsRow_nil _ _ _ _, World.ownsRow_nil _ _ _ _, World.ownsRow_nil _ _ _ _, .inl rfl, .inl rfl, .inl rfl, Below.refl _ _⟩
    case round =>
      obtain ⟨k, hk, rfl, hr, hl, ho, aprl, apro, aplo, hbl⟩ := hrel
      by_cases hlt : k < N
      · by_cases hk1 : k < len1
        · first
          | (exfalso; have := hz1.out; omega)
          | (
            have q4 := carry_cell (HX1.out k hk1) (hbw.trans (hbl.mono hbw.size))
            have q5 := drw_lo (gi z1 k)
            have q6 := drw_hi (gi z1 k)
            go_wp2_with (first | (at_builtin; refine wpList_append_new rfl (.tmp 50) (.tmp 52) 51 rfl wb.heap.size 3 _ 1 8 info_int rfl (by decide) Try.underlying51 _ k _ rfl hr rfl (one_int _ _) rfl (by omega) (by decide) hbl.size ?_; intro v0 x0 nr g0 d0; have o0l := hl.kept g0 (aprl.symm); have o0o := ho.kept g0 (apro.symm); have p0rl := (aprl).grown hl d0; have p0ro := (apro).grown ho d0; have bl0 := append_step hr hbl (Nat.le_refl _) g0; clear g0 d0 hl ho aprl apro hr hbl) | (at_builtin; refine wpList_append_new rfl (.tmp 54) (.tmp 57) 51 rfl wb.heap.size 3 _ 1 8 info_int rfl (by decide) Try.underlying51 _ k _ rfl o0l rfl (one_int _ _) rfl (by omega) (by decide) bl0.size ?_; intro v1 x1 nl g1 d1; have o1r := nr.kept g1 (p0rl); have o1o := o0o.kept g1 (aplo.symm); have p1rl := ((p0rl.symm).grown nr d1).symm; have p1lo := (aplo).grown o0o d1; have bl1 := append_step o0l bl0 (Nat.le_refl _) g1; clear g1 d1 nr o0o p0rl aplo o0l bl0) | (at_builtin; refine wpList_append_new rfl (.tmp 59) (.tmp 60) 51 rfl wb.heap.size 3 _ 1 8 info_int rfl (by decide) Try.underlying51 _ k _ rfl o1o rfl (one_int _ _) rfl (by omega) (by decide) bl1.size ?_; intro v2 x2 no g2 d2; have o2r := o1r.kept g2 (p0ro); have o2l := nl.kept g2 (p1lo); have p2ro := ((p0ro.symm).grown o1r d2).symm; have p2lo := ((p1lo.symm).grown nl d2).symm; have bl2 := append_step o1o bl1 (Nat.le_refl _) g2; clear g2 d2 o1r nl p0ro p1lo o1o bl1) | (go_at_call 16; refine (draw_c _ _).mono ?_; rintro e w' ⟨rfl, rfl⟩))
            go_roundw
            case rel => exact ⟨k + 1, by omega, by go_num, by rw [tab_snoc, List.map_append, rf, if_pos (by rw [L1.out]; omega)]; exact o2r, by rw [tab_snoc, List.map_append, lf, rf, if_pos (by rw [L1.out]; omega)]; exact o2l, by rw [tab_snoc, List.map_append]; exact no, p1rl, p2ro, p2lo, bl2⟩
            case measure => simp [intOf]; omega)
        · (
            have q5 := drw_lo (gi z1 k)
            have q6 := drw_hi (gi z1 k)
            go_wp2_with (first | (at_builtin; refine wpList_append_new rfl (.tmp 50) (.tmp 52) 51 rfl wb.heap.size 3 _ 1 8 info_int rfl (by decide) Try.underlying51 _ k _ rfl hr rfl (one_int _ _) rfl (by omega) (by decide) hbl.size ?_; intro v0 x0 nr g0 d0; have o0l := hl.kept g0 (aprl.symm); have o0o := ho.kept g0 (apro.symm); have p0rl := (aprl).grown hl d0; have p0ro := (apro).grown ho d0; have bl0 := append_step hr hbl (Nat.le_refl _) g0; clear g0 d0 hl ho aprl apro hr hbl) | (at_builtin; refine wpList_append_new rfl (.tmp 54) (.tmp 57) 51 rfl wb.heap.size 3 _ 1 8 info_int rfl (by decide) Try.underlying51 _ k _ rfl o0l rfl (one_int _ _) rfl (by omega) (by decide) bl0.size ?_; intro v1 x1 nl g1 d1; have o1r := nr.kept g1 (p0rl); have o1o := o0o.kept g1 (aplo.symm); have p1rl := ((p0rl.symm).grown nr d1).symm; have p1lo := (aplo).grown o0o d1; have bl1 := append_step o0l bl0 (Nat.le_refl _) g1; clear g1 d1 nr o0o p0rl aplo o0l bl0) | (at_builtin; refine wpList_append_new rfl (.tmp 59) (.tmp 60) 51 rfl wb.heap.size 3 _ 1 8 info_int rfl (by decide) Try.underlying51 _ k _ rfl o1o rfl (one_int _ _) rfl (by omega) (by decide) bl1.size ?_; intro v2 x2 no g2 d2; have o2r := o1r.kept g2 (p0ro); have o2l := nl.kept g2 (p1lo); have p2ro := ((p0ro.symm).grown o1r d2).symm; have p2lo := ((p1lo.symm).grown nl d2).symm; have bl2 := append_step o1o bl1 (Nat.le_refl _) g2; clear g2 d2 o1r nl p0ro p1lo o1o bl1) | (go_at_call 16; refine (draw_c _ _).mono ?_; rintro e w' ⟨rfl, rfl⟩))
            go_roundw
            case rel => exact ⟨k + 1, by omega, by go_num, by rw [tab_snoc, List.map_append, rf, if_neg (by rw [L1.out]; omega)]; exact o2r, by rw [tab_snoc, List.map_append, lf, rf, if_neg (by rw [L1.out]; omega)]; exact o2l, by rw [tab_snoc, List.map_append]; exact no, p1rl, p2ro, p2lo, bl2⟩
            case measure => simp [intOf]; omega)
      · obtain rfl : k = N := by omega
        obtain ⟨ar, cr, hre, har⟩ := owns_ints hr (fun x hx => by obtain ⟨i, _, rfl⟩ := tab_mem _ _ _ hx; have := rf_bd z1 i; omega)
        obtain ⟨alw, clw, hle, hall⟩ := owns_ints hl (fun x hx => by obtain ⟨i, _, rfl⟩ := tab_mem _ _ _ hx; have := lf_bd z1 i; omega)
        obtain ⟨ao, co, hoe, hao⟩ := owns_ints ho (fun x hx => by obtain ⟨i, _, rfl⟩ := tab_mem _ _ _ hx; omega)
        subst hre hle hoe
        clear hr hl ho aprl apro aplo
        have D1 : ∀ i, i < k → -1000000 ≤ gi (wv z0 k) i ∧ gi (wv z0 k) i ≤ 1000000 := fun i hi => by
          rw [show gi (wv z0 k) i = wvf z0 i from tab_gi _ _ _ hi]; have := wvf_bd z0 i; omega
        have D2 : ∀ i, i < k → 0 ≤ gi (wl' [] 0 k) i ∧ gi (wl' [] 0 k) i ≤ 20 := fun i hi => by
          rw [show gi (wl' [] 0 k) i = wlf [] 0 i from tab_gi _ _ _ hi]; have := wlf_bd [] 0 (by omega) i; omega
        have D3 : ∀ i, i < k → 0 ≤ gi (tab (rf z1) k) i ∧ gi (tab (rf z1) k) i < 72057594037927936 := fun i hi => by
          rw [tab_gi _ _ _ hi]; exact rf_bd z1 i
        have D4 : ∀ i, i < k → 0 ≤ gi (tab (fun _ => 1) k) i ∧ gi (tab (fun _ => 1) k) i ≤ 20 := fun i hi => by
          rw [tab_gi _ _ _ hi]; omega
        have D5 : ∀ i, i < k → 0 ≤ gi (tab (lf z1) k) i ∧ gi (tab (lf z1) k) i < 72057594037927936 := fun i hi => by
          rw [tab_gi _ _ _ hi]; have := lf_bd z1 i; omega
        have HD1 := hidp D1
        have HD2 := hidp D2
        have HD3 := hidp D3
        have HD4 := hidp D4
        have HD5 := hidp D5
        have P1 := hidp (plain_all z0 z1 k k (Nat.le_refl _))
        have P2 := hidp (plain_none z0 z1 k k (Nat.le_refl _))
        have E0 : ∀ kk, kk ≤ k → -4611686018427387904 ≤ sumK (wv z0 k) kk ∧ sumK (wv z0 k) kk ≤ 4611686018427387904 := fun kk hk => by
          have := sumK_bd (wv z0 k) 1000000 (by omega) kk (fun i hi => D1 i (by omega)); omega
        have E1 := hidp E0
        clear D1 D2 D3 D4 D5 E0
        go_wp2_with fail
        refine (sum_ok _ _ _ k _ _ _ (wv z0 k) (wl' [] 0 k) (tab (rf z1) k) _ (hav.below hbl) (hal.below hbl) har hN HD1.out HD2.out HD3.out).mono ?_
        rintro e ws ⟨rfl, hs1⟩
        rw [P1.out]
        go_wp2_with fail
        refine (sum_ok _ _ _ k _ _ _ (wv z0 k) (tab (fun _ => 1) k) (tab (lf z1) k) _ ((hav.below hbl).below hs1) (hao.below hs1) (hall.below hs1) hN HD1.out HD4.out HD5.out).mono ?_
        rintro e wt ⟨rfl, hs2⟩
        rw [P2.out]
        go_wp2_with fail
        refine (isum_c _ _ _ _ _ (((hav.below hbl).below hs1).below hs2) E1.out).mono ?_
        rintro e wu ⟨rfl, rfl⟩
        go_wp2
        go_ret
        have hz : Below w.heap.size w wt := hbw.trans ((hbl.trans ((hs1.trans (hs2.mono hs1.size)).mono hbl.size)).mono hbw.size)
        exact ⟨ret_bool (by simp), hz⟩
end Go.Proofs.Ytlkcdknbkchglaa.estAll
