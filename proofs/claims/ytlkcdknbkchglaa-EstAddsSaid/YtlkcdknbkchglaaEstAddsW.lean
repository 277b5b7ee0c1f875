/- The walk of EstAdds: the law returns true at all inputs, and no old memory changes. -/
import Derived.Test.YtlkcdknbkchglaaEst
import Derived.Test.YtlkcdknbkchglaaWorth
namespace Go.Proofs.Ytlkcdknbkchglaa.estAdds
open Go.ChangeShapes Go.WideShapes Go.ChangeAt Go.RowKit
open Go.Proofs.Ytlkcdknbkchglaa

theorem est_ex : estS [5, 7] [0, 0] [0, 0] 2 = 12 := by decide +kernel

def yf (ms : List Int) (i : Nat) : Int := if i < ms.length then wi (gi ms i) 1000 else 0
def bf (xs ms : List Int) (i : Nat) : Int := gi xs i + yf ms i
def rf (ds : List Int) (i : Nat) : Int := if i < ds.length then drw (gi ds i) else 0
theorem yf_bd (ms : List Int) (i : Nat) : 0 ≤ yf ms i ∧ yf ms i < 1000 := by
  unfold yf
  have := wi_lo (gi ms i) 1000 (by omega)
  have := wi_hi (gi ms i) 1000 (by omega)
  split <;> omega
theorem rf_bd (ds : List Int) (i : Nat) : 0 ≤ rf ds i ∧ rf ds i < 72057594037927936 := by
  unfold rf
  have := drw_lo (gi ds i)
  have := drw_hi (gi ds i)
  split <;> omega

/-- The plain law: the estimates add up. -/
theorem adds (vs ms ls rs : List Int) (n : Nat) : ∀ k, k ≤ n → estS vs ls rs k + estS (tab (yf ms) n) ls rs k = estS (tab (bf vs ms) n) ls rs k
  | 0, _ => rfl
  | k + 1, h => by
    have a := adds vs ms ls rs n k (by omega)
    simp only [estS]
    rw [tab_gi _ _ _ (by omega), tab_gi _ _ _ (by omega)]
    have e : est1 (gi vs k) (gi ls k) (gi rs k) + est1 (yf ms k) (gi ls k) (gi rs k) = est1 (bf vs ms k) (gi ls k) (gi rs k) := by
      unfold est1 bf
      split
      · rw [Int.add_mul]
      · rfl
    omega

set_option linter.unusedVariables false
set_option maxHeartbeats 4000000 in
theorem walk (a0 : Option Addr) (len0 cap0 : Nat) (z0 : List Int) (a1 : Option Addr) (len1 cap1 : Nat) (z1 : List Int) (a2 : Option Addr) (len2 cap2 : Nat) (z2 : List Int) (a3 : Option Addr) (len3 cap3 : Nat) (z3 : List Int) (w : World)
    (w0 : IntsAt w a0 len0 cap0 z0) (w1 : IntsAt w a1 len1 cap1 z1) (w2 : IntsAt w a2 len2 cap2 z2) (w3 : IntsAt w a3 len3 cap3 z3) :
    Calls Try.prog 12 #[.slice a0 len0 cap0, .slice a1 len1 cap1, .slice a2 len2 cap2, .slice a3 len3 cap3] w fun e w' => e = .returned (.bool true) ∧ Below w.heap.size w w' := by
  obtain ⟨b1, o1, hz1, hx1⟩ := w1.split
  obtain ⟨b3, o3, hz3, hx3⟩ := w3.split
  have hz1' : Hid (len1 = 0) ∨ a1 = some ⟨b1, o1, none⟩ := hz1.imp_left hidp
  have hz3' : Hid (len3 = 0) ∨ a3 = some ⟨b3, o3, none⟩ := hz3.imp_left hidp
  clear hz1 hz3
  have HX1 := hidp hx1
  have HX3 := hidp hx3
  have m1 := w1.max
  have m3 := w3.max
  have e1 := w1.le
  have e3 := w3.le
  have l1 := w1.len
  have l3 := w3.len
  have L1 := hidp l1
  have L3 := hidp l3
  clear hx1 hx3 l1 l3
  have hex := est_ex
  rcases hz1' with hz1 | rfl <;> rcases hz3' with hz3 | rfl
  all_goals
    go_enter Try.func12, Try.ntmps12
    go_wp2_with fail
    refine (sum_ok _ _ _ 2 2 2 2 [5, 7] [0, 0] [0, 0] _ ?d0 ?d1 ?d2 (by omega) ?c1 ?c2 ?c3).mono ?_
    case d0 => exact ((ints_lit [5, 7] (by simp) (by rfl) (by rfl) (by simp) (by omega)).alloc _).alloc _
    case d1 => exact (ints_lit [0, 0] (by simp) (by rfl) (by rfl) (by simp) (by omega)).alloc _
    case d2 => exact ints_lit [0, 0] (by simp) (by rfl) (by rfl) (by simp) (by omega)
    case c1 => intro i hi; match i, hi with | 0, _ => decide | 1, _ => decide
    case c2 => intro i hi; match i, hi with | 0, _ => decide | 1, _ => decide
    case c3 => intro i hi; match i, hi with | 0, _ => decide | 1, _ => decide
    rintro e wa ⟨rfl, hba⟩
    rw [hex]
    go_wp2_with fail
    refine (worth_i a0 a2 len0 cap0 len2 cap2 z0 z2 40 20 wa ?f0 ?f1 (by omega) (by omega) (by omega)).mono ?_
    case f0 => exact (((w0.alloc _).alloc _).alloc _).below hba
    case f1 => exact (((w2.alloc _).alloc _).alloc _).below hba
    rintro e wb ⟨av, al, cv, cl, rfl, hav, hal, hbb⟩
    have hba' : Below w.heap.size w wa := ((((Below.refl _ _).alloc (Nat.le_refl _) _).alloc (by simp) _).alloc (by simp; omega) _).trans (hba.mono (by simp; omega))
    have hbw : Below w.heap.size w wb := hba'.trans (hbb.mono hba'.size)
    have hN : min len0 40 ≤ 40 := by omega
    generalize hNe : min len0 40 = N at *
    have HNe := hidp hNe
    clear hNe hba hba' hbb
    have MV := hidp hav.max
    rcases Nat.eq_zero_or_pos N with hN0 | hN0
    · subst hN0
      go_wp2_with fail
      refine wp_loop_rounds 1 ?_; rw [rounds_succ]
      have hay : IntsAt wb none 0 0 (tab (yf z1) 0) := ints_nil wb
      have hab : IntsAt wb none 0 0 (tab (bf (wv z0 0) z1) 0) := ints_nil wb
      have har : IntsAt wb none 0 0 (tab (rf z3) 0) := ints_nil wb
      have hbl : Below wb.heap.size wb wb := Below.refl _ _
      have D1 : ∀ i, i < 0 → -1000000 ≤ gi (wv z0 0) i ∧ gi (wv z0 0) i ≤ 1000000 := fun i hi => by
        rw [show gi (wv z0 0) i = wvf z0 i from tab_gi _ _ _ hi]; have := wvf_bd z0 i; omega
      have D2 : ∀ i, i < 0 → 0 ≤ gi (wl' z2 20 0) i ∧ gi (wl' z2 20 0) i ≤ 20 := fun i hi => by
        rw [show gi (wl' z2 20 0) i = wlf z2 20 i from tab_gi _ _ _ hi]; exact wlf_bd z2 20 (by omega) i
      have D3 : ∀ i, i < 0 → 0 ≤ gi (tab (rf z3) 0) i ∧ gi (tab (rf z3) 0) i < 72057594037927936 := fun i hi => by
        rw [tab_gi _ _ _ hi]; exact rf_bd z3 i
      have D4 : ∀ i, i < 0 → -1000000 ≤ gi (tab (yf z1) 0) i ∧ gi (tab (yf z1) 0) i ≤ 1000000 := fun i hi => by
        rw [tab_gi _ _ _ hi]; have := yf_bd z1 i; omega
      have D5 : ∀ i, i < 0 → -1000000 ≤ gi (tab (bf (wv z0 0) z1) 0) i ∧ gi (tab (bf (wv z0 0) z1) 0) i ≤ 1000000 := fun i hi => by
        rw [tab_gi _ _ _ hi]; unfold bf; rw [show gi (wv z0 0) i = wvf z0 i from tab_gi _ _ _ hi]; have := wvf_bd z0 i; have := yf_bd z1 i; omega
      have AD := adds (wv z0 0) z1 (wl' z2 20 0) (tab (rf z3) 0) 0 0 (Nat.le_refl _)
      have HD1 := hidp D1
      have HD2 := hidp D2
      have HD3 := hidp D3
      have HD4 := hidp D4
      have HD5 := hidp D5
      have HAD := hidp AD
      have E1 := hidp (estS_bd 1000000 (wv z0 0) (wl' z2 20 0) (tab (rf z3) 0) (by omega) 0 (fun i hi => ⟨D2 i hi, D1 i hi⟩))
      have E2 := hidp (estS_bd 1000000 (tab (yf z1) 0) (wl' z2 20 0) (tab (rf z3) 0) (by omega) 0 (fun i hi => ⟨D2 i hi, D4 i hi⟩))
      clear D1 D2 D3 D4 D5 AD
      go_wp2_with fail
      refine (sum_ok _ _ _ 0 _ _ _ (wv z0 0) (wl' z2 20 0) (tab (rf z3) 0) _ (hav.below hbl) (hal.below hbl) har hN HD1.out HD2.out HD3.out).mono ?_
      rintro e ws ⟨rfl, hs1⟩
      generalize estS (wv z0 0) (wl' z2 20 0) (tab (rf z3) 0) 0 = S1 at *
      go_wp2_with fail
      refine (sum_ok _ _ _ 0 _ _ _ (tab (yf z1) 0) (wl' z2 20 0) (tab (rf z3) 0) _ (hay.below hs1) ((hal.below hbl).below hs1) (har.below hs1) hN HD4.out HD2.out HD3.out).mono ?_
      rintro e wt ⟨rfl, hs2⟩
      generalize estS (tab (yf z1) 0) (wl' z2 20 0) (tab (rf z3) 0) 0 = S2 at *
      go_wp2_with fail
      refine (sum_ok _ _ _ 0 _ _ _ (tab (bf (wv z0 0) z1) 0) (wl' z2 20 0) (tab (rf z3) 0) _ ((hab.below hs1).below hs2) (((hal.below hbl).below hs1).below hs2) ((har.below hs1).below hs2) hN HD5.out HD2.out HD3.out).mono ?_
      rintro e wu ⟨rfl, hs3⟩
      generalize estS (tab (bf (wv z0 0) z1) 0) (wl' z2 20 0) (tab (rf z3) 0) 0 = S3 at *
      have E1' := E1.out
      have E2' := E2.out
      have E3 : -41943040000000 ≤ S1 ∧ S1 ≤ 41943040000000 := by omega
      have E4 : -41943040000000 ≤ S2 ∧ S2 ≤ 41943040000000 := by omega
      obtain ⟨E5, E6⟩ := E3
      obtain ⟨E7, E8⟩ := E4
      clear E1' E2'
      go_wp2
      go_ret
      have hall : Below w.heap.size w wu := hbw.trans ((hbl.trans ((hs1.trans ((hs2.trans (hs3.mono hs2.size)).mono hs1.size)).mono hbl.size)).mono hbw.size)
      exact ⟨ret_bool (by rw [HAD.out]; simp), hall⟩
    · obtain ⟨bv, ov, rfl, hbv, hcv⟩ := hav.addr hN0
      have HCV := hidp hcv
      have DV : ∀ i, i < N → gi (wv z0 N) i = wvf z0 i := fun i hi => tab_gi _ _ _ hi
      have HDV := hidp DV
      clear hcv DV
      go_wp2_with fail
      go_loopw [13, 14, 15, 47] (fun y b r i wr => ∃ k : Nat, k ≤ N ∧ i = .int .i64 k ∧ wr.ownsRow wb.heap.size 3 1 y k ((tab (yf z1) k).map (Value.int .i64)) ∧ wr.ownsRow wb.heap.size 3 1 b k ((tab (bf (wv z0 N) z1) k).map (Value.int .i64)) ∧ wr.ownsRow wb.heap.size 3 1 r k ((tab (rf z3) k).map (Value.int .i64)) ∧ Apart y b ∧ Apart y r ∧ Apart b r ∧ Below wb.heap.size wb wr) (fun _ _ _ i _ => N - (intOf i).toNat)
      case atStart => exact ⟨0, by omega, rfl, World.ownsRow_nil _ _ _ _, World.ownsRow_nil _ _ _ _, World.ownsRow_nil _ _ _ _, .inl rfl, .inl rfl, .inl rfl, Below.refl _ _⟩
      case round =>
        obtain ⟨k, hk, rfl, hy, hb, hr, hyb, hyr, hbr, hbl⟩ := hrel
        by_cases hlt : k < N
        · have q0 := carry_cell ⟨hbv, HCV.out k hlt⟩ hbl
          have q7 := wvf_bd z0 k
          rw [← HDV.out k hlt] at q7
          obtain ⟨q8, q9⟩ := q7
          by_cases hk1 : k < len1 <;> by_cases hk3 : k < len3
          · first
            | (exfalso; have := hz1.out; omega)
            | (exfalso; have := hz3.out; omega)
            | (
            have q1 := carry_cell (HX1.out k hk1) (hbw.trans (hbl.mono hbw.size))
            have q2 := wi_lo (gi z1 k) 1000 (by omega)
            have q3 := wi_hi (gi z1 k) 1000 (by omega)
            have q4 := carry_cell (HX3.out k hk3) (hbw.trans (hbl.mono hbw.size))
            have q5 := drw_lo (gi z3 k)
            have q6 := drw_hi (gi z3 k)
            go_wp2_with (first | (at_builtin; refine wpList_append_new rfl (.tmp 70) (.tmp 72) 51 rfl wb.heap.size 3 _ 1 8 info_int rfl (by decide) Try.underlying51 _ k _ rfl hy rfl (one_int _ _) rfl (by omega) (by decide) hbl.size ?_; intro v1 x1 hy1 hg1 hd1; have hb1' := hb.kept hg1 hyb.symm; have hr1 := hr.kept hg1 hyr.symm; have hyb1 := hyb.grown hb hd1; have hyr1 := hyr.grown hr hd1; have hbl1 := append_step hy hbl (Nat.le_refl _) hg1; clear hy hb hr hg1 hd1 hyb hyr hbl) | (at_builtin; refine wpList_append_new rfl (.tmp 74) (.tmp 78) 51 rfl wb.heap.size 3 _ 1 8 info_int rfl (by decide) Try.underlying51 _ k _ rfl hb1' rfl (one_int _ _) rfl (by omega) (by decide) hbl1.size ?_; intro v2 x2 hb2 hg2 hd2; have hy2 := hy1.kept hg2 hyb1; have hr2 := hr1.kept hg2 hbr.symm; have hyb2 := (hyb1.symm.grown hy1 hd2).symm; have hbr2 := hbr.grown hr1 hd2; have hbl2 := append_step hb1' hbl1 (Nat.le_refl _) hg2; clear hy1 hb1' hr1 hg2 hd2 hyb1 hbr hbl1) | (at_builtin; refine wpList_append_new rfl (.tmp 80) (.tmp 82) 51 rfl wb.heap.size 3 _ 1 8 info_int rfl (by decide) Try.underlying51 _ k _ rfl hr2 rfl (one_int _ _) rfl (by omega) (by decide) hbl2.size ?_; intro v3 x3 hr3 hg3 hd3; have hy3 := hy2.kept hg3 hyr1; have hb3' := hb2.kept hg3 hbr2; have hyr3 := (hyr1.symm.grown hy2 hd3).symm; have hbr3 := (hbr2.symm.grown hb2 hd3).symm; have hbl3 := append_step hr2 hbl2 (Nat.le_refl _) hg3; clear hy2 hb2 hr2 hg3 hd3 hyr1 hbr2 hbl2) | (go_at_call 17; refine (within_c _ _ (by omega) (by omega) _).mono ?_; rintro e w' ⟨rfl, rfl⟩) | (go_at_call 16; refine (draw_c _ _).mono ?_; rintro e w' ⟨rfl, rfl⟩))
            go_roundw
            case rel => exact ⟨k + 1, by omega, by go_num, by rw [tab_snoc, List.map_append, yf, if_pos (by rw [L1.out]; omega)]; exact hy3, by rw [tab_snoc, List.map_append, bf, yf, if_pos (by rw [L1.out]; omega)]; exact hb3', by rw [tab_snoc, List.map_append, rf, if_pos (by rw [L3.out]; omega)]; exact hr3, hyb2, hyr3, hbr3, hbl3⟩
            case measure => simp [intOf]; omega)
          · first
            | (exfalso; have := hz1.out; omega)
            | (
            have q1 := carry_cell (HX1.out k hk1) (hbw.trans (hbl.mono hbw.size))
            have q2 := wi_lo (gi z1 k) 1000 (by omega)
            have q3 := wi_hi (gi z1 k) 1000 (by omega)
            go_wp2_with (first | (at_builtin; refine wpList_append_new rfl (.tmp 70) (.tmp 72) 51 rfl wb.heap.size 3 _ 1 8 info_int rfl (by decide) Try.underlying51 _ k _ rfl hy rfl (one_int _ _) rfl (by omega) (by decide) hbl.size ?_; intro v1 x1 hy1 hg1 hd1; have hb1' := hb.kept hg1 hyb.symm; have hr1 := hr.kept hg1 hyr.symm; have hyb1 := hyb.grown hb hd1; have hyr1 := hyr.grown hr hd1; have hbl1 := append_step hy hbl (Nat.le_refl _) hg1; clear hy hb hr hg1 hd1 hyb hyr hbl) | (at_builtin; refine wpList_append_new rfl (.tmp 74) (.tmp 78) 51 rfl wb.heap.size 3 _ 1 8 info_int rfl (by decide) Try.underlying51 _ k _ rfl hb1' rfl (one_int _ _) rfl (by omega) (by decide) hbl1.size ?_; intro v2 x2 hb2 hg2 hd2; have hy2 := hy1.kept hg2 hyb1; have hr2 := hr1.kept hg2 hbr.symm; have hyb2 := (hyb1.symm.grown hy1 hd2).symm; have hbr2 := hbr.grown hr1 hd2; have hbl2 := append_step hb1' hbl1 (Nat.le_refl _) hg2; clear hy1 hb1' hr1 hg2 hd2 hyb1 hbr hbl1) | (at_builtin; refine wpList_append_new rfl (.tmp 80) (.tmp 82) 51 rfl wb.heap.size 3 _ 1 8 info_int rfl (by decide) Try.underlying51 _ k _ rfl hr2 rfl (one_int _ _) rfl (by omega) (by decide) hbl2.size ?_; intro v3 x3 hr3 hg3 hd3; have hy3 := hy2.kept hg3 hyr1; have hb3' := hb2.kept hg3 hbr2; have hyr3 := (hyr1.symm.grown hy2 hd3).symm; have hbr3 := (hbr2.symm.grown hb2 hd3).symm; have hbl3 := append_step hr2 hbl2 (Nat.le_refl _) hg3; clear hy2 hb2 hr2 hg3 hd3 hyr1 hbr2 hbl2) | (go_at_call 17; refine (within_c _ _ (by omega) (by omega) _).mono ?_; rintro e w' ⟨rfl, rfl⟩) | (go_at_call 16; refine (draw_c _ _).mono ?_; rintro e w' ⟨rfl, rfl⟩))
            go_roundw
            case rel => exact ⟨k + 1, by omega, by go_num, by rw [tab_snoc, List.map_append, yf, if_pos (by rw [L1.out]; omega)]; exact hy3, by rw [tab_snoc, List.map_append, bf, yf, if_pos (by rw [L1.out]; omega)]; exact hb3', by rw [tab_snoc, List.map_append, rf, if_neg (by rw [L3.out]; omega)]; exact hr3, hyb2, hyr3, hbr3, hbl3⟩
            case measure => simp [intOf]; omega)
          · first
            | (exfalso; have := hz3.out; omega)
            | (
            have q4 := carry_cell (HX3.out k hk3) (hbw.trans (hbl.mono hbw.size))
            have q5 := drw_lo (gi z3 k)
            have q6 := drw_hi (gi z3 k)
            go_wp2_with (first | (at_builtin; refine wpList_append_new rfl (.tmp 70) (.tmp 72) 51 rfl wb.heap.size 3 _ 1 8 info_int rfl (by decide) Try.underlying51 _ k _ rfl hy rfl (one_int _ _) rfl (by omega) (by decide) hbl.size ?_; intro v1 x1 hy1 hg1 hd1; have hb1' := hb.kept hg1 hyb.symm; have hr1 := hr.kept hg1 hyr.symm; have hyb1 := hyb.grown hb hd1; have hyr1 := hyr.grown hr hd1; have hbl1 := append_step hy hbl (Nat.le_refl _) hg1; clear hy hb hr hg1 hd1 hyb hyr hbl) | (at_builtin; refine wpList_append_new rfl (.tmp 74) (.tmp 78) 51 rfl wb.heap.size 3 _ 1 8 info_int rfl (by decide) Try.underlying51 _ k _ rfl hb1' rfl (one_int _ _) rfl (by omega) (by decide) hbl1.size ?_; intro v2 x2 hb2 hg2 hd2; have hy2 := hy1.kept hg2 hyb1; have hr2 := hr1.kept hg2 hbr.symm; have hyb2 := (hyb1.symm.grown hy1 hd2).symm; have hbr2 := hbr.grown hr1 hd2; have hbl2 := append_step hb1' hbl1 (Nat.le_refl _) hg2; clear hy1 hb1' hr1 hg2 hd2 hyb1 hbr hbl1) | (at_builtin; refine wpList_append_new rfl (.tmp 80) (.tmp 82) 51 rfl wb.heap.size 3 _ 1 8 info_int rfl (by decide) Try.underlying51 _ k _ rfl hr2 rfl (one_int _ _) rfl (by omega) (by decide) hbl2.size ?_; intro v3 x3 hr3 hg3 hd3; have hy3 := hy2.kept hg3 hyr1; have hb3' := hb2.kept hg3 hbr2; have hyr3 := (hyr1.symm.grown hy2 hd3).symm; have hbr3 := (hbr2.symm.grown hb2 hd3).symm; have hbl3 := append_step hr2 hbl2 (Nat.le_refl _) hg3; clear hy2 hb2 hr2 hg3 hd3 hyr1 hbr2 hbl2) | (go_at_call 17; refine (within_c _ _ (by omega) (by omega) _).mono ?_; rintro e w' ⟨rfl, rfl⟩) | (go_at_call 16; refine (draw_c _ _).mono ?_; rintro e w' ⟨rfl, rfl⟩))
            go_roundw
            case rel => exact ⟨k + 1, by omega, by go_num, by rw [tab_snoc, List.map_append, yf, if_neg (by rw [L1.out]; omega)]; exact hy3, by rw [tab_snoc, List.map_append, bf, yf, if_neg (by rw [L1.out]; omega), Int.add_zero]; exact hb3', by rw [tab_snoc, List.map_append, rf, if_pos (by rw [L3.out]; omega)]; exact hr3, hyb2, hyr3, hbr3, hbl3⟩
            case measure => simp [intOf]; omega)
          · (
            go_wp2_with (first | (at_builtin; refine wpList_append_new rfl (.tmp 70) (.tmp 72) 51 rfl wb.heap.size 3 _ 1 8 info_int rfl (by decide) Try.underlying51 _ k _ rfl hy rfl (one_int _ _) rfl (by omega) (by decide) hbl.size ?_; intro v1 x1 hy1 hg1 hd1; have hb1' := hb.kept hg1 hyb.symm; have hr1 := hr.kept hg1 hyr.symm; have hyb1 := hyb.grown hb hd1; have hyr1 := hyr.grown hr hd1; have hbl1 := append_step hy hbl (Nat.le_refl _) hg1; clear hy hb hr hg1 hd1 hyb hyr hbl) | (at_builtin; refine wpList_append_new rfl (.tmp 74) (.tmp 78) 51 rfl wb.heap.size 3 _ 1 8 info_int rfl (by decide) Try.underlying51 _ k _ rfl hb1' rfl (one_int _ _) rfl (by omega) (by decide) hbl1.size ?_; intro v2 x2 hb2 hg2 hd2; have hy2 := hy1.kept hg2 hyb1; have hr2 := hr1.kept hg2 hbr.symm; have hyb2 := (hyb1.symm.grown hy1 hd2).symm; have hbr2 := hbr.grown hr1 hd2; have hbl2 := append_step hb1' hbl1 (Nat.le_refl _) hg2; clear hy1 hb1' hr1 hg2 hd2 hyb1 hbr hbl1) | (at_builtin; refine wpList_append_new rfl (.tmp 80) (.tmp 82) 51 rfl wb.heap.size 3 _ 1 8 info_int rfl (by decide) Try.underlying51 _ k _ rfl hr2 rfl (one_int _ _) rfl (by omega) (by decide) hbl2.size ?_; intro v3 x3 hr3 hg3 hd3; have hy3 := hy2.kept hg3 hyr1; have hb3' := hb2.kept hg3 hbr2; have hyr3 := (hyr1.symm.grown hy2 hd3).symm; have hbr3 := (hbr2.symm.grown hb2 hd3).symm; have hbl3 := append_step hr2 hbl2 (Nat.le_refl _) hg3; clear hy2 hb2 hr2 hg3 hd3 hyr1 hbr2 hbl2) | (go_at_call 17; refine (within_c _ _ (by omega) (by omega) _).mono ?_; rintro e w' ⟨rfl, rfl⟩) | (go_at_call 16; refine (draw_c _ _).mono ?_; rintro e w' ⟨rfl, rfl⟩))
            go_roundw
            case rel => exact ⟨k + 1, by omega, by go_num, by rw [tab_snoc, List.map_append, yf, if_neg (by rw [L1.out]; omega)]; exact hy3, by rw [tab_snoc, List.map_append, bf, yf, if_neg (by rw [L1.out]; omega), Int.add_zero]; exact hb3', by rw [tab_snoc, List.map_append, rf, if_neg (by rw [L3.out]; omega)]; exact hr3, hyb2, hyr3, hbr3, hbl3⟩
            case measure => simp [intOf]; omega)
        · obtain rfl : k = N := by omega
          obtain ⟨ay, cy, hye, hay⟩ := owns_ints hy (fun x hx => by obtain ⟨i, _, rfl⟩ := tab_mem _ _ _ hx; have := yf_bd z1 i; omega)
          obtain ⟨ab, cb, hbe, hab⟩ := owns_ints hb (fun x hx => by obtain ⟨i, hi, rfl⟩ := tab_mem _ _ _ hx; unfold bf; rw [show gi (wv z0 k) i = wvf z0 i from tab_gi _ _ _ hi]; have := wvf_bd z0 i; have := yf_bd z1 i; omega)
          obtain ⟨ar, cr, hre, har⟩ := owns_ints hr (fun x hx => by obtain ⟨i, _, rfl⟩ := tab_mem _ _ _ hx; have := rf_bd z3 i; omega)
          subst hye hbe hre
          clear hy hb hr hyb hyr hbr HDV HCV
          have D1 : ∀ i, i < k → -1000000 ≤ gi (wv z0 k) i ∧ gi (wv z0 k) i ≤ 1000000 := fun i hi => by
            rw [show gi (wv z0 k) i = wvf z0 i from tab_gi _ _ _ hi]; have := wvf_bd z0 i; omega
          have D2 : ∀ i, i < k → 0 ≤ gi (wl' z2 20 k) i ∧ gi (wl' z2 20 k) i ≤ 20 := fun i hi => by
            rw [show gi (wl' z2 20 k) i = wlf z2 20 i from tab_gi _ _ _ hi]; exact wlf_bd z2 20 (by omega) i
          have D3 : ∀ i, i < k → 0 ≤ gi (tab (rf z3) k) i ∧ gi (tab (rf z3) k) i < 72057594037927936 := fun i hi => by
            rw [tab_gi _ _ _ hi]; exact rf_bd z3 i
          have D4 : ∀ i, i < k → -1000000 ≤ gi (tab (yf z1) k) i ∧ gi (tab (yf z1) k) i ≤ 1000000 := fun i hi => by
            rw [tab_gi _ _ _ hi]; have := yf_bd z1 i; omega
          have D5 : ∀ i, i < k → -1000000 ≤ gi (tab (bf (wv z0 k) z1) k) i ∧ gi (tab (bf (wv z0 k) z1) k) i ≤ 1000000 := fun i hi => by
            rw [tab_gi _ _ _ hi]; unfold bf; rw [show gi (wv z0 k) i = wvf z0 i from tab_gi _ _ _ hi]; have := wvf_bd z0 i; have := yf_bd z1 i; omega
          have AD := adds (wv z0 k) z1 (wl' z2 20 k) (tab (rf z3) k) k k (Nat.le_refl _)
          have HD1 := hidp D1
          have HD2 := hidp D2
          have HD3 := hidp D3
          have HD4 := hidp D4
          have HD5 := hidp D5
          have HAD := hidp AD
          have E1 := hidp (estS_bd 1000000 (wv z0 k) (wl' z2 20 k) (tab (rf z3) k) (by omega) k (fun i hi => ⟨D2 i hi, D1 i hi⟩))
          have E2 := hidp (estS_bd 1000000 (tab (yf z1) k) (wl' z2 20 k) (tab (rf z3) k) (by omega) k (fun i hi => ⟨D2 i hi, D4 i hi⟩))
          clear D1 D2 D3 D4 D5 AD
          go_wp2_with fail
          refine (sum_ok _ _ _ k _ _ _ (wv z0 k) (wl' z2 20 k) (tab (rf z3) k) _ (hav.below hbl) (hal.below hbl) har hN HD1.out HD2.out HD3.out).mono ?_
          rintro e ws ⟨rfl, hs1⟩
          generalize estS (wv z0 k) (wl' z2 20 k) (tab (rf z3) k) k = S1 at *
          go_wp2_with fail
          refine (sum_ok _ _ _ k _ _ _ (tab (yf z1) k) (wl' z2 20 k) (tab (rf z3) k) _ (hay.below hs1) ((hal.below hbl).below hs1) (har.below hs1) hN HD4.out HD2.out HD3.out).mono ?_
          rintro e wt ⟨rfl, hs2⟩
          generalize estS (tab (yf z1) k) (wl' z2 20 k) (tab (rf z3) k) k = S2 at *
          go_wp2_with fail
          refine (sum_ok _ _ _ k _ _ _ (tab (bf (wv z0 k) z1) k) (wl' z2 20 k) (tab (rf z3) k) _ ((hab.below hs1).below hs2) (((hal.below hbl).below hs1).below hs2) ((har.below hs1).below hs2) hN HD5.out HD2.out HD3.out).mono ?_
          rintro e wu ⟨rfl, hs3⟩
          generalize estS (tab (bf (wv z0 k) z1) k) (wl' z2 20 k) (tab (rf z3) k) k = S3 at *
          have E1' := E1.out
          have E2' := E2.out
          have E3 : -41943040000000 ≤ S1 ∧ S1 ≤ 41943040000000 := by omega
          have E4 : -41943040000000 ≤ S2 ∧ S2 ≤ 41943040000000 := by omega
          obtain ⟨E5, E6⟩ := E3
          obtain ⟨E7, E8⟩ := E4
          clear E1' E2'
          go_wp2
          go_ret
          have hall : Below w.heap.size w wu := hbw.trans ((hbl.trans ((hs1.trans ((hs2.trans (hs3.mono hs2.size)).mono hs1.size)).mono hbl.size)).mono hbw.size)
          exact ⟨ret_bool (by rw [HAD.out]; simp), hall⟩
end Go.Proofs.Ytlkcdknbkchglaa.estAdds
