/- The walk of EstWider: the law returns true at all inputs, and no old memory changes. -/
import Derived.Test.YtboacbimmggleaaSpread
import Derived.Test.YtboacbimmggleaaWorth
import Derived.Test.YtboacbimmggleaaClone
namespace Go.Proofs.Ytboacbimmggleaa.estWider
open Go.ChangeShapes Go.WideShapes Go.ChangeAt Go.RowKit
open Go.Proofs.Ytboacbimmggleaa

theorem ex1 : sprS [-3] [2] 1 = 27 := by decide +kernel
theorem spr1_mono (v : Int) (m : Nat) : spr1 v (m : Int) ≤ spr1 v ((m + 1 : Nat) : Int) := by
  unfold spr1
  rw [Int.toNat_natCast, Int.toNat_natCast]
  have e : v * v = (v.natAbs : Int) * (v.natAbs : Int) := by rw [← Int.natCast_mul, Int.natAbs_mul_self]
  have h : (0 : Int) ≤ v * v := by rw [e]; exact Int.mul_nonneg (by omega) (by omega)
  have p : (2 : Int) ^ (m + 1) = 2 ^ m * 2 := Int.pow_succ _ _
  have q : (0 : Int) < 2 ^ m := Int.pow_pos (by omega)
  exact Int.mul_le_mul_of_nonneg_left (by omega) h
/-- The levels, of which one is raised. -/
def mf (f : Nat → Int) (p : Nat) (i : Nat) : Int := if i = p then f p + 1 else f i
theorem wider (vs : List Int) (f : Nat → Int) (hf : ∀ i, 0 ≤ f i) (p n : Nat) : ∀ k, k ≤ n → sprS vs (tab f n) k ≤ sprS vs (tab (mf f p) n) k
  | 0, _ => Int.le_refl _
  | k + 1, h => by
    have a := wider vs f hf p n k (by omega)
    simp only [sprS]
    rw [tab_gi _ _ _ (by omega), tab_gi _ _ _ (by omega)]
    have b : spr1 (gi vs k) (f k) ≤ spr1 (gi vs k) (mf f p k) := by
      unfold mf
      split
      · rename_i hp
        subst hp
        obtain ⟨m, hm⟩ := Int.eq_ofNat_of_zero_le (hf k)
        rw [hm]
        exact spr1_mono _ m
      · exact Int.le_refl _
    omega
theorem scaled (f : Nat → Int) (ls : List Int) (T : Int) (n : Nat) : ∀ k, k ≤ n → sprS (tab (fun i => f i * T) n) ls k = sprS (tab f n) ls k * T * T
  | 0, _ => by simp [sprS]
  | k + 1, h => by
    have a := scaled f ls T n k (by omega)
    simp only [sprS]
    rw [a, tab_gi _ _ _ (by omega), tab_gi _ _ _ (by omega)]
    unfold spr1
    generalize (2 : Int) ^ (gi ls k).toNat - 1 = P
    rw [Int.add_mul, Int.add_mul]
    congr 1
    ac_rfl
theorem flat (vs : List Int) (n : Nat) : ∀ k, k ≤ n → sprS vs (tab (fun _ => 0) n) k = 0
  | 0, _ => rfl
  | k + 1, h => by
    have a := flat vs n k (by omega)
    simp only [sprS]
    rw [a, tab_gi _ _ _ (by omega)]
    unfold spr1
    simp

theorem owns_addr {w : World} {B : Nat} {e : TypeId} {size : Nat} {v : Value} {n : Nat} {xs : List Value} (h : w.ownsRow B e size v n xs) (hn : 0 < n) : ∃ g cap, v = .slice (some ⟨g, 0, none⟩) n cap ∧ B ≤ g ∧ g < w.heap.size ∧ n ≤ cap ∧ cap ≤ 9223372036854775807 := by
  rcases h.2 with ⟨_, h0⟩ | ⟨g, cap, cur, hv, hg, hh, hnc, hm, _⟩
  · omega
  · unfold maxLen at hm
    exact ⟨g, cap, hv, hg, (Array.getElem?_eq_some_iff.1 hh).1, hnc, hm⟩

set_option linter.unusedVariables false
set_option maxHeartbeats 2000000 in
theorem walk (a0 : Option Addr) (len0 cap0 : Nat) (z0 : List Int) (a1 : Option Addr) (len1 cap1 : Nat) (z1 : List Int) (a2 : Int) (a3 : Int) (w : World)
    (w0 : IntsAt w a0 len0 cap0 z0) (w1 : IntsAt w a1 len1 cap1 z1) (w2 : (Lit.int .i64 a2).wf = true) (w3 : (Lit.int .i64 a3).wf = true) :
    Calls Try.prog 7 #[.slice a0 len0 cap0, .slice a1 len1 cap1, .int .i64 a2, .int .i64 a3] w fun e w' => e = .returned (.bool true) ∧ Below w.heap.size w w' := by
  obtain ⟨ib, hib, hz0, hz1, hz2⟩ := info_parts info_int
  have t0 := wi_lo a3 20 (by omega)
  have t1 := wi_hi a3 20 (by omega)
  clear w2 w3
  go_enter Try.func7, Try.ntmps7
  go_wp2_with fail
  refine (spread_c _ _ 1 1 1 [-3] [2] _ ?s0 ?s1 (by omega) ?s2 ?s3).mono ?_
  case s0 => exact (ints_lit [-3] (by simp) (by rfl) (by rfl) (by simp) (by omega)).alloc _
  case s1 => exact ints_lit [2] (by simp) (by rfl) (by rfl) (by simp) (by omega)
  case s2 => intro i hi; match i, hi with | 0, _ => decide
  case s3 => intro i hi; match i, hi with | 0, _ => decide
  rintro e wa ⟨rfl, rfl⟩
  rw [ex1]
  go_wp2_with fail
  refine (worth_i a0 a1 len0 cap0 len1 cap1 z0 z1 20 9 _ ?f0 ?f1 (by omega) (by omega) (by omega)).mono ?_
  case f0 => exact (w0.alloc _).alloc _
  case f1 => exact (w1.alloc _).alloc _
  rintro e wb ⟨av, al, cv, cl, rfl, hav, hal, hbb⟩
  have hwb : Below w.heap.size w wb := (((Below.refl _ _).alloc (Nat.le_refl _) _).alloc (by simp) _).trans (hbb.mono (by simp; omega))
  have hN : min len0 20 ≤ 20 := by omega
  generalize min len0 20 = N at *
  have mv := hidp hav.max
  have ml := hidp hal.max
  clear hbb w0 w1
  have D1 : ∀ i, i < N → -100000 ≤ gi (wv z0 N) i ∧ gi (wv z0 N) i ≤ 100000 := fun i hi => by
    rw [show gi (wv z0 N) i = wvf z0 i from tab_gi _ _ _ hi]; have := wvf_bd z0 i; omega
  have D2 : ∀ i, i < N → 0 ≤ gi (wl' z1 9 N) i ∧ gi (wl' z1 9 N) i ≤ 20 := fun i hi => by
    rw [show gi (wl' z1 9 N) i = wlf z1 9 i from tab_gi _ _ _ hi]; have := wlf_bd z1 9 (by omega) i; omega
  have HD1 := hidp D1
  have HD2 := hidp D2
  clear D1 D2
  go_wp2_with fail
  refine (within_c _ _ (by omega) (by omega) _).mono ?_; rintro e w' ⟨rfl, rfl⟩
  generalize wi a3 20 = T at *
  rcases Nat.eq_zero_or_pos N with hz | hz
  · subst hz
    go_wp2
    go_ret
    exact ⟨rfl, hwb⟩
  · have hz' : ((N : Int) == 0) = false := by rw [beq_eq_false_iff_ne]; omega
    go_wp2_with fail
    refine (clonei_c _ _ _ _ _ hal (by omega)).mono ?_
    rintro e wc ⟨m, rfl, hm, hbc⟩
    obtain ⟨g, cm, hme, hgB, hgl, hncm, hcm⟩ := owns_addr hm hz
    subst hme
    obtain ⟨p, hp⟩ : ∃ p, p = wn a2 (N : Int) := ⟨_, rfl⟩
    have hp1 := wn_lt a2 (N : Int) (by omega)
    have cp := withinN_c a2 (N : Int) (by omega) (by omega)
    rw [← hp] at hp1 cp
    have CP := hidp cp
    have hpn : p < N := by omega
    have q1 : wc.cell? ⟨g, p, none⟩ = some (.int .i64 (wlf z1 9 p)) := by
      rw [hm.cellAt p (by omega)]
      unfold wl'
      rw [tab_map, tab_get _ _ _ hpn]
    have q2 := hm.frozenAt p
    have q3 := wlf_bd z1 9 (by omega) p
    obtain ⟨q3, q4⟩ := q3
    unfold wl' at hm
    rw [tab_map] at hm
    have hm2 := own_store_tab hm p (.int .i64 (wlf z1 9 p + 1))
    have em : tab (fun i => if i = p then Value.int .i64 (wlf z1 9 p + 1) else Value.int .i64 (wlf z1 9 i)) N = (tab (mf (wlf z1 9) p) N).map (Value.int .i64) := by
      rw [tab_map]
      exact tab_congr _ _ _ (fun i _ => by unfold mf; split <;> rfl)
    rw [em] at hm2
    have hbd : Below w.heap.size w (wc.setCell ⟨g, p, none⟩ (.int .i64 (wlf z1 9 p + 1))) := (bstep hwb hbc).setCell (Nat.le_trans (by have := hwb.size; omega) hgB) _
    have hvd : Below wb.heap.size wb (wc.setCell ⟨g, p, none⟩ (.int .i64 (wlf z1 9 p + 1))) := hbc.setCell hgB _
    have HM2 := hidp hm2
    clear cp hp em hm2 hm
    go_wp2_with fail
    refine (CP.out _).mono ?_; rintro e w' ⟨rfl, rfl⟩
    obtain ⟨bv, ov, rfl, hbv, hcv⟩ := hav.addr hz
    have HCV := hidp hcv
    clear hcv
    go_wp2_with fail
    generalize wc.setCell ⟨g, p, none⟩ (.int .i64 (wlf z1 9 p + 1)) = wd at *
    have hbv' : bv < wd.heap.size := by have := hvd.size; omega
    go_loopw [14, 61] (fun v i wr => ∃ k : Nat, k ≤ N ∧ i = .int .i64 k ∧ wr.ownsRow wd.heap.size 3 1 v k ((tab (fun i => wvf z0 i * T) k).map (Value.int .i64)) ∧ Below wd.heap.size wd wr) (fun _ i _ => N - (intOf i).toNat)
    case atStart => exact ⟨0, by omega, rfl, World.ownsRow_nil _ _ _ _, Below.refl _ _⟩
    case round =>
      obtain ⟨k, hk, rfl, hw, hbl⟩ := hrel
      by_cases hlt : k < N
      · have q5 := carry_cell ⟨hbv, HCV.out k hlt⟩ (hvd.trans (hbl.mono hvd.size))
        rw [show gi (wv z0 N) k = wvf z0 k from tab_gi _ _ _ hlt] at q5
        have q6 := wvf_bd z0 k
        have q7 : -19000 ≤ wvf z0 k * T ∧ wvf z0 k * T ≤ 19000 := by
          obtain ⟨T', rfl⟩ := Int.eq_ofNat_of_zero_le t0
          have a1 : wvf z0 k * (T' : Int) ≤ 1000 * (T' : Int) := Int.mul_le_mul_of_nonneg_right q6.2 (by omega)
          have a2 : -1000 * (T' : Int) ≤ wvf z0 k * (T' : Int) := Int.mul_le_mul_of_nonneg_right q6.1 (by omega)
          omega
        obtain ⟨q8, q9⟩ := q7
        clear q6
        go_wp2_with (first | (at_builtin; refine wpList_append_new rfl (.tmp 65) (.tmp 69) 22 rfl wd.heap.size 3 _ 1 8 info_int rfl (by decide) Try.underlying22 _ k _ rfl hw rfl (one_int _ _) rfl rfl (by omega) (by decide) hbl.size ?_; intro v0 x0 nw g0 d0; have bl0 := append_step hw hbl (Nat.le_refl _) g0; clear g0 d0 hw hbl))
        go_roundw
        case rel => exact ⟨k + 1, by omega, by go_num, by rw [tab_snoc, List.map_append]; exact nw, bl0⟩
        case measure => simp [intOf]; omega
      · obtain rfl : k = N := by omega
        have q6 : ∀ i, i < k → -100000 ≤ gi (tab (fun i => wvf z0 i * T) k) i ∧ gi (tab (fun i => wvf z0 i * T) k) i ≤ 100000 := fun i hi => by
          rw [tab_gi _ _ _ hi]
          have q6 := wvf_bd z0 i
          obtain ⟨T', rfl⟩ := Int.eq_ofNat_of_zero_le t0
          have a1 : wvf z0 i * (T' : Int) ≤ 1000 * (T' : Int) := Int.mul_le_mul_of_nonneg_right q6.2 (by omega)
          have a2 : -1000 * (T' : Int) ≤ wvf z0 i * (T' : Int) := Int.mul_le_mul_of_nonneg_right q6.1 (by omega)
          omega
        obtain ⟨aw, cw, hwe, haw⟩ := owns_ints hw (fun x hx => by
          obtain ⟨i, hi, rfl⟩ := tab_mem _ _ _ hx
          have := q6 i hi
          rw [tab_gi _ _ _ hi] at this
          omega)
        subst hwe
        obtain ⟨am, cm', hme, ham⟩ := owns_ints HM2.out (fun x hx => by
          obtain ⟨i, hi, rfl⟩ := tab_mem _ _ _ hx
          have := wlf_bd z1 9 (by omega) i
          have := wlf_bd z1 9 (by omega) p
          unfold mf; split <;> omega)
        simp only [Value.slice.injEq] at hme
        obtain ⟨rfl, _, rfl⟩ := hme
        have D3 : ∀ i, i < k → 0 ≤ gi (tab (mf (wlf z1 9) p) k) i ∧ gi (tab (mf (wlf z1 9) p) k) i ≤ 20 := fun i hi => by
          rw [tab_gi _ _ _ hi]
          have := wlf_bd z1 9 (by omega) i
          have := wlf_bd z1 9 (by omega) p
          unfold mf; split <;> omega
        have HD3 := hidp D3
        have HQ6 := hidp q6
        have havr := (hav.below hvd).below hbl
        have halr := (hal.below hvd).below hbl
        have hamr := ham.below hbl
        have P1 := hidp (wider (wv z0 k) (wlf z1 9) (fun i => (wlf_bd z1 9 (by omega) i).1) p k k (Nat.le_refl _))
        have P2 := hidp (scaled (wvf z0) (wl' z1 9 k) T k k (Nat.le_refl _))
        have P3 := hidp (flat (wv z0 k) k k (Nat.le_refl _))
        have P4 := hidp (sprS_bd (wv z0 k) (wl' z1 9 k) k (fun i hi => ⟨HD1.out i hi, HD2.out i hi⟩))
        have P5 := hidp (sprS_bd (tab (fun i => wvf z0 i * T) k) (wl' z1 9 k) k (fun i hi => ⟨q6 i hi, HD2.out i hi⟩))
        clear D3 q6 hw hav hal ham
        go_wp2_with fail
        refine (spread_c _ _ _ _ _ _ _ _ havr halr (by omega) HD1.out HD2.out).mono ?_
        rintro e w' ⟨rfl, rfl⟩
        go_wp2_with fail
        refine (spread_c _ _ _ _ _ _ _ _ havr hamr (by omega) HD1.out HD3.out).mono ?_
        rintro e w' ⟨rfl, rfl⟩
        go_wp2_with fail
        refine (spread_c _ _ _ _ _ _ _ _ haw halr (by omega) HQ6.out HD2.out).mono ?_
        rintro e w' ⟨rfl, rfl⟩
        go_wp2_with (at_make; refine wpList_make_full wr rfl _ _ 22 rfl wr.heap.size 3 ib (.int .i64 0) 1 Try.underlying22 hib hz0 hz1 .i64 .i64 k k k rfl rfl rfl rfl (by rw [hz2]; omega) (by unfold maxLen; omega) (Nat.le_refl _) ?_; intro we how hgr)
        have haz : IntsAt we (some ⟨wr.heap.size, 0, none⟩) k k (tab (fun _ => 0) k) := by
          have how' : we.ownsRow wr.heap.size 3 1 (.slice (some ⟨wr.heap.size, 0, none⟩) k k) k ((tab (fun _ => (0 : Int)) k).map (Value.int .i64)) := by
            rw [tab_map, ← made_tab]; exact how
          obtain ⟨az, cz, hze, haz⟩ := owns_ints how' (fun x hx => by obtain ⟨i, _, rfl⟩ := tab_mem _ _ _ hx; omega)
          simp only [Value.slice.injEq] at hze
          obtain ⟨rfl, _, rfl⟩ := hze
          exact haz
        have hbe : Below wr.heap.size wr we := (Below.refl _ _).grown hgr (Nat.le_refl _) (fun k hk => by simp at hk)
        have hall : Below w.heap.size w we := bstep (bstep hbd hbl) hbe
        refine (spread_c _ _ _ _ _ _ _ _ (havr.below hbe) haz (by omega) HD1.out (fun i hi => by rw [tab_gi _ _ _ hi]; omega)).mono ?_
        rintro e w' ⟨rfl, rfl⟩
        rw [P3.out]
        have P1' := P1.out
        have P2' := P2.out
        have P4' := P4.out
        have P5' := P5.out
        rw [show tab (wvf z0) k = wv z0 k from rfl] at P2'
        rw [show wl' z1 9 k = tab (wlf z1 9) k from rfl] at *
        generalize sprS (wv z0 k) (tab (wlf z1 9) k) k = A at *
        generalize sprS (wv z0 k) (tab (mf (wlf z1 9) p) k) k = B at *
        generalize sprS (tab (fun i => wvf z0 i * T) k) (tab (wlf z1 9) k) k = C at *
        have b1 : A ≤ 209715000000000000 := by omega
        have b2 : 0 ≤ A := P4'.1
        have b3 : A * T ≤ 209715000000000000 * 19 := by
          obtain ⟨T', rfl⟩ := Int.eq_ofNat_of_zero_le t0
          obtain ⟨A', rfl⟩ := Int.eq_ofNat_of_zero_le b2
          exact mul_le_cast (A := 209715000000000000) (B := 19) (by omega) (by omega)
        have b4 : 0 ≤ A * T := Int.mul_nonneg b2 t0
        have b5 : A * T * T ≤ 209715000000000000 := by rw [← P2']; omega
        have b6 : 0 ≤ A * T * T := by rw [← P2']; omega
        have P2'' := hidp P2'
        clear P2' P5' P4' P1 P2 P3 P4 P5
        go_wp2
        go_ret
        exact ⟨rfl, hall⟩
end Go.Proofs.Ytboacbimmggleaa.estWider
