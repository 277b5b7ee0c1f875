/- The walk of ShareLevel: the law returns true at all inputs, and no old memory changes. -/
import Derived.Test.YtboacbimmggleaaShare
import Derived.Test.YtboacbimmggleaaStep
import Derived.Lib.MinMax
namespace Go.Proofs.Ytboacbimmggleaa.shareLevel
open Go.ChangeShapes Go.WideShapes Go.ChangeAt Go.RowKit
open Go.Proofs.Ytboacbimmggleaa

def sf (xs : List Int) (i : Nat) : Int := wi (gi xs i) 1073741824
theorem sf_bd (xs : List Int) (i : Nat) : 0 ≤ sf xs i ∧ sf xs i ≤ 1073741823 := by
  unfold sf
  have := wi_lo (gi xs i) 1073741824 (by omega)
  have := wi_hi (gi xs i) 1073741824 (by omega)
  omega
theorem shS_tab (f : Nat → Int) (k : Nat) : ∀ (n m : Nat), m ≤ n → shS (tab f n) k m = shS (tab f m) k m
  | n, 0, _ => rfl
  | n, m + 1, h => by
    simp only [shS]
    rw [tab_gi _ _ _ (by omega), tab_gi _ _ _ (by omega), shS_tab f k n m (by omega), shS_tab f k (m + 1) m (by omega)]
theorem half_mono (x : Int) (h : 0 ≤ x) (k : Nat) : x / 2 ^ (k + 1) ≤ x / 2 ^ k := by
  obtain ⟨X, rfl⟩ := Int.eq_ofNat_of_zero_le h
  have : X / 2 ^ (k + 1) ≤ X / 2 ^ k := by
    rw [Nat.pow_succ, ← Nat.div_div_eq_div_mul]
    exact Nat.div_le_self _ _
  have e : ∀ j : Nat, (X : Int) / 2 ^ j = ((X / 2 ^ j : Nat) : Int) := fun j => by rw [Int.natCast_ediv, Int.natCast_pow]; rfl
  rw [e, e]
  omega
theorem shS_step (xs : List Int) (k : Nat) : ∀ m, (∀ i, i < m → 0 ≤ gi xs i) → shS xs (k + 1) m ≤ shS xs k m
  | 0, _ => Int.le_refl _
  | m + 1, h => by
    have a := shS_step xs k m (fun i hi => h i (by omega))
    have b := half_mono (gi xs m) (h m (by omega)) k
    simp only [shS]
    omega
theorem shS_anti (xs : List Int) (m : Nat) (h : ∀ i, i < m → 0 ≤ gi xs i) (j : Nat) : ∀ d, shS xs (j + d) m ≤ shS xs j m
  | 0 => Int.le_refl _
  | d + 1 => Int.le_trans (shS_step xs (j + d) m h) (shS_anti xs m h j d)
/-- The first level at which there is room, 21 if there is none. -/
theorem first (room : Int) (S : Nat → Int) : ∀ f k, k + f = 21 → (∀ j, j < k → room < S j) → ∃ K, K ≤ 21 ∧ (∀ j, j < K → room < S j) ∧ (K < 21 → S K ≤ room)
  | 0, k, h, hb => ⟨k, by omega, hb, fun h2 => by omega⟩
  | f + 1, k, h, hb => by
    by_cases hr : S k ≤ room
    · exact ⟨k, by omega, hb, fun _ => hr⟩
    · exact first room S f (k + 1) (by omega) (fun j hj => by
        by_cases e : j = k
        · subst e; omega
        · exact hb j (by omega))
theorem law_lt (xs : List Int) (n : Nat) (h : ∀ i, i < n → 0 ≤ gi xs i) (room : Int) (K k : Nat) (h1 : ∀ j, j < K → room < shS xs j n) (h2 : shS xs K n ≤ room) : decide (K ≤ k) = decide (shS xs k n ≤ room) := by
  rw [decide_eq_decide]
  constructor
  · intro hk
    have := shS_anti xs n h K (k - K)
    rw [show K + (k - K) = k by omega] at this
    omega
  · intro hk
    by_cases e : K ≤ k
    · exact e
    · have := h1 k (by omega); omega
theorem law_mono (xs : List Int) (n : Nat) (room more : Int) (hm : 0 ≤ more) (K M : Nat) (h2 : shS xs K n ≤ room) (h3 : ∀ j, j < M → room + more < shS xs j n) : M ≤ K := by
  by_cases e : M ≤ K
  · exact e
  · have := h3 K (by omega); omega
theorem ex1 : ∀ j, j < 1 + 1 → (3 : Int) < shS [4, 4] j 2 := fun j hj => match j, hj with | 0, _ => by decide +kernel | 1, _ => by decide +kernel

set_option linter.unusedVariables false
set_option maxHeartbeats 4000000 in
theorem walk (a0 : Int) (a1 : Int) (a2 : Option Addr) (len2 cap2 : Nat) (z2 : List Int) (a3 : Int) (w : World)
    (w0 : (Lit.int .i64 a0).wf = true) (w1 : (Lit.int .i64 a1).wf = true) (w2 : IntsAt w a2 len2 cap2 z2) (w3 : (Lit.int .i64 a3).wf = true) :
    Calls Try.prog 5 #[.int .i64 a0, .int .i64 a1, .slice a2 len2 cap2, .int .i64 a3] w fun e w' => e = .returned (.bool true) ∧ Below w.heap.size w w' := by
  obtain ⟨b2, o2, hy, hx2⟩ := w2.split
  have hy' : Hid (len2 = 0) ∨ a2 = some ⟨b2, o2, none⟩ := hy.imp_left hidp
  have HX2 := hidp hx2
  have mm := w2.max
  have ee := w2.le
  obtain ⟨N, hN⟩ : ∃ N : Nat, N = min len2 40 := ⟨_, rfl⟩
  have hN1 : N ≤ 40 := by omega
  have hN2 : N ≤ len2 := by omega
  have hmin : min (len2 : Int) 40 = (N : Int) := by omega
  have r0 := wi_lo a0 1000000 (by omega)
  have r1 := wi_hi a0 1000000 (by omega)
  have m0 := wi_lo a1 1000000 (by omega)
  have m1 := wi_hi a1 1000000 (by omega)
  obtain ⟨k, hk⟩ : ∃ k, k = wn a3 21 := ⟨_, rfl⟩
  have hk1 := wn_lt a3 21 (by omega)
  rw [← hk] at hk1
  have ck := withinN_c a3 21 (by omega) (by omega)
  rw [← hk] at ck
  have CK := hidp ck
  clear hx2 hy w2 hN w0 w1 w3 hk ck
  go_enter Try.func5, Try.ntmps5
  go_wp2_with fail
  refine (level_c _ _ 2 2 [4, 4] _ ?s0 (by omega) ?s1 (by omega) (by omega) 2 (by omega) ex1 (fun _ => by decide +kernel)).mono ?_
  case s0 => exact ints_lit [4, 4] (by simp) (by rfl) (by rfl) (by simp) (by omega)
  case s1 => intro i hi; match i, hi with | 0, _ => decide | 1, _ => decide
  rintro e wa ⟨rfl, hba⟩
  rw [show lvA 2 = 2 from rfl, show lvB 2 = 0 from rfl]
  have hwa : Below w.heap.size w wa := bstep (bal (Below.refl _ _) _) hba
  clear hba
  go_wp2_with fail
  refine (within_c _ _ (by omega) (by omega) _).mono ?_; rintro e w' ⟨rfl, rfl⟩
  go_wp2_with fail
  refine (within_c _ _ (by omega) (by omega) _).mono ?_; rintro e w' ⟨rfl, rfl⟩
  go_wp2_with fail
  refine (CK.out _).mono ?_; rintro e w' ⟨rfl, rfl⟩
  generalize wi a0 1000000 = room at *
  generalize wi a1 1000000 = more at *
  go_wp2_with fail
  go_loopw [11, 12, 42] (fun s v i wr => ∃ m : Nat, m ≤ N ∧ i = .int .i64 m ∧ s = .int .i64 (shS (tab (sf z2) m) k m) ∧ wr.ownsRow wa.heap.size 3 1 v m ((tab (sf z2) m).map (Value.int .i64)) ∧ Below wa.heap.size wa wr) (fun _ _ i _ => N - (intOf i).toNat)
  case atStart => exact ⟨0, by omega, rfl, rfl, World.ownsRow_nil _ _ _ _, Below.refl _ _⟩
  case round =>
    obtain ⟨m, hm, rfl, rfl, hv, hbl⟩ := hrel
    have sb := shS_bd (tab (sf z2) m) k m (fun i hi => by rw [tab_gi _ _ _ hi]; have := sf_bd z2 i; omega) m (Nat.le_refl _)
    obtain ⟨sb1, sb2⟩ := sb
    by_cases hmn : m < N
    · obtain rfl : a2 = some ⟨b2, o2, none⟩ := hy'.resolve_left (fun e => by have := e.out; omega)
      have q0 := carry_cell (HX2.out m (by omega)) (bstep hwa hbl)
      have q1 := sf_bd z2 m
      have q2 := sh_bd (sf z2 m) k q1.1
      have E := hidp (show shS (tab (sf z2) (m + 1)) k (m + 1) = shS (tab (sf z2) m) k m + sf z2 m / 2 ^ k by
        simp only [shS]; rw [tab_gi _ _ _ (by omega), shS_tab _ _ _ _ (by omega)])
      go_wp2_with fail
      refine (within_c _ _ (by omega) (by omega) _).mono ?_; rintro e w' ⟨rfl, rfl⟩
      rw [show wi (gi z2 m) 1073741824 = sf z2 m from rfl]
      obtain ⟨q1, q1'⟩ := q1
      obtain ⟨q2, q2'⟩ := q2
      go_wp2_with fail
      go_region_law (refine step_append_new wr ⟨rfl, rfl, rfl, rfl⟩ rfl (.tmp 48) (.tmp 50) 22 rfl wa.heap.size 3 _ 1 8 info_int rfl (by decide) Try.underlying22 u12 m _ (by simp [Act.eval]) hv rfl (one_int _ _) (by simp [Act.eval]) (by omega) (by decide) hbl.size ?_; intro v0 x0 nw g0 d0; have bl0 := append_step hv hbl (Nat.le_refl _) g0; clear g0 d0 hv hbl)
      go_wp2
      go_roundw
      case rel => exact ⟨m + 1, by omega, by go_num, by rw [E.out], by rw [tab_snoc, List.map_append]; exact nw, bl0⟩
      case measure => simp [intOf]; omega
    · obtain rfl : m = N := by omega
      obtain ⟨av, cv, hve, hav⟩ := owns_ints hv (fun x hx => by
        obtain ⟨i, hi, rfl⟩ := tab_mem _ _ _ hx
        have := sf_bd z2 i
        omega)
      subst hve
      have D : ∀ i, i < m → 0 ≤ gi (tab (sf z2) m) i ∧ gi (tab (sf z2) m) i ≤ 1000000000000 := fun i hi => by
        rw [tab_gi _ _ _ hi]; have := sf_bd z2 i; omega
      obtain ⟨K, hK, hl, hk⟩ := first room (fun j => shS (tab (sf z2) m) j m) 21 0 (by omega) (fun j hj => by omega)
      obtain ⟨M, hM, hml, hmk⟩ := first (room + more) (fun j => shS (tab (sf z2) m) j m) 21 0 (by omega) (fun j hj => by omega)
      have C1 := hidp (fun w h => level_c room av m cv (tab (sf z2) m) w h hN1 D r0 (by omega) K hK hl hk)
      have C2 := hidp (fun w h => level_c (room + more) av m cv (tab (sf z2) m) w h hN1 D (by omega) (by omega) M hM hml hmk)
      have hwr : Below w.heap.size w wr := bstep hwa hbl
      rcases Nat.lt_or_ge K 21 with hK21 | hK21
      · have L1 := law_lt (tab (sf z2) m) m (fun i hi => (D i hi).1) room K k hl (hk hK21)
        have L2 := law_mono (tab (sf z2) m) m room more m0 K M (hk hK21) hml
        have A1 := hidp (show lvA K = K by unfold lvA; rw [if_pos hK21])
        have B1 := hidp (show lvB K = 0 by unfold lvB; rw [if_pos hK21])
        have A2 := hidp (show lvA M = M by unfold lvA; rw [if_pos (by omega)])
        have B2 := hidp (show lvB M = 0 by unfold lvB; rw [if_pos (by omega)])
        have HLL := hidp L1
        clear L1 hl hk hml hmk D hv
        generalize shS (tab (sf z2) m) k m = S at *
        go_wp2_with fail
        refine (C1.out _ hav).mono ?_
        rintro e w1 ⟨rfl, hb1⟩
        rw [A1.out, B1.out]
        go_wp2_with fail
        refine (C2.out _ (hav.below hb1)).mono ?_
        rintro e w2 ⟨rfl, hb2⟩
        rw [A2.out, B2.out]
        have hML : (M : Int) ≤ (K : Int) := by omega
        go_wp2_with fail
        go_ret
        exact ⟨ret_bool (by rw [HLL.out]; simp), bstep (bstep hwr hb1) hb2⟩
      · obtain rfl : K = 21 := by omega
        have hgt : room < shS (tab (sf z2) m) k m := hl k (by omega)
        clear hl hk hml hmk D hv
        generalize shS (tab (sf z2) m) k m = S at *
        go_wp2_with fail
        refine (C1.out _ hav).mono ?_
        rintro e w1 ⟨rfl, hb1⟩
        rw [show lvA 21 = 0 from rfl, show lvB 21 = 4 from rfl]
        go_wp2_with fail
        refine (C2.out _ (hav.below hb1)).mono ?_
        rintro e w2 ⟨rfl, hb2⟩
        go_wp2_with fail
        go_ret
        exact ⟨rfl, bstep (bstep hwr hb1) hb2⟩
end Go.Proofs.Ytboacbimmggleaa.shareLevel
