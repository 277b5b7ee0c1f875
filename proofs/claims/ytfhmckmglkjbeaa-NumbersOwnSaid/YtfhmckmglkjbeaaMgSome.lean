/- Merged: SomeMath, Comb, Some. -/
import Derived.Test.YtfhmckmglkjbeaaCombMath
import Derived.Test.YtfhmckmglkjbeaaBase
import Derived.Test.YtfhmckmglkjbeaaTake
/- The search of comb.Some (plain Lean, no program in sight) and its laws. -/
namespace Go.Proofs.Ytfhmckmglkjbeaa.CombMath

theorem wz_step_tab : ∀ n, n < 30 → ∀ k, k < 31 → wz n k ≤ wz (n + 1) k := by decide +kernel
theorem wz_pas_tab : ∀ n, n < 30 → ∀ k, k < 30 → wz (n + 1) (k + 1) = wz n k + wz n (k + 1) := by decide +kernel
theorem wz_one_tab : ∀ n, n < 31 → wz n 1 = n := by decide +kernel
theorem wz_mono (k : Nat) (hk : k ≤ 30) : ∀ d n, n + d ≤ 30 → wz n k ≤ wz (n + d) k
  | 0, n, _ => Nat.le_refl _
  | d + 1, n, h => Nat.le_trans (wz_mono k hk d n (by omega)) (wz_step_tab (n + d) (by omega) k (by omega))
theorem wz_le_of (k : Nat) (hk : k ≤ 30) {m n : Nat} (h : m ≤ n) (hn : n ≤ 30) : wz m k ≤ wz n k := by
  have := wz_mono k hk (n - m) m (by omega)
  rwa [show m + (n - m) = n by omega] at this
/-- Where the search stops: with f steps left, at x. -/
def sx (i r : Nat) : Nat → Nat → Nat
  | 0, x => x
  | f + 1, x => if wz (x + 1) i ≤ r ∧ x + 1 < 30 then sx i r f (x + 1) else x
def top (i r : Nat) : Nat := sx i r (30 - (i - 1)) (i - 1)
theorem sx_go (i r x : Nat) (h : wz (x + 1) i ≤ r) (h' : x + 1 < 30) : sx i r (30 - x) x = sx i r (30 - (x + 1)) (x + 1) := by
  rw [show 30 - x = (30 - (x + 1)) + 1 by omega, sx, if_pos ⟨h, h'⟩]
theorem sx_stop (i r x : Nat) (h : ¬ (wz (x + 1) i ≤ r ∧ x + 1 < 30)) (hx : x < 30) : sx i r (30 - x) x = x := by
  rw [show 30 - x = (29 - x) + 1 by omega, sx, if_neg h]
theorem sx_spec (i r : Nat) : ∀ f x, x + f = 30 → 1 ≤ f → i - 1 ≤ x → (x = i - 1 ∨ wz x i ≤ r) →
    i - 1 ≤ sx i r f x ∧ sx i r f x ≤ 29 ∧ (sx i r f x = i - 1 ∨ wz (sx i r f x) i ≤ r) ∧ (r < wz (sx i r f x + 1) i ∨ sx i r f x + 1 = 30)
  | 0, _, _, h, _, _ => by omega
  | f + 1, x, h0, _, h2, h3 => by
    rw [sx]
    split
    · rename_i hc
      rcases Nat.eq_zero_or_pos f with hf | hf
      · omega
      · exact sx_spec i r f (x + 1) (by omega) hf (by omega) (.inr hc.1)
    · rename_i hc
      exact ⟨h2, by omega, h3, by omega⟩
theorem top_spec (i r : Nat) (h1 : 1 ≤ i) (h2 : i ≤ 30) :
    i - 1 ≤ top i r ∧ top i r ≤ 29 ∧ wz (top i r) i ≤ r ∧ (top i r = i - 1 ∨ wz (top i r) i ≤ r) ∧ (r < wz (top i r + 1) i ∨ top i r + 1 = 30) := by
  have h := sx_spec i r (30 - (i - 1)) (i - 1) (by omega) (by omega) (Nat.le_refl _) (.inl rfl)
  obtain ⟨a, b, c, d⟩ := h
  refine ⟨a, b, ?_, c, d⟩
  rcases c with c | c
  · show wz (sx i r (30 - (i - 1)) (i - 1)) i ≤ r
    rw [c]; unfold wz; rw [if_pos (by omega)]; omega
  · exact c
/-- The rank after d rounds. -/
def rk (k r : Nat) : Nat → Nat
  | 0 => r
  | d + 1 => rk k r d - wz (top (k - d) (rk k r d)) (k - d)
theorem top_first (k r n : Nat) (h1 : 1 ≤ k) (hkn : k ≤ n) (hn : n ≤ 30) (hr : r < wz 30 k) : top k r < n ↔ r < wz n k := by
  obtain ⟨a, b, _, c, d⟩ := top_spec k r h1 (by omega)
  constructor
  · intro h
    rcases d with d | d
    · exact Nat.lt_of_lt_of_le d (wz_le_of k (by omega) (by omega) hn)
    · rw [show n = 30 by omega]; exact hr
  · intro h
    rcases c with c | c
    · omega
    · by_cases hh : top k r < n
      · exact hh
      · have := wz_le_of k (by omega) (show n ≤ top k r by omega) (by omega)
        omega
theorem top_mono (i a b : Nat) (h1 : 1 ≤ i) (h2 : i ≤ 30) (h : a ≤ b) : top i a ≤ top i b := by
  obtain ⟨a1, a2, _, a3, a4⟩ := top_spec i a h1 h2
  obtain ⟨b1, b2, _, b3, b4⟩ := top_spec i b h1 h2
  by_cases hh : top i a ≤ top i b
  · exact hh
  · rcases a3 with a3 | a3
    · omega
    · rcases b4 with b4 | b4
      · have := wz_le_of i h2 (show top i b + 1 ≤ top i a by omega) (by omega)
        omega
      · omega
theorem top_one (a : Nat) (h : a < 30) : top 1 a = a := by
  obtain ⟨a1, a2, a3, _, a4⟩ := top_spec 1 a (by omega) (by omega)
  rw [wz_one_tab _ (by omega)] at a3
  rw [wz_one_tab _ (by omega)] at a4
  omega
theorem rk_step (i r : Nat) (h1 : 1 ≤ i) (h2 : i < 30) (hr : r < wz 30 (i + 1)) : r - wz (top (i + 1) r) (i + 1) < wz 30 i := by
  obtain ⟨a1, a2, a3, _, a4⟩ := top_spec (i + 1) r (by omega) (by omega)
  have hp := wz_pas_tab (top (i + 1) r) (by omega) i (by omega)
  have hm := wz_le_of i (by omega) (show top (i + 1) r ≤ 30 by omega) (by omega)
  rcases a4 with a4 | a4
  · omega
  · rw [a4] at hp; omega
theorem chain (k a b : Nat) (hk : k ≤ 30) (hab : a < b) (hb : b < wz 30 k) : ∀ d, d < k → (∀ e, e < d → top (k - e) (rk k a e) = top (k - e) (rk k b e)) → rk k a d < rk k b d ∧ rk k b d < wz 30 (k - d)
  | 0, _, _ => ⟨hab, hb⟩
  | d + 1, hd, h => by
    obtain ⟨h1, h2⟩ := chain k a b hk hab hb d (by omega) (fun e he => h e (by omega))
    have he := h d (by omega)
    have ta := top_spec (k - d) (rk k a d) (by omega) (by omega)
    have hs := rk_step (k - (d + 1)) (rk k b d) (by omega) (by omega) (by rw [show k - (d + 1) + 1 = k - d by omega]; exact h2)
    rw [show k - (d + 1) + 1 = k - d by omega] at hs
    simp only [rk]
    refine ⟨?_, hs⟩
    rw [← he]
    omega
/-- Of two rows, the one of the lesser rank is less where they part last. -/
theorem part_lt (k a b j : Nat) (hk : k ≤ 30) (hj : j < k) (hab : a < b) (hb : b < wz 30 k)
    (hs : ∀ p, j < p → p < k → top (p + 1) (rk k a (k - 1 - p)) = top (p + 1) (rk k b (k - 1 - p)))
    (hd : j = 0 ∨ top (j + 1) (rk k a (k - 1 - j)) ≠ top (j + 1) (rk k b (k - 1 - j))) : top (j + 1) (rk k a (k - 1 - j)) < top (j + 1) (rk k b (k - 1 - j)) := by
  obtain ⟨h1, h2⟩ := chain k a b hk hab hb (k - 1 - j) (by omega) (fun e he => by
    have := hs (k - 1 - e) (by omega) (by omega)
    rwa [show k - 1 - e + 1 = k - e by omega, show k - 1 - (k - 1 - e) = e by omega] at this)
  rw [show k - (k - 1 - j) = j + 1 by omega] at h2
  rcases hd with rfl | hd
  · rw [show wz 30 (0 + 1) = 30 by decide +kernel] at h2
    rw [show 0 + 1 = 1 from rfl, top_one _ (by omega), top_one _ (by omega)]
    exact h1
  · have := top_mono (j + 1) _ _ (by omega) (by omega) (Nat.le_of_lt h1)
    omega
theorem rk_le (k r : Nat) : ∀ d, rk k r d ≤ r
  | 0 => Nat.le_refl _
  | d + 1 => by have := rk_le k r d; simp only [rk]; omega
end Go.Proofs.Ytfhmckmglkjbeaa.CombMath

/- Contract of comb.Ways: what the call returns, and that memory stays as it is. -/
namespace Go.Proofs.Ytfhmckmglkjbeaa
open Go.ChangeShapes Go.WideShapes Go.ChangeAt Go.RowKit
set_option maxRecDepth 20000
open CombMath

/-- Ways within its bounds. -/
theorem ways_nat (n k : Nat) (h1 : n ≤ 30) (h2 : k ≤ n) (w : World) :
    Calls Try.prog 46 #[.int .i64 n, .int .i64 k] w fun e w' => e = .returned (.tuple #[.int .i64 (wl n k), .int .i64 0]) ∧ w = w' := by
  go_enter Try.func46, Try.ntmps46
  go_wp2
  go_loop [6, 24] (fun o i => ∃ j : Nat, j ≤ k ∧ i = .int .i64 j ∧ o = .int .i64 (wl n j)) (fun _ i => k - (intOf i).toNat)
  case atStart => exact ⟨0, Nat.zero_le _, rfl, rfl⟩
  case round =>
    obtain ⟨j, hj, rfl, rfl⟩ := hrel
    have hb := wl_le n (by omega) j (by omega)
    have hm : wl n j * (n - j) ≤ 155117520 * 30 := Nat.mul_le_mul hb.1 (by omega)
    have hm' : ((wl n j : Int) * ((n : Int) - (j : Int))) ≤ 4653525600 := by
      have : ((wl n j * (n - j) : Nat) : Int) ≤ ((155117520 * 30 : Nat) : Int) := by exact_mod_cast hm
      rw [Int.natCast_mul, Int.natCast_sub (by omega)] at this
      exact this
    have hm0 : 0 ≤ ((wl n j : Int) * ((n : Int) - (j : Int))) := Int.mul_nonneg (by omega) (by omega)
    by_cases hlt : j < k
    · go_wp2
      go_round
      case rel =>
        refine ⟨j + 1, by omega, by go_num, ?_⟩
        refine v_int ?_
        show _ = ((wl n j * (n - j) / (j + 1) : Nat) : Int)
        rw [Int.natCast_ediv, Int.natCast_mul, Int.natCast_sub (by omega)]
        rfl
      case measure => simp [intOf]; omega
    · go_wp2
      go_ret2
      obtain rfl : j = k := by omega
      exact ⟨rfl, rfl⟩

theorem ways_c (n k : Int) (h0 : 0 ≤ k) (h1 : n ≤ 30) (h2 : k ≤ n) (w : World) :
    Calls Try.prog 46 #[.int .i64 n, .int .i64 k] w fun e w' => e = .returned (.tuple #[.int .i64 (wl n.toNat k.toNat), .int .i64 0]) ∧ w = w' := by
  obtain ⟨K, rfl⟩ := Int.eq_ofNat_of_zero_le h0
  obtain ⟨N, rfl⟩ := Int.eq_ofNat_of_zero_le (show 0 ≤ n by omega)
  exact ways_nat N K (by omega) (by omega) w
end Go.Proofs.Ytfhmckmglkjbeaa

/- Contracts of comb.ways and comb.Some within their bounds. -/
namespace Go.Proofs.Ytfhmckmglkjbeaa
open Go.ChangeShapes Go.WideShapes Go.ChangeAt Go.RowKit
set_option maxRecDepth 20000
open CombMath

theorem ways_none (n k : Nat) (h1 : n ≤ 30) (h2 : n < k) (w : World) :
    Calls Try.prog 46 #[.int .i64 n, .int .i64 k] w fun e w' => e = .returned (.tuple #[.int .i64 0, .int .i64 1]) ∧ w = w' := by
  go_enter Try.func46, Try.ntmps46
  go_wp2_with fail
  go_ret2
  exact ⟨rfl, rfl⟩
theorem waysz_c (n k : Nat) (h1 : n ≤ 30) (w : World) :
    Calls Try.prog 29 #[.int .i64 n, .int .i64 k] w fun e w' => e = .returned (.int .i64 (wz n k : Nat)) ∧ w = w' := by
  by_cases hk : k ≤ n
  · have W := ways_nat n k h1 hk
    go_enter Try.func29, Try.ntmps29
    go_wp2_with fail
    refine (W _).mono ?_
    rintro e w1 ⟨rfl, rfl⟩
    go_wp2_with fail
    go_ret
    refine ⟨?_, rfl⟩
    unfold wz; rw [if_neg (by omega)]; rfl
  · have W := ways_none n k h1 (by omega)
    go_enter Try.func29, Try.ntmps29
    go_wp2_with fail
    refine (W _).mono ?_
    rintro e w1 ⟨rfl, rfl⟩
    go_wp2_with fail
    go_ret
    refine ⟨?_, rfl⟩
    unfold wz; rw [if_pos (by omega)]; rfl
theorem waysz_i (n k : Nat) (N K : Int) (hN : N = n) (hK : K = k) (h1 : n ≤ 30) (w : World) :
    Calls Try.prog 29 #[.int .i64 N, .int .i64 K] w fun e w' => e = .returned (.int .i64 (wz n k : Nat)) ∧ w = w' := by
  subst hN hK
  exact waysz_c n k h1 w
/-- What Some writes at a place. -/
def someF (k r : Nat) (p : Nat) : Int := (top (p + 1) (rk k r (k - 1 - p)) : Nat)

set_option maxHeartbeats 2000000 in
theorem some_c (k r : Nat) (hk : k ≤ 30) (hr : r < wz 30 k) (w : World) :
    Calls Try.prog 8 #[.int .i64 k, .int .i64 r] w fun e w' => ∃ v, e = .returned (.tuple #[v, .int .i64 0]) ∧ w'.ownsRow w.heap.size 3 1 v k ((tab (someF k r) k).map (Value.int .i64)) ∧ Below w.heap.size w w' := by
  obtain ⟨ib, hib, hz0, hz1, hz2⟩ := info_parts info_int
  have hw30 := wz_le 30 k (by omega)
  go_enter Try.func8, Try.ntmps8
  go_wp2_with fail
  refine (waysz_c 30 k (by omega) _).mono ?_
  rintro e w1 ⟨rfl, rfl⟩
  have hr' : ¬ ((wz 30 k : Nat) : Int) ≤ (r : Int) := by omega
  have HR := hidp hr
  clear hr
  go_wp2_with (at_make; refine wpList_make_full w rfl _ _ 22 rfl w.heap.size 3 ib (.int .i64 0) 1 Try.underlying22 hib hz0 hz1 .i64 .i64 k k k rfl rfl rfl rfl (by rw [hz2]; omega) (by unfold maxLen; omega) (Nat.le_refl _) ?_; intro wb how hgr)
  have hbb : Below w.heap.size w wb := (Below.refl _ _).grown hgr (Nat.le_refl _) (fun k hk => by simp at hk)
  have hgl : w.heap.size < wb.heap.size := (how.lt w.heap.size rfl).2
  have how0 : wb.ownsRow w.heap.size 3 1 (.slice (some ⟨w.heap.size, 0, none⟩) k k) k (tab (fun i => Value.int .i64 (if k ≤ i + 0 then someF k r i else 0)) k) := by
    have e : (madeCells (Value.int .i64 0).cells (k * 1)).toList = tab (fun i => Value.int .i64 (if k ≤ i + 0 then someF k r i else 0)) k := by
      show (madeCells #[Value.int .i64 0] (k * 1)).toList = _
      rw [made_tab]
      exact tab_congr _ _ _ (fun i hi => by rw [if_neg (by omega)])
    rw [← e]; exact how
  clear how hgr
  generalize hgg : w.heap.size = g at how0 hgl hbb ⊢
  have HG := hidp hgg
  clear hgg
  go_loopw [1, 7] (fun rr i wr => ∃ d : Nat, d ≤ k ∧ i = .int .i64 ((k : Int) - (d : Int)) ∧ rr = .int .i64 (rk k r d : Nat) ∧ wr.ownsRow g 3 1 (.slice (some ⟨g, 0, none⟩) k k) k (tab (fun i => Value.int .i64 (if k ≤ i + d then someF k r i else 0)) k) ∧ Below g w wr ∧ g < wr.heap.size) (fun _ i _ => (intOf i).toNat)
  case atStart => exact ⟨0, by omega, by simp, rfl, how0, hbb, hgl⟩
  case round =>
    obtain ⟨d, hd, rfl, rfl, how, hbl, hgw⟩ := hrel
    by_cases hlt : d < k
    · obtain ⟨p, hp⟩ : ∃ p : Nat, k = p + 1 + d := ⟨k - 1 - d, by omega⟩
      have hpI : (k : Int) - (d : Int) = (p : Int) + 1 := by omega
      rw [hpI]
      have hp1 : p < k := by omega
      have hp30 : p < 30 := by omega
      have ht := top_spec (p + 1) (rk k r d) (by omega) (by omega)
      have hrk := rk_le k r d
      have HRK := hidp (show rk k r (d + 1) = rk k r d - wz (top (p + 1) (rk k r d)) (p + 1) by rw [rk, show k - d = p + 1 by omega])
      have HSF := hidp (show someF k r p = ((top (p + 1) (rk k r d) : Nat) : Int) by unfold someF; rw [show k - 1 - p = d by omega])
      have HT0 := hidp (show sx (p + 1) (rk k r d) (30 - p) p = top (p + 1) (rk k r d) from rfl)
      generalize rk k r d = R at *
      obtain ⟨ht1, ht2, ht3, _, _⟩ := ht
      have HP := hidp hp
      clear hp hpI
      have hR : (R : Int) ≤ 155117520 := by omega
      generalize top (p + 1) R = T at *
      go_wp2_with fail
      go_loopw [8] (fun x wx => ∃ X : Nat, p ≤ X ∧ X < 30 ∧ x = .int .i64 X ∧ sx (p + 1) R (30 - X) X = T ∧ wx = wr) (fun x _ => 30 - (intOf x).toNat)
      case atStart => exact ⟨p, by omega, by omega, v_int (by omega), HT0.out, rfl⟩
      case round =>
        obtain ⟨X, hX1, hX2, rfl, hsx, rfl⟩ := hrel
        have HSX := hidp hsx
        clear hsx
        go_wp2_with fail
        refine (waysz_i (X + 1) (p + 1) _ _ (by omega) (by omega) (by omega) _).mono ?_
        rintro e w1 ⟨rfl, rfl⟩
        have hwb := wz_le (X + 1) (p + 1) (by omega)
        by_cases hc : wz (X + 1) (p + 1) ≤ R
        · by_cases hc2 : X + 1 < 30
          · have hc2' : (X : Int) + 1 < 30 := by omega
            have GO := hidp (sx_go (p + 1) R X hc hc2)
            go_wp2_with fail
            go_roundw
            case rel => exact ⟨X + 1, by omega, by omega, by go_num, by rw [← GO.out]; exact HSX.out, by first | trivial | rfl⟩
            case measure => simp [intOf]; omega
          · have hc2' : ¬ (X : Int) + 1 < 30 := by omega
            have ST := hidp (sx_stop (p + 1) R X (fun h => hc2 h.2) hX2)
            obtain rfl : X = T := ST.out.symm.trans HSX.out
            clear HSX ST
            have q2 := how.cellAt p (by omega)
            rw [tab_get _ _ _ hp1] at q2
            have q3 := how.frozenAt p
            go_wp2_with fail
            refine (waysz_i X (p + 1) _ _ (by omega) (by omega) (by omega) _).mono ?_
            rintro e w2 ⟨rfl, rfl⟩
            go_wp2_with fail
            go_roundw
            case rel =>
              have st := own_store_tab how p (.int .i64 (X : Int))
              refine ⟨d + 1, by omega, v_int (by have := HP.out; omega), v_int (by rw [HRK.out]; omega), ?_, (hbl.setCell (p := ⟨g, p, none⟩) (Nat.le_refl g) _), by first | (simp; omega) | simpa using hgw⟩
              rw [tab_congr _ (fun i => if i = p then Value.int .i64 (X : Int) else Value.int .i64 (if k ≤ i + d then someF k r i else 0)) k ?_]
              · exact st
              · intro i hi
                have := HP.out
                by_cases h1 : i = p
                · rw [if_pos h1, if_pos (by omega), h1, HSF.out]
                · rw [if_neg h1]
                  by_cases h2 : k ≤ i + d
                  · rw [if_pos h2, if_pos (by omega)]
                  · rw [if_neg h2, if_neg (by omega)]
            case measure => simp [intOf]
        · have hc' : ¬ ((wz (X + 1) (p + 1) : Nat) : Int) ≤ (R : Int) := by omega
          have ST := hidp (sx_stop (p + 1) R X (fun h => hc h.1) hX2)
          obtain rfl : X = T := ST.out.symm.trans HSX.out
          clear HSX ST
          have q2 := how.cellAt p (by omega)
          rw [tab_get _ _ _ hp1] at q2
          have q3 := how.frozenAt p
          go_wp2_with fail
          refine (waysz_i X (p + 1) _ _ (by omega) (by omega) (by omega) _).mono ?_
          rintro e w2 ⟨rfl, rfl⟩
          go_wp2_with fail
          go_roundw
          case rel =>
            have st := own_store_tab how p (.int .i64 (X : Int))
            refine ⟨d + 1, by omega, v_int (by have := HP.out; omega), v_int (by rw [HRK.out]; omega), ?_, (hbl.setCell (p := ⟨g, p, none⟩) (Nat.le_refl g) _), by first | (simp; omega) | simpa using hgw⟩
            rw [tab_congr _ (fun i => if i = p then Value.int .i64 (X : Int) else Value.int .i64 (if k ≤ i + d then someF k r i else 0)) k ?_]
            · exact st
            · intro i hi
              have := HP.out
              by_cases h1 : i = p
              · rw [if_pos h1, if_pos (by omega), h1, HSF.out]
              · rw [if_neg h1]
                by_cases h2 : k ≤ i + d
                · rw [if_pos h2, if_pos (by omega)]
                · rw [if_neg h2, if_neg (by omega)]
          case measure => simp [intOf]
    · obtain rfl : d = k := by omega
      have h0 : (d : Int) - (d : Int) = 0 := by omega
      rw [h0]
      go_wp2_with fail
      go_ret2
      rw [HG.out]
      refine ⟨_, rfl, ?_, hbl⟩
      rw [tab_map, tab_congr _ (fun i => Value.int .i64 (if d ≤ i + d then someF d r i else 0)) d (fun i _ => by rw [if_pos (by omega)])]
      exact how
end Go.Proofs.Ytfhmckmglkjbeaa
