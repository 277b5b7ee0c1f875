/- Contract of worth: the two lists that it makes. -/
import Derived.Test.YtpdigiefldnpaaaMem
import Derived.WalkSpells
namespace Go.Proofs.Ytpdigiefldnpaaa
open Go.ChangeShapes Go.WideShapes Go.ChangeAt Go.RowKit
set_option maxRecDepth 20000

/-- The values, and the levels, that worth makes of the first k. -/
def wvf (xs : List Int) (i : Nat) : Int := wi (gi xs i) 2001 - 1000
def wlf (ys : List Int) (most : Int) (i : Nat) : Int := if i < ys.length then wi (gi ys i) (most + 1) else 0
def wv (xs : List Int) (k : Nat) : List Int := tab (wvf xs) k
def wl' (ys : List Int) (most : Int) (k : Nat) : List Int := tab (wlf ys most) k
theorem wv_snoc (xs : List Int) (k : Nat) : wv xs (k + 1) = wv xs k ++ [wi (gi xs k) 2001 - 1000] := tab_snoc _ _
theorem wl'_snoc (ys : List Int) (most : Int) (k : Nat) : wl' ys most (k + 1) = wl' ys most k ++ [if k < ys.length then wi (gi ys k) (most + 1) else 0] := tab_snoc _ _
theorem wvf_bd (xs : List Int) (i : Nat) : -1000 ≤ wvf xs i ∧ wvf xs i ≤ 1000 := by
  unfold wvf
  have := wi_lo (gi xs i) 2001 (by omega)
  have := wi_hi (gi xs i) 2001 (by omega)
  omega
theorem wlf_bd (ys : List Int) (most : Int) (h : 0 ≤ most) (i : Nat) : 0 ≤ wlf ys most i ∧ wlf ys most i ≤ most := by
  unfold wlf
  have := wi_lo (gi ys i) (most + 1) (by omega)
  have := wi_hi (gi ys i) (most + 1) (by omega)
  split <;> omega

set_option maxHeartbeats 8000000 in
theorem worth_c (a0 a1 : Option Addr) (n0 c0 n1 c1 : Nat) (xs ys : List Int) (m : Nat) (most : Int) (w : World) (h0 : IntsAt w a0 n0 c0 xs) (h1 : IntsAt w a1 n1 c1 ys) (hm : m ≤ 1000) (hmo : 0 ≤ most) (hmo' : most ≤ 1000) :
    Calls Try.prog 39 #[.slice a0 n0 c0, .slice a1 n1 c1, .int .i64 m, .int .i64 most] w fun e w' => ∃ v u, e = .returned (.tuple #[v, u]) ∧
      w'.ownsRow w.heap.size 3 1 v (min n0 m) ((wv xs (min n0 m)).map (Value.int .i64)) ∧ w'.ownsRow w.heap.size 3 1 u (min n0 m) ((wl' ys most (min n0 m)).map (Value.int .i64)) ∧ Apart v u ∧ Below w.heap.size w w' := by
  have l0 := h0.len
  have l1 := h1.len
  have m0 := h0.max
  have m1 := h1.max
  have e0 := h0.le
  have e1 := h1.le
  have hN : min n0 m = n0 ∧ n0 ≤ m ∨ min n0 m = m ∧ m < n0 := by omega
  obtain ⟨N, hNe⟩ : ∃ N, N = min n0 m := ⟨_, rfl⟩
  rw [← hNe] at hN ⊢
  have HN := hidp hNe
  clear hNe
  obtain ⟨b0, o0, hz0, hx0⟩ := h0.split
  obtain ⟨b1, o1, hz1, hx1⟩ := h1.split
  have hz0' : Hid (n0 = 0) ∨ a0 = some ⟨b0, o0, none⟩ := hz0.imp_left hidp
  have hz1' : Hid (n1 = 0) ∨ a1 = some ⟨b1, o1, none⟩ := hz1.imp_left hidp
  clear hz0 hz1
  rcases hz0' with hz0 | rfl <;> rcases hz1' with hz1 | rfl <;> rcases hN with ⟨hNe, hN2⟩ | ⟨hNe, hN2⟩ <;> subst hNe
  all_goals
    go_enter Try.func39, Try.ntmps39
    go_wp2_with fail
    go_loopw [10, 11, 22] (fun v u i wr => ∃ k : Nat, k ≤ N ∧ i = .int .i64 k ∧ wr.ownsRow w.heap.size 3 1 v k ((wv xs k).map (Value.int .i64)) ∧ wr.ownsRow w.heap.size 3 1 u k ((wl' ys most k).map (Value.int .i64)) ∧ Apart v u ∧ Below w.heap.size w wr) (fun _ _ i _ => N - (intOf i).toNat)
    case atStart => exact ⟨0, by omega, rfl, World.ownsRow_nil _ _ _ _, World.ownsRow_nil _ _ _ _, .inl rfl, Below.refl _ _⟩
    case round =>
      obtain ⟨k, hk, rfl, hv, hu, hap, hbl⟩ := hrel
      by_cases hlt : k < N
      · first
        | (exfalso; have := hz0.out; omega)
        | (
        have hcx : wr.cell? ⟨b0, o0 + k, none⟩ = some (.int .i64 (gi xs k)) := carry_cell (hx0 k (by omega)) hbl
        have bx := h0.bd_at k
        have by' := h1.bd_at k
        have ox1 := wi_lo (gi xs k) 2001 (by omega)
        have ox2 := wi_hi (gi xs k) 2001 (by omega)
        have oy1 := wi_lo (gi ys k) (most + 1) (by omega)
        have oy2 := wi_hi (gi ys k) (most + 1) (by omega)
        have HX1 := hidp hx1
        clear hx0 hx1
        by_cases hky : k < n1
        · first
          | (exfalso; have := hz1.out; omega)
          | (
          go_wp2_with (first | (at_builtin; refine wpList_append_new rfl (.tmp 27) (.tmp 31) 22 rfl w.heap.size 3 _ 1 8 info_int rfl (by decide) Try.underlying22 _ k _ rfl hv rfl (one_int _ _) rfl rfl (by omega) (by decide) hbl.size ?_; intro v1 w1 hv1 hg1 hd1; have hu1 := hu.kept hg1 hap.symm; have hap1 := hap.grown hu hd1; have hbl1 := append_step hv hbl (Nat.le_refl _) hg1; have hcy := carry_cell (HX1.out k hky) hbl1; clear hv hu hg1 hd1 hap hbl) | (at_builtin; refine wpList_append_new rfl (.tmp 44) (.tmp 46) 22 rfl w.heap.size 3 _ 1 8 info_int rfl (by decide) Try.underlying22 _ k _ rfl hu1 rfl (one_int _ _) rfl rfl (by omega) (by decide) hbl1.size ?_; intro v2 w2 hu2 hg2 hd2; have hv2 := hv1.kept hg2 hap1; have hap2 := (hap1.symm.grown hv1 hd2).symm; have hbl2 := append_step hu1 hbl1 (Nat.le_refl _) hg2; clear hv1 hu1 hg2 hd2 hap1 hbl1) | (go_at_call 17; refine (within_c _ _ (by omega) (by omega) _).mono ?_; rintro e w' ⟨rfl, rfl⟩))
          go_roundw
          case rel => exact ⟨k + 1, by omega, by go_num, by rw [wv_snoc, List.map_append]; exact hv2, by rw [wl'_snoc, List.map_append, if_pos (by omega)]; exact hu2, hap2, hbl2⟩
          case measure => simp [intOf]; omega)
        · go_wp2_with (first | (at_builtin; refine wpList_append_new rfl (.tmp 27) (.tmp 31) 22 rfl w.heap.size 3 _ 1 8 info_int rfl (by decide) Try.underlying22 _ k _ rfl hv rfl (one_int _ _) rfl rfl (by omega) (by decide) hbl.size ?_; intro v1 w1 hv1 hg1 hd1; have hu1 := hu.kept hg1 hap.symm; have hap1 := hap.grown hu hd1; have hbl1 := append_step hv hbl (Nat.le_refl _) hg1; clear hv hu hg1 hd1 hap hbl) | (at_builtin; refine wpList_append_new rfl (.tmp 44) (.tmp 46) 22 rfl w.heap.size 3 _ 1 8 info_int rfl (by decide) Try.underlying22 _ k _ rfl hu1 rfl (one_int _ _) rfl rfl (by omega) (by decide) hbl1.size ?_; intro v2 w2 hu2 hg2 hd2; have hv2 := hv1.kept hg2 hap1; have hap2 := (hap1.symm.grown hv1 hd2).symm; have hbl2 := append_step hu1 hbl1 (Nat.le_refl _) hg2; clear hv1 hu1 hg2 hd2 hap1 hbl1) | (go_at_call 17; refine (within_c _ _ (by omega) (by omega) _).mono ?_; rintro e w' ⟨rfl, rfl⟩))
          go_roundw
          case rel => exact ⟨k + 1, by omega, by go_num, by rw [wv_snoc, List.map_append]; exact hv2, by rw [wl'_snoc, List.map_append, if_neg (by omega)]; exact hu2, hap2, hbl2⟩
          case measure => simp [intOf]; omega)
      · obtain rfl : k = N := by omega
        go_wp2
        go_ret2
        exact ⟨_, _, rfl, hv, hu, hap, hbl⟩

/-- The same, as slices that can be read. -/
theorem worth_i (a0 a1 : Option Addr) (n0 c0 n1 c1 : Nat) (xs ys : List Int) (m : Nat) (most : Int) (w : World) (h0 : IntsAt w a0 n0 c0 xs) (h1 : IntsAt w a1 n1 c1 ys) (hm : m ≤ 1000) (hmo : 0 ≤ most) (hmo' : most ≤ 1000) :
    Calls Try.prog 39 #[.slice a0 n0 c0, .slice a1 n1 c1, .int .i64 m, .int .i64 most] w fun e w' => ∃ a b c d, e = .returned (.tuple #[.slice a (min n0 m) c, .slice b (min n0 m) d]) ∧
      IntsAt w' a (min n0 m) c (wv xs (min n0 m)) ∧ IntsAt w' b (min n0 m) d (wl' ys most (min n0 m)) ∧ Below w.heap.size w w' := by
  refine (worth_c a0 a1 n0 c0 n1 c1 xs ys m most w h0 h1 hm hmo hmo').mono ?_
  rintro e w' ⟨v, u, rfl, hv, hu, _, hb⟩
  obtain ⟨a, c, rfl, ha⟩ := owns_ints hv (fun x hx => by obtain ⟨i, _, rfl⟩ := tab_mem _ _ _ hx; have := wvf_bd xs i; omega)
  obtain ⟨b, d, rfl, hb'⟩ := owns_ints hu (fun x hx => by obtain ⟨i, _, rfl⟩ := tab_mem _ _ _ hx; have := wlf_bd ys most hmo i; omega)
  exact ⟨a, b, c, d, rfl, ha, hb', hb⟩
end Go.Proofs.Ytpdigiefldnpaaa
