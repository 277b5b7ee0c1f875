/- Merged: CFunc, FairMath, StabE, Wants, Fair, Pick, Share, Gate, GateDiv, PermBack, Cmp, DigitBackW, DeskOpB. -/
import Derived.Test.YtgodgfnfaiiohaaGreatDoorMem
import Derived.Deep.LoopGhost
import Derived.Shelf.Abstract
import Derived.Test.YtgodgfnfaiiohaaGreatDoorSortMath
import Derived.Test.YtgodgfnfaiiohaaGreatDoorStabMath
import Derived.Test.YtgodgfnfaiiohaaGreatDoorStabD
import Derived.Deep.DeepCutAuto
import Derived.Lib.MinMax
import Derived.Deep.OwnRows
import Derived.Test.YtgodgfnfaiiohaaGreatDoorMgWts
import Derived.Test.YtgodgfnfaiiohaaGreatDoorEvenMath
import Derived.Deep.QuietTactic
import Derived.BigQuiet
import Derived.WalkSpells
import Derived.WalkSmall
import Derived.Test.YtgodgfnfaiiohaaGreatDoorLev
import Derived.Test.YtgodgfnfaiiohaaGreatDoorMgDiv
import Derived.Deep.RegionWith
import Derived.Test.YtgodgfnfaiiohaaGreatDoorMgPermMath
import Derived.Test.YtgodgfnfaiiohaaGreatDoorShelf
import Derived.Test.YtgodgfnfaiiohaaGreatDoorKit
import Derived.Test.YtgodgfnfaiiohaaGreatDoorDRank
import Derived.Test.YtgodgfnfaiiohaaGreatDoorEqI
import Derived.Test.YtgodgfnfaiiohaaGreatDoorMgNumAny
import Derived.Test.YtgodgfnfaiiohaaGreatDoorHexUse
import Derived.Test.YtgodgfnfaiiohaaGreatDoorNum
/- Contract of slices.ContainsFunc at integers, whatever the predicate. -/
namespace Go.Proofs.YtgodgfnfaiiohaaGreatDoor
open Go.ChangeShapes Go.WideShapes Go.ChangeAt Go.RowKit
set_option maxRecDepth 20000

/-- Where the search stops: the first of n that p is true of, -1 if there is none. -/
def idxF (p : Int → Bool) (xs : List Int) (n : Nat) : Nat → Nat → Int
  | 0, _ => -1
  | f + 1, k => if k < n then (if p (gi xs k) = true then (k : Int) else idxF p xs n f (k + 1)) else -1
theorem idxF_end (p : Int → Bool) (xs : List Int) (n : Nat) (f : Nat) : idxF p xs n f n = -1 := by
  cases f with
  | zero => rfl
  | succ f => rw [idxF, if_neg (by omega)]
theorem idxF_any (p : Int → Bool) (xs : List Int) (n : Nat) : ∀ f k, k + f = n → (0 ≤ idxF p xs n f k ↔ ∃ i, k ≤ i ∧ i < n ∧ p (gi xs i) = true)
  | 0, k, h => by
    rw [idxF]
    constructor
    · intro h; omega
    · rintro ⟨i, h1, h2, _⟩; omega
  | f + 1, k, h => by
    rw [idxF, if_pos (by omega)]
    by_cases hp : p (gi xs k) = true
    · rw [if_pos hp]
      exact ⟨fun _ => ⟨k, by omega, by omega, hp⟩, fun _ => by omega⟩
    · rw [if_neg hp, idxF_any p xs n f (k + 1) (by omega)]
      constructor
      · rintro ⟨i, h1, h2, h3⟩; exact ⟨i, by omega, h2, h3⟩
      · rintro ⟨i, h1, h2, h3⟩
        refine ⟨i, ?_, h2, h3⟩
        by_cases e : i = k
        · subst e; exact absurd h3 hp
        · omega
def hasF (p : Int → Bool) (xs : List Int) (n : Nat) : Bool := decide (0 ≤ idxF p xs n n 0)
theorem hasF_true (p : Int → Bool) (xs : List Int) (n : Nat) (h : ∃ i, i < n ∧ p (gi xs i) = true) : hasF p xs n = true := by
  obtain ⟨i, h1, h2⟩ := h
  exact decide_eq_true ((idxF_any p xs n n 0 (by omega)).2 ⟨i, by omega, h1, h2⟩)
theorem hasF_false (p : Int → Bool) (xs : List Int) (n : Nat) (h : ∀ i, i < n → p (gi xs i) = false) : hasF p xs n = false :=
  decide_eq_false (fun e => by
    obtain ⟨i, _, h1, h2⟩ := (idxF_any p xs n n 0 (by omega)).1 e
    rw [h i h1] at h2; cases h2)

set_option maxHeartbeats 2000000 in
theorem ifunc_c (g : Nat) (lb : Array Value) (p : Int → Bool) (eg : ∀ args w, (callFunc g args).run Tryz.prog w = .ok (.enter g args) w) (a : Option Addr) (n c : Nat) (xs : List Int) (w : World) (h : IntsAt w a n c xs)
    (hp : ∀ W i, i < n → Below w.heap.size w W → Calls Tryz.prog g (#[.int .i64 (gi xs i)] ++ lb) W fun e w' => e = .returned (.bool (p (gi xs i))) ∧ Below w.heap.size w w') :
    Calls Tryz.prog 170 #[.slice a n c, .func (.func g) #[] lb] w fun e w' => e = .returned (.int .i64 (idxF p xs n n 0)) ∧ Below w.heap.size w w' := by
  obtain ⟨b, o, hz, hx⟩ := h.split
  have hz' : Hid (n = 0) ∨ a = some ⟨b, o, none⟩ := hz.imp_left hidp
  have HX := hidp hx
  have HP := hidp hp
  have mm := h.max
  have ee := h.le
  clear hx hz h hp
  go_enter Tryz.func170, Tryz.ntmps170
  go_wp2_with fail
  go_loopg [5, 8] n (fun gg _ s8 wr => ∃ k : Nat, k ≤ n ∧ n - k ≤ gg ∧ s8 = .int .i64 k ∧ Hid (idxF p xs n n 0 = idxF p xs n (n - k) k) ∧ Hid (Below w.heap.size w wr))
  case atStart => exact ⟨0, Nat.zero_le _, by omega, rfl, rfl, Below.refl _ w⟩
  case round =>
    obtain ⟨k, hk, hgg, rfl, HI, BW⟩ := hrel
    by_cases hlt : k < n
    · obtain rfl : a = some ⟨b, o, none⟩ := hz'.resolve_left (fun e => by have := e.out; omega)
      have q0 := carry_cell (HX.out k hlt) BW.out
      have hcall := HP.out wr k hlt BW.out
      have STEP := hidp (show idxF p xs n (n - k) k = if p (gi xs k) = true then (k : Int) else idxF p xs n (n - (k + 1)) (k + 1) by
        rw [show n - k = (n - (k + 1)) + 1 by omega, idxF, if_pos hlt])
      generalize gi xs k = y at *
      cases hq : p y with
      | true =>
        rw [hq] at hcall
        have HQ := hidp hq
        clear hq
        go_wp2_with (go_at_fn g; refine hcall.mono ?_; rintro e w' ⟨rfl, hb'⟩)
        go_ret
        refine ⟨ret_int ?_, hb'⟩
        rw [HI.out, STEP.out, if_pos HQ.out]
      | false =>
        rw [hq] at hcall
        have HQ := hidp hq
        clear hq
        go_wp2_with (go_at_fn g; refine hcall.mono ?_; rintro e w' ⟨rfl, hb'⟩)
        go_roundg (n - (k + 1))
        case measure => omega
        case rel =>
          refine ⟨k + 1, by omega, by omega, by go_num, ?_, hb'⟩
          exact hidp (by rw [HI.out, STEP.out, if_neg (by rw [HQ.out]; simp)])
    · obtain rfl : k = n := by omega
      go_wp2
      go_ret
      refine ⟨ret_int ?_, BW.out⟩
      rw [HI.out, idxF_end]
theorem cfunc_c (g : Nat) (lb : Array Value) (p : Int → Bool) (eg : ∀ args w, (callFunc g args).run Tryz.prog w = .ok (.enter g args) w) (a : Option Addr) (n c : Nat) (xs : List Int) (w : World) (h : IntsAt w a n c xs)
    (hp : ∀ W i, i < n → Below w.heap.size w W → Calls Tryz.prog g (#[.int .i64 (gi xs i)] ++ lb) W fun e w' => e = .returned (.bool (p (gi xs i))) ∧ Below w.heap.size w w') :
    Calls Tryz.prog 138 #[.slice a n c, .func (.func g) #[] lb] w fun e w' => e = .returned (.bool (hasF p xs n)) ∧ Below w.heap.size w w' := by
  have C := hidp (ifunc_c g lb p eg a n c xs w h hp)
  clear hp h
  go_enter Tryz.func138, Tryz.ntmps138
  go_wp2_with fail
  refine C.out.mono ?_
  rintro e w1 ⟨rfl, hb⟩
  go_wp2_with fail
  go_ret
  exact ⟨rfl, hb⟩
end Go.Proofs.YtgodgfnfaiiohaaGreatDoor

/- The plain law of fair shares: room given away in rising order; what the stable order of places is. -/
namespace Go.Proofs.YtgodgfnfaiiohaaGreatDoor.FairM
/-- What stands at place k of those that are served, of room r at first: v k wants, n in all. -/
def left (v : Nat → Int) (n : Nat) (r : Int) : Nat → Int
  | 0 => r
  | k + 1 => left v n r k - min (v k) (left v n r k / ((n : Int) - k))
def giv (v : Nat → Int) (n : Nat) (r : Int) (k : Nat) : Int := min (v k) (left v n r k / ((n : Int) - k))
theorem left_step (v : Nat → Int) (n : Nat) (r : Int) (k : Nat) : left v n r (k + 1) = left v n r k - giv v n r k := rfl
theorem div_lo (x : Int) (m : Int) (hm : 1 ≤ m) : x / m * m ≤ x ∧ x < (x / m + 1) * m := by
  have h1 := Int.emod_nonneg x (show m ≠ 0 by omega)
  have h2 := Int.emod_lt_of_pos x (show 0 < m by omega)
  have h3 := Int.mul_ediv_add_emod x m
  have e1 : x / m * m = m * (x / m) := Int.mul_comm _ _
  have e2 : (x / m + 1) * m = m * (x / m) + m := by rw [Int.add_mul, Int.one_mul, Int.mul_comm]
  omega
theorem left_bd (v : Nat → Int) (n : Nat) (r : Int) (hr : 0 ≤ r) (hv : ∀ k, k < n → 0 ≤ v k) : ∀ k, k ≤ n → 0 ≤ left v n r k ∧ left v n r k ≤ r
  | 0, _ => ⟨hr, Int.le_refl _⟩
  | k + 1, h => by
    obtain ⟨a, b⟩ := left_bd v n r hr hv k (by omega)
    have hm : (1 : Int) ≤ (n : Int) - k := by omega
    have d := Int.ediv_nonneg a (show (0 : Int) ≤ (n : Int) - k by omega)
    have e := (div_lo (left v n r k) _ hm).1
    have e2 : left v n r k / ((n : Int) - k) * 1 ≤ left v n r k / ((n : Int) - k) * ((n : Int) - k) := Int.mul_le_mul_of_nonneg_left hm d
    have vk := hv k (by omega)
    rw [left_step]
    unfold giv
    omega
theorem giv_bd (v : Nat → Int) (n : Nat) (r : Int) (hr : 0 ≤ r) (hv : ∀ k, k < n → 0 ≤ v k) (k : Nat) (hk : k < n) : 0 ≤ giv v n r k ∧ giv v n r k ≤ v k ∧ giv v n r k ≤ left v n r k := by
  have a := (left_bd v n r hr hv k (by omega)).1
  have b := (left_bd v n r hr hv (k + 1) (by omega)).1
  rw [left_step] at b
  have d := Int.ediv_nonneg a (show (0 : Int) ≤ (n : Int) - k by omega)
  have vk := hv k hk
  refine ⟨by unfold giv; omega, by unfold giv; omega, by omega⟩
/-- Sums of what the first k want, and are given. -/
def sm (v : Nat → Int) : Nat → Int
  | 0 => 0
  | k + 1 => sm v k + v k
/-- In rising order the share never falls: of what is left for each of those to come, the floor. -/
theorem share_up (v : Nat → Int) (n : Nat) (r : Int) (k : Nat) (hk : k + 1 < n) : left v n r k / ((n : Int) - k) ≤ left v n r (k + 1) / ((n : Int) - (k + 1 : Nat)) := by
  rw [left_step]
  have hm : (1 : Int) ≤ (n : Int) - k := by omega
  have hm2 : (0 : Int) < (n : Int) - (k + 1 : Nat) := by omega
  rw [Int.le_ediv_iff_mul_le hm2]
  have a := (div_lo (left v n r k) _ hm).1
  have e : left v n r k / ((n : Int) - k) * ((n : Int) - k) = left v n r k / ((n : Int) - k) * ((n : Int) - (k + 1 : Nat)) + left v n r k / ((n : Int) - k) := by
    rw [show ((n : Int) - k) = ((n : Int) - (k + 1 : Nat)) + 1 by omega, Int.mul_add, Int.mul_one]
  have g : giv v n r k ≤ left v n r k / ((n : Int) - k) := by unfold giv; omega
  omega
theorem giv_up (v : Nat → Int) (n : Nat) (r : Int) (hv : ∀ i j, i ≤ j → j < n → v i ≤ v j) (i j : Nat) (h : i ≤ j) (hj : j < n) : giv v n r i ≤ giv v n r j := by
  have sh : ∀ d, i + d < n → left v n r i / ((n : Int) - i) ≤ left v n r (i + d) / ((n : Int) - (i + d : Nat)) := by
    intro d
    induction d with
    | zero => intro _; exact Int.le_refl _
    | succ d ih =>
      intro hd
      have a := ih (by omega)
      have b := share_up v n r (i + d) (by omega)
      rw [show i + (d + 1) = i + d + 1 by omega]
      exact Int.le_trans a b
  have a := sh (j - i) (by omega)
  rw [show i + (j - i) = j by omega] at a
  have b := hv i j h hj
  unfold giv
  omega
/-- Once the share is less than what is wanted, it is so for all that come, and nobody has more than one above it. -/
theorem cut (v : Nat → Int) (n : Nat) (r : Int) (hr : 0 ≤ r) (h0 : ∀ k, k < n → 0 ≤ v k) (hv : ∀ i j, i ≤ j → j < n → v i ≤ v j) (k : Nat) (hk : k < n) (hc : giv v n r k < v k) :
    ∀ d, k + d < n → (giv v n r k = left v n r k / ((n : Int) - k)) ∧ left v n r (k + d) ≤ (giv v n r k + 1) * ((n : Int) - (k + d : Nat)) ∧ giv v n r k * ((n : Int) - (k + d : Nat)) ≤ left v n r (k + d) ∧ giv v n r (k + d) ≤ giv v n r k + 1 ∧ left v n r (k + d) / ((n : Int) - (k + d : Nat)) = giv v n r (k + d) := by
  have q : giv v n r k = left v n r k / ((n : Int) - k) := by
    unfold giv at hc ⊢; omega
  generalize hG : giv v n r k = G at *
  intro d
  induction d with
  | zero =>
    intro _
    have hm : (1 : Int) ≤ (n : Int) - k := by omega
    obtain ⟨a, b⟩ := div_lo (left v n r k) _ hm
    rw [← q] at a b
    refine ⟨q, by rw [Nat.add_zero]; omega, by rw [Nat.add_zero]; exact a, by rw [Nat.add_zero, hG]; omega, by rw [Nat.add_zero, hG]; exact q.symm⟩
  | succ d ih =>
    intro hd
    obtain ⟨_, i1, i2, i3, i4⟩ := ih (by omega)
    have ls := left_step v n r (k + d)
    have hm : (1 : Int) ≤ (n : Int) - (k + d + 1 : Nat) := by omega
    have m1 : (n : Int) - (k + d : Nat) = ((n : Int) - (k + d + 1 : Nat)) + 1 := by omega
    have lo : G ≤ giv v n r (k + d) := by
      have := giv_up v n r hv k (k + d) (by omega) (by omega)
      rw [hG] at this; exact this
    rw [← i4] at lo i3
    rw [← i4] at ls
    rw [m1] at i1 i2 lo i3 ls
    have e1 : (G + 1) * ((n : Int) - (k + d + 1 : Nat) + 1) = (G + 1) * ((n : Int) - (k + d + 1 : Nat)) + (G + 1) := by rw [Int.mul_add, Int.mul_one]
    have e2 : G * ((n : Int) - (k + d + 1 : Nat) + 1) = G * ((n : Int) - (k + d + 1 : Nat)) + G := by rw [Int.mul_add, Int.mul_one]
    generalize hM : (n : Int) - (k + d + 1 : Nat) = M at *
    generalize left v n r (k + d) = X at *
    have dv := div_lo X (M + 1) (by omega)
    generalize X / (M + 1) = s at *
    have hX1 : left v n r (k + d + 1) ≤ (G + 1) * M := by
      rw [ls]
      rcases Int.lt_or_le G s with h | h
      · omega
      · have hs : s = G := by omega
        subst hs
        -- X < (s+1)(M+1): X - s ≤ (s+1) M
        have e3 : (s + 1) * (M + 1) = (s + 1) * M + (s + 1) := by rw [Int.mul_add, Int.mul_one]
        omega
    have hX2 : G * M ≤ left v n r (k + d + 1) := by
      rw [ls]
      rcases Int.lt_or_le G s with h | h
      · have hs : s = G + 1 := by omega
        subst hs
        have e3 : (G + 1) * (M + 1) = (G + 1) * M + (G + 1) := by rw [Int.mul_add, Int.mul_one]
        have e4 : (G + 1) * M = G * M + M := by rw [Int.add_mul, Int.one_mul]
        omega
      · omega
    have s1 : left v n r (k + d + 1) / M ≤ G + 1 := by
      have := Int.ediv_le_ediv (show 0 < M by omega) hX1
      rwa [Int.mul_ediv_cancel _ (show M ≠ 0 by omega)] at this
    have vk : G + 1 ≤ v (k + d + 1) := by
      have := hv k (k + d + 1) (by omega) hd
      omega
    have fin : giv v n r (k + d + 1) = left v n r (k + d + 1) / M := by
      unfold giv
      rw [hM]; omega
    refine ⟨q, hX1, hX2, by show giv v n r (k + d + 1) ≤ G + 1; rw [fin]; exact s1, fin.symm⟩
open Go.Proofs.YtgodgfnfaiiohaaGreatDoor Go.Proofs.YtgodgfnfaiiohaaGreatDoor.SortMath Go.Proofs.YtgodgfnfaiiohaaGreatDoor.Stab
theorem up_id (g : Nat → Nat) (n : Nat) (h1 : ∀ k, k < n → g k < n) (h2 : ∀ i j, i < j → j < n → g i < g j) (k : Nat) (hk : k < n) : g k = k := by
  have lo : ∀ k, k < n → k ≤ g k := by
    intro k
    induction k with
    | zero => intro _; omega
    | succ k ih => intro h; have := ih (by omega); have := h2 k (k + 1) (by omega) h; omega
  have hi : ∀ d k, k + d + 1 = n → g k + d + 1 ≤ n := by
    intro d
    induction d with
    | zero => intro k h; have := h1 k (by omega); omega
    | succ d ih => intro k h; have := ih (k + 1) (by omega); have := h2 k (k + 1) (by omega) (by omega); omega
  have a := lo k hk
  have b := hi (n - 1 - k) k (by omega)
  omega
/-- A stable sort of the places 0 .. n-1 puts each at its rank. -/
theorem stable_rank (ls : List Int) (n : Nat) (h64 : n ≤ 64) (f g : Nat → Int) (hf : ∀ i, i < n → f i = i) (hp : Perm f g 0 n) (hs : Srt (key (fun x => gi ls x.toNat)) g 0 n) (k : Nat) (hk : k < n) :
    ∃ i : Nat, i < n ∧ g k = (i : Int) ∧ rank (gi ls) n i = k := by
  obtain ⟨r1, r2⟩ := perm_id hp hf
  have key1 : ∀ a b, a < b → b < n → rank (gi ls) n (g a).toNat < rank (gi ls) n (g b).toNat := fun a b hab hb => by
    have s := hs a b (Nat.zero_le _) (by omega) hb
    obtain ⟨a1, a2⟩ := r1 a (by omega)
    obtain ⟨b1, b2⟩ := r1 b hb
    have ne : g a ≠ g b := fun e => by have := r2 a b (by omega) hb e; omega
    refine rank_step (gi ls) n _ _ (by omega) ?_
    unfold key at s
    dsimp only at s
    unfold bfr
    rw [decide_eq_true_eq]
    omega
  have := up_id (fun k => rank (gi ls) n (g k).toNat) n (fun k hk => rank_lt _ _ _ (by have := r1 k hk; omega)) key1 k hk
  obtain ⟨a1, a2⟩ := r1 k hk
  exact ⟨(g k).toNat, by omega, by omega, this⟩
/-- The numbers in rising order. -/
def vs (ls : List Int) (n : Nat) (k : Nat) : Int := srt (gi ls) n n k
theorem vs_at (ls : List Int) (n i : Nat) (hi : i < n) : vs ls n (rank (gi ls) n i) = gi ls i := by
  obtain ⟨j, hj, hr, hv⟩ := srt_spec (gi ls) n (rank (gi ls) n i) (rank_lt _ _ _ hi)
  have := rank_inj (gi ls) n j i hj hi hr
  unfold vs; rw [hv, this]
theorem vs_get (ls : List Int) (n k : Nat) (hk : k < n) : ∃ i, i < n ∧ rank (gi ls) n i = k ∧ vs ls n k = gi ls i := srt_spec (gi ls) n k hk
/-- What each is given. -/
def fairF (ls : List Int) (n : Nat) (r : Int) (i : Nat) : Int := giv (vs ls n) n r (rank (gi ls) n i)
theorem vs_nn (ls : List Int) (n : Nat) (h : ∀ i, i < n → 0 ≤ gi ls i) (k : Nat) (hk : k < n) : 0 ≤ vs ls n k := by
  obtain ⟨i, hi, _, e⟩ := vs_get ls n k hk
  rw [e]; exact h i hi
theorem fair_bd (ls : List Int) (n : Nat) (r : Int) (hr : 0 ≤ r) (h : ∀ i, i < n → 0 ≤ gi ls i) (i : Nat) (hi : i < n) : 0 ≤ fairF ls n r i ∧ fairF ls n r i ≤ gi ls i := by
  have := giv_bd (vs ls n) n r hr (vs_nn ls n h) (rank (gi ls) n i) (rank_lt _ _ _ hi)
  rw [vs_at ls n i hi] at this
  exact ⟨this.1, this.2.1⟩
/-- What the places of the first m give. -/
def acc (w : Nat → Int) (q : Nat → Nat) : Nat → Nat → Int
  | 0 => fun _ => 0
  | m + 1 => fun j => if j = q m then w m else acc w q m j
theorem acc_at (w : Nat → Int) (q : Nat → Nat) (k : Nat) : ∀ m, k < m → (∀ a b, a < m → b < m → q a = q b → a = b) → acc w q m (q k) = w k
  | 0, h, _ => by omega
  | m + 1, h, hq => by
    simp only [acc]
    by_cases e : k = m
    · rw [e, if_pos rfl]
    · rw [if_neg (fun e2 => e (hq k m (by omega) (by omega) e2))]
      exact acc_at w q k m (by omega) (fun a b ha hb => hq a b (by omega) (by omega))
end Go.Proofs.YtgodgfnfaiiohaaGreatDoor.FairM

/- Contracts of slices.stableCmpFunc and slices.SortStableFunc at integers, at up to forty places. -/
namespace Go.Proofs.YtgodgfnfaiiohaaGreatDoor
open Go.ChangeShapes Go.WideShapes Go.ChangeAt Go.RowKit
open Stab
set_option maxRecDepth 20000
theorem Srt.id (lv : Int → Int) (f : Nat → Int) (a : Nat) : Srt (key lv) f a a := fun i j h1 h2 h3 => by omega
set_option maxHeartbeats 8000000 in
theorem stab_c (B g n P : Nat) (al : Option Addr) (cl : Nat) (ls : List Int) (f : Nat → Int) (W : World) (hd : DS W B g n f) (hc : Cx W g P al n cl ls) (hn : n ≤ 40) (hf : ∀ i, i < n → f i = i) :
    Calls Tryz.prog 140 #[.slice (some ⟨g, 0, none⟩) n n, .int .i64 (n : Nat), cmpV P] W fun e w' => e = .returned (.tuple #[]) ∧ Mgd W w' B g n ls f 0 n := by
  rcases Nat.lt_or_ge n 20 with c1 | c1
  · -- one block, not full
    have C1 := hidp (insort_c B g n P 0 n al cl ls f W hd hc (by omega) (Nat.le_refl _) hn (fun i _ h => hf i h))
    have c1' : ¬ (20 : Int) ≤ (n : Int) := by omega
    have c2' : ¬ (20 : Int) < (n : Int) := by omega
    unfold cmpV at *
    clear hd hc hf
    go_enter Tryz.func140, Tryz.ntmps140
    go_wp2_with fail
    refine wp_loop_rounds 1 ?_; rw [rounds_succ]
    go_wp2_with fail
    refine C1.out.mono ?_
    rintro e w1 ⟨rfl, hM⟩
    have HM := hidp hM
    clear hM
    go_wp2_with fail
    refine wp_loop_rounds 1 ?_; rw [rounds_succ]
    go_wp2_with fail
    go_end0
    exact ⟨rfl, HM.out⟩
  · rcases Nat.lt_or_ge n 40 with c2 | c2
    · have C1 := hidp (insort_c B g n P 0 20 al cl ls f W hd hc (by omega) c1 hn (fun i _ h => hf i (by omega)))
      have C2 := hidp (fun h W' (hp : Perm f h 0 20) (D : DS W' B g n h) (G : W.grownBy W' (some g)) => insort_c B g n P 20 n al cl ls h W' D (hc.grown G) c1 (Nat.le_refl _) hn (fun i i1 i2 => (hp.out i (.inr i1)).trans (hf i i2)))
      have C3 := hidp (fun h1 h W' (hp : Perm f h1 0 20) (s1 : Srt (key (lvF ls)) h1 0 20) (hp2 : Perm h1 h 20 n) (s2 : Srt (key (lvF ls)) h 20 n) (D : DS W' B g n h) (G : W.grownBy W' (some g)) (hlt : 20 < n) => by
        have r1 := fun i (h1' : 0 ≤ i) (h2 : i < 20) => perm_in hp (fun k _ k2 => hf k (by omega)) i h1' h2
        have r2 := fun i (h1' : 20 ≤ i) (h2 : i < n) => perm_in hp2 (fun k k1 k2 => (hp.out k (.inr k1)).trans (hf k k2)) i h1' h2
        have e1 : ∀ i, i < 20 → h i = h1 i := fun i hi => hp2.out i (.inl hi)
        exact sym_c B g n P al cl ls n 0 20 n h W' (by omega) ⟨D, hc.grown G, by omega, hlt, Nat.le_refl _, hn, fun i _ i2 => by
          rcases Nat.lt_or_ge i 20 with c | c
          · rw [e1 i c]; have := r1 i (Nat.zero_le _) c; omega
          · have := r2 i c i2; omega, fun i j _ i2 j1 j2 => by
          rw [e1 i i2]; have := r1 i (Nat.zero_le _) i2; have := r2 j j1 j2; omega, fun i j _ ij j2 => by rw [e1 i (by omega), e1 j j2]; exact s1 i j (Nat.zero_le _) ij j2, s2⟩)
      have FIN := hidp (fun (h1 h h2 : Nat → Int) (hp : Perm f h1 0 20) (hp2 : Perm h1 h 20 n) (hp3 : Perm h h2 0 n) => show Perm f h2 0 n from ((hp.wider (Nat.le_refl _) c1).trans (hp2.wider (by omega) (Nat.le_refl _))).trans hp3)
      have FI2 := hidp (fun (h1 h : Nat → Int) (hp : Perm f h1 0 20) (hp2 : Perm h1 h 20 n) => show Perm f h 0 n from (hp.wider (Nat.le_refl _) c1).trans (hp2.wider (by omega) (Nat.le_refl _)))
      have i1 : (20 : Int) ≤ (n : Int) := by omega
      have i2 : ¬ (40 : Int) ≤ (n : Int) := by omega
      have i3 : ¬ (40 : Int) < (n : Int) := by omega
      unfold cmpV at *
      clear hd hc hf
      go_enter Tryz.func140, Tryz.ntmps140
      go_wp2_with fail
      refine wp_loop_rounds 2 ?_; rw [rounds_succ]
      go_wp2_with fail
      refine C1.out.mono ?_
      rintro e w1 ⟨rfl, ⟨h1, P1, S1, D1⟩, G1⟩
      have HP1 := hidp P1
      have HS1 := hidp S1
      have D1' := hidp D1
      have G1' := hidp G1
      clear P1 S1 D1 G1 C1
      go_wp2_with fail
      rw [rounds_succ]
      go_wp2_with fail
      refine (C2.out _ _ HP1.out D1'.out G1'.out).mono ?_
      rintro e w2 ⟨rfl, ⟨h2, P2, S2, D2⟩, G2⟩
      have HP2 := hidp P2
      have HS2 := hidp S2
      have D2' := hidp D2
      have G2' := hidp (G1'.out.trans G2)
      clear P2 S2 D2 G2 C2 D1' G1'
      by_cases hlt : 20 < n
      · have i4 : (20 : Int) < (n : Int) := by omega
        go_wp2_with fail
        refine wp_loop_rounds 2 ?_; rw [rounds_succ]
        go_wp2_with fail
        refine wp_loop_rounds 1 ?_; rw [rounds_succ]
        go_wp2_with fail
        refine (C3.out _ _ _ HP1.out HS1.out HP2.out HS2.out D2'.out G2'.out hlt).mono ?_
        rintro e w3 ⟨rfl, ⟨h3, P3, S3, D3⟩, G3⟩
        have R := hidp (show Mgd W w3 B g n ls f 0 n from ⟨⟨h3, FIN.out _ _ _ HP1.out HP2.out P3, S3, D3⟩, G2'.out.trans G3⟩)
        clear P3 S3 D3 G3
        go_wp2_with fail
        rw [rounds_succ]
        go_wp2_with fail
        go_end0
        exact ⟨rfl, R.out⟩
      · obtain rfl : n = 20 := by omega
        have R := hidp (show Mgd W w2 B g 20 ls f 0 20 from ⟨⟨h2, FI2.out _ _ HP1.out HP2.out, fun i j a1 a2 a3 => by
          rw [HP2.out.out i (.inl (by omega)), HP2.out.out j (.inl a3)]; exact HS1.out i j a1 a2 a3, D2'.out⟩, G2'.out⟩)
        go_wp2_with fail
        refine wp_loop_rounds 1 ?_; rw [rounds_succ]
        go_wp2_with fail
        go_end0
        exact ⟨rfl, R.out⟩
    · obtain rfl : n = 40 := by omega
      have C1 := hidp (insort_c B g 40 P 0 20 al cl ls f W hd hc (by omega) (by omega) hn (fun i _ h => hf i (by omega)))
      have C2 := hidp (fun h W' (hp : Perm f h 0 20) (D : DS W' B g 40 h) (G : W.grownBy W' (some g)) => insort_c B g 40 P 20 40 al cl ls h W' D (hc.grown G) (by omega) (Nat.le_refl _) hn (fun i i1 i2 => (hp.out i (.inr i1)).trans (hf i i2)))
      have C4 := hidp (fun h W' (D : DS W' B g 40 h) (G : W.grownBy W' (some g)) => insort_c B g 40 P 40 40 al cl ls h W' D (hc.grown G) (by omega) (Nat.le_refl _) hn (fun i i1 i2 => by omega))
      have C3 := hidp (fun h1 h W' (hp : Perm f h1 0 20) (s1 : Srt (key (lvF ls)) h1 0 20) (hp2 : Perm h1 h 20 40) (s2 : Srt (key (lvF ls)) h 20 40) (D : DS W' B g 40 h) (G : W.grownBy W' (some g)) => by
        have r1 := fun i (h1' : 0 ≤ i) (h2 : i < 20) => perm_in hp (fun k _ k2 => hf k (by omega)) i h1' h2
        have r2 := fun i (h1' : 20 ≤ i) (h2 : i < 40) => perm_in hp2 (fun k k1 k2 => (hp.out k (.inr k1)).trans (hf k k2)) i h1' h2
        have e1 : ∀ i, i < 20 → h i = h1 i := fun i hi => hp2.out i (.inl hi)
        exact sym_c B g 40 P al cl ls 40 0 20 40 h W' (by omega) ⟨D, hc.grown G, by omega, by omega, Nat.le_refl _, hn, fun i _ i2 => by
          rcases Nat.lt_or_ge i 20 with c | c
          · rw [e1 i c]; have := r1 i (Nat.zero_le _) c; omega
          · have := r2 i c i2; omega, fun i j _ i2 j1 j2 => by
          rw [e1 i i2]; have := r1 i (Nat.zero_le _) i2; have := r2 j j1 j2; omega, fun i j _ ij j2 => by rw [e1 i (by omega), e1 j j2]; exact s1 i j (Nat.zero_le _) ij j2, s2⟩)
      unfold cmpV at *
      clear hd hc hf
      go_enter Tryz.func140, Tryz.ntmps140
      go_wp2_with fail
      refine wp_loop_rounds 3 ?_; rw [rounds_succ]
      go_wp2_with fail
      refine C1.out.mono ?_
      rintro e w1 ⟨rfl, ⟨h1, P1, S1, D1⟩, G1⟩
      have HP1 := hidp P1
      have HS1 := hidp S1
      have D1' := hidp D1
      have G1' := hidp G1
      clear P1 S1 D1 G1 C1
      go_wp2_with fail
      rw [rounds_succ]
      go_wp2_with fail
      refine (C2.out _ _ HP1.out D1'.out G1'.out).mono ?_
      rintro e w2 ⟨rfl, ⟨h2, P2, S2, D2⟩, G2⟩
      have HP2 := hidp P2
      have HS2 := hidp S2
      have D2' := hidp D2
      have G2' := hidp (G1'.out.trans G2)
      clear P2 S2 D2 G2 C2 D1' G1'
      go_wp2_with fail
      rw [rounds_succ]
      go_wp2_with fail
      refine (C4.out _ _ D2'.out G2'.out).mono ?_
      rintro e w3 ⟨rfl, ⟨h3, P3, S3, D3⟩, G3⟩
      have e3 : h3 = h2 := funext (fun i => P3.out i (by omega))
      subst e3
      have D3' := hidp D3
      have G3' := hidp (G2'.out.trans G3)
      clear P3 S3 D3 G3 D2' G2'
      go_wp2_with fail
      refine wp_loop_rounds 2 ?_; rw [rounds_succ]
      go_wp2_with fail
      refine wp_loop_rounds 2 ?_; rw [rounds_succ]
      go_wp2_with fail
      refine (C3.out _ _ _ HP1.out HS1.out HP2.out HS2.out D3'.out G3'.out).mono ?_
      rintro e w4 ⟨rfl, ⟨h4, P4, S4, D4⟩, G4⟩
      have R := hidp (show Mgd W w4 B g 40 ls f 0 40 from ⟨⟨h4, ((HP1.out.wider (Nat.le_refl _) (by omega)).trans (HP2.out.wider (by omega) (Nat.le_refl _))).trans P4, S4, D4⟩, G3'.out.trans G4⟩)
      clear P4 S4 D4 G4
      go_wp2_with fail
      rw [rounds_succ]
      go_wp2_with fail
      rw [rounds_succ]
      go_wp2_with fail
      go_end0
      exact ⟨rfl, R.out⟩
theorem sortst_c (B g n P : Nat) (al : Option Addr) (cl : Nat) (ls : List Int) (f : Nat → Int) (W : World) (hd : DS W B g n f) (hc : Cx W g P al n cl ls) (hn : n ≤ 40) (hf : ∀ i, i < n → f i = i) :
    Calls Tryz.prog 102 #[.slice (some ⟨g, 0, none⟩) n n, cmpV P] W fun e w' => e = .returned (.tuple #[]) ∧ Mgd W w' B g n ls f 0 n := by
  have C := hidp (stab_c B g n P al cl ls f W hd hc hn hf)
  unfold cmpV at *
  clear hd hc hf
  go_enter Tryz.func102, Tryz.ntmps102
  go_wp2_with fail
  refine C.out.mono ?_
  rintro e w1 ⟨rfl, hM⟩
  have HM := hidp hM
  clear hM
  go_wp2_with fail
  go_end0
  exact ⟨rfl, HM.out⟩
end Go.Proofs.YtgodgfnfaiiohaaGreatDoor

/- Contract of share.wants at every list. -/
namespace Go.Proofs.YtgodgfnfaiiohaaGreatDoor
open Go.ChangeShapes Go.WideShapes Go.ChangeAt Go.RowKit
set_option maxRecDepth 20000
/-- Is it no count? -/
def noCnt (x : Int) : Bool := decide (x < 0) || decide (1000000000000 < x)
theorem wantsX_c (x : Int) (w : World) :
    Calls Tryz.prog 139 #[.int .i64 x] w fun e w' => e = .returned (.bool (noCnt x)) ∧ Below w.heap.size w w' := by
  by_cases h1 : x < 0
  · go_enter Tryz.func139, Tryz.ntmps139
    go_wp2
    go_ret
    exact ⟨ret_bool (by unfold noCnt; rw [decide_eq_true h1]; rfl), Below.refl _ _⟩
  · by_cases h2 : 1000000000000 < x
    · have R := hidp (show noCnt x = true by unfold noCnt; rw [decide_eq_true h2, decide_eq_false h1]; rfl)
      go_enter Tryz.func139, Tryz.ntmps139
      go_wp2
      go_ret
      exact ⟨ret_bool R.out.symm, Below.refl _ _⟩
    · have R := hidp (show noCnt x = false by unfold noCnt; rw [decide_eq_false h1, decide_eq_false h2]; rfl)
      go_enter Tryz.func139, Tryz.ntmps139
      go_wp2
      go_ret
      exact ⟨ret_bool R.out.symm, Below.refl _ _⟩
/-- What wants tells. -/
def wantE (xs : List Int) (n : Nat) : Int := if 40 < n then 2 else if hasF noCnt xs n = true then 1 else 0
set_option maxHeartbeats 1000000 in
theorem wantsE_c (a : Option Addr) (n c : Nat) (xs : List Int) (w : World) (h : IntsAt w a n c xs) :
    Calls Tryz.prog 101 #[.slice a n c] w fun e w' => e = .returned (.int .i64 (wantE xs n)) ∧ Below w.heap.size w w' := by
  have mm := h.max
  have ee := h.le
  by_cases h40 : 40 < n
  · have R := hidp (show wantE xs n = 2 by unfold wantE; rw [if_pos h40])
    have h40' : (40 : Int) < (n : Int) := by omega
    clear h h40
    go_enter Tryz.func101, Tryz.ntmps101
    go_wp2_with fail
    go_ret
    exact ⟨ret_int R.out.symm, Below.refl _ _⟩
  · have h40' : ¬ (40 : Int) < (n : Int) := by omega
    have C := hidp (cfunc_c 139 #[] noCnt (fun _ _ => by kernel_rfl) a n c xs w h (fun W i hi hB => (wantsX_c _ W).mono (fun e w' ⟨h1, h2⟩ => ⟨h1, hB.trans (h2.mono hB.size)⟩)))
    have R := hidp (show wantE xs n = if hasF noCnt xs n = true then 1 else 0 by unfold wantE; rw [if_neg h40])
    clear h h40
    cases hf : hasF noCnt xs n with
    | true =>
      rw [hf] at C R
      clear hf
      go_enter Tryz.func101, Tryz.ntmps101
      go_wp2_with fail
      refine C.out.mono ?_
      rintro e w1 ⟨rfl, hb⟩
      go_wp2_with fail
      go_ret
      exact ⟨ret_int (by rw [R.out]; rfl), hb⟩
    | false =>
      rw [hf] at C R
      clear hf
      go_enter Tryz.func101, Tryz.ntmps101
      go_wp2_with fail
      refine C.out.mono ?_
      rintro e w1 ⟨rfl, hb⟩
      go_wp2_with fail
      go_ret
      exact ⟨ret_int (by rw [R.out]; rfl), hb⟩
theorem wantE_zero (xs : List Int) (n : Nat) (h : wantE xs n = 0) : n ≤ 40 ∧ ∀ i, i < n → 0 ≤ gi xs i ∧ gi xs i ≤ 1000000000000 := by
  unfold wantE at h
  by_cases h40 : 40 < n
  · rw [if_pos h40] at h; omega
  · rw [if_neg h40] at h
    refine ⟨by omega, fun i hi => ?_⟩
    rcases Decidable.em (0 ≤ gi xs i ∧ gi xs i ≤ 1000000000000) with c | c
    · exact c
    · rw [hasF_true noCnt xs n ⟨i, hi, by
        unfold noCnt
        rw [Bool.or_eq_true, decide_eq_true_eq, decide_eq_true_eq]; omega⟩] at h
      simp at h
end Go.Proofs.YtgodgfnfaiiohaaGreatDoor

/- Contract of share.Fair at every list and room. -/
namespace Go.Proofs.YtgodgfnfaiiohaaGreatDoor
open Go.ChangeShapes Go.WideShapes Go.ChangeAt Go.RowKit
open Stab
set_option maxRecDepth 20000
theorem own_made2 (w : World) (B H : Nat) (z : Value) (n : Nat) (e : TypeId) (hH : w.heap.size = H) (hB : B ≤ H) (hn : n ≤ 1000) : (w.alloc (.cells (madeCells #[z] n) e)).ownsRow B e 1 (.slice (some ⟨H, 0, none⟩) n n) n (tab (fun _ => z) n) := by
  subst hH
  refine ⟨by rw [tab_len, Nat.mul_one], .inr ⟨w.heap.size, n, madeCells #[z] n, rfl, hB, heap_alloc_new w _, Nat.le_refl _, by unfold maxLen; omega, by rw [size_madeCells]; simp, ?_⟩⟩
  have h := made_tab z n
  rw [Nat.mul_one] at h
  rw [h, List.take_of_length_le (by rw [tab_len]; omega)]
/-- The first k places. -/
def idF (k x : Nat) : Int := if x < k then (x : Int) else 0
set_option maxHeartbeats 8000000 in
theorem fair_c (room : Int) (a : Option Addr) (n c : Nat) (xs : List Int) (w : World) (h : IntsAt w a n c xs) (hw : wantE xs n = 0) (hr0 : 0 ≤ room) (hr1 : room ≤ 1000000000000) :
    Calls Tryz.prog 69 #[.int .i64 room, .slice a n c] w fun e w' => ∃ v, e = .returned (.tuple #[v, .int .i64 0]) ∧ w'.ownsRow w.heap.size 3 1 v n ((tab (FairM.fairF xs n room) n).map (Value.int .i64)) ∧ Below w.heap.size w w' := by
  obtain ⟨ib, hib, hi0, hi1, hi2⟩ := info_parts info_int
  obtain ⟨n40, hbd⟩ := wantE_zero xs n hw
  have mm := h.max
  have ee := h.le
  have H := hidp h
  have C := hidp (fun W hb => wantsE_c a n c xs W (h.below (w' := W) hb))
  rw [hw] at C
  have hb0 := bal (Below.refl w.heap.size w) (.cells #[.slice a n c] 37)
  have c0 : (w.alloc (.cells #[.slice a n c] 37)).cell? ⟨w.heap.size, 0, none⟩ = some (.slice a n c) := by go_simp
  have HBD := hidp hbd
  clear h hw
  go_enter Tryz.func69, Tryz.ntmps69
  go_wp2_with fail
  refine (C.out _ hb0).mono ?_
  rintro e wa ⟨rfl, hba⟩
  have c1 := ck hba c0
  have hwa := bstep hb0 hba
  have hsa : w.heap.size < wa.heap.size := lt_of_cell c1
  clear hba hb0 c0
  have hmk : ∀ W : World, (Instr.makeSlice 37 (.int .i64 (n : Int)) (.int .i64 (n : Int))).run Tryz.prog W = .ok (.slice (some ⟨W.heap.size, 0, none⟩) n n) (W.alloc (.cells (madeCells #[.int .i64 0] n) 3)) := fun W => run_make_row' 37 3 _ _ Tryz.underlying37 info_int rfl _ _ n (by omega) (by omega) W
  have hb2 : Below wa.heap.size wa ((wa.alloc (.cells (madeCells #[.int .i64 0] n) 3)).alloc (.cells (madeCells #[.int .i64 0] n) 3)) := bal (bal (Below.refl _ _) _) _
  have oA := hidp (World.ownsRow.alloc (own_made2 wa w.heap.size wa.heap.size (.int .i64 0) n 3 rfl hwa.size (by omega)) (.cells (madeCells #[.int .i64 0] n) 3))
  have oB := hidp (own_made2 (wa.alloc (.cells (madeCells #[.int .i64 0] n) 3)) w.heap.size (wa.heap.size + 1) (.int .i64 0) n 3 (by simp) (by omega) (by omega))
  have hwb := hidp (bstep hwa hb2)
  have c2 := ck hb2 c1
  clear hb2 hwa
  go_upto_region 8 with fail
  clear c1
  generalize ((wa.alloc (.cells (madeCells #[.int .i64 0] n) 3)).alloc (.cells (madeCells #[.int .i64 0] n) 3)) = wb at *
  generalize wa.heap.size = g1 at *
  have DA := hidp (show DS wb w.heap.size g1 n (fun _ => 0) from oA.out)
  have DB := hidp (show DS wb w.heap.size (g1 + 1) n (idF 0) from (show DS wb w.heap.size (g1 + 1) n (fun _ => 0) from oB.out).congr (fun x => by unfold idF; rw [if_neg (by omega)]))
  have CX := hidp (show Cx wb (g1 + 1) w.heap.size a n c xs from ⟨c2, H.out.below hwb.out, fun x hx => by
    obtain ⟨i, hi, e⟩ := List.getElem_of_mem hx
    have := HBD.out i (by rw [← H.out.len]; exact hi)
    rw [← e]
    unfold gi at this
    rw [List.getD_eq_getElem?_getD, List.getElem?_eq_getElem hi] at this
    exact this, by omega, fun h0 b o e => by
    obtain ⟨b2, o2, e2, h2, _⟩ := H.out.addr (by omega)
    rw [e] at e2
    simp only [Option.some.injEq, Addr.mk.injEq] at e2
    omega⟩)
  clear oA oB c2 hmk hbd
  go_wp2_with fail
  go_loopg [31] n (fun gg s31 wr => ∃ k : Nat, k ≤ n ∧ n - k ≤ gg ∧ s31 = .int .i64 k ∧ Hid (DS wr w.heap.size (g1 + 1) n (idF k)) ∧ Hid (wb.grownBy wr (some (g1 + 1))))
  case atStart => exact ⟨0, by omega, by omega, rfl, DB, gr_refl _ _⟩
  case round =>
    clear DB
    obtain ⟨k, hk, hgg, rfl, D, G⟩ := hrel
    by_cases hlt : k < n
    · have c1 := D.out.cell k hlt
      have f1 := D.out.fro k
      have ST := hidp (show DS (wr.setCell ⟨g1 + 1, k, none⟩ (.int .i64 (k : Nat))) w.heap.size (g1 + 1) n (idF (k + 1)) from (D.out.set k (k : Nat)).congr (fun x => by
        unfold idF
        by_cases e : x = k
        · rw [if_pos e, if_pos (by omega), e]
        · rw [if_neg e]
          by_cases e2 : x < k
          · rw [if_pos e2, if_pos (by omega)]
          · rw [if_neg e2, if_neg (by omega)]))
      have kI : (k : Int) < (n : Int) := by omega
      go_wp2_with fail
      go_roundg (n - (k + 1))
      case measure => omega
      case rel => exact ⟨k + 1, by omega, by omega, by go_num, ST, hidp (gr_set G.out _ _)⟩
    · obtain rfl : k = n := by omega
      have SC := hidp (sortst_c w.heap.size (g1 + 1) k w.heap.size a c xs (idF k) wr D.out (CX.out.grown G.out) n40 (fun i hi => by unfold idF; rw [if_pos hi]))
      unfold cmpV at SC
      go_wp2_with fail
      refine SC.out.mono ?_
      rintro e wc ⟨rfl, ⟨f, P1, S1, D1⟩, G1⟩
      have RK := hidp (fun t (ht : t < k) => FairM.stable_rank xs k (by omega) (idF k) f (fun i hi => by unfold idF; rw [if_pos hi]) P1 S1 t ht)
      have D2 := hidp D1
      have G2 := hidp (G.out.trans G1)
      clear P1 S1 D1 G1 SC D G
      have A2 := hidp (show DS wc w.heap.size g1 k (fun _ => 0) from World.ownsRow.kept DA.out G2.out (.inr (by simp [Value.ownBlock])))
      have HB2 := hidp (show Below w.heap.size w wc from hwb.out.grown G2.out hwb.out.size (fun r e => by cases e; omega))
      have CX2 := hidp (CX.out.grown G2.out)
      clear DA CX G2
      have HA := hidp (fun (hk : 0 < k) b o (e : a = some ⟨b, o, none⟩) => show b < w.heap.size from by
        obtain ⟨b2, o2, e2, h2, _⟩ := H.out.addr hk
        rw [e] at e2
        simp only [Option.some.injEq, Addr.mk.injEq] at e2
        omega)
      have CX3 := hidp (show Cx wc g1 w.heap.size a k c xs from ⟨CX2.out.c, CX2.out.i, CX2.out.bd, by omega, fun h0 b o e => by have := HA.out h0 b o e; omega⟩)
      have LB := hidp (fun t (ht : t ≤ k) => FairM.left_bd (FairM.vs xs k) k room hr0 (FairM.vs_nn xs k (fun i hi => (HBD.out i hi).1)) t ht)
      have A3 := hidp (show DS wc w.heap.size g1 k (FairM.acc (FairM.giv (FairM.vs xs k) k room) (fun t => (f t).toNat) 0) from A2.out)
      have HVS := hidp (fun t (ht : t < k) => RK.out t ht)
      clear A2 CX2
      go_wp2_with fail
      go_loopg [0, 44] k (fun gg s0 s44 wr => ∃ t : Nat, t ≤ k ∧ k - t ≤ gg ∧ s44 = .int .i64 t ∧ s0 = .int .i64 (FairM.left (FairM.vs xs k) k room t) ∧ Hid (DS wr w.heap.size g1 k (FairM.acc (FairM.giv (FairM.vs xs k) k room) (fun t => (f t).toNat) t)) ∧ Hid (wc.grownBy wr (some g1)))
      case atStart => exact ⟨0, by omega, by omega, rfl, rfl, A3, gr_refl _ _⟩
      case round =>
        clear A3
        obtain ⟨t, ht, hgt, rfl, rfl, A, G⟩ := hrel
        by_cases hlt : t < k
        · obtain ⟨i, hi, hfi, hrk⟩ := RK.out t hlt
          have O := (show DS wc w.heap.size (g1 + 1) k f from D2.out).kept G.out (.inr (by simp [Value.ownBlock]))
          have c1 := (show DS wr w.heap.size (g1 + 1) k f from O).cell t hlt
          rw [hfi] at c1
          have X := CX3.out.grown G.out
          have c2 := X.c
          obtain ⟨b, o, rfl, hb, hcc⟩ := X.i.addr (by omega)
          have c3 := hcc i hi
          have c4 := A.out.cell i hi
          have f4 := A.out.fro i
          have vb := HBD.out i hi
          have va := FairM.vs_at xs k i hi
          rw [hrk] at va
          have lb := LB.out t ht
          obtain ⟨m, hm⟩ : ∃ m : Nat, (k : Int) - (t : Int) = (m : Int) := ⟨k - t, by omega⟩
          have hm1 : 1 ≤ m ∧ m ≤ 40 := by omega
          obtain ⟨R, hR⟩ : ∃ R, R = FairM.left (FairM.vs xs k) k room t := ⟨_, rfl⟩
          rw [← hR] at lb ⊢
          have hg := show FairM.giv (FairM.vs xs k) k room t = min (FairM.vs xs k t) (FairM.left (FairM.vs xs k) k room t / ((k : Int) - (t : Int))) from rfl
          rw [va, ← hR, hm] at hg
          have hl := FairM.left_step (FairM.vs xs k) k room t
          rw [← hR, hg] at hl
          have d0 : 0 ≤ R / (m : Int) := Int.ediv_nonneg lb.1 (by omega)
          have d1 : R / (m : Int) ≤ R := Int.ediv_le_self _ lb.1
          have ACC := hidp (show DS (wr.setCell ⟨g1, i, none⟩ (.int .i64 (min (gi xs i) (R / (m : Int))))) w.heap.size g1 k (FairM.acc (FairM.giv (FairM.vs xs k) k room) (fun t => (f t).toNat) (t + 1)) from (A.out.set i _).congr (fun x => by
            simp only [FairM.acc]
            have e : (f t).toNat = i := by rw [hfi]; rfl
            by_cases ex : x = i
            · rw [if_pos ex, if_pos (by rw [ex, e]), hg]
            · rw [if_neg ex, if_neg (by rw [e]; exact ex)]))
          have GA := hidp (gr_drew (gr_set G.out i (.int .i64 (min (gi xs i) (R / (m : Int))))))
          have HL := hidp hl
          have kI : (t : Int) < (k : Int) := by omega
          have iI : (i : Int) < (k : Int) := by omega
          have m0 : ¬ (m : Int) = 0 := by omega
          have m0' : ((m : Int) == 0) = false := by rw [beq_eq_false_iff_ne]; omega
          clear X O hcc va hrk hfi hR hg hl
          generalize gi xs i = li at *
          generalize FairM.acc (FairM.giv (FairM.vs xs k) k room) (fun t => (f t).toNat) t i = old at *
          go_upto_region 17 with fail
          go_region
          all_goals go_wp2
          all_goals go_roundg (k - (t + 1))
          all_goals first
            | exact ⟨t + 1, by omega, by omega, by go_num, v_int (by rw [HL.out]), hidp (show DS _ _ _ _ _ from ACC.out), GA⟩
            | omega
        · obtain rfl : t = k := by omega
          have FIN := hidp (show (tab (FairM.fairF xs t room) t).map (Value.int .i64) = frow (FairM.acc (FairM.giv (FairM.vs xs t) t room) (fun t => (f t).toNat) t) t by
            rw [map_tab _ t (tab_len _ _)]
            unfold frow
            exact tab_congr _ _ _ (fun j hj => v_int (by
              rw [tab_gi _ _ _ hj]
              have hr := SortMath.rank_lt (gi xs) t j hj
              obtain ⟨i, hi, hfi, hrk⟩ := RK.out (SortMath.rank (gi xs) t j) hr
              have hij := SortMath.rank_inj (gi xs) t i j hi hj hrk
              have hq : ∀ a b, a < t → b < t → (f a).toNat = (f b).toNat → a = b := fun a b ha hb e => by
                obtain ⟨ia, _, fa, ra⟩ := RK.out a ha
                obtain ⟨ib, _, fb, rb⟩ := RK.out b hb
                rw [fa, fb] at e
                have : ia = ib := by omega
                rw [← ra, ← rb, this]
              have := FairM.acc_at (FairM.giv (FairM.vs xs t) t room) (fun t => (f t).toNat) (SortMath.rank (gi xs) t j) t hr hq
              rw [hfi, Int.toNat_natCast, hij] at this
              exact this.symm)))
          have hfin := hidp (show Below w.heap.size w wr from HB2.out.grown G.out HB2.out.size (fun r e => by cases e; omega))
          go_wp2_with fail
          go_ret2
          exact ⟨_, rfl, by rw [FIN.out]; exact A.out, hfin.out⟩
end Go.Proofs.YtgodgfnfaiiohaaGreatDoor

/- Contract of cum.Pick where there are weights and the part is below their sum. -/
namespace Go.Proofs.YtgodgfnfaiiohaaGreatDoor
open Go.ChangeShapes Go.WideShapes Go.ChangeAt Go.RowKit
set_option maxRecDepth 20000

/-- sort.Search, whatever the predicate. -/
theorem search_c (g : Nat) (lb : Array Value) (F : Nat → Bool) (eg : ∀ args w, (callFunc g args).run Tryz.prog w = .ok (.enter g args) w) (n : Nat) (hn : n ≤ 1000000) (w : World)
    (hp : ∀ W i, i < n → Below w.heap.size w W → Calls Tryz.prog g (#[.int .i64 (i : Int)] ++ lb) W fun e w' => e = .returned (.bool (F i)) ∧ Below w.heap.size w w') :
    Calls Tryz.prog 105 #[.int .i64 n, .func (.func g) #[] lb] w fun e w' => ∃ i : Nat, e = .returned (.int .i64 i) ∧ Hid (i ≤ n ∧ (i = 0 ∨ F (i - 1) = false) ∧ (i = n ∨ F i = true)) ∧ Below w.heap.size w w' := by
  have HP := hidp hp
  clear hp
  go_enter Tryz.func105, Tryz.ntmps105
  go_wp2_with fail
  go_loopg [5, 6] n (fun gg s5 s6 wr => ∃ lo hi : Nat, lo ≤ hi ∧ hi ≤ n ∧ hi - lo ≤ gg ∧ s5 = .int .i64 lo ∧ s6 = .int .i64 hi ∧ Hid ((lo = 0 ∨ F (lo - 1) = false) ∧ (hi = n ∨ F hi = true)) ∧ Hid (Below w.heap.size w wr))
  case atStart => exact ⟨0, n, by omega, by omega, by omega, rfl, rfl, ⟨.inl rfl, .inl rfl⟩, Below.refl _ w⟩
  case round =>
    obtain ⟨lo, hi, h1, h2, hgg, rfl, rfl, HI, BW⟩ := hrel
    by_cases hlt : lo < hi
    · obtain ⟨m, hm⟩ : ∃ m : Nat, m = (lo + hi) / 2 := ⟨_, rfl⟩
      have hm1 : lo ≤ m ∧ m < hi := by omega
      have hmE : ((lo : Int) + (hi : Int)) / 2 = (m : Int) := by omega
      have hcall := HP.out wr m (by omega) BW.out
      clear hm
      obtain ⟨hm1, hm2⟩ := hm1
      cases hq : F m with
      | true =>
        rw [hq] at hcall
        have HQ := hidp hq
        clear hq
        go_wp2_with (go_at_fn g; refine hcall.mono ?_; rintro e w' ⟨rfl, hb'⟩)
        go_roundg (m - lo)
        case measure => omega
        case rel => exact ⟨lo, m, by omega, by omega, by omega, by go_num, by go_num, ⟨HI.out.1, .inr HQ.out⟩, hb'⟩
      | false =>
        rw [hq] at hcall
        have HQ := hidp hq
        clear hq
        go_wp2_with (go_at_fn g; refine hcall.mono ?_; rintro e w' ⟨rfl, hb'⟩)
        go_roundg (hi - (m + 1))
        case measure => omega
        case rel => exact ⟨m + 1, hi, by omega, by omega, by omega, by go_num, by go_num, ⟨.inr HQ.out, HI.out.2⟩, hb'⟩
    · obtain rfl : lo = hi := by omega
      go_wp2_with fail
      go_ret
      exact ⟨lo, rfl, ⟨h2, HI.out⟩, BW.out⟩
theorem pick1_c (ps pp b n c i : Nat) (p x : Int) (w : World) (c1 : w.cell? ⟨ps, 0, none⟩ = some (.slice (some ⟨b, 0, none⟩) n c)) (c2 : w.cell? ⟨pp, 0, none⟩ = some (.int .i64 p)) (cx : w.cell? ⟨b, i, none⟩ = some (.int .i64 x)) (hi : i < n) (hc : n ≤ c) (hm : c ≤ 9223372036854775807) :
    Calls Tryz.prog 106 #[.int .i64 i, .pointer (some ⟨ps, 0, none⟩), .pointer (some ⟨pp, 0, none⟩)] w fun e w' => e = .returned (.bool (decide (p < x))) ∧ Below w.heap.size w w' := by
  go_enter Tryz.func106, Tryz.ntmps106
  go_wp2_with fail
  go_quiet (fail)
  go_wp2_with fail
  go_ret
  exact ⟨rfl, below_drewN (Below.refl _ _) _⟩
set_option maxHeartbeats 2000000 in
theorem pick_c (a : Option Addr) (n c : Nat) (xs : List Int) (p : Int) (w : World) (h : IntsAt w a n c xs) (hn : n ≤ 40) (hok : okN xs n = true) (hp0 : 0 ≤ p) (hp1 : p < sumK xs n) :
    Calls Tryz.prog 73 #[.slice a n c, .int .i64 p] w fun e w' => ∃ i : Nat, i < n ∧ e = .returned (.tuple #[.int .i64 i, .int .i64 0]) ∧ Hid (sumK xs i ≤ p ∧ p < sumK xs (i + 1)) ∧ Below w.heap.size w w' := by
  have hE := wtsE_ok xs n hn hok (by omega)
  have cw := fun W (hW : IntsAt W a n c xs) => weights_c a n c xs W hW
  rw [show wtsV xs n = sumK xs n by unfold wtsV; rw [if_pos hE], hE] at cw
  have CW := hidp cw
  have CS := hidp (fun W (hW : IntsAt W a n c xs) => sums_c a n c xs W hW hn hok)
  have sb := sumK_ok xs n hok
  obtain ⟨sb1, sb2⟩ := sb
  have HP1 := hidp hp1
  have SN := hidp (show n = 0 → sumK xs n = 0 from fun h => by rw [h]; rfl)
  have SB := hidp (fun k (hk : k ≤ n) => sumK_ok xs k (okN_down xs n k hok hk))
  clear cw hE hok
  obtain ⟨A, hA⟩ : ∃ A, A = sumK xs n := ⟨_, rfl⟩
  have HA := hidp hA
  rw [← hA] at CW sb1 sb2 hp1
  clear hA
  go_enter Tryz.func73, Tryz.ntmps73
  go_wp2_with fail
  refine (CW.out _ (h.alloc _)).mono ?_; rintro e w' ⟨rfl, rfl⟩
  go_wp2_with fail
  refine (CS.out _ (h.alloc _)).mono ?_
  rintro e wb ⟨v, rfl, hv, hbb⟩
  obtain ⟨g, cap, rfl, hg1, hg2, hcap1, hcap2⟩ := owns_addr hv (by
    rcases Nat.eq_zero_or_pos n with h0 | h0
    · have := SN.out h0; have := HA.out; omega
    · exact h0)
  have hba : Below w.heap.size w wb := bstep (bal (Below.refl _ _) _) hbb
  have cpa : (w.alloc (.cells #[.int .i64 p] 3)).cell? ⟨w.heap.size, 0, none⟩ = some (.int .i64 p) := by
    unfold World.cell?; rw [heap_alloc_new]; rfl
  have cpb := ck hbb cpa
  have cps : (wb.alloc (.cells #[.slice (some ⟨g, 0, none⟩) n cap] 37)).cell? ⟨wb.heap.size, 0, none⟩ = some (.slice (some ⟨g, 0, none⟩) n cap) := by
    unfold World.cell?; rw [heap_alloc_new]; rfl
  have cpp := ca cpb (.cells #[.slice (some ⟨g, 0, none⟩) n cap] 37)
  have hcell : ∀ i, i < n → (wb.alloc (.cells #[.slice (some ⟨g, 0, none⟩) n cap] 37)).cell? ⟨g, i, none⟩ = some (.int .i64 (sumK xs (i + 1))) := fun i hi => ca (by
    have := hv.cellAt i (by omega)
    rw [tab_map, tab_get _ _ _ hi] at this
    exact this) _
  have hbz0 : Below w.heap.size w (wb.alloc (.cells #[.slice (some ⟨g, 0, none⟩) n cap] 37)) := bal hba _
  have S := hidp (search_c 106 #[.pointer (some ⟨wb.heap.size, 0, none⟩), .pointer (some ⟨w.heap.size, 0, none⟩)] (fun i => decide (p < sumK xs (i + 1))) (fun _ _ => by kernel_rfl) n (by omega) (wb.alloc (.cells #[.slice (some ⟨g, 0, none⟩) n cap] 37)) (fun W i hi hB => (pick1_c _ _ g n cap i p _ W (ck hB cps) (ck hB cpp) (ck hB (hcell i hi)) hi hcap1 hcap2).mono (fun e w' ⟨h1, h2⟩ => ⟨h1, bstep hB h2⟩)))
  clear hv hbb hba cpa cpb cps cpp hcell CS CW
  go_wp2_with fail
  refine S.out.mono ?_
  rintro e wz ⟨i, rfl, hH, hbz⟩
  go_wp2_with fail
  go_ret2
  obtain ⟨h1, h2, h3⟩ := hH.out
  simp only [decide_eq_false_iff_not, decide_eq_true_eq] at h2 h3
  have hA := HA.out
  have hpn := HP1.out
  have hin : i < n := by
    rcases Nat.lt_or_ge i n with h | h
    · exact h
    · exfalso
      obtain rfl : i = n := by omega
      rcases h2 with h2 | h2
      · subst h2; have := SN.out rfl; omega
      · have : i - 1 + 1 = i := by
          rcases Nat.eq_zero_or_pos i with h0 | h0
          · have := SN.out h0; omega
          · omega
        rw [this] at h2
        exact h2 hpn
  refine ⟨i, hin, rfl, ⟨?_, ?_⟩, bstep hbz0 hbz⟩
  · rcases h2 with h2 | h2
    · subst h2; exact hp0
    · rcases Nat.eq_zero_or_pos i with h0 | h0
      · subst h0; exact hp0
      · rw [show i - 1 + 1 = i by omega] at h2
        omega
  · rcases h3 with h3 | h3
    · omega
    · exact h3
end Go.Proofs.YtgodgfnfaiiohaaGreatDoor

/- Contracts of share.wants and share.Level within their bounds. -/
namespace Go.Proofs.YtgodgfnfaiiohaaGreatDoor
open Go.ChangeShapes Go.WideShapes Go.ChangeAt Go.RowKit
set_option maxRecDepth 20000

theorem wants1_c (x : Int) (h0 : 0 ≤ x) (h1 : x ≤ 1000000000000) (w : World) :
    Calls Tryz.prog 139 #[.int .i64 x] w fun e w' => e = .returned (.bool false) ∧ Below w.heap.size w w' := by
  go_enter Tryz.func139, Tryz.ntmps139
  go_wp2
  go_ret
  exact ⟨ret_bool (by rw [decide_eq_false (by omega), decide_eq_false (by omega)]; rfl), Below.refl _ _⟩
theorem wants_c (a : Option Addr) (n c : Nat) (xs : List Int) (w : World) (h : IntsAt w a n c xs) (hn : n ≤ 40) (hb : ∀ i, i < n → 0 ≤ gi xs i ∧ gi xs i ≤ 1000000000000) :
    Calls Tryz.prog 101 #[.slice a n c] w fun e w' => e = .returned (.int .i64 0) ∧ Below w.heap.size w w' := by
  have C := hidp (cfunc_c 139 #[] (fun _ => false) (fun _ _ => by kernel_rfl) a n c xs w h (fun W i hi hB => (wants1_c _ (hb i hi).1 (hb i hi).2 W).mono (fun e w' ⟨h1, h2⟩ => ⟨h1, hB.trans (h2.mono hB.size)⟩)))
  rw [hasF_false (fun _ => false) xs n (fun _ _ => rfl)] at C
  clear h hb
  go_enter Tryz.func101, Tryz.ntmps101
  go_wp2_with fail
  refine C.out.mono ?_
  rintro e w1 ⟨rfl, hb⟩
  go_wp2_with fail
  go_ret
  exact ⟨rfl, hb⟩

/-- The sum of the first m, each halved k times. -/
def shS (xs : List Int) (k : Nat) : Nat → Int
  | 0 => 0
  | m + 1 => shS xs k m + gi xs m / 2 ^ k
theorem sh_bd (x : Int) (k : Nat) (h0 : 0 ≤ x) : 0 ≤ x / 2 ^ k ∧ x / 2 ^ k ≤ x :=
  ⟨Int.ediv_nonneg h0 (Int.le_of_lt (Int.pow_pos (by omega))), Int.ediv_le_self _ h0⟩
theorem shS_bd (xs : List Int) (k : Nat) (n : Nat) (hb : ∀ i, i < n → 0 ≤ gi xs i ∧ gi xs i ≤ 1000000000000) : ∀ m, m ≤ n → 0 ≤ shS xs k m ∧ shS xs k m ≤ 1000000000000 * m
  | 0, _ => by simp [shS]
  | m + 1, h => by
    have a := shS_bd xs k n hb m (by omega)
    have b := hb m (by omega)
    have c := sh_bd (gi xs m) k b.1
    simp only [shS]
    omega
def lvA (K : Nat) : Int := if K < 21 then (K : Int) else 0
def lvB (K : Nat) : Int := if K < 21 then 0 else 4

set_option maxHeartbeats 2000000 in
theorem level_c (room : Int) (a : Option Addr) (n c : Nat) (xs : List Int) (w : World) (h : IntsAt w a n c xs) (hn : n ≤ 40) (hb : ∀ i, i < n → 0 ≤ gi xs i ∧ gi xs i ≤ 1000000000000) (hr0 : 0 ≤ room) (hr1 : room ≤ 1000000000000)
    (K : Nat) (hK : K ≤ 21) (hl : ∀ j, j < K → room < shS xs j n) (hk : K < 21 → shS xs K n ≤ room) :
    Calls Tryz.prog 71 #[.int .i64 room, .slice a n c] w fun e w' => e = .returned (.tuple #[.int .i64 (lvA K), .int .i64 (lvB K)]) ∧ Below w.heap.size w w' := by
  have C := hidp (wants_c a n c xs w h hn hb)
  obtain ⟨b, o, hz, hx⟩ := h.split
  have hz' : Hid (n = 0) ∨ a = some ⟨b, o, none⟩ := hz.imp_left hidp
  have HX := hidp hx
  have mm := h.max
  have ee := h.le
  have HB := hidp hb
  have HL := hidp hl
  have HK := hidp hk
  have SB := hidp (fun k => shS_bd xs k n hb)
  clear hx hz h hb hl hk
  go_enter Tryz.func71, Tryz.ntmps71
  go_wp2_with fail
  refine C.out.mono ?_
  rintro e w1 ⟨rfl, hb1⟩
  go_wp2_with fail
  go_loopw [22] (fun i wr => ∃ k : Nat, k ≤ K ∧ i = .int .i64 k ∧ wr = w1) (fun i _ => 21 - (intOf i).toNat)
  case atStart => exact ⟨0, by omega, rfl, rfl⟩
  case round =>
    obtain ⟨k, hk, rfl, rfl⟩ := hrel
    by_cases hlt : k < 21
    · have hlt' : (k : Int) < 21 := by omega
      go_wp2_with fail
      go_loop [8, 27] (fun s i => ∃ m : Nat, m ≤ n ∧ i = .int .i64 m ∧ s = .int .i64 (shS xs k m)) (fun _ i => n - (intOf i).toNat)
      case atStart => exact ⟨0, by omega, rfl, rfl⟩
      case round =>
        obtain ⟨m, hm, rfl, rfl⟩ := hrel
        obtain ⟨s1, s2⟩ := SB.out k m hm
        by_cases hmn : m < n
        · obtain rfl : a = some ⟨b, o, none⟩ := hz'.resolve_left (fun e => by have := e.out; omega)
          have q0 := carry_cell (HX.out m hmn) hb1
          have q1 := (HB.out m hmn).1
          have q2 := (HB.out m hmn).2
          have q3 := sh_bd (gi xs m) k q1
          have E := hidp (show shS xs k (m + 1) = shS xs k m + gi xs m / 2 ^ k from rfl)
          go_wp2_with fail
          go_round
          case rel => exact ⟨m + 1, by omega, by go_num, by rw [E.out]⟩
          case measure => simp [intOf]; omega
        · obtain rfl : m = n := by omega
          by_cases hkK : k < K
          · have hgt := HL.out k hkK
            have hgt' : ¬ shS xs k m ≤ room := by omega
            go_wp2_with fail
            go_roundw
            case rel => exact ⟨k + 1, by omega, by go_num, by first | trivial | rfl⟩
            case measure => simp [intOf]; omega
          · obtain rfl : k = K := by omega
            have hle := HK.out hlt
            have A := hidp (show lvA k = k by unfold lvA; rw [if_pos hlt])
            have B := hidp (show lvB k = 0 by unfold lvB; rw [if_pos hlt])
            go_wp2_with fail
            go_ret2
            exact ⟨by rw [A.out, B.out]; rfl, hb1⟩
    · obtain rfl : k = 21 := by omega
      obtain rfl : K = 21 := by omega
      go_wp2_with fail
      go_ret2
      exact ⟨rfl, hb1⟩
end Go.Proofs.YtgodgfnfaiiohaaGreatDoor

/- Contracts of gate.Keep and gate.Level: what each call returns, and that memory stays as it is. -/
namespace Go.Proofs.YtgodgfnfaiiohaaGreatDoor
open Go.ChangeShapes Go.WideShapes Go.ChangeAt Go.RowKit
set_option maxRecDepth 20000


end Go.Proofs.YtgodgfnfaiiohaaGreatDoor

/- Contracts of gate.Part and gate.Count within their bounds. -/
namespace Go.Proofs.YtgodgfnfaiiohaaGreatDoor
open Go.ChangeShapes Go.WideShapes Go.ChangeAt Go.RowKit
set_option maxRecDepth 20000

/-- All of n parts in d, rounded up. -/
def cq (n d : Nat) : Nat := 72057594037927936 * n / d + if 0 < 72057594037927936 * n % d then 1 else 0
theorem hi_lt (n y : Nat) (h : n / 256 < y) : 72057594037927936 * n / 18446744073709551616 < y := by
  have e : 72057594037927936 * n / 18446744073709551616 = n / 256 := by omega
  rw [e]; exact h
theorem hl (n : Nat) : 72057594037927936 * n / 18446744073709551616 * 18446744073709551616 + 72057594037927936 * n % 18446744073709551616 = 72057594037927936 * n := by
  have h := Nat.div_add_mod (72057594037927936 * n) 18446744073709551616
  rw [Nat.mul_comm] at h
  exact h
theorem cq_le (n d : Nat) (h2 : n ≤ d) (h3 : 1 ≤ d) : 72057594037927936 * n / d ≤ 72057594037927936 ∧ (0 < 72057594037927936 * n % d → 72057594037927936 * n / d + 1 ≤ 72057594037927936) := by
  have h := Nat.div_add_mod (72057594037927936 * n) d
  have hl := Nat.mul_le_mul_left 72057594037927936 h2
  generalize 72057594037927936 * n / d = q at *
  generalize 72057594037927936 * n % d = r at *
  have key : ∀ k, d * k ≤ 72057594037927936 * d → k ≤ 72057594037927936 := fun k hk => by
    rw [Nat.mul_comm 72057594037927936 d] at hk
    exact Nat.le_of_mul_le_mul_left hk h3
  refine ⟨key q (by omega), fun hr => ?_⟩
  have : q < 72057594037927936 := by
    have h5 : d * q < d * 72057594037927936 := by rw [Nat.mul_comm d 72057594037927936]; omega
    exact Nat.lt_of_mul_lt_mul_left h5
  omega
set_option maxHeartbeats 2000000 in
theorem part_c (n d : Nat) (h1 : 1 ≤ n) (h2 : n ≤ d) (h3 : d ≤ 1000000000000) (w : World) :
    Calls Tryz.prog 55 #[.int .i64 n, .int .i64 d] w fun e w' => e = .returned (.tuple #[.int .i64 (72057594037927936 - (cq n d : Nat)), .int .i64 0]) ∧ ∃ q, w' = w.drewN q := by
  have CM := hidp (fun W => Tryz.bits_Mul64 72057594037927936 n (by omega) (by omega) W)
  have CD := hidp (fun W => div_c (72057594037927936 * n / 18446744073709551616) (72057594037927936 * n % 18446744073709551616) d (by omega) (by omega) (hi_lt n d (by omega)) (Nat.mod_lt _ (by omega)) W)
  rw [hl n] at CD
  obtain ⟨b1, b2⟩ := cq_le n d h2 (by omega)
  have E := hidp (show cq n d = 72057594037927936 * n / d + if 0 < 72057594037927936 * n % d then 1 else 0 from rfl)
  generalize 72057594037927936 * n / 18446744073709551616 = H at *
  generalize 72057594037927936 * n % 18446744073709551616 = L at *
  generalize 72057594037927936 * n / d = q at *
  generalize 72057594037927936 * n % d = r at *
  generalize cq n d = C at *
  by_cases hr : 0 < r
  · have hC := hidp (show C = q + 1 by rw [E.out, if_pos hr])
    have b3 := b2 hr
    have hri : (0 : Int) < (r : Int) := by omega
    clear E b1 b2 hr
    go_enter Tryz.func55, Tryz.ntmps55
    go_wp2_with fail
    refine (CM.out _).mono ?_; rintro e w' ⟨rfl, rfl⟩
    go_wp2_with fail
    refine (CD.out _).mono ?_; rintro e w' ⟨rfl, k, rfl⟩
    go_wp2_with fail
    go_ret2
    exact ⟨ret_tup_ii (by have := hC.out; omega) rfl, k, rfl⟩
  · have hC := hidp (show C = q by rw [E.out, if_neg hr] <;> rfl)
    have hri : ¬ (0 : Int) < (r : Int) := by omega
    clear E b2 hr
    go_enter Tryz.func55, Tryz.ntmps55
    go_wp2_with fail
    refine (CM.out _).mono ?_; rintro e w' ⟨rfl, rfl⟩
    go_wp2_with fail
    refine (CD.out _).mono ?_; rintro e w' ⟨rfl, k, rfl⟩
    go_wp2_with fail
    go_ret2
    exact ⟨ret_tup_ii (by have := hC.out; omega) rfl, k, rfl⟩
end Go.Proofs.YtgodgfnfaiiohaaGreatDoor

/- Orders and ranks are each other's inverse, and ranks are in the order of their orders (plain Lean). -/
namespace Go.Proofs.YtgodgfnfaiiohaaGreatDoor

end Go.Proofs.YtgodgfnfaiiohaaGreatDoor

/- Contract of slices.Compare at two lists of integers of one length. -/
namespace Go.Proofs.YtgodgfnfaiiohaaGreatDoor
open Go.ChangeShapes Go.WideShapes Go.ChangeAt Go.RowKit
set_option maxRecDepth 20000

end Go.Proofs.YtgodgfnfaiiohaaGreatDoor

/- The walk of DigitBack: the law returns true at all inputs, and no old memory changes. -/
namespace Go.Proofs.YtgodgfnfaiiohaaGreatDoor.digitBack
open Go.ChangeShapes Go.WideShapes Go.ChangeAt Go.RowKit
open Go.Proofs.YtgodgfnfaiiohaaGreatDoor
set_option maxRecDepth 20000

set_option linter.unusedVariables false
end Go.Proofs.YtgodgfnfaiiohaaGreatDoor.digitBack

/- hexa.Th, gate.Part, gate.Count, digit.Order, comb.Some, share.Fair, share.Level, cum.Pick at whatever comes, with their errors. -/
namespace Go.Proofs.YtgodgfnfaiiohaaGreatDoor
open Go.ChangeShapes Go.WideShapes Go.ChangeAt Go.RowKit
set_option maxRecDepth 20000
set_option linter.unusedVariables false
open CombMath Stab
def qthE (n : Int) : Int := if n < 72057594037927936 then 0 else 1
def qthS (n : Int) : ByteArray := if n < 72057594037927936 then thTxt n.toNat else ⟨#[]⟩
theorem th_x (n : Int) (h0 : 0 ≤ n) (w : World) :
    Calls Tryz.prog 53 #[.int .i64 n] w fun e w' => e = .returned (.tuple #[.string (qthS n), .int .i64 (qthE n)]) ∧ Below w.heap.size w w' := by
  by_cases h : n < 72057594037927936
  · obtain ⟨k, rfl⟩ := Int.eq_ofNat_of_zero_le h0
    refine (tht_c k (by omega) w).mono ?_
    rintro e w' ⟨rfl, hb⟩
    refine ⟨?_, hb⟩
    rw [show qthS (k : Int) = thTxt k by unfold qthS; rw [if_pos h]; rfl, show qthE (k : Int) = 0 by unfold qthE; rw [if_pos h]]
  · have h1 : 72057594037927936 ≤ n := by omega
    have T := hidp (show qthS n = ⟨#[]⟩ ∧ qthE n = 1 by unfold qthS qthE; rw [if_neg h, if_neg h]; exact ⟨rfl, rfl⟩)
    have hd := decide_eq_false h
    clear h
    go_enter Tryz.func53, Tryz.ntmps53
    go_wp2_with (first | (go_at_call 91; go_in) | fail)
    go_ret2
    exact ⟨by rw [T.out.1, T.out.2]; rfl, Below.refl _ _⟩
def qpaE (a b : Int) : Int := if 1 ≤ a ∧ a ≤ b ∧ b ≤ 1000000000000 then 0 else 1
def qpaV (a b : Int) : Int := if qpaE a b = 0 then 72057594037927936 - (cq a.toNat b.toNat : Nat) else 0
theorem part_x (a b : Int) (w : World) :
    Calls Tryz.prog 55 #[.int .i64 a, .int .i64 b] w fun e w' => e = .returned (.tuple #[.int .i64 (qpaV a b), .int .i64 (qpaE a b)]) ∧ Below w.heap.size w w' := by
  by_cases h : 1 ≤ a ∧ a ≤ b ∧ b ≤ 1000000000000
  · obtain ⟨k, rfl⟩ := Int.eq_ofNat_of_zero_le (show 0 ≤ a by omega)
    obtain ⟨d, rfl⟩ := Int.eq_ofNat_of_zero_le (show 0 ≤ b by omega)
    have hE : qpaE (k : Int) (d : Int) = 0 := by unfold qpaE; rw [if_pos h]
    refine (part_c k d (by omega) (by omega) (by omega) w).mono ?_
    rintro e w' ⟨rfl, q, rfl⟩
    refine ⟨?_, below_drewN (Below.refl _ _) _⟩
    rw [hE, show qpaV (k : Int) (d : Int) = 72057594037927936 - (cq k d : Nat) by unfold qpaV; rw [if_pos hE]; rfl]
  · have hE : qpaE a b = 1 := by unfold qpaE; rw [if_neg h]
    have hV : qpaV a b = 0 := by unfold qpaV; rw [if_neg (by rw [hE]; decide)]
    rw [hE, hV]
    by_cases h1 : b < 1
    · clear h hE hV
      go_enter Tryz.func55, Tryz.ntmps55
      go_wp2_with fail
      go_ret2
      exact ⟨rfl, Below.refl _ _⟩
    · by_cases h2 : 1000000000000 < b
      · clear h hE hV
        go_enter Tryz.func55, Tryz.ntmps55
        go_wp2_with fail
        go_ret2
        exact ⟨rfl, Below.refl _ _⟩
      · by_cases h3 : a < 1
        · clear h hE hV
          go_enter Tryz.func55, Tryz.ntmps55
          go_wp2_with fail
          go_ret2
          exact ⟨rfl, Below.refl _ _⟩
        · have h4 : b < a := by omega
          clear h hE hV
          go_enter Tryz.func55, Tryz.ntmps55
          go_wp2_with fail
          go_ret2
          exact ⟨rfl, Below.refl _ _⟩
def qfrE (xs : List Int) (n : Nat) (room : Int) : Int := if wantE xs n = 0 then (if 0 ≤ room ∧ room ≤ 1000000000000 then 0 else 1) else wantE xs n
theorem fair_bad_e (room : Int) (a : Option Addr) (n c : Nat) (xs : List Int) (w : World) (h : IntsAt w a n c xs) (hE : qfrE xs n room ≠ 0) :
    Calls Tryz.prog 69 #[.int .i64 room, .slice a n c] w fun e w' => e = .returned (.tuple #[.slice none 0 0, .int .i64 (qfrE xs n room)]) ∧ Below w.heap.size w w' := by
  have C := hidp (fun W hb => wantsE_c a n c xs W (h.below (w' := W) hb))
  have hb0 := bal (Below.refl w.heap.size w) (.cells #[.slice a n c] 37)
  clear h
  by_cases hz : wantE xs n = 0
  · have F : qfrE xs n room = if 0 ≤ room ∧ room ≤ 1000000000000 then 0 else 1 := by unfold qfrE; rw [if_pos hz]
    have hr : ¬ (0 ≤ room ∧ room ≤ 1000000000000) := fun e => hE (by rw [F, if_pos e])
    rw [if_neg hr] at F
    rw [F]
    rw [hz] at C
    by_cases h1 : room < 0
    · clear hz hE hr F
      go_enter Tryz.func69, Tryz.ntmps69
      go_wp2_with fail
      refine (C.out _ hb0).mono ?_
      rintro e w1 ⟨rfl, hb⟩
      have hfin := bstep hb0 hb
      clear hb
      go_wp2_with fail
      go_ret2
      exact ⟨rfl, hfin⟩
    · have h2 : 1000000000000 < room := by omega
      clear hz hE hr F
      go_enter Tryz.func69, Tryz.ntmps69
      go_wp2_with fail
      refine (C.out _ hb0).mono ?_
      rintro e w1 ⟨rfl, hb⟩
      have hfin := bstep hb0 hb
      clear hb
      go_wp2_with fail
      go_ret2
      exact ⟨rfl, hfin⟩
  · have F : qfrE xs n room = wantE xs n := by unfold qfrE; rw [if_neg hz]
    rw [F]
    have hne : (wantE xs n != 0) = true := by simpa using hz
    clear hz hE F
    generalize wantE xs n = E at *
    go_enter Tryz.func69, Tryz.ntmps69
    go_wp2_with fail
    refine (C.out _ hb0).mono ?_
    rintro e w1 ⟨rfl, hb⟩
    have hfin := bstep hb0 hb
    clear hb
    go_wp2_with fail
    go_ret2
    exact ⟨rfl, hfin⟩
/-- The least number of halvings that fit. -/
def qlvK (xs : List Int) (n : Nat) (room : Int) : Nat → Nat
  | 0 => 0
  | k + 1 => if qlvK xs n room k < k then qlvK xs n room k else if shS xs k n ≤ room then k else k + 1
theorem qlvK_spec (xs : List Int) (n : Nat) (room : Int) : ∀ k, qlvK xs n room k ≤ k ∧ (∀ j, j < qlvK xs n room k → room < shS xs j n) ∧ (qlvK xs n room k < k → shS xs (qlvK xs n room k) n ≤ room)
  | 0 => ⟨Nat.le_refl _, fun j hj => by simp [qlvK] at hj, fun h => by simp [qlvK] at h⟩
  | k + 1 => by
    obtain ⟨h1, h2, h3⟩ := qlvK_spec xs n room k
    simp only [qlvK]
    by_cases h : qlvK xs n room k < k
    · rw [if_pos h]
      exact ⟨by omega, h2, fun _ => h3 h⟩
    · have e : qlvK xs n room k = k := by omega
      rw [if_neg h]
      rw [e] at h2
      by_cases hs : shS xs k n ≤ room
      · rw [if_pos hs]
        exact ⟨by omega, h2, fun _ => hs⟩
      · rw [if_neg hs]
        refine ⟨by omega, fun j hj => ?_, fun h => by omega⟩
        by_cases ej : j = k
        · subst ej; omega
        · exact h2 j (by omega)
def qleE (xs : List Int) (n : Nat) (room : Int) : Int := if qfrE xs n room = 0 then lvB (qlvK xs n room 21) else qfrE xs n room
def qleV (xs : List Int) (n : Nat) (room : Int) : Int := if qfrE xs n room = 0 then lvA (qlvK xs n room 21) else 0
theorem want_zero (xs : List Int) (n : Nat) (h : wantE xs n = 0) : n ≤ 40 ∧ ∀ i, i < n → 0 ≤ gi xs i ∧ gi xs i ≤ 1000000000000 := by
  unfold wantE at h
  by_cases h40 : 40 < n
  · rw [if_pos h40] at h; omega
  · rw [if_neg h40] at h
    refine ⟨by omega, fun i hi => Classical.byContradiction fun hh => ?_⟩
    have : hasF noCnt xs n = true := hasF_true _ _ _ ⟨i, hi, by
      unfold noCnt
      by_cases h1 : gi xs i < 0
      · rw [decide_eq_true h1]; rfl
      · rw [decide_eq_true (show 1000000000000 < gi xs i by omega)]; simp⟩
    rw [if_pos this] at h; omega
theorem level_x (room : Int) (a : Option Addr) (n c : Nat) (xs : List Int) (w : World) (h : IntsAt w a n c xs) :
    Calls Tryz.prog 71 #[.int .i64 room, .slice a n c] w fun e w' => e = .returned (.tuple #[.int .i64 (qleV xs n room), .int .i64 (qleE xs n room)]) ∧ Below w.heap.size w w' := by
  by_cases hF : qfrE xs n room = 0
  · have hw : wantE xs n = 0 := Classical.byContradiction fun hh => hh (by unfold qfrE at hF; rw [if_neg hh] at hF; exact hF)
    have hr : 0 ≤ room ∧ room ≤ 1000000000000 := Classical.byContradiction fun hh => by
      unfold qfrE at hF; rw [if_pos hw, if_neg hh] at hF; omega
    obtain ⟨h1, h2⟩ := want_zero xs n hw
    obtain ⟨k1, k2, k3⟩ := qlvK_spec xs n room 21
    refine (level_c room a n c xs w h h1 h2 hr.1 hr.2 (qlvK xs n room 21) k1 k2 k3).mono ?_
    rintro e w' ⟨rfl, hb⟩
    refine ⟨?_, hb⟩
    unfold qleV qleE
    rw [if_pos hF, if_pos hF]
  · have hV : qleV xs n room = 0 := by unfold qleV; rw [if_neg hF]
    have hEE : qleE xs n room = qfrE xs n room := by unfold qleE; rw [if_neg hF]
    rw [hV, hEE]
    clear hV hEE
    have C := hidp (wantsE_c a n c xs w h)
    clear h
    by_cases hz : wantE xs n = 0
    · have F : qfrE xs n room = if 0 ≤ room ∧ room ≤ 1000000000000 then 0 else 1 := by unfold qfrE; rw [if_pos hz]
      have hr : ¬ (0 ≤ room ∧ room ≤ 1000000000000) := fun e => hF (by rw [F, if_pos e])
      rw [if_neg hr] at F
      rw [F]
      rw [hz] at C
      by_cases h1 : room < 0
      · clear hz hF hr F
        go_enter Tryz.func71, Tryz.ntmps71
        go_wp2_with fail
        refine C.out.mono ?_
        rintro e w1 ⟨rfl, hb⟩
        go_wp2_with fail
        go_ret2
        exact ⟨rfl, hb⟩
      · have h2 : 1000000000000 < room := by omega
        clear hz hF hr F
        go_enter Tryz.func71, Tryz.ntmps71
        go_wp2_with fail
        refine C.out.mono ?_
        rintro e w1 ⟨rfl, hb⟩
        go_wp2_with fail
        go_ret2
        exact ⟨rfl, hb⟩
    · have F : qfrE xs n room = wantE xs n := by unfold qfrE; rw [if_neg hz]
      rw [F]
      have hne : (wantE xs n != 0) = true := by simpa using hz
      clear hz hF F
      generalize wantE xs n = E at *
      go_enter Tryz.func71, Tryz.ntmps71
      go_wp2_with fail
      refine C.out.mono ?_
      rintro e w1 ⟨rfl, hb⟩
      go_wp2_with fail
      go_ret2
      exact ⟨rfl, hb⟩
def qpiE (xs : List Int) (n : Nat) (p : Int) : Int := if wtsE xs n = 0 then (if 0 ≤ p ∧ p < sumK xs n then 0 else 1) else wtsE xs n
/-- How many sums are not above p. -/
def qpiI (xs : List Int) (p : Int) : Nat → Nat
  | 0 => 0
  | k + 1 => qpiI xs p k + if sumK xs (k + 1) ≤ p then 1 else 0
def qpiV (xs : List Int) (n : Nat) (p : Int) : Int := if qpiE xs n p = 0 then (qpiI xs p n : Nat) else 0
theorem qpiI_at (xs : List Int) (p : Int) (i : Nat) (hlo : ∀ j, j < i → sumK xs (j + 1) ≤ p) : ∀ n, i ≤ n → (∀ j, i ≤ j → j < n → p < sumK xs (j + 1)) → qpiI xs p n = i
  | 0, hi, _ => by simp only [qpiI]; omega
  | n + 1, hi, hh => by
    simp only [qpiI]
    by_cases e : i = n + 1
    · have e1 : ∀ m, m ≤ i → qpiI xs p m = m := by
        intro m
        induction m with
        | zero => intro _; rfl
        | succ m ih => intro hm; simp only [qpiI]; rw [ih (by omega), if_pos (hlo m (by omega))]
      rw [e1 n (by omega), if_pos (hlo n (by omega))]; omega
    · rw [qpiI_at xs p i hlo n (by omega) (fun j h1 h2 => hh j h1 (by omega)), if_neg (by have := hh n (by omega) (by omega); omega)]
      omega
theorem pick_x (a : Option Addr) (n c : Nat) (xs : List Int) (p : Int) (w : World) (h : IntsAt w a n c xs) :
    Calls Tryz.prog 73 #[.slice a n c, .int .i64 p] w fun e w' => e = .returned (.tuple #[.int .i64 (qpiV xs n p), .int .i64 (qpiE xs n p)]) ∧ Below w.heap.size w w' := by
  by_cases hF : qpiE xs n p = 0
  · have hw : wtsE xs n = 0 := Classical.byContradiction fun hh => hh (by unfold qpiE at hF; rw [if_neg hh] at hF; exact hF)
    have hr : 0 ≤ p ∧ p < sumK xs n := Classical.byContradiction fun hh => by
      unfold qpiE at hF; rw [if_pos hw, if_neg hh] at hF; omega
    have hn : n ≤ 40 := Classical.byContradiction fun hh => by
      unfold wtsE at hw; rw [if_pos (by omega)] at hw; omega
    have hok : okN xs n = true := Classical.byContradiction fun hh => by
      unfold wtsE at hw; rw [if_neg (by omega), if_neg hh] at hw; omega
    have mono : ∀ j k, j ≤ k → k ≤ n → sumK xs j ≤ sumK xs k := fun j k hjk hkn => by
      induction k with
      | zero => obtain rfl : j = 0 := by omega
                exact Int.le_refl _
      | succ k ih =>
        by_cases e : j = k + 1
        · subst e; exact Int.le_refl _
        · have h1 := ih (by omega) (by omega)
          have h2 := okN_at xs n hok k (by omega)
          have h3 : sumK xs (k + 1) = sumK xs k + gi xs k := rfl
          omega
    refine (pick_c a n c xs p w h hn hok hr.1 hr.2).mono ?_
    rintro e w' ⟨i, hi, rfl, hs, hb⟩
    obtain ⟨s1, s2⟩ := hs.out
    refine ⟨?_, hb⟩
    rw [hF, show qpiV xs n p = (i : Nat) by
      unfold qpiV
      rw [if_pos hF, qpiI_at xs p i (fun j hj => Int.le_trans (mono _ _ (by omega) (by omega)) s1) n (by omega) (fun j h1 h2 => Int.lt_of_lt_of_le s2 (mono _ _ (by omega) (by omega)))]]
  · have hV : qpiV xs n p = 0 := by unfold qpiV; rw [if_neg hF]
    rw [hV]
    clear hV
    have CW := hidp (fun W (hW : IntsAt W a n c xs) => weights_c a n c xs W hW)
    by_cases hz : wtsE xs n = 0
    · have F : qpiE xs n p = if 0 ≤ p ∧ p < sumK xs n then 0 else 1 := by unfold qpiE; rw [if_pos hz]
      have hr : ¬ (0 ≤ p ∧ p < sumK xs n) := fun e => hF (by rw [F, if_pos e])
      rw [if_neg hr] at F
      rw [F]
      rw [show wtsV xs n = sumK xs n by unfold wtsV; rw [if_pos hz], hz] at CW
      generalize sumK xs n = A at *
      by_cases h1 : p < 0
      · clear hz hF hr F
        go_enter Tryz.func73, Tryz.ntmps73
        go_wp2_with fail
        refine (CW.out _ (h.alloc _)).mono ?_
        rintro e w1 ⟨rfl, rfl⟩
        go_wp2_with fail
        go_ret2
        exact ⟨rfl, bal (Below.refl _ _) _⟩
      · have h2 : A ≤ p := by omega
        clear hz hF hr F
        go_enter Tryz.func73, Tryz.ntmps73
        go_wp2_with fail
        refine (CW.out _ (h.alloc _)).mono ?_
        rintro e w1 ⟨rfl, rfl⟩
        go_wp2_with fail
        go_ret2
        exact ⟨rfl, bal (Below.refl _ _) _⟩
    · have F : qpiE xs n p = wtsE xs n := by unfold qpiE; rw [if_neg hz]
      rw [F]
      have hne : (wtsE xs n != 0) = true := by simpa using hz
      clear hz hF F
      generalize wtsE xs n = E at *
      generalize wtsV xs n = V at *
      go_enter Tryz.func73, Tryz.ntmps73
      go_wp2_with fail
      refine (CW.out _ (h.alloc _)).mono ?_
      rintro e w1 ⟨rfl, rfl⟩
      go_wp2_with fail
      go_ret2
      exact ⟨rfl, bal (Below.refl _ _) _⟩
def qodE (n r : Int) : Int := if 12 < n then 1 else if (fct n.toNat : Int) ≤ r then 4 else 0
theorem order_bad (n r : Int) (h0 : 0 ≤ n) (hr0 : 0 ≤ r) (hE : qodE n r ≠ 0) (w : World) :
    Calls Tryz.prog 67 #[.int .i64 n, .int .i64 r] w fun e w' => e = .returned (.tuple #[.slice none 0 0, .int .i64 (qodE n r)]) ∧ Below w.heap.size w w' := by
  obtain ⟨k, rfl⟩ := Int.eq_ofNat_of_zero_le h0
  obtain ⟨q, rfl⟩ := Int.eq_ofNat_of_zero_le hr0
  by_cases h : (12 : Int) < (k : Int)
  · have F : qodE (k : Int) (q : Int) = 1 := by unfold qodE; rw [if_pos h]
    rw [F]
    have d1 : decide ((k : Int) < 0) = false := decide_eq_false (by omega)
    have d2 : decide ((12 : Int) < (k : Int)) = true := decide_eq_true h
    clear hE F
    go_enter Tryz.func67, Tryz.ntmps67
    go_wp2_with fail
    go_ret2
    exact ⟨rfl, Below.refl _ _⟩
  · have hr' : ((fct k : Nat) : Int) ≤ (q : Int) := Classical.byContradiction fun hh => hE (by unfold qodE; rw [if_neg h]; exact if_neg hh)
    have F : qodE (k : Int) (q : Int) = 4 := by unfold qodE; rw [if_neg h]; exact if_pos hr'
    rw [F]
    have FN := hidp (dfact_n k (by omega))
    generalize fct k = F at *
    have d1 : decide ((k : Int) < 0) = false := decide_eq_false (by omega)
    have d2 : decide ((12 : Int) < (k : Int)) = false := decide_eq_false (by omega)
    have d3 : decide ((q : Int) < 0) = false := decide_eq_false (by omega)
    have d4 : decide (F ≤ q) = true := decide_eq_true (by omega)
    clear hE
    go_enter Tryz.func67, Tryz.ntmps67
    go_wp2_with fail
    refine (FN.out _).mono ?_; rintro e w' ⟨rfl, rfl⟩
    go_wp2_with fail
    go_ret2
    exact ⟨rfl, Below.refl _ _⟩
end Go.Proofs.YtgodgfnfaiiohaaGreatDoor
