/- Merged: Things, First. -/
import Derived.Test.YtfhmckmglkjbeaaMapB
import Derived.Test.YtfhmckmglkjbeaaKit
import Derived.Deep.LoopGhost
import Derived.Test.YtfhmckmglkjbeaaDRank
import Derived.Deep.QuietTactic
import Derived.BigQuiet
import Derived.WalkSmall
/- Contract of the laws' own things: the set of things below n, rising. -/
namespace Go.Proofs.Ytfhmckmglkjbeaa
open Go.ChangeShapes Go.WideShapes Go.ChangeAt Go.RowKit Go.Maps
set_option maxRecDepth 20000

theorem wpList_mapUpdate_big {P : Program} {w : World} {ops : Array Oper} {rest : List Oper} {o : Oper} {a : Act} {Q : Exit → Act → World → Prop}
    (hg : o.guard = none) (m x v : Operand) (t : TypeId) (hop : o.op = Op.mapUpdate t m x v)
    (k e : TypeId) (K : Keyed P k) (ht : P.underlying t = some (.map k e)) (he : P.underlying e = some .bool) (b n : Nat) (S : Int → Bool) (q : IntKind)
    (hm : a.eval m = .map (some b)) (hown : MapIs w P k e q b n S) (hn : n + 1 ≤ maxLen) (y : Int) (c : Bool) (hx : a.eval x = .int q y) (hv : a.eval v = .bool c) (hkey : keyOf P k (.int q y) = some (.int q y))
    (hK : ∀ w', MapIs w' P k e q b (n + 1) (fun z => if z = y then c else S z) → w.grownBy w' (some b) → wpList P ops Q rest (a.put o.dst undef) w') : wpList P ops Q (o :: rest) a w := by
  obtain ⟨D, h1, h2⟩ := hown
  refine wpList_mapUpdate_own w hg m x v t hop k e K ht _ b n D hm h1 hn _ _ _ hx hv hkey (.lit (.bool c)) [] (plainElem_bool he c) fun w' r1 r2 => hK w' ⟨_, r1, fun z => ?_⟩ r2
  by_cases hzk : z = y
  · subst hzk
    show _ = DataW.lit (Lit.bool (if z = z then c else S z))
    rw [if_pos rfl]
    exact atKey_put_same h1.isMap (by simp [WideAt.IsKeyLit]) _ _
  · show _ = DataW.lit (Lit.bool (if z = y then c else S z))
    rw [if_neg hzk, atKey_put_other (by simp; exact hzk)]
    exact h2 z
theorem zeroBool (w : World) : (zeroValue 4).run Try.prog w = .ok (.bool false) w := by kernel_rfl
theorem key_i64 (n : Int) (h0 : 0 ≤ n) (h1 : n ≤ 9223372036854775807) : keyOf Try.prog 3 (.int .i64 n) = some (.int .i64 n) := keyOf_int_mk Try.underlying3 (WalkArith.wf_i64 (by omega))
/-- What the first k put in. -/
def tset (xs : List Int) (n : Int) : Nat → Int → Bool
  | 0 => fun _ => false
  | k + 1 => fun z => if z = wi (gi xs k) n then true else tset xs n k z
theorem tset_iff (xs : List Int) (n z : Int) : ∀ k, tset xs n k z = true ↔ ∃ j, j < k ∧ z = wi (gi xs j) n
  | 0 => by simp [tset]
  | k + 1 => by
    simp only [tset]
    constructor
    · intro h
      by_cases e : z = wi (gi xs k) n
      · exact ⟨k, by omega, e⟩
      · rw [if_neg e] at h
        obtain ⟨j, h1, h2⟩ := (tset_iff xs n z k).1 h
        exact ⟨j, by omega, h2⟩
    · rintro ⟨j, h1, h2⟩
      by_cases e : z = wi (gi xs k) n
      · rw [if_pos e]
      · rw [if_neg e]
        refine (tset_iff xs n z k).2 ⟨j, ?_, h2⟩
        by_cases ej : j = k
        · subst ej; exact absurd h2 e
        · omega
/-- Those of the first k that are in, rising. -/
def thR (S : Int → Bool) : Nat → List Int
  | 0 => []
  | k + 1 => if S k = true then thR S k ++ [(k : Int)] else thR S k
theorem thR_mem (S : Int → Bool) (x : Int) : ∀ k : Nat, x ∈ thR S k ↔ 0 ≤ x ∧ x < k ∧ S x = true
  | 0 => by simp [thR]; omega
  | k + 1 => by
    have ih := thR_mem S x k
    simp only [thR]
    split
    · rename_i h
      rw [List.mem_append, ih, List.mem_singleton]
      constructor
      · rintro (h1 | h1)
        · exact ⟨h1.1, by omega, h1.2.2⟩
        · subst h1; exact ⟨by omega, by omega, h⟩
      · rintro ⟨h1, h2, h3⟩
        by_cases e : x = k
        · exact .inr e
        · exact .inl ⟨h1, by omega, h3⟩
    · rename_i h
      rw [ih]
      constructor
      · rintro ⟨h1, h2, h3⟩; exact ⟨h1, by omega, h3⟩
      · rintro ⟨h1, h2, h3⟩
        by_cases e : x = k
        · subst e; exact absurd h3 h
        · exact ⟨h1, by omega, h3⟩
theorem thR_sorted (S : Int → Bool) : ∀ k, (thR S k).Pairwise (· < ·)
  | 0 => List.Pairwise.nil
  | k + 1 => by
    simp only [thR]
    split
    · rw [List.pairwise_append]
      refine ⟨thR_sorted S k, by simp, fun a ha b hb => ?_⟩
      simp at hb
      have := (thR_mem S a k).1 ha
      omega
    · exact thR_sorted S k
theorem thR_len (S : Int → Bool) : ∀ k, (thR S k).length ≤ k
  | 0 => Nat.le_refl _
  | k + 1 => by
    have := thR_len S k
    simp only [thR]
    split
    · rw [List.length_append]; simp; omega
    · omega
/-- The set. -/
def thL (xs : List Int) (m n : Nat) : List Int := thR (tset xs n m) n

end Go.Proofs.Ytfhmckmglkjbeaa

/- Contracts of alike.set and alike.First. -/
namespace Go.Proofs.Ytfhmckmglkjbeaa
open Go.ChangeShapes Go.WideShapes Go.ChangeAt Go.RowKit
set_option maxRecDepth 20000

/-- May it be a set of things below n? -/
def SetOk (ys : List Int) (L n : Nat) : Prop := L ≤ n ∧ ∀ i, i < L → 0 ≤ gi ys i ∧ gi ys i < n ∧ (0 < i → gi ys (i - 1) < gi ys i)
theorem set_ok_at (l : List Int) (q : Nat) (h : q < l.length) : gi l q = l[q] := by
  unfold gi; rw [List.getD_eq_getElem?_getD, List.getElem?_eq_getElem h]; rfl
theorem thL_ok (xs : List Int) (m n : Nat) : SetOk (thL xs m n) (thL xs m n).length n := ⟨thR_len _ _, fun i hi => by
  have hm := (thR_mem (tset xs n m) (gi (thL xs m n) i) n).1 (gi_mem _ i hi)
  refine ⟨hm.1, hm.2.1, fun h0 => ?_⟩
  have hs := thR_sorted (tset xs n m) n
  have := List.pairwise_iff_getElem.1 hs (i - 1) i (by unfold thL at hi; omega) hi (by omega)
  rw [set_ok_at _ _ (by omega), set_ok_at _ _ hi]
  exact this⟩
set_option maxHeartbeats 2000000 in
theorem aset_c (a : Option Addr) (L c n : Nat) (ys : List Int) (w : World) (h : IntsAt w a L c ys) (hok : SetOk ys L n) (hn : n ≤ 1000) :
    Calls Try.prog 51 #[.slice a L c, .int .i64 n] w fun e w' => e = .returned (.int .i64 0) ∧ Below w.heap.size w w' := by
  obtain ⟨b, o, hz, hx⟩ := h.split
  have hz' : Hid (L = 0) ∨ a = some ⟨b, o, none⟩ := hz.imp_left hidp
  have HX := hidp hx
  have mm := h.max
  have ee := h.le
  have hLn := hok.1
  have OK := hidp hok.2
  clear hx hz h hok
  go_enter Try.func51, Try.ntmps51
  go_wp2_with fail
  go_loop [13] (fun i => ∃ k : Nat, k ≤ L ∧ i = .int .i64 k) (fun i => L - (intOf i).toNat)
  case atStart => exact ⟨0, by omega, rfl⟩
  case round =>
    obtain ⟨k, hk, rfl⟩ := hrel
    by_cases hlt : k < L
    · obtain rfl : a = some ⟨b, o, none⟩ := hz'.resolve_left (fun e => by have := e.out; omega)
      have q := (HX.out k hlt).2
      obtain ⟨h1, h2, h3⟩ := OK.out k hlt
      by_cases hk0 : 0 < k
      · have q' := (HX.out (k - 1) (by omega)).2
        have hk0' : (0 : Int) < (k : Int) := by omega
        have hkm : ((k : Int) - 1).toNat = k - 1 := by omega
        have h3' := h3 hk0
        clear h3
        go_wp2_with fail
        go_round
        case rel => exact ⟨_, _, _, _, ⟨k + 1, by omega, rfl⟩, rfl, rfl, rfl, by go_num⟩
        case measure => simp [intOf]; omega
      · obtain rfl : k = 0 := by omega
        have q0 : w.cell? ⟨b, o, none⟩ = some (.int .i64 (gi ys 0)) := q
        clear h3
        go_wp2_with fail
        go_round
        case rel => exact ⟨_, _, _, _, ⟨1, by omega, rfl⟩, rfl, rfl, rfl, by go_num⟩
        case measure => simp [intOf]; omega
    · obtain rfl : k = L := by omega
      go_wp2
      go_ret
      exact ⟨rfl, Below.refl _ _⟩
/-- The first of a set, by an order. -/
def IsFirst (xs ys : List Int) (L : Nat) (B : Int) : Prop := (∃ p, p < L ∧ B = gi ys p) ∧ ∀ j, j < L → gi xs B.toNat ≤ gi xs (gi ys j).toNat
set_option maxHeartbeats 4000000 in
theorem first_c (a a' : Option Addr) (n c L c' : Nat) (xs ys : List Int) (w : World) (h : IntsAt w a n c xs) (h' : IntsAt w a' L c' ys) (hx : PermOk xs n) (hy : SetOk ys L n) (hL : 1 ≤ L) :
    Calls Try.prog 38 #[.slice a n c, .slice a' L c'] w fun e w' => ∃ B : Int, e = .returned (.tuple #[.int .i64 B, .int .i64 0]) ∧ Hid (IsFirst xs ys L B) ∧ Below w.heap.size w w' := by
  have hn12 := hx.1
  have hLn := hy.1
  have C1 := hidp (dcheck_c a n c xs w h)
  have C2 := hidp (fun W (hB : Below w.heap.size w W) => aset_c a' L c' n ys W (h'.below hB) hy (by omega))
  obtain ⟨b, o, rfl, hb, hc⟩ := h.addr (by omega)
  obtain ⟨b', o', rfl, hb', hc'⟩ := h'.addr hL
  have Q := hidp hc
  have Q' := hidp hc'
  have m1 := h.max
  have e1 := h.le
  have m2 := h'.max
  have e2 := h'.le
  have PX := hidp hx
  have BY := hidp (fun i (hi : i < L) => hy.2 i hi)
  clear h h' hx hy hc hc'
  go_enter Try.func38, Try.ntmps38
  go_wp2_with fail
  refine C1.out.mono ?_
  rintro e wa ⟨E, rfl, hE, hba⟩
  obtain rfl : E = 0 := hE.out.2.2.2 PX.out
  clear hE
  go_wp2_with fail
  refine (C2.out _ hba).mono ?_
  rintro e wb ⟨rfl, hbb⟩
  have hwb := bstep hba hbb
  clear hba hbb C1 C2
  go_wp2_with fail
  go_loopw [8, 25] (fun s i wr => ∃ (k : Nat) (B : Int), k ≤ L ∧ i = .int .i64 k ∧ s = .int .i64 B ∧ (k = 0 → B = -1) ∧ Hid (0 < k → IsFirst xs ys k B) ∧ Below w.heap.size w wr) (fun _ i _ => L - (intOf i).toNat)
  case atStart => exact ⟨0, -1, by omega, rfl, rfl, fun _ => rfl, fun h => by omega, hwb⟩
  case round =>
    obtain ⟨k, B, hk, rfl, rfl, hB0, hB, hbl⟩ := hrel
    by_cases hlt : k < L
    · have q := carry_cell ⟨hb', Q'.out k hlt⟩ hbl
      obtain ⟨y1, y2, _⟩ := BY.out k hlt
      obtain ⟨Y, hY⟩ := Int.eq_ofNat_of_zero_le y1
      have hYn : Y < n := by omega
      have qy := carry_cell ⟨hb, Q.out Y hYn⟩ hbl
      have HY := hidp hY
      rw [hY] at q
      clear hY y1 y2
      by_cases hk0 : k = 0
      · subst hk0
        obtain rfl : B = -1 := hB0 rfl
        have F := hidp (show IsFirst xs ys 1 (Y : Int) from ⟨⟨0, by omega, by rw [HY.out] <;> rfl⟩, fun j hj => by
          obtain rfl : j = 0 := by omega
          rw [HY.out]; exact Int.le_refl _⟩)
        have q0 : wr.cell? ⟨b', o', none⟩ = some (.int .i64 (Y : Int)) := q
        clear hB0
        go_wp2_with fail
        go_quiet (fail)
        go_wp2
        go_roundw
        case rel => exact ⟨1, Y, by omega, by go_num, rfl, fun h => by omega, hidp (fun _ => F.out), below_drewN hbl _⟩
        case measure => simp [intOf]; omega
      · have hF := hB.out (by omega)
        obtain ⟨p, hp, hBp⟩ := hF.1
        obtain ⟨z1, z2, _⟩ := BY.out p (by omega)
        obtain ⟨Z, hZ⟩ := Int.eq_ofNat_of_zero_le (show 0 ≤ B by omega)
        have hZn : Z < n := by omega
        have qz := carry_cell ⟨hb, Q.out Z hZn⟩ hbl
        subst hZ
        have HF := hidp hF
        clear hF hB0 hBp z1 z2
        by_cases hl : gi xs Y < gi xs Z
        · have F := hidp (show IsFirst xs ys (k + 1) (Y : Int) from ⟨⟨k, by omega, by rw [HY.out] <;> rfl⟩, fun j hj => by
            by_cases e : j = k
            · subst e; rw [HY.out]; exact Int.le_refl _
            · have := HF.out.2 j (by omega)
              rw [Int.toNat_natCast] at this ⊢
              omega⟩)
          go_wp2_with fail
          go_quiet (fail)
          go_wp2
          go_roundw
          case rel => exact ⟨k + 1, Y, by omega, by go_num, rfl, fun h => by omega, hidp (fun _ => F.out), below_drewN hbl _⟩
          case measure => simp [intOf]; omega
        · have F := hidp (show IsFirst xs ys (k + 1) (Z : Int) from ⟨by obtain ⟨p, h1, h2⟩ := HF.out.1; exact ⟨p, by omega, h2⟩, fun j hj => by
            by_cases e : j = k
            · subst e; rw [HY.out, Int.toNat_natCast, Int.toNat_natCast]; omega
            · exact HF.out.2 j (by omega)⟩)
          have hl' : gi xs Z ≤ gi xs Y := by omega
          clear hl
          go_wp2_with fail
          go_quiet (fail)
          go_wp2
          go_roundw
          case rel => exact ⟨k + 1, Z, by omega, by go_num, rfl, fun h => by omega, hidp (fun _ => F.out), below_drewN hbl _⟩
          case measure => simp [intOf]; omega
    · obtain rfl : k = L := by omega
      have hF := hB.out hL
      obtain ⟨p, hp, hBp⟩ := hF.1
      obtain ⟨z1, z2, _⟩ := BY.out p hp
      have hB1 : 0 ≤ B := by omega
      have HF := hidp hF
      clear hF hB hB0 hBp z1 z2
      go_wp2
      go_ret2
      exact ⟨B, rfl, HF, hbl⟩
end Go.Proofs.Ytfhmckmglkjbeaa
