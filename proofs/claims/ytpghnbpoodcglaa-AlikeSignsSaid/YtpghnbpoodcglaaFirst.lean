/- Contracts of alike.set and alike.First. -/
import Derived.Test.YtpghnbpoodcglaaDRank
import Derived.Test.YtpghnbpoodcglaaThings
import Derived.Deep.QuietTactic
import Derived.BigQuiet
import Derived.WalkSmall
namespace Go.Proofs.Ytpghnbpoodcglaa
open Go.ChangeShapes Go.WideShapes Go.ChangeAt Go.RowKit
set_option maxRecDepth 20000

/-- May it be a set of things below n? -/
def SetOk (ys : List Int) (L n : Nat) : Prop := L ≤ n ∧ ∀ i, i < L → 0 ≤ gi ys i ∧ gi ys i < n ∧ (0 < i → gi ys (i - 1) < gi ys i)
theorem set_ok_at (l : List Int) (q : Nat) (h : q < l.length) : gi l q = l[q] := by
  unfold gi; rw [List.getD_eq_getElem?_getD, List.getElem?_eq_getElem h]; rfl
theorem thL_ok (xs : List Int) (m n : Nat) : SetOk (thL xs m n) (thL xs m n).length n := ⟨thR_len _ _, fun i hi => by
  have hm := (thR_mem (tset xs n m) (gi (thL xs m n) i) n).1 (gi_mem _ i hi)
  refine ⟨hm.1, hm.2.1, fun h0 => ?_⟩
  have hs := thR_sorted (tset xs n m) n
  have := List.pairwise_iff_getElem.1 hs (i - 1) i (by unfold thL at hi; omega) hi (by omega)
  rw [set_ok_at _ _ (by omega), set_ok_at _ _ hi]
  exact this⟩
set_option maxHeartbeats 2000000 in
theorem aset_c (a : Option Addr) (L c n : Nat) (ys : List Int) (w : World) (h : IntsAt w a L c ys) (hok : SetOk ys L n) (hn : n ≤ 1000) :
    Calls Try.prog 67 #[.slice a L c, .int .i64 n] w fun e w' => e = .returned (.int .i64 0) ∧ Below w.heap.size w w' := by
  obtain ⟨b, o, hz, hx⟩ := h.split
  have hz' : Hid (L = 0) ∨ a = some ⟨b, o, none⟩ := hz.imp_left hidp
  have HX := hidp hx
  have mm := h.max
  have ee := h.le
  have hLn := hok.1
  have OK := hidp hok.2
  clear hx hz h hok
  go_enter Try.func67, Try.ntmps67
  go_wp2_with fail
  go_loop [13] (fun i => ∃ k : Nat, k ≤ L ∧ i = .int .i64 k) (fun i => L - (intOf i).toNat)
  case atStart => exact ⟨0, by omega, rfl⟩
  case round =>
    obtain ⟨k, hk, rfl⟩ := hrel
    by_cases hlt : k < L
    · obtain rfl : a = some ⟨b, o, none⟩ := hz'.resolve_left (fun e => by have := e.out; omega)
      have q := (HX.out k hlt).2
      obtain ⟨h1, h2, h3⟩ := OK.out k hlt
      by_cases hk0 : 0 < k
      · have q' := (HX.out (k - 1) (by omega)).2
        have hk0' : (0 : Int) < (k : Int) := by omega
        have hkm : ((k : Int) - 1).toNat = k - 1 := by omega
        have h3' := h3 hk0
        clear h3
        go_wp2_with fail
        go_round
        case rel => exact ⟨_, _, _, _, ⟨k + 1, by omega, rfl⟩, rfl, rfl, rfl, by go_num⟩
        case measure => simp [intOf]; omega
      · obtain rfl : k = 0 := by omega
        have q0 : w.cell? ⟨b, o, none⟩ = some (.int .i64 (gi ys 0)) := q
        clear h3
        go_wp2_with fail
        go_round
        case rel => exact ⟨_, _, _, _, ⟨1, by omega, rfl⟩, rfl, rfl, rfl, by go_num⟩
        case measure => simp [intOf]; omega
    · obtain rfl : k = L := by omega
      go_wp2
      go_ret
      exact ⟨rfl, Below.refl _ _⟩
/-- The first of a set, by an order. -/
def IsFirst (xs ys : List Int) (L : Nat) (B : Int) : Prop := (∃ p, p < L ∧ B = gi ys p) ∧ ∀ j, j < L → gi xs B.toNat ≤ gi xs (gi ys j).toNat
set_option maxHeartbeats 4000000 in
theorem first_c (a a' : Option Addr) (n c L c' : Nat) (xs ys : List Int) (w : World) (h : IntsAt w a n c xs) (h' : IntsAt w a' L c' ys) (hx : PermOk xs n) (hy : SetOk ys L n) (hL : 1 ≤ L) :
    Calls Try.prog 41 #[.slice a n c, .slice a' L c'] w fun e w' => ∃ B : Int, e = .returned (.tuple #[.int .i64 B, .int .i64 0]) ∧ Hid (IsFirst xs ys L B) ∧ Below w.heap.size w w' := by
  have hn12 := hx.1
  have hLn := hy.1
  have C1 := hidp (dcheck_c a n c xs w h)
  have C2 := hidp (fun W (hB : Below w.heap.size w W) => aset_c a' L c' n ys W (h'.below hB) hy (by omega))
  obtain ⟨b, o, rfl, hb, hc⟩ := h.addr (by omega)
  obtain ⟨b', o', rfl, hb', hc'⟩ := h'.addr hL
  have Q := hidp hc
  have Q' := hidp hc'
  have m1 := h.max
  have e1 := h.le
  have m2 := h'.max
  have e2 := h'.le
  have PX := hidp hx
  have BY := hidp (fun i (hi : i < L) => hy.2 i hi)
  clear h h' hx hy hc hc'
  go_enter Try.func41, Try.ntmps41
  go_wp2_with fail
  refine C1.out.mono ?_
  rintro e wa ⟨E, rfl, hE, hba⟩
  obtain rfl : E = 0 := hE.out.2.2.2 PX.out
  clear hE
  go_wp2_with fail
  refine (C2.out _ hba).mono ?_
  rintro e wb ⟨rfl, hbb⟩
  have hwb := bstep hba hbb
  clear hba hbb C1 C2
  go_wp2_with fail
  go_loopw [8, 25] (fun s i wr => ∃ (k : Nat) (B : Int), k ≤ L ∧ i = .int .i64 k ∧ s = .int .i64 B ∧ (k = 0 → B = -1) ∧ Hid (0 < k → IsFirst xs ys k B) ∧ Below w.heap.size w wr) (fun _ i _ => L - (intOf i).toNat)
  case atStart => exact ⟨0, -1, by omega, rfl, rfl, fun _ => rfl, fun h => by omega, hwb⟩
  case round =>
    obtain ⟨k, B, hk, rfl, rfl, hB0, hB, hbl⟩ := hrel
    by_cases hlt : k < L
    · have q := carry_cell ⟨hb', Q'.out k hlt⟩ hbl
      obtain ⟨y1, y2, _⟩ := BY.out k hlt
      obtain ⟨Y, hY⟩ := Int.eq_ofNat_of_zero_le y1
      have hYn : Y < n := by omega
      have qy := carry_cell ⟨hb, Q.out Y hYn⟩ hbl
      have HY := hidp hY
      rw [hY] at q
      clear hY y1 y2
      by_cases hk0 : k = 0
      · subst hk0
        obtain rfl : B = -1 := hB0 rfl
        have F := hidp (show IsFirst xs ys 1 (Y : Int) from ⟨⟨0, by omega, by rw [HY.out] <;> rfl⟩, fun j hj => by
          obtain rfl : j = 0 := by omega
          rw [HY.out]; exact Int.le_refl _⟩)
        have q0 : wr.cell? ⟨b', o', none⟩ = some (.int .i64 (Y : Int)) := q
        clear hB0
        go_wp2_with fail
        go_quiet (fail)
        go_wp2
        go_roundw
        case rel => exact ⟨1, Y, by omega, by go_num, rfl, fun h => by omega, hidp (fun _ => F.out), below_drewN hbl _⟩
        case measure => simp [intOf]; omega
      · have hF := hB.out (by omega)
        obtain ⟨p, hp, hBp⟩ := hF.1
        obtain ⟨z1, z2, _⟩ := BY.out p (by omega)
        obtain ⟨Z, hZ⟩ := Int.eq_ofNat_of_zero_le (show 0 ≤ B by omega)
        have hZn : Z < n := by omega
        have qz := carry_cell ⟨hb, Q.out Z hZn⟩ hbl
        subst hZ
        have HF := hidp hF
        clear hF hB0 hBp z1 z2
        by_cases hl : gi xs Y < gi xs Z
        · have F := hidp (show IsFirst xs ys (k + 1) (Y : Int) from ⟨⟨k, by omega, by rw [HY.out] <;> rfl⟩, fun j hj => by
            by_cases e : j = k
            · subst e; rw [HY.out]; exact Int.le_refl _
            · have := HF.out.2 j (by omega)
              rw [Int.toNat_natCast] at this ⊢
              omega⟩)
          go_wp2_with fail
          go_quiet (fail)
          go_wp2
          go_roundw
          case rel => exact ⟨k + 1, Y, by omega, by go_num, rfl, fun h => by omega, hidp (fun _ => F.out), below_drewN hbl _⟩
          case measure => simp [intOf]; omega
        · have F := hidp (show IsFirst xs ys (k + 1) (Z : Int) from ⟨by obtain ⟨p, h1, h2⟩ := HF.out.1; exact ⟨p, by omega, h2⟩, fun j hj => by
            by_cases e : j = k
            · subst e; rw [HY.out, Int.toNat_natCast, Int.toNat_natCast]; omega
            · exact HF.out.2 j (by omega)⟩)
          have hl' : gi xs Z ≤ gi xs Y := by omega
          clear hl
          go_wp2_with fail
          go_quiet (fail)
          go_wp2
          go_roundw
          case rel => exact ⟨k + 1, Z, by omega, by go_num, rfl, fun h => by omega, hidp (fun _ => F.out), below_drewN hbl _⟩
          case measure => simp [intOf]; omega
    · obtain rfl : k = L := by omega
      have hF := hB.out hL
      obtain ⟨p, hp, hBp⟩ := hF.1
      obtain ⟨z1, z2, _⟩ := BY.out p hp
      have hB1 : 0 ≤ B := by omega
      have HF := hidp hF
      clear hF hB hB0 hBp z1 z2
      go_wp2
      go_ret2
      exact ⟨B, rfl, HF, hbl⟩
end Go.Proofs.Ytpghnbpoodcglaa
