/- Contract of bottom.Many at bottoms that may be. -/
import Derived.Test.YtlikpakjjaeblaaBottom
import Derived.Test.YtlikpakjjaeblaaDiv
import Derived.Test.YtlikpakjjaeblaaShelf
namespace Go.Proofs.Ytlikpakjjaeblaa
open Go.ChangeShapes Go.WideShapes Go.ChangeAt Go.RowKit
set_option maxRecDepth 20000
/-- Fewer than K: as many as lie there. -/
theorem many_few (K : Nat) (a : Option Addr) (n c : Nat) (xs : List Int) (w : World) (h : IntsAt w a n c xs) (hok : BotOk K xs) (hn : n < K) :
    Calls Try.prog 20 #[botV K a n c] w fun e w' => e = .returned (.tuple #[.int .i64 n, .int .i64 0]) ∧ Below w.heap.size w w' := by
  have hb1 : Below w.heap.size w (w.alloc (.cells #[.int .i64 (K : Nat), .slice a n c] 24)) := bal (Below.refl _ _) _
  have CK := hidp (bocheck_c K a n c xs _ (h.below hb1) hok)
  have HB := hidp hb1
  have mm := h.max
  have ee := h.le
  have hn' : (n : Int) < (K : Int) := by omega
  clear h hok hb1 hn
  unfold botV at *
  go_enter Try.func20, Try.ntmps20
  go_wp2_with fail
  refine CK.out.mono ?_
  rintro e wa ⟨rfl, hba⟩
  have c0 : wa.cell? ⟨w.heap.size, 0, none⟩ = some (.int .i64 (K : Nat)) := ck hba (by go_simp)
  have c1 : wa.cell? ⟨w.heap.size, 1, none⟩ = some (.slice a n c) := ck hba (by go_simp)
  have HA := hidp (bstep HB.out hba)
  clear hba CK HB
  go_wp2_with fail
  go_ret2
  exact ⟨ret_tup_ii rfl rfl, HA.out⟩
/-- The last number is 0. -/
theorem many_zero (K : Nat) (a : Option Addr) (c : Nat) (xs : List Int) (w : World) (h : IntsAt w a K c xs) (hok : BotOk K xs) (hz : gi xs (K - 1) = 0) :
    Calls Try.prog 20 #[botV K a K c] w fun e w' => e = .returned (.tuple #[.int .i64 0, .int .i64 6]) ∧ Below w.heap.size w w' := by
  have hb1 : Below w.heap.size w (w.alloc (.cells #[.int .i64 (K : Nat), .slice a K c] 24)) := bal (Below.refl _ _) _
  have CK := hidp (bocheck_c K a K c xs _ (h.below hb1) hok)
  have HB := hidp hb1
  have mm := h.max
  have ee := h.le
  have k1 := hok.k1
  obtain ⟨b, o, rfl, hbl, hx⟩ := h.addr (by omega)
  have q := hx (K - 1) (by omega)
  rw [hz] at q
  obtain ⟨J, hJ⟩ : ∃ J, J = K - 1 := ⟨_, rfl⟩
  rw [← hJ] at q
  have hJi : (K : Int) - 1 = (J : Int) := by omega
  have hJl : J < K := by omega
  have q1 := ck hb1 q
  clear h hok hb1 hx hz hJ q
  unfold botV at *
  go_enter Try.func20, Try.ntmps20
  go_wp2_with fail
  refine CK.out.mono ?_
  rintro e wa ⟨rfl, hba⟩
  have c0 : wa.cell? ⟨w.heap.size, 0, none⟩ = some (.int .i64 (K : Nat)) := ck hba (by go_simp)
  have c1 : wa.cell? ⟨w.heap.size, 1, none⟩ = some (.slice (some ⟨b, o, none⟩) K c) := ck hba (by go_simp)
  have q2 := ck hba q1
  have HA := hidp (bstep HB.out hba)
  clear hba CK HB q1
  go_wp2_with fail
  go_ret2
  exact ⟨ret_tup_ii rfl rfl, HA.out⟩
/-- The estimate. -/
theorem many_est (K : Nat) (a : Option Addr) (c : Nat) (xs : List Int) (w : World) (h : IntsAt w a K c xs) (hok : BotOk K xs) (Y : Nat) (hY : gi xs (K - 1) = (Y : Int)) (hY1 : 1 ≤ Y) :
    Calls Try.prog 20 #[botV K a K c] w fun e w' => e = .returned (.tuple #[.int .i64 (72057594037927936 * (K - 1) / Y : Nat), .int .i64 0]) ∧ Below w.heap.size w w' := by
  have hb1 : Below w.heap.size w (w.alloc (.cells #[.int .i64 (K : Nat), .slice a K c] 24)) := bal (Below.refl _ _) _
  have CK := hidp (bocheck_c K a K c xs _ (h.below hb1) hok)
  have HB := hidp hb1
  have mm := h.max
  have ee := h.le
  have k1 := hok.k1
  have k2 := hok.k2
  have hl := h.len
  have hyb := hok.bd _ (gi_mem xs (K - 1) (by omega))
  obtain ⟨b, o, rfl, hbl, hx⟩ := h.addr (by omega)
  have q := hx (K - 1) (by omega)
  rw [hY] at q hyb
  obtain ⟨J, hJ⟩ : ∃ J, J = K - 1 := ⟨_, rfl⟩
  rw [← hJ] at q ⊢
  have hJi : (K : Int) - 1 = (J : Int) := by omega
  have hJl : J < K := by omega
  have CM := hidp (fun W => Try.bits_Mul64 72057594037927936 J (by omega) (by omega) W)
  have hH : 72057594037927936 * J / 18446744073709551616 = 0 := by omega
  have hL : 72057594037927936 * J % 18446744073709551616 = 72057594037927936 * J := by omega
  have CD := hidp (fun W => div_c 0 (72057594037927936 * J) Y hY1 (by omega) (by omega) (by omega) W)
  rw [hH, hL] at CM
  rw [Nat.zero_mul, Nat.zero_add] at CD
  have hqle : 72057594037927936 * J / Y ≤ 72057594037927936 * J := Nat.div_le_self _ _
  have hq2 : 72057594037927936 * J / Y ≤ 9223372036854775807 := by omega
  generalize 72057594037927936 * J = L at *
  generalize L / Y = E at *
  have q1 := ck hb1 q
  have hY0 : ¬ (Y : Int) = 0 := by omega
  have hYb : (Y : Int) ≤ 72057594037927935 := by omega
  clear h hok hb1 hx hJ q hyb hY hH hL hqle
  unfold botV at *
  go_enter Try.func20, Try.ntmps20
  go_wp2_with fail
  refine CK.out.mono ?_
  rintro e wa ⟨rfl, hba⟩
  have c0 : wa.cell? ⟨w.heap.size, 0, none⟩ = some (.int .i64 (K : Nat)) := ck hba (by go_simp)
  have c1 : wa.cell? ⟨w.heap.size, 1, none⟩ = some (.slice (some ⟨b, o, none⟩) K c) := ck hba (by go_simp)
  have q2 := ck hba q1
  have HA := hidp (bstep HB.out hba)
  clear hba CK HB q1
  go_wp2_with fail
  refine (CM.out _).mono ?_; rintro e w' ⟨rfl, rfl⟩
  go_wp2_with fail
  refine (CD.out _).mono ?_; rintro e w' ⟨rfl, qd, rfl⟩
  go_wp2_with fail
  go_ret2
  exact ⟨ret_tup_ii (by omega) rfl, below_drewN HA.out qd⟩
end Go.Proofs.Ytlikpakjjaeblaa
