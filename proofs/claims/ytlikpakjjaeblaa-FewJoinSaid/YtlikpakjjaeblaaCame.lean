/- Contract of the laws' own came: counters of keys, and how often that is in all. -/
import Derived.Test.YtlikpakjjaeblaaCnt
import Derived.Test.YtlikpakjjaeblaaStepCall
import Derived.Lib.MinMax
import Derived.Deep.RegionHeld3
import Derived.Deep.LoopGhost
import Derived.Deep.DeepCutAuto
namespace Go.Proofs.Ytlikpakjjaeblaa
open Go.ChangeShapes Go.WideShapes Go.ChangeAt Go.RowKit
set_option maxRecDepth 20000
/-- The counters of the first k rows. -/
def camL (xs : List (List Int)) (most : Int) : Nat → List (Int × Int)
  | 0 => []
  | k + 1 => if 1 < (gl xs k).length then camL xs most k ++ [(gi (gl xs k) 0, 1 + wi (gi (gl xs k) 1) most)] else camL xs most k
theorem camL_len (xs : List (List Int)) (most : Int) : ∀ k, (camL xs most k).length ≤ k
  | 0 => Nat.le_refl _
  | k + 1 => by
    have := camL_len xs most k
    simp only [camL]
    split
    · rw [List.length_append]; simp; omega
    · omega
theorem camL_bd (xs : List (List Int)) (most : Int) (h : 1 ≤ most) : ∀ k, ∀ p ∈ camL xs most k, 1 ≤ p.2 ∧ p.2 ≤ most
  | 0, p, hp => by simp [camL] at hp
  | k + 1, p, hp => by
    simp only [camL] at hp
    split at hp
    · rcases List.mem_append.1 hp with hp | hp
      · exact camL_bd xs most h k p hp
      · simp at hp
        subst hp
        have := wi_lo (gi (gl xs k) 1) most h
        have := wi_hi (gi (gl xs k) 1) most h
        exact ⟨by show 1 ≤ 1 + wi _ _; omega, by show 1 + wi _ _ ≤ most; omega⟩
    · exact camL_bd xs most h k p hp

set_option maxHeartbeats 8000000 in
theorem came_c (a : Option Addr) (n c : Nat) (xs : List (List Int)) (most : Int) (w : World) (h : RowsAt w a n c xs) (hm1 : 1 ≤ most) (hm2 : most ≤ 1000) :
    Calls Try.prog 22 #[.slice a n c, .int .i64 most] w fun e w' => ∃ v, e = .returned (.tuple #[v, .int .i64 (csum (camL xs most (min n 60)))]) ∧ w'.ownsRow w.heap.size 51 2 v (camL xs most (min n 60)).length (cntV (camL xs most (min n 60))) ∧ Below w.heap.size w w' := by
  have m := h.max
  have l := h.le
  have hxl := h.len
  obtain ⟨b, o, hz, hx⟩ : ∃ b o, (n = 0 ∨ a = some ⟨b, o, none⟩) ∧ ∀ i, i < n → b < w.heap.size ∧ ∃ ai ni ci, w.cell? ⟨b, o + i, none⟩ = some (.slice ai ni ci) ∧ IntsAt w ai ni ci (gl xs i) := by
    rcases Nat.eq_zero_or_pos n with h0 | h0
    · exact ⟨0, 0, .inl h0, fun i hi => by omega⟩
    · obtain ⟨b, off, ha, hb, hc⟩ := h.cells h0
      exact ⟨b, off, .inr ha, fun i hi => ⟨hb, hc i hi⟩⟩
  have hz' : Hid (n = 0) ∨ a = some ⟨b, o, none⟩ := hz.imp_left hidp
  have HX := hidp hx
  obtain ⟨N, hN⟩ : ∃ N : Nat, N = min n 60 := ⟨_, rfl⟩
  have hN1 : N ≤ 60 := by omega
  have hN2 : N ≤ n := by omega
  have hmin : min (n : Int) 60 = (N : Int) := by omega
  rw [← hN]
  have LL := hidp (camL_len xs most)
  have LB := hidp (camL_bd xs most hm1)
  have CS := hidp (fun k => csum_bd most (by omega) (camL xs most k) (fun p hp => by have := camL_bd xs most hm1 k p hp; omega))
  have K1 := hidp (fun x W => within_c x most (by omega) (by omega) W)
  clear hx hz h hN
  go_enter Try.func22, Try.ntmps22
  go_wp2_with fail
  go_loopg [6, 7, 17] N (fun gg v s i wr => ∃ k : Nat, k ≤ N ∧ N - k ≤ gg ∧ i = .int .i64 k ∧ s = .int .i64 (csum (camL xs most k)) ∧ wr.ownsRow w.heap.size 51 2 v (camL xs most k).length (cntV (camL xs most k)) ∧ Below w.heap.size w wr)
  case atStart => exact ⟨0, by omega, by omega, rfl, rfl, World.ownsRow_nil _ _ _ _, Below.refl _ _⟩
  case round =>
    obtain ⟨k, hk, hgg, rfl, rfl, hv, hbl⟩ := hrel
    by_cases hlt : k < N
    · obtain rfl : a = some ⟨b, o, none⟩ := hz'.resolve_left (fun e => by have := e.out; omega)
      obtain ⟨hbs, ai, ni, ci, hcell, hI⟩ := HX.out k (by omega)
      have q := carry_cell ⟨hbs, hcell⟩ hbl
      have li := hI.len
      have mi := hI.max
      have ei := hI.le
      have ST := hidp (show camL xs most (k + 1) = if 1 < (gl xs k).length then camL xs most k ++ [(gi (gl xs k) 0, 1 + wi (gi (gl xs k) 1) most)] else camL xs most k from rfl)
      have cb := CS.out k
      have cl := LL.out k
      rw [li] at ST
      by_cases h1 : (1 : Int) < (ni : Int)
      · obtain ⟨bi, oi, rfl, hbi, hci⟩ := hI.addr (by omega)
        have q0 := carry_cell ⟨hbi, hci 0 (by omega)⟩ hbl
        rw [Nat.add_zero] at q0
        have q1 := carry_cell ⟨hbi, hci 1 (by omega)⟩ hbl
        have S2 := hidp (show camL xs most (k + 1) = camL xs most k ++ [(gi (gl xs k) 0, 1 + wi (gi (gl xs k) 1) most)] by rw [ST.out, if_pos (by omega)])
        have x1 := wi_lo (gi (gl xs k) 1) most (by omega)
        have x2 := wi_hi (gi (gl xs k) 1) most (by omega)
        have K2 := hidp (fun W => K1.out (gi (gl xs k) 1) W)
        have n0 : 0 < ni := by omega
        obtain ⟨z, hz⟩ : ∃ z, z = 1 + wi (gi (gl xs k) 1) most := ⟨_, rfl⟩
        rw [← hz] at S2
        have WR := hidp (show IntKind.i64.wrap (1 + wi (gi (gl xs k) 1) most) = z by rw [IntWalk.i64_in _ (by constructor <;> omega), hz])
        have hz3 : 1 ≤ z ∧ z ≤ 1000 := by omega
        clear hz
        clear hci hcell hI li ST
        generalize gi (gl xs k) 0 = y0 at *
        generalize gi (gl xs k) 1 = y1 at *
        generalize camL xs most k = L at *
        have cb2 : most * (L.length : Int) ≤ 60000 := by
          have : most * (L.length : Int) ≤ 1000 * 60 := Int.mul_le_mul (by omega) (by omega) (by omega) (by omega)
          omega
        have hbw : bi < wr.heap.size := by have := hbl.size; omega
        have nb1 : ¬ bi = wr.heap.size := by omega
        have nb2 : ¬ wr.heap.size = bi := by omega
        go_upto_region 7 with fail
        go_region_held3 (fun w' => w'.cell? ⟨bi, oi, none⟩ = some (.int .i64 y0) ∧ w'.cell? ⟨bi, oi + 1, none⟩ = some (.int .i64 y1)) (go_keep) (first | (go_at_call 14; refine (K2.out _).mono ?_; rintro e w' ⟨rfl, rfl⟩))
        all_goals rw [WR.out]
        all_goals have X0 : (wr.alloc (.cells #[.int .i64 y0, .int .i64 z] 51)).drew.cell? ⟨wr.heap.size, 0, none⟩ = some (.int .i64 y0) := by go_simp
        all_goals have X1 : (wr.alloc (.cells #[.int .i64 y0, .int .i64 z] 51)).drew.cell? ⟨wr.heap.size, 1, none⟩ = some (.int .i64 z) := by go_simp
        all_goals have hv2 : (wr.alloc (.cells #[.int .i64 y0, .int .i64 z] 51)).drew.ownsRow w.heap.size 51 2 u6 L.length (cntV L) := World.ownsRow.drew (hv.alloc _)
        all_goals have hb2 : Below w.heap.size w (wr.alloc (.cells #[.int .i64 y0, .int .i64 z] 51)).drew := Below.drew (bal hbl _)
        all_goals have NX := hidp (show u6.ownBlock ≠ some wr.heap.size from fun e => by have := (hv.lt _ e).2; omega)
        all_goals go_upto_region 8 with fail
        all_goals generalize (wr.alloc (.cells #[.int .i64 y0, .int .i64 z] 51)).drew = wx at *
        all_goals generalize wr.heap.size = XB at *
        all_goals have hgs : w.heap.size ≤ wx.heap.size := hb2.size
        all_goals have HV := hidp hv2
        all_goals have ltx := lt_of_cell X0
        all_goals clear hv hbl hv2 q q0 q1
        all_goals go_region_held3 (fun w' => w'.cell? ⟨XB, 0, none⟩ = some (.int .i64 y0) ∧ w'.cell? ⟨XB, 1, none⟩ = some (.int .i64 z)) (first | go_keep | exact ⟨Go.Proofs.Ytlikpakjjaeblaa.gk g0 X0 NX.out, Go.Proofs.Ytlikpakjjaeblaa.gk g0 X1 NX.out⟩) ((refine step_append_new wx ⟨rfl, rfl, rfl, rfl⟩ rfl (.tmp 34) (.tmp 36) 43 rfl w.heap.size 51 _ 2 16 info_cnt rfl (by decide) Try.underlying43 u6 L.length _ (by simp [Act.eval]) HV.out rfl (one_two _ _) (by simp [Act.eval]) (by omega) (by decide) hgs ?_; intro v0 x0 nw g0 d0))
        all_goals have bl0 := append_step HV.out hb2 (Nat.le_refl _) g0
        all_goals have CW := hidp (show IntKind.i64.wrap (csum L + z) = csum (L ++ [(y0, z)]) by rw [csum_snoc, IntWalk.i64_in _ (by constructor <;> omega)])
        all_goals rw [CW.out]
        all_goals go_wp2
        all_goals go_roundg (N - (k + 1))
        all_goals first
          | exact ⟨k + 1, by omega, by omega, by go_num, by rw [S2.out], by rw [S2.out, cntV_snoc, List.length_append]; exact nw, bl0⟩
          | omega
      · have S2 := hidp (show camL xs most (k + 1) = camL xs most k by rw [ST.out, if_neg (by omega)])
        clear li hcell hI ST
        go_wp2_with fail
        go_roundg (N - (k + 1))
        case measure => omega
        case rel => exact ⟨k + 1, by omega, by omega, by go_num, by rw [S2.out], by rw [S2.out]; exact hv, hbl⟩
    · obtain rfl : k = N := by omega
      go_wp2
      go_ret2
      exact ⟨_, rfl, hv, hbl⟩
end Go.Proofs.Ytlikpakjjaeblaa
