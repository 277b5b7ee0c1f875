/- Contract of the laws' own rows: a table of noughts. -/
import Derived.Test.YtpghnbpoodcglaaTablePut2
import Derived.Deep.OwnRows
namespace Go.Proofs.Ytpghnbpoodcglaa
open Go.ChangeShapes Go.WideShapes Go.ChangeAt Go.RowKit
set_option maxRecDepth 20000

def twd (wide : Int) : Nat := 1 + wn wide 32
def trw (n : Int) : Nat := 1 + wn n 4
theorem twd_bd (s : Int) : 1 ≤ twd s ∧ twd s ≤ 32 := by have := wn_lt s 32 (by omega); unfold twd; omega
theorem trw_bd (s : Int) : 1 ≤ trw s ∧ trw s ≤ 4 := by have := wn_lt s 4 (by omega); unfold trw; omega
theorem own_row0 (w : World) (n : Nat) (hn : n ≤ 1000) : (w.alloc (.cells (madeCells #[.int .i64 0] n) 3)).ownsRow w.heap.size 3 1 (.slice (some ⟨w.heap.size, 0, none⟩) n n) n ((tab (fun _ => (0 : Int)) n).map (Value.int .i64)) := by
  have h := made_tab (.int .i64 0) n
  rw [Nat.mul_one] at h
  refine ⟨by rw [List.length_map, tab_len, Nat.mul_one], .inr ⟨w.heap.size, n, madeCells #[.int .i64 0] n, rfl, Nat.le_refl _, heap_alloc_new w _, Nat.le_refl _, by unfold maxLen; omega, by rw [size_madeCells]; simp, ?_⟩⟩
  rw [h, tab_map, List.take_of_length_le (by rw [tab_len]; omega)]

set_option maxHeartbeats 4000000 in
theorem rows_c (wide nn : Int) (w : World) :
    Calls Try.prog 30 #[.int .i64 wide, .int .i64 nn] w fun e w' => ∃ g cp, e = .returned (tabV (twd wide) (some ⟨g, 0, none⟩) (trw nn) cp) ∧ RowsAt w' (some ⟨g, 0, none⟩) (trw nn) cp (tabL (fun _ _ => 0) (twd wide) (trw nn)) ∧ Below w.heap.size w w' := by
  have C1 := hidp (fun W => withinN_c wide 32 (by omega) (by omega) W)
  have C2 := hidp (fun W => withinN_c nn 4 (by omega) (by omega) W)
  obtain ⟨m1, m2⟩ := twd_bd wide
  obtain ⟨n1, n2⟩ := trw_bd nn
  have E1 := hidp (show (1 : Int) + ((wn wide 32 : Nat) : Int) = ((twd wide : Nat) : Int) by unfold twd; omega)
  have E2 := hidp (show (1 : Int) + ((wn nn 4 : Nat) : Int) = ((trw nn : Nat) : Int) by unfold trw; omega)
  have b1 := wn_lt wide 32 (by omega)
  have b2 := wn_lt nn 4 (by omega)
  generalize twd wide = m at *
  generalize trw nn = n at *
  generalize wn wide 32 = s at *
  generalize wn nn 4 = t at *
  have hmk : ∀ W : World, (Instr.makeSlice 22 (.int .i64 (m : Int)) (.int .i64 (m : Int))).run Try.prog W = .ok (.slice (some ⟨W.heap.size, 0, none⟩) m m) (W.alloc (.cells (madeCells #[.int .i64 0] m) 3)) := fun W => run_make_row' 22 3 _ _ Try.underlying22 info_int rfl _ _ m (by omega) (by omega) W
  unfold tabV
  go_enter Try.func30, Try.ntmps30
  go_wp2_with fail
  refine (C1.out _).mono ?_
  rintro e w' ⟨rfl, rfl⟩
  have e1 := E1.out
  go_wp2_with fail
  refine (C2.out _).mono ?_
  rintro e w' ⟨rfl, rfl⟩
  clear e1
  have e2 := E2.out
  have hs0 : CopS ((w.alloc (.cells #[.int .i64 0, .slice none 0 0] 44)).alloc (.cells #[.int .i64 (m : Nat), .slice none 0 0] 44)) (w.heap.size + 2) w.heap.size (w.heap.size + 1) 0 m (.slice none 0 0) (fun _ => 0) (fun _ => 0) (fun _ _ => 0) :=
    ⟨by omega, by omega, by simp, by go_simp, by go_simp, ⟨.int .i64 0, by go_simp⟩, ⟨.slice none 0 0, by go_simp⟩, fun o => by go_simp, fun o => by go_simp, World.ownsRow_nil _ _ _ _, fun i hi => by omega, fun i hi => by omega, fun i j hi => by omega⟩
  have hb0 : Below w.heap.size w ((w.alloc (.cells #[.int .i64 0, .slice none 0 0] 44)).alloc (.cells #[.int .i64 (m : Nat), .slice none 0 0] 44)) := bal (bal (Below.refl _ _) _) _
  go_upto_region 3 with fail
  clear e2
  generalize ((w.alloc (.cells #[.int .i64 0, .slice none 0 0] 44)).alloc (.cells #[.int .i64 (m : Nat), .slice none 0 0] 44)) = w1 at *
  have HS := hidp hs0
  have HB := hidp hb0
  clear hs0 hb0
  go_loopw [13] (fun i wr => ∃ (k : Nat) (v : Value) (G C : Nat → Nat), k ≤ n ∧ i = .int .i64 k ∧ Hid (CopS wr (w.heap.size + 2) w.heap.size (w.heap.size + 1) k m v G C (fun _ _ => 0)) ∧ Below w.heap.size w wr) (fun i _ => n - (intOf i).toNat)
  case atStart => exact ⟨0, _, _, _, by omega, rfl, HS, HB.out⟩
  case round =>
    clear HS HB
    obtain ⟨k, v, G, C, hk, rfl, HS, hbl⟩ := hrel
    by_cases hlt2 : k < n
    · have o0 := HS.out.o0
      have o1 := HS.out.o1
      have fo := HS.out.fo 1
      have l3 := HS.out.l3
      have NB := hidp (show v.ownBlock ≠ some (w.heap.size + 1) from fun e => by have := (HS.out.hdr.lt _ e).1; omega)
      have PLT := hidp (show w.heap.size + 1 < wr.heap.size by omega)
      have hb2 : Below wr.heap.size wr (wr.alloc (.cells (madeCells #[.int .i64 0] m) 3)) := bal (Below.refl _ _) _
      have hv2 := own_row0 wr m (by omega)
      have o2 := ck hb2 o1
      have n2 := ltc o1
      have n3 : ¬ w.heap.size = wr.heap.size := by omega
      have n4 : ¬ w.heap.size + 1 = wr.heap.size := by omega
      have n5 : ¬ wr.heap.size = w.heap.size := by omega
      have n6 : ¬ wr.heap.size = w.heap.size + 1 := by omega
      have n7 : w.heap.size + 1 < wr.heap.size + 1 := by omega
      have f2 := (hb2.frozen (p := ⟨w.heap.size + 1, 1, none⟩) PLT.out).trans fo
      have hd2 := owns_below HS.out.hdr hb2
      have HD2 := hidp hd2
      have HB2 := hidp hb2
      have HV2 := hidp hv2
      have hgs : w.heap.size + 2 ≤ (wr.alloc (.cells (madeCells #[.int .i64 0] m) 3)).heap.size := by simp; omega
      clear hb2 hv2 hd2
      go_upto_region 4 with fail
      go_region_law ((refine step_append_new (wr.alloc (.cells (madeCells #[.int .i64 0] m) 3)) ⟨rfl, rfl, rfl, rfl⟩ rfl (.tmp 16) (.tmp 20) 42 rfl (w.heap.size + 2) 22 _ 1 24 info_ints rfl (by decide) Try.underlying42 v k _ (by simp [Act.eval]) HD2.out rfl (one_slice _ _ _) (by simp [Act.eval]) (by omega) (by decide) hgs ?_; intro v0 x0 nw g0 d0; have hf := owns_form nw; obtain ⟨a0, p0, rfl, hp1, hp2⟩ := hf; have o3 := gk g0 o2 NB.out; have f3 := gf g0 f2 (Nat.lt_of_lt_of_le PLT.out HB2.out.size) NB.out))
      all_goals have ST := hidp (HS.out.step HB2.out HV2.out nw g0 d0)
      all_goals have BL := ((bstep hbl HB2.out).grown g0 (by have := hbl.size; omega) (fun q hq => by have := (HD2.out.lt q hq).1; omega)).setCell (p := ⟨w.heap.size + 1, 1, none⟩) (by show w.heap.size ≤ w.heap.size + 1; omega) (.slice a0 (k + 1) p0)
      all_goals go_wp2
      all_goals go_roundw
      all_goals first
        | exact ⟨k + 1, _, _, _, by omega, by go_num, ST, BL⟩
        | (simp [intOf]; omega)
    · obtain rfl : k = n := by omega
      obtain ⟨l1, l2, l3, o0, o1, ⟨u0, z0⟩, ⟨u1, z1⟩, fo, fz, hdr, row, ne, inj⟩ := HS.out
      have f0 := fz 0
      have f1 := fz 1
      obtain ⟨g, cp, rfl, hg1, hg2, hg3, hg4⟩ := owns_addr hdr n1
      have hr := hidp (res2 (.int .i64 (m : Nat)) (.slice (some ⟨g, 0, none⟩) k cp) z0 z1)
      have hbw := hidp (below_set2 hbl w.heap.size (Nat.le_refl _) (.int .i64 (m : Nat)) (.slice (some ⟨g, 0, none⟩) k cp))
      have hT : OwnT wr (w.heap.size + 2) g k m G C (fun _ _ => 0) := ⟨hg2, fun i hi => by
        have := hdr.cellAt i (by omega)
        rw [tab_get _ _ _ hi] at this
        exact this, row, fun i hi e => ne i hi (by rw [e]; rfl), inj⟩
      have HT := hidp ((hT.far2 w.heap.size (by omega) (by omega) (.int .i64 (m : Nat)) (.slice (some ⟨g, 0, none⟩) k cp)).rows hg3 hg4 (fun _ _ _ _ => by omega))
      clear fo fz hT hdr row ne inj
      go_wp2_with fail
      obtain ⟨t0, t1⟩ := hr.out
      have hbv := hbw.out
      clear hr hbw
      generalize ((wr.setCell ⟨w.heap.size, 0, none⟩ (.int .i64 (m : Nat))).setCell ⟨w.heap.size, 1, none⟩ (.slice (some ⟨g, 0, none⟩) k cp)) = w7 at *
      exact bodyPost_ret (v := .agg #[.int .i64 (m : Nat), .slice (some ⟨g, 0, none⟩) k cp]) (by simp [results, Try.results30, go_sem, t0, t1]) rfl ⟨g, cp, rfl, HT.out, hbv⟩
end Go.Proofs.Ytpghnbpoodcglaa
