/- Merged: Wants, Fair. -/
import Derived.Test.YtfhmckmglkjbeaaCFunc
import Derived.Test.YtfhmckmglkjbeaaStabE
import Derived.Deep.DeepCutAuto
import Derived.Lib.MinMax
import Derived.Deep.OwnRows
/- Contract of share.wants at every list. -/
namespace Go.Proofs.Ytfhmckmglkjbeaa
open Go.ChangeShapes Go.WideShapes Go.ChangeAt Go.RowKit
set_option maxRecDepth 20000
/-- Is it no count? -/
def noCnt (x : Int) : Bool := decide (x < 0) || decide (1000000000000 < x)
theorem wantsX_c (x : Int) (w : World) :
    Calls Try.prog 56 #[.int .i64 x] w fun e w' => e = .returned (.bool (noCnt x)) ∧ Below w.heap.size w w' := by
  by_cases h1 : x < 0
  · go_enter Try.func56, Try.ntmps56
    go_wp2
    go_ret
    exact ⟨ret_bool (by unfold noCnt; rw [decide_eq_true h1]; rfl), Below.refl _ _⟩
  · by_cases h2 : 1000000000000 < x
    · have R := hidp (show noCnt x = true by unfold noCnt; rw [decide_eq_true h2, decide_eq_false h1]; rfl)
      go_enter Try.func56, Try.ntmps56
      go_wp2
      go_ret
      exact ⟨ret_bool R.out.symm, Below.refl _ _⟩
    · have R := hidp (show noCnt x = false by unfold noCnt; rw [decide_eq_false h1, decide_eq_false h2]; rfl)
      go_enter Try.func56, Try.ntmps56
      go_wp2
      go_ret
      exact ⟨ret_bool R.out.symm, Below.refl _ _⟩
/-- What wants tells. -/
def wantE (xs : List Int) (n : Nat) : Int := if 40 < n then 2 else if hasF noCnt xs n = true then 1 else 0
set_option maxHeartbeats 1000000 in
theorem wantsE_c (a : Option Addr) (n c : Nat) (xs : List Int) (w : World) (h : IntsAt w a n c xs) :
    Calls Try.prog 41 #[.slice a n c] w fun e w' => e = .returned (.int .i64 (wantE xs n)) ∧ Below w.heap.size w w' := by
  have mm := h.max
  have ee := h.le
  by_cases h40 : 40 < n
  · have R := hidp (show wantE xs n = 2 by unfold wantE; rw [if_pos h40])
    have h40' : (40 : Int) < (n : Int) := by omega
    clear h h40
    go_enter Try.func41, Try.ntmps41
    go_wp2_with fail
    go_ret
    exact ⟨ret_int R.out.symm, Below.refl _ _⟩
  · have h40' : ¬ (40 : Int) < (n : Int) := by omega
    have C := hidp (cfunc_c 56 #[] noCnt (fun _ _ => by kernel_rfl) a n c xs w h (fun W i hi hB => (wantsX_c _ W).mono (fun e w' ⟨h1, h2⟩ => ⟨h1, hB.trans (h2.mono hB.size)⟩)))
    have R := hidp (show wantE xs n = if hasF noCnt xs n = true then 1 else 0 by unfold wantE; rw [if_neg h40])
    clear h h40
    cases hf : hasF noCnt xs n with
    | true =>
      rw [hf] at C R
      clear hf
      go_enter Try.func41, Try.ntmps41
      go_wp2_with fail
      refine C.out.mono ?_
      rintro e w1 ⟨rfl, hb⟩
      go_wp2_with fail
      go_ret
      exact ⟨ret_int (by rw [R.out]; rfl), hb⟩
    | false =>
      rw [hf] at C R
      clear hf
      go_enter Try.func41, Try.ntmps41
      go_wp2_with fail
      refine C.out.mono ?_
      rintro e w1 ⟨rfl, hb⟩
      go_wp2_with fail
      go_ret
      exact ⟨ret_int (by rw [R.out]; rfl), hb⟩
theorem wantE_ok (xs : List Int) (n : Nat) (h1 : n ≤ 40) (h2 : ∀ i, i < n → 0 ≤ gi xs i ∧ gi xs i ≤ 1000000000000) : wantE xs n = 0 := by
  unfold wantE
  rw [if_neg (by omega), hasF_false noCnt xs n (fun i hi => by
    have := h2 i hi
    unfold noCnt
    rw [decide_eq_false (by omega), decide_eq_false (by omega)]; rfl)]
  rfl
theorem wantE_zero (xs : List Int) (n : Nat) (h : wantE xs n = 0) : n ≤ 40 ∧ ∀ i, i < n → 0 ≤ gi xs i ∧ gi xs i ≤ 1000000000000 := by
  unfold wantE at h
  by_cases h40 : 40 < n
  · rw [if_pos h40] at h; omega
  · rw [if_neg h40] at h
    refine ⟨by omega, fun i hi => ?_⟩
    rcases Decidable.em (0 ≤ gi xs i ∧ gi xs i ≤ 1000000000000) with c | c
    · exact c
    · rw [hasF_true noCnt xs n ⟨i, hi, by
        unfold noCnt
        rw [Bool.or_eq_true, decide_eq_true_eq, decide_eq_true_eq]; omega⟩] at h
      simp at h
end Go.Proofs.Ytfhmckmglkjbeaa

/- Contract of share.Fair at every list and room. -/
namespace Go.Proofs.Ytfhmckmglkjbeaa
open Go.ChangeShapes Go.WideShapes Go.ChangeAt Go.RowKit
open Stab
set_option maxRecDepth 20000
theorem own_made2 (w : World) (B H : Nat) (z : Value) (n : Nat) (e : TypeId) (hH : w.heap.size = H) (hB : B ≤ H) (hn : n ≤ 1000) : (w.alloc (.cells (madeCells #[z] n) e)).ownsRow B e 1 (.slice (some ⟨H, 0, none⟩) n n) n (tab (fun _ => z) n) := by
  subst hH
  refine ⟨by rw [tab_len, Nat.mul_one], .inr ⟨w.heap.size, n, madeCells #[z] n, rfl, hB, heap_alloc_new w _, Nat.le_refl _, by unfold maxLen; omega, by rw [size_madeCells]; simp, ?_⟩⟩
  have h := made_tab z n
  rw [Nat.mul_one] at h
  rw [h, List.take_of_length_le (by rw [tab_len]; omega)]
/-- The first k places. -/
def idF (k x : Nat) : Int := if x < k then (x : Int) else 0
theorem fair_bad (room : Int) (a : Option Addr) (n c : Nat) (xs : List Int) (w : World) (h : IntsAt w a n c xs) (hE : ¬ (wantE xs n = 0 ∧ 0 ≤ room ∧ room ≤ 1000000000000)) :
    Calls Try.prog 18 #[.int .i64 room, .slice a n c] w fun e w' => (∃ E : Int, E ≠ 0 ∧ e = .returned (.tuple #[.slice none 0 0, .int .i64 E])) ∧ Below w.heap.size w w' := by
  have C := hidp (fun W hb => wantsE_c a n c xs W (h.below (w' := W) hb))
  have hb0 := bal (Below.refl w.heap.size w) (.cells #[.slice a n c] 22)
  clear h
  by_cases hz : wantE xs n = 0
  · rw [hz] at C
    by_cases h1 : room < 0
    · clear hz hE
      go_enter Try.func18, Try.ntmps18
      go_wp2_with fail
      refine (C.out _ hb0).mono ?_
      rintro e w1 ⟨rfl, hb⟩
      have hfin := bstep hb0 hb
      clear hb
      go_wp2_with fail
      go_ret2
      exact ⟨⟨1, by omega, rfl⟩, hfin⟩
    · have h2 : 1000000000000 < room := by omega
      clear hz hE
      go_enter Try.func18, Try.ntmps18
      go_wp2_with fail
      refine (C.out _ hb0).mono ?_
      rintro e w1 ⟨rfl, hb⟩
      have hfin := bstep hb0 hb
      clear hb
      go_wp2_with fail
      go_ret2
      exact ⟨⟨1, by omega, rfl⟩, hfin⟩
  · have hne : (wantE xs n != 0) = true := by simpa using hz
    have HZ := hidp hz
    clear hz hE
    generalize wantE xs n = E at *
    go_enter Try.func18, Try.ntmps18
    go_wp2_with fail
    refine (C.out _ hb0).mono ?_
    rintro e w1 ⟨rfl, hb⟩
    have hfin := bstep hb0 hb
    clear hb
    go_wp2_with fail
    go_ret2
    exact ⟨⟨E, HZ.out, rfl⟩, hfin⟩
set_option maxHeartbeats 8000000 in
theorem fair_c (room : Int) (a : Option Addr) (n c : Nat) (xs : List Int) (w : World) (h : IntsAt w a n c xs) (hw : wantE xs n = 0) (hr0 : 0 ≤ room) (hr1 : room ≤ 1000000000000) :
    Calls Try.prog 18 #[.int .i64 room, .slice a n c] w fun e w' => ∃ v, e = .returned (.tuple #[v, .int .i64 0]) ∧ w'.ownsRow w.heap.size 3 1 v n ((tab (FairM.fairF xs n room) n).map (Value.int .i64)) ∧ Below w.heap.size w w' := by
  obtain ⟨ib, hib, hi0, hi1, hi2⟩ := info_parts info_int
  obtain ⟨n40, hbd⟩ := wantE_zero xs n hw
  have mm := h.max
  have ee := h.le
  have H := hidp h
  have C := hidp (fun W hb => wantsE_c a n c xs W (h.below (w' := W) hb))
  rw [hw] at C
  have hb0 := bal (Below.refl w.heap.size w) (.cells #[.slice a n c] 22)
  have c0 : (w.alloc (.cells #[.slice a n c] 22)).cell? ⟨w.heap.size, 0, none⟩ = some (.slice a n c) := by go_simp
  have HBD := hidp hbd
  clear h hw
  go_enter Try.func18, Try.ntmps18
  go_wp2_with fail
  refine (C.out _ hb0).mono ?_
  rintro e wa ⟨rfl, hba⟩
  have c1 := ck hba c0
  have hwa := bstep hb0 hba
  have hsa : w.heap.size < wa.heap.size := lt_of_cell c1
  clear hba hb0 c0
  have hmk : ∀ W : World, (Instr.makeSlice 22 (.int .i64 (n : Int)) (.int .i64 (n : Int))).run Try.prog W = .ok (.slice (some ⟨W.heap.size, 0, none⟩) n n) (W.alloc (.cells (madeCells #[.int .i64 0] n) 3)) := fun W => run_make_row' 22 3 _ _ Try.underlying22 info_int rfl _ _ n (by omega) (by omega) W
  have hb2 : Below wa.heap.size wa ((wa.alloc (.cells (madeCells #[.int .i64 0] n) 3)).alloc (.cells (madeCells #[.int .i64 0] n) 3)) := bal (bal (Below.refl _ _) _) _
  have oA := hidp (World.ownsRow.alloc (own_made2 wa w.heap.size wa.heap.size (.int .i64 0) n 3 rfl hwa.size (by omega)) (.cells (madeCells #[.int .i64 0] n) 3))
  have oB := hidp (own_made2 (wa.alloc (.cells (madeCells #[.int .i64 0] n) 3)) w.heap.size (wa.heap.size + 1) (.int .i64 0) n 3 (by simp) (by omega) (by omega))
  have hwb := hidp (bstep hwa hb2)
  have c2 := ck hb2 c1
  clear hb2 hwa
  go_upto_region 8 with fail
  clear c1
  generalize ((wa.alloc (.cells (madeCells #[.int .i64 0] n) 3)).alloc (.cells (madeCells #[.int .i64 0] n) 3)) = wb at *
  generalize wa.heap.size = g1 at *
  have DA := hidp (show DS wb w.heap.size g1 n (fun _ => 0) from oA.out)
  have DB := hidp (show DS wb w.heap.size (g1 + 1) n (idF 0) from (show DS wb w.heap.size (g1 + 1) n (fun _ => 0) from oB.out).congr (fun x => by unfold idF; rw [if_neg (by omega)]))
  have CX := hidp (show Cx wb (g1 + 1) w.heap.size a n c xs from ⟨c2, H.out.below hwb.out, fun x hx => by
    obtain ⟨i, hi, e⟩ := List.getElem_of_mem hx
    have := HBD.out i (by rw [← H.out.len]; exact hi)
    rw [← e]
    unfold gi at this
    rw [List.getD_eq_getElem?_getD, List.getElem?_eq_getElem hi] at this
    exact this, by omega, fun h0 b o e => by
    obtain ⟨b2, o2, e2, h2, _⟩ := H.out.addr (by omega)
    rw [e] at e2
    simp only [Option.some.injEq, Addr.mk.injEq] at e2
    omega⟩)
  clear oA oB c2 hmk hbd
  go_wp2_with fail
  go_loopg [31] n (fun gg s31 wr => ∃ k : Nat, k ≤ n ∧ n - k ≤ gg ∧ s31 = .int .i64 k ∧ Hid (DS wr w.heap.size (g1 + 1) n (idF k)) ∧ Hid (wb.grownBy wr (some (g1 + 1))))
  case atStart => exact ⟨0, by omega, by omega, rfl, DB, gr_refl _ _⟩
  case round =>
    clear DB
    obtain ⟨k, hk, hgg, rfl, D, G⟩ := hrel
    by_cases hlt : k < n
    · have c1 := D.out.cell k hlt
      have f1 := D.out.fro k
      have ST := hidp (show DS (wr.setCell ⟨g1 + 1, k, none⟩ (.int .i64 (k : Nat))) w.heap.size (g1 + 1) n (idF (k + 1)) from (D.out.set k (k : Nat)).congr (fun x => by
        unfold idF
        by_cases e : x = k
        · rw [if_pos e, if_pos (by omega), e]
        · rw [if_neg e]
          by_cases e2 : x < k
          · rw [if_pos e2, if_pos (by omega)]
          · rw [if_neg e2, if_neg (by omega)]))
      have kI : (k : Int) < (n : Int) := by omega
      go_wp2_with fail
      go_roundg (n - (k + 1))
      case measure => omega
      case rel => exact ⟨k + 1, by omega, by omega, by go_num, ST, hidp (gr_set G.out _ _)⟩
    · obtain rfl : k = n := by omega
      have SC := hidp (sortst_c w.heap.size (g1 + 1) k w.heap.size a c xs (idF k) wr D.out (CX.out.grown G.out) n40 (fun i hi => by unfold idF; rw [if_pos hi]))
      unfold cmpV at SC
      go_wp2_with fail
      refine SC.out.mono ?_
      rintro e wc ⟨rfl, ⟨f, P1, S1, D1⟩, G1⟩
      have RK := hidp (fun t (ht : t < k) => FairM.stable_rank xs k (by omega) (idF k) f (fun i hi => by unfold idF; rw [if_pos hi]) P1 S1 t ht)
      have D2 := hidp D1
      have G2 := hidp (G.out.trans G1)
      clear P1 S1 D1 G1 SC D G
      have A2 := hidp (show DS wc w.heap.size g1 k (fun _ => 0) from World.ownsRow.kept DA.out G2.out (.inr (by simp [Value.ownBlock])))
      have HB2 := hidp (show Below w.heap.size w wc from hwb.out.grown G2.out hwb.out.size (fun r e => by cases e; omega))
      have CX2 := hidp (CX.out.grown G2.out)
      clear DA CX G2
      have HA := hidp (fun (hk : 0 < k) b o (e : a = some ⟨b, o, none⟩) => show b < w.heap.size from by
        obtain ⟨b2, o2, e2, h2, _⟩ := H.out.addr hk
        rw [e] at e2
        simp only [Option.some.injEq, Addr.mk.injEq] at e2
        omega)
      have CX3 := hidp (show Cx wc g1 w.heap.size a k c xs from ⟨CX2.out.c, CX2.out.i, CX2.out.bd, by omega, fun h0 b o e => by have := HA.out h0 b o e; omega⟩)
      have LB := hidp (fun t (ht : t ≤ k) => FairM.left_bd (FairM.vs xs k) k room hr0 (FairM.vs_nn xs k (fun i hi => (HBD.out i hi).1)) t ht)
      have A3 := hidp (show DS wc w.heap.size g1 k (FairM.acc (FairM.giv (FairM.vs xs k) k room) (fun t => (f t).toNat) 0) from A2.out)
      have HVS := hidp (fun t (ht : t < k) => RK.out t ht)
      clear A2 CX2
      go_wp2_with fail
      go_loopg [0, 44] k (fun gg s0 s44 wr => ∃ t : Nat, t ≤ k ∧ k - t ≤ gg ∧ s44 = .int .i64 t ∧ s0 = .int .i64 (FairM.left (FairM.vs xs k) k room t) ∧ Hid (DS wr w.heap.size g1 k (FairM.acc (FairM.giv (FairM.vs xs k) k room) (fun t => (f t).toNat) t)) ∧ Hid (wc.grownBy wr (some g1)))
      case atStart => exact ⟨0, by omega, by omega, rfl, rfl, A3, gr_refl _ _⟩
      case round =>
        clear A3
        obtain ⟨t, ht, hgt, rfl, rfl, A, G⟩ := hrel
        by_cases hlt : t < k
        · obtain ⟨i, hi, hfi, hrk⟩ := RK.out t hlt
          have O := (show DS wc w.heap.size (g1 + 1) k f from D2.out).kept G.out (.inr (by simp [Value.ownBlock]))
          have c1 := (show DS wr w.heap.size (g1 + 1) k f from O).cell t hlt
          rw [hfi] at c1
          have X := CX3.out.grown G.out
          have c2 := X.c
          obtain ⟨b, o, rfl, hb, hcc⟩ := X.i.addr (by omega)
          have c3 := hcc i hi
          have c4 := A.out.cell i hi
          have f4 := A.out.fro i
          have vb := HBD.out i hi
          have va := FairM.vs_at xs k i hi
          rw [hrk] at va
          have lb := LB.out t ht
          obtain ⟨m, hm⟩ : ∃ m : Nat, (k : Int) - (t : Int) = (m : Int) := ⟨k - t, by omega⟩
          have hm1 : 1 ≤ m ∧ m ≤ 40 := by omega
          obtain ⟨R, hR⟩ : ∃ R, R = FairM.left (FairM.vs xs k) k room t := ⟨_, rfl⟩
          rw [← hR] at lb ⊢
          have hg := show FairM.giv (FairM.vs xs k) k room t = min (FairM.vs xs k t) (FairM.left (FairM.vs xs k) k room t / ((k : Int) - (t : Int))) from rfl
          rw [va, ← hR, hm] at hg
          have hl := FairM.left_step (FairM.vs xs k) k room t
          rw [← hR, hg] at hl
          have d0 : 0 ≤ R / (m : Int) := Int.ediv_nonneg lb.1 (by omega)
          have d1 : R / (m : Int) ≤ R := Int.ediv_le_self _ lb.1
          have ACC := hidp (show DS (wr.setCell ⟨g1, i, none⟩ (.int .i64 (min (gi xs i) (R / (m : Int))))) w.heap.size g1 k (FairM.acc (FairM.giv (FairM.vs xs k) k room) (fun t => (f t).toNat) (t + 1)) from (A.out.set i _).congr (fun x => by
            simp only [FairM.acc]
            have e : (f t).toNat = i := by rw [hfi]; rfl
            by_cases ex : x = i
            · rw [if_pos ex, if_pos (by rw [ex, e]), hg]
            · rw [if_neg ex, if_neg (by rw [e]; exact ex)]))
          have GA := hidp (gr_drew (gr_set G.out i (.int .i64 (min (gi xs i) (R / (m : Int))))))
          have HL := hidp hl
          have kI : (t : Int) < (k : Int) := by omega
          have iI : (i : Int) < (k : Int) := by omega
          have m0 : ¬ (m : Int) = 0 := by omega
          have m0' : ((m : Int) == 0) = false := by rw [beq_eq_false_iff_ne]; omega
          clear X O hcc va hrk hfi hR hg hl
          generalize gi xs i = li at *
          generalize FairM.acc (FairM.giv (FairM.vs xs k) k room) (fun t => (f t).toNat) t i = old at *
          go_upto_region 17 with fail
          go_region
          all_goals go_wp2
          all_goals go_roundg (k - (t + 1))
          all_goals first
            | exact ⟨t + 1, by omega, by omega, by go_num, v_int (by rw [HL.out]), hidp (show DS _ _ _ _ _ from ACC.out), GA⟩
            | omega
        · obtain rfl : t = k := by omega
          have FIN := hidp (show (tab (FairM.fairF xs t room) t).map (Value.int .i64) = frow (FairM.acc (FairM.giv (FairM.vs xs t) t room) (fun t => (f t).toNat) t) t by
            rw [map_tab _ t (tab_len _ _)]
            unfold frow
            exact tab_congr _ _ _ (fun j hj => v_int (by
              rw [tab_gi _ _ _ hj]
              have hr := SortMath.rank_lt (gi xs) t j hj
              obtain ⟨i, hi, hfi, hrk⟩ := RK.out (SortMath.rank (gi xs) t j) hr
              have hij := SortMath.rank_inj (gi xs) t i j hi hj hrk
              have hq : ∀ a b, a < t → b < t → (f a).toNat = (f b).toNat → a = b := fun a b ha hb e => by
                obtain ⟨ia, _, fa, ra⟩ := RK.out a ha
                obtain ⟨ib, _, fb, rb⟩ := RK.out b hb
                rw [fa, fb] at e
                have : ia = ib := by omega
                rw [← ra, ← rb, this]
              have := FairM.acc_at (FairM.giv (FairM.vs xs t) t room) (fun t => (f t).toNat) (SortMath.rank (gi xs) t j) t hr hq
              rw [hfi, Int.toNat_natCast, hij] at this
              exact this.symm)))
          have hfin := hidp (show Below w.heap.size w wr from HB2.out.grown G.out HB2.out.size (fun r e => by cases e; omega))
          go_wp2_with fail
          go_ret2
          exact ⟨_, rfl, by rw [FIN.out]; exact A.out, hfin.out⟩
end Go.Proofs.Ytfhmckmglkjbeaa
