/- The walk of BottomMany (draft: the head). -/
import Derived.Test.YtlikpakjjaeblaaBotFill
import Derived.Test.YtlikpakjjaeblaaMany
import Derived.Test.YtlikpakjjaeblaaMapNMath
import Derived.Deep.DeepCutAuto
import Derived.Lib.MinMax
import Derived.BigQuiet
import Derived.Deep.QuietTactic
import Derived.Deep.LoopGhost
namespace Go.Proofs.Ytlikpakjjaeblaa.bottomMany
open Go.ChangeShapes Go.WideShapes Go.ChangeAt Go.RowKit
open Go.Proofs.Ytlikpakjjaeblaa
set_option maxRecDepth 20000
theorem ba1 (W : World) (o : Obj) : Below W.heap.size W (W.alloc o) := bal (Below.refl _ _) _
theorem nodup_bot (K : Nat) (D : List Int) : (botL K D).length = min K (srt1 D).length := by unfold botL; rw [List.length_take]
theorem last_pos (xs : List Int) (K : Nat) (hok : BotOk K xs) (hl : xs.length = K) (h2 : 2 ≤ K) : 1 ≤ gi xs (K - 1) := by
  have h1 := rising_at xs hok.ris (K - 2) (K - 1) (by omega) (by omega)
  have h3 := hok.bd _ (gi_mem xs (K - 2) (by omega))
  omega
theorem est_ge (J Y : Nat) (h1 : 1 ≤ Y) (h2 : Y ≤ 72057594037927936) : J ≤ 72057594037927936 * J / Y := by
  rw [Nat.le_div_iff_mul_le (by omega), Nat.mul_comm]
  exact Nat.mul_le_mul_right _ h2
/-- All of bottom.Many in one word. -/
theorem many_all (K : Nat) (a : Option Addr) (n c : Nat) (xs : List Int) (w : World) (h : IntsAt w a n c xs) (hok : BotOk K xs) :
    ∃ (m : Nat) (er : Int), (Calls Try.prog 20 #[botV K a n c] w fun e w' => e = .returned (.tuple #[.int .i64 m, .int .i64 er]) ∧ Below w.heap.size w w') ∧ ((er = 0 ∧ (n < K → m = n) ∧ (n = K → K ≤ m + 1)) ∨ (er = 6 ∧ K = 1 ∧ (0 : Int) ∈ xs)) := by
  have hl := h.len
  have hln := hok.ln
  have k1 := hok.k1
  by_cases hn : n < K
  · exact ⟨n, 0, many_few K a n c xs w h hok hn, .inl ⟨rfl, fun _ => rfl, fun e => by omega⟩⟩
  · obtain rfl : n = K := by omega
    have hyb := hok.bd _ (gi_mem xs (n - 1) (by omega))
    by_cases hz : gi xs (n - 1) = 0
    · have hn1 : n = 1 := by
        by_cases h2 : 2 ≤ n
        · have := last_pos xs n hok hl h2; omega
        · omega
      exact ⟨0, 6, many_zero n a c xs w h hok hz, .inr ⟨rfl, hn1, hz ▸ gi_mem xs (n - 1) (by omega)⟩⟩
    · obtain ⟨Y, hY⟩ : ∃ Y : Nat, gi xs (n - 1) = (Y : Int) := ⟨(gi xs (n - 1)).toNat, by omega⟩
      exact ⟨_, 0, many_est n a c xs w h hok Y hY (by omega), .inl ⟨rfl, fun e => by omega, fun _ => by have := est_ge (n - 1) Y (by omega) (by omega); omega⟩⟩
set_option maxHeartbeats 8000000 in
theorem walk (a0 : Int) (a1 : Option Addr) (n c : Nat) (zs : List Int) (w : World)
    (w0 : (Lit.int .i64 a0).wf = true) (w1 : IntsAt w a1 n c zs) :
    Calls Try.prog 5 #[.int .i64 a0, .slice a1 n c] w fun e w' => e = .returned (.bool true) ∧ Below w.heap.size w w' := by
  have P1 := hidp (many_est 2 (some ⟨w.heap.size, 0, none⟩) 2 [1, 36028797018963968] (w.alloc (.cells #[.int .i64 1, .int .i64 36028797018963968] 3)) (ints_lit [1, 36028797018963968] rfl rfl rfl (by simp) (by omega)) ⟨by omega, by omega, by simp, by simp [Rising], by simp⟩ 36028797018963968 rfl (by omega))
  obtain ⟨K, hK⟩ : ∃ K : Nat, 1 + ((wn a0 40 : Nat) : Int) = (K : Int) := ⟨1 + wn a0 40, by push_cast; rfl⟩
  have k0 := wn_lt a0 40 (by omega)
  have k1 : 1 ≤ K := by omega
  have k2 : K ≤ 40 := by omega
  have DR := hidp w1
  clear w0 w1 k0
  unfold botV at *
  go_enter Try.func5, Try.ntmps5
  go_wp2_with fail
  refine P1.out.mono ?_
  rintro e wa ⟨rfl, hb1⟩
  rw [show 72057594037927936 * (2 - 1) / 36028797018963968 = 2 from by decide]
  have hba := hidp (bstep (ba1 w _) hb1)
  clear hb1 P1
  go_wp2_with fail
  refine (withinN_c a0 40 (by omega) (by omega) _).mono ?_
  rintro e w' ⟨rfl, rfl⟩
  go_wp2_with fail
  refine (filled_c K a1 n c zs wa (DR.out.below hba.out) k1 k2).mono ?_
  rintro e wb ⟨g3, n3, c3, rfl, hO3, hb3⟩
  obtain ⟨hI3, _⟩ := owns_bot hO3
  have hbb := hidp (bal (bstep hba.out hb3) (.cells #[.int .i64 (K : Nat), .slice g3 n3 c3] 24))
  have c0 : (wb.alloc (.cells #[.int .i64 (K : Nat), .slice g3 n3 c3] 24)).cell? ⟨wb.heap.size, 0, none⟩ = some (.int .i64 (K : Nat)) := by go_simp
  have c1 : (wb.alloc (.cells #[.int .i64 (K : Nat), .slice g3 n3 c3] 24)).cell? ⟨wb.heap.size, 1, none⟩ = some (.slice g3 n3 c3) := by go_simp
  have I3 := hidp (hI3.alloc (.cells #[.int .i64 (K : Nat), .slice g3 n3 c3] 24))
  clear hO3 hb3 hI3 hba
  unfold botV at *
  go_wp2_with fail
  have hln := I3.out.len
  obtain ⟨m, er, CM, hF⟩ := many_all K g3 n3 c3 _ _ I3.out (BotOk.ofL k1 k2 (zs.take 200))
  have HF := hidp hF
  refine CM.mono ?_
  rintro e wc ⟨rfl, hb⟩
  have hbc := hidp (bstep hbb.out hb)
  clear hF hb hbb CM c0 c1 I3
  obtain ⟨mm, hmi⟩ : ∃ mm : Nat, min (n : Int) 200 = (mm : Int) := ⟨min n 200, by omega⟩
  have hmn : mm ≤ n := by omega
  have lc := DR.out.le
  have lm := DR.out.max
  have hmm := @run_makeMap Try.prog
  have ST := hidp (DR.out.below hbc.out).split
  have LN := hidp DR.out.len
  clear DR
  go_wp2_with fail
  go_loopg [47] mm (fun gg i wr => ∃ k : Nat, k ≤ mm ∧ mm - k ≤ gg ∧ i = .int .i64 k ∧ MapN wr Try.prog 3 4 .i64 wc.heap.size k (((zs.take k).map drw).foldl addN []) ∧ Below wc.heap.size wc wr)
  case atStart => exact ⟨0, by omega, by omega, rfl, MapN.made _ _ _ _ _, bal (Below.refl _ _) _⟩
  case round =>
    obtain ⟨k, hk, hgg, rfl, hM, hbl⟩ := hrel
    by_cases hlt : k < mm
    · obtain ⟨b, o, hz, hx⟩ := ST.out
      obtain rfl : a1 = some ⟨b, o, none⟩ := hz.resolve_left (by omega)
      have q := carry_cell (hx k (by omega)) hbl
      have dl := drw_lo (gi zs k)
      have dh := drw_hi (gi zs k)
      have hsn := hidp (show ((zs.take (k + 1)).map drw).foldl addN [] = addN (((zs.take k).map drw).foldl addN []) (drw (gi zs k)) by
        rw [List.take_add_one, gi_get zs k (by rw [LN.out]; omega), List.map_append, List.foldl_append]; rfl)
      clear hz hx
      go_wp2_with (first
        | (go_at_call 16; refine (draw_c (gi zs k) _).mono ?_; rintro e w' ⟨rfl, rfl⟩)
        | (at_mapUpdate; refine wpList_mapUpdate_true rfl (.tmp 51) (.tmp 53) _ 40 rfl 3 4 (Maps.int_keyed Try.underlying3) Try.underlying40 Try.underlying4 wc.heap.size k _ .i64 rfl hM (by omega) _ rfl rfl (Maps.keyOf_int_mk Try.underlying3 (WalkArith.wf_i64 (by omega))) ?_; intro w2 hm2 hg2))
      go_roundg (mm - (k + 1))
      case measure => omega
      case rel => exact ⟨k + 1, by omega, by omega, by go_num, by rw [hsn.out]; exact hm2, hbl.grown hg2 hbl.size (fun j hj => by cases hj; exact Nat.le_refl _)⟩
    · obtain rfl : k = mm := by omega
      have hT := hidp (show zs.take k = zs.take 200 by
        have := LN.out
        by_cases h2 : n ≤ 200
        · rw [List.take_of_length_le (by omega), List.take_of_length_le (by omega)]
        · rw [show k = 200 by omega])
      have hnd := nodup_bot K ((zs.take 200).map drw)
      rw [hln] at hnd
      have hLL := addNs_len ((zs.take 200).map drw)
      rw [hT.out] at hM
      have hB := bstep hbc.out hbl
      obtain ⟨S, hS⟩ : ∃ S, S = (((zs.take 200).map drw).foldl addN []).length := ⟨_, rfl⟩
      have hle := hidp (fun ty => hM.len (t := 40) Try.underlying40 ty)
      have hlk := hM.isB.run (t := 40) (Maps.int_keyed Try.underlying3) Try.underlying40 Try.underlying4 (by kernel_rfl) 0 (Maps.keyOf_int_mk Try.underlying3 (WalkArith.wf_i64 (by omega)))
      rw [← hS] at hle
      rw [← hS] at hLL
      rw [← hLL] at hnd
      have hlen := hle.out
      have HH := HF.out
      clear hle HF hS hT
      rcases HH with ⟨rfl, h1, h2⟩ | ⟨rfl, h1, h2⟩
      · clear hlk hM
        by_cases hSK : S < K
        · have e1 : m = S := by rw [h1 (by omega)]; omega
          have g1 : (S : Int) < (K : Int) := by omega
          clear h1 h2 hLL hnd hln
          subst e1
          go_wp2_with fail
          go_ret
          exact ⟨rfl, hB⟩
        · have g1 : ¬ (S : Int) < (K : Int) := by omega
          have g2 := h2 (by omega)
          have g3 : ¬ (m : Int) < (K : Int) - 1 := by omega
          clear h1 h2 hLL hnd hln
          go_wp2_with fail
          go_ret
          exact ⟨rfl, hB⟩
      · subst h1
        have h0 : (0 : Int) ∈ ((zs.take 200).map drw).foldl addN [] := (addNs_mem 0 _ _).2 (.inr (botL_mem _ _ _ h2))
        rw [decide_eq_true h0] at hlk
        clear h0 h2 hM hlen hLL hnd hln
        go_wp2_with fail
        go_ret
        exact ⟨rfl, hB⟩
end Go.Proofs.Ytlikpakjjaeblaa.bottomMany
