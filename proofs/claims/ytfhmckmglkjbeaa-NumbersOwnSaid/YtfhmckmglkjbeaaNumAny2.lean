/- More functions of lists of integers at whatever comes. -/
import Derived.Test.YtfhmckmglkjbeaaMgNumAny
import Derived.Test.YtfhmckmglkjbeaaRegsBad
import Derived.Test.YtfhmckmglkjbeaaMgFair
import Derived.BigQuiet
namespace Go.Proofs.Ytfhmckmglkjbeaa
open Go.ChangeShapes Go.WideShapes Go.ChangeAt Go.RowKit
set_option maxRecDepth 20000
theorem pcheck_bad (n c : Nat) (a : Option Addr) (w : World) (hn : ¬ (1 ≤ n ∧ n ≤ 16)) :
    Calls Try.prog 30 #[.agg #[.int .i64 n, .int .i64 n, .slice a n c]] w fun e w' => e = .returned (.int .i64 1) ∧ Below w.heap.size w w' := by
  by_cases h : n = 0
  · subst h
    go_enter Try.func30, Try.ntmps30
    go_wp2
    go_ret
    exact ⟨rfl, bal (Below.refl _ _) _⟩
  · have h1 : ¬ (n : Int) < 1 := by omega
    have h2 : (16 : Int) < (n : Int) := by omega
    clear hn h
    go_enter Try.func30, Try.ntmps30
    go_wp2
    go_ret
    exact ⟨rfl, bal (Below.refl _ _) _⟩
theorem pput_any (a : Option Addr) (n c : Nat) (xs : List Int) (w : World) (h : IntsAt w a n c xs) :
    Calls Try.prog 9 #[.agg #[.int .i64 n, .int .i64 n, .slice a n c], .int .i64 5, .int .i64 0] w fun e w' => ∃ k s v r, e = .returned (.tuple #[.agg #[.int .i64 k, .int .i64 s, v], .int .i64 r]) ∧ Fr w.heap.size w' v ∧ Below w.heap.size w w' := by
  by_cases hn : 1 ≤ n ∧ n ≤ 16
  · refine (pput_c n n 5 0 a n c xs w h (by omega) (by omega) (by omega) (by omega) (by omega) (by omega) (by omega)).mono ?_
    rintro e w' ⟨v, rfl, hO, hB⟩
    have hp : pput n n xs 5 0 = xs.set 0 5 := by
      unfold pput; rw [if_neg (by omega), if_pos (by omega)]; rfl
    rw [hp] at hO
    refine ⟨_, _, _, _, rfl, Fr.mk hO (by have := h.len; rw [List.length_set]; omega) (fun x hx => ?_), hB⟩
    rcases List.mem_or_eq_of_mem_set hx with hx | hx
    · exact h.bd x hx
    · omega
  · have CK := hidp (fun W => pcheck_bad n c a W hn)
    clear h hn
    go_enter Try.func9, Try.ntmps9
    go_wp2_with fail
    refine (CK.out _).mono ?_
    rintro e w' ⟨rfl, hB⟩
    have hs := hB.size
    have hb2 : Below w.heap.size w w' := bstep (bal (bal (Below.refl _ _) _) _) hB
    have x0 : w'.cell? ⟨w.heap.size + 1, 0, none⟩ = some (.int .i64 0) := ck hB (by go_simp)
    have x1 : w'.cell? ⟨w.heap.size + 1, 1, none⟩ = some (.int .i64 0) := ck hB (by go_simp)
    have x2 : w'.cell? ⟨w.heap.size + 1, 2, none⟩ = some (.slice none 0 0) := ck hB (by go_simp)
    have z : ∀ o, w'.frozen? ⟨w.heap.size + 1, o, none⟩ = false := fun o => (hB.frozen (p := ⟨w.heap.size + 1, o, none⟩) (by simp)).trans (by go_simp)
    have z0 := z 0
    have z1 := z 1
    have z2 := z 2
    clear CK hB z
    go_wp2_with fail
    have y0 : (((w'.setCell ⟨w.heap.size + 1, 0, none⟩ (.int .i64 0)).setCell ⟨w.heap.size + 1, 1, none⟩ (.int .i64 0)).setCell ⟨w.heap.size + 1, 2, none⟩ (.slice none 0 0)).cell? ⟨w.heap.size + 1, 0, none⟩ = some (.int .i64 0) := by go_simp
    have y1 : (((w'.setCell ⟨w.heap.size + 1, 0, none⟩ (.int .i64 0)).setCell ⟨w.heap.size + 1, 1, none⟩ (.int .i64 0)).setCell ⟨w.heap.size + 1, 2, none⟩ (.slice none 0 0)).cell? ⟨w.heap.size + 1, 1, none⟩ = some (.int .i64 0) := by go_simp
    have y2 : (((w'.setCell ⟨w.heap.size + 1, 0, none⟩ (.int .i64 0)).setCell ⟨w.heap.size + 1, 1, none⟩ (.int .i64 0)).setCell ⟨w.heap.size + 1, 2, none⟩ (.slice none 0 0)).cell? ⟨w.heap.size + 1, 2, none⟩ = some (.slice none 0 0) := by go_simp
    exact bodyPost_ret (v := .tuple #[.agg #[.int .i64 0, .int .i64 0, .slice none 0 0], .int .i64 1]) (by simp [results, Try.results9, go_sem, y0, y1, y2]) rfl ⟨_, _, _, _, rfl, Fr.nil _ _, ((hb2.setCell (p := ⟨w.heap.size + 1, 0, none⟩) (Nat.le_succ _) _).setCell (p := ⟨w.heap.size + 1, 1, none⟩) (Nat.le_succ _) _).setCell (p := ⟨w.heap.size + 1, 2, none⟩) (Nat.le_succ _) _⟩
theorem make_any (a : Option Addr) (n c : Nat) (xs : List Int) (w : World) (h : IntsAt w a n c xs) :
    Calls Try.prog 10 #[.slice a n c] w fun e w' => ∃ k v u r, e = .returned (.tuple #[.agg #[.int .i64 k, v, u], .int .i64 r]) ∧ Fr w.heap.size w' v ∧ Fr w.heap.size w' u ∧ Apart v u ∧ Below w.heap.size w w' := by
  by_cases hE : wtsE xs n = 0
  · obtain ⟨h1, h2, h3⟩ := wtsE_zero xs n hE
    have h4 := sumK_ok xs n h2
    refine (make_cx a n c xs w h hE).mono ?_
    rintro e w' ⟨g1, g2, own, rest, rfl, hF, _, o1, o2, hB, hne⟩
    refine ⟨_, _, _, _, rfl, Fr.tab o1 (by omega) (fun j hj => by have := hF.bd j hj; omega), Fr.tab o2 (by omega) (fun j hj => by have := hF.rt j hj; omega), .inr (fun e => hne (by simpa [Value.ownBlock] using e)), hB⟩
  · refine (make_bad a n c xs w h hE).mono ?_
    rintro e w' ⟨rfl, hB⟩
    exact ⟨_, _, _, _, rfl, Fr.nil _ _, Fr.nil _ _, .inl rfl, hB⟩
theorem even_any (a : Option Addr) (n c : Nat) (xs : List Int) (k s : Int) (w : World) (h : IntsAt w a n c xs) :
    Calls Try.prog 12 #[.slice a n c, .int .i64 k, .int .i64 s] w fun e w' => ∃ v r, e = .returned (.tuple #[v, .int .i64 r]) ∧ Fr w.heap.size w' v ∧ Below w.heap.size w w' := by
  by_cases hE : evE xs n k s = 0
  · obtain ⟨h0, h1, h2, h3, h4⟩ := evE_zero xs n k s hE
    obtain ⟨g1, g2, g3⟩ := wtsE_zero xs n h0
    obtain ⟨K, rfl⟩ := Int.eq_ofNat_of_zero_le (show 0 ≤ k by omega)
    obtain ⟨S, rfl⟩ := Int.eq_ofNat_of_zero_le h3
    refine (even_ok a n c xs K S _ _ rfl rfl w h g1 g2 (by omega) (by omega) h4).mono ?_
    rintro e w' ⟨v, rfl, hO, hB⟩
    refine ⟨_, _, rfl, Fr.mk hO (by omega) (fun x hx => ?_), hB⟩
    obtain ⟨j, hj, rfl⟩ := tab_mem _ _ _ hx
    have := SortMath.cn_le (hit xs K (sumK xs n) S j) (K : Int).toNat
    unfold evM evF
    omega
  · refine (even_bad a n c xs k s w h hE).mono ?_
    rintro e w' ⟨rfl, rfl⟩
    exact ⟨_, _, rfl, Fr.nil _ _, Below.refl _ _⟩
theorem rput_any (a : Option Addr) (n c : Nat) (xs : List Int) (k : Int) (w : World) (h : IntsAt w a n c xs) :
    Calls Try.prog 16 #[.slice a n c, .int .i64 k] w fun e w' => ∃ v r, e = .returned (.tuple #[v, .int .i64 r]) ∧ Fr w.heap.size w' v ∧ Below w.heap.size w w' := by
  by_cases hE : rpE xs n k = 0
  · obtain ⟨h0, h1, h2⟩ := rpE_zero xs n k hE
    have hx := rgE_zero xs n h0
    obtain ⟨K, rfl⟩ := Int.eq_ofNat_of_zero_le h1
    have hn : 1 ≤ n ∧ n ≤ 16 := by have := hx.1; unfold rgN at this; omega
    refine (rput_c a n c xs K w h hx (by omega)).mono ?_
    rintro e w' ⟨v, rfl, hO, hB⟩
    refine ⟨_, _, rfl, Fr.mk hO (by omega) (fun x hx' => ?_), hB⟩
    obtain ⟨j, hj, rfl⟩ := tab_mem _ _ _ hx'
    have := (rput_ok xs n K hx (by omega)).2 j hj
    rw [tab_gi _ _ _ hj] at this
    omega
  · refine (rput_bad a n c xs k w h hE).mono ?_
    rintro e w' ⟨rfl, hB⟩
    exact ⟨_, _, rfl, Fr.nil _ _, hB⟩
theorem fair_any (room : Int) (a : Option Addr) (n c : Nat) (xs : List Int) (w : World) (h : IntsAt w a n c xs) :
    Calls Try.prog 18 #[.int .i64 room, .slice a n c] w fun e w' => ∃ v r, e = .returned (.tuple #[v, .int .i64 r]) ∧ Fr w.heap.size w' v ∧ Below w.heap.size w w' := by
  by_cases hE : wantE xs n = 0 ∧ 0 ≤ room ∧ room ≤ 1000000000000
  · obtain ⟨h1, h2, h3⟩ := hE
    have h4 := wantE_zero xs n h1
    refine (fair_c room a n c xs w h h1 h2 h3).mono ?_
    rintro e w' ⟨v, rfl, hO, hB⟩
    refine ⟨_, _, rfl, Fr.mk hO (by omega) (fun x hx => ?_), hB⟩
    obtain ⟨j, hj, rfl⟩ := tab_mem _ _ _ hx
    have := FairM.fair_bd xs n room h2 (fun i hi => (h4.2 i hi).1) j hj
    have := h4.2 j hj
    omega
  · refine (fair_bad room a n c xs w h hE).mono ?_
    rintro e w' ⟨⟨E, _, rfl⟩, hB⟩
    exact ⟨_, _, rfl, Fr.nil _ _, hB⟩
end Go.Proofs.Ytfhmckmglkjbeaa
