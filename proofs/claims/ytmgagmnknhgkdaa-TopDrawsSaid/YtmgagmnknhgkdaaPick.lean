/- Contract of cum.Pick where there are weights and the part is below their sum. -/
import Derived.Test.YtmgagmnknhgkdaaWts
import Derived.Test.YtmgagmnknhgkdaaEvenMath
import Derived.Deep.LoopGhost
import Derived.Shelf.Abstract
import Derived.Deep.QuietTactic
import Derived.BigQuiet
import Derived.WalkSpells
import Derived.WalkSmall
namespace Go.Proofs.Ytmgagmnknhgkdaa
open Go.ChangeShapes Go.WideShapes Go.ChangeAt Go.RowKit
set_option maxRecDepth 20000

theorem pick_uniq (xs : List Int) (n : Nat) (h : okN xs n = true) (p : Int) (i j : Nat) (hi : i < n) (hj : j < n) (a1 : sumK xs i ≤ p) (a2 : p < sumK xs (i + 1)) (b1 : sumK xs j ≤ p) (b2 : p < sumK xs (j + 1)) : i = j := by
  rcases Nat.lt_trichotomy i j with hlt | heq | hgt
  · have := sumK_le xs n h (i + 1) j (by omega) (by omega)
    omega
  · exact heq
  · have := sumK_le xs n h (j + 1) i (by omega) (by omega)
    omega
/-- sort.Search, whatever the predicate. -/
theorem search_c (g : Nat) (lb : Array Value) (F : Nat → Bool) (eg : ∀ args w, (callFunc g args).run Try.prog w = .ok (.enter g args) w) (n : Nat) (hn : n ≤ 1000000) (w : World)
    (hp : ∀ W i, i < n → Below w.heap.size w W → Calls Try.prog g (#[.int .i64 (i : Int)] ++ lb) W fun e w' => e = .returned (.bool (F i)) ∧ Below w.heap.size w w') :
    Calls Try.prog 53 #[.int .i64 n, .func (.func g) #[] lb] w fun e w' => ∃ i : Nat, e = .returned (.int .i64 i) ∧ Hid (i ≤ n ∧ (i = 0 ∨ F (i - 1) = false) ∧ (i = n ∨ F i = true)) ∧ Below w.heap.size w w' := by
  have HP := hidp hp
  clear hp
  go_enter Try.func53, Try.ntmps53
  go_wp2_with fail
  go_loopg [5, 6] n (fun gg s5 s6 wr => ∃ lo hi : Nat, lo ≤ hi ∧ hi ≤ n ∧ hi - lo ≤ gg ∧ s5 = .int .i64 lo ∧ s6 = .int .i64 hi ∧ Hid ((lo = 0 ∨ F (lo - 1) = false) ∧ (hi = n ∨ F hi = true)) ∧ Hid (Below w.heap.size w wr))
  case atStart => exact ⟨0, n, by omega, by omega, by omega, rfl, rfl, ⟨.inl rfl, .inl rfl⟩, Below.refl _ w⟩
  case round =>
    obtain ⟨lo, hi, h1, h2, hgg, rfl, rfl, HI, BW⟩ := hrel
    by_cases hlt : lo < hi
    · obtain ⟨m, hm⟩ : ∃ m : Nat, m = (lo + hi) / 2 := ⟨_, rfl⟩
      have hm1 : lo ≤ m ∧ m < hi := by omega
      have hmE : ((lo : Int) + (hi : Int)) / 2 = (m : Int) := by omega
      have hcall := HP.out wr m (by omega) BW.out
      clear hm
      obtain ⟨hm1, hm2⟩ := hm1
      cases hq : F m with
      | true =>
        rw [hq] at hcall
        have HQ := hidp hq
        clear hq
        go_wp2_with (go_at_fn g; refine hcall.mono ?_; rintro e w' ⟨rfl, hb'⟩)
        go_roundg (m - lo)
        case measure => omega
        case rel => exact ⟨lo, m, by omega, by omega, by omega, by go_num, by go_num, ⟨HI.out.1, .inr HQ.out⟩, hb'⟩
      | false =>
        rw [hq] at hcall
        have HQ := hidp hq
        clear hq
        go_wp2_with (go_at_fn g; refine hcall.mono ?_; rintro e w' ⟨rfl, hb'⟩)
        go_roundg (hi - (m + 1))
        case measure => omega
        case rel => exact ⟨m + 1, hi, by omega, by omega, by omega, by go_num, by go_num, ⟨.inr HQ.out, HI.out.2⟩, hb'⟩
    · obtain rfl : lo = hi := by omega
      go_wp2_with fail
      go_ret
      exact ⟨lo, rfl, ⟨h2, HI.out⟩, BW.out⟩
theorem pick1_c (ps pp b n c i : Nat) (p x : Int) (w : World) (c1 : w.cell? ⟨ps, 0, none⟩ = some (.slice (some ⟨b, 0, none⟩) n c)) (c2 : w.cell? ⟨pp, 0, none⟩ = some (.int .i64 p)) (cx : w.cell? ⟨b, i, none⟩ = some (.int .i64 x)) (hi : i < n) (hc : n ≤ c) (hm : c ≤ 9223372036854775807) :
    Calls Try.prog 54 #[.int .i64 i, .pointer (some ⟨ps, 0, none⟩), .pointer (some ⟨pp, 0, none⟩)] w fun e w' => e = .returned (.bool (decide (p < x))) ∧ Below w.heap.size w w' := by
  go_enter Try.func54, Try.ntmps54
  go_wp2_with fail
  go_quiet (fail)
  go_wp2_with fail
  go_ret
  exact ⟨rfl, below_drewN (Below.refl _ _) _⟩
set_option maxHeartbeats 2000000 in
theorem pick_c (a : Option Addr) (n c : Nat) (xs : List Int) (p : Int) (w : World) (h : IntsAt w a n c xs) (hn : n ≤ 40) (hok : okN xs n = true) (hp0 : 0 ≤ p) (hp1 : p < sumK xs n) :
    Calls Try.prog 31 #[.slice a n c, .int .i64 p] w fun e w' => ∃ i : Nat, i < n ∧ e = .returned (.tuple #[.int .i64 i, .int .i64 0]) ∧ Hid (sumK xs i ≤ p ∧ p < sumK xs (i + 1)) ∧ Below w.heap.size w w' := by
  have hE := wtsE_ok xs n hn hok (by omega)
  have cw := fun W (hW : IntsAt W a n c xs) => weights_c a n c xs W hW
  rw [show wtsV xs n = sumK xs n by unfold wtsV; rw [if_pos hE], hE] at cw
  have CW := hidp cw
  have CS := hidp (fun W (hW : IntsAt W a n c xs) => sums_c a n c xs W hW hn hok)
  have sb := sumK_ok xs n hok
  obtain ⟨sb1, sb2⟩ := sb
  have HP1 := hidp hp1
  have SN := hidp (show n = 0 → sumK xs n = 0 from fun h => by rw [h]; rfl)
  have SB := hidp (fun k (hk : k ≤ n) => sumK_ok xs k (okN_down xs n k hok hk))
  clear cw hE hok
  obtain ⟨A, hA⟩ : ∃ A, A = sumK xs n := ⟨_, rfl⟩
  have HA := hidp hA
  rw [← hA] at CW sb1 sb2 hp1
  clear hA
  go_enter Try.func31, Try.ntmps31
  go_wp2_with fail
  refine (CW.out _ (h.alloc _)).mono ?_; rintro e w' ⟨rfl, rfl⟩
  go_wp2_with fail
  refine (CS.out _ (h.alloc _)).mono ?_
  rintro e wb ⟨v, rfl, hv, hbb⟩
  obtain ⟨g, cap, rfl, hg1, hg2, hcap1, hcap2⟩ := owns_addr hv (by
    rcases Nat.eq_zero_or_pos n with h0 | h0
    · have := SN.out h0; have := HA.out; omega
    · exact h0)
  have hba : Below w.heap.size w wb := bstep (bal (Below.refl _ _) _) hbb
  have cpa : (w.alloc (.cells #[.int .i64 p] 3)).cell? ⟨w.heap.size, 0, none⟩ = some (.int .i64 p) := by
    unfold World.cell?; rw [heap_alloc_new]; rfl
  have cpb := ck hbb cpa
  have cps : (wb.alloc (.cells #[.slice (some ⟨g, 0, none⟩) n cap] 22)).cell? ⟨wb.heap.size, 0, none⟩ = some (.slice (some ⟨g, 0, none⟩) n cap) := by
    unfold World.cell?; rw [heap_alloc_new]; rfl
  have cpp := ca cpb (.cells #[.slice (some ⟨g, 0, none⟩) n cap] 22)
  have hcell : ∀ i, i < n → (wb.alloc (.cells #[.slice (some ⟨g, 0, none⟩) n cap] 22)).cell? ⟨g, i, none⟩ = some (.int .i64 (sumK xs (i + 1))) := fun i hi => ca (by
    have := hv.cellAt i (by omega)
    rw [tab_map, tab_get _ _ _ hi] at this
    exact this) _
  have hbz0 : Below w.heap.size w (wb.alloc (.cells #[.slice (some ⟨g, 0, none⟩) n cap] 22)) := bal hba _
  have S := hidp (search_c 54 #[.pointer (some ⟨wb.heap.size, 0, none⟩), .pointer (some ⟨w.heap.size, 0, none⟩)] (fun i => decide (p < sumK xs (i + 1))) (fun _ _ => by kernel_rfl) n (by omega) (wb.alloc (.cells #[.slice (some ⟨g, 0, none⟩) n cap] 22)) (fun W i hi hB => (pick1_c _ _ g n cap i p _ W (ck hB cps) (ck hB cpp) (ck hB (hcell i hi)) hi hcap1 hcap2).mono (fun e w' ⟨h1, h2⟩ => ⟨h1, bstep hB h2⟩)))
  clear hv hbb hba cpa cpb cps cpp hcell CS CW
  go_wp2_with fail
  refine S.out.mono ?_
  rintro e wz ⟨i, rfl, hH, hbz⟩
  go_wp2_with fail
  go_ret2
  obtain ⟨h1, h2, h3⟩ := hH.out
  simp only [decide_eq_false_iff_not, decide_eq_true_eq] at h2 h3
  have hA := HA.out
  have hpn := HP1.out
  have hin : i < n := by
    rcases Nat.lt_or_ge i n with h | h
    · exact h
    · exfalso
      obtain rfl : i = n := by omega
      rcases h2 with h2 | h2
      · subst h2; have := SN.out rfl; omega
      · have : i - 1 + 1 = i := by
          rcases Nat.eq_zero_or_pos i with h0 | h0
          · have := SN.out h0; omega
          · omega
        rw [this] at h2
        exact h2 hpn
  refine ⟨i, hin, rfl, ⟨?_, ?_⟩, bstep hbz0 hbz⟩
  · rcases h2 with h2 | h2
    · subst h2; exact hp0
    · rcases Nat.eq_zero_or_pos i with h0 | h0
      · subst h0; exact hp0
      · rw [show i - 1 + 1 = i by omega] at h2
        omega
  · rcases h3 with h3 | h3
    · omega
    · exact h3
end Go.Proofs.Ytmgagmnknhgkdaa
