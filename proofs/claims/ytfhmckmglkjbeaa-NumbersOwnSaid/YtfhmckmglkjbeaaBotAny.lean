/- bottom.Check exactly, Put and Join at whatever comes. -/
import Derived.Test.YtfhmckmglkjbeaaMgNumAny
import Derived.Test.YtfhmckmglkjbeaaMgBotJoin
import Derived.BigQuiet
namespace Go.Proofs.Ytfhmckmglkjbeaa
open Go.ChangeShapes Go.WideShapes Go.ChangeAt Go.RowKit
set_option maxRecDepth 20000
/-- What is wrong at a place. -/
def boF (xs : List Int) (i : Nat) : Int := if ¬ (0 ≤ gi xs i ∧ gi xs i < 72057594037927936) then 1 else if 0 < i ∧ gi xs i ≤ gi xs (i - 1) then 3 else 0
def boE (K : Int) (xs : List Int) (n : Nat) : Int := if K < 1 ∨ 40 < K then 1 else if K < (n : Int) then 2 else fE (boF xs) n
theorem rising_of (xs : List Int) (h : ∀ i, 0 < i → i < xs.length → gi xs (i - 1) < gi xs i) : Rising xs := by
  have step : ∀ d i, i + d < xs.length → 0 < d → gi xs i < gi xs (i + d) := by
    intro d
    induction d with
    | zero => intro i _ hd; omega
    | succ d ih =>
      intro i hi _
      have h1 := h (i + d + 1) (by omega) (by omega)
      rw [show i + d + 1 - 1 = i + d by omega] at h1
      rw [show i + (d + 1) = i + d + 1 by omega]
      rcases Nat.eq_zero_or_pos d with h0 | h0
      · subst h0; exact h1
      · have := ih i (by omega) h0; omega
  refine List.pairwise_iff_getElem.2 (fun i j hi hj hij => ?_)
  have e1 : gi xs i = xs[i] := by unfold gi; rw [List.getD_eq_getElem?_getD, List.getElem?_eq_getElem hi]; rfl
  have e2 : gi xs j = xs[j] := by unfold gi; rw [List.getD_eq_getElem?_getD, List.getElem?_eq_getElem hj]; rfl
  rw [← e1, ← e2]
  have := step (j - i) i (by omega) (by omega)
  rwa [show i + (j - i) = j by omega] at this
theorem boE_ok (K : Int) (xs : List Int) (n : Nat) (hl : xs.length = n) (h : boE K xs n = 0) : ∃ q : Nat, K = q ∧ BotOk q xs := by
  have e1 : ¬ (K < 1 ∨ 40 < K) := fun e => by unfold boE at h; rw [if_pos e] at h; omega
  have e2 : ¬ K < (n : Int) := fun e => by unfold boE at h; rw [if_neg e1, if_pos e] at h; omega
  unfold boE at h
  rw [if_neg e1, if_neg e2] at h
  have hz := fE_zero _ n h
  have hb : ∀ i, i < n → 0 ≤ gi xs i ∧ gi xs i < 72057594037927936 := fun i hi => by
    have := hz i hi
    unfold boF at this
    by_cases e : 0 ≤ gi xs i ∧ gi xs i < 72057594037927936
    · exact e
    · rw [if_pos e] at this; omega
  refine ⟨K.toNat, by omega, by omega, by omega, by omega, rising_of xs (fun i h0 hi => ?_), fun x hx => ?_⟩
  · have := hz i (by omega)
    unfold boF at this
    rw [if_neg (fun e => e (hb i (by omega)))] at this
    by_cases e : 0 < i ∧ gi xs i ≤ gi xs (i - 1)
    · rw [if_pos e] at this; omega
    · omega
  · obtain ⟨i, hi, rfl⟩ := List.getElem_of_mem hx
    have := hb i (by omega)
    unfold gi at this
    rwa [List.getD_eq_getElem?_getD, List.getElem?_eq_getElem hi] at this
abbrev botI (K : Int) (a : Option Addr) (n c : Nat) : Value := .agg #[.int .i64 K, .slice a n c]
set_option maxHeartbeats 4000000 in
theorem bocheck_e (K : Int) (a : Option Addr) (n c : Nat) (xs : List Int) (w : World) (h : IntsAt w a n c xs) :
    Calls Try.prog 34 #[botI K a n c] w fun e w' => e = .returned (.int .i64 (boE K xs n)) ∧ Below w.heap.size w w' := by
  have hb0 : Below w.heap.size w (w.alloc (.cells #[.int .i64 K, .slice a n c] 40)) := bal (Below.refl _ _) _
  have c0 : (w.alloc (.cells #[.int .i64 K, .slice a n c] 40)).cell? ⟨w.heap.size, 0, none⟩ = some (.int .i64 K) := by go_simp
  have c1 : (w.alloc (.cells #[.int .i64 K, .slice a n c] 40)).cell? ⟨w.heap.size, 1, none⟩ = some (.slice a n c) := by go_simp
  obtain ⟨b, o, hz, hx⟩ := (h.below hb0).split
  have hz' : Hid (n = 0) ∨ a = some ⟨b, o, none⟩ := hz.imp_left hidp
  have HX := hidp hx
  have mm := h.max
  have ee := h.le
  have HB := hidp hb0
  unfold botI
  clear hx hz h hb0
  by_cases e1 : K < 1 ∨ 40 < K
  · rw [show boE K xs n = 1 by unfold boE; rw [if_pos e1]]
    by_cases e2 : K < 1
    · clear e1
      go_enter Try.func34, Try.ntmps34
      go_wp2
      go_ret
      exact ⟨rfl, HB.out⟩
    · have e3 := e1.resolve_left e2
      clear e1
      go_enter Try.func34, Try.ntmps34
      go_wp2
      go_ret
      exact ⟨rfl, HB.out⟩
  have k1' : ¬ K < 1 := fun e => e1 (.inl e)
  have k2' : ¬ 40 < K := fun e => e1 (.inr e)
  by_cases e2 : K < (n : Int)
  · rw [show boE K xs n = 2 by unfold boE; rw [if_neg e1, if_pos e2]]
    clear e1
    go_enter Try.func34, Try.ntmps34
    go_wp2
    go_ret
    exact ⟨rfl, HB.out⟩
  have EE := hidp (show boE K xs n = fE (boF xs) n by unfold boE; rw [if_neg e1, if_neg e2])
  clear e1
  go_enter Try.func34, Try.ntmps34
  go_upto_region 1 with fail
  generalize (w.alloc (.cells #[.int .i64 K, .slice a n c] 40)) = w1 at *
  go_wp2_with fail
  go_loopw [22] (fun i wr => ∃ k : Nat, k ≤ n ∧ i = .int .i64 k ∧ Hid (fE (boF xs) k = 0) ∧ wr = w1) (fun i _ => n - (intOf i).toNat)
  case atStart => exact ⟨0, by omega, rfl, rfl, rfl⟩
  case round =>
    obtain ⟨k, hk, rfl, FE, rfl⟩ := hrel
    by_cases hlt : k < n
    · obtain rfl : a = some ⟨b, o, none⟩ := hz'.resolve_left (fun e => by have := e.out; omega)
      have q := (HX.out k hlt).2
      have NC := hidp (num_c (gi xs k))
      have NX := hidp (fun h => fE_next (boF xs) k FE.out h)
      have AT := hidp (fun h => fE_at (boF xs) k n FE.out h hlt)
      by_cases d1 : 0 ≤ gi xs k ∧ gi xs k < 72057594037927936
      · rw [decide_eq_true d1] at NC
        by_cases h0 : 0 < k
        · have q2 := (HX.out (k - 1) (by omega)).2
          have e1 : ((k : Int) - 1) = ((k - 1 : Nat) : Int) := by omega
          have h0' : (0 : Int) < (k : Int) := by omega
          by_cases d2 : gi xs k ≤ gi xs (k - 1)
          · have hv : boF xs k = 3 := by unfold boF; rw [if_neg (fun e => e d1), if_pos ⟨h0, d2⟩]
            have RV := hidp (show boE K xs n = 3 by rw [EE.out, AT.out (by rw [hv]; omega), hv])
            clear hv d1
            generalize gi xs k = X at *
            generalize gi xs (k - 1) = Y at *
            go_wp2_with fail
            refine (NC.out _).mono ?_
            rintro e w' ⟨rfl, rfl⟩
            go_wp2_with fail
            go_ret
            exact ⟨by rw [RV.out] <;> rfl, HB.out⟩
          · have hv : boF xs k = 0 := by unfold boF; rw [if_neg (fun e => e d1), if_neg (fun e => d2 e.2)]
            have RV := hidp (NX.out hv)
            clear hv d1
            generalize gi xs k = X at *
            generalize gi xs (k - 1) = Y at *
            go_wp2_with fail
            refine (NC.out _).mono ?_
            rintro e w' ⟨rfl, rfl⟩
            go_wp2_with fail
            go_roundw
            case rel => exact ⟨k + 1, by omega, by go_num, RV, trivial⟩
            case measure => simp [intOf]; omega
        · have h0' : ¬ (0 : Int) < (k : Int) := by omega
          have hv : boF xs k = 0 := by unfold boF; rw [if_neg (fun e => e d1), if_neg (fun e => h0 e.1)]
          have RV := hidp (NX.out hv)
          clear hv d1
          generalize gi xs k = X at *
          go_wp2_with fail
          refine (NC.out _).mono ?_
          rintro e w' ⟨rfl, rfl⟩
          go_wp2_with fail
          go_roundw
          case rel => exact ⟨k + 1, by omega, by go_num, RV, trivial⟩
          case measure => simp [intOf]; omega
      · rw [decide_eq_false d1] at NC
        have hv : boF xs k = 1 := by unfold boF; rw [if_pos d1]
        have RV := hidp (show boE K xs n = 1 by rw [EE.out, AT.out (by rw [hv]; omega), hv])
        clear hv d1
        generalize gi xs k = X at *
        go_wp2_with fail
        refine (NC.out _).mono ?_
        rintro e w' ⟨rfl, rfl⟩
        go_wp2_with fail
        go_ret
        exact ⟨by rw [RV.out] <;> rfl, HB.out⟩
    · obtain rfl : k = n := by omega
      go_wp2_with fail
      go_ret
      exact ⟨by rw [EE.out, FE.out] <;> rfl, HB.out⟩

/-- The result's block behind calls: still as it was laid. -/
theorem res_at {W W' : World} {P : Nat} (h0 : W.cell? ⟨P, 0, none⟩ = some (.int .i64 0)) (h1 : W.cell? ⟨P, 1, none⟩ = some (.slice none 0 0)) (z : ∀ o, W.frozen? ⟨P, o, none⟩ = false) (hB : Below W.heap.size W W') :
    W'.cell? ⟨P, 0, none⟩ = some (.int .i64 0) ∧ W'.cell? ⟨P, 1, none⟩ = some (.slice none 0 0) ∧ ∀ o, W'.frozen? ⟨P, o, none⟩ = false :=
  ⟨ck hB h0, ck hB h1, fun o => (hB.frozen (p := ⟨P, o, none⟩) (ltc h0)).trans (z o)⟩
def bpE (K : Int) (xs : List Int) (n : Nat) (x : Int) : Int := if boE K xs n = 0 then (if 0 ≤ x ∧ x < 72057594037927936 then 0 else 1) else boE K xs n
set_option maxHeartbeats 4000000 in
theorem boput_bad (K : Int) (a : Option Addr) (n c : Nat) (xs : List Int) (x : Int) (w : World) (h : IntsAt w a n c xs) (hE : bpE K xs n x ≠ 0) :
    Calls Try.prog 13 #[botI K a n c, .int .i64 x] w fun e w' => e = .returned (.tuple #[botI 0 none 0 0, .int .i64 (bpE K xs n x)]) ∧ Below w.heap.size w w' := by
  have CK := hidp (fun W (hB : Below w.heap.size w W) => bocheck_e K a n c xs W (h.below hB))
  have NC := hidp (num_c x)
  clear h
  by_cases e1 : boE K xs n = 0
  · have e2 : ¬ (0 ≤ x ∧ x < 72057594037927936) := fun e => hE (by unfold bpE; rw [if_pos e1, if_pos e])
    have RV := hidp (show bpE K xs n x = 1 by unfold bpE; rw [if_pos e1, if_neg e2])
    rw [e1] at CK
    rw [decide_eq_false e2] at NC
    clear hE e1 e2
    unfold botI at *
    go_enter Try.func13, Try.ntmps13
    go_wp2_with fail
    refine (CK.out _ (bal (bal (Below.refl _ _) _) _)).mono ?_
    rintro e wa ⟨rfl, hB⟩
    have hb2 : Below w.heap.size w wa := bstep (bal (bal (Below.refl _ _) _) _) hB
    obtain ⟨x0, x1, z⟩ := res_at (P := w.heap.size + 1) (by go_simp) (by go_simp) (fun o => by go_simp) hB
    have z0 := z 0
    have z1 := z 1
    clear CK hB z
    go_wp2_with fail
    refine (NC.out _).mono ?_
    rintro e w' ⟨rfl, rfl⟩
    go_wp2_with fail
    obtain ⟨t0, t1⟩ := res2 (.int .i64 0) (.slice none 0 0) x0 x1
    exact bodyPost_ret (v := .tuple #[.agg #[.int .i64 0, .slice none 0 0], .int .i64 1]) (by simp [results, Try.results13, go_sem, t0, t1]) rfl ⟨by rw [RV.out] <;> rfl, below_set2 hb2 _ (Nat.le_succ _) _ _⟩
  · have RV := hidp (show bpE K xs n x = boE K xs n by unfold bpE; rw [if_neg e1])
    have hne : (boE K xs n != 0) = true := by rw [bne_iff_ne]; exact e1
    clear hE e1 NC
    generalize boE K xs n = E at *
    unfold botI at *
    go_enter Try.func13, Try.ntmps13
    go_wp2_with fail
    refine (CK.out _ (bal (bal (Below.refl _ _) _) _)).mono ?_
    rintro e wa ⟨rfl, hB⟩
    have hb2 : Below w.heap.size w wa := bstep (bal (bal (Below.refl _ _) _) _) hB
    obtain ⟨x0, x1, z⟩ := res_at (P := w.heap.size + 1) (by go_simp) (by go_simp) (fun o => by go_simp) hB
    have z0 := z 0
    have z1 := z 1
    clear CK hB z
    go_wp2_with fail
    obtain ⟨t0, t1⟩ := res2 (.int .i64 0) (.slice none 0 0) x0 x1
    exact bodyPost_ret (v := .tuple #[.agg #[.int .i64 0, .slice none 0 0], .int .i64 E]) (by simp [results, Try.results13, go_sem, t0, t1]) rfl ⟨by rw [RV.out] <;> rfl, below_set2 hb2 _ (Nat.le_succ _) _ _⟩
theorem boput_any (K : Int) (a : Option Addr) (n c : Nat) (xs : List Int) (x : Int) (w : World) (h : IntsAt w a n c xs) :
    Calls Try.prog 13 #[botI K a n c, .int .i64 x] w fun e w' => ∃ k v r, e = .returned (.tuple #[.agg #[.int .i64 k, v], .int .i64 r]) ∧ Fr w.heap.size w' v ∧ Below w.heap.size w w' := by
  by_cases hE : bpE K xs n x = 0
  · have e1 : boE K xs n = 0 := by
      by_cases e : boE K xs n = 0
      · exact e
      · unfold bpE at hE; rw [if_neg e] at hE; exact absurd hE e
    have e2 : 0 ≤ x ∧ x < 72057594037927936 := by
      by_cases e : 0 ≤ x ∧ x < 72057594037927936
      · exact e
      · unfold bpE at hE; rw [if_pos e1, if_neg e] at hE; omega
    obtain ⟨q, rfl, hok⟩ := boE_ok K xs n h.len e1
    refine (boput_c q a n c xs x w h hok e2).mono ?_
    rintro e w' ⟨g, n', c', rfl, hO, hB⟩
    have hp := hok.put x e2
    have hl := hO.1
    exact ⟨_, _, _, rfl, Fr.mk hO (by have := hp.ln; have := hp.k2; rw [List.length_map] at hl; omega) (fun y hy => by have := hp.bd y hy; omega), hB⟩
  · refine (boput_bad K a n c xs x w h hE).mono ?_
    rintro e w' ⟨rfl, hB⟩
    exact ⟨_, _, _, rfl, Fr.nil _ _, hB⟩
def bjE (K K2 : Int) (xs ys : List Int) (n m : Nat) : Int := if boE K xs n = 0 then (if boE K2 ys m = 0 then (if K = K2 then 0 else 7) else boE K2 ys m) else boE K xs n
set_option maxHeartbeats 4000000 in
theorem botjoin_bad (K K2 : Int) (a a2 : Option Addr) (n c m c2 : Nat) (xs ys : List Int) (w : World) (h : IntsAt w a n c xs) (h2 : IntsAt w a2 m c2 ys) (hE : bjE K K2 xs ys n m ≠ 0) :
    Calls Try.prog 14 #[botI K a n c, botI K2 a2 m c2] w fun e w' => e = .returned (.tuple #[botI 0 none 0 0, .int .i64 (bjE K K2 xs ys n m)]) ∧ Below w.heap.size w w' := by
  have C1 := hidp (fun W (hB : Below w.heap.size w W) => bocheck_e K a n c xs W (h.below hB))
  have C2 := hidp (fun W (hB : Below w.heap.size w W) => bocheck_e K2 a2 m c2 ys W (h2.below hB))
  clear h h2
  by_cases e1 : boE K xs n = 0
  · rw [e1] at C1
    by_cases e2 : boE K2 ys m = 0
    · rw [e2] at C2
      have e3 : ¬ K = K2 := fun e => hE (by unfold bjE; rw [if_pos e1, if_pos e2, if_pos e])
      have RV := hidp (show bjE K K2 xs ys n m = 7 by unfold bjE; rw [if_pos e1, if_pos e2, if_neg e3])
      have hne : (K != K2) = true := by rw [bne_iff_ne]; exact e3
      clear hE e1 e2 e3
      unfold botI at *
      go_enter Try.func14, Try.ntmps14
      go_wp2_with fail
      refine (C1.out _ (bal (bal (bal (Below.refl _ _) _) _) _)).mono ?_
      rintro e wa ⟨rfl, hB⟩
      have hb2 : Below w.heap.size w wa := bstep (bal (bal (bal (Below.refl _ _) _) _) _) hB
      obtain ⟨x0, x1, z⟩ := res_at (P := w.heap.size + 1 + 1) (by go_simp) (by go_simp) (fun o => by go_simp) hB
      have k0 : wa.cell? ⟨w.heap.size, 0, none⟩ = some (.int .i64 K) := ck hB (by go_simp)
      have k1 : wa.cell? ⟨w.heap.size + 1, 0, none⟩ = some (.int .i64 K2) := ck hB (by go_simp)
      have k2 : wa.cell? ⟨w.heap.size + 1, 1, none⟩ = some (.slice a2 m c2) := ck hB (by go_simp)
      clear C1 hB
      go_wp2_with fail
      refine (C2.out _ hb2).mono ?_
      rintro e wb ⟨rfl, hB⟩
      have hb3 : Below w.heap.size w wb := bstep hb2 hB
      obtain ⟨x0, x1, z⟩ := res_at (P := w.heap.size + 1 + 1) x0 x1 z hB
      have k0 := ck hB k0
      have k1 := ck hB k1
      have z0 := z 0
      have z1 := z 1
      clear C2 hB z hb2
      go_wp2_with fail
      obtain ⟨t0, t1⟩ := res2 (.int .i64 0) (.slice none 0 0) x0 x1
      exact bodyPost_ret (v := .tuple #[.agg #[.int .i64 0, .slice none 0 0], .int .i64 7]) (by simp [results, Try.results14, go_sem, t0, t1]) rfl ⟨by rw [RV.out] <;> rfl, below_set2 hb3 _ (by omega) _ _⟩
    · have RV := hidp (show bjE K K2 xs ys n m = boE K2 ys m by unfold bjE; rw [if_pos e1, if_neg e2])
      have hne : (boE K2 ys m != 0) = true := by rw [bne_iff_ne]; exact e2
      clear hE e1 e2
      generalize boE K2 ys m = E at *
      unfold botI at *
      go_enter Try.func14, Try.ntmps14
      go_wp2_with fail
      refine (C1.out _ (bal (bal (bal (Below.refl _ _) _) _) _)).mono ?_
      rintro e wa ⟨rfl, hB⟩
      have hb2 : Below w.heap.size w wa := bstep (bal (bal (bal (Below.refl _ _) _) _) _) hB
      obtain ⟨x0, x1, z⟩ := res_at (P := w.heap.size + 1 + 1) (by go_simp) (by go_simp) (fun o => by go_simp) hB
      have k1 : wa.cell? ⟨w.heap.size + 1, 0, none⟩ = some (.int .i64 K2) := ck hB (by go_simp)
      have k2 : wa.cell? ⟨w.heap.size + 1, 1, none⟩ = some (.slice a2 m c2) := ck hB (by go_simp)
      clear C1 hB
      go_wp2_with fail
      refine (C2.out _ hb2).mono ?_
      rintro e wb ⟨rfl, hB⟩
      have hb3 : Below w.heap.size w wb := bstep hb2 hB
      obtain ⟨x0, x1, z⟩ := res_at (P := w.heap.size + 1 + 1) x0 x1 z hB
      have z0 := z 0
      have z1 := z 1
      clear C2 hB z hb2
      go_wp2_with fail
      obtain ⟨t0, t1⟩ := res2 (.int .i64 0) (.slice none 0 0) x0 x1
      exact bodyPost_ret (v := .tuple #[.agg #[.int .i64 0, .slice none 0 0], .int .i64 E]) (by simp [results, Try.results14, go_sem, t0, t1]) rfl ⟨by rw [RV.out] <;> rfl, below_set2 hb3 _ (by omega) _ _⟩
  · have RV := hidp (show bjE K K2 xs ys n m = boE K xs n by unfold bjE; rw [if_neg e1])
    have hne : (boE K xs n != 0) = true := by rw [bne_iff_ne]; exact e1
    clear hE e1 C2
    generalize boE K xs n = E at *
    unfold botI at *
    go_enter Try.func14, Try.ntmps14
    go_wp2_with fail
    refine (C1.out _ (bal (bal (bal (Below.refl _ _) _) _) _)).mono ?_
    rintro e wa ⟨rfl, hB⟩
    have hb2 : Below w.heap.size w wa := bstep (bal (bal (bal (Below.refl _ _) _) _) _) hB
    obtain ⟨x0, x1, z⟩ := res_at (P := w.heap.size + 1 + 1) (by go_simp) (by go_simp) (fun o => by go_simp) hB
    have z0 := z 0
    have z1 := z 1
    clear C1 hB z
    go_wp2_with fail
    obtain ⟨t0, t1⟩ := res2 (.int .i64 0) (.slice none 0 0) x0 x1
    exact bodyPost_ret (v := .tuple #[.agg #[.int .i64 0, .slice none 0 0], .int .i64 E]) (by simp [results, Try.results14, go_sem, t0, t1]) rfl ⟨by rw [RV.out] <;> rfl, below_set2 hb2 _ (by omega) _ _⟩
theorem botjoin_any (K K2 : Int) (a a2 : Option Addr) (n c m c2 : Nat) (xs ys : List Int) (w : World) (h : IntsAt w a n c xs) (h2 : IntsAt w a2 m c2 ys) :
    Calls Try.prog 14 #[botI K a n c, botI K2 a2 m c2] w fun e w' => ∃ k v r, e = .returned (.tuple #[.agg #[.int .i64 k, v], .int .i64 r]) ∧ Fr w.heap.size w' v ∧ Below w.heap.size w w' := by
  by_cases hE : bjE K K2 xs ys n m = 0
  · have e1 : boE K xs n = 0 := by
      by_cases e : boE K xs n = 0
      · exact e
      · unfold bjE at hE; rw [if_neg e] at hE; exact absurd hE e
    have e2 : boE K2 ys m = 0 := by
      by_cases e : boE K2 ys m = 0
      · exact e
      · unfold bjE at hE; rw [if_pos e1, if_neg e] at hE; exact absurd hE e
    have e3 : K = K2 := by
      by_cases e : K = K2
      · exact e
      · unfold bjE at hE; rw [if_pos e1, if_pos e2, if_neg e] at hE; omega
    subst e3
    obtain ⟨q, rfl, hok⟩ := boE_ok K xs n h.len e1
    obtain ⟨q2, hq, hok2⟩ := boE_ok q ys m h2.len e2
    obtain rfl : q = q2 := by omega
    refine (botjoin_c q a n c xs a2 m c2 ys w h h2 hok hok2).mono ?_
    rintro e w' ⟨g, n', c', rfl, hO, hB⟩
    have hp := hok.puts ys xs (fun y hy => hok2.bd y hy)
    have hl := hO.1
    exact ⟨_, _, _, rfl, Fr.mk hO (by have := hp.ln; have := hp.k2; rw [List.length_map] at hl; omega) (fun y hy => by have := hp.bd y hy; omega), hB⟩
  · refine (botjoin_bad K K2 a a2 n c m c2 xs ys w h h2 hE).mono ?_
    rintro e w' ⟨rfl, hB⟩
    exact ⟨_, _, _, rfl, Fr.nil _ _, hB⟩
end Go.Proofs.Ytfhmckmglkjbeaa
