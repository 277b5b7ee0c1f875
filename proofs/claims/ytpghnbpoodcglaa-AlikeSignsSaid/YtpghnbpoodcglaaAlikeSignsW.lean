/- The walk of AlikeSigns: the law returns true at all inputs, and no old memory changes. -/
import Derived.Test.YtpghnbpoodcglaaSigns
import Derived.Test.YtpghnbpoodcglaaCFunc
import Derived.Test.YtpghnbpoodcglaaShelf
import Derived.Lib.MinMax
import Derived.Deep.DeepCutAuto
namespace Go.Proofs.Ytpghnbpoodcglaa.alikeSigns
open Go.ChangeShapes Go.WideShapes Go.ChangeAt Go.RowKit
open Go.Proofs.Ytpghnbpoodcglaa
set_option maxRecDepth 20000
theorem contains_c (a : Option Addr) (n c : Nat) (xs : List Int) (x : Int) (w : World) (h : IntsAt w a n c xs) (hn : 1 ≤ n) :
    Calls Try.prog 45 #[.slice a n c, .int .i64 x] w fun e w' => e = .returned (.bool (xs.contains x)) ∧ w = w' := by
  obtain ⟨b, o, rfl, _, hc⟩ := h.addr hn
  have hl := h.len
  have mm := h.max
  have ee := h.le
  refine (Try.slices_Contains_int b o n c xs x w (by omega) (by omega) (fun j hj => hc j (by omega))).mono ?_
  rintro e w' ⟨rfl, rfl⟩
  exact ⟨by rw [List.take_of_length_le (by omega)], rfl⟩
theorem thL_bd (xs : List Int) (m n : Nat) : ∀ t ∈ thL xs m n, 0 ≤ t ∧ t < (n : Int) := fun t ht => by
  have := (thR_mem (tset xs n m) t n).1 ht
  omega
theorem owns_below {w w' : World} {base : Nat} {e : TypeId} {size : Nat} {v : Value} {n : Nat} {xs : List Value} (h : w.ownsRow base e size v n xs) (hb : Below w.heap.size w w') : w'.ownsRow base e size v n xs := by
  rcases h.2 with ⟨rfl, h0⟩ | ⟨g, cap, cur, rfl, hg, hh, r⟩
  · exact ⟨h.1, .inl ⟨rfl, h0⟩⟩
  · exact ⟨h.1, .inr ⟨g, cap, cur, rfl, hg, (hb.block g (Array.getElem?_eq_some_iff.1 hh).1).trans hh, r⟩⟩
theorem one_slice (a : Option Addr) (n c : Nat) : ∀ u ∈ [Value.slice a n c], u.oneCell' = true := by
  intro u hu; simp at hu; subst hu; rfl
theorem info_ints : (Try.prog.info? 22).map (fun i => (i.zero, i.size, i.bytes)) = some (some (.slice none 0 0), 1, 24) := by kernel_rfl
def ext1 (f : Nat → Nat) (k x : Nat) (i : Nat) : Nat := if i = k then x else f i
theorem ext1_at (f : Nat → Nat) (k x : Nat) : ext1 f k x k = x := if_pos rfl
theorem ext1_lt (f : Nat → Nat) (k x i : Nat) (h : i < k) : ext1 f k x i = f i := if_neg (by omega)
/-- The orders that were collected. -/
structure AllS (W : World) (B k n : Nat) (v : Value) (A C : Nat → Nat) (O : Nat → List Int) : Prop where
  hdr : W.ownsRow B 22 1 v k (tab (fun i => Value.slice (some ⟨A i, 0, none⟩) n (C i)) k)
  row : ∀ i, i < k → W.ownsRow B 3 1 (.slice (some ⟨A i, 0, none⟩) n (C i)) n ((O i).map (Value.int .i64))
  ne : ∀ i, i < k → v.ownBlock ≠ some (A i)
theorem AllS.step {W W2 W3 : World} {B k n : Nat} {v v' : Value} {A C : Nat → Nat} {O : Nat → List Int} (h : AllS W B k n v A C O) (hB : B ≤ W.heap.size) {g c : Nat}
    (hb : Below W.heap.size W W2) (hr : W2.ownsRow W.heap.size 3 1 (.slice (some ⟨g, 0, none⟩) n c) n ((O k).map (Value.int .i64)))
    (hn : W3.ownsRow B 22 1 v' (k + 1) (tab (fun i => Value.slice (some ⟨A i, 0, none⟩) n (C i)) k ++ [.slice (some ⟨g, 0, none⟩) n c]))
    (hg : W2.grownBy W3 v.ownBlock) (hd : v'.ownBlock = v.ownBlock ∨ ∃ q, v'.ownBlock = some q ∧ W2.heap.size ≤ q) : AllS W3 B (k + 1) n v' (ext1 A k g) (ext1 C k c) O := by
  have hvl := h.hdr.lt
  have hgl := hr.lt g rfl
  have s2 := hb.size
  have hne12 : v.ownBlock ≠ some g := fun e => by have := (hvl g e).2; omega
  refine ⟨?_, fun i hi => ?_, fun i hi e => ?_⟩
  · rw [tab_snoc, ext1_at, ext1_at, tab_congr (fun i => Value.slice (some ⟨ext1 A k g i, 0, none⟩) n (ext1 C k c i)) (fun i => Value.slice (some ⟨A i, 0, none⟩) n (C i)) k (fun i hi => by rw [ext1_lt _ _ _ _ hi, ext1_lt _ _ _ _ hi])]
    exact hn
  · by_cases e : i = k
    · subst e
      rw [ext1_at, ext1_at]
      exact owns_heap (owns_mono hr hB) (hg.block _ hgl.2 (fun e => hne12 e.symm))
    · rw [ext1_lt _ _ _ _ (by omega), ext1_lt _ _ _ _ (by omega)]
      have hl := (h.row i (by omega)).lt (A i) rfl
      refine owns_heap (h.row i (by omega)) ?_
      rw [hg.block _ (by omega) (fun e => h.ne i (by omega) e.symm)]
      exact hb.block _ hl.2
  · rcases hd with hd | ⟨q, hd, hq⟩
    · by_cases e2 : i = k
      · subst e2; rw [ext1_at, hd] at e; exact hne12 e
      · rw [ext1_lt _ _ _ _ (by omega), hd] at e; exact h.ne i (by omega) e
    · rw [hd] at e
      have e3 := Option.some.inj e
      by_cases e2 : i = k
      · subst e2; rw [ext1_at] at e3; omega
      · rw [ext1_lt _ _ _ _ (by omega)] at e3
        have := (h.row i (by omega)).lt (A i) rfl
        omega
theorem AllS.ords {W : World} {B k n : Nat} {v : Value} {A C : Nat → Nat} {O : Nat → List Int} (h : AllS W B k n v A C O) (hO : ∀ i, i < k → ∀ x ∈ O i, -9223372036854775808 ≤ x ∧ x ≤ 9223372036854775807) : ∃ a cap, v = .slice a k cap ∧ OrdsAt W a k cap n O := by
  obtain ⟨a, cap, rfl, h1, h2, h3⟩ := owns_cells h.hdr
  refine ⟨a, cap, rfl, h1, h2, fun hk => ?_⟩
  obtain ⟨b, off, ha, hb, hc⟩ := h3 (fun e => by have := tab_len (fun i => Value.slice (some ⟨A i, 0, none⟩) n (C i)) k; rw [e] at this; simp at this; omega)
  refine ⟨b, off, ha, hb, fun i hi => ?_⟩
  obtain ⟨ai, ci, he, hI⟩ := owns_ints (h.row i hi) (hO i hi)
  exact ⟨ai, ci, by rw [hc i _ (tab_get _ _ _ hi), he], hI⟩
theorem first_in {xs ys : List Int} {L : Nat} {B : Int} (h : IsFirst xs ys L B) (hl : ys.length = L) : B ∈ ys := by
  obtain ⟨⟨p, hp, rfl⟩, _⟩ := h
  exact gi_mem ys p (by omega)
theorem mem_at {xs : List Int} {x : Int} (h : x ∈ xs) : ∃ j, j < xs.length ∧ gi xs j = x := by
  obtain ⟨j, hj, rfl⟩ := List.getElem_of_mem h
  exact ⟨j, hj, set_ok_at xs j hj⟩
theorem clos_c (PB : Nat) (b : Option Addr) (n c : Nat) (xs : List Int) (x : Int) (W : World) (hc : W.cell? ⟨PB, 0, none⟩ = some (.slice b n c)) (hI : IntsAt W b n c xs) (hn : 1 ≤ n) :
    Calls Try.prog 49 #[.int .i64 x, .pointer (some ⟨PB, 0, none⟩)] W fun e w' => e = .returned (.bool (xs.contains x)) ∧ Below W.heap.size W w' := by
  have K := hidp (fun W h => contains_c b n c xs x W h hn)
  have HI := hidp hI
  clear hI
  go_enter Try.func49, Try.ntmps49
  go_wp2_with fail
  refine (K.out _ HI.out).mono ?_
  rintro e w' ⟨rfl, rfl⟩
  go_wp2_with fail
  go_ret
  exact ⟨ret_bool (by simp), Below.refl _ _⟩
/-- The plain law: sets that have nothing in common have nothing alike. -/
theorem apart_zero {A B X Y : List Int} {k : Nat} {O : Nat → List Int} (hX : ∀ i, i < k → IsFirst (O i) A A.length (gi X i)) (hY : ∀ i, i < k → IsFirst (O i) B B.length (gi Y i)) (h : hasF (fun t => B.contains t) A A.length = false) : cntE X Y k = 0 := by
  refine cntE_zero X Y k (fun i hi e => ?_)
  have h1 := first_in (hX i hi) rfl
  have h2 := first_in (hY i hi) rfl
  rw [← e] at h2
  obtain ⟨j, hj, he⟩ := mem_at h1
  have := hasF_true (fun t => B.contains t) A A.length ⟨j, hj, by rw [he]; exact List.contains_iff_mem.2 h2⟩
  rw [h] at this
  cases this

set_option linter.unusedVariables false
set_option maxHeartbeats 16000000 in
theorem walk (a0 : Option Addr) (len0 cap0 : Nat) (z0 : List Int) (a1 : Option Addr) (len1 cap1 : Nat) (z1 : List Int) (a2 : Option Addr) (len2 cap2 : Nat) (z2 : List Int) (a3 : Int) (w : World)
    (w0 : IntsAt w a0 len0 cap0 z0) (w1 : IntsAt w a1 len1 cap1 z1) (w2 : IntsAt w a2 len2 cap2 z2) (w3 : (Lit.int .i64 a3).wf = true) :
    Calls Try.prog 14 #[.slice a0 len0 cap0, .slice a1 len1 cap1, .slice a2 len2 cap2, .int .i64 a3] w fun e w' => e = .returned (.bool true) ∧ Below w.heap.size w w' := by
  obtain ⟨m, hm⟩ : ∃ m, m = wn a3 12 := ⟨_, rfl⟩
  have hm1 := wn_lt a3 12 (by omega)
  have cm := withinN_c a3 12 (by omega) (by omega)
  rw [← hm] at hm1 cm
  have CM := hidp cm
  obtain ⟨n, hn⟩ : ∃ n, n = m + 1 := ⟨_, rfl⟩
  have hnE : (1 : Int) + (m : Int) = (n : Int) := by omega
  have hn12 : n ≤ 12 := by omega
  have hn1 : 1 ≤ n := by omega
  have hf := fct_tab n (by omega)
  have CF := hidp (fun W => rfact_n n hn12 W)
  have CO := hidp (fun i (hi : i < fct n) W => order_c n i n i rfl rfl hn12 hi W)
  have POK := hidp (fun i (hi : i < fct n) => ord_ok n i hn12 hi)
  have OLN := hidp (fun i => ordL_len n i (idn n))
  have CI := hidp (fun x W => withinN_c x (fct n) (by omega) (by omega) W)
  have IL := hidp (fun x => show wn x (fct n) < fct n by have := wn_lt x (fct n) (by omega); omega)
  generalize fct n = F at *
  obtain ⟨O, hO⟩ : ∃ O : Nat → List Int, ∀ i, O i = ordL n (wn (gi z0 i) F) (idn n) := ⟨_, fun _ => rfl⟩
  have CO2 := hidp (fun i W => show Calls Try.prog 42 #[.int .i64 (n : Nat), .int .i64 (wn (gi z0 i) F : Nat)] W fun e w' => ∃ v, e = .returned (.tuple #[v, .int .i64 0]) ∧ w'.ownsRow W.heap.size 3 1 v n ((O i).map (Value.int .i64)) ∧ Below W.heap.size W w' by
    rw [hO i]
    exact CO.out _ (IL.out _) W)
  have OOK := hidp (fun i => show PermOk (O i) n by rw [hO i]; exact POK.out _ (IL.out _))
  have OLEN := hidp (fun i => show (O i).length = n by rw [hO i]; exact OLN.out _)
  have CI2 := hidp (fun i W => CI.out (gi z0 i) W)
  clear hO POK OLN CO IL CI
  have OB := hidp (fun i x (hx : x ∈ O i) => show -9223372036854775808 ≤ x ∧ x ≤ 9223372036854775807 by
    obtain ⟨j, hj, he⟩ := mem_at hx
    have hl := OLEN.out i
    have := (OOK.out i).2 j (by omega)
    omega)
  have CA := hidp (fun W h => things_c a1 len1 cap1 z1 n W h hn1 (by omega))
  have CB := hidp (fun W h => things_c a2 len2 cap2 z2 n W h hn1 (by omega))
  have SA := hidp (thL_ok z1 len1 n)
  have SB := hidp (thL_ok z2 len2 n)
  have BA := hidp (thL_bd z1 len1 n)
  have BB := hidp (thL_bd z2 len2 n)
  generalize thL z1 len1 n = A at *
  generalize thL z2 len2 n = B at *
  have W1 := hidp w1
  have W2 := hidp w2
  obtain ⟨b, o, hz, hx⟩ := w0.split
  have hz' : Hid (len0 = 0) ∨ a0 = some ⟨b, o, none⟩ := hz.imp_left hidp
  have HX := hidp hx
  have mm := w0.max
  have ee := w0.le
  obtain ⟨N, hN⟩ : ∃ N : Nat, N = min len0 20 := ⟨_, rfl⟩
  have hN1 : N ≤ 20 := by omega
  have hN2 : N ≤ len0 := by omega
  have hmin : min (len0 : Int) 20 = (N : Int) := by omega
  obtain ⟨LA, hLA⟩ : ∃ LA, LA = A.length := ⟨_, rfl⟩
  obtain ⟨LB, hLB⟩ : ∃ LB, LB = B.length := ⟨_, rfl⟩
  rw [← hLA] at CA SA
  rw [← hLB] at CB SB
  have HLA := hidp hLA
  have HLB := hidp hLB
  have lA := SA.out.1
  have lB := SB.out.1
  obtain ⟨hf1, hf2⟩ := hf
  clear hm hm1 cm hn w0 w1 w2 w3 hLA hLB hx hz hN
  go_enter Try.func14, Try.ntmps14
  go_wp2_with fail
  refine (same_c _ _ 3 _ _ [1, 2, 3] [1, 5, 3] _ ?s0 ?s1 (by omega)).mono ?_
  case s0 => exact (ints_lit [1, 2, 3] (by simp) (by rfl) (by rfl) (by simp) (by omega)).alloc _
  case s1 => exact ints_lit [1, 5, 3] (by simp) (by rfl) (by rfl) (by simp) (by omega)
  rintro e wa ⟨rfl, hba⟩
  rw [show cntE [1, 2, 3] [1, 5, 3] 3 = 2 from by decide]
  have hwa : Below w.heap.size w wa := bstep (bal (bal (Below.refl _ _) _) _) hba
  clear hba
  go_wp2_with fail
  refine (CM.out _).mono ?_; rintro e w' ⟨rfl, rfl⟩
  go_wp2_with fail
  have HWA := hidp hwa
  clear hwa CM
  go_loopw [11, 50] (fun v i wr => ∃ (k : Nat) (P C : Nat → Nat), k ≤ N ∧ i = .int .i64 k ∧ Hid (AllS wr wa.heap.size k n v P C O) ∧ Below wa.heap.size wa wr) (fun _ i _ => N - (intOf i).toNat)
  case atStart => exact ⟨0, fun _ => 0, fun _ => 0, by omega, rfl, hidp ⟨World.ownsRow_nil _ _ _ _, fun i hi => by omega, fun i hi => by omega⟩, Below.refl _ _⟩
  case round =>
    obtain ⟨k, P, C, hk, rfl, AS, hbl⟩ := hrel
    by_cases hlt : k < N
    · obtain rfl : a0 = some ⟨b, o, none⟩ := hz'.resolve_left (fun e => by have := e.out; omega)
      have q := carry_cell (HX.out k (by omega)) (bstep HWA.out hbl)
      have K1 := hidp (CI2.out k)
      have K2 := hidp (CO2.out k)
      have hBs := hbl.size
      have hdr := hidp AS.out.hdr
      generalize gi z0 k = x at *
      generalize wn x F = ix at *
      go_wp2_with fail
      refine (CF.out _).mono ?_; rintro e w' ⟨rfl, rfl⟩
      go_wp2_with fail
      refine (K1.out _).mono ?_; rintro e w' ⟨rfl, rfl⟩
      go_wp2_with fail
      refine (K2.out _).mono ?_
      rintro e w2 ⟨v2, rfl, hv2, hb2⟩
      obtain ⟨g2, c2, rfl, hg1, hg2, hg3, hg4⟩ := owns_addr hv2 hn1
      have hd2 := owns_below hdr.out hb2
      have hbs := bstep hbl hb2
      have hgs := hbs.size
      clear q
      go_wp2_with (at_builtin; refine wpList_append_new rfl (.tmp 65) (.tmp 67) 42 rfl wa.heap.size 22 _ 1 24 info_ints rfl (by decide) Try.underlying42 u11 k _ rfl hd2 rfl (one_slice _ _ _) rfl rfl (by omega) (by decide) hgs ?_; intro v3 w3 nv g3 d3)
      have AS3 := hidp (AS.out.step hBs hb2 hv2 nv g3 d3)
      have bl3 := append_step hd2 hbs (Nat.le_refl _) g3
      go_roundw
      case measure => simp [intOf]; omega
      case rel => exact ⟨k + 1, _, _, by omega, by go_num, AS3, bl3⟩
    · obtain rfl : k = N := by omega
      have hwb := hidp (bstep HWA.out hbl)
      obtain ⟨av, cv, rfl, hOr⟩ := AS.out.ords (fun i _ => OB.out i)
      have HO := hidp hOr
      have mv := hOr.max
      have ev := hOr.le
      clear AS hbl HWA hOr CO2 CI2 CF HX hz' OB
      go_wp2_with fail
      refine (CA.out _ (W1.out.below hwb.out)).mono ?_
      rintro e wc ⟨v, rfl, hv, hbc⟩
      obtain ⟨aa, ca, rfl, haa⟩ := owns_ints hv (fun x hx => by have := BA.out x hx; omega)
      have HA := hidp haa
      have hwc := bstep hwb.out hbc
      replace HO := hidp (HO.out.below hbc)
      clear hv hbc haa hwb
      go_wp2_with fail
      refine (CB.out _ (W2.out.below hwc)).mono ?_
      rintro e wd ⟨v, rfl, hv, hbd⟩
      obtain ⟨ab, cb, rfl, hab⟩ := owns_ints hv (fun x hx => by have := BB.out x hx; omega)
      have hx : Below wc.heap.size wc (wd.alloc (.cells #[.slice ab LB cb] 22)) := bal hbd _
      have x0 : (wd.alloc (.cells #[.slice ab LB cb] 22)).cell? ⟨wd.heap.size, 0, none⟩ = some (.slice ab LB cb) := by go_simp
      have HB := hidp (hab.alloc (.cells #[.slice ab LB cb] 22))
      replace HA := hidp (HA.out.below hx)
      replace HO := hidp (HO.out.below hx)
      have hwd := bstep hwc hx
      clear hv hbd hab hwc hx CA CB W1 W2
      go_upto_region 15 with fail
      generalize (wd.alloc (.cells #[.slice ab LB cb] 22)) = we at *
      generalize wd.heap.size = PB at *
      by_cases hzA : LA = 0
      · have e1 : ((LA : Int) == 0) = true := by rw [hzA]; rfl
        clear hzA
        go_wp2_with fail
        go_ret
        exact ⟨rfl, hwd⟩
      have e1 : ((LA : Int) == 0) = false := by rw [beq_eq_false_iff_ne]; omega
      by_cases hzB : LB = 0
      · have e2 : ((LB : Int) == 0) = true := by rw [hzB]; rfl
        clear hzA hzB
        go_wp2_with fail
        go_ret
        exact ⟨rfl, hwd⟩
      have e2 : ((LB : Int) == 0) = false := by rw [beq_eq_false_iff_ne]; omega
      have lA1 : 1 ≤ LA := by omega
      have lB1 : 1 ≤ LB := by omega
      clear hzA hzB
      go_wp2_with fail
      refine (sign_c av k cv n O aa LA ca A _ HO.out HA.out (by omega) (fun i _ => OOK.out i) SA.out lA1 hn12).mono ?_
      rintro e wf ⟨v, X, rfl, hXl, hXF, hv, hbf⟩
      obtain ⟨ax, cx, rfl, hax⟩ := owns_ints hv (fun x hx => by
        obtain ⟨j, hj, he⟩ := mem_at hx
        have := BA.out _ (first_in (hXF.out j (by omega)) HLA.out.symm)
        omega)
      replace x0 := ck hbf x0
      replace HA := hidp (HA.out.below hbf)
      replace HB := hidp (HB.out.below hbf)
      replace HO := hidp (HO.out.below hbf)
      have HX := hidp hax
      have hwf := bstep hwd hbf
      clear hv hbf hax hwd
      go_wp2_with fail
      refine (sign_c av k cv n O ab LB cb B _ HO.out HB.out (by omega) (fun i _ => OOK.out i) SB.out lB1 hn12).mono ?_
      rintro e wg ⟨v, Y, rfl, hYl, hYF, hv, hbg⟩
      obtain ⟨ay, cy, rfl, hay⟩ := owns_ints hv (fun x hx => by
        obtain ⟨j, hj, he⟩ := mem_at hx
        have := BB.out _ (first_in (hYF.out j (by omega)) HLB.out.symm)
        omega)
      replace x0 := ck hbg x0
      replace HA := hidp (HA.out.below hbg)
      replace HB := hidp (HB.out.below hbg)
      replace HX := hidp (HX.out.below hbg)
      have HY := hidp hay
      have hwg := bstep hwf hbg
      clear hv hbg hay hwf HO
      go_wp2_with fail
      refine (same_c _ _ k _ _ X X _ HX.out HX.out (by omega)).mono ?_
      rintro e wh ⟨rfl, hbh⟩
      rw [cntE_self]
      replace x0 := ck hbh x0
      replace HA := hidp (HA.out.below hbh)
      replace HB := hidp (HB.out.below hbh)
      replace HX := hidp (HX.out.below hbh)
      replace HY := hidp (HY.out.below hbh)
      have hwh := bstep hwg hbh
      clear hbh hwg
      go_wp2_with fail
      refine (same_c _ _ k _ _ X Y _ HX.out HY.out (by omega)).mono ?_
      rintro e wi ⟨rfl, hbi⟩
      replace x0 := ck hbi x0
      replace HA := hidp (HA.out.below hbi)
      replace HB := hidp (HB.out.below hbi)
      replace HX := hidp (HX.out.below hbi)
      replace HY := hidp (HY.out.below hbi)
      have hwi := bstep hwh hbi
      clear hbi hwh
      go_wp2_with fail
      refine (same_c _ _ k _ _ Y X _ HY.out HX.out (by omega)).mono ?_
      rintro e wj ⟨rfl, hbj⟩
      rw [cntE_comm]
      replace x0 := ck hbj x0
      replace HA := hidp (HA.out.below hbj)
      replace HB := hidp (HB.out.below hbj)
      have hwj := bstep hwi hbj
      have AZ := hidp (show hasF (fun t => B.contains t) A LA = false → cntE X Y k = 0 from fun h => apart_zero (A := A) (B := B) (O := O) (fun i hi => by have := hXF.out i hi; rw [HLA.out] at this; exact this) (fun i hi => by have := hYF.out i hi; rw [HLB.out] at this; exact this) (by rw [← HLA.out]; exact h))
      have CLE := cntE_le X Y k
      generalize cntE X Y k = both at *
      clear hbj hwi HX HY hXF hYF
      have CF := hidp (cfunc_c 49 #[.pointer (some ⟨PB, 0, none⟩)] (fun t => B.contains t) (fun _ _ => by kernel_rfl) aa LA ca A wj HA.out (fun W i hi hB => (clos_c PB ab LB cb B (gi A i) W (ck hB x0) (HB.out.below hB) lB1).mono (fun e w' h => ⟨h.1, hB.trans (h.2.mono hB.size)⟩)))
      go_wp2_with fail
      refine CF.out.mono ?_
      rintro e wk ⟨rfl, hbk⟩
      have hwk := bstep hwj hbk
      clear CF hbk hwj x0 HA HB
      cases hap : hasF (fun t => B.contains t) A LA with
      | true =>
        have bb : ((both : Int) == (both : Int)) = true := by simp
        have kk : ((k : Int) == (k : Int)) = true := by simp
        clear AZ hap
        go_wp2_with fail
        go_ret
        exact ⟨rfl, hwk⟩
      | false =>
        have b0 := AZ.out hap
        clear AZ hap CLE
        subst b0
        have kk : ((k : Int) == (k : Int)) = true := by simp
        go_wp2_with fail
        go_ret
        exact ⟨rfl, hwk⟩
end Go.Proofs.Ytpghnbpoodcglaa.alikeSigns
