/- The walk of AlikeJoin: the law returns true at all inputs, and no old memory changes. -/
import Derived.Test.YtpghnbpoodcglaaFirst
import Derived.Test.YtpghnbpoodcglaaConcat
import Derived.Test.YtpghnbpoodcglaaShelf
namespace Go.Proofs.Ytpghnbpoodcglaa.alikeJoin
open Go.ChangeShapes Go.WideShapes Go.ChangeAt Go.RowKit
open Go.Proofs.Ytpghnbpoodcglaa
set_option maxRecDepth 20000

theorem contains_c (a : Option Addr) (n c : Nat) (xs : List Int) (x : Int) (w : World) (h : IntsAt w a n c xs) (hn : 1 ≤ n) :
    Calls Try.prog 45 #[.slice a n c, .int .i64 x] w fun e w' => e = .returned (.bool (xs.contains x)) ∧ w = w' := by
  obtain ⟨b, o, rfl, _, hc⟩ := h.addr hn
  have hl := h.len
  have mm := h.max
  have ee := h.le
  refine (Try.slices_Contains_int b o n c xs x w (by omega) (by omega) (fun j hj => hc j (by omega))).mono ?_
  rintro e w' ⟨rfl, rfl⟩
  exact ⟨by rw [List.take_of_length_le (by omega)], rfl⟩
theorem ok01 : PermOk [0, 1] 2 := ⟨by omega, fun i hi => match i, hi with
  | 0, _ => ⟨by decide, by decide, fun j hj => by omega⟩
  | 1, _ => ⟨by decide, by decide, fun j hj => by obtain rfl : j = 0 := by omega
                                                  decide⟩⟩
theorem set1 : SetOk [1] 1 2 := ⟨by omega, fun i hi => by
  obtain rfl : i = 0 := by omega
  exact ⟨by decide, by decide, fun h => by omega⟩⟩
theorem wi_in (x : Int) (n : Nat) (h0 : 0 ≤ x) (h1 : x < n) (hn : n ≤ 1000) : wi x n = x := by
  unfold wi
  rw [Int.emod_eq_of_lt h0 (by omega), Int.emod_eq_of_lt h0 h1]
theorem mem_gi {xs : List Int} {x : Int} (h : x ∈ xs) : ∃ j, j < xs.length ∧ gi xs j = x := by
  obtain ⟨j, hj, rfl⟩ := List.getElem_of_mem h
  exact ⟨j, hj, set_ok_at xs j hj⟩
/-- The set of two sets together. -/
theorem join_mem (xs ys : List Int) (m n : Nat) (hn : n ≤ 1000) (hn1 : 1 ≤ n) (hx : ∀ x ∈ xs, 0 ≤ x ∧ x < (n : Int)) (hy : ∀ x ∈ ys, 0 ≤ x ∧ x < (n : Int)) (hm : (xs ++ ys).length = m) (z : Int) : z ∈ thL (xs ++ ys) m n ↔ z ∈ xs ∨ z ∈ ys := by
  unfold thL
  rw [thR_mem, tset_iff]
  constructor
  · rintro ⟨_, _, j, hj, rfl⟩
    have hmem := gi_mem (xs ++ ys) j (by omega)
    rcases List.mem_append.1 hmem with h | h
    · have := hx _ h
      rw [wi_in _ n this.1 this.2 hn]; exact .inl h
    · have := hy _ h
      rw [wi_in _ n this.1 this.2 hn]; exact .inr h
  · intro h
    have hb : 0 ≤ z ∧ z < (n : Int) := by
      rcases h with h | h
      · exact hx z h
      · exact hy z h
    obtain ⟨j, hj, he⟩ := mem_gi (List.mem_append.2 h)
    exact ⟨hb.1, hb.2, j, by omega, by rw [he, wi_in z n hb.1 hb.2 hn]⟩
theorem first_mem {xs ys : List Int} {L : Nat} {B : Int} (h : IsFirst xs ys L B) (hl : ys.length = L) : B ∈ ys := by
  obtain ⟨⟨p, hp, rfl⟩, _⟩ := h
  exact gi_mem ys p (by omega)
theorem first_le {xs ys : List Int} {L : Nat} {B : Int} (h : IsFirst xs ys L B) (hl : ys.length = L) (x : Int) (hx : x ∈ ys) : gi xs B.toNat ≤ gi xs x.toNat := by
  obtain ⟨j, hj, rfl⟩ := mem_gi hx
  exact h.2 j (by omega)
theorem perm_inj {o : List Int} {n : Nat} (h : PermOk o n) (x y : Int) (hx : 0 ≤ x ∧ x < n) (hy : 0 ≤ y ∧ y < n) (e : gi o x.toNat = gi o y.toNat) : x = y := by
  rcases Nat.lt_trichotomy x.toNat y.toNat with hl | he | hg
  · exact absurd e ((h.2 y.toNat (by omega)).2.2 _ hl)
  · omega
  · exact absurd e.symm ((h.2 x.toNat (by omega)).2.2 _ hg)
/-- The plain law. -/
theorem join {o A B C : List Int} {n : Nat} {x y z : Int} (ho : PermOk o n) (hA : ∀ t ∈ A, 0 ≤ t ∧ t < (n : Int)) (hB : ∀ t ∈ B, 0 ≤ t ∧ t < (n : Int)) (hC : ∀ t, t ∈ C ↔ t ∈ A ∨ t ∈ B)
    (hx : IsFirst o A A.length x) (hy : IsFirst o B B.length y) (hz : IsFirst o C C.length z) : (A.contains z = true → z = x) ∧ (B.contains z = true → z = y) ∧ (z = x ∨ z = y) := by
  have mx := first_mem hx rfl
  have my := first_mem hy rfl
  have mz := first_mem hz rfl
  have hza : z ∈ A → z = x := fun h => by
    have a1 := first_le hx rfl z h
    have a2 := first_le hz rfl x ((hC x).2 (.inl mx))
    exact perm_inj ho z x (hA z h) (hA x mx) (by omega)
  have hzb : z ∈ B → z = y := fun h => by
    have a1 := first_le hy rfl z h
    have a2 := first_le hz rfl y ((hC y).2 (.inr my))
    exact perm_inj ho z y (hB z h) (hB y my) (by omega)
  refine ⟨fun h => hza (List.contains_iff_mem.1 h), fun h => hzb (List.contains_iff_mem.1 h), ?_⟩
  rcases (hC z).1 mz with h | h
  · exact .inl (hza h)
  · exact .inr (hzb h)
theorem thL_bd (xs : List Int) (m n : Nat) : ∀ t ∈ thL xs m n, 0 ≤ t ∧ t < (n : Int) := fun t ht => by
  have := (thR_mem (tset xs n m) t n).1 ht
  omega

set_option linter.unusedVariables false
set_option maxHeartbeats 8000000 in
theorem walk (a0 : Int) (a1 : Option Addr) (len1 cap1 : Nat) (z1 : List Int) (a2 : Option Addr) (len2 cap2 : Nat) (z2 : List Int) (a3 : Int) (w : World)
    (w0 : (Lit.int .i64 a0).wf = true) (w1 : IntsAt w a1 len1 cap1 z1) (w2 : IntsAt w a2 len2 cap2 z2) (w3 : (Lit.int .i64 a3).wf = true) :
    Calls Try.prog 13 #[.int .i64 a0, .slice a1 len1 cap1, .slice a2 len2 cap2, .int .i64 a3] w fun e w' => e = .returned (.bool true) ∧ Below w.heap.size w w' := by
  obtain ⟨m, hm⟩ : ∃ m, m = wn a3 12 := ⟨_, rfl⟩
  have hm1 := wn_lt a3 12 (by omega)
  have cm := withinN_c a3 12 (by omega) (by omega)
  rw [← hm] at hm1 cm
  have CM := hidp cm
  obtain ⟨n, hn⟩ : ∃ n, n = m + 1 := ⟨_, rfl⟩
  have hnE : (1 : Int) + (m : Int) = (n : Int) := by omega
  have hn12 : n ≤ 12 := by omega
  have hn1 : 1 ≤ n := by omega
  have hf := fct_tab n (by omega)
  have CF := hidp (fun W => rfact_n n hn12 W)
  obtain ⟨F, hF⟩ : ∃ F, F = fct n := ⟨_, rfl⟩
  rw [← hF] at hf CF
  obtain ⟨i, hi⟩ : ∃ i, i = wn a0 F := ⟨_, rfl⟩
  have hi1 := wn_lt a0 F (by omega)
  have ci := withinN_c a0 F (by omega) (by omega)
  rw [← hi] at hi1 ci
  have CI := hidp ci
  have hiF : i < fct n := by omega
  have CO := hidp (fun W => order_c n i n i rfl rfl hn12 hiF W)
  have POK := hidp (ord_ok n i hn12 hiF)
  have HLO := hidp (ordL_len n i (idn n))
  generalize ordL n i (idn n) = O at *
  have CA := hidp (fun W h => things_c a1 len1 cap1 z1 n W h hn1 (by omega))
  have CB := hidp (fun W h => things_c a2 len2 cap2 z2 n W h hn1 (by omega))
  have SA := hidp (thL_ok z1 len1 n)
  have SB := hidp (thL_ok z2 len2 n)
  have BA := hidp (thL_bd z1 len1 n)
  have BB := hidp (thL_bd z2 len2 n)
  generalize thL z1 len1 n = A at *
  generalize thL z2 len2 n = B at *
  have W1 := hidp w1
  have W2 := hidp w2
  obtain ⟨LA, hLA⟩ : ∃ LA, LA = A.length := ⟨_, rfl⟩
  obtain ⟨LB, hLB⟩ : ∃ LB, LB = B.length := ⟨_, rfl⟩
  rw [← hLA] at CA SA
  rw [← hLB] at CB SB
  have HLA := hidp hLA
  have HLB := hidp hLB
  have lA := SA.out.1
  have lB := SB.out.1
  have JM := hidp (join_mem A B (LA + LB) n (by omega) hn1 BA.out BB.out (by rw [List.length_append, hLA, hLB]))
  obtain ⟨hf1, hf2⟩ := hf
  clear hm hm1 cm hn hF hi hi1 ci hiF w0 w1 w2 w3 hLA hLB
  go_enter Try.func13, Try.ntmps13
  go_wp2_with fail
  refine (first_c _ _ 2 _ 1 _ [0, 1] [1] _ ?s0 ?s1 ok01 set1 (by omega)).mono ?_
  case s0 => exact (ints_lit [0, 1] (by simp) (by rfl) (by rfl) (by simp) (by omega)).alloc _
  case s1 => exact ints_lit [1] (by simp) (by rfl) (by rfl) (by simp) (by omega)
  rintro e wa ⟨b0, rfl, hB0, hba⟩
  obtain rfl : b0 = 1 := by
    obtain ⟨⟨p, hp, he⟩, _⟩ := hB0.out
    obtain rfl : p = 0 := by omega
    exact he
  have hwa : Below w.heap.size w wa := bstep (bal (bal (Below.refl _ _) _) _) hba
  clear hba hB0
  go_wp2_with fail
  refine (CM.out _).mono ?_; rintro e w' ⟨rfl, rfl⟩
  go_wp2_with fail
  refine (CF.out _).mono ?_; rintro e w' ⟨rfl, rfl⟩
  go_wp2_with fail
  refine (CI.out _).mono ?_; rintro e w' ⟨rfl, rfl⟩
  go_wp2_with fail
  refine (CO.out _).mono ?_
  rintro e wb ⟨v, rfl, hv, hbb⟩
  obtain ⟨ao, co, hve, hao⟩ := owns_ints hv (fun x hx => by
    obtain ⟨j, hj, he⟩ := mem_gi hx
    have hl := HLO.out
    have := POK.out.2 j (by omega)
    omega)
  subst hve
  have hwb := bstep hwa hbb
  clear hv hbb hwa
  go_wp2_with fail
  refine (CA.out _ (W1.out.below hwb)).mono ?_
  rintro e wc ⟨v, rfl, hv, hbc⟩
  obtain ⟨aa, ca, hve, haa⟩ := owns_ints hv (fun x hx => by have := BA.out x hx; omega)
  subst hve
  have hwc := bstep hwb hbc
  have hao := hao.below hbc
  clear hv hbc hwb
  go_wp2_with fail
  refine (CB.out _ (W2.out.below hwc)).mono ?_
  rintro e wd ⟨v, rfl, hv, hbd⟩
  obtain ⟨ab, cb, hve, hab⟩ := owns_ints hv (fun x hx => by have := BB.out x hx; omega)
  subst hve
  have hwd := bstep hwc hbd
  have hao := hao.below hbd
  have haa := haa.below hbd
  clear hv hbd hwc CA CB CO CF CI CM W1 W2
  by_cases hzA : LA = 0
  · have e1 : ((LA : Int) == 0) = true := by rw [hzA]; rfl
    clear hzA
    go_wp2_with fail
    go_ret
    exact ⟨rfl, hwd⟩
  · have e1 : ((LA : Int) == 0) = false := by rw [beq_eq_false_iff_ne]; omega
    by_cases hzB : LB = 0
    · have e2 : ((LB : Int) == 0) = true := by rw [hzB]; rfl
      clear hzA hzB
      go_wp2_with fail
      go_ret
      exact ⟨rfl, hwd⟩
    · have e2 : ((LB : Int) == 0) = false := by rw [beq_eq_false_iff_ne]; omega
      have lA1 : 1 ≤ LA := by omega
      have lB1 : 1 ≤ LB := by omega
      clear hzA hzB
      go_wp2_with fail
      refine (first_c _ _ _ _ _ _ _ _ _ hao haa POK.out SA.out lA1).mono ?_
      rintro e we ⟨x, rfl, hX, hbe⟩
      have hao := hao.below hbe
      have haa := haa.below hbe
      have hab := hab.below hbe
      have hwe := bstep hwd hbe
      clear hbe hwd
      go_wp2_with fail
      refine (first_c _ _ _ _ _ _ _ _ _ hao hab POK.out SB.out lB1).mono ?_
      rintro e wf ⟨y, rfl, hY, hbf⟩
      have hao := hao.below hbf
      have haa := haa.below hbf
      have hab := hab.below hbf
      have hwf := bstep hwe hbf
      clear hbf hwe
      have hR : Rws (wf.alloc (.cells #[.slice aa LA ca, .slice ab LB cb] 22)) wf.heap.size 0 2 (fun i => if i = 0 then aa else ab) (fun i => if i = 0 then LA else LB) (fun i => if i = 0 then ca else cb) (fun i => if i = 0 then A else B) :=
        ⟨by simp, fun i hi => match i, hi with
          | 0, _ => by unfold World.cell?; rw [heap_alloc_new]; rfl
          | 1, _ => by unfold World.cell?; rw [heap_alloc_new]; rfl,
         fun i hi => match i, hi with
          | 0, _ => haa.alloc _
          | 1, _ => hab.alloc _⟩
      have hsum : sumN (fun i => if i = 0 then LA else LB) 2 = LA + LB := by simp [sumN]
      have hcat : catL (fun i => if i = 0 then A else B) 2 = A ++ B := by simp [catL]
      have CC := hidp (concat_c wf.heap.size 0 2 2 _ _ _ _ _ hR (by omega) (by omega) (by rw [hsum]; omega) (by rw [hsum]; omega) (fun i hi => by show 1 ≤ if i = 0 then LA else LB; split <;> omega))
      rw [hsum, hcat] at CC
      clear hR hsum hcat
      go_wp2_with fail
      refine CC.out.mono ?_
      rintro e wg ⟨v, rfl, hv, hbg⟩
      obtain ⟨am, cm, hve, ham⟩ := owns_ints hv (fun x hx => by
        rcases List.mem_append.1 hx with h | h
        · have := BA.out x h; omega
        · have := BB.out x h; omega)
      subst hve
      have hbg2 := bstep (bal (Below.refl wf.heap.size wf) _) hbg
      have hao := hao.below hbg2
      have haa := haa.below hbg2
      have hab := hab.below hbg2
      have hwg := bstep hwf hbg2
      clear hv hbg hbg2 hwf CC
      go_wp2_with fail
      refine (things_c _ _ _ (A ++ B) n _ ham hn1 (by omega)).mono ?_
      rintro e wh ⟨v, rfl, hv, hbh⟩
      have SC := hidp (thL_ok (A ++ B) (LA + LB) n)
      have BC := hidp (thL_bd (A ++ B) (LA + LB) n)
      generalize thL (A ++ B) (LA + LB) n = C at *
      obtain ⟨ac, cc, hve, hac⟩ := owns_ints hv (fun x hx => by have := BC.out x hx; omega)
      subst hve
      have hxA := first_mem hX.out HLA.out.symm
      have hCl : 1 ≤ C.length := by
        have := (JM.out x).2 (.inl hxA)
        rcases Nat.eq_zero_or_pos C.length with h | h
        · rw [List.eq_nil_of_length_eq_zero h] at this; simp at this
        · exact h
      have hao := hao.below hbh
      have haa := haa.below hbh
      have hab := hab.below hbh
      have hwh := bstep hwg hbh
      clear hv hbh hwg ham hxA
      go_wp2_with fail
      refine (first_c _ _ _ _ _ _ _ _ _ hao hac POK.out SC.out hCl).mono ?_
      rintro e wi ⟨z, rfl, hZ, hbi⟩
      have haa := haa.below hbi
      have hab := hab.below hbi
      have hwi := bstep hwh hbi
      have hX2 := hX.out
      have hY2 := hY.out
      rw [HLA.out] at hX2
      rw [HLB.out] at hY2
      obtain ⟨j1, j2, j3⟩ := join POK.out BA.out BB.out JM.out hX2 hY2 hZ.out
      have KA := hidp (fun W h => contains_c aa LA ca A z W h lA1)
      have KB := hidp (fun W h => contains_c ab LB cb B z W h lB1)
      have J1 := hidp j1
      have J2 := hidp j2
      have J3 := hidp j3
      clear hbi hwh hac hX2 hY2 j1 j2 j3 hX hY hZ hao
      cases hcA : A.contains z with
      | true =>
        obtain rfl := J1.out hcA
        rw [hcA] at KA
        clear hcA J1
        cases hcB : B.contains z with
        | true =>
          obtain rfl := J2.out hcB
          rw [hcB] at KB
          clear hcB J2 J3
          go_wp2_with fail
          refine (KA.out _ haa).mono ?_; rintro e w' ⟨rfl, rfl⟩
          go_wp2_with fail
          refine (KB.out _ hab).mono ?_; rintro e w' ⟨rfl, rfl⟩
          go_wp2_with fail
          go_ret
          exact ⟨rfl, hwi⟩
        | false =>
          rw [hcB] at KB
          clear hcB J2 J3
          go_wp2_with fail
          refine (KA.out _ haa).mono ?_; rintro e w' ⟨rfl, rfl⟩
          go_wp2_with fail
          refine (KB.out _ hab).mono ?_; rintro e w' ⟨rfl, rfl⟩
          go_wp2_with fail
          go_ret
          exact ⟨rfl, hwi⟩
      | false =>
        rw [hcA] at KA
        clear hcA J1
        cases hcB : B.contains z with
        | true =>
          obtain rfl := J2.out hcB
          rw [hcB] at KB
          clear hcB J2 J3
          by_cases hzx : z = x
          · have ez : (z == x) = true := by rw [beq_iff_eq]; exact hzx
            clear hzx
            go_wp2_with fail
            refine (KA.out _ haa).mono ?_; rintro e w' ⟨rfl, rfl⟩
            go_wp2_with fail
            refine (KB.out _ hab).mono ?_; rintro e w' ⟨rfl, rfl⟩
            go_wp2_with fail
            go_ret
            exact ⟨rfl, hwi⟩
          · have ez : (z == x) = false := by rw [beq_eq_false_iff_ne]; exact hzx
            clear hzx
            go_wp2_with fail
            refine (KA.out _ haa).mono ?_; rintro e w' ⟨rfl, rfl⟩
            go_wp2_with fail
            refine (KB.out _ hab).mono ?_; rintro e w' ⟨rfl, rfl⟩
            go_wp2_with fail
            go_ret
            exact ⟨rfl, hwi⟩
        | false =>
          rw [hcB] at KB
          clear hcB J2
          by_cases hzx : z = x
          · have ez : (z == x) = true := by rw [beq_iff_eq]; exact hzx
            clear hzx J3
            go_wp2_with fail
            refine (KA.out _ haa).mono ?_; rintro e w' ⟨rfl, rfl⟩
            go_wp2_with fail
            refine (KB.out _ hab).mono ?_; rintro e w' ⟨rfl, rfl⟩
            go_wp2_with fail
            go_ret
            exact ⟨rfl, hwi⟩
          · have ez : (z == x) = false := by rw [beq_eq_false_iff_ne]; exact hzx
            have hzy : z = y := J3.out.resolve_left hzx
            have ey : (z == y) = true := by rw [beq_iff_eq]; exact hzy
            clear hzx hzy J3
            go_wp2_with fail
            refine (KA.out _ haa).mono ?_; rintro e w' ⟨rfl, rfl⟩
            go_wp2_with fail
            refine (KB.out _ hab).mono ?_; rintro e w' ⟨rfl, rfl⟩
            go_wp2_with fail
            go_ret
            exact ⟨rfl, hwi⟩
end Go.Proofs.Ytpghnbpoodcglaa.alikeJoin
