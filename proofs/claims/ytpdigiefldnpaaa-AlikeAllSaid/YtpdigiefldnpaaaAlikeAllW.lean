/- The walk of AlikeAll: the law returns true at all inputs, and no old memory changes. -/
import Derived.Test.YtpdigiefldnpaaaAlikeTab
import Derived.Test.YtpdigiefldnpaaaShelf
namespace Go.Proofs.Ytpdigiefldnpaaa.alikeAll
open Go.ChangeShapes Go.WideShapes Go.ChangeAt Go.RowKit
open Go.Proofs.Ytpdigiefldnpaaa
set_option maxRecDepth 20000

theorem contains_c (a : Option Addr) (n c : Nat) (xs : List Int) (x : Int) (w : World) (h : IntsAt w a n c xs) (hn : 1 ≤ n) :
    Calls Try.prog 48 #[.slice a n c, .int .i64 x] w fun e w' => e = .returned (.bool (xs.contains x)) ∧ w = w' := by
  obtain ⟨b, o, rfl, _, hc⟩ := h.addr hn
  have hl := h.len
  have mm := h.max
  have ee := h.le
  refine (Try.slices_Contains_int b o n c xs x w (by omega) (by omega) (fun j hj => hc j (by omega))).mono ?_
  rintro e w' ⟨rfl, rfl⟩
  exact ⟨by rw [List.take_of_length_le (by omega)], rfl⟩
theorem mem_gi {xs : List Int} {x : Int} (h : x ∈ xs) : ∃ j, j < xs.length ∧ gi xs j = x := by
  obtain ⟨j, hj, rfl⟩ := List.getElem_of_mem h
  exact ⟨j, hj, set_ok_at xs j hj⟩
theorem first_mem {xs ys : List Int} {L : Nat} {B : Int} (h : IsFirst xs ys L B) (hl : ys.length = L) : B ∈ ys := by
  obtain ⟨⟨p, hp, rfl⟩, _⟩ := h
  exact gi_mem ys p (by omega)
theorem first_le {xs ys : List Int} {L : Nat} {B : Int} (h : IsFirst xs ys L B) (hl : ys.length = L) (x : Int) (hx : x ∈ ys) : gi xs B.toNat ≤ gi xs x.toNat := by
  obtain ⟨j, hj, rfl⟩ := mem_gi hx
  exact h.2 j (by omega)
theorem perm_inj {o : List Int} {n : Nat} (h : PermOk o n) (x y : Int) (hx : 0 ≤ x ∧ x < n) (hy : 0 ≤ y ∧ y < n) (e : gi o x.toNat = gi o y.toNat) : x = y := by
  rcases Nat.lt_trichotomy x.toNat y.toNat with hl | he | hg
  · exact absurd e ((h.2 y.toNat (by omega)).2.2 _ hl)
  · omega
  · exact absurd e.symm ((h.2 x.toNat (by omega)).2.2 _ hg)
theorem thL_bd (xs : List Int) (m n : Nat) : ∀ t ∈ thL xs m n, 0 ≤ t ∧ t < (n : Int) := fun t ht => by
  have := (thR_mem (tset xs n m) t n).1 ht
  omega
theorem first_one {o A : List Int} {n L : Nat} {x y : Int} (hl : A.length = L) (ho : PermOk o n) (hA : ∀ t ∈ A, 0 ≤ t ∧ t < (n : Int)) (hx : IsFirst o A L x) (hy : IsFirst o A L y) : x = y := by
  have mx := first_mem hx hl
  have my := first_mem hy hl
  have a1 := first_le hx hl y my
  have a2 := first_le hy hl x mx
  exact perm_inj ho x y (hA x mx) (hA y my) (by omega)
/-- The first thing, by the order of rank i. -/
def fi (n : Nat) (A : List Int) (i : Nat) : Int := fk (ordL n i (idn n)) A A.length
theorem first_fi {n i L : Nat} {A : List Int} {x : Int} (hn : n ≤ 12) (hi : i < fct n) (hl : A.length = L) (h1 : 1 ≤ L) (hs : SetOk A L n) (hA : ∀ t ∈ A, 0 ≤ t ∧ t < (n : Int)) (h : IsFirst (ordL n i (idn n)) A L x) : x = fi n A i := by
  subst hl
  exact first_one rfl (ord_ok n i hn hi) hA h (fk_first _ A _ n hs A.length (Nat.le_refl _) h1)
def cnt (f g : Nat → Int) : Nat → Nat
  | 0 => 0
  | k + 1 => cnt f g k + if f k = g k then 1 else 0
theorem cnt_le (f g : Nat → Int) : ∀ k, cnt f g k ≤ k
  | 0 => Nat.le_refl _
  | k + 1 => by
    have := cnt_le f g k
    simp only [cnt]; split <;> omega
theorem eqc_snoc (a b : Int) : ∀ x y : List Int, x.length = y.length → eqc (x ++ [a]) (y ++ [b]) = eqc x y + if a = b then 1 else 0
  | [], [], _ => by simp [eqc]
  | c :: x, d :: y, h => by
    simp only [List.cons_append, eqc]
    rw [eqc_snoc a b x y (by simpa using h)]
    omega
theorem eqc_cnt (f g : Nat → Int) : ∀ k, eqc ((List.range k).map f) ((List.range k).map g) = cnt f g k
  | 0 => rfl
  | k + 1 => by
    rw [List.range_succ, List.map_append, List.map_append]
    show eqc (_ ++ [f k]) (_ ++ [g k]) = _
    rw [eqc_snoc _ _ _ _ (by simp), eqc_cnt f g k]
    rfl
def bp (A B : List Int) (k : Nat) : Nat := ((A.take k).filter (fun x => B.contains x)).length
theorem bp_succ (A B : List Int) (k : Nat) (h : k < A.length) : bp A B (k + 1) = bp A B k + if B.contains (gi A k) = true then 1 else 0 := by
  unfold bp
  have e : A.take (k + 1) = A.take k ++ [gi A k] := by
    rw [set_ok_at A k h, List.take_add_one, List.getElem?_eq_getElem h]; rfl
  rw [e, List.filter_append, List.length_append]
  congr 1
  by_cases hc : B.contains (gi A k) = true
  · rw [if_pos hc, List.filter_cons, if_pos hc]; rfl
  · rw [if_neg hc, List.filter_cons, if_neg hc]; rfl
theorem bp_le (A B : List Int) : ∀ k, bp A B k ≤ k := fun k => by
  unfold bp
  exact Nat.le_trans (List.length_filter_le _ _) (by rw [List.length_take]; omega)
theorem broder_at (xs ys : List Int) (l m n : Nat) (h1 : 1 ≤ n) (h5 : n ≤ 5) (hA : 1 ≤ (thL xs l n).length) (hB : 1 ≤ (thL ys m n).length) :
    cnt (fi n (thL xs l n)) (fi n (thL ys m n)) (fct n) * ((thL ys m n).length + ((thL xs l n).length - bp (thL xs l n) (thL ys m n) (thL xs l n).length)) = fct n * bp (thL xs l n) (thL ys m n) (thL xs l n).length := by
  have h := broder n h1 h5 (tset xs n l) (tset ys n m)
  have eA : thR (tset xs n l) n = thL xs l n := rfl
  have eB : thR (tset ys n m) n = thL ys m n := rfl
  rw [eA, eB] at h
  generalize thL xs l n = A at *
  generalize thL ys m n = B at *
  have hbp : bp A B A.length = bothN A B := by unfold bp bothN; rw [List.take_length]
  have hc : eqc (frow n A) (frow n B) = cnt (fi n A) (fi n B) (fct n) := eqc_cnt (fi n A) (fi n B) (fct n)
  unfold chkP at h
  simp only [Bool.or_eq_true, List.isEmpty_iff, beq_iff_eq] at h
  rcases h with (h | h) | h
  · rw [h] at hA; simp at hA
  · rw [h] at hB; simp at hB
  · rw [hc] at h
    rw [hbp]; exact h
theorem ok201 : PermOk [2, 0, 1] 3 := ⟨by omega, fun i hi => match i, hi with
  | 0, _ => ⟨by decide, by decide, fun j hj => by omega⟩
  | 1, _ => ⟨by decide, by decide, fun j hj => by obtain rfl : j = 0 := by omega
                                                  decide⟩
  | 2, _ => ⟨by decide, by decide, fun j hj => match j, hj with
    | 0, _ => by decide
    | 1, _ => by decide⟩⟩
theorem set02 : SetOk [0, 2] 2 3 := ⟨by omega, fun i hi => match i, hi with
  | 0, _ => ⟨by decide, by decide, fun h => by omega⟩
  | 1, _ => ⟨by decide, by decide, fun h => by decide⟩⟩

set_option linter.unusedVariables false
set_option maxHeartbeats 8000000 in
theorem walk (a0 : Option Addr) (len0 cap0 : Nat) (z0 : List Int) (a1 : Option Addr) (len1 cap1 : Nat) (z1 : List Int) (a2 : Int) (w : World)
    (w0 : IntsAt w a0 len0 cap0 z0) (w1 : IntsAt w a1 len1 cap1 z1) (w2 : (Lit.int .i64 a2).wf = true) :
    Calls Try.prog 14 #[.slice a0 len0 cap0, .slice a1 len1 cap1, .int .i64 a2] w fun e w' => e = .returned (.bool true) ∧ Below w.heap.size w w' := by
  obtain ⟨m, hm⟩ : ∃ m, m = wn a2 5 := ⟨_, rfl⟩
  have hm1 := wn_lt a2 5 (by omega)
  have cm := withinN_c a2 5 (by omega) (by omega)
  rw [← hm] at hm1 cm
  have CM := hidp cm
  obtain ⟨n, hn⟩ : ∃ n, n = m + 1 := ⟨_, rfl⟩
  have hnE : (1 : Int) + (m : Int) = (n : Int) := by omega
  have hn5 : n ≤ 5 := by omega
  have hn1 : 1 ≤ n := by omega
  have CF := hidp (fun W => rfact_n n (by omega) W)
  have hfl : fct n ≤ 120 := (by decide : ∀ n : Nat, n ≤ 5 → fct n ≤ 120) n hn5
  have hf1 := (fct_tab n (by omega)).1
  have CA := hidp (fun W h => things_c a0 len0 cap0 z0 n W h hn1 (by omega))
  have CB := hidp (fun W h => things_c a1 len1 cap1 z1 n W h hn1 (by omega))
  have SA := hidp (thL_ok z0 len0 n)
  have SB := hidp (thL_ok z1 len1 n)
  have BA := hidp (thL_bd z0 len0 n)
  have BB := hidp (thL_bd z1 len1 n)
  have BR := hidp (broder_at z0 z1 len0 len1 n hn1 hn5)
  generalize thL z0 len0 n = A at *
  generalize thL z1 len1 n = B at *
  obtain ⟨F, hF⟩ : ∃ F, F = fct n := ⟨_, rfl⟩
  have CO := hidp (fun (i : Nat) (hi : i < F) W => order_c n i n i rfl rfl (by omega) (by omega) W)
  have PO := hidp (fun (i : Nat) (hi : i < F) => ord_ok n i (by omega) (by omega))
  have OB := hidp (fun (i : Nat) (hi : i < F) => ordL_len n i (idn n))
  obtain ⟨LA, hLA⟩ : ∃ LA, LA = A.length := ⟨_, rfl⟩
  obtain ⟨LB, hLB⟩ : ∃ LB, LB = B.length := ⟨_, rfl⟩
  have FA := hidp (fun (i : Nat) (hi : i < F) (x : Int) (h1 : 1 ≤ LA) (h : IsFirst (ordL n i (idn n)) A LA x) => first_fi (by omega) (by omega) hLA.symm h1 (hLA ▸ SA.out) BA.out h)
  have FB := hidp (fun (i : Nat) (hi : i < F) (x : Int) (h1 : 1 ≤ LB) (h : IsFirst (ordL n i (idn n)) B LB x) => first_fi (by omega) (by omega) hLB.symm h1 (hLB ▸ SB.out) BB.out h)
  rw [← hF] at hf1 hfl CF BR
  rw [← hLA] at CA SA BR
  rw [← hLB] at CB SB BR
  have HLA := hidp hLA
  have HLB := hidp hLB
  have lA := SA.out.1
  have lB := SB.out.1
  have W0 := hidp w0
  have W1 := hidp w1
  clear hm hm1 cm hn hF w0 w1 w2 hLA hLB
  generalize fi n A = f at *
  generalize fi n B = g at *
  go_enter Try.func14, Try.ntmps14
  go_wp2_with fail
  refine (first_c _ _ 3 _ 2 _ [2, 0, 1] [0, 2] _ ?s0 ?s1 ok201 set02 (by omega)).mono ?_
  case s0 => exact (ints_lit [2, 0, 1] (by simp) (by rfl) (by rfl) (by simp) (by omega)).alloc _
  case s1 => exact ints_lit [0, 2] (by simp) (by rfl) (by rfl) (by simp) (by omega)
  rintro e wa ⟨b0, rfl, hB0, hba⟩
  obtain rfl : b0 = 2 := by
    obtain ⟨⟨p, hp, he⟩, h2⟩ := hB0.out
    have h3 := h2 1 (by omega)
    match p, hp with
    | 0, _ => rw [he] at h3; exact absurd h3 (by decide)
    | 1, _ => exact he
  have hwa : Below w.heap.size w wa := bstep (bal (bal (Below.refl _ _) _) _) hba
  clear hba hB0
  go_wp2_with fail
  refine (CM.out _).mono ?_; rintro e w' ⟨rfl, rfl⟩
  go_wp2_with fail
  refine (CA.out _ (W0.out.below hwa)).mono ?_
  rintro e wc ⟨v, rfl, hv, hbc⟩
  obtain ⟨aa, ca, hve, haa⟩ := owns_ints hv (fun x hx => by have := BA.out x hx; omega)
  subst hve
  have hwc := bstep hwa hbc
  clear hv hbc hwa
  go_wp2_with fail
  refine (CB.out _ (W1.out.below hwc)).mono ?_
  rintro e wd ⟨v, rfl, hv, hbd⟩
  obtain ⟨ab, cb, hve, hab⟩ := owns_ints hv (fun x hx => by have := BB.out x hx; omega)
  subst hve
  have hwd := bstep hwc hbd
  have haa := haa.below hbd
  clear hv hbd hwc CA CB CM W0 W1
  by_cases hzA : LA = 0
  · have e1 : ((LA : Int) == 0) = true := by rw [hzA]; rfl
    clear hzA
    go_wp2_with fail
    go_ret
    exact ⟨rfl, hwd⟩
  · have e1 : ((LA : Int) == 0) = false := by rw [beq_eq_false_iff_ne]; omega
    by_cases hzB : LB = 0
    · have e2 : ((LB : Int) == 0) = true := by rw [hzB]; rfl
      clear hzA hzB
      go_wp2_with fail
      go_ret
      exact ⟨rfl, hwd⟩
    · have e2 : ((LB : Int) == 0) = false := by rw [beq_eq_false_iff_ne]; omega
      have lA1 : 1 ≤ LA := by omega
      have lB1 : 1 ≤ LB := by omega
      have BR2 := hidp (BR.out lA1 lB1)
      clear hzA hzB BR
      go_wp2_with fail
      have HAA := hidp haa
      have HAB := hidp hab
      obtain ⟨b, o, rfl, hbs, hc⟩ := haa.addr lA1
      have Q := hidp hc
      have m1 := haa.max
      have n1 := haa.le
      have KB := hidp (fun x W (h : IntsAt W ab LB cb B) => contains_c ab LB cb B x W h lB1)
      clear haa hab hc
      go_loop [11, 12, 56] (fun s t i => ∃ k : Nat, k ≤ LA ∧ i = .int .i64 k ∧ s = .int .i64 (bp A B k : Nat) ∧ t = .int .i64 ((LB + (k - bp A B k) : Nat))) (fun _ _ i => LA - (intOf i).toNat)
      case atStart => exact ⟨0, by omega, rfl, rfl, rfl⟩
      case round =>
        obtain ⟨k, hk, rfl, rfl, rfl⟩ := hrel
        have hbk := bp_le A B k
        by_cases hlt : k < LA
        · have q := Q.out k hlt
          have bs := hidp (bp_succ A B k (by have := HLA.out; omega))
          generalize hS : bp A B k = S at *
          obtain ⟨T, hT⟩ : ∃ T, T = LB + (k - S) := ⟨_, rfl⟩
          rw [← hT]
          by_cases hcn : B.contains (gi A k) = true
          · have kb := hidp (KB.out (gi A k) wd HAB.out)
            rw [hcn] at kb
            go_wp2_with fail
            refine kb.out.mono ?_; rintro e w' ⟨rfl, rfl⟩
            have bb := bs.out
            rw [if_pos hcn] at bb
            clear kb bs hcn hS
            have hTT := hidp hT
            clear hT
            go_wp2_with fail
            go_round
            case rel => exact ⟨k + 1, by omega, by go_num, by rw [bb] <;> rfl, by rw [bb]; have := hTT.out; congr 2; omega⟩
            case measure => simp [intOf]; omega
          · have hcn' : B.contains (gi A k) = false := by simpa using hcn
            have kb := hidp (KB.out (gi A k) wd HAB.out)
            rw [hcn'] at kb
            go_wp2_with fail
            refine kb.out.mono ?_; rintro e w' ⟨rfl, rfl⟩
            have bb := bs.out
            rw [if_neg hcn] at bb
            clear kb bs hcn hcn' hS
            have hTT := hidp hT
            have hTl : T ≤ 100 := by omega
            clear hT
            go_wp2_with fail
            go_round
            case rel => exact ⟨k + 1, by omega, by go_num, by rw [bb] <;> rfl, by rw [bb]; have := hTT.out; rw [show LB + (k + 1 - (S + 0)) = T + 1 by omega]; go_num⟩
            case measure => simp [intOf]; omega
        · obtain rfl : k = LA := by omega
          have b2 := BR2.out
          generalize bp A B k = S at *
          obtain ⟨T, hT⟩ : ∃ T, T = LB + (k - S) := ⟨_, rfl⟩
          rw [← hT] at b2 ⊢
          have hTl : T ≤ 100 := by omega
          have B2 := hidp b2
          clear b2 hT BR2 KB Q
          go_wp2_with fail
          refine (CF.out _).mono ?_; rintro e w' ⟨rfl, rfl⟩
          go_wp2_with fail
          go_loopw [15, 70] (fun s i wr => ∃ j : Nat, j ≤ F ∧ i = .int .i64 j ∧ s = .int .i64 (cnt f g j : Nat) ∧ Below w.heap.size w wr ∧ Below wd.heap.size wd wr) (fun _ i _ => F - (intOf i).toNat)
          case atStart => exact ⟨0, by omega, rfl, rfl, hwd, Below.refl _ _⟩
          case round =>
            obtain ⟨j, hj, rfl, rfl, hbl, hbl2⟩ := hrel
            have hcl := cnt_le f g j
            by_cases hlt : j < F
            · have CO' := hidp (CO.out j hlt wr)
              have PJ := hidp (PO.out j hlt)
              have OJ := hidp (OB.out j hlt)
              have FJ := hidp (FA.out j hlt)
              have GJ := hidp (FB.out j hlt)
              generalize ordL n j (idn n) = O at *
              generalize hC : cnt f g j = C at *
              have HC := hidp hC
              clear hC
              go_wp2_with fail
              refine CO'.out.mono ?_
              rintro e wb ⟨v, rfl, hv, hbb⟩
              obtain ⟨ao, co, hve, hao⟩ := owns_ints hv (fun x hx => by
                obtain ⟨q, hq, he⟩ := mem_gi hx
                have hl := OJ.out
                have := PJ.out.2 q (by omega)
                omega)
              subst hve
              have hwb := bstep hbl hbb
              have hwb2 := bstep hbl2 hbb
              clear hv hbb CO'
              go_wp2_with fail
              refine (first_c _ _ _ _ _ _ _ _ _ hao (HAA.out.below hwb2) PJ.out SA.out lA1).mono ?_
              rintro e we ⟨x, rfl, hX, hbe⟩
              have hao := hao.below hbe
              have hwe := bstep hwb hbe
              have hwe2 := bstep hwb2 hbe
              obtain rfl : x = f j := FJ.out x lA1 hX.out
              clear hbe hwb hwb2 hX FJ
              go_wp2_with fail
              refine (first_c _ _ _ _ _ _ _ _ _ hao (HAB.out.below hwe2) PJ.out SB.out lB1).mono ?_
              rintro e wf ⟨y, rfl, hY, hbf⟩
              have hwf := bstep hwe hbf
              have hwf2 := bstep hwe2 hbf
              obtain rfl : y = g j := GJ.out y lB1 hY.out
              clear hbf hwe hwe2 hY GJ hao
              have bs : cnt f g (j + 1) = C + if f j = g j then 1 else 0 := by simp only [cnt]; rw [HC.out]
              by_cases hxy : f j = g j
              · rw [if_pos hxy] at bs
                have BS := hidp bs
                have ex : (f j == g j) = true := by rw [beq_iff_eq]; exact hxy
                clear hxy bs
                go_wp2_with fail
                go_roundw
                case rel => exact ⟨j + 1, by omega, by go_num, by rw [BS.out] <;> go_num, hwf, hwf2⟩
                case measure => simp [intOf]; omega
              · rw [if_neg hxy] at bs
                have BS := hidp bs
                have ex : (f j == g j) = false := by rw [beq_eq_false_iff_ne]; exact hxy
                clear hxy bs
                go_wp2_with fail
                go_roundw
                case rel => exact ⟨j + 1, by omega, by go_num, by rw [BS.out] <;> rfl, hwf, hwf2⟩
                case measure => simp [intOf]; omega
            · obtain rfl : j = F := by omega
              have b2 := B2.out
              generalize cnt f g j = C at *
              have hSl : S ≤ 5 := by omega
              have c1 : (C : Int) * (T : Int) = (j : Int) * (S : Int) := by rw [← Int.natCast_mul, ← Int.natCast_mul, b2]
              have c2 : C * T ≤ 120 * 100 := Nat.mul_le_mul (by omega) hTl
              have c3 : (C : Int) * (T : Int) ≤ 12000 := by rw [← Int.natCast_mul]; omega
              have c4 : (0 : Int) ≤ (C : Int) * (T : Int) := by rw [← Int.natCast_mul]; omega
              have c5 : (j : Int) * (S : Int) ≤ 12000 := by rw [← c1]; exact c3
              have c6 : (0 : Int) ≤ (j : Int) * (S : Int) := by rw [← c1]; exact c4
              have C1 := hidp c1
              clear b2 B2 c1 c2 CO PO OB FA FB BA BB
              go_wp2_with fail
              refine (CF.out _).mono ?_; rintro e w' ⟨rfl, rfl⟩
              go_wp2_with fail
              go_ret
              exact ⟨ret_bool (by have := C1.out; simp [this]), hbl⟩
end Go.Proofs.Ytpdigiefldnpaaa.alikeAll
