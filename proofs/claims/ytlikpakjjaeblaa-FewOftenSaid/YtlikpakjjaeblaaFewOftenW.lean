/- The walk of FewOften: the law returns true at all inputs, and no old memory changes. -/
import Derived.Test.YtlikpakjjaeblaaFewKit
import Derived.Test.YtlikpakjjaeblaaFewMath2
namespace Go.Proofs.Ytlikpakjjaeblaa.fewOften
open Go.ChangeShapes Go.WideShapes Go.ChangeAt Go.RowKit
open Go.Proofs.Ytlikpakjjaeblaa
set_option maxRecDepth 20000
theorem ok1 : FewOk 2 (0, ([] : List (Int × Int))) := ⟨by omega, by omega, by show (0 : Int) ≤ 0; omega, by show (0 : Int) ≤ _; omega, by simp, by simp [KRise], by simp, by simp⟩
theorem ok2 : FewOk 2 (0, [((6 : Int), (2 : Int))]) := ⟨by omega, by omega, by show (0 : Int) ≤ 0; omega, by show (0 : Int) ≤ _; omega, by simp, by simp [KRise], by simp, by simp⟩
theorem put1 : fput 2 (0, ([] : List (Int × Int))) 6 2 = (0, [(6, 2)]) := by decide
theorem key_at (L : List (Int × Int)) (z : Int) (h : ∃ p ∈ L, p.1 = z) : ∃ t, t < L.length ∧ ckey L t = z := by
  obtain ⟨p, hp, e⟩ := h
  obtain ⟨t, ht, e2⟩ := List.getElem_of_mem hp
  refine ⟨t, ht, ?_⟩
  unfold ckey
  rw [List.getD_eq_getElem?_getD, List.getElem?_eq_getElem ht, e2]
  exact e
theorem pred_c (y n key : Int) (p : Nat) (w : World) (hc : w.cell? ⟨p, 0, none⟩ = some (.int .i64 key)) :
    Calls Try.prog 26 #[.agg #[.int .i64 y, .int .i64 n], .pointer (some ⟨p, 0, none⟩)] w fun e w' => e = .returned (.bool (decide (y = key))) ∧ Below w.heap.size w w' := by
  have hb := hidp (bal (Below.refl w.heap.size w) (.cells #[.int .i64 y, .int .i64 n] 51))
  have hq := nec hc
  have hl := ltc hc
  go_enter Try.func26, Try.ntmps26
  go_wp2
  go_ret
  exact ⟨ret_bool (by first | rfl | (by_cases h : y = key <;> simp [h])), hb.out⟩
set_option maxHeartbeats 4000000 in
theorem idx_c (a : Option Addr) (n c : Nat) (L : List (Int × Int)) (key : Int) (p : Nat) (w : World) (h : CntAt w a n c L) (hc : w.cell? ⟨p, 0, none⟩ = some (.int .i64 key)) (he : ∃ q ∈ L, q.1 = key) :
    Calls Try.prog 47 #[.slice a n c, .func (.func 26) #[] #[.pointer (some ⟨p, 0, none⟩)]] w fun e w' => (∃ i : Nat, e = .returned (.int .i64 i)) ∧ Below w.heap.size w w' := by
  obtain ⟨b, o, hz, hx⟩ := h.split
  have hz' : Hid (n = 0) ∨ a = some ⟨b, o, none⟩ := hz.imp_left hidp
  have HX := hidp hx
  have mm := h.max
  have ee := h.le
  have HE := hidp (key_at L key he)
  rw [h.len] at HE
  have FF := hidp (fun y n W (hW : W.cell? ⟨p, 0, none⟩ = some (.int .i64 key)) => pred_c y n key p W hW)
  clear hx hz h he
  go_enter Try.func47, Try.ntmps47
  go_wp2
  go_loopg [8] n (fun gg i wr => ∃ k : Nat, k ≤ n ∧ n - k ≤ gg ∧ i = .int .i64 k ∧ Below w.heap.size w wr ∧ Hid (∀ t, t < k → ckey L t ≠ key))
  case atStart => exact ⟨0, by omega, by omega, rfl, Below.refl _ _, hidp (fun t ht => by omega)⟩
  case round =>
    obtain ⟨k, hk, hgg, rfl, hbl, I⟩ := hrel
    by_cases hlt : k < n
    · obtain rfl : a = some ⟨b, o, none⟩ := hz'.resolve_left (fun e => by have := e.out; omega)
      obtain ⟨hbs, hc1, hc2⟩ := HX.out k hlt
      have q0 := carry_cell ⟨hbs, hc1⟩ hbl
      have q1 := carry_cell ⟨hbs, hc2⟩ hbl
      have FC := FF.out (ckey L k) (cnum L k) wr (ck hbl hc)
      clear hc1 hc2
      by_cases hkk : ckey L k = key
      · rw [decide_eq_true hkk] at FC
        have F2 := hidp FC
        clear FC hkk
        go_wp2_with fail
        refine F2.out.mono ?_
        rintro e w' ⟨rfl, hb1⟩
        go_wp2
        go_ret
        exact ⟨⟨k, rfl⟩, bstep hbl hb1⟩
      · rw [decide_eq_false hkk] at FC
        have F2 := hidp FC
        have NK := hidp hkk
        clear FC hkk
        go_wp2_with fail
        refine F2.out.mono ?_
        rintro e w' ⟨rfl, hb1⟩
        go_wp2
        go_roundg (n - (k + 1))
        case measure => omega
        case rel =>
          refine ⟨k + 1, by omega, by omega, by go_num, bstep hbl hb1, hidp (fun t ht => ?_)⟩
          by_cases e : t = k
          · rw [e]; exact NK.out
          · exact I.out t (by omega)
    · obtain rfl : k = n := by omega
      obtain ⟨t, ht, e⟩ := HE.out
      exact absurd e (I.out t ht)
theorem cont_c (a : Option Addr) (n c : Nat) (L : List (Int × Int)) (key : Int) (p : Nat) (w : World) (h : CntAt w a n c L) (hc : w.cell? ⟨p, 0, none⟩ = some (.int .i64 key)) (he : ∃ q ∈ L, q.1 = key) :
    Calls Try.prog 25 #[.slice a n c, .func (.func 26) #[] #[.pointer (some ⟨p, 0, none⟩)]] w fun e w' => e = .returned (.bool true) ∧ Below w.heap.size w w' := by
  have HC := hidp (idx_c a n c L key p w h hc he)
  clear h hc he
  go_enter Try.func25, Try.ntmps25
  go_wp2_with fail
  refine HC.out.mono ?_
  rintro e w' ⟨⟨i, rfl⟩, hb⟩
  have hi : (0 : Int) ≤ (i : Int) := by omega
  go_wp2
  go_ret
  exact ⟨ret_bool (by simp), hb⟩
set_option linter.unusedVariables false
set_option maxHeartbeats 16000000 in
theorem walk (a0 : Int) (a1 : Option Addr) (n1 c1 : Nat) (zs : List (List Int)) (w : World)
    (w0 : (Lit.int .i64 a0).wf = true) (w1 : RowsAt w a1 n1 c1 zs) :
    Calls Try.prog 6 #[.int .i64 a0, .slice a1 n1 c1] w fun e w' => e = .returned (.bool true) ∧ Below w.heap.size w w' := by
  have P1 := hidp (fput_ok 2 (0, []) none 0 0 6 2 w (cnt_nil w) ok1 (by omega) (0, [(6, 2)]) put1 ok2)
  have CM := hidp (fun W (hB : Below w.heap.size w W) => came_c a1 n1 c1 zs 20 W (w1.below hB) (by omega) (by omega))
  have m2 := w1.max
  have l2 := w1.le
  have CB := hidp (camL_bd zs 20 (by omega) (min n1 60))
  have CL := hidp (show (camL zs 20 (min n1 60)).length ≤ 60 from Nat.le_trans (camL_len _ _ _) (by omega))
  generalize camL zs 20 (min n1 60) = D at *
  obtain ⟨K, hK⟩ : ∃ K : Nat, 1 + ((wn a0 5 : Nat) : Int) = (K : Int) := ⟨1 + wn a0 5, by push_cast; rfl⟩
  have k0 := wn_lt a0 5 (by omega)
  have k1 : 1 ≤ K := by omega
  have k2 : K ≤ 16 := by omega
  have hcs0 : 0 ≤ csum D ∧ csum D ≤ 60000 := by
    have := csum_bd 20 (by omega) D (fun p hp => by have := CB.out p hp; omega)
    have := CL.out
    omega
  obtain ⟨E, hE⟩ : ∃ E, E = kall (fun y => wi y 8) D := ⟨_, rfl⟩
  have EN1 := hidp (show ∀ p ∈ E, (1 : Int) ≤ p.2 from by rw [hE]; exact map_bd _ D (fun x => 1 ≤ x) (fun p hp => (CB.out p hp).1))
  have EK := hidp (show ∀ p ∈ E, (0 : Int) ≤ p.1 ∧ p.1 < 8 from by
    rw [hE]
    intro p hp
    obtain ⟨x, e⟩ := map_keys _ D p hp
    rw [e]
    exact ⟨wi_lo _ _ (by omega), wi_hi _ _ (by omega)⟩)
  have hcs : 0 ≤ csum E ∧ csum E ≤ 60000 := by rw [hE, map_csum]; exact hcs0
  have EL := hidp (show E.length = D.length by rw [hE, kall_len])
  have HE := hidp (show kmap (fun y => wi y 8) D D.length = E by rw [hE, kmap_all _ D _ rfl])
  have WN := hidp (fun k W => within_c k 8 (by omega) (by omega) W)
  have IS := hidp (fewL_is K E EN1.out)
  have OK := hidp (IS.out.ok k1 k2 (by omega))
  have FO := hidp (fun z (h : csum E < occ E z * ((K : Int) + 1)) => few_often K E EN1.out z h)
  have HC := hidp (fun al cl W (h : CntAt W al E.length cl E) => heard_c K al E.length cl E W h k1 k2 EN1.out (by omega))
  obtain ⟨F, hF⟩ : ∃ F, F = fewL K E := ⟨_, rfl⟩
  rw [← hF] at IS OK HC FO
  obtain ⟨lost, L⟩ := F
  have OB := hidp (fun z => occ_bd z E (fun p hp => by have := EN1.out p hp; omega))
  have hCE := hidp (show csum D = csum E by rw [hE, map_csum])
  dsimp only at *
  clear hF w0 w1 k0 CB hE hcs0 IS
  unfold fewV at *
  go_enter Try.func6, Try.ntmps6
  go_wp2_with fail
  refine P1.out.mono ?_
  rintro e wa ⟨g, n', c', rfl, hr, hba⟩
  have hwa := hba
  obtain rfl : n' = 1 := hr.len.symm
  have hw0 := bal hwa (.cells #[.int .i64 2, .int .i64 0, .slice g 1 c'] 45)
  clear hr hba P1
  go_upto_region 4 with fail
  generalize (wa.alloc (.cells #[.int .i64 2, .int .i64 0, .slice g 1 c'] 45)) = wc at *
  go_wp2_with fail
  refine (withinN_c a0 5 (by omega) (by omega) _).mono ?_
  rintro e w' ⟨rfl, rfl⟩
  go_wp2_with fail
  refine (CM.out _ hw0).mono ?_
  rintro e v0 ⟨v, rfl, hv, hb⟩
  obtain ⟨al, cl, rfl, hle, hmx⟩ := owns_form hv
  have hw1 := bstep hw0 hb
  have hbs := hb.size
  have hs0 := hw0.size
  clear hb hw0 CM
  generalize hN : D.length = N at *
  have hcl := CL.out
  go_wp2_with fail
  go_loopg [37] N (fun gg i wr => ∃ j : Nat, j ≤ N ∧ N - j ≤ gg ∧ i = .int .i64 j ∧ wr.ownsRow wc.heap.size 51 2 (.slice al N cl) N (cntV (kmap (fun y => wi y 8) D j)) ∧ Below wc.heap.size v0 wr)
  case atStart => exact ⟨0, by omega, by omega, rfl, by rw [kmap_zero]; exact hv, Below.refl _ _⟩
  case round =>
    obtain ⟨j, hj, hgg, rfl, ho, hbl⟩ := hrel
    by_cases hlt : j < N
    · rcases ho.2 with ⟨hz, h0⟩ | ⟨g, cp, cur, hve, hg, hh, _⟩
      · have := ho.1; rw [h0, cntV_len, kmap_len] at *; omega
      · simp only [Value.slice.injEq] at hve
        obtain ⟨rfl, _, rfl⟩ := hve
        have q1 := ho.cellAt (j * 2) (by omega)
        have hkl : j < (kmap (fun y => wi y 8) D j).length := by rw [kmap_len]; omega
        have GT := kmap_get (fun y => wi y 8) D j (by omega)
        rw [(cntV_get _ j hkl).1, GT.1] at q1
        have f1 := ho.frozenAt (j * 2)
        have ST := hidp (show cntV (kmap (fun y => wi y 8) D (j + 1)) = (cntV (kmap (fun y => wi y 8) D j)).set (j * 2) (.int .i64 (wi (ckey D j) 8)) by
          rw [kmap_step _ D j (by omega), ← GT.2]
          exact cntV_setK _ j _ hkl)
        have HS := hidp (ho.stored (j * 2) (.int .i64 (wi (ckey D j) 8))).1
        have HB := hidp (hbl.setCell (p := ⟨g, j * 2, none⟩) hg (.int .i64 (wi (ckey D j) 8)))
        have e2 : 0 + j * 2 = j * 2 := Nat.zero_add _
        clear hh GT hkl ho
        generalize ckey D j = y at *
        go_wp2_with fail
        refine (WN.out y _).mono ?_
        rintro e w' ⟨rfl, rfl⟩
        go_wp2_with fail
        go_roundg (N - (j + 1))
        case measure => omega
        case rel => exact ⟨j + 1, by omega, by omega, by go_num, by rw [ST.out]; exact HS.out, HB.out⟩
    · obtain rfl : j = N := by omega
      rw [HE.out] at ho
      rw [EL.out] at HC
      obtain ⟨_, _, he, hl⟩ := owns_cnts ho
      cases he
      have HL := hidp hl
      have hw2 : Below w.heap.size w wr := hw1.trans (hbl.mono hs0)
      clear ho hbl hw1 HE WN
      go_wp2_with fail
      refine (HC.out _ _ _ HL.out).mono ?_
      rintro e v2 ⟨at_, nt, ct, rfl, hO, hb⟩
      obtain ⟨_, _, he, hr⟩ := owns_cnts hO
      cases he
      have hx : Below wr.heap.size wr (v2.alloc (.cells #[.int .i64 (K : Nat), .int .i64 lost, .slice at_ nt ct] 45)) := bal hb _
      have hw3 := bstep hw2 hx
      replace HL := hidp (HL.out.below hx)
      have t0 : (v2.alloc (.cells #[.int .i64 (K : Nat), .int .i64 lost, .slice at_ nt ct] 45)).cell? ⟨v2.heap.size, 0, none⟩ = some (.int .i64 (K : Nat)) := by go_simp
      have t1 : (v2.alloc (.cells #[.int .i64 (K : Nat), .int .i64 lost, .slice at_ nt ct] 45)).cell? ⟨v2.heap.size, 1, none⟩ = some (.int .i64 lost) := by go_simp
      have t2 : (v2.alloc (.cells #[.int .i64 (K : Nat), .int .i64 lost, .slice at_ nt ct] 45)).cell? ⟨v2.heap.size, 2, none⟩ = some (.slice at_ nt ct) := by go_simp
      have HT := hidp (hr.below (bal (Below.refl _ _) (.cells #[.int .i64 (K : Nat), .int .i64 lost, .slice at_ nt ct] 45)))
      clear hb hx hr hw2 hO HC
      go_upto_region 12 with fail
      generalize (v2.alloc (.cells #[.int .i64 (K : Nat), .int .i64 lost, .slice at_ nt ct] 45)) = v3 at *
      generalize v2.heap.size = Q at *
      have CTS := hidp (counts_c al j cl E v3 HL.out (by omega) (fun p hp => by have := EN1.out p hp; omega) (by omega) (fun p hp => by have := EK.out p hp; omega))
      go_wp2_with fail
      refine CTS.out.mono ?_
      rintro e v4 ⟨r, rfl, hM, hb⟩
      have AS := hidp (AskS.mk (ck hb t0) (ck hb t1) (ck hb t2) (HT.out.below hb) hM)
      have hw5 := bstep hw3 hb
      clear hb hw3 t0 t1 t2 HT CTS HL
      go_wp2_with (at_range; refine wpList_range_i rfl _ 54 rfl 3 3 (Maps.int_keyed Try.underlying3) Try.underlying54 .i64 r j (occ E) rfl hM ?_; intro v5 cnt hrg hg5 hs5)
      go_frame
      have hb5 : Below v4.heap.size v4 v5 := below_new hg5
      clear hM
      go_loopw [] (fun wr => ∃ cnt, RangeI wr Try.prog 3 3 .i64 r v4.heap.size j (occ E) (fun _ => True) cnt ∧ Below v4.heap.size v4 wr) (fun wr => wr.rangeLeft r v4.heap.size)
      case atStart => exact ⟨cnt, hrg, hb5⟩
      case round =>
        clear hrg hb5 hg5 hs5 cnt
        obtain ⟨cnt, hrg, hbl⟩ := hrel
        go_wp2_with (at_next; refine wpList_next_i rfl _ rfl 3 3 .i64 (Maps.int_keyed Try.underlying3) Try.underlying3 Try.underlying3 r v4.heap.size j (occ E) (fun _ => True) cnt rfl hrg ?_ ?_)
        · intro hc0
          go_wp2_with fail
          go_ret
          exact ⟨rfl, bstep hw5 hbl⟩
        · intro x w1 cnt1 hwx hwc hrg1 hlt0 hlt1 hs1 hen
          clear hs1
          have hb1 : Below v4.heap.size v4 w1 := hbl.grown hlt1 hbl.size (fun k hk => by cases hk; exact Nat.le_refl _)
          have ob := OB.out x
          have hb2 := bal hb1 (.cells #[.int .i64 x] 3)
          have hbx := bal (Below.refl w1.heap.size w1) (.cells #[.int .i64 x] 3)
          have RG := hidp (hrg1.below hbx)
          have LX := hidp (AS.out.below hb2)
          have x0 : (w1.alloc (.cells #[.int .i64 x] 3)).cell? ⟨w1.heap.size, 0, none⟩ = some (.int .i64 x) := by go_simp
          have d2 := LX.out.c2
          have LE := hidp hrg.left_eq
          have pb : 0 ≤ occ E x * ((K : Int) + 1) ∧ occ E x * ((K : Int) + 1) ≤ 60000 * 17 := ⟨Int.mul_nonneg ob.1 (by omega), Int.mul_le_mul (by omega) (by omega) (by omega) (by omega)⟩
          have WM : IntKind.i64.wrap (occ E x * ((K : Int) + 1)) = occ E x * ((K : Int) + 1) := IntWalk.i64_in _ (by omega)
          clear hrg hbl hlt1 hrg1
          by_cases hgt : csum D < occ E x * ((K : Int) + 1)
          · have CF := hidp (cont_c _ _ _ _ x w1.heap.size _ LX.out.fw x0 (FO.out x (by rw [← hCE.out]; exact hgt)))
            go_upto_region 17 with fail
            generalize (w1.alloc (.cells #[.int .i64 x] 3)) = w2 at *
            generalize w1.heap.size = XB at *
            go_wp2_with fail
            refine CF.out.mono ?_
            rintro e wy ⟨rfl, hby⟩
            have RG2 := hidp (RG.out.below hby)
            have hbz := bstep hb2 hby
            clear hby LX CF d2 x0 RG hb1 hb2 hbx
            go_wp2_with fail
            go_roundw
            case rel => exact ⟨cnt1, RG2.out, hbz⟩
            case measure => rw [RG2.out.left_eq, LE.out]; omega
          · go_upto_region 17 with fail
            generalize (w1.alloc (.cells #[.int .i64 x] 3)) = w2 at *
            generalize w1.heap.size = XB at *
            go_wp2_with fail
            go_roundw
            case rel => exact ⟨cnt1, RG.out, hb2⟩
            case measure => rw [RG.out.left_eq, LE.out]; omega
end Go.Proofs.Ytlikpakjjaeblaa.fewOften
