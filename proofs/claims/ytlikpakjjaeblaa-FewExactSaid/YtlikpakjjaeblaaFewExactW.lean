/- The walk of FewExact: the law returns true at all inputs, and no old memory changes. -/
import Derived.Test.YtlikpakjjaeblaaFewKit
namespace Go.Proofs.Ytlikpakjjaeblaa.fewExact
open Go.ChangeShapes Go.WideShapes Go.ChangeAt Go.RowKit
open Go.Proofs.Ytlikpakjjaeblaa
set_option maxRecDepth 20000
theorem ok1 : FewOk 2 (0, [((5 : Int), (1 : Int))]) := ⟨by omega, by omega, by show (0 : Int) ≤ 0; omega, by show (0 : Int) ≤ _; omega, by simp, by simp [KRise], by simp, by simp⟩
theorem ok2 : FewOk 2 (0, [((5 : Int), (3 : Int))]) := ⟨by omega, by omega, by show (0 : Int) ≤ 0; omega, by show (0 : Int) ≤ _; omega, by simp, by simp [KRise], by simp, by simp⟩
theorem put1 : fput 2 (0, [((5 : Int), (1 : Int))]) 5 2 = (0, [(5, 3)]) := by decide
set_option linter.unusedVariables false
set_option maxHeartbeats 16000000 in
theorem walk (a0 : Int) (a1 : Option Addr) (n1 c1 : Nat) (zs : List (List Int)) (w : World)
    (w0 : (Lit.int .i64 a0).wf = true) (w1 : RowsAt w a1 n1 c1 zs) :
    Calls Try.prog 9 #[.int .i64 a0, .slice a1 n1 c1] w fun e w' => e = .returned (.bool true) ∧ Below w.heap.size w w' := by
  have P1 := hidp (fput_ok 2 (0, [(5, 1)]) (some ⟨w.heap.size, 0, none⟩) 1 1 5 2 _ (cnt_lit w 5 1) ok1 (by omega) (0, [(5, 3)]) put1 ok2)
  have CM := hidp (fun W (hB : Below w.heap.size w W) => came_c a1 n1 c1 zs 100 W (w1.below hB) (by omega) (by omega))
  have m2 := w1.max
  have l2 := w1.le
  have CB := hidp (camL_bd zs 100 (by omega) (min n1 60))
  have CL := hidp (show (camL zs 100 (min n1 60)).length ≤ 60 from Nat.le_trans (camL_len _ _ _) (by omega))
  generalize camL zs 100 (min n1 60) = D at *
  obtain ⟨K, hK⟩ : ∃ K : Nat, 1 + ((wn a0 16 : Nat) : Int) = (K : Int) := ⟨1 + wn a0 16, by push_cast; rfl⟩
  have k0 := wn_lt a0 16 (by omega)
  have k1 : 1 ≤ K := by omega
  have k2 : K ≤ 16 := by omega
  have hcs0 : 0 ≤ csum D ∧ csum D ≤ 60000 := by
    have := csum_bd 100 (by omega) D (fun p hp => by have := CB.out p hp; omega)
    have := CL.out
    omega
  obtain ⟨E, hE⟩ : ∃ E, E = kall (fun y => wi y (K : Int)) D := ⟨_, rfl⟩
  have EN1 := hidp (show ∀ p ∈ E, (1 : Int) ≤ p.2 from by rw [hE]; exact map_bd _ D (fun x => 1 ≤ x) (fun p hp => (CB.out p hp).1))
  have EK := hidp (show ∀ p ∈ E, (0 : Int) ≤ p.1 ∧ p.1 < (K : Int) from by
    rw [hE]
    intro p hp
    obtain ⟨x, e⟩ := map_keys _ D p hp
    rw [e]
    exact ⟨wi_lo _ _ (by omega), wi_hi _ _ (by omega)⟩)
  have hcs : 0 ≤ csum E ∧ csum E ≤ 60000 := by rw [hE, map_csum]; exact hcs0
  have EL := hidp (show E.length = D.length by rw [hE, kall_len])
  have HE := hidp (show kmap (fun y => wi y (K : Int)) D D.length = E by rw [hE, kmap_all _ D _ rfl])
  have WN := hidp (fun k W => within_c k (K : Int) (by omega) (by omega) W)
  have IS := hidp (fewL_is K E EN1.out)
  have OK := hidp (IS.out.ok k1 k2 (by omega))
  have LZ := hidp (few_exact K E EK.out EN1.out)
  have HC := hidp (fun al cl W (h : CntAt W al E.length cl E) => heard_c K al E.length cl E W h k1 k2 EN1.out (by omega))
  obtain ⟨F, hF⟩ : ∃ F, F = fewL K E := ⟨_, rfl⟩
  rw [← hF] at IS OK HC LZ
  have AK := hidp (fun a n c k W (h : CntAt W a n c F.2) => fask_c K F a n c k W h OK.out)
  obtain ⟨lost, L⟩ := F
  obtain rfl : lost = 0 := LZ.out
  have NE := hidp (fun z => show occ L z = occ E z by have := IS.out.near z; dsimp only at this; omega)
  have OB := hidp (fun z => OK.out.occ_le z)
  dsimp only at *
  clear hF w0 w1 k0 CB hE hcs0 LZ IS
  unfold fewV at *
  go_enter Try.func9, Try.ntmps9
  go_wp2_with fail
  refine P1.out.mono ?_
  rintro e wa ⟨g, n', c', rfl, hr, hba⟩
  have hwa := bstep (bal (Below.refl w.heap.size w) _) hba
  obtain rfl : n' = 1 := hr.len.symm
  have SF := hidp (eqcc_c g (some ⟨wa.heap.size + 1, 0, none⟩) 1 c' 1 [(5, 3)] ((wa.alloc (.cells #[.int .i64 2, .int .i64 0, .slice g 1 c'] 45)).alloc (.cells #[.int .i64 5, .int .i64 3] 51)) (hr.below (bal (bal (Below.refl wa.heap.size wa) (.cells #[.int .i64 2, .int .i64 0, .slice g 1 c'] 45)) (.cells #[.int .i64 5, .int .i64 3] 51))) (by
    have := cnt_lit (wa.alloc (.cells #[.int .i64 2, .int .i64 0, .slice g 1 c'] 45)) 5 3
    simpa using this))
  have hwb := bal (bal hwa (.cells #[.int .i64 2, .int .i64 0, .slice g 1 c'] 45)) (.cells #[.int .i64 5, .int .i64 3] 51)
  clear hr hba hwa P1
  go_wp2_with fail
  refine SF.out.mono ?_
  rintro e wc ⟨rfl, hbc⟩
  have hw0 := bstep hwb hbc
  clear hbc hwb SF
  go_wp2_with fail
  refine (withinN_c a0 16 (by omega) (by omega) _).mono ?_
  rintro e w' ⟨rfl, rfl⟩
  go_wp2_with fail
  refine (CM.out _ hw0).mono ?_
  rintro e v0 ⟨v, rfl, hv, hb⟩
  obtain ⟨al, cl, rfl, hle, hmx⟩ := owns_form hv
  have hw1 := bstep hw0 hb
  have hbs := hb.size
  have hs0 := hw0.size
  clear hb hw0 CM
  generalize hN : D.length = N at *
  have hcl := CL.out
  go_wp2_with fail
  go_loopg [44] N (fun gg i wr => ∃ j : Nat, j ≤ N ∧ N - j ≤ gg ∧ i = .int .i64 j ∧ wr.ownsRow wc.heap.size 51 2 (.slice al N cl) N (cntV (kmap (fun y => wi y (K : Int)) D j)) ∧ Below wc.heap.size v0 wr)
  case atStart => exact ⟨0, by omega, by omega, rfl, by rw [kmap_zero]; exact hv, Below.refl _ _⟩
  case round =>
    obtain ⟨j, hj, hgg, rfl, ho, hbl⟩ := hrel
    by_cases hlt : j < N
    · rcases ho.2 with ⟨hz, h0⟩ | ⟨g, cp, cur, hve, hg, hh, _⟩
      · have := ho.1; rw [h0, cntV_len, kmap_len] at *; omega
      · simp only [Value.slice.injEq] at hve
        obtain ⟨rfl, _, rfl⟩ := hve
        have q1 := ho.cellAt (j * 2) (by omega)
        have hkl : j < (kmap (fun y => wi y (K : Int)) D j).length := by rw [kmap_len]; omega
        have GT := kmap_get (fun y => wi y (K : Int)) D j (by omega)
        rw [(cntV_get _ j hkl).1, GT.1] at q1
        have f1 := ho.frozenAt (j * 2)
        have ST := hidp (show cntV (kmap (fun y => wi y (K : Int)) D (j + 1)) = (cntV (kmap (fun y => wi y (K : Int)) D j)).set (j * 2) (.int .i64 (wi (ckey D j) (K : Int))) by
          rw [kmap_step _ D j (by omega), ← GT.2]
          exact cntV_setK _ j _ hkl)
        have HS := hidp (ho.stored (j * 2) (.int .i64 (wi (ckey D j) (K : Int)))).1
        have HB := hidp (hbl.setCell (p := ⟨g, j * 2, none⟩) hg (.int .i64 (wi (ckey D j) (K : Int))))
        have e2 : 0 + j * 2 = j * 2 := Nat.zero_add _
        clear hh GT hkl ho
        generalize ckey D j = y at *
        go_wp2_with fail
        refine (WN.out y _).mono ?_
        rintro e w' ⟨rfl, rfl⟩
        go_wp2_with fail
        go_roundg (N - (j + 1))
        case measure => omega
        case rel => exact ⟨j + 1, by omega, by omega, by go_num, by rw [ST.out]; exact HS.out, HB.out⟩
    · obtain rfl : j = N := by omega
      rw [HE.out] at ho
      rw [EL.out] at HC
      obtain ⟨_, _, he, hl⟩ := owns_cnts ho
      cases he
      have HL := hidp hl
      have hw2 : Below w.heap.size w wr := hw1.trans (hbl.mono hs0)
      clear ho hbl hw1 HE WN
      go_wp2_with fail
      refine (HC.out _ _ _ HL.out).mono ?_
      rintro e v2 ⟨at_, nt, ct, rfl, hO, hb⟩
      obtain ⟨_, _, he, hr⟩ := owns_cnts hO
      cases he
      have hx : Below wr.heap.size wr (v2.alloc (.cells #[.int .i64 (K : Nat), .int .i64 0, .slice at_ nt ct] 45)) := bal hb _
      have hw3 := bstep hw2 hx
      replace HL := hidp (HL.out.below hx)
      have t0 : (v2.alloc (.cells #[.int .i64 (K : Nat), .int .i64 0, .slice at_ nt ct] 45)).cell? ⟨v2.heap.size, 0, none⟩ = some (.int .i64 (K : Nat)) := by go_simp
      have t1 : (v2.alloc (.cells #[.int .i64 (K : Nat), .int .i64 0, .slice at_ nt ct] 45)).cell? ⟨v2.heap.size, 1, none⟩ = some (.int .i64 0) := by go_simp
      have t2 : (v2.alloc (.cells #[.int .i64 (K : Nat), .int .i64 0, .slice at_ nt ct] 45)).cell? ⟨v2.heap.size, 2, none⟩ = some (.slice at_ nt ct) := by go_simp
      have HT := hidp (hr.below (bal (Below.refl _ _) (.cells #[.int .i64 (K : Nat), .int .i64 0, .slice at_ nt ct] 45)))
      clear hb hx hr hw2 hO HC
      go_upto_region 12 with fail
      generalize (v2.alloc (.cells #[.int .i64 (K : Nat), .int .i64 0, .slice at_ nt ct] 45)) = v3 at *
      generalize v2.heap.size = Q at *
      have CTS := hidp (counts_c al j cl E v3 HL.out (by omega) (fun p hp => by have := EN1.out p hp; omega) (by omega) (fun p hp => by have := EK.out p hp; omega))
      go_wp2_with fail
      refine CTS.out.mono ?_
      rintro e v4 ⟨r, rfl, hM, hb⟩
      have AS := hidp (AskS.mk (ck hb t0) (ck hb t1) (ck hb t2) (HT.out.below hb) hM)
      have hw5 := bstep hw3 hb
      clear hb hw3 t0 t1 t2 HT CTS HL
      go_wp2_with (at_range; refine wpList_range_i rfl _ 54 rfl 3 3 (Maps.int_keyed Try.underlying3) Try.underlying54 .i64 r j (occ E) rfl hM ?_; intro v5 cnt hrg hg5 hs5)
      go_frame
      have hb5 : Below v4.heap.size v4 v5 := below_new hg5
      clear hM
      go_loopw [] (fun wr => ∃ cnt, RangeI wr Try.prog 3 3 .i64 r v4.heap.size j (occ E) (fun _ => True) cnt ∧ Below v4.heap.size v4 wr) (fun wr => wr.rangeLeft r v4.heap.size)
      case atStart => exact ⟨cnt, hrg, hb5⟩
      case round =>
        clear hrg hb5 hg5 hs5 cnt
        obtain ⟨cnt, hrg, hbl⟩ := hrel
        go_wp2_with (at_next; refine wpList_next_i rfl _ rfl 3 3 .i64 (Maps.int_keyed Try.underlying3) Try.underlying3 Try.underlying3 r v4.heap.size j (occ E) (fun _ => True) cnt rfl hrg ?_ ?_)
        · intro hc0
          go_wp2_with fail
          go_ret
          exact ⟨rfl, bstep hw5 hbl⟩
        · intro x w1 cnt1 hwx hwc hrg1 hlt1 hg1 hs1 hen
          have hb1 : Below v4.heap.size v4 w1 := hbl.grown hg1 hbl.size (fun k hk => by cases hk; exact Nat.le_refl _)
          have LX := hidp (AS.out.below hb1)
          have A1 := hidp (AK.out _ _ _ x _ LX.out.fw)
          rw [NE.out x] at A1
          have d0 := LX.out.c0
          have d1 := LX.out.c1
          have d2 := LX.out.c2
          have hob := OB.out x
          rw [NE.out x] at hob
          have hne : (occ E x != occ E x) = false := by simp
          have LE := hidp hrg.left_eq
          clear hrg hbl hg1
          go_wp2_with fail
          refine A1.out.mono ?_
          rintro e wy ⟨rfl, hby⟩
          have RG := hidp (hrg1.below hby)
          have hbz := bstep hb1 hby
          have Z : occ E x + 0 = occ E x := Int.add_zero _
          clear hby LX A1 d0 d1 d2 hrg1 hb1
          go_wp2_with fail
          go_roundw
          case rel => exact ⟨cnt1, RG.out, hbz⟩
          case measure => rw [RG.out.left_eq, LE.out]; omega
end Go.Proofs.Ytlikpakjjaeblaa.fewExact
