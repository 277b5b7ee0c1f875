/- Contract of few.Put. -/
import Derived.Test.YtffocoflmbhknaaMgFewPut
namespace Go.Proofs.Ytffocoflmbhknaa
open Go.ChangeShapes Go.WideShapes Go.ChangeAt Go.RowKit
set_option maxRecDepth 20000
theorem few_ne {W V : World} {o : Obj} {e : TypeId} {n s : Nat} {v : Value} {xs : List Value} (hv : V.ownsRow (W.alloc o).drew.heap.size e s v n xs) (h : v.ownBlock = some W.heap.size) : False := by
  have := (hv.lt _ h).1
  have h2 : (W.alloc o).drew.heap.size = W.heap.size + 1 := by simp
  omega
theorem few_own {W V : World} {o : Obj} {e : TypeId} {n s : Nat} {v x0 x1 x2 : Value} {xs : List Value} (hv : V.ownsRow (W.alloc o).drew.heap.size e s v n xs) : (((V.setCell ⟨W.heap.size, 0, none⟩ x0).setCell ⟨W.heap.size, 1, none⟩ x1).setCell ⟨W.heap.size, 2, none⟩ x2).ownsRow W.heap.size e s v n xs := by
  have h2 : (W.alloc o).drew.heap.size = W.heap.size + 1 := by simp
  exact owns_mono (own_set3 hv W.heap.size (by omega) x0 x1 x2) (by omega)
/-- What Put gives back. -/
def FPost (w : World) (K : Nat) (t : Int × List (Int × Int)) (e : Ending) (w' : World) : Prop :=
  ((FewOk K t ∧ ∃ a' n' c', e = .returned (.tuple #[fewV K t.1 a' n' c', .int .i64 0]) ∧ w'.ownsRow w.heap.size 36 2 (.slice a' n' c') n' (cntV t.2)) ∨ (¬ FewOk K t ∧ e = .returned (.tuple #[fewV 0 0 none 0 0, .int .i64 2]))) ∧ Below w.heap.size w w'
set_option maxHeartbeats 8000000 in
theorem fput_c (K : Nat) (s : Int × List (Int × Int)) (a : Option Addr) (n c : Nat) (k x : Int) (w : World) (h : CntAt w a n c s.2) (hok : FewOk K s) (hx : 1 ≤ x ∧ x ≤ 1000000000000) :
    Calls Try.prog 4 #[fewV K s.1 a n c, .int .i64 k, .int .i64 x] w (FPost w K (fput K s k x)) := by
  have hl := h.len
  have hln := hok.ln
  have hk2 := hok.k2
  have CK := hidp (fun W (hB : Below w.heap.size w W) => fcheck_ok K s a n c W (h.below hB) hok)
  have AD := hidp (fun W (hB : Below w.heap.size w W) => added_c a n c s.2 k x W (h.below hB) hok.ris (by omega) (by omega) (fun p hp => by have := hok.pos p hp; have := hok.big p hp; omega))
  have hA := hidp (kadd_len k x s.2)
  have hF : fput K s k x = if K < (kadd s.2 k x).length then (s.1 + kmn (kadd s.2 k x), kless (kmn (kadd s.2 k x)) (kadd s.2 k x)) else (s.1, kadd s.2 k x) := rfl
  have AB := hidp (show ∀ p ∈ kadd s.2 k x, 0 ≤ p.2 ∧ p.2 ≤ 4000000000000 from fun p hp => by
    have h1 := kadd_pos k x hx.1 s.2 hok.pos p hp
    have h2 : p.2 ≤ 2000000000000 := kadd_big k x 1000000000000 s.2 hok.big p hp (by omega)
    omega)
  have hs0 := hok.l0
  have hs1 := hok.l1
  have hx1 : ¬ x < 1 := by omega
  have hx2 : ¬ (1000000000000 : Int) < x := by omega
  clear h hok
  generalize hFF : fput K s k x = F at *
  generalize hAA : kadd s.2 k x = A at *
  generalize hLo : s.1 = lost at *
  unfold fewV at *
  have HF := hidp hF
  have HS2 := hidp hFF
  clear hF hFF hAA hLo
  go_enter Try.func4, Try.ntmps4
  go_wp2_with fail
  have hb1 : Below w.heap.size w ((w.alloc (.cells #[.int .i64 (K : Nat), .int .i64 lost, .slice a n c] 30)).alloc few0) := bal (bal (Below.refl _ _) _) _
  refine (CK.out _ hb1).mono ?_
  rintro e wa ⟨rfl, hba⟩
  have p0 : wa.cell? ⟨w.heap.size, 0, none⟩ = some (.int .i64 (K : Nat)) := ck hba (by go_simp)
  have p1 : wa.cell? ⟨w.heap.size, 1, none⟩ = some (.int .i64 lost) := ck hba (by go_simp)
  have p2 : wa.cell? ⟨w.heap.size, 2, none⟩ = some (.slice a n c) := ck hba (by go_simp)
  have r0 : wa.cell? ⟨w.heap.size + 1, 0, none⟩ = some (.int .i64 0) := ck hba (by go_simp)
  have r1 : wa.cell? ⟨w.heap.size + 1, 1, none⟩ = some (.int .i64 0) := ck hba (by go_simp)
  have r2 : wa.cell? ⟨w.heap.size + 1, 2, none⟩ = some (.slice none 0 0) := ck hba (by go_simp)
  have FR := hidp (show ∀ o, wa.frozen? ⟨w.heap.size + 1, o, none⟩ = false from fun o => (hba.frozen (p := ⟨w.heap.size + 1, o, none⟩) (by simp)).trans (by go_simp))
  have hwa := bstep hb1 hba
  have hsa : w.heap.size + 2 ≤ wa.heap.size := by have := hba.size; simp at this; omega
  clear hb1 hba CK
  have AD2 := hidp (fun W (hB : Below wa.heap.size wa W) => AD.out W (bstep hwa hB))
  clear AD
  have n1 := ltc p0
  have n2 : ¬ w.heap.size = wa.heap.size := by omega
  have n3 : ¬ wa.heap.size = w.heap.size := by omega
  go_wp2_with fail
  go_cut [9] (fun s9 wx => ∃ (Q : Nat) (v : Value), s9 = .pointer (some ⟨Q, 0, none⟩) ∧ wa.heap.size ≤ Q ∧ v.ownBlock ≠ some Q ∧ FewS wx w.heap.size (w.heap.size + 1) Q K lost lost (.slice a n c) v ∧ wx.ownsRow wa.heap.size 36 2 v A.length (cntV A) ∧ Below wa.heap.size wa wx)
  case first =>
    go_region_held3 (fun w' => w'.cell? ⟨w.heap.size, 0, none⟩ = some (.int .i64 (K : Nat)) ∧ w'.cell? ⟨w.heap.size, 1, none⟩ = some (.int .i64 lost) ∧ w'.cell? ⟨w.heap.size, 2, none⟩ = some (.slice a n c)) (first | go_keep | exact ⟨d0, d1, d2⟩) ((go_at_call 29; refine Calls.mono (AD2.out _ ?_) ?_; (first | exact (Below.refl _ _).drew | exact (bal (Below.refl _ _) _).drew); rintro e wb ⟨v, rfl, hv, hbb⟩; have hf := owns_form hv; obtain ⟨av, cv, rfl, hv1, hv2⟩ := hf; (first | (have z := zz3 (P := wa.heap.size) rfl hbb; obtain ⟨z0, z1, z2, zf, zl, hbv, zq⟩ := z; have zf0 := zf 0; have zf1 := zf 1; have zf2 := zf 2; have d0 := zq _ _ _ p0; have d1 := zq _ _ _ p1; have d2 := zq _ _ _ p2; have ne := nec d0; obtain ⟨n21, n22⟩ := ne; have n23 := ltc d0) | (have hbv := bstep (Below.refl wa.heap.size wa).drew hbb; have d0 := ck hbv p0; have d1 := ck hbv p1; have d2 := ck hbv p2; have ne := nec d0; obtain ⟨n21, n22⟩ := ne; have n23 := ltc d0))))
    all_goals go_wp2
    all_goals go_meet
    all_goals first
      | exact ⟨_, _, rfl, Nat.le_refl _, fun e => few_ne hv e, ⟨coff3 d0 n2, coff3 d1 n2, coff3 d2 n2, ⟨_, coff3 (zq _ _ _ r0) (by omega)⟩, ⟨_, coff3 (zq _ _ _ r1) (by omega)⟩, ⟨_, coff3 (zq _ _ _ r2) (by omega)⟩, fun o => frs3 (bp_fr0 hbv r0 (FR.out o)), (res3 _ _ _ z0 z1 z2).1, (res3 _ _ _ z0 z1 z2).2.1, (res3 _ _ _ z0 z1 z2).2.2, fun o => frs3 (zf o)⟩, few_own hv, below_set3 hbv wa.heap.size (Nat.le_refl _) _ _ _⟩
      | exact ⟨_, _, rfl, by have := hbv.size; omega, fun e => by have := (hv.lt _ e).2; omega, ⟨ca d0 _, ca d1 _, ca d2 _, ⟨_, ca (ck hbv r0) _⟩, ⟨_, ca (ck hbv r1) _⟩, ⟨_, ca (ck hbv r2) _⟩, fun o => bp_fr hbv r0 (FR.out o) _, by go_simp, by go_simp, by go_simp, fun o => by go_simp⟩, owns_mono (hv.alloc _) (Nat.le_refl _), bal hbv _⟩
  case rest =>
    obtain ⟨Q, v, rfl, hQ, hvQ, FS, hv, hb⟩ := hcut
    have hwc := bstep hwa hb
    have hsz := hb.size
    replace hv := owns_mono hv (show w.heap.size + 2 ≤ wa.heap.size from hsa)
    obtain ⟨av, cv, rfl, hI⟩ := owns_cnts hv
    clear hb AD2 n1 n2 n3 p0 p1 p2 r0 r1 r2 FR hwa
    have hA2 := hA.out
    have e1 := hI.le
    have e2 := hI.max
    by_cases hK : K < A.length
    · have hK' : (K : Int) < (A.length : Int) := by omega
      have HF2 := hidp (show F = (lost + kmn A, kless (kmn A) A) by rw [HF.out, if_pos hK])
      have KB := kmn_bd 4000000000000 A AB.out (by omega)
      have MN := hidp (minfunc_c av A.length cv A wc hI (by omega) (by omega) AB.out)
      have LS := hidp (fun W (hB : CntAt W av A.length cv A) => fewless_c av A.length cv A (kmn A) W hB (by omega) KB AB.out)
      have q0 := FS.q0
      have q2 := FS.q2
      clear HF
      go_upto_region 8 with fail
      go_wp2_with fail
      refine MN.out.mono ?_
      rintro e wb ⟨y, rfl, hbb⟩
      have FS2 := hidp (FS.below hbb)
      have hIb := hidp (hI.below hbb)
      have hne := hidp (show ∀ b o, av = some ⟨b, o, none⟩ → b ≠ Q from fun b o e e2 => hvQ (by rw [e, ← e2]; rfl))
      have hwb := bstep hwc hbb
      have hQb : Q < wb.heap.size := ltc (ck hbb q0)
      have hQs : w.heap.size + 2 ≤ Q := by omega
      have hvs := hbb.size
      clear FS MN hbb q0 q2 hv hwc hvQ hI
      have q0 := FS2.out.q0
      have q1 := FS2.out.q1
      have q2 := FS2.out.q2
      have f1 := FS2.out.fq 1
      have f2 := FS2.out.fq 2
      have HLK := hidp (rfl : kmn A = kmn A)
      generalize hkm : kmn A = d at *
      generalize hkl : kless d A = A2 at *
      have hfl : ∀ W, (Instr.field 36 (.agg #[.int .i64 y, .int .i64 d]) 1).run Try.prog W = .ok (.int .i64 d) W := run_cnt_field y d
      have WR : IntKind.i64.wrap (lost + d) = lost + d := IntWalk.i64_in _ (by omega)
      clear HLK hkm hkl
      go_wp2_with fail
      go_cut [] (fun wx => ∃ v : Value, FewS wx w.heap.size (w.heap.size + 1) Q K lost (lost + d) (.slice a n c) v ∧ wx.ownsRow (w.heap.size + 2) 36 2 v A2.length (cntV A2) ∧ Below w.heap.size w wx)
      case first =>
        go_region_with (go_at_call 32; go_loud (refine Calls.mono (LS.out _ ?_) ?_; (first | exact hIb.out.below (Below.refl _ _).drew | exact (hIb.out.below (Below.refl _ _).drew).setCell ⟨Q, 1, none⟩ hne.out (.int .i64 (lost + d))); rintro e wy ⟨v, rfl, hv, hbb⟩; have hf := owns_form hv; obtain ⟨a3, c3, rfl, hv1, hv2⟩ := hf; (first | (have hbv := bstep (Below.refl wb.heap.size wb).drew hbb; have d1 := ck hbv q1; have d2 := ck hbv q2; have F4 := hidp (FS2.out.below hbv); have g1 := F4.out.fq 1; have g2 := F4.out.fq 2; have hB := hidp (bstep hwb hbv)) | (have F4 := hidp (((FS2.out.below (Below.refl _ _).drew).put1 (by omega) (by omega) (lost + d)).below hbb); have d1 := F4.out.q1; have d2 := F4.out.q2; have g1 := F4.out.fq 1; have g2 := F4.out.fq 2; have hB := hidp (bstep ((Below.drew hwb).setCell (p := ⟨Q, 1, none⟩) (by show w.heap.size ≤ Q; omega) (.int .i64 (lost + d))) hbb)))))
        all_goals go_wp2
        all_goals go_meet
        all_goals first
          | exact ⟨_, (F4.out.put2 (by omega) (by omega) _), owns_mono (ownsRow_setCell_below hv (a := ⟨Q, 2, none⟩) (by show Q < _; simp; omega) _) (by simp; omega), hB.out.setCell (p := ⟨Q, 2, none⟩) (by show w.heap.size ≤ Q; omega) _⟩
          | exact ⟨_, (F4.out.put2 (by omega) (by omega) _).put1 (by omega) (by omega) _, owns_mono (ownsRow_setCell_below (ownsRow_setCell_below hv (a := ⟨Q, 2, none⟩) (by show Q < _; simp; omega) _) (a := ⟨Q, 1, none⟩) (by show Q < _; simp; omega) _) (by simp; omega), (hB.out.setCell (p := ⟨Q, 2, none⟩) (by show w.heap.size ≤ Q; omega) _).setCell (p := ⟨Q, 1, none⟩) (by show w.heap.size ≤ Q; omega) _⟩
          | exact ⟨_, (F4.out.put1 (by omega) (by omega) _).put2 (by omega) (by omega) _, owns_mono (ownsRow_setCell_below (ownsRow_setCell_below hv (a := ⟨Q, 1, none⟩) (by show Q < _; simp; omega) _) (a := ⟨Q, 2, none⟩) (by show Q < _; simp; omega) _) (by simp; omega), (hB.out.setCell (p := ⟨Q, 1, none⟩) (by show w.heap.size ≤ Q; omega) _).setCell (p := ⟨Q, 2, none⟩) (by show w.heap.size ≤ Q; omega) _⟩
      case rest =>
        obtain ⟨v, FS3, hv, hwc⟩ := hcut
        clear FS2 LS hwb hIb hne q0 q1 q2 f1 f2 WR hfl
        have hIc := hv
        obtain ⟨a2, c2, rfl, hI2⟩ := owns_cnts hIc
        have g1 := hI2.le
        have g2 := hI2.max
        have CK3 := hidp (fcheck_g K (lost + d) a2 A2.length c2 A2 wc hI2)
        have x0 := FS3.q0
        have x1 := FS3.q1
        have x2 := FS3.q2
        clear hI2
        unfold fewV at *
        go_wp2_with fail
        refine CK3.out.mono ?_
        rintro e wd ⟨er, rfl, hbd, hiff⟩
        have F3 := FS3.below hbd
        have hvd := owns_below hIc hbd
        have hwd := bstep hwc hbd
        obtain ⟨_, _, _, ⟨u0, t0⟩, ⟨u1, t1⟩, ⟨u2, t2⟩, fr, y0, y1, y2, _⟩ := F3
        have fr0 := fr 0
        have fr1 := fr 1
        have fr2 := fr 2
        have HI := hidp hiff
        clear hiff hbd x0 x1 x2 hIc fr CK3 hv
        by_cases her : er = 0
        · subst her
          have hok := hidp (HI.out.1 rfl)
          have RR := hidp (res3 (.int .i64 (K : Nat)) (.int .i64 (lost + d)) (.slice a2 A2.length c2) t0 t1 t2)
          have BB := hidp (below_set3 hwd (w.heap.size + 1) (by omega) (.int .i64 (K : Nat)) (.int .i64 (lost + d)) (.slice a2 A2.length c2))
          have OO := hidp (owns_mono (own_set3 hvd (w.heap.size + 1) (by omega) (.int .i64 (K : Nat)) (.int .i64 (lost + d)) (.slice a2 A2.length c2)) (show w.heap.size ≤ w.heap.size + 2 by omega))
          clear HI hwd hvd
          go_wp2_with fail
          obtain ⟨s0, s1, s2⟩ := RR.out
          have hB := BB.out
          have hO := OO.out
          clear RR BB OO
          generalize (((wd.setCell ⟨w.heap.size + 1, 0, none⟩ (.int .i64 (K : Nat))).setCell ⟨w.heap.size + 1, 1, none⟩ (.int .i64 (lost + d))).setCell ⟨w.heap.size + 1, 2, none⟩ (.slice a2 A2.length c2)) = w7 at *
          exact bodyPost_ret (v := .tuple #[.agg #[.int .i64 (K : Nat), .int .i64 (lost + d), .slice a2 A2.length c2], .int .i64 0]) (by simp [results, Try.results4, go_sem, s0, s1, s2]) rfl ⟨.inl ⟨by rw [HF2.out]; exact (show FewOkZ ((K : Nat) : Int) ((lost + d, A2) : Int × List (Int × Int)).1 ((lost + d, A2) : Int × List (Int × Int)).2 from hok.out).ok, a2, A2.length, c2, by rw [HF2.out], by rw [HF2.out]; exact hO⟩, hB⟩
        · have hne := hidp (show ¬ FewOk K F from fun h => her (HI.out.2 (by have := h.okZ; rw [HF2.out] at this; exact this)))
          have RR := hidp (res3 (.int .i64 0) (.int .i64 0) (.slice none 0 0) t0 t1 t2)
          have BB := hidp (below_set3 hwd (w.heap.size + 1) (by omega) (.int .i64 0) (.int .i64 0) (.slice none 0 0))
          have her2 : (er != 0) = true := by simpa using her
          clear HI hwd hvd
          go_wp2_with fail
          obtain ⟨s0, s1, s2⟩ := RR.out
          have hB := BB.out
          clear RR BB
          generalize (((wd.setCell ⟨w.heap.size + 1, 0, none⟩ (.int .i64 0)).setCell ⟨w.heap.size + 1, 1, none⟩ (.int .i64 0)).setCell ⟨w.heap.size + 1, 2, none⟩ (.slice none 0 0)) = w7 at *
          exact bodyPost_ret (v := .tuple #[.agg #[.int .i64 0, .int .i64 0, .slice none 0 0], .int .i64 2]) (by simp [results, Try.results4, go_sem, s0, s1, s2]) rfl ⟨.inr ⟨hne.out, rfl⟩, hB⟩
    · have hK' : ¬ (K : Int) < (A.length : Int) := by omega
      have HF2 := hidp (show F = (lost, A) by rw [HF.out, if_neg hK])
      have q0 := FS.q0
      have q2 := FS.q2
      clear HF
      have hIc := hv
      have hI2 := hI
      have CK3 := hidp (fcheck_g K lost av A.length cv A wc hI2)
      have x0 := FS.q0
      have x1 := FS.q1
      have x2 := FS.q2
      clear hI2 hI
      unfold fewV at *
      go_wp2_with fail
      refine CK3.out.mono ?_
      rintro e wd ⟨er, rfl, hbd, hiff⟩
      have F3 := FS.below hbd
      have hvd := owns_below hIc hbd
      have hwd := bstep hwc hbd
      obtain ⟨_, _, _, ⟨u0, t0⟩, ⟨u1, t1⟩, ⟨u2, t2⟩, fr, y0, y1, y2, _⟩ := F3
      have fr0 := fr 0
      have fr1 := fr 1
      have fr2 := fr 2
      have HI := hidp hiff
      clear hiff hbd x0 x1 x2 hIc fr CK3 hv q0 q2
      by_cases her : er = 0
      · subst her
        have hok := hidp (HI.out.1 rfl)
        have RR := hidp (res3 (.int .i64 (K : Nat)) (.int .i64 (lost)) (.slice av A.length cv) t0 t1 t2)
        have BB := hidp (below_set3 hwd (w.heap.size + 1) (by omega) (.int .i64 (K : Nat)) (.int .i64 (lost)) (.slice av A.length cv))
        have OO := hidp (owns_mono (own_set3 hvd (w.heap.size + 1) (by omega) (.int .i64 (K : Nat)) (.int .i64 (lost)) (.slice av A.length cv)) (show w.heap.size ≤ w.heap.size + 2 by omega))
        clear HI hwd hvd
        go_wp2_with fail
        obtain ⟨s0, s1, s2⟩ := RR.out
        have hB := BB.out
        have hO := OO.out
        clear RR BB OO
        generalize (((wd.setCell ⟨w.heap.size + 1, 0, none⟩ (.int .i64 (K : Nat))).setCell ⟨w.heap.size + 1, 1, none⟩ (.int .i64 (lost))).setCell ⟨w.heap.size + 1, 2, none⟩ (.slice av A.length cv)) = w7 at *
        exact bodyPost_ret (v := .tuple #[.agg #[.int .i64 (K : Nat), .int .i64 (lost), .slice av A.length cv], .int .i64 0]) (by simp [results, Try.results4, go_sem, s0, s1, s2]) rfl ⟨.inl ⟨by rw [HF2.out]; exact (show FewOkZ ((K : Nat) : Int) ((lost, A) : Int × List (Int × Int)).1 ((lost, A) : Int × List (Int × Int)).2 from hok.out).ok, av, A.length, cv, by rw [HF2.out], by rw [HF2.out]; exact hO⟩, hB⟩
      · have hne := hidp (show ¬ FewOk K F from fun h => her (HI.out.2 (by have := h.okZ; rw [HF2.out] at this; exact this)))
        have RR := hidp (res3 (.int .i64 0) (.int .i64 0) (.slice none 0 0) t0 t1 t2)
        have BB := hidp (below_set3 hwd (w.heap.size + 1) (by omega) (.int .i64 0) (.int .i64 0) (.slice none 0 0))
        have her2 : (er != 0) = true := by simpa using her
        clear HI hwd hvd
        go_wp2_with fail
        obtain ⟨s0, s1, s2⟩ := RR.out
        have hB := BB.out
        clear RR BB
        generalize (((wd.setCell ⟨w.heap.size + 1, 0, none⟩ (.int .i64 0)).setCell ⟨w.heap.size + 1, 1, none⟩ (.int .i64 0)).setCell ⟨w.heap.size + 1, 2, none⟩ (.slice none 0 0)) = w7 at *
        exact bodyPost_ret (v := .tuple #[.agg #[.int .i64 0, .int .i64 0, .slice none 0 0], .int .i64 2]) (by simp [results, Try.results4, go_sem, s0, s1, s2]) rfl ⟨.inr ⟨hne.out, rfl⟩, hB⟩
end Go.Proofs.Ytffocoflmbhknaa
