/- The walk of FewOnce: the law returns true at all inputs, and no old memory changes. -/
import Derived.Test.YtlikpakjjaeblaaFewOpen
import Derived.Test.YtlikpakjjaeblaaFewKit
namespace Go.Proofs.Ytlikpakjjaeblaa.fewOnce
open Go.ChangeShapes Go.WideShapes Go.ChangeAt Go.RowKit
open Go.Proofs.Ytlikpakjjaeblaa
set_option maxRecDepth 20000
theorem kadd_kadd (k a b : Int) : ∀ L, kadd (kadd L k a) k b = kadd L k (a + b)
  | [] => by simp [kadd]
  | p :: l => by
    have ih := kadd_kadd k a b l
    simp only [kadd]
    by_cases h1 : k < p.1
    · rw [if_pos h1, if_pos h1]
      simp [kadd]
    · rw [if_neg h1, if_neg h1]
      by_cases h2 : k = p.1
      · rw [if_pos h2, if_pos h2]
        simp only [kadd]
        rw [if_neg (by omega), if_pos h2]
        simp only [Int.add_assoc]
      · rw [if_neg h2, if_neg h2]
        simp only [kadd]
        rw [if_neg h1, if_neg h2, ih]
theorem kadd_mem_len (k a : Int) : ∀ L, KRise L → (∃ p ∈ L, p.1 = k) → (kadd L k a).length = L.length
  | [], _, h => by obtain ⟨p, h, _⟩ := h; simp at h
  | p :: l, hr, h => by
    have h' := List.pairwise_cons.1 hr
    simp only [kadd]
    by_cases h1 : k < p.1
    · obtain ⟨q, hq, e⟩ := h
      rcases List.mem_cons.1 hq with rfl | hq
      · omega
      · have := h'.1 q hq; omega
    · rw [if_neg h1]
      by_cases h2 : k = p.1
      · rw [if_pos h2]; rfl
      · rw [if_neg h2, List.length_cons, List.length_cons, kadd_mem_len k a l h'.2 (by
          obtain ⟨q, hq, e⟩ := h
          rcases List.mem_cons.1 hq with rfl | hq
          · exact absurd e.symm h2
          · exact ⟨q, hq, e⟩)]
theorem kadd_mono (k a b : Int) (hb : 0 ≤ b) : ∀ L, ∀ p ∈ kadd L k a, ∃ q ∈ kadd L k (a + b), p.2 ≤ q.2
  | [], p, h => by
    simp [kadd] at h
    exact ⟨(k, a + b), by simp [kadd], by rw [h]; show a ≤ a + b; omega⟩
  | r :: l, p, h => by
    have ih := kadd_mono k a b hb l p
    simp only [kadd] at h ⊢
    by_cases h1 : k < r.1
    · rw [if_pos h1] at h ⊢
      rcases List.mem_cons.1 h with rfl | h
      · exact ⟨(k, a + b), by simp, by show a ≤ a + b; omega⟩
      · exact ⟨p, by simp only [List.mem_cons] at h ⊢; exact .inr h, Int.le_refl _⟩
    · rw [if_neg h1] at h ⊢
      by_cases h2 : k = r.1
      · rw [if_pos h2] at h ⊢
        rcases List.mem_cons.1 h with rfl | h
        · exact ⟨(r.1, r.2 + (a + b)), by simp, by show r.2 + a ≤ r.2 + (a + b); omega⟩
        · exact ⟨p, by simp [h], Int.le_refl _⟩
      · rw [if_neg h2] at h ⊢
        rcases List.mem_cons.1 h with rfl | h
        · exact ⟨p, by simp, Int.le_refl _⟩
        · obtain ⟨q, hq, e⟩ := ih h
          exact ⟨q, by simp [hq], e⟩
theorem fput_has (K : Nat) (lost : Int) (L : List (Int × Int)) (k a : Int) (hr : KRise L) (hl : L.length ≤ K) (h : ∃ p ∈ L, p.1 = k) : fput K (lost, L) k a = (lost, kadd L k a) := by
  unfold fput
  rw [if_neg]
  show ¬ K < (kadd L k a).length
  rw [kadd_mem_len k a L hr h]; omega
theorem less_ok (K : Nat) (lost : Int) (L : List (Int × Int)) (k a b : Int) (hb : 0 ≤ b) (ha : 1 ≤ a) (hL : FewOk K (lost, L)) (hk : ∃ p ∈ L, p.1 = k) (h : FewOk K (lost, kadd L k (a + b))) : FewOk K (lost, kadd L k a) :=
  ⟨hL.k1, hL.k2, hL.l0, hL.l1, by
    have := hL.ln
    show (kadd L k a).length ≤ K
    rw [kadd_mem_len k a L hL.ris hk]; exact this, kadd_rise k a L hL.ris, kadd_pos k a ha L hL.pos, fun p hp => by
    obtain ⟨q, hq, e⟩ := kadd_mono k a b hb L p hp
    have := h.big q hq
    omega⟩
theorem mem_kadd (k a : Int) : ∀ L, (∃ p ∈ L, p.1 = k) → ∃ p ∈ kadd L k a, p.1 = k
  | [], h => by obtain ⟨p, h, _⟩ := h; simp at h
  | r :: l, h => by
    simp only [kadd]
    by_cases h1 : k < r.1
    · rw [if_pos h1]; exact ⟨(k, a), by simp, rfl⟩
    · rw [if_neg h1]
      by_cases h2 : k = r.1
      · rw [if_pos h2]; exact ⟨(r.1, r.2 + a), by simp, h2.symm⟩
      · rw [if_neg h2]
        obtain ⟨q, hq, e⟩ := mem_kadd k a l (by
          obtain ⟨q, hq, e⟩ := h
          rcases List.mem_cons.1 hq with rfl | hq
          · exact absurd e.symm h2
          · exact ⟨q, hq, e⟩)
        exact ⟨q, by simp [hq], e⟩
/-- few.Put where what comes of it may be: an own slice. -/
theorem fput_own (K : Nat) (s : Int × List (Int × Int)) (a : Option Addr) (n c : Nat) (k x : Int) (w : World) (h : CntAt w a n c s.2) (hok : FewOk K s) (hx : 1 ≤ x ∧ x ≤ 1000000000000) (t : Int × List (Int × Int)) (ht : fput K s k x = t) (hok2 : FewOk K t) :
    Calls Try.prog 21 #[fewV K s.1 a n c, .int .i64 k, .int .i64 x] w fun e w' => ∃ a' n' c', e = .returned (.tuple #[fewV K t.1 a' n' c', .int .i64 0]) ∧ (CntAt w' a' n' c' t.2 ∧ ∀ b o, a' = some ⟨b, o, none⟩ → w.heap.size ≤ b) ∧ Below w.heap.size w w' := by
  refine (fput_c K s a n c k x w h hok hx).mono ?_
  rw [ht]
  rintro e w' ⟨⟨_, a', n', c', rfl, hO⟩ | ⟨hne, _⟩, hb⟩
  · obtain ⟨_, _, e, hI⟩ := owns_cnts hO
    cases e
    exact ⟨a', n', c', rfl, ⟨hI, fun b o e => (owns_far hO b o e).1⟩, hb⟩
  · exact absurd hok2 hne
/-- few.Put where what comes of it may not be. -/
theorem fput_no (K : Nat) (s : Int × List (Int × Int)) (a : Option Addr) (n c : Nat) (k x : Int) (w : World) (h : CntAt w a n c s.2) (hok : FewOk K s) (hx : 1 ≤ x ∧ x ≤ 1000000000000) (t : Int × List (Int × Int)) (ht : fput K s k x = t) (hok2 : ¬ FewOk K t) :
    Calls Try.prog 21 #[fewV K s.1 a n c, .int .i64 k, .int .i64 x] w fun e w' => e = .returned (.tuple #[fewV 0 0 none 0 0, .int .i64 2]) ∧ Below w.heap.size w w' := by
  refine (fput_c K s a n c k x w h hok hx).mono ?_
  rw [ht]
  rintro e w' ⟨⟨hy, _⟩ | ⟨_, rfl⟩, hb⟩
  · exact absurd hy hok2
  · exact ⟨rfl, hb⟩
set_option maxHeartbeats 2000000 in
/-- few.Put at no few. -/
theorem fput_bad (k x : Int) (w : World) :
    Calls Try.prog 21 #[fewV 0 0 none 0 0, .int .i64 k, .int .i64 x] w fun e w' => (∃ er : Int, e = .returned (.tuple #[fewV 0 0 none 0 0, .int .i64 er])) ∧ Below w.heap.size w w' := by
  have CK := hidp (fun W => fcheck_g 0 0 none 0 0 [] W (cnt_nil W))
  unfold fewV at *
  go_enter Try.func21, Try.ntmps21
  go_wp2_with fail
  have hb1 : Below w.heap.size w ((w.alloc few0).alloc few0) := bal (bal (Below.refl _ _) _) _
  refine (CK.out _).mono ?_
  rintro e wa ⟨er, rfl, hba, hi⟩
  have hne : (er != 0) = true := by
    rw [bne_iff_ne]
    intro e
    have := (hi.1 e).k1
    omega
  have r0 : wa.cell? ⟨w.heap.size + 1, 0, none⟩ = some (.int .i64 0) := ck hba (by go_simp)
  have r1 : wa.cell? ⟨w.heap.size + 1, 1, none⟩ = some (.int .i64 0) := ck hba (by go_simp)
  have r2 : wa.cell? ⟨w.heap.size + 1, 2, none⟩ = some (.slice none 0 0) := ck hba (by go_simp)
  have z0 : wa.frozen? ⟨w.heap.size + 1, 0, none⟩ = false := (hba.frozen (p := ⟨w.heap.size + 1, 0, none⟩) (by simp)).trans (by go_simp)
  have z1 : wa.frozen? ⟨w.heap.size + 1, 1, none⟩ = false := (hba.frozen (p := ⟨w.heap.size + 1, 1, none⟩) (by simp)).trans (by go_simp)
  have z2 : wa.frozen? ⟨w.heap.size + 1, 2, none⟩ = false := (hba.frozen (p := ⟨w.heap.size + 1, 2, none⟩) (by simp)).trans (by go_simp)
  have hwa := bstep hb1 hba
  have RR := hidp (res3 (.int .i64 0) (.int .i64 0) (.slice none 0 0) r0 r1 r2)
  have BB := hidp (below_set3 hwa (w.heap.size + 1) (by omega) (.int .i64 0) (.int .i64 0) (.slice none 0 0))
  clear hba hwa hi CK hb1
  go_wp2_with fail
  obtain ⟨s0, s1, s2⟩ := RR.out
  have hB := BB.out
  clear RR BB
  generalize (((wa.setCell ⟨w.heap.size + 1, 0, none⟩ (.int .i64 0)).setCell ⟨w.heap.size + 1, 1, none⟩ (.int .i64 0)).setCell ⟨w.heap.size + 1, 2, none⟩ (.slice none 0 0)) = w7 at *
  exact bodyPost_ret (v := .tuple #[.agg #[.int .i64 0, .int .i64 0, .slice none 0 0], .int .i64 er]) (by simp [results, Try.results21, go_sem, s0, s1, s2]) rfl ⟨⟨er, rfl⟩, hB⟩
/-- What stands: the argument's box P, the few at Q that is put to. -/
structure OnS (W : World) (P Q : Nat) (K lost : Int) (va : Value) (kq lq : Int) (vq : Value) : Prop where
  p0 : W.cell? ⟨P, 0, none⟩ = some (.int .i64 K)
  p1 : W.cell? ⟨P, 1, none⟩ = some (.int .i64 lost)
  p2 : W.cell? ⟨P, 2, none⟩ = some va
  q0 : W.cell? ⟨Q, 0, none⟩ = some (.int .i64 kq)
  q1 : W.cell? ⟨Q, 1, none⟩ = some (.int .i64 lq)
  q2 : W.cell? ⟨Q, 2, none⟩ = some vq
  fq : ∀ o, W.frozen? ⟨Q, o, none⟩ = false
theorem OnS.below {W W' : World} {P Q : Nat} {K lost kq lq : Int} {va vq : Value} (h : OnS W P Q K lost va kq lq vq) (hb : Below W.heap.size W W') : OnS W' P Q K lost va kq lq vq :=
  ⟨ck hb h.p0, ck hb h.p1, ck hb h.p2, ck hb h.q0, ck hb h.q1, ck hb h.q2, fun o => (hb.frozen (p := ⟨Q, o, none⟩) (show Q < _ from ltc h.q0)).trans (h.fq o)⟩
theorem OnS.put {W : World} {P Q : Nat} {K lost kq lq : Int} {va vq : Value} (h : OnS W P Q K lost va kq lq vq) (hPQ : P ≠ Q) (k2 l2 : Int) (v2 : Value) : OnS (((W.setCell ⟨Q, 0, none⟩ (.int .i64 k2)).setCell ⟨Q, 1, none⟩ (.int .i64 l2)).setCell ⟨Q, 2, none⟩ v2) P Q K lost va k2 l2 v2 :=
  ⟨coff3 h.p0 hPQ, coff3 h.p1 hPQ, coff3 h.p2 hPQ, (res3 _ _ _ h.q0 h.q1 h.q2).1, (res3 _ _ _ h.q0 h.q1 h.q2).2.1, (res3 _ _ _ h.q0 h.q1 h.q2).2.2, fun o => frs3 (h.fq o)⟩
theorem ok1 : FewOk 1 (0, [((5 : Int), (1 : Int))]) := ⟨by omega, by omega, by show (0 : Int) ≤ 0; omega, by show (0 : Int) ≤ _; omega, by simp, by simp [KRise], by simp, by simp⟩
theorem ok2 : FewOk 1 (0, [((5 : Int), (10 : Int))]) := ⟨by omega, by omega, by show (0 : Int) ≤ 0; omega, by show (0 : Int) ≤ _; omega, by simp, by simp [KRise], by simp, by simp⟩
theorem put1 : fput 1 (0, [((5 : Int), (1 : Int))]) 5 9 = (0, [(5, 10)]) := by decide
set_option linter.unusedVariables false
set_option maxHeartbeats 16000000 in
theorem walk (KK lost : Int) (a0 : Option Addr) (n0 c0 : Nat) (L : List (Int × Int)) (a1 a2 a3 : Int) (w : World)
    (w0 : CntAt w a0 n0 c0 L) (w1 : (Lit.int .i64 a1).wf = true) (w2 : (Lit.int .i64 a2).wf = true) (w3 : (Lit.int .i64 a3).wf = true) :
    Calls Try.prog 7 #[fewV KK lost a0 n0 c0, .int .i64 a1, .int .i64 a2, .int .i64 a3] w fun e w' => e = .returned (.bool true) ∧ Below w.heap.size w w' := by
  have P1 := hidp (fput_ok 1 (0, [(5, 1)]) (some ⟨w.heap.size + 1, 0, none⟩) 1 1 5 9 ((w.alloc (.cells #[.int .i64 KK, .int .i64 lost, .slice a0 n0 c0] 45)).alloc (.cells #[.int .i64 5, .int .i64 1] 51)) (by
    have := cnt_lit (w.alloc (.cells #[.int .i64 KK, .int .i64 lost, .slice a0 n0 c0] 45)) 5 1
    simpa using this) ok1 (by omega) (0, [(5, 10)]) put1 ok2)
  have H := hidp w0
  have hln := w0.len
  have mm := w0.max
  have ee := w0.le
  have CK := hidp (fun W (hB : Below w.heap.size w W) => fcheck_g KK lost a0 n0 c0 L W (w0.below hB))
  clear w0 w1 w2 w3
  unfold fewV at *
  go_enter Try.func7, Try.ntmps7
  go_wp2_with fail
  refine P1.out.mono ?_
  rintro e wa ⟨g, n', c', rfl, hr, hba⟩
  have hb0 := bal (bal (Below.refl w.heap.size w) (.cells #[.int .i64 KK, .int .i64 lost, .slice a0 n0 c0] 45)) (.cells #[.int .i64 5, .int .i64 1] 51)
  have hwa := bstep hb0 hba
  obtain rfl : n' = 1 := hr.len.symm
  have hbx := bal (bal (Below.refl wa.heap.size wa) (.cells #[.int .i64 1, .int .i64 0, .slice g 1 c'] 45)) (.cells #[.int .i64 5, .int .i64 10] 51)
  have SF := hidp (eqcc_c g (some ⟨wa.heap.size + 1, 0, none⟩) 1 c' 1 [(5, 10)] ((wa.alloc (.cells #[.int .i64 1, .int .i64 0, .slice g 1 c'] 45)).alloc (.cells #[.int .i64 5, .int .i64 10] 51)) (hr.below hbx) (by
    have := cnt_lit (wa.alloc (.cells #[.int .i64 1, .int .i64 0, .slice g 1 c'] 45)) 5 10
    simpa using this))
  have p0 : wa.cell? ⟨w.heap.size, 0, none⟩ = some (.int .i64 KK) := ck hba (by go_simp)
  have p1 : wa.cell? ⟨w.heap.size, 1, none⟩ = some (.int .i64 lost) := ck hba (by go_simp)
  have p2 : wa.cell? ⟨w.heap.size, 2, none⟩ = some (.slice a0 n0 c0) := ck hba (by go_simp)
  have ON := hidp (show OnS ((wa.alloc (.cells #[.int .i64 1, .int .i64 0, .slice g 1 c'] 45)).alloc (.cells #[.int .i64 5, .int .i64 10] 51)) w.heap.size wa.heap.size KK lost (.slice a0 n0 c0) 1 0 (.slice g 1 c') from
    ⟨ck hbx p0, ck hbx p1, ck hbx p2, by go_simp, by go_simp, by go_simp, fun o => by go_simp⟩)
  have hwb := bstep hwa hbx
  have hPQ : w.heap.size < wa.heap.size := ltc p0
  clear hr hba hwa P1 hb0 hbx p0 p1 p2
  unfold fewV at *
  go_wp2_with fail
  refine SF.out.mono ?_
  rintro e wc ⟨rfl, hbc⟩
  replace ON := hidp (ON.out.below hbc)
  have hw0 := bstep hwb hbc
  clear hbc hwb SF
  generalize hQ : wa.heap.size = Q at *
  clear hQ
  have p0 := ON.out.p0
  have p1 := ON.out.p1
  have p2 := ON.out.p2
  go_wp2_with fail
  refine (CK.out _ hw0).mono ?_
  rintro e wd ⟨er, rfl, hbd, hiff⟩
  replace ON := hidp (ON.out.below hbd)
  have hw1 := bstep hw0 hbd
  clear hbd hw0 CK p0 p1 p2
  have p0 := ON.out.p0
  have p1 := ON.out.p1
  have p2 := ON.out.p2
  by_cases her : er = 0
  rotate_left
  · have hne : (er != 0) = true := by rw [bne_iff_ne]; exact her
    clear hiff her
    go_wp2_with fail
    go_ret
    exact ⟨rfl, hw1⟩
  subst her
  have hz := hiff.1 rfl
  clear hiff
  by_cases hn0 : n0 = 0
  · subst hn0
    go_wp2_with fail
    go_ret
    exact ⟨rfl, hw1⟩
  obtain ⟨K, rfl⟩ : ∃ K : Nat, KK = (K : Int) := ⟨KK.toNat, by have := hz.k1; omega⟩
  have OK0 : FewOk K (lost, L) := (show FewOkZ ((K : Nat) : Int) ((lost, L) : Int × List (Int × Int)).1 ((lost, L) : Int × List (Int × Int)).2 from hz).ok
  have nk := OK0.ln
  have k2 := OK0.k2
  dsimp only at nk
  obtain ⟨b, o, rfl, hbl, hcc⟩ := H.out.cells (by omega)
  obtain ⟨i, hi⟩ : ∃ i, i = wn a1 (n0 : Int) := ⟨_, rfl⟩
  have hin := wn_lt a1 (n0 : Int) (by omega)
  rw [← hi] at hin
  have WN := hidp (fun W => withinN_c a1 (n0 : Int) (by omega) (by omega) W)
  rw [← hi] at WN
  have qk := (hcc i (by omega)).1
  have hbw := hw1.size
  have q0 := (hw1.cell (p := ⟨b, o + i * 2, none⟩) hbl).trans qk
  have HK := hidp (show ∃ p ∈ L, p.1 = ckey L i from ⟨_, cmem L i (by omega), rfl⟩)
  obtain ⟨key, hkey⟩ : ∃ key, key = ckey L i := ⟨_, rfl⟩
  rw [← hkey] at q0 HK
  have hin2 : i < n0 := by omega
  clear hcc qk hi hkey hz
  go_wp2_with fail
  go_quiet ((go_at_call 14; exact Calls.quiet_of_same ((WN.out _).mono fun _ _ h => ⟨h.1, h.2.symm⟩)))
  have hdr := below_drewN (Below.refl wd.heap.size wd) nq
  replace ON := hidp (ON.out.below hdr)
  have hw2 := bstep hw1 hdr
  clear hdr hw1 p0 p1 p2 q0 WN
  generalize wd.drewN nq = we at *
  obtain ⟨x, hx⟩ : ∃ x, x = 1 + wi a2 1000 := ⟨_, rfl⟩
  obtain ⟨y, hy⟩ : ∃ y, y = 1 + wi a3 1000 := ⟨_, rfl⟩
  have x1 := wi_lo a2 1000 (by omega)
  have x2 := wi_hi a2 1000 (by omega)
  have y1 := wi_lo a3 1000 (by omega)
  have y2 := wi_hi a3 1000 (by omega)
  have hx3 : 1 ≤ x ∧ x ≤ 1000 := by omega
  have hy3 : 1 ≤ y ∧ y ≤ 1000 := by omega
  have F1 := hidp (fput_has K lost L key x OK0.ris OK0.ln HK.out)
  have F3 := hidp (fput_has K lost L key (x + y) OK0.ris OK0.ln HK.out)
  have F2 := hidp (show fput K (lost, kadd L key x) key y = (lost, kadd L key (x + y)) by
    rw [fput_has K lost (kadd L key x) key y (kadd_rise key x L OK0.ris) (by rw [kadd_mem_len key x L OK0.ris HK.out]; exact OK0.ln) (mem_kadd key x L HK.out), kadd_kadd])
  have LO := hidp (less_ok K lost L key x y (by omega) (by omega) OK0 HK.out)
  have HW := hidp (fun W => within_c a2 1000 (by omega) (by omega) W)
  have HV := hidp (fun W => within_c a3 1000 (by omega) (by omega) W)
  rw [show wi a2 1000 = x - 1 by omega] at HW
  rw [show wi a3 1000 = y - 1 by omega] at HV
  clear hx hy x1 x2 y1 y2
  have E1 : 1 + (x - 1) = x := by omega
  have E2 : 1 + (y - 1) = y := by omega
  go_wp2_with fail
  refine (HW.out _).mono ?_
  rintro e w' ⟨rfl, rfl⟩
  go_wp2_with fail
  refine (HV.out _).mono ?_
  rintro e w' ⟨rfl, rfl⟩
  clear HW HV
  have C0 := hidp (fun W (hB : Below w.heap.size w W) => H.out.below hB)
  have p0 := ON.out.p0
  have p1 := ON.out.p1
  have p2 := ON.out.p2
  have OK1 := hidp OK0
  clear OK0
  by_cases hX : FewOk K (lost, kadd L key x)
  · by_cases hY : FewOk K (lost, kadd L key (x + y))
    · have PC := hidp (fput_own K (lost, L) (some ⟨b, o, none⟩) n0 c0 key x we (C0.out _ hw2) OK1.out (by omega) _ F1.out hX)
      unfold fewV at *
      go_wp2_with fail
      refine PC.out.mono ?_
      rintro e wf ⟨g1, m1, d1, rfl, ⟨hI1, hf1⟩, hb⟩
      have O1 := ON.out.below hb
      have q0 := O1.q0
      have q1 := O1.q1
      have q2 := O1.q2
      have f0 := O1.fq 0
      have f1 := O1.fq 1
      have f2 := O1.fq 2
      have O2 := hidp (O1.put (by omega) ((K : Nat)) (lost) (.slice g1 m1 d1))
      have hw3 := hidp (below_set3 (bstep hw2 hb) Q (by omega) (.int .i64 ((K : Nat))) (.int .i64 (lost)) (.slice g1 m1 d1))
      have hsz := hb.size
      have hQw := ltc ON.out.q0
      have hne : ∀ b o, g1 = some ⟨b, o, none⟩ → b ≠ Q := fun b o e => by have := hf1 b o e; omega
      have CI := hidp (((hI1.setCell ⟨Q, 0, none⟩ hne (.int .i64 (K : Nat))).setCell ⟨Q, 1, none⟩ hne (.int .i64 lost)).setCell ⟨Q, 2, none⟩ hne (.slice g1 m1 d1))
      have em := hI1.max
      have en := hI1.le
      clear hI1 hf1 hne hsz hQw
      clear hb p0 p1 p2 O1 PC ON
      go_upto_region 9 with fail
      generalize (((wf.setCell ⟨Q, 0, none⟩ (.int .i64 ((K : Nat)))).setCell ⟨Q, 1, none⟩ (.int .i64 (lost))).setCell ⟨Q, 2, none⟩ (.slice g1 m1 d1)) = wg at *
      clear q0 q1 q2 f0 f1 f2
      have q0 := O2.out.q0
      have q1 := O2.out.q1
      have q2 := O2.out.q2
      have PC := hidp (fput_own K (lost, kadd L key x) g1 m1 d1 key y wg CI.out hX (by omega) _ F2.out hY)
      unfold fewV at *
      go_wp2_with fail
      refine PC.out.mono ?_
      rintro e wh ⟨g2, m2, d2, rfl, ⟨hI2, hf2⟩, hb⟩
      have O3 := O2.out.below hb
      clear q0 q1 q2
      have q0 := O3.q0
      have q1 := O3.q1
      have q2 := O3.q2
      have f0 := O3.fq 0
      have f1 := O3.fq 1
      have f2 := O3.fq 2
      have O4 := hidp (O3.put (by omega) ((K : Nat)) (lost) (.slice g2 m2 d2))
      have hw4 := hidp (below_set3 (bstep hw3.out hb) Q (by omega) (.int .i64 ((K : Nat))) (.int .i64 (lost)) (.slice g2 m2 d2))
      have hsz := hb.size
      have hQw := ltc O2.out.q0
      have hne : ∀ b o, g2 = some ⟨b, o, none⟩ → b ≠ Q := fun b o e => by have := hf2 b o e; omega
      have CI2 := hidp (((hI2.setCell ⟨Q, 0, none⟩ hne (.int .i64 (K : Nat))).setCell ⟨Q, 1, none⟩ hne (.int .i64 lost)).setCell ⟨Q, 2, none⟩ hne (.slice g2 m2 d2))
      have em2 := hI2.max
      have en2 := hI2.le
      clear hI2 hf2 hne hsz hQw
      clear hb O3 PC O2 hw3
      go_upto_region 10 with fail
      generalize (((wh.setCell ⟨Q, 0, none⟩ (.int .i64 ((K : Nat)))).setCell ⟨Q, 1, none⟩ (.int .i64 (lost))).setCell ⟨Q, 2, none⟩ (.slice g2 m2 d2)) = wj at *
      clear q0 q1 q2 f0 f1 f2
      have p0 := O4.out.p0
      have p1 := O4.out.p1
      have p2 := O4.out.p2
      have PC := hidp (fput_ok K (lost, L) (some ⟨b, o, none⟩) n0 c0 key (x + y) wj (C0.out _ hw4.out) OK1.out (by omega) _ F3.out hY)
      have WS : IntKind.i64.wrap (x + y) = x + y := IntWalk.i64_in _ (by omega)
      unfold fewV at *
      go_wp2_with fail
      refine PC.out.mono ?_
      rintro e wk ⟨g3, m3, d3, rfl, hI3, hb⟩
      have hbx := bal hb (.cells #[.int .i64 (K : Nat), .int .i64 lost, .slice g3 m3 d3] 45)
      have hw5 := bstep hw4.out hbx
      have O5 := O4.out.below hbx
      obtain rfl : m3 = m2 := by rw [← hI3.len, ← CI2.out.len]
      have SF := hidp (samefew_c K lost g2 g3 m3 d2 d3 _ _ (CI2.out.below hbx) (hI3.below (bal (Below.refl _ _) (.cells #[.int .i64 (K : Nat), .int .i64 lost, .slice g3 m3 d3] 45))))
      have q0 := O5.q0
      have q1 := O5.q1
      have q2 := O5.q2
      have y0 : (wk.alloc (.cells #[.int .i64 (K : Nat), .int .i64 lost, .slice g3 m3 d3] 45)).cell? ⟨wk.heap.size, 0, none⟩ = some (.int .i64 (K : Nat)) := by go_simp
      have y1 : (wk.alloc (.cells #[.int .i64 (K : Nat), .int .i64 lost, .slice g3 m3 d3] 45)).cell? ⟨wk.heap.size, 1, none⟩ = some (.int .i64 lost) := by go_simp
      have y2 : (wk.alloc (.cells #[.int .i64 (K : Nat), .int .i64 lost, .slice g3 m3 d3] 45)).cell? ⟨wk.heap.size, 2, none⟩ = some (.slice g3 m3 d3) := by go_simp
      clear hb hbx O4 O5 PC hI3 CI2 p0 p1 p2
      unfold fewV at *
      go_upto_region 13 with fail
      generalize (wk.alloc (.cells #[.int .i64 (K : Nat), .int .i64 lost, .slice g3 m3 d3] 45)) = wl at *
      generalize wk.heap.size = R at *
      go_wp2_with fail
      refine SF.out.mono ?_
      rintro e wm ⟨rfl, hb⟩
      have hw6 := bstep hw5 hb
      clear hb hw5 SF
      go_wp2_with fail
      go_ret
      exact ⟨rfl, hw6⟩
    · have PC := hidp (fput_own K (lost, L) (some ⟨b, o, none⟩) n0 c0 key x we (C0.out _ hw2) OK1.out (by omega) _ F1.out hX)
      unfold fewV at *
      go_wp2_with fail
      refine PC.out.mono ?_
      rintro e wf ⟨g1, m1, d1, rfl, ⟨hI1, hf1⟩, hb⟩
      have O1 := ON.out.below hb
      have q0 := O1.q0
      have q1 := O1.q1
      have q2 := O1.q2
      have f0 := O1.fq 0
      have f1 := O1.fq 1
      have f2 := O1.fq 2
      have O2 := hidp (O1.put (by omega) ((K : Nat)) (lost) (.slice g1 m1 d1))
      have hw3 := hidp (below_set3 (bstep hw2 hb) Q (by omega) (.int .i64 ((K : Nat))) (.int .i64 (lost)) (.slice g1 m1 d1))
      have hsz := hb.size
      have hQw := ltc ON.out.q0
      have hne : ∀ b o, g1 = some ⟨b, o, none⟩ → b ≠ Q := fun b o e => by have := hf1 b o e; omega
      have CI := hidp (((hI1.setCell ⟨Q, 0, none⟩ hne (.int .i64 (K : Nat))).setCell ⟨Q, 1, none⟩ hne (.int .i64 lost)).setCell ⟨Q, 2, none⟩ hne (.slice g1 m1 d1))
      have em := hI1.max
      have en := hI1.le
      clear hI1 hf1 hne hsz hQw
      clear hb p0 p1 p2 O1 PC ON
      go_upto_region 9 with fail
      generalize (((wf.setCell ⟨Q, 0, none⟩ (.int .i64 ((K : Nat)))).setCell ⟨Q, 1, none⟩ (.int .i64 (lost))).setCell ⟨Q, 2, none⟩ (.slice g1 m1 d1)) = wg at *
      clear q0 q1 q2 f0 f1 f2
      have q0 := O2.out.q0
      have q1 := O2.out.q1
      have q2 := O2.out.q2
      have PC := hidp (fput_no K (lost, kadd L key x) g1 m1 d1 key y wg CI.out hX (by omega) _ F2.out hY)
      unfold fewV at *
      go_wp2_with fail
      refine PC.out.mono ?_
      rintro e wh ⟨rfl, hb⟩
      have O3 := O2.out.below hb
      clear q0 q1 q2
      have q0 := O3.q0
      have q1 := O3.q1
      have q2 := O3.q2
      have f0 := O3.fq 0
      have f1 := O3.fq 1
      have f2 := O3.fq 2
      have O4 := hidp (O3.put (by omega) (0) (0) (.slice none 0 0))
      have hw4 := hidp (below_set3 (bstep hw3.out hb) Q (by omega) (.int .i64 (0)) (.int .i64 (0)) (.slice none 0 0))
      clear hb O3 PC O2 hw3
      go_upto_region 10 with fail
      generalize (((wh.setCell ⟨Q, 0, none⟩ (.int .i64 (0))).setCell ⟨Q, 1, none⟩ (.int .i64 (0))).setCell ⟨Q, 2, none⟩ (.slice none 0 0)) = wj at *
      clear q0 q1 q2 f0 f1 f2
      have p0 := O4.out.p0
      have p1 := O4.out.p1
      have p2 := O4.out.p2
      have PC := hidp (fput_no K (lost, L) (some ⟨b, o, none⟩) n0 c0 key (x + y) wj (C0.out _ hw4.out) OK1.out (by omega) _ F3.out hY)
      have WS : IntKind.i64.wrap (x + y) = x + y := IntWalk.i64_in _ (by omega)
      unfold fewV at *
      go_wp2_with fail
      refine PC.out.mono ?_
      rintro e wk ⟨rfl, hb⟩
      have hw5 := hidp (bal (bstep hw4.out hb) few0)
      clear hb PC O4 p0 p1 p2
      go_wp2_with fail
      go_ret
      exact ⟨rfl, hw5.out⟩
  · have hY : ¬ FewOk K (lost, kadd L key (x + y)) := fun h => hX (LO.out h)
    have PC := hidp (fput_no K (lost, L) (some ⟨b, o, none⟩) n0 c0 key x we (C0.out _ hw2) OK1.out (by omega) _ F1.out hX)
    unfold fewV at *
    go_wp2_with fail
    refine PC.out.mono ?_
    rintro e wf ⟨rfl, hb⟩
    have O1 := ON.out.below hb
    have q0 := O1.q0
    have q1 := O1.q1
    have q2 := O1.q2
    have f0 := O1.fq 0
    have f1 := O1.fq 1
    have f2 := O1.fq 2
    have O2 := hidp (O1.put (by omega) (0) (0) (.slice none 0 0))
    have hw3 := hidp (below_set3 (bstep hw2 hb) Q (by omega) (.int .i64 (0)) (.int .i64 (0)) (.slice none 0 0))
    clear hb p0 p1 p2 O1 PC ON
    go_upto_region 9 with fail
    generalize (((wf.setCell ⟨Q, 0, none⟩ (.int .i64 (0))).setCell ⟨Q, 1, none⟩ (.int .i64 (0))).setCell ⟨Q, 2, none⟩ (.slice none 0 0)) = wg at *
    clear q0 q1 q2 f0 f1 f2
    have q0 := O2.out.q0
    have q1 := O2.out.q1
    have q2 := O2.out.q2
    have PC := hidp (fput_bad key y wg)
    unfold fewV at *
    go_wp2_with fail
    refine PC.out.mono ?_
    rintro e wh ⟨⟨er, rfl⟩, hb⟩
    have O3 := O2.out.below hb
    clear q0 q1 q2
    have q0 := O3.q0
    have q1 := O3.q1
    have q2 := O3.q2
    have f0 := O3.fq 0
    have f1 := O3.fq 1
    have f2 := O3.fq 2
    have O4 := hidp (O3.put (by omega) (0) (0) (.slice none 0 0))
    have hw4 := hidp (below_set3 (bstep hw3.out hb) Q (by omega) (.int .i64 (0)) (.int .i64 (0)) (.slice none 0 0))
    clear hb O3 PC O2 hw3
    go_upto_region 10 with fail
    generalize (((wh.setCell ⟨Q, 0, none⟩ (.int .i64 (0))).setCell ⟨Q, 1, none⟩ (.int .i64 (0))).setCell ⟨Q, 2, none⟩ (.slice none 0 0)) = wj at *
    clear q0 q1 q2 f0 f1 f2
    have p0 := O4.out.p0
    have p1 := O4.out.p1
    have p2 := O4.out.p2
    have PC := hidp (fput_no K (lost, L) (some ⟨b, o, none⟩) n0 c0 key (x + y) wj (C0.out _ hw4.out) OK1.out (by omega) _ F3.out hY)
    have WS : IntKind.i64.wrap (x + y) = x + y := IntWalk.i64_in _ (by omega)
    unfold fewV at *
    go_wp2_with fail
    refine PC.out.mono ?_
    rintro e wk ⟨rfl, hb⟩
    have hw5 := hidp (bal (bstep hw4.out hb) few0)
    clear hb PC O4 p0 p1 p2
    go_wp2_with fail
    go_ret
    exact ⟨rfl, hw5.out⟩
end Go.Proofs.Ytlikpakjjaeblaa.fewOnce
