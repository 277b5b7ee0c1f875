/- Contracts of table.Put and table.Ask. -/
import Derived.Test.YtcbklhicellepaaTablePut
namespace Go.Proofs.Ytcbklhicellepaa
open Go.ChangeShapes Go.WideShapes Go.ChangeAt Go.RowKit
set_option maxRecDepth 20000

/-- What stands while a table is written. -/
structure PutT (W : World) (P R Q m n : Nat) (a : Option Addr) (c g cp : Nat) : Prop where
  c0 : W.cell? ⟨P, 0, none⟩ = some (.int .i64 (m : Nat))
  c1 : W.cell? ⟨P, 1, none⟩ = some (.slice a n c)
  r0 : ∃ u, W.cell? ⟨R, 0, none⟩ = some u
  r1 : ∃ u, W.cell? ⟨R, 1, none⟩ = some u
  o0 : W.cell? ⟨Q, 0, none⟩ = some (.int .i64 (m : Nat))
  o1 : W.cell? ⟨Q, 1, none⟩ = some (.slice (some ⟨g, 0, none⟩) n cp)
  fr : ∀ o, W.frozen? ⟨R, o, none⟩ = false
theorem PutT.below {W W' : World} {P R Q m n : Nat} {a : Option Addr} {c g cp : Nat} (h : PutT W P R Q m n a c g cp) (hb : Below W.heap.size W W') : PutT W' P R Q m n a c g cp := by
  obtain ⟨c0, c1, ⟨u0, r0⟩, ⟨u1, r1⟩, o0, o1, fr⟩ := h
  exact ⟨ck hb c0, ck hb c1, ⟨u0, ck hb r0⟩, ⟨u1, ck hb r1⟩, ck hb o0, ck hb o1, fun o => (hb.frozen (p := ⟨R, o, none⟩) (show R < _ from ltc r0)).trans (fr o)⟩
theorem PutT.far {W : World} {P R Q m n : Nat} {a : Option Addr} {c g cp : Nat} (h : PutT W P R Q m n a c g cp) (b k : Nat) (v : Value) (h1 : P ≠ b) (h2 : R ≠ b) (h3 : Q ≠ b) : PutT (W.setCell ⟨b, k, none⟩ v) P R Q m n a c g cp := by
  obtain ⟨c0, c1, ⟨u0, r0⟩, ⟨u1, r1⟩, o0, o1, fr⟩ := h
  exact ⟨coff c0 h1, coff c1 h1, ⟨u0, coff r0 h2⟩, ⟨u1, coff r1 h2⟩, coff o0 h3, coff o1 h3, fun o => frs (fr o)⟩
theorem res2 {W : World} {P : Nat} {u0 u1 : Value} (x0 x1 : Value) (h0 : W.cell? ⟨P, 0, none⟩ = some u0) (h1 : W.cell? ⟨P, 1, none⟩ = some u1) :
    ((W.setCell ⟨P, 0, none⟩ x0).setCell ⟨P, 1, none⟩ x1).cell? ⟨P, 0, none⟩ = some x0 ∧ ((W.setCell ⟨P, 0, none⟩ x0).setCell ⟨P, 1, none⟩ x1).cell? ⟨P, 1, none⟩ = some x1 :=
  ⟨con (cset h0) (by omega), cset (con h1 (by omega))⟩
theorem OwnT.far2 {W : World} {B g n m : Nat} {G C : Nat → Nat} {T : Nat → Nat → Int} (h : OwnT W B g n m G C T) (P : Nat) (h1 : P ≠ g) (h2 : P < B) (x0 x1 : Value) : OwnT ((W.setCell ⟨P, 0, none⟩ x0).setCell ⟨P, 1, none⟩ x1) B g n m G C T :=
  (h.far ⟨P, 0, none⟩ h1 (fun i hi => by have := (h.ltG i hi).1; show P ≠ G i; omega) x0).far ⟨P, 1, none⟩ h1 (fun i hi => by have := (h.ltG i hi).1; show P ≠ G i; omega) x1
theorem OwnT.mono {W : World} {B B' g n m : Nat} {G C : Nat → Nat} {T : Nat → Nat → Int} (h : OwnT W B g n m G C T) (hB : B' ≤ B) : OwnT W B' g n m G C T := ⟨h.lt, h.hd, fun i hi => owns_mono (h.row i hi) hB, h.ne, h.inj⟩
theorem below_set2 {w W : World} (h : Below w.heap.size w W) (P : Nat) (hP : w.heap.size ≤ P) (x0 x1 : Value) : Below w.heap.size w ((W.setCell ⟨P, 0, none⟩ x0).setCell ⟨P, 1, none⟩ x1) :=
  (h.setCell (p := ⟨P, 0, none⟩) hP _).setCell (p := ⟨P, 1, none⟩) hP _
/-- The table when the first k rows were written. -/
def putT (T : Nat → Nat → Int) (P : Nat → Nat) (x : Int) (k i j : Nat) : Int := if i < k then tput T P x i j else T i j
theorem putT_step (T : Nat → Nat → Int) (P : Nat → Nat) (x : Int) (k : Nat) (a b : Nat) : (if a = k ∧ b = P k then T k (P k) + x else putT T P x k a b) = putT T P x (k + 1) a b := by
  unfold putT tput
  by_cases e : a = k
  · by_cases e2 : b = P k
    · rw [if_pos ⟨e, e2⟩, if_pos (by omega), if_pos (by rw [e]; exact e2), e, e2]
    · rw [if_neg (fun h => e2 h.2), if_neg (by omega), if_pos (by omega), if_neg (by rw [e]; exact e2)]
  · rw [if_neg (fun h => e h.1)]
    by_cases h : a < k
    · have h2 : a < k + 1 := by omega
      simp only [if_pos h, if_pos h2]
    · rw [if_neg h, if_neg (by omega)]

set_option maxHeartbeats 8000000 in
theorem tput_core (P : Nat → Nat) (m : Nat) (a : Option Addr) (n c : Nat) (T : Nat → Nat → Int) (key x : Int) (w : World) (h : RowsAt w a n c (tabL T m n)) (hok : TabOk m n (tabL T m n)) (hx1 : 0 ≤ x) (hx2 : x ≤ 1000000000000)
    (hP : ∀ i, P i < m) (hCP : ∀ W row, row ≤ 100 → Calls Try.prog 41 #[tabV m a n c, .int .i64 (row : Nat), .int .i64 key] W fun e w' => e = .returned (.int .i64 (P row : Nat)) ∧ Below W.heap.size W w') :
    Calls Try.prog 13 #[tabV m a n c, .int .i64 key, .int .i64 x] w fun e w' =>
      ((∃ g cp G C, e = .returned (.tuple #[tabV m (some ⟨g, 0, none⟩) n cp, .int .i64 0]) ∧ OwnT w' w.heap.size g n m G C (tput T P x) ∧ w.heap.size ≤ g ∧ n ≤ cp ∧ cp ≤ 9223372036854775807 ∧ ∀ i, i < n → T i (P i) + x ≤ 1000000000000)
        ∨ (e = .returned (.tuple #[tabV 0 none 0 0, .int .i64 2]) ∧ ∃ i, i < n ∧ 1000000000000 < T i (P i) + x)) ∧ Below w.heap.size w w' := by
  have hm := hok.m1
  have hm2 := hok.m2
  have hn := hok.n1
  have hn2 := hok.n2
  have CK := hidp (fun W (hB : Below w.heap.size w W) => tcheck_c (m : Nat) a n c _ W (h.below hB))
  have F0 := hidp (tchk_ok m n _ hok)
  have CC := hidp (fun W (hB : Below w.heap.size w W) => copied_c m a n c T W (h.below hB) hm hm2 hn hn2)
  have CP := hidp hCP
  have PL := hidp hP
  have TB := hidp (fun i j (hi : i < n) (hj : j < m) => hok.cell i j hi hj)
  have mm := h.max
  have ee := h.le
  clear h hok hP hCP
  unfold tabV at *
  go_enter Try.func13, Try.ntmps13
  go_wp2_with fail
  have hb1 : Below w.heap.size w ((w.alloc (.cells #[.int .i64 (m : Nat), .slice a n c] 36)).alloc (.cells #[.int .i64 0, .slice none 0 0] 36)) := bal (bal (Below.refl _ _) _) _
  refine (CK.out _ hb1).mono ?_
  rintro e wa ⟨rfl, hba⟩
  rw [F0.out]
  have c0 : wa.cell? ⟨w.heap.size, 0, none⟩ = some (.int .i64 (m : Nat)) := ck hba (by go_simp)
  have c1 : wa.cell? ⟨w.heap.size, 1, none⟩ = some (.slice a n c) := ck hba (by go_simp)
  have r0 : wa.cell? ⟨w.heap.size + 1, 0, none⟩ = some (.int .i64 0) := ck hba (by go_simp)
  have r1 : wa.cell? ⟨w.heap.size + 1, 1, none⟩ = some (.slice none 0 0) := ck hba (by go_simp)
  have fr : ∀ o, wa.frozen? ⟨w.heap.size + 1, o, none⟩ = false := fun o => (hba.frozen (p := ⟨w.heap.size + 1, o, none⟩) (by simp)).trans (by go_simp)
  have hwa := bstep hb1 hba
  have hsa : w.heap.size + 2 ≤ wa.heap.size := by have := hba.size; simp at this; omega
  have FR := hidp fr
  clear hb1 hba fr
  go_wp2_with fail
  refine (CC.out _ hwa).mono ?_
  rintro e wb ⟨g, cp, G, C, rfl, hT, hg1, hg2, hg3, hbb⟩
  have hwb := bstep hwa hbb
  have P0 : PutT (wb.alloc (.cells #[.int .i64 (m : Nat), .slice (some ⟨g, 0, none⟩) n cp] 36)) w.heap.size (w.heap.size + 1) wb.heap.size m n a c g cp :=
    ⟨ca (ck hbb c0) _, ca (ck hbb c1) _, ⟨_, ca (ck hbb r0) _⟩, ⟨_, ca (ck hbb r1) _⟩, by go_simp, by go_simp, fun o => by
      have e1 := (hbb.frozen (p := ⟨w.heap.size + 1, o, none⟩) (by show w.heap.size + 1 < _; omega)).trans (FR.out o)
      have e2 := ((Below.refl wb.heap.size wb).alloc (Nat.le_refl _) (.cells #[.int .i64 (m : Nat), .slice (some ⟨g, 0, none⟩) n cp] 36)).frozen (p := ⟨w.heap.size + 1, o, none⟩) (by have := hbb.size; show w.heap.size + 1 < _; omega)
      exact e2.trans e1⟩
  have hT0 : OwnT (wb.alloc (.cells #[.int .i64 (m : Nat), .slice (some ⟨g, 0, none⟩) n cp] 36)) wa.heap.size g n m G C (putT T P x 0) :=
    (hT.below ((Below.refl _ _).alloc (Nat.le_refl _) _)).congr (fun i j _ _ => by unfold putT; rw [if_neg (by omega)])
  have hgq : g < wb.heap.size := hT.lt
  have GL := hidp (fun i (hi : i < n) => hT.ltG i hi)
  have hbw : Below w.heap.size w (wb.alloc (.cells #[.int .i64 (m : Nat), .slice (some ⟨g, 0, none⟩) n cp] 36)) := bal hwb _
  clear c0 c1 r0 r1 FR hT hbb hwb hwa CK CC
  go_upto_region 7 with fail
  generalize (wb.alloc (.cells #[.int .i64 (m : Nat), .slice (some ⟨g, 0, none⟩) n cp] 36)) = w3 at *
  generalize wb.heap.size = Q at *
  have PP := hidp P0
  have HT := hidp hT0
  have HB := hidp hbw
  obtain ⟨_, _, _, _, _, o1, _⟩ := P0
  clear hT0 hbw
  go_wp2_with fail
  clear o1
  go_loopw [30] (fun i wr => ∃ k : Nat, k ≤ n ∧ i = .int .i64 k ∧ Hid (PutT wr w.heap.size (w.heap.size + 1) Q m n a c g cp) ∧ Hid (OwnT wr wa.heap.size g n m G C (putT T P x k)) ∧ Hid (∀ i, i < k → T i (P i) + x ≤ 1000000000000) ∧ Below w.heap.size w wr) (fun i _ => n - (intOf i).toNat)
  case atStart => exact ⟨0, by omega, rfl, PP, HT, hidp (fun i hi => by omega), HB.out⟩
  case round =>
    clear PP HT HB
    obtain ⟨k, hk, rfl, PP, HT, AL, hbl⟩ := hrel
    obtain ⟨c0, c1, ⟨u0, r0⟩, ⟨u1, r1⟩, o0, o1, fr⟩ := PP.out
    by_cases hlt : k < n
    · have q := HT.out.hd k hlt
      clear r0 r1 fr o0 o1
      go_wp2_with fail
      refine (CP.out _ k (by omega)).mono ?_
      rintro e w4 ⟨rfl, hb4⟩
      have HT4 := HT.out.below hb4
      have PP4 := PP.out.below hb4
      have bl4 := bstep hbl hb4
      obtain ⟨d0, d1, _, _, _, _, _⟩ := PP4
      have p1 := PL.out k
      have p2 : ((P k : Nat) : Int) < (m : Int) := by omega
      have q1 := HT4.cell k (P k) hlt p1
      have q2 := HT4.fro k (P k) hlt
      have tb := TB.out k (P k) hlt p1
      rw [show putT T P x k k (P k) = T k (P k) from by unfold putT; rw [if_neg (by omega)]] at q1
      have hGk := (GL.out k hlt)
      have hq : ¬ w.heap.size = G k := by omega
      have SG := hidp (putT_step T P x k)
      have HT5 := hidp ((HT4.set k (P k) hlt (T k (P k) + x)).congr (fun i j _ _ => SG.out i j))
      have PP5 := hidp ((PP.out.below hb4).far (G k) (P k) (.int .i64 (T k (P k) + x)) (by omega) (by omega) (by omega))
      have bl5 : Below w.heap.size w (w4.setCell ⟨G k, P k, none⟩ (.int .i64 (T k (P k) + x))) := bl4.setCell (p := ⟨G k, P k, none⟩) (by show w.heap.size ≤ G k; omega) _
      clear c0 c1 q hb4 HT4 bl4
      go_upto_region 11 with fail
      generalize (w4.setCell ⟨G k, P k, none⟩ (.int .i64 (T k (P k) + x))) = w5 at *
      clear d0 d1 q1 q2
      have d0 := PP5.out.c0
      have d1 := PP5.out.c1
      go_wp2_with fail
      refine (CP.out _ k (by omega)).mono ?_
      rintro e w6 ⟨rfl, hb6⟩
      have HT6 := hidp (HT5.out.below hb6)
      have PP6 := hidp (PP5.out.below hb6)
      have bl6 := bstep bl5 hb6
      have q3 := HT6.out.cell k (P k) hlt p1
      rw [show putT T P x (k + 1) k (P k) = T k (P k) + x from by unfold putT tput; rw [if_pos (by omega), if_pos rfl]] at q3
      clear d0 d1 HT5 PP5 bl5 hb6
      by_cases hle : 1000000000000 < T k (P k) + x
      · obtain ⟨_, _, ⟨u0, r0⟩, ⟨u1, r1⟩, _, _, fr⟩ := PP6.out
        have f0 := fr 0
        have f1 := fr 1
        have hr := hidp (res2 (.int .i64 0) (.slice none 0 0) r0 r1)
        have hbw := hidp (below_set2 bl6 (w.heap.size + 1) (by omega) (.int .i64 0) (.slice none 0 0))
        clear fr
        go_wp2_with fail
        obtain ⟨t0, t1⟩ := hr.out
        have hbv := hbw.out
        clear hr hbw
        generalize ((w6.setCell ⟨w.heap.size + 1, 0, none⟩ (.int .i64 0)).setCell ⟨w.heap.size + 1, 1, none⟩ (.slice none 0 0)) = w7 at *
        exact bodyPost_ret (v := .tuple #[.agg #[.int .i64 0, .slice none 0 0], .int .i64 2]) (by simp [results, Try.results13, go_sem, t0, t1]) rfl ⟨.inr ⟨rfl, k, hlt, hle⟩, hbv⟩
      · have hle2 : T k (P k) + x ≤ 1000000000000 := by omega
        go_wp2_with fail
        go_roundw
        case measure => simp [intOf]; omega
        case rel =>
          refine ⟨k + 1, by omega, by go_num, PP6, HT6, hidp (fun i hi => ?_), bl6⟩
          by_cases e : i = k
          · rw [e]; exact hle2
          · exact AL.out i (by omega)
    · obtain rfl : k = n := by omega
      have f0 := fr 0
      have f1 := fr 1
      have hgl := HT.out.lt
      have hr := hidp (res2 (.int .i64 (m : Nat)) (.slice (some ⟨g, 0, none⟩) k cp) r0 r1)
      have hbw := hidp (below_set2 hbl (w.heap.size + 1) (by omega) (.int .i64 (m : Nat)) (.slice (some ⟨g, 0, none⟩) k cp))
      have HT7 := hidp (((HT.out.far2 (w.heap.size + 1) (by omega) (by omega) (.int .i64 (m : Nat)) (.slice (some ⟨g, 0, none⟩) k cp)).congr (U := tput T P x) (fun i j hi _ => by unfold putT; rw [if_pos hi])).mono (show w.heap.size ≤ wa.heap.size by omega))
      clear fr c0 c1
      go_wp2_with fail
      obtain ⟨t0, t1⟩ := hr.out
      have hbv := hbw.out
      clear hr hbw
      generalize ((wr.setCell ⟨w.heap.size + 1, 0, none⟩ (.int .i64 (m : Nat))).setCell ⟨w.heap.size + 1, 1, none⟩ (.slice (some ⟨g, 0, none⟩) k cp)) = w7 at *
      exact bodyPost_ret (v := .tuple #[.agg #[.int .i64 (m : Nat), .slice (some ⟨g, 0, none⟩) k cp], .int .i64 0]) (by simp [results, Try.results13, go_sem, t0, t1]) rfl ⟨.inl ⟨g, cp, G, C, rfl, HT7.out, by omega, hg2, hg3, AL.out⟩, hbv⟩
theorem tput_c (m : Nat) (a : Option Addr) (n c : Nat) (T : Nat → Nat → Int) (key x : Int) (w : World) (h : RowsAt w a n c (tabL T m n)) (hok : TabOk m n (tabL T m n)) (hx1 : 0 ≤ x) (hx2 : x ≤ 1000000000000) :
    Calls Try.prog 13 #[tabV m a n c, .int .i64 key, .int .i64 x] w fun e w' =>
      ((∃ g cp G C, e = .returned (.tuple #[tabV m (some ⟨g, 0, none⟩) n cp, .int .i64 0]) ∧ OwnT w' w.heap.size g n m G C (tput T (plc m key) x) ∧ w.heap.size ≤ g ∧ n ≤ cp ∧ cp ≤ 9223372036854775807 ∧ ∀ i, i < n → T i (plc m key i) + x ≤ 1000000000000)
        ∨ (e = .returned (.tuple #[tabV 0 none 0 0, .int .i64 2]) ∧ ∃ i, i < n ∧ 1000000000000 < T i (plc m key i) + x)) ∧ Below w.heap.size w w' :=
  tput_core (plc m key) m a n c T key x w h hok hx1 hx2 (fun i => plc_lt m key i hok.m1) (fun W row hr => place_c m a n c row key W hok.m1 hok.m2 hr)

set_option maxHeartbeats 4000000 in
theorem task_core (P : Nat → Nat) (m : Nat) (a : Option Addr) (n c : Nat) (T : Nat → Nat → Int) (key : Int) (w : World) (h : RowsAt w a n c (tabL T m n)) (hok : TabOk m n (tabL T m n))
    (hP : ∀ i, P i < m) (hCP : ∀ W row, row ≤ 100 → Calls Try.prog 41 #[tabV m a n c, .int .i64 (row : Nat), .int .i64 key] W fun e w' => e = .returned (.int .i64 (P row : Nat)) ∧ Below W.heap.size W w') :
    Calls Try.prog 25 #[tabV m a n c, .int .i64 key] w fun e w' => e = .returned (.tuple #[.int .i64 (tmin T P n), .int .i64 0]) ∧ Below w.heap.size w w' := by
  have hm := hok.m1
  have hm2 := hok.m2
  have hn := hok.n1
  have hn2 := hok.n2
  have CK := hidp (fun W (hB : Below w.heap.size w W) => tcheck_c (m : Nat) a n c _ W (h.below hB))
  have F0 := hidp (tchk_ok m n _ hok)
  have CP := hidp hCP
  have PL := hidp hP
  have TB := hidp (fun i j (hi : i < n) (hj : j < m) => hok.cell i j hi hj)
  have mm := h.max
  have ee := h.le
  obtain ⟨b, o, rfl, hlt, hc⟩ := h.cells (by omega)
  have R := hidp (fun i hi => tabL_row hc hm i hi)
  clear h hok hP hCP hc
  unfold tabV at *
  go_enter Try.func25, Try.ntmps25
  go_wp2_with fail
  have hb1 : Below w.heap.size w (w.alloc (.cells #[.int .i64 (m : Nat), .slice (some ⟨b, o, none⟩) n c] 36)) := bal (Below.refl _ _) _
  refine (CK.out _ hb1).mono ?_
  rintro e wa ⟨rfl, hba⟩
  rw [F0.out]
  have c0 : wa.cell? ⟨w.heap.size, 0, none⟩ = some (.int .i64 (m : Nat)) := ck hba (by go_simp)
  have c1 : wa.cell? ⟨w.heap.size, 1, none⟩ = some (.slice (some ⟨b, o, none⟩) n c) := ck hba (by go_simp)
  have hwa := bstep hb1 hba
  have C0 := hidp c0
  have C1 := hidp c1
  have HB := hidp hwa
  clear hb1 hba hwa CK
  go_wp2_with fail
  clear c0 c1
  go_loopw [7, 18] (fun s i wr => ∃ k : Nat, k ≤ n ∧ i = .int .i64 k ∧ s = .int .i64 (tmin T P k) ∧ Below wa.heap.size wa wr) (fun _ i _ => n - (intOf i).toNat)
  case atStart => exact ⟨0, by omega, rfl, rfl, Below.refl _ _⟩
  case round =>
    obtain ⟨k, hk, rfl, rfl, hbl⟩ := hrel
    by_cases hlt2 : k < n
    · obtain ⟨bi, oi, ci, q0, q1, q2⟩ := R.out k hlt2
      have hwr := bstep HB.out hbl
      have q := carry_cell ⟨hlt, q0⟩ hwr
      have d0 := ck hbl C0.out
      have d1 := ck hbl C1.out
      have p1 := PL.out k
      have p2 : ((P k : Nat) : Int) < (m : Int) := by omega
      have q3 := ints_cell (q1.below hwr) (P k) p1
      rw [tab_gi _ _ _ p1] at q3
      have tb := TB.out k (P k) hlt2 p1
      have tm := tmin_bd T P k (fun i hi => (TB.out i (P i) (by omega) (PL.out i)).1)
      have TS := hidp (show tmin T P (k + 1) = min (tmin T P k) (T k (P k)) from rfl)
      have Q3 := hidp q3
      clear q0 q1 q2 q3
      generalize tmin T P k = tk at *
      generalize T k (P k) = y at *
      go_wp2_with fail
      refine (CP.out _ k (by omega)).mono ?_
      rintro e w4 ⟨rfl, hb4⟩
      have q5 := ck hb4 Q3.out
      have bl4 := bstep hbl hb4
      clear hb4 q d0 d1 hbl
      have hmin : min tk y = min tk y := rfl
      go_wp2_with fail
      go_roundw
      case measure => simp [intOf]; omega
      case rel => exact ⟨k + 1, by omega, by go_num, by rw [TS.out], bl4⟩
    · obtain rfl : k = n := by omega
      go_wp2_with fail
      go_ret2
      exact ⟨rfl, bstep HB.out hbl⟩
theorem task_c (m : Nat) (a : Option Addr) (n c : Nat) (T : Nat → Nat → Int) (key : Int) (w : World) (h : RowsAt w a n c (tabL T m n)) (hok : TabOk m n (tabL T m n)) :
    Calls Try.prog 25 #[tabV m a n c, .int .i64 key] w fun e w' => e = .returned (.tuple #[.int .i64 (tmin T (plc m key) n), .int .i64 0]) ∧ Below w.heap.size w w' :=
  task_core (plc m key) m a n c T key w h hok (fun i => plc_lt m key i hok.m1) (fun W row hr => place_c m a n c row key W hok.m1 hok.m2 hr)
end Go.Proofs.Ytcbklhicellepaa
