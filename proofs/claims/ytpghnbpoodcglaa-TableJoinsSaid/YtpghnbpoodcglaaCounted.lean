/- Contract of the laws' own counted: a table to which counters came. -/
import Derived.Test.YtpghnbpoodcglaaTablePut2
import Derived.Test.YtpghnbpoodcglaaCnt
import Derived.Deep.LoopGhost
namespace Go.Proofs.Ytpghnbpoodcglaa
open Go.ChangeShapes Go.WideShapes Go.ChangeAt Go.RowKit
set_option maxRecDepth 20000
/-- How much came to a place. -/
def hits (P : Int → Nat → Nat) : List (Int × Int) → Nat → Nat → Int
  | [], _, _ => 0
  | p :: l, i, j => (if j = P p.1 i then p.2 else 0) + hits P l i j
theorem hits_append (P : Int → Nat → Nat) (l : List (Int × Int)) (i j : Nat) : ∀ m, hits P (m ++ l) i j = hits P m i j + hits P l i j
  | [] => by simp [hits]
  | p :: m => by simp only [List.cons_append, hits]; rw [hits_append P l i j m]; omega
theorem hits_bd (P : Int → Nat → Nat) (i j : Nat) : ∀ l : List (Int × Int), (∀ p ∈ l, 0 ≤ p.2) → 0 ≤ hits P l i j ∧ hits P l i j ≤ csum l
  | [], _ => by simp [hits, csum]
  | p :: l, h => by
    have h1 := hits_bd P i j l (fun q hq => h q (by simp [hq]))
    have h2 := h p (by simp)
    simp only [hits, csum]
    split <;> omega
/-- The table behind the first k. -/
def cntT (P : Int → Nat → Nat) (T : Nat → Nat → Int) (L : List (Int × Int)) (i j : Nat) : Int := T i j + hits P L i j
theorem cntT_step (P : Int → Nat → Nat) (T : Nat → Nat → Int) (L : List (Int × Int)) (k : Nat) (hk : k < L.length) : tput (cntT P T (L.take k)) (P (ckey L k)) (cnum L k) = cntT P T (L.take (k + 1)) := by
  funext i j
  rw [ctake L k hk]
  unfold tput cntT
  rw [hits_append]
  simp only [hits]
  split <;> omega
/-- No row of the table lies in block P. -/
def RowsNe (W : World) (a : Option Addr) (n P : Nat) : Prop := ∀ b o, a = some ⟨b, o, none⟩ → b ≠ P ∧ ∀ i, i < n → ∀ bi oi ni ci, W.cell? ⟨b, o + i, none⟩ = some (.slice (some ⟨bi, oi, none⟩) ni ci) → bi ≠ P
theorem RowsNe.below {W W' : World} {a : Option Addr} {n P c : Nat} {xs : List (List Int)} (h : RowsNe W a n P) (hr : RowsAt W a n c xs) (hb : Below W.heap.size W W') : RowsNe W' a n P := by
  intro b o ha
  refine ⟨(h b o ha).1, fun i hi bi oi ni ci hc => ?_⟩
  obtain ⟨b', o', ha', hlt, _⟩ := hr.cells (by omega)
  rw [ha] at ha'
  simp only [Option.some.injEq, Addr.mk.injEq] at ha'
  obtain ⟨rfl, rfl, _⟩ := ha'
  exact (h b o ha).2 i hi bi oi ni ci ((hb.cell (p := ⟨b, o + i, none⟩) hlt).symm.trans hc)
theorem RowsNe.set {W : World} {a : Option Addr} {n P Q : Nat} (h : RowsNe W a n P) (h' : RowsNe W a n Q) (k : Nat) (v : Value) : RowsNe (W.setCell ⟨Q, k, none⟩ v) a n P := by
  intro b o ha
  refine ⟨(h b o ha).1, fun i hi bi oi ni ci hc => (h b o ha).2 i hi bi oi ni ci ?_⟩
  rw [World.cell?_setCell_far _ _ _ _ (fun e => (h' b o ha).1 e.symm)] at hc
  exact hc
theorem RowsAt.setFar {W : World} {a : Option Addr} {n c P : Nat} {xs : List (List Int)} (h : RowsAt W a n c xs) (hne : RowsNe W a n P) (k : Nat) (v : Value) : RowsAt (W.setCell ⟨P, k, none⟩ v) a n c xs := by
  refine ⟨h.len, h.le, h.max, fun hn => ?_⟩
  obtain ⟨b, off, rfl, hlt, hc⟩ := h.cells hn
  refine ⟨b, off, rfl, by simpa using hlt, fun i hi => ?_⟩
  obtain ⟨ai, ni, ci, h1, h2⟩ := hc i hi
  refine ⟨ai, ni, ci, coff h1 (hne b off rfl).1, h2.setCell _ (fun bi oi he => ?_) v⟩
  subst he
  exact (hne b off rfl).2 i hi bi oi ni ci h1
theorem RowsAt.old {W : World} {a : Option Addr} {n c m : Nat} {T : Nat → Nat → Int} (h : RowsAt W a n c (tabL T m n)) (hm : 1 ≤ m) (hn : 1 ≤ n) (P : Nat) (hP : W.heap.size ≤ P) : RowsNe W a n P := by
  intro b o ha
  refine ⟨?_, fun i hi bi oi ni ci hc => ?_⟩
  · obtain ⟨b', o', ha', hlt, _⟩ := h.cells hn
    rw [ha] at ha'
    simp only [Option.some.injEq, Addr.mk.injEq] at ha'
    omega
  · obtain ⟨b', o', ha', hlt, hcs⟩ := h.cells (by omega)
    rw [ha] at ha'
    simp only [Option.some.injEq, Addr.mk.injEq] at ha'
    obtain ⟨rfl, rfl, _⟩ := ha'
    obtain ⟨bj, oj, cj, h1, _, h3⟩ := tabL_row hcs hm i hi
    rw [hc] at h1
    simp only [Option.some.injEq, Value.slice.injEq, Addr.mk.injEq] at h1
    omega
theorem OwnT.rne {W : World} {B g n m : Nat} {G C : Nat → Nat} {T : Nat → Nat → Int} (h : OwnT W B g n m G C T) (P : Nat) (h1 : g ≠ P) (h2 : P < B) : RowsNe W (some ⟨g, 0, none⟩) n P := by
  intro b o ha
  simp only [Option.some.injEq, Addr.mk.injEq] at ha
  obtain ⟨rfl, rfl, _⟩ := ha
  refine ⟨h1, fun i hi bi oi ni ci hc => ?_⟩
  rw [Nat.zero_add, h.hd i hi] at hc
  simp only [Option.some.injEq, Value.slice.injEq, Addr.mk.injEq] at hc
  have := h.ltG i hi
  omega
/-- table.Put where nothing is too great. -/
theorem tput_ok (m : Nat) (a : Option Addr) (n c : Nat) (T : Nat → Nat → Int) (key x : Int) (w : World) (h : RowsAt w a n c (tabL T m n)) (hok : TabOk m n (tabL T m n)) (hx1 : 0 ≤ x) (hx2 : x ≤ 1000000000000) (hs : ∀ i, i < n → T i (plc m key i) + x ≤ 1000000000000) :
    Calls Try.prog 25 #[tabV m a n c, .int .i64 key, .int .i64 x] w fun e w' =>
      ∃ g cp, e = .returned (.tuple #[tabV m (some ⟨g, 0, none⟩) n cp, .int .i64 0]) ∧ RowsAt w' (some ⟨g, 0, none⟩) n cp (tabL (tput T (plc m key) x) m n) ∧ (∀ P, P < w.heap.size → RowsNe w' (some ⟨g, 0, none⟩) n P) ∧ Below w.heap.size w w' := by
  refine (tput_c m a n c T key x w h hok hx1 hx2).mono ?_
  rintro e w' ⟨⟨g, cp, G, C, rfl, hO, hg1, hg2, hg3, _⟩ | ⟨rfl, i, hi, hle⟩, hb⟩
  · refine ⟨g, cp, rfl, hO.rows hg2 hg3 (fun i j hi hj => ?_), fun P hP => hO.rne P (by omega) hP, hb⟩
    have := hok.cell i j hi hj
    unfold tput
    split <;> omega
  · have := hs i hi; omega
/-- What stands while counters come. -/
structure CtdS (W : World) (P R m n : Nat) (a : Option Addr) (c : Nat) (T : Nat → Nat → Int) : Prop where
  c0 : W.cell? ⟨P, 0, none⟩ = some (.int .i64 (m : Nat))
  c1 : W.cell? ⟨P, 1, none⟩ = some (.slice a n c)
  r0 : ∃ u, W.cell? ⟨R, 0, none⟩ = some u
  r1 : ∃ u, W.cell? ⟨R, 1, none⟩ = some u
  fp : ∀ o, W.frozen? ⟨P, o, none⟩ = false
  fr : ∀ o, W.frozen? ⟨R, o, none⟩ = false
  rows : RowsAt W a n c (tabL T m n)
  n1 : RowsNe W a n P
  n2 : RowsNe W a n R
theorem CtdS.below {W W' : World} {P R m n : Nat} {a : Option Addr} {c : Nat} {T : Nat → Nat → Int} (h : CtdS W P R m n a c T) (hb : Below W.heap.size W W') : CtdS W' P R m n a c T := by
  obtain ⟨c0, c1, ⟨u0, r0⟩, ⟨u1, r1⟩, fp, fr, rows, n1, n2⟩ := h
  exact ⟨ck hb c0, ck hb c1, ⟨u0, ck hb r0⟩, ⟨u1, ck hb r1⟩, fun o => (hb.frozen (p := ⟨P, o, none⟩) (show P < _ from ltc c0)).trans (fp o), fun o => (hb.frozen (p := ⟨R, o, none⟩) (show R < _ from ltc r0)).trans (fr o), rows.below hb, n1.below rows hb, n2.below rows hb⟩
/-- The table is overwritten by another one. -/
theorem CtdS.put {W : World} {P R m n : Nat} {a a' : Option Addr} {c c' : Nat} {T U : Nat → Nat → Int} (h : CtdS W P R m n a c T) (hPR : R ≠ P) (hr : RowsAt W a' n c' (tabL U m n)) (h1 : RowsNe W a' n P) (h2 : RowsNe W a' n R) :
    CtdS ((W.setCell ⟨P, 0, none⟩ (.int .i64 (m : Nat))).setCell ⟨P, 1, none⟩ (.slice a' n c')) P R m n a' c' U := by
  obtain ⟨c0, c1, ⟨u0, r0⟩, ⟨u1, r1⟩, fp, fr, rows, n1, n2⟩ := h
  have t := res2 (.int .i64 (m : Nat)) (.slice a' n c') c0 c1
  have k1 := h1.set h1 0 (.int .i64 (m : Nat))
  have k2 := h2.set h1 0 (.int .i64 (m : Nat))
  exact ⟨t.1, t.2, ⟨u0, coff (coff r0 hPR) hPR⟩, ⟨u1, coff (coff r1 hPR) hPR⟩, fun o => frs (frs (fp o)), fun o => frs (frs (fr o)), (hr.setFar h1 _ _).setFar k1 _ _, k1.set k1 _ _, k2.set k1 _ _⟩
set_option maxHeartbeats 8000000 in
theorem counted_core (P : Int → Nat → Nat) (m : Nat) (a : Option Addr) (n c : Nat) (T : Nat → Nat → Int) (al : Option Addr) (nl cl : Nat) (L : List (Int × Int)) (w : World) (h : RowsAt w a n c (tabL T m n)) (hL : CntAt w al nl cl L) (m1 : 1 ≤ m) (m2 : m ≤ 32) (n1 : 1 ≤ n) (n2 : n ≤ 4)
    (hT : ∀ i j, i < n → j < m → 0 ≤ T i j ∧ T i j + csum L ≤ 1000000000000) (hN : ∀ p ∈ L, 0 ≤ p.2)
    (hCP : ∀ a c U key x W, RowsAt W a n c (tabL U m n) → (∀ i j, i < n → j < m → 0 ≤ U i j ∧ U i j + x ≤ 1000000000000) → 0 ≤ x → Calls Try.prog 25 #[tabV m a n c, .int .i64 key, .int .i64 x] W fun e w' =>
      ∃ g cp, e = .returned (.tuple #[tabV m (some ⟨g, 0, none⟩) n cp, .int .i64 0]) ∧ RowsAt w' (some ⟨g, 0, none⟩) n cp (tabL (tput U (P key) x) m n) ∧ (∀ P, P < W.heap.size → RowsNe w' (some ⟨g, 0, none⟩) n P) ∧ Below W.heap.size W w') :
    Calls Try.prog 29 #[tabV m a n c, .slice al nl cl] w fun e w' => ∃ a' c', e = .returned (.tuple #[tabV m a' n c', .bool true]) ∧ RowsAt w' a' n c' (tabL (cntT P T L) m n) ∧ Below w.heap.size w w' := by
  obtain ⟨b, o, hz, hx⟩ := hL.split
  have hz' : Hid (nl = 0) ∨ al = some ⟨b, o, none⟩ := hz.imp_left hidp
  have HX := hidp hx
  have mm := hL.max
  have ee := hL.le
  have LN := hidp hL.len
  have CP := hidp hCP
  have HT := hidp hT
  have HN := hidp hN
  have R0 := hidp (h.old m1 n1 w.heap.size (Nat.le_refl _))
  have R1 := hidp (h.old m1 n1 (w.heap.size + 1) (by omega))
  have H := hidp h
  clear hx hz hL hCP hT hN h
  unfold tabV at *
  go_enter Try.func29, Try.ntmps29
  go_wp2_with fail
  have hb0 : Below w.heap.size w ((w.alloc (.cells #[.int .i64 (m : Nat), .slice a n c] 44)).alloc (.cells #[.int .i64 0, .slice none 0 0] 44)) := bal (bal (Below.refl _ _) _) _
  have hs0 : CtdS ((w.alloc (.cells #[.int .i64 (m : Nat), .slice a n c] 44)).alloc (.cells #[.int .i64 0, .slice none 0 0] 44)) w.heap.size (w.heap.size + 1) m n a c (cntT P T (L.take 0)) := by
    refine ⟨by go_simp, by go_simp, ⟨.int .i64 0, by go_simp⟩, ⟨.slice none 0 0, by go_simp⟩, fun o => by go_simp, fun o => by go_simp, ?_, R0.out.below H.out hb0, R1.out.below H.out hb0⟩
    rw [show cntT P T (L.take 0) = T from by funext i j; simp [cntT, hits]]
    exact H.out.below hb0
  have HS := hidp hs0
  have HB := hidp hb0
  clear hs0 hb0 R0 R1 H
  generalize ((w.alloc (.cells #[.int .i64 (m : Nat), .slice a n c] 44)).alloc (.cells #[.int .i64 0, .slice none 0 0] 44)) = w1 at *
  go_loopg [12] nl (fun gg i wr => ∃ (k : Nat) (a' : Option Addr) (c' : Nat), k ≤ nl ∧ nl - k ≤ gg ∧ i = .int .i64 k ∧ Hid (CtdS wr w.heap.size (w.heap.size + 1) m n a' c' (cntT P T (L.take k))) ∧ Below w.heap.size w wr)
  case atStart => exact ⟨0, a, c, by omega, by omega, rfl, HS, HB.out⟩
  case round =>
    clear HS HB
    obtain ⟨k, a', c', hk, hgg, rfl, HS, hbl⟩ := hrel
    by_cases hlt : k < nl
    · obtain rfl : al = some ⟨b, o, none⟩ := hz'.resolve_left (fun e => by have := e.out; omega)
      obtain ⟨hbs, hc1, hc2⟩ := HX.out k hlt
      have q0 := carry_cell ⟨hbs, hc1⟩ hbl
      have q1 := carry_cell ⟨hbs, hc2⟩ hbl
      have hmem := cmem L k (by rw [LN.out]; exact hlt)
      have hx0 : 0 ≤ cnum L k := HN.out _ hmem
      have SE := hidp (cntT_step P T L k (by rw [LN.out]; exact hlt))
      have UB := hidp (fun i j (hi : i < n) (hj : j < m) => show 0 ≤ cntT P T (L.take k) i j ∧ cntT P T (L.take k) i j + cnum L k ≤ 1000000000000 by
        have t := HT.out i j hi hj
        have h1 := hits_bd P i j (L.take k) (fun p hp => HN.out p (List.mem_of_mem_take hp))
        have h2 := csum_take L HN.out (k + 1)
        rw [ctake L k (by rw [LN.out]; exact hlt), csum_snoc] at h2
        unfold cntT
        omega)
      clear hc1 hc2 hmem
      have C0 := hidp (HS.out.below ((Below.refl wr.heap.size wr).alloc (Nat.le_refl _) (.cells #[.int .i64 (ckey L k), .int .i64 (cnum L k)] 64)))
      have d0 := C0.out.c0
      have d1 := C0.out.c1
      have x0 : (wr.alloc (.cells #[.int .i64 (ckey L k), .int .i64 (cnum L k)] 64)).cell? ⟨wr.heap.size, 0, none⟩ = some (.int .i64 (ckey L k)) := by go_simp
      have x1 : (wr.alloc (.cells #[.int .i64 (ckey L k), .int .i64 (cnum L k)] 64)).cell? ⟨wr.heap.size, 1, none⟩ = some (.int .i64 (cnum L k)) := by go_simp
      have hb2 : Below w.heap.size w (wr.alloc (.cells #[.int .i64 (ckey L k), .int .i64 (cnum L k)] 64)) := bal hbl _
      go_upto_region 4 with fail
      generalize (wr.alloc (.cells #[.int .i64 (ckey L k), .int .i64 (cnum L k)] 64)) = w2 at *
      generalize wr.heap.size = XB at *
      clear q0 q1 hbl HS
      go_wp2_with fail
      refine (CP.out _ _ _ _ _ _ C0.out.rows UB.out hx0).mono ?_
      rintro e w4 ⟨g, cp, rfl, hr, hne, hb4⟩
      have P4 := ltc d0
      have P5 : w.heap.size + 1 < w2.heap.size := by obtain ⟨u, hu⟩ := C0.out.r0; exact ltc hu
      have hx4 : Below w4.heap.size w4 (w4.alloc (.cells #[.int .i64 (m : Nat), .slice (some ⟨g, 0, none⟩) n cp] 44)) := bal (Below.refl _ _) _
      have C4 := (C0.out.below hb4).below hx4
      have e0 := C4.c0
      have e1 := C4.c1
      have f0 := C4.fp 0
      have f1 := C4.fp 1
      have hn1 := (hne w.heap.size P4).below hr hx4
      have hn2 := (hne (w.heap.size + 1) P5).below hr hx4
      have C5 := hidp (C4.put (by omega) (hr.below hx4) hn1 hn2)
      rw [SE.out] at C5
      have BL := hidp (below_set2 (bstep (bstep hb2 hb4) hx4) w.heap.size (Nat.le_refl _) (.int .i64 (m : Nat)) (.slice (some ⟨g, 0, none⟩) n cp))
      clear C4 d0 d1 x0 x1 hr hne hb4 hb2 hn1 hn2 hx4
      go_wp2_with fail
      go_roundg (nl - (k + 1))
      case measure => omega
      case rel => exact ⟨k + 1, _, _, by omega, by omega, by go_num, C5, BL.out⟩
    · obtain rfl : k = nl := by omega
      obtain ⟨c0, c1, ⟨u0, r0⟩, ⟨u1, r1⟩, fp, fr, rows, k1, k2⟩ := HS.out
      have f0 := fr 0
      have f1 := fr 1
      have hr := hidp (res2 (.int .i64 (m : Nat)) (.slice a' n c') r0 r1)
      have hbw := hidp (below_set2 hbl (w.heap.size + 1) (by omega) (.int .i64 (m : Nat)) (.slice a' n c'))
      have HR := hidp ((rows.setFar k2 0 (.int .i64 (m : Nat))).setFar (k2.set k2 0 (.int .i64 (m : Nat))) 1 (.slice a' n c'))
      rw [show L.take k = L from by rw [← LN.out, List.take_length]] at HR
      clear fp fr rows k1 k2
      go_wp2_with fail
      obtain ⟨t0, t1⟩ := hr.out
      have hbv := hbw.out
      clear hr hbw
      generalize ((wr.setCell ⟨w.heap.size + 1, 0, none⟩ (.int .i64 (m : Nat))).setCell ⟨w.heap.size + 1, 1, none⟩ (.slice a' n c')) = w7 at *
      exact bodyPost_ret (v := .tuple #[.agg #[.int .i64 (m : Nat), .slice a' n c'], .bool true]) (by simp [results, Try.results29, go_sem, t0, t1]) rfl ⟨a', c', rfl, HR.out, hbv⟩
theorem counted_c (m : Nat) (a : Option Addr) (n c : Nat) (T : Nat → Nat → Int) (al : Option Addr) (nl cl : Nat) (L : List (Int × Int)) (w : World) (h : RowsAt w a n c (tabL T m n)) (hL : CntAt w al nl cl L) (m1 : 1 ≤ m) (m2 : m ≤ 32) (n1 : 1 ≤ n) (n2 : n ≤ 4)
    (hT : ∀ i j, i < n → j < m → 0 ≤ T i j ∧ T i j + csum L ≤ 1000000000000) (hN : ∀ p ∈ L, 0 ≤ p.2) :
    Calls Try.prog 29 #[tabV m a n c, .slice al nl cl] w fun e w' => ∃ a' c', e = .returned (.tuple #[tabV m a' n c', .bool true]) ∧ RowsAt w' a' n c' (tabL (cntT (plc m) T L) m n) ∧ Below w.heap.size w w' :=
  counted_core (plc m) m a n c T al nl cl L w h hL m1 m2 n1 n2 hT hN (fun a c U key x W hR hU hx => tput_ok m a n c U key x W hR (tabL_ok _ m n m1 m2 n1 n2 (fun i j hi hj => by have := hU i j hi hj; omega)) hx (by have := hU 0 0 (by omega) (by omega); omega) (fun i hi => (hU i _ hi (plc_lt m key i m1)).2))
end Go.Proofs.Ytpghnbpoodcglaa
