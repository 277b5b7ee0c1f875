/- The walk of TableLow: the law returns true at all inputs, and no old memory changes. -/
import Derived.Test.YtpghnbpoodcglaaTabSame
import Derived.Test.YtpghnbpoodcglaaTabRows
import Derived.Test.YtpghnbpoodcglaaCame
import Derived.Test.YtpghnbpoodcglaaCounted
import Derived.Test.YtpghnbpoodcglaaCntMore
import Derived.Test.YtpghnbpoodcglaaSum
namespace Go.Proofs.Ytpghnbpoodcglaa.tableLow
open Go.ChangeShapes Go.WideShapes Go.ChangeAt Go.RowKit
open Go.Proofs.Ytpghnbpoodcglaa
set_option maxRecDepth 20000
/-- A table literal of one row of one count. -/
theorem lit11 {w : World} {b : Nat} (x : Int) (hx : 0 ≤ x ∧ x ≤ 1000000000000) (hb : b = w.heap.size) : RowsAt ((w.alloc (.cells #[.int .i64 x] 3)).alloc (.cells #[.slice (some ⟨b, 0, none⟩) 1 1] 22)) (some ⟨b + 1, 0, none⟩) 1 1 (tabL (fun _ _ => x) 1 1) := by
  subst hb
  have h0 : IntsAt (w.alloc (.cells [Value.int .i64 x].toArray 3)) (some ⟨w.heap.size, 0, none⟩) 1 1 [x] := ints_lit [x] rfl rfl rfl (fun y hy => by simp at hy; subst hy; omega) (by omega)
  refine ⟨rfl, Nat.le_refl _, by omega, fun _ => ⟨w.heap.size + 1, 0, rfl, by simp, fun i hi => ?_⟩⟩
  obtain rfl : i = 0 := by omega
  exact ⟨_, 1, 1, by go_simp, h0.alloc _⟩
theorem lit11_put : tabL (tput (fun _ _ => (3 : Int)) (plc 1 5) 4) 1 1 = tabL (fun _ _ => (7 : Int)) 1 1 := by
  unfold tabL
  refine tab_congr _ _ _ (fun i hi => tab_congr _ _ _ (fun j hj => ?_))
  have := plc_lt 1 5 i (by omega)
  unfold tput
  rw [if_pos (by omega)]
  rfl
theorem camL_keys (xs : List (List Int)) (most : Int) (hx : ∀ i, -9223372036854775808 ≤ gi (gl xs i) 0 ∧ gi (gl xs i) 0 ≤ 9223372036854775807) : ∀ k, ∀ p ∈ camL xs most k, -9223372036854775808 ≤ p.1 ∧ p.1 ≤ 9223372036854775807
  | 0, p, hp => by simp [camL] at hp
  | k + 1, p, hp => by
    simp only [camL] at hp
    split at hp
    · rcases List.mem_append.1 hp with hp | hp
      · exact camL_keys xs most hx k p hp
      · simp at hp
        subst hp
        exact hx k
    · exact camL_keys xs most hx k p hp
theorem rows_key {w : World} {a : Option Addr} {n c : Nat} {xs : List (List Int)} (h : RowsAt w a n c xs) (i : Nat) : -9223372036854775808 ≤ gi (gl xs i) 0 ∧ gi (gl xs i) 0 ≤ 9223372036854775807 := by
  by_cases hi : i < n
  · obtain ⟨b, o, _, _, hc⟩ := h.cells (by omega)
    obtain ⟨ai, ni, ci, _, hI⟩ := hc i hi
    exact hI.bd_at 0
  · have : gl xs i = [] := by
      unfold gl
      rw [List.getD_eq_getElem?_getD, List.getElem?_eq_none (by rw [h.len]; omega)]; rfl
    rw [this]
    decide
/-- A key's place has all that came of it. -/
theorem hits_occ (P : Int → Nat → Nat) (i : Nat) (key : Int) : ∀ L : List (Int × Int), (∀ p ∈ L, 0 ≤ p.2) → occ L key ≤ hits P L i (P key i)
  | [], _ => by simp [occ, hits]
  | p :: l, h => by
    have h1 := hits_occ P i key l (fun q hq => h q (by simp [hq]))
    have h2 := h p (by simp)
    simp only [occ, hits]
    by_cases e : key = p.1
    · rw [if_pos e, if_pos (by rw [e])]; omega
    · rw [if_neg e]; split <;> omega
def sumF (f : Nat → Int) : Nat → Int
  | 0 => 0
  | k + 1 => sumF f k + f k
theorem sumF_congr (f g : Nat → Int) : ∀ k, (∀ j, j < k → f j = g j) → sumF f k = sumF g k
  | 0, _ => rfl
  | k + 1, h => by simp only [sumF]; rw [sumF_congr f g k (fun j hj => h j (by omega)), h k (by omega)]
theorem sumF_add (f g : Nat → Int) : ∀ k, sumF (fun j => f j + g j) k = sumF f k + sumF g k
  | 0 => rfl
  | k + 1 => by simp only [sumF]; rw [sumF_add f g k]; omega
theorem sumF_zero : ∀ k, sumF (fun _ => 0) k = 0
  | 0 => rfl
  | k + 1 => by simp only [sumF]; rw [sumF_zero k]; rfl
theorem sumF_one (a : Nat) (x : Int) : ∀ k, sumF (fun j => if j = a then x else 0) k = if a < k then x else 0
  | 0 => rfl
  | k + 1 => by
    simp only [sumF]
    rw [sumF_one a x k]
    by_cases h1 : k = a
    · rw [if_pos h1, if_neg (by omega), if_pos (by omega)]; omega
    · rw [if_neg h1]
      by_cases h2 : a < k
      · rw [if_pos h2, if_pos (by omega)]; omega
      · rw [if_neg h2, if_neg (by omega)]; omega
theorem sumK_tab (f : Nat → Int) (m : Nat) : ∀ k, k ≤ m → sumK (tab f m) k = sumF f k
  | 0, _ => rfl
  | k + 1, h => by simp only [sumK, sumF]; rw [sumK_tab f m k (by omega), tab_gi _ _ _ (by omega)]
theorem row_sum (P : Int → Nat → Nat) (i m : Nat) (hP : ∀ key, P key i < m) : ∀ L : List (Int × Int), sumF (fun j => hits P L i j) m = csum L
  | [] => by simp only [hits, csum]; exact sumF_zero m
  | p :: l => by
    have := row_sum P i m hP l
    simp only [hits, csum]
    rw [sumF_add, sumF_one, if_pos (hP p.1), this]
/-- What stands while the counters are asked. -/
structure LowS (W : World) (Q m : Nat) (a : Option Addr) (n c : Nat) (T : Nat → Nat → Int) (al : Option Addr) (nl cl : Nat) (L : List (Int × Int)) (r nM : Nat) (S : Int → Int) : Prop where
  c0 : W.cell? ⟨Q, 0, none⟩ = some (.int .i64 (m : Nat))
  c1 : W.cell? ⟨Q, 1, none⟩ = some (.slice a n c)
  rows : RowsAt W a n c (tabL T m n)
  cnt : CntAt W al nl cl L
  mp : MapInt W Try.prog 3 3 .i64 r nM S
theorem LowS.below {W W' : World} {Q m : Nat} {a : Option Addr} {n c : Nat} {T : Nat → Nat → Int} {al : Option Addr} {nl cl : Nat} {L : List (Int × Int)} {r nM : Nat} {S : Int → Int} (h : LowS W Q m a n c T al nl cl L r nM S) (hb : Below W.heap.size W W') : LowS W' Q m a n c T al nl cl L r nM S :=
  ⟨ck hb h.c0, ck hb h.c1, h.rows.below hb, h.cnt.below hb, h.mp.below hb⟩
set_option linter.unusedVariables false
set_option maxHeartbeats 16000000 in
theorem walk (a0 a1 : Int) (a2 : Option Addr) (len2 cap2 : Nat) (z2 : List (List Int)) (a3 : Int) (w : World)
    (w0 : (Lit.int .i64 a0).wf = true) (w1 : (Lit.int .i64 a1).wf = true) (w2 : RowsAt w a2 len2 cap2 z2) (w3 : (Lit.int .i64 a3).wf = true) :
    Calls Try.prog 7 #[.int .i64 a0, .int .i64 a1, .slice a2 len2 cap2, .int .i64 a3] w fun e w' => e = .returned (.bool true) ∧ Below w.heap.size w w' := by
  have L1 := hidp (show ∀ (W : World) (a : Option Addr), RowsAt W a 1 1 (tabL (fun _ _ => (3 : Int)) 1 1) → Calls Try.prog 25 #[.agg #[.int .i64 1, .slice a 1 1], .int .i64 5, .int .i64 4] W fun e w' => ∃ g cp, e = .returned (.tuple #[.agg #[.int .i64 1, .slice (some ⟨g, 0, none⟩) 1 cp], .int .i64 0]) ∧ RowsAt w' (some ⟨g, 0, none⟩) 1 cp (tabL (fun _ _ => (7 : Int)) 1 1) ∧ Below W.heap.size W w' from fun W a h => by
    refine (tput_ok 1 a 1 1 (fun _ _ => (3 : Int)) 5 4 W h (tabL_ok _ 1 1 (by omega) (by omega) (by omega) (by omega) (fun _ _ _ _ => by omega)) (by omega) (by omega) (fun _ _ => by omega)).mono ?_
    rintro e w' ⟨g, cp, rfl, hr, _, hb⟩
    rw [lit11_put] at hr
    exact ⟨g, cp, rfl, hr, hb⟩)
  have L2 := hidp (show ∀ (W : World) (a a' : Option Addr) (c c' : Nat), RowsAt W a 1 c (tabL (fun _ _ => (7 : Int)) 1 1) → RowsAt W a' 1 c' (tabL (fun _ _ => (7 : Int)) 1 1) → Calls Try.prog 27 #[.agg #[.int .i64 1, .slice a 1 c], .agg #[.int .i64 1, .slice a' 1 c']] W fun e w' => e = .returned (.bool true) ∧ Below W.heap.size W w' from fun W a a' c c' h h' => samet_c 1 a a' 1 c c' _ W h h' (by omega) (by omega) (by omega))
  have CM := hidp (fun W (hB : Below w.heap.size w W) => came_c a2 len2 cap2 z2 1000 W (w2.below hB) (by omega) (by omega))
  have m2 := w2.max
  have l2 := w2.le
  have b3 := wf_bd w3
  have CB := hidp (camL_bd z2 1000 (by omega) (min len2 60))
  have CK := hidp (camL_keys z2 1000 (rows_key w2) (min len2 60))
  have CL := hidp (show (camL z2 1000 (min len2 60)).length ≤ 60 from Nat.le_trans (camL_len _ _ _) (by omega))
  generalize camL z2 1000 (min len2 60) = L at *
  have CN := hidp (fun p (hp : p ∈ L) => show (0 : Int) ≤ p.2 by have := CB.out p hp; omega)
  have CS := hidp (show 0 ≤ csum L ∧ csum L ≤ 60000 by
    have := csum_bd 1000 (by omega) L (fun p hp => by have := CB.out p hp; omega)
    have := CL.out
    omega)
  obtain ⟨m, hm⟩ : ∃ m, m = twd a0 := ⟨_, rfl⟩
  obtain ⟨n, hn⟩ : ∃ n, n = trw a1 := ⟨_, rfl⟩
  have mb := twd_bd a0
  have nb := trw_bd a1
  rw [← hm] at mb
  rw [← hn] at nb
  have RC := hidp (fun W => show Calls Try.prog 30 #[.int .i64 a0, .int .i64 a1] W fun e w' => ∃ g cp, e = .returned (tabV m (some ⟨g, 0, none⟩) n cp) ∧ RowsAt w' (some ⟨g, 0, none⟩) n cp (tabL (fun _ _ => 0) m n) ∧ Below W.heap.size W w' from by
    subst hm hn
    exact rows_c a0 a1 W)
  have CT := hidp (fun a c al cl W (h : RowsAt W a n c (tabL (fun _ _ => 0) m n)) (hL : CntAt W al L.length cl L) => counted_c m a n c (fun _ _ => 0) al L.length cl L W h hL mb.1 mb.2 nb.1 nb.2 (fun i j _ _ => by have := CS.out; omega) CN.out)
  have TB := hidp (fun i j => show 0 ≤ cntT (plc m) (fun _ _ => 0) L i j ∧ cntT (plc m) (fun _ _ => 0) L i j ≤ csum L by
    have := hits_bd (plc m) i j L CN.out
    have := CS.out
    unfold cntT
    show 0 ≤ (0 : Int) + hits (plc m) L i j ∧ (0 : Int) + hits (plc m) L i j ≤ csum L
    omega)
  have AK := hidp (fun a c key W (h : RowsAt W a n c (tabL (cntT (plc m) (fun _ _ => 0) L) m n)) => task_c m a n c _ key W h (tabL_ok _ m n mb.1 mb.2 nb.1 nb.2 (fun i j _ _ => by have := TB.out i j; have := CS.out; omega)))
  have PL := hidp (fun key i => plc_lt m key i mb.1)
  have RS := hidp (fun i => show ∀ k, k ≤ m → -4611686018427387904 ≤ sumK (tab (cntT (plc m) (fun _ _ => 0) L i) m) k ∧ sumK (tab (cntT (plc m) (fun _ _ => 0) L i) m) k ≤ 4611686018427387904 from fun k hk => by
    have h1 := sumK_bd (tab (cntT (plc m) (fun _ _ => 0) L i) m) 60000 (by omega) k (fun j hj => by
      rw [tab_gi _ _ _ (by omega)]
      have := TB.out i j
      have := CS.out
      omega)
    have : (60000 : Int) * (k : Int) ≤ 60000 * 32 := by omega
    omega)
  have RT := hidp (fun i => show sumK (tab (cntT (plc m) (fun _ _ => 0) L i) m) m = csum L by
    rw [sumK_tab _ _ _ (Nat.le_refl _), ← row_sum (plc m) i m (fun key => PL.out key i) L]
    exact sumF_congr _ _ _ (fun j _ => by unfold cntT; show (0 : Int) + _ = _; omega))
  have F1 := hidp (fun key => show occ L key ≤ tmin (cntT (plc m) (fun _ _ => 0) L) (plc m key) n from tmin_ge _ _ _ (by have := (occ_bd key L CN.out).2; have := CS.out; omega) n (fun i _ => by
    have := hits_occ (plc m) i key L CN.out
    unfold cntT
    show _ ≤ (0 : Int) + _
    omega))
  have F2 := hidp (fun key => show tmin (cntT (plc m) (fun _ _ => 0) L) (plc m key) n ≤ csum L from Int.le_trans (tmin_le _ _ n 0 (by omega)) (TB.out 0 _).2)
  have F3 := hidp (fun key => tmin_bd (cntT (plc m) (fun _ _ => 0) L) (plc m key) n (fun i _ => (TB.out i _).1))
  generalize cntT (plc m) (fun _ _ => 0) L = T at *
  clear hm hn CB w2 w0 w1 w3 PL TB
  unfold tabV at *
  go_enter Try.func7, Try.ntmps7
  go_wp2_with fail
  have hb0 : Below w.heap.size w ((w.alloc (.cells #[.int .i64 3] 3)).alloc (.cells #[.slice (some ⟨w.heap.size, 0, none⟩) 1 1] 22)) := bal (bal (Below.refl _ _) _) _
  refine (L1.out _ _ (lit11 3 (by omega) rfl)).mono ?_
  rintro e wa ⟨g, cp, rfl, hr, hba⟩
  have hwa := bstep hb0 hba
  clear hb0 hba
  have hx : Below wa.heap.size wa (wa.alloc (.cells #[.int .i64 1, .slice (some ⟨g, 0, none⟩) 1 cp] 44)) := bal (Below.refl _ _) _
  have x0 : (wa.alloc (.cells #[.int .i64 1, .slice (some ⟨g, 0, none⟩) 1 cp] 44)).cell? ⟨wa.heap.size, 0, none⟩ = some (.int .i64 1) := by go_simp
  have x1 : (wa.alloc (.cells #[.int .i64 1, .slice (some ⟨g, 0, none⟩) 1 cp] 44)).cell? ⟨wa.heap.size, 1, none⟩ = some (.slice (some ⟨g, 0, none⟩) 1 cp) := by go_simp
  have HR := hidp (hr.below hx)
  have hwb := bstep hwa hx
  clear hx hr hwa
  go_upto_region 2 with fail
  generalize (wa.alloc (.cells #[.int .i64 1, .slice (some ⟨g, 0, none⟩) 1 cp] 44)) = wb at *
  generalize wa.heap.size = PX at *
  go_wp2_with fail
  refine (L2.out _ _ _ _ _ (HR.out.below (bal (bal (Below.refl _ _) _) _)) (lit11 7 (by omega) rfl)).mono ?_
  rintro e wc ⟨rfl, hbc⟩
  have hw0 := bstep (bal (bal hwb _) _) hbc
  clear hbc hwb x0 x1 HR
  go_wp2_with fail
  refine (CM.out _ hw0).mono ?_
  rintro e v0 ⟨v, rfl, hv, hb⟩
  obtain ⟨al, cl, rfl, hl⟩ := owns_cnts hv
  have HL := hidp hl
  have hw1 := bstep hw0 hb
  clear hb hv hl hw0
  go_wp2_with fail
  refine (RC.out _).mono ?_
  rintro e v1 ⟨g1, p1, rfl, hr, hb⟩
  have hw2 := bstep hw1 hb
  replace HL := hidp (HL.out.below hb)
  have HR := hidp hr
  clear hb hr hw1
  go_wp2_with fail
  refine (CT.out _ _ _ _ _ HR.out HL.out).mono ?_
  rintro e v2 ⟨at_, ct, rfl, hr, hb⟩
  have hx : Below v1.heap.size v1 (v2.alloc (.cells #[.int .i64 (m : Nat), .slice at_ n ct] 44)) := bal hb _
  have hw3 := bstep hw2 hx
  replace HL := hidp (HL.out.below hx)
  have t0 : (v2.alloc (.cells #[.int .i64 (m : Nat), .slice at_ n ct] 44)).cell? ⟨v2.heap.size, 0, none⟩ = some (.int .i64 (m : Nat)) := by go_simp
  have t1 : (v2.alloc (.cells #[.int .i64 (m : Nat), .slice at_ n ct] 44)).cell? ⟨v2.heap.size, 1, none⟩ = some (.slice at_ n ct) := by go_simp
  have HT := hidp (hr.below (bal (Below.refl _ _) (.cells #[.int .i64 (m : Nat), .slice at_ n ct] 44)))
  clear hb hx hr hw2 HR
  go_upto_region 6 with fail
  generalize (v2.alloc (.cells #[.int .i64 (m : Nat), .slice at_ n ct] 44)) = v3 at *
  generalize v2.heap.size = Q at *
  obtain ⟨ba, oa, rfl, hla, hca⟩ := HT.out.cells (by omega)
  have RR := hidp (fun i hi => tabL_row hca mb.1 i hi)
  have mt := HT.out.max
  have et := HT.out.le
  have SC := hidp (fun (a : Option Addr) c i (h : IntsAt v3 a m c (tab (T i) m)) => show Calls Try.prog 31 #[.slice a m c] v3 fun e w' => e = .returned (.int .i64 (csum L)) ∧ v3 = w' by
    have := isum_c a m c (tab (T i) m) v3 h (RS.out i)
    rw [RT.out] at this
    exact this)
  clear hca
  have hcs := CS.out
  go_wp2_with fail
  go_loop [57] (fun i => ∃ k : Nat, k ≤ n ∧ i = .int .i64 k) (fun i => n - (intOf i).toNat)
  case atStart => exact ⟨0, by omega, rfl⟩
  case round =>
    obtain ⟨k, hk, rfl⟩ := hrel
    by_cases hlt : k < n
    · obtain ⟨bi, oi, ci, q0, q1, q2⟩ := RR.out k hlt
      have S1 := hidp (SC.out _ _ k q1)
      have hne : (csum L != csum L) = false := by simp
      clear q1
      go_wp2_with fail
      refine S1.out.mono ?_
      rintro e w' ⟨rfl, rfl⟩
      go_wp2_with fail
      go_round
      case rel => exact ⟨k + 1, by omega, by go_num⟩
      case measure => simp [intOf]; omega
    · obtain rfl : k = n := by omega
      clear RR SC RS RT L1 L2 CM RC CT
      go_wp2_with fail
      refine (counts_c al L.length cl L v3 HL.out (by have := CL.out; omega) CN.out (by omega) CK.out).mono ?_
      rintro e v4 ⟨r, rfl, hM, hb⟩
      have HM := hidp hM
      replace t0 := ck hb t0
      replace t1 := ck hb t1
      replace HT := hidp (HT.out.below hb)
      replace HL := hidp (HL.out.below hb)
      have hw4 := bstep hw3 hb
      clear hb hM hw3
      have cl60 := CL.out
      have CC := hidp (fun (W : World) (h : CntAt W al L.length cl L) => clonec_c al L.length cl L W h (by omega))
      have S0 := hidp (show ∀ W, Below v4.heap.size v4 W → CntAt W al L.length cl L from fun W hB => HL.out.below hB)
      go_wp2_with (first
        | (go_at_call 33; refine (CC.out _ (S0.out _ (Below.refl _ _))).mono ?_; rintro e v5 ⟨vc, rfl, hc, hb5⟩; have hg5 := hb5.size)
        | (at_builtin; refine wpList_append_new rfl (.tmp 69) (.tmp 72) 53 rfl v4.heap.size 64 _ 2 16 info_cnt rfl (by decide) Try.underlying53 vc L.length _ rfl hc rfl (one_two _ _) rfl (by simp) (by omega) (by decide) hg5 ?_; intro vd v6 hd hg6 dd; rw [← cntV_snoc] at hd; have hq := owns_cnts hd; obtain ⟨ad, cd, rfl, hcd⟩ := hq))
      have hb6 := append_step hc hb5 (Nat.le_refl _) hg6
      have LS := hidp (LowS.mk (ck hb6 t0) (ck hb6 t1) (HT.out.below hb6) hcd (HM.out.below hb6))
      have KB := hidp (fun (p : Int × Int) (hp : p ∈ L ++ [(a3, (0 : Int))]) => show -9223372036854775808 ≤ p.1 ∧ p.1 ≤ 9223372036854775807 by
        rcases List.mem_append.1 hp with h | h
        · exact CK.out p h
        · simp at h; subst h; exact b3)
      have hw6 := hidp (bstep hw4 hb6)
      have md := hcd.max
      have ed := hcd.le
      have hll : (L ++ [(a3, (0 : Int))]).length = L.length + 1 := by simp
      have HLL := hidp hll
      clear hb6 hb5 hc hd hg6 dd hg5 hcd t0 t1 HT HM HL hw4 CC S0 hll CK
      generalize L ++ [(a3, (0 : Int))] = K at *
      obtain ⟨q, hq⟩ : ∃ q, q = L.length + 1 := ⟨_, rfl⟩
      have hq61 : q ≤ 61 := by omega
      rw [← hq] at LS ed HLL
      clear cl60
      go_loopw [75] (fun i wr => ∃ j : Nat, j ≤ q ∧ i = .int .i64 j ∧ Below v6.heap.size v6 wr) (fun i _ => q - (intOf i).toNat)
      case atStart => exact ⟨0, by omega, rfl, Below.refl _ _⟩
      case round =>
        obtain ⟨j, hj, rfl, hbl⟩ := hrel
        by_cases hlt2 : j < q
        · have LR := LS.out.below hbl
          have lc := LR.cnt
          obtain ⟨bc, oc, rfl, hbc, hcc⟩ := lc.cells (by omega)
          obtain ⟨q0, q1⟩ := hcc j hlt2
          have kb := KB.out _ (cmem K j (by rw [HLL.out]; exact hlt2))
          have kb' : -9223372036854775808 ≤ ckey K j ∧ ckey K j ≤ 9223372036854775807 := kb
          have f1 := F1.out (ckey K j)
          have f2 := F2.out (ckey K j)
          have f3 := F3.out (ckey K j)
          have hx : Below wr.heap.size wr (wr.alloc (.cells #[.int .i64 (ckey K j), .int .i64 (cnum K j)] 64)) := bal (Below.refl _ _) _
          have LX := hidp (LR.below hx)
          have A1 := hidp (AK.out _ _ (ckey K j) _ LX.out.rows)
          have x0 : (wr.alloc (.cells #[.int .i64 (ckey K j), .int .i64 (cnum K j)] 64)).cell? ⟨wr.heap.size, 0, none⟩ = some (.int .i64 (ckey K j)) := by go_simp
          have d0 := LX.out.c0
          have d1 := LX.out.c1
          have hbx := bal hbl (.cells #[.int .i64 (ckey K j), .int .i64 (cnum K j)] 64)
          clear hcc kb lc LR
          generalize tmin T (plc m (ckey K j)) k = est at *
          generalize ckey K j = key at *
          generalize cnum K j = num at *
          go_upto_region 18 with fail
          generalize (wr.alloc (.cells #[.int .i64 key, .int .i64 num] 64)) = wx at *
          generalize wr.heap.size = XB at *
          clear hx q0 q1 hbl
          go_wp2_with fail
          refine A1.out.mono ?_
          rintro e wy ⟨rfl, hby⟩
          have y0 := ck hby x0
          have hR := (LX.out.mp.below hby).run (t := 60) (Maps.int_keyed Try.underlying3) Try.underlying60 Try.underlying3 (zeroInt _) key (key_any _ kb'.1 kb'.2)
          have hbz := bstep hbx hby
          clear hby hbx x0 d0 d1 LX A1
          generalize occ L key = oc2 at *
          go_wp2_with fail
          go_roundw
          case rel => exact ⟨j + 1, by omega, by go_num, hbz⟩
          case measure => simp [intOf]; omega
        · obtain rfl : j = q := by omega
          go_wp2_with fail
          go_ret
          exact ⟨rfl, bstep hw6.out hbl⟩
end Go.Proofs.Ytpghnbpoodcglaa.tableLow
