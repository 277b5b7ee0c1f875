/- few.Put and few.Join at whatever comes (printed by genfewany.py). -/
import Derived.Test.YtffocoflmbhknaaFewJoin
import Derived.Test.YtffocoflmbhknaaFewPutC
import Derived.Test.YtffocoflmbhknaaFr
import Derived.BigQuiet
namespace Go.Proofs.Ytffocoflmbhknaa
open Go.ChangeShapes Go.WideShapes Go.ChangeAt Go.RowKit
set_option maxRecDepth 20000
def FrC (B : Nat) (W : World) (v : Value) : Prop := ∃ (n : Nat) (L : List (Int × Int)), W.ownsRow B 36 2 v n (cntV L) ∧ n ≤ 1000
set_option maxHeartbeats 8000000 in
theorem fewless_w (a : Option Addr) (n c : Nat) (L : List (Int × Int)) (d : Int) (w : World) (h : CntAt w a n c L) (hn : n ≤ 1000) (hd : 0 ≤ d ∧ d ≤ 40000000000000) (hN : ∀ p ∈ L, 0 ≤ p.2 ∧ p.2 ≤ 40000000000000) :
    Calls Try.prog 32 #[.slice a n c, .int .i64 d] w fun e w' => ∃ v, e = .returned v ∧ w'.ownsRow w.heap.size 36 2 v (kless d L).length (cntV (kless d L)) ∧ Below w.heap.size w w' := by
  obtain ⟨b, o, hz, hx⟩ := h.split
  have hz' : Hid (n = 0) ∨ a = some ⟨b, o, none⟩ := hz.imp_left hidp
  have HX := hidp hx
  have mm := h.max
  have ee := h.le
  have LN := hidp h.len
  have HN := hidp (fun i (hi : i < n) => hN _ (cmem L i (by rw [h.len]; exact hi)))
  have KL := hidp (fun k => show (kless d (L.take k)).length ≤ k by
    rw [kless_len]
    exact Nat.le_trans List.countP_le_length (by rw [List.length_take]; omega))
  have ST := hidp (fun i (hi : i < n) => show kless d (L.take (i + 1)) = kless d (L.take i) ++ (if d < cnum L i then [(ckey L i, cnum L i - d)] else []) by
    rw [ctake L i (by rw [LN.out]; exact hi), kless_append]; rfl)
  have TL := hidp (show kless d (L.take n) = kless d L by rw [← LN.out, List.take_length])
  clear hx hz h hN
  go_enter Try.func32, Try.ntmps32
  go_wp2_with fail
  go_loopg [5, 10] n (fun gg v i wr => ∃ k : Nat, k ≤ n ∧ n - k ≤ gg ∧ i = .int .i64 k ∧ wr.ownsRow w.heap.size 36 2 v (kless d (L.take k)).length (cntV (kless d (L.take k))) ∧ Below w.heap.size w wr)
  case atStart => exact ⟨0, by omega, by omega, rfl, World.ownsRow_nil _ _ _ _, Below.refl _ _⟩
  case round =>
    obtain ⟨k, hk, hgg, rfl, hv, hbl⟩ := hrel
    by_cases hlt : k < n
    · obtain rfl : a = some ⟨b, o, none⟩ := hz'.resolve_left (fun e => by have := e.out; omega)
      obtain ⟨hbs, hc1, hc2⟩ := HX.out k hlt
      have q0 := carry_cell ⟨hbs, hc1⟩ hbl
      have q1 := carry_cell ⟨hbs, hc2⟩ hbl
      clear hc1 hc2
      have m2 : 0 ≤ cnum L k ∧ cnum L k ≤ 40000000000000 := HN.out k hlt
      have SS := ST.out k hlt
      have kl := KL.out k
      generalize ckey L k = y1 at *
      generalize cnum L k = n1 at *
      generalize kless d (L.take k) = M at *
      by_cases hc : d < n1
      · rw [if_pos hc] at SS
        have S2 := hidp SS
        clear SS
        have WR : IntKind.i64.wrap (n1 - d) = n1 - d := IntWalk.i64_in _ (by omega)
        have hvx := hv.alloc (.cells #[.int .i64 y1, .int .i64 n1] 36)
        have hbx := bal hbl (.cells #[.int .i64 y1, .int .i64 n1] 36)
        have x0 : (wr.alloc (.cells #[.int .i64 y1, .int .i64 n1] 36)).cell? ⟨wr.heap.size, 0, none⟩ = some (.int .i64 y1) := by go_simp
        have x1 : (wr.alloc (.cells #[.int .i64 y1, .int .i64 n1] 36)).cell? ⟨wr.heap.size, 1, none⟩ = some (.int .i64 n1) := by go_simp
        go_upto_region 6 with fail
        generalize (wr.alloc (.cells #[.int .i64 y1, .int .i64 n1] 36)) = wx at *
        generalize wr.heap.size = XB at *
        clear hv hbl q0 q1
        have hgs := hbx.size
        go_wp2_with (at_builtin; refine wpList_append_new rfl (.tmp 18) (.tmp 26) 28 rfl w.heap.size 36 _ 2 16 info_cnt rfl (by decide) Try.underlying28 _ M.length _ rfl hvx rfl (one_two y1 (n1 - d)) rfl rfl (by omega) (by decide) hgs ?_; intro v0 x0 nw g0 d0)
        go_roundg (n - (k + 1))
        case measure => omega
        case rel => exact ⟨k + 1, by omega, by omega, by go_num, by rw [S2.out, cntV_snoc, List.length_append]; exact nw, append_step hvx hbx (Nat.le_refl _) g0⟩
      · rw [if_neg hc, List.append_nil] at SS
        have S2 := hidp SS
        clear SS
        have hvx := hv.alloc (.cells #[.int .i64 y1, .int .i64 n1] 36)
        go_wp2
        go_roundg (n - (k + 1))
        case measure => omega
        case rel => exact ⟨k + 1, by omega, by omega, by go_num, by rw [S2.out]; exact hvx, bal hbl _⟩
    · obtain rfl : k = n := by omega
      rw [TL.out] at hv
      go_wp2
      go_ret
      exact ⟨_, rfl, hv, hbl⟩
set_option maxHeartbeats 16000000 in
theorem fjoin_two (K : Nat) (s t : Int × List (Int × Int)) (a1 : Option Addr) (n1 c1 : Nat) (a2 : Option Addr) (n2 c2 : Nat) (w : World) (h1 : CntAt w a1 n1 c1 s.2) (h2 : CntAt w a2 n2 c2 t.2) (ok1 : FewOk K s) (ok2 : FewOk K t) :
    Calls Try.prog 13 #[fewV K s.1 a1 n1 c1, fewV K t.1 a2 n2 c2] w fun e w' => ∃ kk ll v r, e = .returned (.tuple #[.agg #[.int .i64 kk, .int .i64 ll, v], .int .i64 r]) ∧ FrC w.heap.size w' v ∧ Below w.heap.size w w' := by
  obtain ⟨ib, hib, hz0, hz1, hz2⟩ := info_parts info_int
  have hS : csum s.2 + csum t.2 ≤ 32000000000000 := by
    have x1 := (csum_bd 1000000000000 (by omega) s.2 (fun p hp => ⟨by have := ok1.pos p hp; omega, ok1.big p hp⟩)).2
    have x2 := (csum_bd 1000000000000 (by omega) t.2 (fun p hp => ⟨by have := ok2.pos p hp; omega, ok2.big p hp⟩)).2
    have y1 := ok1.ln
    have y2 := ok2.ln
    have y3 := ok1.k2
    omega
  have CK1 := hidp (fun W (hB : Below w.heap.size w W) => fcheck_ok K s a1 n1 c1 W (h1.below hB) ok1)
  have CK2 := hidp (fun W (hB : Below w.heap.size w W) => fcheck_ok K t a2 n2 c2 W (h2.below hB) ok2)
  have H1 := hidp h1
  have H2 := hidp h2
  have l1 := h1.len
  have l2 := h2.len
  have m1 := h1.max
  have m2 := h2.max
  have e1 := h1.le
  have e2 := h2.le
  have lk1 := ok1.ln
  have lk2 := ok2.ln
  have k2 := ok1.k2
  have RJ := hidp (fun j => kjoin_rise (t.2.take j) s.2 ok1.ris)
  have PJ := hidp (fun j => kjoin_pos (t.2.take j) s.2 (fun p hp => ok2.pos p (List.mem_of_mem_take hp)) ok1.pos)
  have LJ := hidp (fun j => show (kjoin s.2 (t.2.take j)).length ≤ n1 + j from Nat.le_trans (kjoin_len _ _) (by rw [List.length_take]; omega))
  have BJ := hidp (fun j p (hp : p ∈ kjoin s.2 (t.2.take j)) => show p.2 ≤ 32000000000000 by
    have a := mem_csum _ (fun q hq => by have := PJ.out j q hq; omega) p hp
    have b := kjoin_csum (t.2.take j) s.2
    have c := (csum_take t.2 (fun p hp => by have := ok2.pos p hp; omega) j).1
    omega)
  have SJ := hidp (fun j (hj : j < n2) => show kjoin s.2 (t.2.take (j + 1)) = kadd (kjoin s.2 (t.2.take j)) (ckey t.2 j) (cnum t.2 j) by
    rw [ctake t.2 j (by omega), kjoin_snoc])
  have NB := hidp (fun j (hj : j < n2) => show 0 ≤ cnum t.2 j ∧ cnum t.2 j ≤ 4000000000000 by
    have a := ok2.pos _ (cmem t.2 j (by omega))
    have b := ok2.big _ (cmem t.2 j (by omega))
    have c : 1 ≤ cnum t.2 j := a
    have d : cnum t.2 j ≤ 1000000000000 := b
    omega)
  have ADD := hidp (fun j (hj : j < n2) a n c W (hI : CntAt W a n c (kjoin s.2 (t.2.take j))) => added_c a n c _ (ckey t.2 j) (cnum t.2 j) W hI (RJ.out j) (by have := LJ.out j; have := hI.len; omega) (NB.out j hj) (fun p hp => by have := PJ.out j p hp; have := BJ.out j p hp; omega))
  have TJ := hidp (show kjoin s.2 (t.2.take n2) = kjoin s.2 t.2 by rw [← l2, List.take_length])
  have hF : fjoinR K s t = if K < (kjoin s.2 t.2).length then (s.1 + t.1 + dj K (kjoin s.2 t.2), kless (dj K (kjoin s.2 t.2)) (kjoin s.2 t.2)) else (s.1 + t.1, kjoin s.2 t.2) := rfl
  have AP := hidp (show ∀ p ∈ kjoin s.2 t.2, 1 ≤ p.2 ∧ p.2 ≤ 32000000000000 from fun p hp => by
    have a := PJ.out n2 p (by rw [TJ.out]; exact hp)
    have b := BJ.out n2 p (by rw [TJ.out]; exact hp)
    exact ⟨a, b⟩)
  have AL := hidp (show (kjoin s.2 t.2).length ≤ 32 by have := LJ.out n2; rw [TJ.out] at this; omega)
  have J0 := hidp (show kjoin s.2 (t.2.take 0) = s.2 from rfl)
  have b1 := ok1.l0
  have b2 := ok1.l1
  have b3 := ok2.l0
  have b4 := ok2.l1
  obtain ⟨F, hFF⟩ : ∃ F, F = fjoinR K s t := ⟨_, rfl⟩
  rw [← hFF] at hF
  have HFF := hidp hFF
  obtain ⟨lo1, L1⟩ := s
  obtain ⟨lo2, L2⟩ := t
  dsimp only at *
  have HF := hidp hF
  have hne : (((K : Nat) : Int) != ((K : Nat) : Int)) = false := by simp
  have WR : IntKind.i64.wrap (lo1 + lo2) = lo1 + lo2 := IntWalk.i64_in _ (by omega)
  clear hF hFF h1 h2 ok1 ok2 RJ LJ BJ PJ NB
  unfold fewV at *
  go_enter Try.func13, Try.ntmps13
  go_wp2_with fail
  have hb1 : Below w.heap.size w (((w.alloc (.cells #[.int .i64 (K : Nat), .int .i64 lo1, .slice a1 n1 c1] 30)).alloc (.cells #[.int .i64 (K : Nat), .int .i64 lo2, .slice a2 n2 c2] 30)).alloc few0) := bal (bal (bal (Below.refl _ _) _) _) _
  have JN := hidp (show JS (((w.alloc (.cells #[.int .i64 (K : Nat), .int .i64 lo1, .slice a1 n1 c1] 30)).alloc (.cells #[.int .i64 (K : Nat), .int .i64 lo2, .slice a2 n2 c2] 30)).alloc few0) w.heap.size K lo1 (.slice a1 n1 c1) lo2 (.slice a2 n2 c2) from
    ⟨by go_simp, by go_simp, by go_simp, by go_simp, by go_simp, by go_simp, ⟨.int .i64 0, by go_simp⟩, ⟨.int .i64 0, by go_simp⟩, ⟨.slice none 0 0, by go_simp⟩, fun o => by go_simp⟩)
  refine (CK1.out _ hb1).mono ?_
  rintro e wa ⟨rfl, hba⟩
  replace JN := hidp (JN.out.below hba)
  have hwa := bstep hb1 hba
  clear hb1 hba CK1
  have p0 := JN.out.q0
  have p1 := JN.out.q1
  have p2 := JN.out.q2
  go_wp2_with fail
  refine (CK2.out _ hwa).mono ?_
  rintro e wb ⟨rfl, hbb⟩
  replace JN := hidp (JN.out.below hbb)
  have hwb := bstep hwa hbb
  clear hwa hbb CK2 p0 p1 p2
  have p0 := JN.out.p0
  have p2 := JN.out.p2
  have q0 := JN.out.q0
  have q2 := JN.out.q2
  have HB2 := hidp (H2.out.below hwb)
  obtain ⟨b, o, hz, hx⟩ := HB2.out.split
  have hz' : Hid (n2 = 0) ∨ a2 = some ⟨b, o, none⟩ := hz.imp_left hidp
  have HX := hidp hx
  have C1 := hidp (H1.out.below hwb)
  clear hx hz HB2 H1 H2
  go_wp2_with fail
  go_loopg [8, 39] n2 (fun gg v i wr => ∃ (j : Nat) (aj : Option Addr) (nj cj : Nat), j ≤ n2 ∧ n2 - j ≤ gg ∧ i = .int .i64 j ∧ v = .slice aj nj cj ∧ Hid (CntAt wr aj nj cj (kjoin L1 (L2.take j))) ∧ Below wb.heap.size wb wr)
  case atStart => exact ⟨0, a1, n1, c1, by omega, by omega, rfl, rfl, by rw [J0.out]; exact C1, Below.refl _ _⟩
  case round =>
    obtain ⟨j, aj, nj, cj, hj, hgg, rfl, rfl, HI, hbl⟩ := hrel
    by_cases hlt : j < n2
    · obtain rfl : a2 = some ⟨b, o, none⟩ := hz'.resolve_left (fun e => by have := e.out; omega)
      obtain ⟨hbs, hc1, hc2⟩ := HX.out j hlt
      have x0 := carry_cell ⟨hbs, hc1⟩ hbl
      have x1 := carry_cell ⟨hbs, hc2⟩ hbl
      have AC := hidp (fun W (hB : Below wr.heap.size wr W) => ADD.out j hlt aj nj cj W (HI.out.below hB))
      have S2 := hidp (SJ.out j hlt)
      rw [← S2.out] at AC
      clear hc1 hc2
      have hbx := bal (Below.refl wr.heap.size wr) (.cells #[.int .i64 (ckey L2 j), .int .i64 (cnum L2 j)] 36)
      have AC2 := hidp (AC.out _ hbx)
      have y0 : (wr.alloc (.cells #[.int .i64 (ckey L2 j), .int .i64 (cnum L2 j)] 36)).cell? ⟨wr.heap.size, 0, none⟩ = some (.int .i64 (ckey L2 j)) := by go_simp
      have y1 : (wr.alloc (.cells #[.int .i64 (ckey L2 j), .int .i64 (cnum L2 j)] 36)).cell? ⟨wr.heap.size, 1, none⟩ = some (.int .i64 (cnum L2 j)) := by go_simp
      have hb2 := bstep hbl hbx
      go_upto_region 13 with fail
      generalize (wr.alloc (.cells #[.int .i64 (ckey L2 j), .int .i64 (cnum L2 j)] 36)) = wx at *
      generalize wr.heap.size = XB at *
      clear x0 x1 hbx AC
      go_wp2_with fail
      refine AC2.out.mono ?_
      rintro e wy ⟨v, rfl, hv, hby⟩
      obtain ⟨ay, cy, rfl, hIy⟩ := owns_cnts hv
      have HI2 := hidp hIy
      have hbz := bstep hb2 hby
      clear hby hb2 hv hIy AC2 y0 y1
      go_wp2_with fail
      go_roundg (n2 - (j + 1))
      case measure => omega
      case rel => exact ⟨j + 1, ay, _, cy, by omega, by omega, by go_num, rfl, HI2, hbz⟩
    · obtain rfl : j = n2 := by omega
      rw [TJ.out] at HI
      clear TJ SJ ADD J0 HX hz' p0 p2 q0 q2
      generalize kjoin L1 L2 = A at *
      have JL := hidp (JN.out.below hbl)
      have hwL := hidp (bstep hwb hbl)
      have hsL : w.heap.size + 2 < wr.heap.size := by obtain ⟨u, hu⟩ := JL.out.r0; exact ltc hu
      clear JN hbl hwb C1
      have nl := HI.out.len
      have ne := HI.out.le
      have nm := HI.out.max
      have al32 := AL.out
      generalize wr = wL at *
      have CC := hidp (fun W (hB : Below wL.heap.size wL W) => clonec_c aj nj cj A W (HI.out.below hB) (by omega))
      have p0 := JL.out.p0
      have p1 := JL.out.p1
      have q1 := JL.out.q1
      have n2' : ¬ w.heap.size = wL.heap.size := by omega
      have n3 : ¬ wL.heap.size = w.heap.size := by omega
      have n4 : ¬ w.heap.size + 1 = wL.heap.size := by omega
      have n5 : ¬ wL.heap.size = w.heap.size + 1 := by omega
      have n6 : w.heap.size < wL.heap.size := by omega
      have n7 : w.heap.size + 1 < wL.heap.size := by omega
      go_wp2_with fail
      go_cut [11] (fun s11 wx => ∃ (Q : Nat) (v : Value), s11 = .pointer (some ⟨Q, 0, none⟩) ∧ wL.heap.size ≤ Q ∧ Hid (QS wx Q K (lo1 + lo2) v) ∧ wx.ownsRow wL.heap.size 36 2 v nj (cntV A) ∧ Below wL.heap.size wL wx)
      case first =>
        go_region_held3 (fun w' => w'.cell? ⟨w.heap.size, 0, none⟩ = some (.int .i64 (K : Nat)) ∧ w'.cell? ⟨w.heap.size, 1, none⟩ = some (.int .i64 lo1) ∧ w'.cell? ⟨w.heap.size + 1, 1, none⟩ = some (.int .i64 lo2)) (first | go_keep | exact ⟨d0, d1, d2⟩) ((go_at_call 22; refine Calls.mono (CC.out _ ?_) ?_; (first | exact (Below.refl _ _).drew | exact (bal (Below.refl _ _) _).drew); rintro e wy ⟨v, rfl, hv, hbb⟩; have hf := owns_form hv; obtain ⟨av, cv, rfl, hv1, hv2⟩ := hf; (first | (have z := zz3 (P := wL.heap.size) rfl hbb; obtain ⟨z0, z1, z2, zf, zl, hbv, zq⟩ := z; have zf0 := zf 0; have zf1 := zf 1; have zf2 := zf 2; have d0 := zq _ _ _ p0; have d1 := zq _ _ _ p1; have d2 := zq _ _ _ q1; have ne1 := nec d0; obtain ⟨n21, n22⟩ := ne1; have n23 := ltc d0; have ne2 := nec d2; obtain ⟨n31, n32⟩ := ne2; have n33 := ltc d2) | (have hbv := bstep (Below.refl wL.heap.size wL).drew hbb; have d0 := ck hbv p0; have d1 := ck hbv p1; have d2 := ck hbv q1; have ne1 := nec d0; obtain ⟨n21, n22⟩ := ne1; have n23 := ltc d0; have ne2 := nec d2; obtain ⟨n31, n32⟩ := ne2; have n33 := ltc d2))))
        all_goals go_wp2
        all_goals go_meet
        all_goals first
          | exact ⟨_, _, rfl, Nat.le_refl _, hidp ⟨(res3 _ _ _ z0 z1 z2).1, (res3 _ _ _ z0 z1 z2).2.1, (res3 _ _ _ z0 z1 z2).2.2, fun o => frs3 (zf o)⟩, few_own hv, below_set3 hbv wL.heap.size (Nat.le_refl _) _ _ _⟩
          | exact ⟨_, _, rfl, by have := hbv.size; omega, hidp ⟨by go_simp, by go_simp, by go_simp, fun o => by go_simp⟩, owns_mono (hv.alloc _) (Nat.le_refl _), bal hbv _⟩
      case rest =>
        obtain ⟨Q, v, rfl, hQ, QQ, hv, hLc⟩ := hcut
        have hL := hidp hLc
        clear hLc CC p0 p1 q1 n2' n3 n4 n5 n6 n7
        have hcs := hL.out.size
        have p0 := ck hL.out JL.out.p0
        by_cases hK : K < nj
        · have hK' : (K : Int) < (nj : Int) := by omega
          have HF2 := hidp (show F = (lo1 + lo2 + dj K A, kless (dj K A) A) by rw [HF.out, if_pos (by omega)])
          have DP := (dj_props K A 32000000000000 (by omega) AP.out).1
          have hDD := hidp (show gi (srtI (A.map (·.2))) (nj - 1 - K) = dj K A by unfold dj; rw [nl])
          have IA := hidp (HI.out.below hL.out)
          have hneQ := hidp (show ∀ b o, aj = some ⟨b, o, none⟩ → b ≠ Q from fun b o e => by have := cnt_lt HI.out (by omega) b o e; omega)
          obtain ⟨ba, oa, rfl, hba, hca⟩ := IA.out.cells (by omega)
          have HC := hidp hca
          have NN := hidp (fun i (hi : i < nj) => show 1 ≤ cnum A i ∧ cnum A i ≤ 32000000000000 from AP.out _ (cmem A i (by omega)))
          clear hca
          go_wp2_with (at_make; refine wpList_make_full _ rfl _ _ 53 rfl wc.heap.size 3 ib (.int .i64 0) 1 Try.underlying53 hib hz0 hz1 .i64 .i64 nj nj nj rfl rfl rfl rfl (by rw [hz2]; omega) (by unfold maxLen; omega) (Nat.le_refl _) ?_; intro wm how hgr)
          have hbm := below_new hgr
          have e : (madeCells (Value.int .i64 0).cells (nj * 1)).toList = tab (fun i => Value.int .i64 (if i < 0 then cnum A i else 0)) nj := by
            show (madeCells #[Value.int .i64 0] (nj * 1)).toList = _
            rw [made_tab]
            exact tab_congr _ _ _ (fun i _ => by rw [if_neg (by omega)])
          rw [e] at how
          clear e hgr
          go_loopg [70] nj (fun gg i wy => ∃ j : Nat, j ≤ nj ∧ nj - j ≤ gg ∧ i = .int .i64 j ∧ wy.ownsRow wc.heap.size 3 1 (.slice (some ⟨wc.heap.size, 0, none⟩) nj nj) nj (tab (fun i => Value.int .i64 (if i < j then cnum A i else 0)) nj) ∧ Below wc.heap.size wc wy)
          case atStart => exact ⟨0, by omega, by omega, rfl, how, hbm⟩
          case round =>
            clear how hbm
            obtain ⟨j, hj, hgj, rfl, ho, hby⟩ := hrel
            by_cases hlj : j < nj
            · obtain ⟨d1, d2⟩ := HC.out j hlj
              have x0 := ck hby d1
              have x1 := ck hby d2
              clear d1 d2
              have ho2 := ho.alloc (.cells #[.int .i64 (ckey A j), .int .i64 (cnum A j)] 36)
              have hbx := bal hby (.cells #[.int .i64 (ckey A j), .int .i64 (cnum A j)] 36)
              have y1 : (wr.alloc (.cells #[.int .i64 (ckey A j), .int .i64 (cnum A j)] 36)).cell? ⟨wr.heap.size, 1, none⟩ = some (.int .i64 (cnum A j)) := by go_simp
              have z1 := ho2.frozenAt j
              have z2 := ho2.cellAt j (by omega)
              rw [tab_get _ _ _ hlj] at z2
              have ST := hidp (own_store_tab ho2 j (.int .i64 (cnum A j)))
              have SB := hidp (hbx.setCell (p := ⟨wc.heap.size, j, none⟩) (Nat.le_refl _) (.int .i64 (cnum A j)))
              go_upto_region 21 with fail
              generalize (wr.alloc (.cells #[.int .i64 (ckey A j), .int .i64 (cnum A j)] 36)) = wz at *
              generalize wr.heap.size = XB at *
              clear x0 x1 ho ho2 hby hbx
              go_wp2_with fail
              go_roundg (nj - (j + 1))
              case measure => omega
              case rel =>
                refine ⟨j + 1, by omega, by omega, by go_num, ?_, SB.out⟩
                rw [tab_congr _ (fun i => if i = j then Value.int .i64 (cnum A j) else Value.int .i64 (if i < j then cnum A i else 0)) nj (fun i _ => by
                  by_cases e : i = j
                  · subst e; rw [if_pos rfl, if_pos (by omega)]
                  · rw [if_neg e]
                    by_cases e2 : i < j
                    · rw [if_pos e2, if_pos (by omega)]
                    · rw [if_neg e2, if_neg (by omega)])]
                exact ST.out
            · obtain rfl : j = nj := by omega
              have et : tab (fun i => Value.int .i64 (if i < j then cnum A i else 0)) j = (A.map (·.2)).map (Value.int .i64) := by
                rw [← tab_nums A, nl, tab_map]
                exact tab_congr _ _ _ (fun i hi => by rw [if_pos hi])
              rw [et] at ho
              have SO := hidp (sorti_own wc.heap.size j j wc.heap.size _ wr ho (by omega))
              clear ho et HC NN
              go_wp2_with fail
              refine SO.out.mono ?_
              rintro e ws ⟨rfl, hos, hgs⟩
              have hbs2 : Below wc.heap.size wc ws := hby.grown hgs hby.size (fun g e => by cases e; exact Nat.le_refl _)
              have idx : ((j : Int) - 1 - (K : Int)) = ((j - 1 - K : Nat) : Int) := by omega
              have z2 := hos.cellAt (j - 1 - K) (by omega)
              have hgi := gi_get (srtI (A.map (·.2))) (j - 1 - K) (by rw [srtI_len, List.length_map]; omega)
              rw [List.getElem?_map, hgi, hDD.out] at z2
              have p0s := ck hbs2 p0
              have ixl : ((j - 1 - K : Nat) : Int) < (j : Int) := by omega
              have QS2 := hidp (QQ.out.below hbs2)
              have IA2 := hidp (IA.out.below hbs2)
              have hLs := hidp (hL.out.trans (hbs2.mono hcs))
              have hss := hbs2.size
              obtain ⟨d, hd⟩ : ∃ d, d = dj K A := ⟨_, rfl⟩
              rw [← hd] at z2 HF2 DP
              have LS := hidp (fun W (hB : CntAt W (some ⟨ba, oa, none⟩) j cj A) => fewless_w (some ⟨ba, oa, none⟩) j cj A d W hB (by omega) (by omega) (fun p hp => by have := AP.out p hp; omega))
              have WD : IntKind.i64.wrap (lo1 + lo2 + d) = lo1 + lo2 + d := IntWalk.i64_in _ (by omega)
              have hQs : Q < ws.heap.size := ltc QS2.out.q0
              obtain ⟨A2, hA2⟩ : ∃ A2, A2 = kless d A := ⟨_, rfl⟩
              rw [← hA2] at HF2 LS
              have HA2 := hidp hA2
              clear hos hgs hbs2 hby QQ IA hDD SO hgi hd hA2 p0 hv
              generalize ws = wS at *
              go_wp2_with fail
              have q1 := QS2.out.q1
              have q2 := QS2.out.q2
              have f1 := QS2.out.fq 1
              have f2 := QS2.out.fq 2
              clear z2 p0s idx
              go_cut [] (fun wx => ∃ v : Value, Hid (QS wx Q K (lo1 + lo2 + d) v) ∧ wx.ownsRow wL.heap.size 36 2 v A2.length (cntV A2) ∧ Below wL.heap.size wL wx)
              case first =>
                go_region_with (go_at_call 32; go_loud (refine Calls.mono (LS.out _ ?_) ?_; (first | exact IA2.out.below (Below.refl _ _).drew | exact (IA2.out.below (Below.refl _ _).drew).setCell ⟨Q, 1, none⟩ hneQ.out (.int .i64 (lo1 + lo2 + d))); rintro e wy ⟨v, rfl, hv, hbb⟩; have hf := owns_form hv; obtain ⟨a3, c3, rfl, hv1, hv2⟩ := hf; (first | (have hbv := bstep (Below.refl wS.heap.size wS).drew hbb; have d1 := ck hbv q1; have d2 := ck hbv q2; have F4 := hidp (QS2.out.below hbv); have g1 := F4.out.fq 1; have g2 := F4.out.fq 2; have hB := hidp (bstep hLs.out hbv)) | (have F4 := hidp (((QS2.out.below (Below.refl _ _).drew).put1 (lo1 + lo2 + d)).below hbb); have d1 := F4.out.q1; have d2 := F4.out.q2; have g1 := F4.out.fq 1; have g2 := F4.out.fq 2; have hB := hidp (bstep ((Below.drew hLs.out).setCell (p := ⟨Q, 1, none⟩) (by show wL.heap.size ≤ Q; omega) (.int .i64 (lo1 + lo2 + d))) hbb)))))
                all_goals go_wp2
                all_goals go_meet
                all_goals first
                  | exact ⟨_, hidp (F4.out.put2 _), owns_mono (ownsRow_setCell_below hv (a := ⟨Q, 2, none⟩) (by show Q < _; simp; omega) _) (by simp; omega), hB.out.setCell (p := ⟨Q, 2, none⟩) (by show wL.heap.size ≤ Q; omega) _⟩
                  | exact ⟨_, hidp ((F4.out.put2 _).put1 _), owns_mono (ownsRow_setCell_below (ownsRow_setCell_below hv (a := ⟨Q, 2, none⟩) (by show Q < _; simp; omega) _) (a := ⟨Q, 1, none⟩) (by show Q < _; simp; omega) _) (by simp; omega), (hB.out.setCell (p := ⟨Q, 2, none⟩) (by show wL.heap.size ≤ Q; omega) _).setCell (p := ⟨Q, 1, none⟩) (by show wL.heap.size ≤ Q; omega) _⟩
                  | exact ⟨_, hidp ((F4.out.put1 _).put2 _), owns_mono (ownsRow_setCell_below (ownsRow_setCell_below hv (a := ⟨Q, 1, none⟩) (by show Q < _; simp; omega) _) (a := ⟨Q, 2, none⟩) (by show Q < _; simp; omega) _) (by simp; omega), (hB.out.setCell (p := ⟨Q, 1, none⟩) (by show wL.heap.size ≤ Q; omega) _).setCell (p := ⟨Q, 2, none⟩) (by show wL.heap.size ≤ Q; omega) _⟩
              case rest =>
                obtain ⟨v, QQ, hv, hLc⟩ := hcut
                clear QS2 IA2 hLs q1 q2 f1 f2 LS
                have hL := hidp hLc
                clear hLc
                obtain ⟨a3, c3, rfl, hI3⟩ := owns_cnts hv
                have g1 := hI3.le
                have g2 := hI3.max
                have CK3 := hidp (fcheck_g K (lo1 + lo2 + d) a3 A2.length c3 A2 wc hI3)
                have x0 := QQ.out.q0
                have x1 := QQ.out.q1
                have x2 := QQ.out.q2
                clear hI3
                unfold fewV at *
                go_wp2_with fail
                refine CK3.out.mono ?_
                rintro e wd ⟨er, rfl, hbd, -⟩
                have Q3 := QQ.out.below hbd
                have hvd := owns_below hv hbd
                have hLd := bstep hL.out hbd
                obtain ⟨_, _, _, _, _, _, ⟨u0, t0⟩, ⟨u1, t1⟩, ⟨u2, t2⟩, fr⟩ := JL.out.below hLd
                have hwd := bstep hwL.out hLd
                have y0 := Q3.q0
                have y1 := Q3.q1
                have y2 := Q3.q2
                have fr0 := fr 0
                have fr1 := fr 1
                have fr2 := fr 2
                have RR := hidp (res3 (.int .i64 (K : Nat)) (.int .i64 (lo1 + lo2 + d)) (.slice a3 A2.length c3) t0 t1 t2)
                have BB := hidp (below_set3 hwd (w.heap.size + 2) (by omega) (.int .i64 (K : Nat)) (.int .i64 (lo1 + lo2 + d)) (.slice a3 A2.length c3))
                have OO := hidp (owns_mono (own_set3 hvd (w.heap.size + 2) (by omega) (.int .i64 (K : Nat)) (.int .i64 (lo1 + lo2 + d)) (.slice a3 A2.length c3)) (show w.heap.size ≤ wL.heap.size by omega))
                have RZ := hidp (res3 (.int .i64 0) (.int .i64 0) (.slice none 0 0) t0 t1 t2)
                have BZ := hidp (below_set3 hwd (w.heap.size + 2) (by omega) (.int .i64 0) (.int .i64 0) (.slice none 0 0))
                have hlen : A2.length ≤ 1000 := by rw [HA2.out, kless_len]; have : A.countP (fun p => decide (d < p.2)) ≤ A.length := List.countP_le_length; have := AL.out; omega
                clear hbd Q3 hvd hLd hwd fr CK3 x0 x1 x2 QQ hv
                by_cases her : er = 0
                · subst her
                  go_wp2_with fail
                  obtain ⟨s0, s1, s2⟩ := RR.out
                  have hB := BB.out
                  have hO := OO.out
                  clear RR BB OO
                  generalize (((wd.setCell ⟨w.heap.size + 2, 0, none⟩ (.int .i64 (K : Nat))).setCell ⟨w.heap.size + 2, 1, none⟩ (.int .i64 (lo1 + lo2 + d))).setCell ⟨w.heap.size + 2, 2, none⟩ (.slice a3 A2.length c3)) = w7 at *
                  exact bodyPost_ret (v := .tuple #[.agg #[.int .i64 (K : Nat), .int .i64 (lo1 + lo2 + d), .slice a3 A2.length c3], .int .i64 0]) (by simp [results, Try.results13, go_sem, s0, s1, s2]) rfl ⟨_, _, _, _, rfl, ⟨A2.length, A2, hO, hlen⟩, hB⟩
                · have hne : (er != 0) = true := by rw [bne_iff_ne]; exact her
                  go_wp2_with fail
                  obtain ⟨s0, s1, s2⟩ := RZ.out
                  have hB := BZ.out
                  exact bodyPost_ret (v := .tuple #[.agg #[.int .i64 0, .int .i64 0, .slice none 0 0], .int .i64 2]) (by simp [results, Try.results13, go_sem, s0, s1, s2]) rfl ⟨_, _, _, _, rfl, ⟨0, [], World.ownsRow_nil _ _ _ _, by omega⟩, hB⟩
        · have hK' : ¬ (K : Int) < (nj : Int) := by omega
          have HF2 := hidp (show F = (lo1 + lo2, A) by rw [HF.out, if_neg (by omega)])
          obtain ⟨a3, c3, rfl, hI3⟩ := owns_cnts hv
          have g1 := hI3.le
          have g2 := hI3.max
          have CK3 := hidp (fcheck_g K (lo1 + lo2) a3 nj c3 A wc hI3)
          have x0 := QQ.out.q0
          have x1 := QQ.out.q1
          have x2 := QQ.out.q2
          clear hI3
          unfold fewV at *
          go_wp2_with fail
          refine CK3.out.mono ?_
          rintro e wd ⟨er, rfl, hbd, -⟩
          have Q3 := QQ.out.below hbd
          have hvd := owns_below hv hbd
          have hLd := bstep hL.out hbd
          obtain ⟨_, _, _, _, _, _, ⟨u0, t0⟩, ⟨u1, t1⟩, ⟨u2, t2⟩, fr⟩ := JL.out.below hLd
          have hwd := bstep hwL.out hLd
          have y0 := Q3.q0
          have y1 := Q3.q1
          have y2 := Q3.q2
          have fr0 := fr 0
          have fr1 := fr 1
          have fr2 := fr 2
          have RR := hidp (res3 (.int .i64 (K : Nat)) (.int .i64 (lo1 + lo2)) (.slice a3 nj c3) t0 t1 t2)
          have BB := hidp (below_set3 hwd (w.heap.size + 2) (by omega) (.int .i64 (K : Nat)) (.int .i64 (lo1 + lo2)) (.slice a3 nj c3))
          have OO := hidp (owns_mono (own_set3 hvd (w.heap.size + 2) (by omega) (.int .i64 (K : Nat)) (.int .i64 (lo1 + lo2)) (.slice a3 nj c3)) (show w.heap.size ≤ wL.heap.size by omega))
          have RZ := hidp (res3 (.int .i64 0) (.int .i64 0) (.slice none 0 0) t0 t1 t2)
          have BZ := hidp (below_set3 hwd (w.heap.size + 2) (by omega) (.int .i64 0) (.int .i64 0) (.slice none 0 0))
          have hlen : nj ≤ 1000 := by have := AL.out; omega
          clear hbd Q3 hvd hLd hwd fr CK3 x0 x1 x2 QQ hv
          by_cases her : er = 0
          · subst her
            go_wp2_with fail
            obtain ⟨s0, s1, s2⟩ := RR.out
            have hB := BB.out
            have hO := OO.out
            clear RR BB OO
            generalize (((wd.setCell ⟨w.heap.size + 2, 0, none⟩ (.int .i64 (K : Nat))).setCell ⟨w.heap.size + 2, 1, none⟩ (.int .i64 (lo1 + lo2))).setCell ⟨w.heap.size + 2, 2, none⟩ (.slice a3 nj c3)) = w7 at *
            exact bodyPost_ret (v := .tuple #[.agg #[.int .i64 (K : Nat), .int .i64 (lo1 + lo2), .slice a3 nj c3], .int .i64 0]) (by simp [results, Try.results13, go_sem, s0, s1, s2]) rfl ⟨_, _, _, _, rfl, ⟨nj, A, hO, hlen⟩, hB⟩
          · have hne : (er != 0) = true := by rw [bne_iff_ne]; exact her
            go_wp2_with fail
            obtain ⟨s0, s1, s2⟩ := RZ.out
            have hB := BZ.out
            exact bodyPost_ret (v := .tuple #[.agg #[.int .i64 0, .int .i64 0, .slice none 0 0], .int .i64 2]) (by simp [results, Try.results13, go_sem, s0, s1, s2]) rfl ⟨_, _, _, _, rfl, ⟨0, [], World.ownsRow_nil _ _ _ _, by omega⟩, hB⟩
theorem res_at3 {W W' : World} {P : Nat} (h0 : W.cell? ⟨P, 0, none⟩ = some (.int .i64 0)) (h1 : W.cell? ⟨P, 1, none⟩ = some (.int .i64 0)) (h2 : W.cell? ⟨P, 2, none⟩ = some (.slice none 0 0)) (z : ∀ o, W.frozen? ⟨P, o, none⟩ = false) (hB : Below W.heap.size W W') :
    W'.cell? ⟨P, 0, none⟩ = some (.int .i64 0) ∧ W'.cell? ⟨P, 1, none⟩ = some (.int .i64 0) ∧ W'.cell? ⟨P, 2, none⟩ = some (.slice none 0 0) ∧ ∀ o, W'.frozen? ⟨P, o, none⟩ = false :=
  ⟨ck hB h0, ck hB h1, ck hB h2, fun o => (hB.frozen (p := ⟨P, o, none⟩) (ltc h0)).trans (z o)⟩
theorem few_of {K lo : Int} {L : List (Int × Int)} (h : FewOkZ K lo L) : ∃ q : Nat, K = q ∧ FewOk q (lo, L) := by
  have h1 := h.k1
  obtain ⟨q, rfl⟩ := Int.eq_ofNat_of_zero_le (show 0 ≤ K by omega)
  exact ⟨q, rfl, FewOkZ.ok (s := (lo, L)) h⟩
set_option maxHeartbeats 4000000 in
theorem fput_no1 (K lo : Int) (a : Option Addr) (n c : Nat) (L : List (Int × Int)) (k x : Int) (w : World) (h : CntAt w a n c L) (hE : ¬ FewOkZ K lo L) :
    Calls Try.prog 4 #[fewV K lo a n c, .int .i64 k, .int .i64 x] w fun e w' => (∃ r : Int, e = .returned (.tuple #[fewV 0 0 none 0 0, .int .i64 r])) ∧ Below w.heap.size w w' := by
  have CK := hidp (fun W (hB : Below w.heap.size w W) => fcheck_g K lo a n c L W (h.below hB))
  have HE := hidp hE
  clear h hE
  unfold fewV at *
  go_enter Try.func4, Try.ntmps4
  go_wp2_with fail
  refine (CK.out _ (bal (bal (Below.refl _ _) _) _)).mono ?_
  rintro e wa ⟨er, rfl, hB, hi⟩
  have hne : (er != 0) = true := by rw [bne_iff_ne]; exact fun e => HE.out (hi.1 e)
  have hb2 : Below w.heap.size w wa := bstep (bal (bal (Below.refl _ _) _) _) hB
  obtain ⟨x0, x1, x2, z⟩ := res_at3 (P := w.heap.size + 1) (by go_simp) (by go_simp) (by go_simp) (fun o => by go_simp) hB
  have z0 := z 0
  have z1 := z 1
  have z2 := z 2
  clear CK hB z hi
  go_wp2_with fail
  obtain ⟨t0, t1, t2⟩ := res3 (.int .i64 0) (.int .i64 0) (.slice none 0 0) x0 x1 x2
  exact bodyPost_ret (v := .tuple #[.agg #[.int .i64 0, .int .i64 0, .slice none 0 0], .int .i64 er]) (by simp [results, Try.results4, go_sem, t0, t1, t2]) rfl ⟨⟨er, rfl⟩, below_set3 hb2 _ (Nat.le_succ _) _ _ _⟩
set_option maxHeartbeats 4000000 in
theorem fput_no2 (K lo : Int) (a : Option Addr) (n c : Nat) (L : List (Int × Int)) (k x : Int) (w : World) (h : CntAt w a n c L) (hE : FewOkZ K lo L) (hx : x < 1 ∨ 1000000000000 < x) :
    Calls Try.prog 4 #[fewV K lo a n c, .int .i64 k, .int .i64 x] w fun e w' => (∃ r : Int, e = .returned (.tuple #[fewV 0 0 none 0 0, .int .i64 r])) ∧ Below w.heap.size w w' := by
  have CK := hidp (fun W (hB : Below w.heap.size w W) => fcheck_g K lo a n c L W (h.below hB))
  have HE := hidp hE
  clear h hE
  unfold fewV at *
  by_cases hx1 : x < 1
  · clear hx
    go_enter Try.func4, Try.ntmps4
    go_wp2_with fail
    refine (CK.out _ (bal (bal (Below.refl _ _) _) _)).mono ?_
    rintro e wa ⟨er, rfl, hB, hi⟩
    obtain rfl : er = 0 := hi.2 HE.out
    have hb2 : Below w.heap.size w wa := bstep (bal (bal (Below.refl _ _) _) _) hB
    obtain ⟨x0, x1, x2, z⟩ := res_at3 (P := w.heap.size + 1) (by go_simp) (by go_simp) (by go_simp) (fun o => by go_simp) hB
    have z0 := z 0
    have z1 := z 1
    have z2 := z 2
    clear CK hB z hi
    go_wp2_with fail
    obtain ⟨t0, t1, t2⟩ := res3 (.int .i64 0) (.int .i64 0) (.slice none 0 0) x0 x1 x2
    exact bodyPost_ret (v := .tuple #[.agg #[.int .i64 0, .int .i64 0, .slice none 0 0], .int .i64 1]) (by simp [results, Try.results4, go_sem, t0, t1, t2]) rfl ⟨⟨1, rfl⟩, below_set3 hb2 _ (Nat.le_succ _) _ _ _⟩
  · have hx2 := hx.resolve_left hx1
    clear hx
    go_enter Try.func4, Try.ntmps4
    go_wp2_with fail
    refine (CK.out _ (bal (bal (Below.refl _ _) _) _)).mono ?_
    rintro e wa ⟨er, rfl, hB, hi⟩
    obtain rfl : er = 0 := hi.2 HE.out
    have hb2 : Below w.heap.size w wa := bstep (bal (bal (Below.refl _ _) _) _) hB
    obtain ⟨x0, x1, x2, z⟩ := res_at3 (P := w.heap.size + 1) (by go_simp) (by go_simp) (by go_simp) (fun o => by go_simp) hB
    have z0 := z 0
    have z1 := z 1
    have z2 := z 2
    clear CK hB z hi
    go_wp2_with fail
    obtain ⟨t0, t1, t2⟩ := res3 (.int .i64 0) (.int .i64 0) (.slice none 0 0) x0 x1 x2
    exact bodyPost_ret (v := .tuple #[.agg #[.int .i64 0, .int .i64 0, .slice none 0 0], .int .i64 1]) (by simp [results, Try.results4, go_sem, t0, t1, t2]) rfl ⟨⟨1, rfl⟩, below_set3 hb2 _ (Nat.le_succ _) _ _ _⟩
theorem fput_any (K lo : Int) (a : Option Addr) (n c : Nat) (L : List (Int × Int)) (k x : Int) (w : World) (h : CntAt w a n c L) :
    Calls Try.prog 4 #[fewV K lo a n c, .int .i64 k, .int .i64 x] w fun e w' => ∃ kk ll v r, e = .returned (.tuple #[.agg #[.int .i64 kk, .int .i64 ll, v], .int .i64 r]) ∧ FrC w.heap.size w' v ∧ Below w.heap.size w w' := by
  have no : ∀ (e : Ending) (w' : World), ((∃ r : Int, e = .returned (.tuple #[fewV 0 0 none 0 0, .int .i64 r])) ∧ Below w.heap.size w w') → ∃ kk ll v r, e = .returned (.tuple #[.agg #[.int .i64 kk, .int .i64 ll, v], .int .i64 r]) ∧ FrC w.heap.size w' v ∧ Below w.heap.size w w' := by
    rintro e w' ⟨⟨r, rfl⟩, hB⟩
    exact ⟨_, _, _, _, rfl, ⟨0, [], World.ownsRow_nil _ _ _ _, by omega⟩, hB⟩
  by_cases hE : FewOkZ K lo L
  · by_cases hx : x < 1 ∨ 1000000000000 < x
    · exact (fput_no2 K lo a n c L k x w h hE hx).mono no
    · obtain ⟨q, rfl, hok⟩ := few_of hE
      refine (fput_c q (lo, L) a n c k x w h hok (by omega)).mono ?_
      rintro e w' ⟨⟨hF, a', n', c', rfl, hO⟩ | ⟨_, rfl⟩, hB⟩
      · refine ⟨_, _, _, _, rfl, ⟨n', _, hO, ?_⟩, hB⟩
        have hl := hO.1
        rw [cntV_len] at hl
        have := hF.ln
        have := hF.k2
        omega
      · exact ⟨_, _, _, _, rfl, ⟨0, [], World.ownsRow_nil _ _ _ _, by omega⟩, hB⟩
  · exact (fput_no1 K lo a n c L k x w h hE).mono no
set_option maxHeartbeats 4000000 in
theorem fjoin_no (K lo K2 lo2 : Int) (a a2 : Option Addr) (n c m c2 : Nat) (L L2 : List (Int × Int)) (w : World) (h : CntAt w a n c L) (h2 : CntAt w a2 m c2 L2) (hE : ¬ (FewOkZ K lo L ∧ FewOkZ K2 lo2 L2 ∧ K = K2)) :
    Calls Try.prog 13 #[fewV K lo a n c, fewV K2 lo2 a2 m c2] w fun e w' => (∃ r : Int, e = .returned (.tuple #[fewV 0 0 none 0 0, .int .i64 r])) ∧ Below w.heap.size w w' := by
  have C1 := hidp (fun W (hB : Below w.heap.size w W) => fcheck_g K lo a n c L W (h.below hB))
  have C2 := hidp (fun W (hB : Below w.heap.size w W) => fcheck_g K2 lo2 a2 m c2 L2 W (h2.below hB))
  clear h h2
  by_cases e1 : FewOkZ K lo L
  · by_cases e2 : FewOkZ K2 lo2 L2
    · have e3 : ¬ K = K2 := fun e => hE ⟨e1, e2, e⟩
      have hkk : (K != K2) = true := by rw [bne_iff_ne]; exact e3
      have HE := hidp e1
      have HE2 := hidp e2
      clear hE e1 e2 e3
      unfold fewV at *
      go_enter Try.func13, Try.ntmps13
      go_wp2_with fail
      refine (C1.out _ (bal (bal (bal (Below.refl _ _) _) _) _)).mono ?_
      rintro e wa ⟨er, rfl, hB, hi⟩
      obtain rfl : er = 0 := hi.2 HE.out
      have hb2 : Below w.heap.size w wa := bstep (bal (bal (bal (Below.refl _ _) _) _) _) hB
      obtain ⟨x0, x1, x2, z⟩ := res_at3 (P := w.heap.size + 1 + 1) (by go_simp) (by go_simp) (by go_simp) (fun o => by go_simp) hB
      have k0 : wa.cell? ⟨w.heap.size, 0, none⟩ = some (.int .i64 K) := ck hB (by go_simp)
      have k1 : wa.cell? ⟨w.heap.size + 1, 0, none⟩ = some (.int .i64 K2) := ck hB (by go_simp)
      have k2 : wa.cell? ⟨w.heap.size + 1, 1, none⟩ = some (.int .i64 lo2) := ck hB (by go_simp)
      have k3 : wa.cell? ⟨w.heap.size + 1, 2, none⟩ = some (.slice a2 m c2) := ck hB (by go_simp)
      clear C1 hB hi
      go_wp2_with fail
      refine (C2.out _ hb2).mono ?_
      rintro e wb ⟨er, rfl, hB, hi⟩
      obtain rfl : er = 0 := hi.2 HE2.out
      have hb3 : Below w.heap.size w wb := bstep hb2 hB
      obtain ⟨x0, x1, x2, z⟩ := res_at3 (P := w.heap.size + 1 + 1) x0 x1 x2 z hB
      have k0 := ck hB k0
      have k1 := ck hB k1
      have z0 := z 0
      have z1 := z 1
      have z2 := z 2
      clear C2 hB z hi
      go_wp2_with fail
      obtain ⟨t0, t1, t2⟩ := res3 (.int .i64 0) (.int .i64 0) (.slice none 0 0) x0 x1 x2
      exact bodyPost_ret (v := .tuple #[.agg #[.int .i64 0, .int .i64 0, .slice none 0 0], .int .i64 7]) (by simp [results, Try.results13, go_sem, t0, t1, t2]) rfl ⟨⟨7, rfl⟩, below_set3 hb3 _ (by omega) _ _ _⟩
    · have HE := hidp e1
      have HE2 := hidp e2
      clear hE e1 e2
      unfold fewV at *
      go_enter Try.func13, Try.ntmps13
      go_wp2_with fail
      refine (C1.out _ (bal (bal (bal (Below.refl _ _) _) _) _)).mono ?_
      rintro e wa ⟨er, rfl, hB, hi⟩
      obtain rfl : er = 0 := hi.2 HE.out
      have hb2 : Below w.heap.size w wa := bstep (bal (bal (bal (Below.refl _ _) _) _) _) hB
      obtain ⟨x0, x1, x2, z⟩ := res_at3 (P := w.heap.size + 1 + 1) (by go_simp) (by go_simp) (by go_simp) (fun o => by go_simp) hB
      have k0 : wa.cell? ⟨w.heap.size, 0, none⟩ = some (.int .i64 K) := ck hB (by go_simp)
      have k1 : wa.cell? ⟨w.heap.size + 1, 0, none⟩ = some (.int .i64 K2) := ck hB (by go_simp)
      have k2 : wa.cell? ⟨w.heap.size + 1, 1, none⟩ = some (.int .i64 lo2) := ck hB (by go_simp)
      have k3 : wa.cell? ⟨w.heap.size + 1, 2, none⟩ = some (.slice a2 m c2) := ck hB (by go_simp)
      clear C1 hB hi
      go_wp2_with fail
      refine (C2.out _ hb2).mono ?_
      rintro e wb ⟨er, rfl, hB, hi⟩
      have hne : (er != 0) = true := by rw [bne_iff_ne]; exact fun e => HE2.out (hi.1 e)
      have hb3 : Below w.heap.size w wb := bstep hb2 hB
      obtain ⟨x0, x1, x2, z⟩ := res_at3 (P := w.heap.size + 1 + 1) x0 x1 x2 z hB
      have k0 := ck hB k0
      have k1 := ck hB k1
      have z0 := z 0
      have z1 := z 1
      have z2 := z 2
      clear C2 hB z hi
      go_wp2_with fail
      obtain ⟨t0, t1, t2⟩ := res3 (.int .i64 0) (.int .i64 0) (.slice none 0 0) x0 x1 x2
      exact bodyPost_ret (v := .tuple #[.agg #[.int .i64 0, .int .i64 0, .slice none 0 0], .int .i64 er]) (by simp [results, Try.results13, go_sem, t0, t1, t2]) rfl ⟨⟨er, rfl⟩, below_set3 hb3 _ (by omega) _ _ _⟩
  · have HE := hidp e1
    clear hE e1 C2
    unfold fewV at *
    go_enter Try.func13, Try.ntmps13
    go_wp2_with fail
    refine (C1.out _ (bal (bal (bal (Below.refl _ _) _) _) _)).mono ?_
    rintro e wa ⟨er, rfl, hB, hi⟩
    have hne : (er != 0) = true := by rw [bne_iff_ne]; exact fun e => HE.out (hi.1 e)
    have hb2 : Below w.heap.size w wa := bstep (bal (bal (bal (Below.refl _ _) _) _) _) hB
    obtain ⟨x0, x1, x2, z⟩ := res_at3 (P := w.heap.size + 1 + 1) (by go_simp) (by go_simp) (by go_simp) (fun o => by go_simp) hB
    have z0 := z 0
    have z1 := z 1
    have z2 := z 2
    clear C1 hB z hi
    go_wp2_with fail
    obtain ⟨t0, t1, t2⟩ := res3 (.int .i64 0) (.int .i64 0) (.slice none 0 0) x0 x1 x2
    exact bodyPost_ret (v := .tuple #[.agg #[.int .i64 0, .int .i64 0, .slice none 0 0], .int .i64 er]) (by simp [results, Try.results13, go_sem, t0, t1, t2]) rfl ⟨⟨er, rfl⟩, below_set3 hb2 _ (by omega) _ _ _⟩
theorem fjoin_any (K lo K2 lo2 : Int) (a a2 : Option Addr) (n c m c2 : Nat) (L L2 : List (Int × Int)) (w : World) (h : CntAt w a n c L) (h2 : CntAt w a2 m c2 L2) :
    Calls Try.prog 13 #[fewV K lo a n c, fewV K2 lo2 a2 m c2] w fun e w' => ∃ kk ll v r, e = .returned (.tuple #[.agg #[.int .i64 kk, .int .i64 ll, v], .int .i64 r]) ∧ FrC w.heap.size w' v ∧ Below w.heap.size w w' := by
  by_cases hE : FewOkZ K lo L ∧ FewOkZ K2 lo2 L2 ∧ K = K2
  · obtain ⟨e1, e2, rfl⟩ := hE
    obtain ⟨q, rfl, hok⟩ := few_of e1
    obtain ⟨q2, hq, hok2⟩ := few_of e2
    obtain rfl : q = q2 := by omega
    exact fjoin_two q (lo, L) (lo2, L2) a n c a2 m c2 w h h2 hok hok2
  · refine (fjoin_no K lo K2 lo2 a a2 n c m c2 L L2 w h h2 hE).mono ?_
    rintro e w' ⟨⟨r, rfl⟩, hB⟩
    exact ⟨_, _, _, _, rfl, ⟨0, [], World.ownsRow_nil _ _ _ _, by omega⟩, hB⟩
end Go.Proofs.Ytffocoflmbhknaa
