/- What PondAll hands to each: contract of the closure, and what stands behind t ways. -/
import Derived.Test.YtpdigiefldnpaaaPondAllMath
import Derived.Test.YtpdigiefldnpaaaDealAllC
namespace Go.Proofs.Ytpdigiefldnpaaa.pondAll
open Go.ChangeShapes Go.WideShapes Go.ChangeAt Go.RowKit Go.Maps OdoMath
open Go.Proofs.Ytpdigiefldnpaaa
open Go.Proofs.Ytpdigiefldnpaaa.dealAll (key64 grown_of ints_grown ints_setF)
set_option maxRecDepth 20000
theorem zeroInt (w : World) : (zeroValue 3).run Try.prog w = .ok (.int .i64 0) w := by kernel_rfl
theorem coff3 {W : World} {b b' i : Nat} {v x0 x1 x2 : Value} (h : W.cell? ⟨b, i, none⟩ = some v) (hne : b ≠ b') : (((W.setCell ⟨b', 0, none⟩ x0).setCell ⟨b', 1, none⟩ x1).setCell ⟨b', 2, none⟩ x2).cell? ⟨b, i, none⟩ = some v := by
  rw [World.cell?_setCell_far _ _ _ _ (fun e => hne e.symm), World.cell?_setCell_far _ _ _ _ (fun e => hne e.symm), World.cell?_setCell_far _ _ _ _ (fun e => hne e.symm)]; exact h
/-- A pond in its cell. -/
structure PS (W : World) (Q : Nat) (K S : Int) (v : Value) : Prop where
  q0 : W.cell? ⟨Q, 0, none⟩ = some (.int .i64 K)
  q1 : W.cell? ⟨Q, 1, none⟩ = some (.int .i64 S)
  q2 : W.cell? ⟨Q, 2, none⟩ = some v
  fq : ∀ o, W.frozen? ⟨Q, o, none⟩ = false
theorem PS.below {W W' : World} {Q : Nat} {K S : Int} {v : Value} (h : PS W Q K S v) (hb : Below W.heap.size W W') : PS W' Q K S v :=
  ⟨ck hb h.q0, ck hb h.q1, ck hb h.q2, fun o => (hb.frozen (p := ⟨Q, o, none⟩) (show Q < _ from lt_of_cell h.q0)).trans (h.fq o)⟩
theorem PS.put {W : World} {Q : Nat} {K S : Int} {v : Value} (h : PS W Q K S v) (k2 s2 : Int) (v2 : Value) : PS (((W.setCell ⟨Q, 0, none⟩ (.int .i64 k2)).setCell ⟨Q, 1, none⟩ (.int .i64 s2)).setCell ⟨Q, 2, none⟩ v2) Q k2 s2 v2 := by
  obtain ⟨h0, h1, h2, hf⟩ := h
  exact ⟨by go_simp, by go_simp, by go_simp, fun o => by have := hf o; go_simp⟩
theorem ints_set3 {W : World} {a : Option Addr} {n c : Nat} {L : List Int} (h : IntsAt W a n c L) (Q : Nat) (hne : ∀ b o, a = some ⟨b, o, none⟩ → b ≠ Q) (x0 x1 x2 : Value) : IntsAt (((W.setCell ⟨Q, 0, none⟩ x0).setCell ⟨Q, 1, none⟩ x1).setCell ⟨Q, 2, none⟩ x2) a n c L :=
  ((h.setCell ⟨Q, 0, none⟩ hne x0).setCell ⟨Q, 1, none⟩ hne x1).setCell ⟨Q, 2, none⟩ hne x2
theorem or_fin : ∀ s, s < 64 → ∀ x, x < 6 → bits .or .i64 ((s : Nat) : Int) (wrap64 (2 ^ x)) = ((s ||| (1 <<< x) : Nat) : Int) := by decide +kernel
set_option maxHeartbeats 8000000 in
theorem pclos_c (k n t P2 P3 P9 r : Nat) (ad : Option Addr) (cd : Nat) (W : World) (k1 : 1 ≤ k) (k3 : k ≤ 3) (hn : k ≤ n) (h6 : n ≤ 6) (ht : t < 720) (c2 : W.cell? ⟨P2, 0, none⟩ = some (.int .i64 k)) (c3 : W.cell? ⟨P3, 0, none⟩ = some (.int .i64 n)) (c9 : W.cell? ⟨P9, 0, none⟩ = some (.map (some r)))
    (iw : IntsAt W ad n cd (way (bsP k n) n t)) (mp : MapIN W Try.prog 3 3 .i64 r t (pkeys k n t) (pcnt k n t)) :
    Calls Try.prog 19 #[.slice ad n cd, .pointer (some ⟨P2, 0, none⟩), .pointer (some ⟨P3, 0, none⟩), .pointer (some ⟨P9, 0, none⟩)] W fun e W' => e = .returned (.bool true) ∧ MapIN W' Try.prog 3 3 .i64 r (t + 1) (pkeys k n (t + 1)) (pcnt k n (t + 1)) ∧ W.grownBy W' (some r) := by
  have hrl : r < W.heap.size := by
    obtain ⟨D, h, _⟩ := mp
    exact h.lt
  obtain ⟨zs, hzs⟩ : ∃ zs, zs = way (bsP k n) n t := ⟨_, rfl⟩
  rw [← hzs] at iw
  have hzl : zs.length = n := by rw [hzs]; exact tab_len _ _
  have ZB := hidp (fun j (hj : j < n) => show 0 ≤ gi zs j ∧ gi zs j ≤ j by rw [hzs]; exact wayP_bd k n t j hj)
  have ZD := hidp (fun j (hj : j < n) => show dsf zs j = gi zs j from dsf_at zs j (by omega) (ZB.out j hj) (by omega))
  have KP := hidp (fun j => its_kept k zs j)
  have IB := hidp (fun j x (hx : x ∈ its k zs j) => show 0 ≤ x ∧ x < j by
    obtain ⟨i, hi, e⟩ := List.getElem_of_mem hx
    have := (KP.out j).bd i hi
    have e1 : gi (its k zs j) i = x := by unfold gi; rw [List.getD_eq_getElem?_getD, List.getElem?_eq_getElem hi, e]; rfl
    omega)
  have PSET := hidp (show pset k n t = mask (its k zs n) by rw [hzs]; rfl)
  obtain ⟨b, o, hz, hx⟩ := iw.split
  have hz' : Hid (n = 0) ∨ ad = some ⟨b, o, none⟩ := hz.imp_left hidp
  have HX := hidp hx
  have mm := iw.max
  have ee := iw.le
  have MP := hidp mp
  clear hx hz iw mp hzs
  go_enter Try.func19, Try.ntmps19
  go_wp2_with fail
  have P0 := hidp (show PS (W.alloc (.cells #[.int .i64 (k : Nat), .int .i64 0, .slice none 0 0] 24)) W.heap.size k 0 (.slice none 0 0) from ⟨by go_simp, by go_simp, by go_simp, fun o => by go_simp⟩)
  have hb0 := bal (Below.refl W.heap.size W) (.cells #[.int .i64 (k : Nat), .int .i64 0, .slice none 0 0] 24)
  have hs0 : W.heap.size + 1 ≤ (W.alloc (.cells #[.int .i64 (k : Nat), .int .i64 0, .slice none 0 0] 24)).heap.size := by simp
  generalize (W.alloc (.cells #[.int .i64 (k : Nat), .int .i64 0, .slice none 0 0] 24)) = w1 at *
  go_loopg [17] n (fun gg i wr => ∃ (j : Nat) (aj : Option Addr) (lj cj : Nat), j ≤ n ∧ n - j ≤ gg ∧ i = .int .i64 j ∧ Hid (PS wr W.heap.size k j (.slice aj lj cj)) ∧ Hid (IntsAt wr aj lj cj (its k zs j)) ∧ Hid (∀ b o, aj = some ⟨b, o, none⟩ → b ≠ W.heap.size) ∧ Below W.heap.size W wr ∧ W.heap.size + 1 ≤ wr.heap.size)
  case atStart => exact ⟨0, none, 0, 0, by omega, by omega, rfl, P0, hidp (ints_nil _), hidp (fun b o e => by cases e), hb0, hs0⟩
  case round =>
    clear P0 hb0 hs0
    obtain ⟨j, aj, lj, cj, hj, hgg, rfl, PP, II, NN, hbl, hsz⟩ := hrel
    by_cases hlt : j < n
    · obtain rfl : ad = some ⟨b, o, none⟩ := hz'.resolve_left (fun e => by have := e.out; omega)
      have q := carry_cell (HX.out j hlt) hbl
      have zb := ZB.out j hlt
      have lk := (KP.out j).len
      rw [II.out.len] at lk
      have PC := hidp (pput_c k j j (gi zs j) aj lj cj (its k zs j) wr II.out (by omega) (by omega) (by omega) (by omega) (by omega) zb.1 zb.2)
      rw [← ZD.out j hlt, show pput k j (its k zs j) j (dsf zs j) = its k zs (j + 1) from rfl, ZD.out j hlt] at PC
      have q0 := PP.out.q0
      have q1 := PP.out.q1
      have q2 := PP.out.q2
      generalize gi zs j = d at *
      clear lk
      go_wp2_with fail
      refine PC.out.mono ?_
      rintro e w2 ⟨v, rfl, hv, hb2⟩
      have LB := fun x (hx : x ∈ its k zs (j + 1)) => show -9223372036854775808 ≤ x ∧ x ≤ 9223372036854775807 from by have := IB.out (j + 1) x hx; omega
      obtain ⟨a2, c2', rfl, hI2⟩ := owns_ints hv LB
      have hne2 : ∀ b o, a2 = some ⟨b, o, none⟩ → b ≠ W.heap.size := fun b o e => by have := (owns_far hv b o e).1; omega
      have P2' := PP.out.below hb2
      clear q0 q1 q2
      have q0 := P2'.q0
      have q1 := P2'.q1
      have q2 := P2'.q2
      have f0 := P2'.fq 0
      have f1 := P2'.fq 1
      have f2 := P2'.fq 2
      have P3' := hidp (P2'.put (k : Nat) ((j : Int) + 1) (.slice a2 (its k zs (j + 1)).length c2'))
      have I3 := hidp (ints_set3 hI2 W.heap.size hne2 (.int .i64 (k : Nat)) (.int .i64 ((j : Int) + 1)) (.slice a2 (its k zs (j + 1)).length c2'))
      have N3 := hidp hne2
      have B3 := hidp ((((bstep hbl hb2).setCell (p := ⟨W.heap.size, 0, none⟩) (Nat.le_refl _) (.int .i64 (k : Nat))).setCell (p := ⟨W.heap.size, 1, none⟩) (Nat.le_refl _) (.int .i64 ((j : Int) + 1))).setCell (p := ⟨W.heap.size, 2, none⟩) (Nat.le_refl _) (.slice a2 (its k zs (j + 1)).length c2'))
      have hs3 := hb2.size
      clear PP II NN hbl hv hI2 hne2 P2' hb2 PC LB
      go_wp2_with fail
      go_roundg (n - (j + 1))
      case measure => omega
      case rel => exact ⟨j + 1, a2, _, c2', by omega, by omega, by go_num, P3', I3, N3, B3.out, by simp; omega⟩
    · obtain rfl : j = n := by omega
      have lk := (KP.out j).len
      rw [II.out.len] at lk
      have q2 := PP.out.q2
      obtain ⟨L, hL⟩ : ∃ L, L = its k zs j := ⟨_, rfl⟩
      rw [← hL] at II PSET
      have LB := hidp (show ∀ x ∈ L, 0 ≤ x ∧ x < 6 from fun x hx => by rw [hL] at hx; have := IB.out j x hx; omega)
      have LB2 := hidp (show ∀ x ∈ L, 0 ≤ x ∧ x < (j : Int) from fun x hx => by rw [hL] at hx; exact IB.out j x hx)
      have LL := hidp II.out.len
      have ML := hidp (fun i => mask_lt (L.take i) (fun x hx => LB.out x (List.mem_of_mem_take hx)))
      have MS := hidp (fun i (hi : i < lj) => show mask (L.take (i + 1)) = mask (L.take i) ||| (1 <<< (gi L i).toNat) by
        rw [List.take_add_one, gi_get L i (by rw [LL.out]; exact hi)]
        exact mask_snoc _ _)
      have TL := hidp (show L.take lj = L by rw [← LL.out, List.take_length])
      have em := II.out.max
      have ee2 := II.out.le
      obtain ⟨b2, o2, hz2, hx2⟩ := II.out.split
      have HX2 := hidp hx2
      have hz3 : Hid (lj = 0) ∨ aj = some ⟨b2, o2, none⟩ := hz2.imp_left hidp
      have d3 := ck hbl c3
      have d9 := ck hbl c9
      have MP2 := hidp (MP.out.below hbl)
      clear hL hx2 hz2 c2 c3 c9 HX hz' ZB ZD KP IB MP II NN
      go_wp2_with fail
      go_loopg [10, 35] lj (fun gg s i wx => ∃ q : Nat, q ≤ lj ∧ lj - q ≤ gg ∧ i = .int .i64 q ∧ s = .int .i64 (mask (L.take q) : Nat) ∧ wx = wr)
      case atStart => exact ⟨0, by omega, by omega, rfl, rfl, rfl⟩
      case round =>
        obtain ⟨q, hq, hgq, rfl, rfl, rfl⟩ := hrel
        by_cases hlq : q < lj
        · obtain rfl : aj = some ⟨b2, o2, none⟩ := hz3.resolve_left (fun e => by have := e.out; omega)
          have qq := (HX2.out q hlq).2
          have xb : 0 ≤ gi L q ∧ gi L q < 6 := LB.out _ (gi_mem L q (by rw [LL.out]; exact hlq))
          have xb2 : 0 ≤ gi L q ∧ gi L q < (j : Int) := LB2.out _ (gi_mem L q (by rw [LL.out]; exact hlq))
          have ml := ML.out q
          have MS2 := hidp (MS.out q hlq)
          generalize mask (L.take q) = s0 at *
          obtain ⟨x, hx⟩ : ∃ x : Nat, gi L q = (x : Int) := ⟨(gi L q).toNat, by omega⟩
          rw [hx] at qq xb xb2 MS2
          rw [Int.toNat_natCast] at MS2
          have hxl : x < 6 := by omega
          clear hx
          go_upto_region 16 with fail
          go_wp2_with fail
          go_roundg (lj - (q + 1))
          case measure => omega
          case rel => exact ⟨q + 1, by omega, by omega, by go_num, by rw [MS2.out]; exact v_int (or_fin s0 ml x hxl), rfl⟩
        · obtain rfl : q = lj := by omega
          have ml := ML.out q
          rw [TL.out, ← PSET.out] at ml
          rw [TL.out, ← PSET.out]
          have KS := hidp (pkeys_step k j t)
          have CS := hidp (pcnt_step k j t)
          have cb := pcnt_bd k j t (pset k j t : Int)
          obtain ⟨s1, hs1⟩ : ∃ s1, s1 = pset k j t := ⟨_, rfl⟩
          rw [← hs1] at ml KS CS cb ⊢
          have hl := MP2.out.isI.run (t := 30) (int_keyed Try.underlying3) Try.underlying30 Try.underlying3 (zeroInt _) (s1 : Int) (key64 _ (by omega) (by omega))
          obtain ⟨cv, hcv⟩ : ∃ cv, cv = pcnt k j t (s1 : Int) := ⟨_, rfl⟩
          rw [← hcv] at hl cb CS
          have WC : IntKind.i64.wrap (cv + 1) = cv + 1 := IntWalk.i64_in _ (by omega)
          have BL := hidp hbl
          clear hs1 hcv ML MS TL PSET HX2 hz3 LB LB2 LL hbl PP q2
          go_wp2_with (at_mapUpdate; refine wpList_mapUpdate_in rfl (.tmp 51) (.tmp 52) (.tmp 54) 30 rfl 3 3 (int_keyed Try.underlying3) Try.underlying30 Try.underlying3 r t _ _ .i64 rfl MP2.out (by omega) (s1 : Int) (cv + 1) rfl rfl (key64 _ (by omega) (by omega)) (WalkArith.wf_i64 (by omega)) ?_; intro w3 hm3 hg3)
          go_ret
          have hb := BL.out
          exact ⟨rfl, hm3.congr KS.out CS.out, grown_of ((hb.mono (show r ≤ W.heap.size by omega) |>.trans (Below.grown (Below.refl r wr) hg3 (by have := hb.size; omega) (fun g e => by cases e; exact Nat.le_refl _))) : Below r W w3) (fun k hk hne => (hg3.block k (Nat.lt_of_lt_of_le hk hb.size) hne).trans (hb.block k hk))⟩
/-- What stands behind t ways. -/
structure PInv (w0 : World) (P2 P3 P9 r : Nat) (ab : Option Addr) (k n cb t : Nat) (W : World) : Prop where
  c2 : W.cell? ⟨P2, 0, none⟩ = some (.int .i64 k)
  c3 : W.cell? ⟨P3, 0, none⟩ = some (.int .i64 n)
  c9 : W.cell? ⟨P9, 0, none⟩ = some (.map (some r))
  ib : IntsAt W ab n cb (bsP k n)
  mp : MapIN W Try.prog 3 3 .i64 r t (pkeys k n t) (pcnt k n t)
  bel : Below w0.heap.size w0 W
theorem PInv.below {w0 : World} {P2 P3 P9 r : Nat} {ab : Option Addr} {k n cb t : Nat} {W W' : World} (h : PInv w0 P2 P3 P9 r ab k n cb t W) (hb : Below W.heap.size W W') : PInv w0 P2 P3 P9 r ab k n cb t W' :=
  ⟨ck hb h.c2, ck hb h.c3, ck hb h.c9, h.ib.below hb, h.mp.below hb, bstep h.bel hb⟩
theorem PInv.set {w0 : World} {P2 P3 P9 r : Nat} {ab : Option Addr} {k n cb t : Nat} {W : World} (h : PInv w0 P2 P3 P9 r ab k n cb t W) (B : Nat) (hB : w0.heap.size ≤ B) (h2 : P2 < B) (h3 : P3 < B) (h9 : P9 < B) (hr : r < B) (hb : bsP k n ≠ [] → ∀ b o, ab = some ⟨b, o, none⟩ → b < B) (i : Nat) (v : Value) : PInv w0 P2 P3 P9 r ab k n cb t (W.setCell ⟨B, i, none⟩ v) := by
  have far : ∀ (p : Nat) (x : Value), p < B → W.cell? ⟨p, 0, none⟩ = some x → (W.setCell ⟨B, i, none⟩ v).cell? ⟨p, 0, none⟩ = some x := fun p x hp hx => by
    rw [World.cell?_setCell_far _ _ _ _ (by show B ≠ p; omega)]; exact hx
  exact ⟨far _ _ h2 h.c2, far _ _ h3 h.c3, far _ _ h9 h.c9, ints_setF h.ib _ (fun e b o he => Nat.ne_of_lt (hb e b o he)) v, h.mp.heap (Below.heap_setCell _ _ _ _ (by show r ≠ B; omega)), h.bel.setCell (p := ⟨B, i, none⟩) hB v⟩
theorem PInv.grown {w0 : World} {P2 P3 P9 r : Nat} {ab : Option Addr} {k n cb t : Nat} {W W' : World} (h : PInv w0 P2 P3 P9 r ab k n cb t W) (h2 : P2 ≠ r) (h3 : P3 ≠ r) (h9 : P9 ≠ r) (hr : w0.heap.size ≤ r) (hb : bsP k n ≠ [] → ∀ b o, ab = some ⟨b, o, none⟩ → b ≠ r)
    (hm : MapIN W' Try.prog 3 3 .i64 r (t + 1) (pkeys k n (t + 1)) (pcnt k n (t + 1))) (hg : W.grownBy W' (some r)) : PInv w0 P2 P3 P9 r ab k n cb (t + 1) W' :=
  ⟨gk hg h.c2 (fun e => h2 (by simp only [Option.some.injEq] at e; exact e.symm)), gk hg h.c3 (fun e => h3 (by simp only [Option.some.injEq] at e; exact e.symm)), gk hg h.c9 (fun e => h9 (by simp only [Option.some.injEq] at e; exact e.symm)), ints_grown h.ib hg hb, hm, h.bel.grown hg h.bel.size (fun g e => by cases e; exact hr)⟩
end Go.Proofs.Ytpdigiefldnpaaa.pondAll
