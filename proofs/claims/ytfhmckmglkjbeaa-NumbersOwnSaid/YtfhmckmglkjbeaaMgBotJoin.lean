/- Merged: BotFill, BotJoin. -/
import Derived.Test.YtfhmckmglkjbeaaBase
import Derived.Test.YtfhmckmglkjbeaaBottom
import Derived.Test.YtfhmckmglkjbeaaEqI
import Derived.Test.YtfhmckmglkjbeaaTake
/- Contracts of culkeep.filled and culref.SameBottom. -/
namespace Go.Proofs.Ytfhmckmglkjbeaa
open Go.ChangeShapes Go.WideShapes Go.ChangeAt Go.RowKit
set_option maxRecDepth 20000
theorem drw_bd (x : Int) : 0 ≤ drw x ∧ drw x < 72057594037927936 := ⟨drw_lo x, drw_hi x⟩
theorem BotOk.ofL {K : Nat} (k1 : 1 ≤ K) (k2 : K ≤ 40) (ys : List Int) : BotOk K (botL K (ys.map drw)) :=
  ⟨k1, k2, botL_len _ _, botL_rising _ _, fun x hx => by
    obtain ⟨y, _, rfl⟩ := List.mem_map.1 (botL_mem _ _ _ hx)
    exact drw_bd y⟩
theorem owns_bot {w : World} {B K : Nat} {g : Option Addr} {n c : Nat} {ys : List Int} (h : w.ownsRow B 3 1 (.slice g n c) n ((botL K (ys.map drw)).map (Value.int .i64))) :
    IntsAt w g n c (botL K (ys.map drw)) ∧ ∀ b o, g = some ⟨b, o, none⟩ → B ≤ b := by
  obtain ⟨_, _, e, h2⟩ := owns_ints h (fun y hy => by
    obtain ⟨z, _, rfl⟩ := List.mem_map.1 (botL_mem _ _ _ hy)
    have := drw_bd z
    omega)
  cases e
  exact ⟨h2, fun b o e => (h.lt b (by rw [e]; rfl)).1⟩
/-- What stands while a bottom is filled. -/
structure BotW (W : World) (H K : Nat) (v : Value) : Prop where
  o0 : W.cell? ⟨H + 1, 0, none⟩ = some (.int .i64 (K : Nat))
  o1 : W.cell? ⟨H + 1, 1, none⟩ = some v
  r0 : ∃ u, W.cell? ⟨H, 0, none⟩ = some u
  r1 : ∃ u, W.cell? ⟨H, 1, none⟩ = some u
  fo : ∀ o, W.frozen? ⟨H + 1, o, none⟩ = false
  fr : ∀ o, W.frozen? ⟨H, o, none⟩ = false
theorem BotW.below {W W' : World} {H K : Nat} {v : Value} (h : BotW W H K v) (hb : Below W.heap.size W W') : BotW W' H K v :=
  ⟨ck hb h.o0, ck hb h.o1, h.r0.imp (fun _ e => ck hb e), h.r1.imp (fun _ e => ck hb e), fun o => (hb.frozen (p := ⟨H + 1, o, none⟩) (show H + 1 < _ from ltc h.o0)).trans (h.fo o), fun o => by
    obtain ⟨u, e⟩ := h.r0
    exact (hb.frozen (p := ⟨H, o, none⟩) (show H < _ from ltc e)).trans (h.fr o)⟩
theorem BotW.put {W : World} {H K : Nat} {v : Value} (h : BotW W H K v) (v' : Value) : BotW ((W.setCell ⟨H + 1, 0, none⟩ (.int .i64 (K : Nat))).setCell ⟨H + 1, 1, none⟩ v') H K v' :=
  ⟨(res2 _ _ h.o0 h.o1).1, (res2 _ _ h.o0 h.o1).2, h.r0.imp (fun _ e => coff (coff e (by omega)) (by omega)), h.r1.imp (fun _ e => coff (coff e (by omega)) (by omega)), fun o => frs (frs (h.fo o)), fun o => frs (frs (h.fr o))⟩
end Go.Proofs.Ytfhmckmglkjbeaa

/- Contract of bottom.Join at bottoms of one size. -/
namespace Go.Proofs.Ytfhmckmglkjbeaa
open Go.ChangeShapes Go.WideShapes Go.ChangeAt Go.RowKit
set_option maxRecDepth 20000
theorem BotOk.puts {K : Nat} : ∀ (ys xs : List Int), BotOk K xs → (∀ y ∈ ys, 0 ≤ y ∧ y < 72057594037927936) → BotOk K (bots K xs ys)
  | [], _, h, _ => h
  | y :: ys, xs, h, hb => BotOk.puts ys (bot K xs y) (h.put y (hb y (List.mem_cons_self ..))) (fun z hz => hb z (List.mem_cons_of_mem _ hz))
theorem bots_snoc (K : Nat) : ∀ (ys xs : List Int) (y : Int), bots K xs (ys ++ [y]) = bot K (bots K xs ys) y
  | [], _, _ => rfl
  | z :: ys, xs, y => bots_snoc K ys (bot K xs z) y
/-- What stands while a bottom is joined. -/
structure BotX (W : World) (Q R K : Nat) (v : Value) : Prop where
  o0 : W.cell? ⟨Q, 0, none⟩ = some (.int .i64 (K : Nat))
  o1 : W.cell? ⟨Q, 1, none⟩ = some v
  r0 : ∃ u, W.cell? ⟨R, 0, none⟩ = some u
  r1 : ∃ u, W.cell? ⟨R, 1, none⟩ = some u
  fo : ∀ o, W.frozen? ⟨Q, o, none⟩ = false
  fr : ∀ o, W.frozen? ⟨R, o, none⟩ = false
theorem BotX.below {W W' : World} {Q R K : Nat} {v : Value} (h : BotX W Q R K v) (hb : Below W.heap.size W W') : BotX W' Q R K v :=
  ⟨ck hb h.o0, ck hb h.o1, h.r0.imp (fun _ e => ck hb e), h.r1.imp (fun _ e => ck hb e), fun o => (hb.frozen (p := ⟨Q, o, none⟩) (show Q < _ from ltc h.o0)).trans (h.fo o), fun o => by
    obtain ⟨u, e⟩ := h.r0
    exact (hb.frozen (p := ⟨R, o, none⟩) (show R < _ from ltc e)).trans (h.fr o)⟩
theorem BotX.put {W : World} {Q R K : Nat} {v : Value} (h : BotX W Q R K v) (hne : R ≠ Q) (v' : Value) : BotX ((W.setCell ⟨Q, 0, none⟩ (.int .i64 (K : Nat))).setCell ⟨Q, 1, none⟩ v') Q R K v' :=
  ⟨(res2 _ _ h.o0 h.o1).1, (res2 _ _ h.o0 h.o1).2, h.r0.imp (fun _ e => coff (coff e hne) hne), h.r1.imp (fun _ e => coff (coff e hne) hne), fun o => frs (frs (h.fo o)), fun o => frs (frs (h.fr o))⟩
theorem BotX.put1 {W : World} {Q R K : Nat} {v : Value} (h : BotX W Q R K v) (hne : R ≠ Q) (v' : Value) : BotX (W.setCell ⟨Q, 1, none⟩ v') Q R K v' :=
  ⟨con h.o0 (by omega), cset h.o1, h.r0.imp (fun _ e => coff e hne), h.r1.imp (fun _ e => coff e hne), fun o => frs (h.fo o), fun o => frs (h.fr o)⟩
set_option maxHeartbeats 8000000 in
theorem botjoin_c (K : Nat) (a : Option Addr) (n c : Nat) (xs : List Int) (a2 : Option Addr) (n2 c2 : Nat) (ys : List Int) (w : World) (h : IntsAt w a n c xs) (h2 : IntsAt w a2 n2 c2 ys) (hok : BotOk K xs) (hok2 : BotOk K ys) :
    Calls Try.prog 14 #[botV K a n c, botV K a2 n2 c2] w fun e w' => ∃ g n' c', e = .returned (.tuple #[botV K g n' c', .int .i64 0]) ∧ w'.ownsRow w.heap.size 3 1 (.slice g n' c') n' ((bots K xs ys).map (Value.int .i64)) ∧ Below w.heap.size w w' := by
  have CK := hidp (fun W (hB : Below w.heap.size w W) => bocheck_c K a n c xs W (h.below hB) hok)
  have CK2 := hidp (fun W (hB : Below w.heap.size w W) => bocheck_c K a2 n2 c2 ys W (h2.below hB) hok2)
  have CC := hidp (fun W (hB : Below w.heap.size w W) => clonei_c a n c xs W (h.below hB) (by have := h.len; have := hok.ln; have := hok.k2; omega))
  have OK := hidp hok
  have OK2 := hidp hok2
  have LN := hidp h2.len
  have mm := h2.max
  have ee := h2.le
  obtain ⟨b, o, hz, hx⟩ := h2.split
  have hz' : Hid (n2 = 0) ∨ a2 = some ⟨b, o, none⟩ := hz.imp_left hidp
  have HX := hidp hx
  clear h h2 hok hok2 hx hz
  unfold botV at *
  go_enter Try.func14, Try.ntmps14
  go_wp2_with fail
  have hb1 : Below w.heap.size w (((w.alloc (.cells #[.int .i64 (K : Nat), .slice a n c] 40)).alloc (.cells #[.int .i64 (K : Nat), .slice a2 n2 c2] 40)).alloc (.cells #[.int .i64 0, .slice none 0 0] 40)) := bal (bal (bal (Below.refl _ _) _) _) _
  refine (CK.out _ hb1).mono ?_
  rintro e wa ⟨rfl, hba⟩
  have c0 : wa.cell? ⟨w.heap.size, 0, none⟩ = some (.int .i64 (K : Nat)) := ck hba (by go_simp)
  have c1 : wa.cell? ⟨w.heap.size, 1, none⟩ = some (.slice a n c) := ck hba (by go_simp)
  have d0 : wa.cell? ⟨w.heap.size + 1, 0, none⟩ = some (.int .i64 (K : Nat)) := ck hba (by go_simp)
  have d1 : wa.cell? ⟨w.heap.size + 1, 1, none⟩ = some (.slice a2 n2 c2) := ck hba (by go_simp)
  have r0 : wa.cell? ⟨w.heap.size + 1 + 1, 0, none⟩ = some (.int .i64 0) := ck hba (by go_simp)
  have r1 : wa.cell? ⟨w.heap.size + 1 + 1, 1, none⟩ = some (.slice none 0 0) := ck hba (by go_simp)
  have fr : ∀ o, wa.frozen? ⟨w.heap.size + 1 + 1, o, none⟩ = false := fun o => (hba.frozen (p := ⟨w.heap.size + 1 + 1, o, none⟩) (by simp)).trans (by go_simp)
  have hwa := bstep hb1 hba
  clear hb1 hba CK
  go_wp2_with fail
  refine (CK2.out _ hwa).mono ?_
  rintro e wb ⟨rfl, hbb⟩
  have hlr := ltc r0
  replace c0 := ck hbb c0
  replace c1 := ck hbb c1
  replace d0 := ck hbb d0
  replace d1 := ck hbb d1
  replace r0 := ck hbb r0
  replace r1 := ck hbb r1
  replace fr : ∀ o, wb.frozen? ⟨w.heap.size + 1 + 1, o, none⟩ = false := fun o => (hbb.frozen (p := ⟨w.heap.size + 1 + 1, o, none⟩) hlr).trans (fr o)
  have hwb := bstep hwa hbb
  clear hwa hbb CK2 hlr
  have hsb := ltc r0
  have x1 : ¬ w.heap.size = wb.heap.size := by omega
  have x2 : ¬ w.heap.size + 1 = wb.heap.size := by omega
  have x3 : ¬ w.heap.size + 1 + 1 = wb.heap.size := by omega
  have y1 : ¬ wb.heap.size = w.heap.size := by omega
  have y2 : ¬ wb.heap.size = w.heap.size + 1 := by omega
  have y3 : ¬ wb.heap.size = w.heap.size + 1 + 1 := by omega
  have l1 := ltc c0
  have l2 := ltc d0
  go_upto_region 10 with fail
  have hal : Below wb.heap.size wb (wb.alloc (.cells #[.int .i64 (K : Nat), .slice a n c] 40)) := bal (Below.refl _ _) _
  have BX : BotX (wb.alloc (.cells #[.int .i64 (K : Nat), .slice a n c] 40)) wb.heap.size (w.heap.size + 1 + 1) K (.slice a n c) :=
    ⟨by go_simp, by go_simp, ⟨_, ca r0 _⟩, ⟨_, ca r1 _⟩, fun o => by go_simp, fun o => (hal.frozen (p := ⟨w.heap.size + 1 + 1, o, none⟩) hsb).trans (fr o)⟩
  replace c1 := ca c1 (.cells #[.int .i64 (K : Nat), .slice a n c] 40)
  replace d0 := ca d0 (.cells #[.int .i64 (K : Nat), .slice a n c] 40)
  replace d1 := ca d1 (.cells #[.int .i64 (K : Nat), .slice a n c] 40)
  have hwc := bstep hwb hal
  clear hal hwb c0 r0 r1 fr x1 x2 x3 y1 y2 y3 l1 l2
  generalize (wb.alloc (.cells #[.int .i64 (K : Nat), .slice a n c] 40)) = wc at *
  generalize wb.heap.size = Q at *
  go_wp2_with fail
  refine (CC.out _ hwc).mono ?_
  rintro e wd ⟨v, rfl, hv, hbd⟩
  obtain ⟨av, cv, rfl, hv1, hv2⟩ := owns_form hv
  have hQc := ltc BX.o0
  replace BX := BX.below hbd
  replace c1 := ck hbd c1
  replace d0 := ck hbd d0
  replace d1 := ck hbd d1
  have hwd := bstep hwc hbd
  have f1 := BX.fo 1
  have hQd := ltc BX.o0
  have p1 := BX.o1
  have BX2 := BX.put1 (by omega) (.slice av n cv)
  have g1 := coff (b' := Q) (j := 1) (u := .slice av n cv) d1 (by omega)
  have hw2 := hwd.setCell (p := ⟨Q, 1, none⟩) (by show w.heap.size ≤ Q; omega) (.slice av n cv)
  have hvo := owns_mono (ownsRow_setCell_below hv (a := ⟨Q, 1, none⟩) hQc (.slice av n cv)) (show Q + 1 ≤ _ by omega)
  clear hv hbd hwc hwd BX CC c1 d0
  go_upto_region 12 with fail
  have hsz : Q < (wd.setCell ⟨Q, 1, none⟩ (.slice av n cv)).heap.size := ltc BX2.o0
  clear d1 p1 f1 hQd hQc
  generalize (wd.setCell ⟨Q, 1, none⟩ (.slice av n cv)) = w1 at *
  go_loopw [37] (fun i wr => ∃ (k : Nat) (g : Option Addr) (n' c' : Nat), k ≤ n2 ∧ i = .int .i64 k ∧ BotX wr Q (w.heap.size + 1 + 1) K (.slice g n' c') ∧ wr.ownsRow (Q + 1) 3 1 (.slice g n' c') n' ((bots K xs (ys.take k)).map (Value.int .i64)) ∧ Below w.heap.size w wr ∧ Q < wr.heap.size) (fun i _ => n2 - (intOf i).toNat)
  case atStart => exact ⟨0, av, n, cv, by omega, rfl, BX2, hvo, hw2, hsz⟩
  case round =>
    obtain ⟨k, g, n', c', hk, rfl, BX, hv, hbr, hsr⟩ := hrel
    have OKk := hidp (BotOk.puts (ys.take k) xs OK.out (fun y hy => OK2.out.bd y (List.mem_of_mem_take hy)))
    have hbd : ∀ y ∈ bots K xs (ys.take k), -9223372036854775808 ≤ y ∧ y ≤ 9223372036854775807 := fun y hy => by have := OKk.out.bd y hy; omega
    have hI := hidp (show IntsAt wr g n' c' (bots K xs (ys.take k)) from by
      obtain ⟨_, _, e, h⟩ := owns_ints hv hbd
      cases e; exact h)
    have BXH := hidp BX
    obtain ⟨o0, o1, ⟨u0, r0⟩, ⟨u1, r1⟩, fo, fr⟩ := BX
    by_cases hlt : k < n2
    · obtain rfl : a2 = some ⟨b, o, none⟩ := hz'.resolve_left (fun e => by have := e.out; omega)
      have q := ck hbr (HX.out k hlt).2
      have hl := LN.out
      have P1 := hidp (boput_c K g n' c' _ (gi ys k) wr hI.out OKk.out (OK2.out.bd _ (gi_mem ys k (by omega))))
      have HS := hidp (show bot K (bots K xs (ys.take k)) (gi ys k) = bots K xs (ys.take (k + 1)) from by
        rw [← bots_snoc]
        congr 1
        rw [List.take_add_one]
        congr 1
        rw [List.getElem?_eq_getElem (by omega)]
        unfold gi
        rw [List.getD_eq_getElem?_getD, List.getElem?_eq_getElem (by omega)]
        rfl)
      clear hv hbd fo fr hl r0 r1
      go_wp2_with fail
      refine P1.out.mono ?_
      rintro e wx ⟨g2, m2, c3, rfl, hv2, hb2⟩
      rw [HS.out] at hv2
      have f0 := (hb2.frozen (p := ⟨Q, 0, none⟩) hsr).trans (BXH.out.fo 0)
      have f1 := (hb2.frozen (p := ⟨Q, 1, none⟩) hsr).trans (BXH.out.fo 1)
      replace o0 := ck hb2 o0
      replace o1 := ck hb2 o1
      have BX2 := hidp (BXH.out.below hb2)
      have HV := hidp hv2
      have HB2 := hidp hb2
      clear hv2 hb2
      go_wp2_with fail
      go_roundw
      case rel => exact ⟨k + 1, g2, m2, c3, by omega, by go_num, BX2.out.put (by omega) _, owns_mono (ownsRow_setCell_below (ownsRow_setCell_below HV.out (a := ⟨Q, 0, none⟩) hsr _) (a := ⟨Q, 1, none⟩) hsr _) (by omega), below_set2 (bstep hbr HB2.out) Q (by omega) _ _, by have := HB2.out.size; simp; omega⟩
      case measure => simp [intOf]; omega
    · obtain rfl : k = n2 := by omega
      have f0 := fr 0
      have f1 := fr 1
      have hlr := ltc r0
      have hL := LN.out
      have HV := hidp hv
      have HBR := hidp hbr
      clear hv hbd fo fr hbr
      go_wp2_with fail
      exact bodyPost_ret (v := .tuple #[.agg #[.int .i64 (K : Nat), .slice g n' c'], .int .i64 0]) (by simp [results, Try.results14, go_sem, (res2 (.int .i64 (K : Nat)) (.slice g n' c') r0 r1).1, (res2 (.int .i64 (K : Nat)) (.slice g n' c') r0 r1).2]) rfl ⟨g, n', c', rfl, by
        have hh := HV.out
        rw [show ys.take k = ys from List.take_of_length_le (by omega)] at hh
        exact owns_mono (ownsRow_setCell_below (ownsRow_setCell_below hh (a := ⟨w.heap.size + 1 + 1, 0, none⟩) (by show w.heap.size + 1 + 1 < _; omega) _) (a := ⟨w.heap.size + 1 + 1, 1, none⟩) (by show w.heap.size + 1 + 1 < _; omega) _) (by omega), below_set2 HBR.out (w.heap.size + 1 + 1) (by omega) _ _⟩
end Go.Proofs.Ytfhmckmglkjbeaa
