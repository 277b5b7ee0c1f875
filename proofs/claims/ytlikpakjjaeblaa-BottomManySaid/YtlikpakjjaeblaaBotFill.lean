/- Contracts of culkeep.filled and culref.SameBottom. -/
import Derived.Test.YtlikpakjjaeblaaBase
import Derived.Test.YtlikpakjjaeblaaBottom
import Derived.Test.YtlikpakjjaeblaaEqI
import Derived.Test.YtlikpakjjaeblaaTake
namespace Go.Proofs.Ytlikpakjjaeblaa
open Go.ChangeShapes Go.WideShapes Go.ChangeAt Go.RowKit
set_option maxRecDepth 20000
theorem drw_bd (x : Int) : 0 ≤ drw x ∧ drw x < 72057594037927936 := ⟨drw_lo x, drw_hi x⟩
theorem BotOk.ofL {K : Nat} (k1 : 1 ≤ K) (k2 : K ≤ 40) (ys : List Int) : BotOk K (botL K (ys.map drw)) :=
  ⟨k1, k2, botL_len _ _, botL_rising _ _, fun x hx => by
    obtain ⟨y, _, rfl⟩ := List.mem_map.1 (botL_mem _ _ _ hx)
    exact drw_bd y⟩
theorem owns_bot {w : World} {B K : Nat} {g : Option Addr} {n c : Nat} {ys : List Int} (h : w.ownsRow B 3 1 (.slice g n c) n ((botL K (ys.map drw)).map (Value.int .i64))) :
    IntsAt w g n c (botL K (ys.map drw)) ∧ ∀ b o, g = some ⟨b, o, none⟩ → B ≤ b := by
  obtain ⟨_, _, e, h2⟩ := owns_ints h (fun y hy => by
    obtain ⟨z, _, rfl⟩ := List.mem_map.1 (botL_mem _ _ _ hy)
    have := drw_bd z
    omega)
  cases e
  exact ⟨h2, fun b o e => (h.lt b (by rw [e]; rfl)).1⟩
/-- What stands while a bottom is filled. -/
structure BotW (W : World) (H K : Nat) (v : Value) : Prop where
  o0 : W.cell? ⟨H + 1, 0, none⟩ = some (.int .i64 (K : Nat))
  o1 : W.cell? ⟨H + 1, 1, none⟩ = some v
  r0 : ∃ u, W.cell? ⟨H, 0, none⟩ = some u
  r1 : ∃ u, W.cell? ⟨H, 1, none⟩ = some u
  fo : ∀ o, W.frozen? ⟨H + 1, o, none⟩ = false
  fr : ∀ o, W.frozen? ⟨H, o, none⟩ = false
theorem BotW.below {W W' : World} {H K : Nat} {v : Value} (h : BotW W H K v) (hb : Below W.heap.size W W') : BotW W' H K v :=
  ⟨ck hb h.o0, ck hb h.o1, h.r0.imp (fun _ e => ck hb e), h.r1.imp (fun _ e => ck hb e), fun o => (hb.frozen (p := ⟨H + 1, o, none⟩) (show H + 1 < _ from ltc h.o0)).trans (h.fo o), fun o => by
    obtain ⟨u, e⟩ := h.r0
    exact (hb.frozen (p := ⟨H, o, none⟩) (show H < _ from ltc e)).trans (h.fr o)⟩
theorem BotW.put {W : World} {H K : Nat} {v : Value} (h : BotW W H K v) (v' : Value) : BotW ((W.setCell ⟨H + 1, 0, none⟩ (.int .i64 (K : Nat))).setCell ⟨H + 1, 1, none⟩ v') H K v' :=
  ⟨(res2 _ _ h.o0 h.o1).1, (res2 _ _ h.o0 h.o1).2, h.r0.imp (fun _ e => coff (coff e (by omega)) (by omega)), h.r1.imp (fun _ e => coff (coff e (by omega)) (by omega)), fun o => frs (frs (h.fo o)), fun o => frs (frs (h.fr o))⟩
set_option maxHeartbeats 8000000 in
theorem filled_c (K : Nat) (a : Option Addr) (n c : Nat) (ys : List Int) (w : World) (h : IntsAt w a n c ys) (k1 : 1 ≤ K) (k2 : K ≤ 40) :
    Calls Try.prog 15 #[.int .i64 (K : Nat), .slice a n c] w fun e w' => ∃ g n' c', e = .returned (.tuple #[botV K g n' c', .bool true]) ∧ w'.ownsRow w.heap.size 3 1 (.slice g n' c') n' ((botL K ((ys.take 200).map drw)).map (Value.int .i64)) ∧ Below w.heap.size w w' := by
  obtain ⟨m, hm⟩ : ∃ m, (min (n : Int) 200).toNat = m := ⟨_, rfl⟩
  have hmn : m ≤ n := by omega
  have hT : ys.take 200 = ys.take m := by
    have := h.len
    by_cases h2 : n ≤ 200
    · rw [List.take_of_length_le (by omega), List.take_of_length_le (by omega)]
    · rw [show m = 200 by omega]
  rw [hT]
  have mm := h.max
  have ee := h.le
  have hI := h.take m hmn
  obtain ⟨zs, hzs⟩ : ∃ zs, zs = ys.take m := ⟨_, rfl⟩
  rw [← hzs] at hI ⊢
  obtain ⟨b, o, hz, hx⟩ := hI.split
  have hz' : Hid (m = 0) ∨ a = some ⟨b, o, none⟩ := hz.imp_left hidp
  have HX := hidp hx
  have LN := hidp hI.len
  have OK := hidp (fun zs => BotOk.ofL k1 k2 zs)
  clear hx hz h hT hzs hI
  unfold botV at *
  go_enter Try.func15, Try.ntmps15
  go_upto_region 3 with fail
  have hb1 : Below w.heap.size w ((w.alloc (.cells #[.int .i64 0, .slice none 0 0] 24)).alloc (.cells #[.int .i64 (K : Nat), .slice none 0 0] 24)) := bal (bal (Below.refl _ _) _) _
  have hs1 : w.heap.size + 2 ≤ ((w.alloc (.cells #[.int .i64 0, .slice none 0 0] 24)).alloc (.cells #[.int .i64 (K : Nat), .slice none 0 0] 24)).heap.size := by simp
  have hw1 : BotW ((w.alloc (.cells #[.int .i64 0, .slice none 0 0] 24)).alloc (.cells #[.int .i64 (K : Nat), .slice none 0 0] 24)) w.heap.size K (.slice none 0 0) :=
    ⟨by go_simp, by go_simp, ⟨.int .i64 0, by go_simp⟩, ⟨.slice none 0 0, by go_simp⟩, fun o => by go_simp, fun o => by go_simp⟩
  generalize ((w.alloc (.cells #[.int .i64 0, .slice none 0 0] 24)).alloc (.cells #[.int .i64 (K : Nat), .slice none 0 0] 24)) = w1 at *
  go_loopw [19] (fun i wr => ∃ (k : Nat) (g : Option Addr) (n' c' : Nat), k ≤ m ∧ i = .int .i64 k ∧ BotW wr w.heap.size K (.slice g n' c') ∧ wr.ownsRow (w.heap.size + 2) 3 1 (.slice g n' c') n' ((botL K ((zs.take k).map drw)).map (Value.int .i64)) ∧ Below w.heap.size w wr ∧ w.heap.size + 2 ≤ wr.heap.size) (fun i _ => m - (intOf i).toNat)
  case atStart => exact ⟨0, none, 0, 0, by omega, rfl, hw1, by simp only [List.take_zero, List.map_nil, botL_nil]; exact World.ownsRow_nil _ _ _ _, hb1, hs1⟩
  case round =>
    obtain ⟨k, g, n', c', hk, rfl, BW, hv, hbr, hsr⟩ := hrel
    obtain ⟨o0, o1, ⟨u0, r0⟩, ⟨u1, r1⟩, fo, fr⟩ := BW
    have BWH := hidp (show BotW wr w.heap.size K (.slice g n' c') from ⟨o0, o1, ⟨u0, r0⟩, ⟨u1, r1⟩, fo, fr⟩)
    by_cases hlt : k < m
    · obtain rfl : a = some ⟨b, o, none⟩ := hz'.resolve_left (fun e => by have := e.out; omega)
      have q := ck hbr (HX.out k hlt).2
      have hI := hidp (show IntsAt wr g n' c' (botL K ((zs.take k).map drw)) from by
        obtain ⟨_, _, e, h⟩ := owns_ints hv (fun y hy => by have := (OK.out (zs.take k)).bd y hy; omega)
        cases e; exact h)
      have PUT := hidp (fun W (hB : Below wr.heap.size wr W) => boput_c K g n' c' _ (drw (gi zs k)) W (hI.out.below hB) (OK.out (zs.take k)) (drw_bd _))
      have hsnoc : bot K (botL K ((zs.take k).map drw)) (drw (gi zs k)) = botL K ((zs.take (k + 1)).map drw) := by
        rw [botL_snoc]
        congr 1
        have hl := LN.out
        rw [List.take_add_one, List.map_append]
        congr 1
        rw [List.getElem?_eq_getElem (by omega)]
        unfold gi
        rw [List.getD_eq_getElem?_getD, List.getElem?_eq_getElem (by omega)]
        rfl
      have HS := hidp hsnoc
      have n1 : ¬ w.heap.size + 1 = wr.heap.size := by omega
      have n2 : ¬ wr.heap.size = w.heap.size + 1 := by omega
      have n3 : w.heap.size + 1 < wr.heap.size := by omega
      clear hsnoc hv fo fr
      go_wp2_with fail
      go_cut [9, 10, 19] from 19 to 34 (fun s9 s10 s19 wx => s10 = .int .i64 0 ∧ s19 = .int .i64 k ∧ ∃ (Q : Nat) (g2 : Option Addr) (n2 c2 : Nat), s9 = .pointer (some ⟨Q, 0, none⟩) ∧ wr.heap.size ≤ Q ∧ wx.cell? ⟨Q, 0, none⟩ = some (.int .i64 (K : Nat)) ∧ wx.cell? ⟨Q, 1, none⟩ = some (.slice g2 n2 c2) ∧ wx.ownsRow wr.heap.size 3 1 (.slice g2 n2 c2) n2 ((botL K ((zs.take (k + 1)).map drw)).map (Value.int .i64)) ∧ Below wr.heap.size wr wx)
      case first =>
        go_region_with (first
          | (go_at_call 16; refine (draw_c (gi zs k) _).mono ?_; rintro e w' ⟨rfl, rfl⟩)
          | (go_at_call 12; go_loud (refine Calls.mono (PUT.out _ ?_) ?_; (first | exact (Below.refl _ _).drew | exact (bal (Below.refl _ _) _).drew); rintro e wb ⟨g2, n2, c2, rfl, hv, hbb⟩; (first | (have z := zz (P := wr.heap.size) rfl hbb; obtain ⟨z0, z1, zf, zl, hbv, zq⟩ := z; have zf0 := zf 0; have zf1 := zf 1) | (have hbv := bstep (Below.refl wr.heap.size wr).drew hbb))))
        )
        all_goals go_wp2
        all_goals go_meet
        all_goals rw [HS.out] at hv
        all_goals first
          | exact ⟨rfl, rfl, _, _, _, _, rfl, by have := hbv.size; omega, by go_simp, by go_simp, owns_mono (hv.alloc _) (Nat.le_refl _), bal hbv _⟩
          | exact ⟨rfl, rfl, _, _, _, _, rfl, Nat.le_refl _, (res2 _ _ z0 z1).1, (res2 _ _ z0 z1).2, bp_own hv, below_set2 hbv wr.heap.size (Nat.le_refl _) _ _⟩
      case rest =>
        obtain ⟨rfl, rfl, Q, g2, n2, c2, rfl, hQ, d0, d1, hv2, hb2⟩ := hcut
        have hl := ltc o0
        have m1 : w.heap.size + 1 ≠ Q := by omega
        replace o0 := ck hb2 o0
        replace o1 := ck hb2 o1
        have f0 := (hb2.frozen (p := ⟨w.heap.size + 1, 0, none⟩) hl).trans (BWH.out.fo 0)
        have f1 := (hb2.frozen (p := ⟨w.heap.size + 1, 1, none⟩) hl).trans (BWH.out.fo 1)
        have BW2 := hidp (BWH.out.below hb2)
        have HB2 := hidp hb2
        have HV2 := hidp hv2
        clear hb2 hv2 r0 r1
        go_wp2_with fail
        go_roundw
        case rel => exact ⟨k + 1, g2, n2, c2, by omega, by go_num, BW2.out.put _, owns_mono (ownsRow_setCell_below (ownsRow_setCell_below HV2.out (a := ⟨w.heap.size + 1, 0, none⟩) (by show w.heap.size + 1 < _; omega) _) (a := ⟨w.heap.size + 1, 1, none⟩) (by show w.heap.size + 1 < _; omega) _) (by omega), below_set2 (bstep hbr HB2.out) (w.heap.size + 1) (by omega) _ _, by have := HB2.out.size; simp; omega⟩
        case measure => simp [intOf]; omega
    · obtain rfl : k = m := by omega
      have f0 := fr 0
      have f1 := fr 1
      go_wp2_with fail
      have hv5 := hidp hv
      exact bodyPost_ret (v := .tuple #[.agg #[.int .i64 (K : Nat), .slice g n' c'], .bool true]) (by simp [results, Try.results15, go_sem, (res2 (.int .i64 (K : Nat)) (.slice g n' c') r0 r1).1, (res2 (.int .i64 (K : Nat)) (.slice g n' c') r0 r1).2]) rfl ⟨g, n', c', rfl, by
        have hh := ownsRow_setCell_below (ownsRow_setCell_below hv (a := ⟨w.heap.size, 0, none⟩) (by show w.heap.size < _; omega) (.int .i64 (K : Nat))) (a := ⟨w.heap.size, 1, none⟩) (by show w.heap.size < _; omega) (.slice g n' c')
        rw [show zs.take k = zs from List.take_of_length_le (by have := LN.out; omega)] at hh
        exact owns_mono hh (by omega), below_set2 hbr w.heap.size (Nat.le_refl _) _ _⟩
set_option maxHeartbeats 2000000 in
/-- Two bottoms of the same values are the same. -/
theorem samebot_c (K : Nat) (a1 a2 : Option Addr) (n1 n2 c1 c2 : Nat) (xs ys : List Int) (w : World) (h1 : IntsAt w a1 n1 c1 xs) (h2 : IntsAt w a2 n2 c2 ys) (he : xs = ys) :
    Calls Try.prog 19 #[botV K a1 n1 c1, botV K a2 n2 c2] w fun e w' => e = .returned (.bool true) ∧ Below w.heap.size w w' := by
  have hb1 : Below w.heap.size w ((w.alloc (.cells #[.int .i64 (K : Nat), .slice a1 n1 c1] 24)).alloc (.cells #[.int .i64 (K : Nat), .slice a2 n2 c2] 24)) := bal (bal (Below.refl _ _) _) _
  have EQ := hidp (equali_c a1 a2 n1 n2 c1 c2 xs ys _ (h1.below hb1) (h2.below hb1))
  have HB := hidp hb1
  clear hb1 h1 h2
  unfold botV
  go_enter Try.func19, Try.ntmps19
  go_wp2_with fail
  refine EQ.out.mono ?_
  rintro e w' ⟨rfl, hb'⟩
  rw [decide_eq_true he]
  have HB2 := hidp (bstep HB.out hb')
  clear hb' EQ HB
  go_wp2_with fail
  go_ret
  exact ⟨rfl, HB2.out⟩
end Go.Proofs.Ytlikpakjjaeblaa
