/- Contract of culkeep.ruled. -/
import Derived.Test.YtmlkhiffmkkmdaaBoardJoin
import Derived.Test.YtmlkhiffmkkmdaaRuledMath
import Derived.Test.YtmlkhiffmkkmdaaTakeCall
import Derived.Lib.MinMax
import Derived.Deep.DeepCutAuto
namespace Go.Proofs.Ytmlkhiffmkkmdaa
open Go.ChangeShapes Go.WideShapes Go.ChangeAt Go.RowKit Go.Lib
set_option maxRecDepth 20000
theorem IntsAt.addr0R {w : World} {a : Option Addr} {n cap : Nat} {xs : List Int} (h : IntsAt w a n cap xs) (hn : 0 < n) : ∃ b o, a = some ⟨b, o, none⟩ ∧ b < w.heap.size ∧ ∀ i, i < n → w.cell? ⟨b, o + i, none⟩ = some (.int .i64 (gi xs i)) := by
  obtain ⟨b, o, hz, hx⟩ := h.split
  obtain rfl := hz.resolve_left (by omega)
  exact ⟨b, o, rfl, (hx 0 hn).1, fun i hi => (hx i hi).2⟩
set_option maxHeartbeats 8000000 in
theorem ruled_c (a : Option Addr) (n c : Nat) (ls : List (List Int)) (w : World) (h : RowsAt w a n c ls) :
    Calls Try.prog 24 #[.slice a n c] w fun e w' => ∃ v, e = .returned (.tuple #[v, .bool true]) ∧ w'.ownsRow w.heap.size 51 3 v (ruledL ls).length (rsV (ruledL ls)) ∧ Below w.heap.size w w' := by
  have mm := h.max
  have ee := h.le
  have hl := h.len
  obtain ⟨N, hN⟩ : ∃ N, N = min n 30 := ⟨_, rfl⟩
  have hmin : min (n : Int) 30 = (N : Int) := by omega
  have hNn : N ≤ n := by omega
  have hN30 : N ≤ 30 := by omega
  have HC := hidp h.cells
  have RD := hidp (show ruledL ls = bputs [] (rowsR (ls.take N)) by
    unfold ruledL
    by_cases h30 : n ≤ 30
    · rw [show N = n by omega, List.take_of_length_le (by omega), List.take_of_length_le (by omega)]
    · rw [show N = 30 by omega])
  have W7 := hidp (fun k W => withinN_c k 7 (by omega) (by omega) W)
  have W21 := hidp (fun k W => within_c k 21 (by omega) (by omega) W)
  have W9 := hidp (fun k W => within_c k 9 (by omega) (by omega) W)
  have OKK := hidp (fun k => ruled_ok (ls.take k))
  have T0 := hidp (show bputs [] (rowsR (ls.take 0)) = [] from rfl)
  have S1' := hidp (fun k (hk : k < N) (h3 : ¬ (gl ls k).length < 3) => show bputs [] (rowsR (ls.take (k + 1))) = bput (bputs [] (rowsR (ls.take k))) (rowR (gl ls k)) by
    rw [List.take_add_one, show ls[k]? = some (gl ls k) from by unfold gl; rw [List.getD_eq_getElem?_getD, List.getElem?_eq_getElem (by omega)]; rfl, rowsR_append]
    show bputs [] (rowsR (ls.take k) ++ rowsR [gl ls k]) = _
    unfold rowsR
    rw [if_neg h3]
    rw [show rowsR [] = [] from rfl, bputs_snoc])
  clear h hN
  go_enter Try.func24, Try.ntmps24
  go_wp2_with fail
  go_loopg [4, 16] N (fun gg s4 i wr => ∃ (k m c' : Nat) (a' : Option Addr), k ≤ N ∧ N - k ≤ gg ∧ i = .int .i64 k ∧ s4 = .slice a' m c' ∧ Hid (m = (bputs [] (rowsR (ls.take k))).length ∧ wr.ownsRow w.heap.size 51 3 (.slice a' m c') m (rsV (bputs [] (rowsR (ls.take k))))) ∧ Below w.heap.size w wr)
  case atStart => exact ⟨0, 0, 0, none, by omega, by omega, rfl, rfl, hidp ⟨by rw [T0.out]; rfl, by rw [T0.out]; exact World.ownsRow_nil _ _ _ _⟩, Below.refl _ _⟩
  case round =>
    obtain ⟨k, m, c', a', hk, hgg, rfl, rfl, OW, hbl⟩ := hrel
    by_cases hlt : k < N
    · obtain ⟨b, o, rfl, hbs, hcs⟩ := HC.out (by omega)
      obtain ⟨ai, ni, ci, x0, hI⟩ := hcs k (by omega)
      have q0 := carry_cell ⟨hbs, x0⟩ hbl
      have hIr := hI.below hbl
      have li := hI.len
      have mi := hI.max
      have ei := hI.le
      clear x0 hcs
      by_cases h3 : ni < 3
      · have h3' : (ni : Int) < 3 := by omega
        have S1 := hidp (show rowsR (ls.take (k + 1)) = rowsR (ls.take k) by
          rw [List.take_add_one, show ls[k]? = some (gl ls k) from by unfold gl; rw [List.getD_eq_getElem?_getD, List.getElem?_eq_getElem (by omega)]; rfl, rowsR_append]
          show rowsR (ls.take k) ++ rowsR [gl ls k] = _
          unfold rowsR
          rw [if_pos (by omega)]
          simp [rowsR])
        clear hIr hI
        go_wp2_with fail
        go_roundg (N - (k + 1))
        case measure => omega
        case rel => exact ⟨k + 1, m, c', a', by omega, by omega, by go_num, rfl, hidp (by rw [S1.out]; exact OW.out), hbl⟩
      · have h3' : ¬ (ni : Int) < 3 := by omega
        obtain ⟨b2, o2, rfl, hb2, hc2⟩ := hIr.addr0R (by omega)
        have x0 := hc2 0 (by omega)
        have x1 := hc2 1 (by omega)
        have x2 := hc2 2 (by omega)
        have D7 := hidp (fun W => W7.out (gi (gl ls k) 0) W)
        have D21 := hidp (fun W => W21.out (gi (gl ls k) 1) W)
        have D9 := hidp (fun W => W9.out (gi (gl ls k) 2) W)
        have ht := wn_lt (gi (gl ls k) 0) 7 (by omega)
        have lo1 := wi_lo (gi (gl ls k) 1) 21 (by omega)
        have hi1 := wi_hi (gi (gl ls k) 1) 21 (by omega)
        have lo2 := wi_lo (gi (gl ls k) 2) 9 (by omega)
        have hi2 := wi_hi (gi (gl ls k) 2) 9 (by omega)
        have RR := hidp (show rowR (gl ls k) = (pf7 (wn (gi (gl ls k) 0) 7), wi (gi (gl ls k) 1) 21, 1 + wi (gi (gl ls k) 2) 9) from rfl)
        generalize wn (gi (gl ls k) 0) 7 = t at *
        generalize wi (gi (gl ls k) 1) 21 = lv at *
        generalize wi (gi (gl ls k) 2) 9 = ep at *
        generalize gi (gl ls k) 0 = g0 at *
        generalize gi (gl ls k) 1 = g1 at *
        generalize gi (gl ls k) 2 = g2 at *
        rw [Nat.add_zero] at x0
        have h3N := hidp h3
        clear hI hIr hc2 h3
        have ht7 : t < 7 := by omega
        have LF := fun (W : World) (T : TypeId) => show (W.alloc (.cells #[.string ⟨#[]⟩, .string ⟨#[97]⟩, .string ⟨#[97, 98]⟩, .string ⟨#[97, 98, 99]⟩, .string ⟨#[98]⟩, .string ⟨#[98, 97]⟩, .string ⟨#[99]⟩] T)).cell? ⟨W.heap.size, t, none⟩ = some (.string (pf7 t)) from by
          rcases (by omega : t = 0 ∨ t = 1 ∨ t = 2 ∨ t = 3 ∨ t = 4 ∨ t = 5 ∨ t = 6) with rfl | rfl | rfl | rfl | rfl | rfl | rfl <;> (go_simp; rfl)
        have LG := fun (W : World) (T : TypeId) (o : Obj) => show ((W.alloc o).alloc (.cells #[.string ⟨#[]⟩, .string ⟨#[97]⟩, .string ⟨#[97, 98]⟩, .string ⟨#[97, 98, 99]⟩, .string ⟨#[98]⟩, .string ⟨#[98, 97]⟩, .string ⟨#[99]⟩] T)).cell? ⟨W.heap.size + 1, t, none⟩ = some (.string (pf7 t)) from by
          have := LF (W.alloc o) T
          simpa using this
        have LH := fun (W : World) (T : TypeId) (o : Obj) => show ((W.alloc (.cells #[.string ⟨#[]⟩, .string ⟨#[97]⟩, .string ⟨#[97, 98]⟩, .string ⟨#[97, 98, 99]⟩, .string ⟨#[98]⟩, .string ⟨#[98, 97]⟩, .string ⟨#[99]⟩] T)).alloc o).cell? ⟨W.heap.size, t, none⟩ = some (.string (pf7 t)) from ca (LF W T) o
        have LI : ([.string ⟨#[]⟩, .string ⟨#[97]⟩, .string ⟨#[97, 98]⟩, .string ⟨#[97, 98, 99]⟩, .string ⟨#[98]⟩, .string ⟨#[98, 97]⟩, .string ⟨#[99]⟩] : List Value)[t]'(by simpa using ht7) = .string (pf7 t) := by
          rcases (by omega : t = 0 ∨ t = 1 ∨ t = 2 ∨ t = 3 ∨ t = 4 ∨ t = 5 ∨ t = 6) with rfl | rfl | rfl | rfl | rfl | rfl | rfl <;> rfl
        clear ht
        have ht7i : (t : Int) < 7 := by omega
        have hw1 : IntKind.i64.wrap (1 + ep) = 1 + ep := IntWalk.i64_in _ (by constructor <;> omega)
        have hwr := hbl.size
        have n0 : 0 < ni := by omega
        have n1 : (1 : Int) < (ni : Int) := by omega
        have n2 : (2 : Int) < (ni : Int) := by omega
        obtain ⟨nn, hnn⟩ : ∃ nn, nn = N := ⟨N, rfl⟩
        go_upto_region 6 with fail
        go_cut [4, 7, 14, 15, 16] from 6 to 6 (fun s4 s7 s14 s15 s16 wx => s4 = .slice a' m c' ∧ s14 = .slice (some ⟨b, o, none⟩) N c ∧ s15 = .int .i64 N ∧ s16 = .int .i64 k ∧ ∃ P : Nat, s7 = .pointer (some ⟨P, 0, none⟩) ∧ Hid (wx.cell? ⟨P, 0, none⟩ = some (.string (pf7 t)) ∧ wx.cell? ⟨P, 1, none⟩ = some (.int .i64 lv) ∧ wx.cell? ⟨P, 2, none⟩ = some (.int .i64 (1 + ep))) ∧ Below wr.heap.size wr wx)
        case first =>
          refine wp_region_held_drew (S := fun w' => w'.cell? ⟨b2, o2, none⟩ = some (.int .i64 g0) ∧ w'.cell? ⟨b2, o2 + 1, none⟩ = some (.int .i64 g1) ∧ w'.cell? ⟨b2, o2 + 2, none⟩ = some (.int .i64 g2)) (by kernel_rfl) ⟨x0, x1, x2⟩ (fun hHeld => ?_)
          refine wpAnyH_take (i := 1) (v := ?_) rfl (by kernel_rfl) (by kernel_rfl) (by kernel_rfl) (fun _ _ _ h => h) (Or.inl ⟨by rfl, ?_⟩) (by assumption) ?_
          rotate_left
          · intro w hSw; (try dsimp only at hSw); go_simp; try with_reducible rfl
          try simp only [Act.put, List.setIfInBounds_toArray, List.set_cons_zero, List.set_cons_succ]
          refine wpAnyH_take (i := 2) (v := ?_) rfl (by kernel_rfl) (by kernel_rfl) (by kernel_rfl) (fun _ _ _ h => h) (Or.inl ⟨by rfl, ?_⟩) (by assumption) ?_
          rotate_left
          · intro w hSw; (try dsimp only at hSw); go_simp; try with_reducible rfl
          try simp only [Act.put, List.setIfInBounds_toArray, List.set_cons_zero, List.set_cons_succ]
          refine wpAnyH_take (i := 3) (v := ?_) rfl (by kernel_rfl) (by kernel_rfl) (by kernel_rfl) (fun _ _ _ h => h) (Or.inl ⟨by rfl, ?_⟩) (by assumption) ?_
          rotate_left
          · intro w hSw; (try dsimp only at hSw); go_simp; try with_reducible rfl
          try simp only [Act.put, List.setIfInBounds_toArray, List.set_cons_zero, List.set_cons_succ]
          refine wpAnyH_quiet (i := 4) rfl (by kernel_rfl) (by kernel_rfl) (by kernel_rfl) (fun _ _ _ h => h) ⟨by rfl, fun W _ => ⟨13, #[.int .i64 g0, .int .i64 7], by go_simp, (D7.out W).mono (fun e w' h => ⟨h.1, h.2.symm⟩)⟩⟩ (by assumption) ?_
          try simp only [Act.put, List.setIfInBounds_toArray, List.set_cons_zero, List.set_cons_succ]
          refine wpAnyH_take (i := 7) (v := ?_) rfl (by kernel_rfl) (by kernel_rfl) (by kernel_rfl) (fun _ _ _ h => h) (Or.inl ⟨by rfl, ?_⟩) (by assumption) ?_
          rotate_left
          · intro w hSw; (try dsimp only at hSw); go_simp; try with_reducible rfl
          try simp only [Act.put, List.setIfInBounds_toArray, List.set_cons_zero, List.set_cons_succ]
          refine wpAnyH_take (i := 8) (v := ?_) rfl (by kernel_rfl) (by kernel_rfl) (by kernel_rfl) (fun _ _ _ h => h) (Or.inl ⟨by rfl, ?_⟩) (by assumption) ?_
          rotate_left
          · intro w hSw; (try dsimp only at hSw); go_simp; try with_reducible rfl
          try simp only [Act.put, List.setIfInBounds_toArray, List.set_cons_zero, List.set_cons_succ]
          refine wpAnyH_take (i := 9) (v := ?_) rfl (by kernel_rfl) (by kernel_rfl) (by kernel_rfl) (fun _ _ _ h => h) (Or.inl ⟨by rfl, ?_⟩) (by assumption) ?_
          rotate_left
          · intro w hSw; (try dsimp only at hSw); go_simp; try with_reducible rfl
          try simp only [Act.put, List.setIfInBounds_toArray, List.set_cons_zero, List.set_cons_succ]
          refine wpAnyH_quiet (i := 10) rfl (by kernel_rfl) (by kernel_rfl) (by kernel_rfl) (fun _ _ _ h => h) ⟨by rfl, fun W _ => ⟨13, #[.int .i64 g1, .int .i64 21], by go_simp, (D21.out W).mono (fun e w' h => ⟨h.1, h.2.symm⟩)⟩⟩ (by assumption) ?_
          try simp only [Act.put, List.setIfInBounds_toArray, List.set_cons_zero, List.set_cons_succ]
          refine wpAnyH_take (i := 11) (v := ?_) rfl (by kernel_rfl) (by kernel_rfl) (by kernel_rfl) (fun _ _ _ h => h) (Or.inl ⟨by rfl, ?_⟩) (by assumption) ?_
          rotate_left
          · intro w hSw; (try dsimp only at hSw); go_simp; try with_reducible rfl
          try simp only [Act.put, List.setIfInBounds_toArray, List.set_cons_zero, List.set_cons_succ]
          refine wpAnyH_take (i := 12) (v := ?_) rfl (by kernel_rfl) (by kernel_rfl) (by kernel_rfl) (fun _ _ _ h => h) (Or.inl ⟨by rfl, ?_⟩) (by assumption) ?_
          rotate_left
          · intro w hSw; (try dsimp only at hSw); go_simp; try with_reducible rfl
          try simp only [Act.put, List.setIfInBounds_toArray, List.set_cons_zero, List.set_cons_succ]
          refine wpAnyH_take (i := 13) (v := ?_) rfl (by kernel_rfl) (by kernel_rfl) (by kernel_rfl) (fun _ _ _ h => h) (Or.inl ⟨by rfl, ?_⟩) (by assumption) ?_
          rotate_left
          · intro w hSw; (try dsimp only at hSw); go_simp; try with_reducible rfl
          try simp only [Act.put, List.setIfInBounds_toArray, List.set_cons_zero, List.set_cons_succ]
          refine wpAnyH_quiet (i := 14) rfl (by kernel_rfl) (by kernel_rfl) (by kernel_rfl) (fun _ _ _ h => h) ⟨by rfl, fun W _ => ⟨13, #[.int .i64 g2, .int .i64 9], by go_simp, (D9.out W).mono (fun e w' h => ⟨h.1, h.2.symm⟩)⟩⟩ (by assumption) ?_
          try simp only [Act.put, List.setIfInBounds_toArray, List.set_cons_zero, List.set_cons_succ]
          refine wpAnyH_take (i := 15) (v := ?_) rfl (by kernel_rfl) (by kernel_rfl) (by kernel_rfl) (fun _ _ _ h => h) (Or.inl ⟨by rfl, ?_⟩) (by assumption) ?_
          rotate_left
          · intro w hSw; (try dsimp only at hSw); go_simp; try with_reducible rfl
          try simp only [Act.put, List.setIfInBounds_toArray, List.set_cons_zero, List.set_cons_succ]
          refine wpAnyH_ready (rs := [0, 17]) (by kernel_rfl) (by simp) ?_
          refine AllReadyH.cons rfl (fun K hK => ?_) ?_
          · go_simp
            refine hK.out _ _ (by first | go_keep | exact hHeld) (fun hHeld => ?_)
            clear hK K
            refine wpAnyH_take (i := 5) (v := ?_) rfl (by kernel_rfl) (by kernel_rfl) (by kernel_rfl) (fun _ _ _ h => h) (Or.inl ⟨by rfl, ?_⟩) (by assumption) ?_
            rotate_left
            · intro w hSw; (try dsimp only at hSw); go_simp; try with_reducible rfl
            try simp only [Act.put, List.setIfInBounds_toArray, List.set_cons_zero, List.set_cons_succ]
            refine wpAnyH_ready (rs := [6, 17]) (by kernel_rfl) (by simp) ?_
            refine AllReadyH.cons rfl (fun K hK => ?_) ?_
            · go_simp
              refine hK.out _ _ (by first | go_keep | exact hHeld) (fun hHeld => ?_)
              clear hK K
              refine wpAnyH_take (i := 16) (v := ?_) rfl (by kernel_rfl) (by kernel_rfl) (by kernel_rfl) (fun _ _ _ h => h) (Or.inl ⟨by rfl, ?_⟩) (by assumption) ?_
              rotate_left
              · intro w hSw; (try dsimp only at hSw); go_simp; try with_reducible rfl
              try simp only [Act.put, List.setIfInBounds_toArray, List.set_cons_zero, List.set_cons_succ]
              refine wpAnyH_ready (rs := [17]) (by kernel_rfl) (by simp) ?_
              refine AllReadyH.cons rfl (fun K hK => ?_) ?_
              · go_simp
                refine hK.out _ _ (by first | go_keep | exact hHeld) (fun hHeld => ?_)
                clear hK K
                refine wpAnyH_ready (rs := [18]) (by kernel_rfl) (by simp) ?_
                refine AllReadyH.cons rfl (fun K hK => ?_) ?_
                · go_simp
                  refine hK.out _ _ (by first | go_keep | exact hHeld) (fun hHeld => ?_)
                  clear hK K
                  refine wpAnyH_done (by kernel_rfl) ?_ _
                  go_wp2_with fail
                  go_meet
                  exact ⟨rfl, rfl, rfl, rfl, _, rfl, hidp ⟨by go_simp, by go_simp, by go_simp⟩, (bal (bal (Below.refl _ wr) _) _).drew⟩
                exact AllReadyH.nil
              exact AllReadyH.nil
            refine AllReadyH.cons rfl (fun K hK => ?_) ?_
            · go_simp
              refine hK.out _ _ (by first | go_keep | exact hHeld) (fun hHeld => ?_)
              clear hK K
              refine wpAnyH_ready (rs := [6]) (by kernel_rfl) (by simp) ?_
              refine AllReadyH.cons rfl (fun K hK => ?_) ?_
              · go_simp
                refine hK.out _ _ (by first | go_keep | exact hHeld) (fun hHeld => ?_)
                clear hK K
                refine wpAnyH_take (i := 16) (v := ?_) rfl (by kernel_rfl) (by kernel_rfl) (by kernel_rfl) (fun _ _ _ h => h) (Or.inl ⟨by rfl, ?_⟩) (by assumption) ?_
                rotate_left
                · intro w hSw; (try dsimp only at hSw); go_simp; try with_reducible rfl
                try simp only [Act.put, List.setIfInBounds_toArray, List.set_cons_zero, List.set_cons_succ]
                refine wpAnyH_ready (rs := [18]) (by kernel_rfl) (by simp) ?_
                refine AllReadyH.cons rfl (fun K hK => ?_) ?_
                · go_simp
                  refine hK.out _ _ (by first | go_keep | exact hHeld) (fun hHeld => ?_)
                  clear hK K
                  refine wpAnyH_done (by kernel_rfl) ?_ _
                  go_wp2_with fail
                  go_meet
                  exact ⟨rfl, rfl, rfl, rfl, _, rfl, hidp ⟨by go_simp, by go_simp, by go_simp⟩, (bal (bal (Below.refl _ wr) _) _).drew⟩
                exact AllReadyH.nil
              exact AllReadyH.nil
            exact AllReadyH.nil
          refine AllReadyH.cons rfl (fun K hK => ?_) ?_
          · go_simp
            refine hK.out _ _ (by first | go_keep | exact hHeld) (fun hHeld => ?_)
            clear hK K
            refine wpAnyH_ready (rs := [0]) (by kernel_rfl) (by simp) ?_
            refine AllReadyH.cons rfl (fun K hK => ?_) ?_
            · go_simp
              refine hK.out _ _ (by first | go_keep | exact hHeld) (fun hHeld => ?_)
              clear hK K
              refine wpAnyH_take (i := 5) (v := ?_) rfl (by kernel_rfl) (by kernel_rfl) (by kernel_rfl) (fun _ _ _ h => h) (Or.inl ⟨by rfl, ?_⟩) (by assumption) ?_
              rotate_left
              · intro w hSw; (try dsimp only at hSw); go_simp; try with_reducible rfl
              try simp only [Act.put, List.setIfInBounds_toArray, List.set_cons_zero, List.set_cons_succ]
              refine wpAnyH_ready (rs := [6]) (by kernel_rfl) (by simp) ?_
              refine AllReadyH.cons rfl (fun K hK => ?_) ?_
              · go_simp
                refine hK.out _ _ (by first | go_keep | exact hHeld) (fun hHeld => ?_)
                clear hK K
                refine wpAnyH_take (i := 16) (v := ?_) rfl (by kernel_rfl) (by kernel_rfl) (by kernel_rfl) (fun _ _ _ h => h) (Or.inl ⟨by rfl, ?_⟩) (by assumption) ?_
                rotate_left
                · intro w hSw; (try dsimp only at hSw); go_simp; try with_reducible rfl
                try simp only [Act.put, List.setIfInBounds_toArray, List.set_cons_zero, List.set_cons_succ]
                refine wpAnyH_ready (rs := [18]) (by kernel_rfl) (by simp) ?_
                refine AllReadyH.cons rfl (fun K hK => ?_) ?_
                · go_simp
                  refine hK.out _ _ (by first | go_keep | exact hHeld) (fun hHeld => ?_)
                  clear hK K
                  refine wpAnyH_done (by kernel_rfl) ?_ _
                  go_wp2_with fail
                  go_meet
                  exact ⟨rfl, rfl, rfl, rfl, _, rfl, hidp ⟨by go_simp, by go_simp, by go_simp⟩, (bal (bal (Below.refl _ wr) _) _).drew⟩
                exact AllReadyH.nil
              exact AllReadyH.nil
            exact AllReadyH.nil
          exact AllReadyH.nil
        case rest =>
          obtain ⟨rfl, rfl, rfl, rfl, P, rfl, PC, hb1⟩ := hcut
          obtain ⟨p0, p1, p2⟩ := PC.out
          have B1 := bstep hbl hb1
          have OW2 := hidp (owns_belowR OW.out.2 hb1)
          have hRA := hidp (owns_rules OW2.out)
          have R1 := hidp (rowR_ok (gl ls k))
          rw [RR.out] at R1
          have S1 := hidp (S1'.out k hlt (by rw [li]; exact h3N.out))
          rw [RR.out] at S1
          have OK := hidp (OKK.out k).1
          have O2 := hidp (OKK.out (k + 1)).1
          rw [S1.out] at O2
          clear D7 D21 D9 W7 W21 W9 LF LG x0 x1 x2 RR
          generalize pf7 t = s at *
          obtain ⟨e1, he1⟩ : ∃ e1, e1 = 1 + ep := ⟨_, rfl⟩
          rw [← he1] at p2 R1 S1 O2 PC
          have HE1 := hidp he1
          clear he1 PC
          have PU := hidp (show Calls Try.prog 25 #[.slice a' m c', .agg #[.string s, .int .i64 lv, .int .i64 e1]] wc _ from by
            obtain ⟨a3, c3, h3, h4⟩ := hRA.out
            cases h3
            exact bdput2_c a' m c' _ s lv e1 _ h4 OK.out R1.out.1 O2.out.len)
          clear hRA
          go_wp2_with fail
          refine PU.out.mono ?_
          rintro ee w5 ⟨hpost, hb5⟩
          have B5 := bstep B1 hb5
          rcases hpost with ⟨v5, rfl, hv5⟩ | ⟨h8, rfl⟩
          · have hv6 := owns_mono hv5 (show w.heap.size ≤ wc.heap.size from B1.size)
            rw [← S1.out] at hv6
            have hf := owns_form hv6
            obtain ⟨a6, c6, rfl, _, _⟩ := hf
            have HV := hidp hv6
            clear hv5 hv6 PU OW OW2 hb5
            go_wp2_with fail
            go_roundg (N - (k + 1))
            case measure => omega
            case rel => exact ⟨k + 1, _, c6, a6, by omega, by omega, by go_num, rfl, hidp ⟨by rw [S1.out], HV.out⟩, B5⟩
          · have HV := hidp (owns_belowR OW2.out hb5)
            have E1 := hidp (S1.out.trans h8)
            have HM := hidp OW.out.1
            clear PU OW OW2 hb5 h8
            go_wp2_with fail
            go_roundg (N - (k + 1))
            case measure => omega
            case rel => exact ⟨k + 1, m, c', a', by omega, by omega, by go_num, rfl, hidp ⟨by rw [E1.out]; exact HM.out, by rw [E1.out]; exact HV.out⟩, B5⟩
    · obtain rfl : k = N := by omega
      have OW2 := OW.out
      rw [← RD.out] at OW2
      obtain ⟨hm, hO⟩ := OW2
      have HO := hidp hO
      have HM := hidp hm
      clear hm hO OW
      go_wp2_with fail
      go_ret2
      exact ⟨_, rfl, by rw [← HM.out]; exact HO.out, hbl⟩
end Go.Proofs.Ytmlkhiffmkkmdaa
