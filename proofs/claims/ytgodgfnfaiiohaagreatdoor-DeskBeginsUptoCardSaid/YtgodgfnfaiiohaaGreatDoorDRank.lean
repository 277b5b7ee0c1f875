/- Contracts of digit.Check and digit.Rank. -/
import Derived.Test.YtgodgfnfaiiohaaGreatDoorMgPermMath
import Derived.Test.YtgodgfnfaiiohaaGreatDoorKit
import Derived.Deep.LoopGhost
namespace Go.Proofs.YtgodgfnfaiiohaaGreatDoor
open Go.ChangeShapes Go.WideShapes Go.ChangeAt Go.RowKit
set_option maxRecDepth 20000

set_option maxHeartbeats 4000000 in
theorem dcheck_c (a : Option Addr) (n c : Nat) (xs : List Int) (w : World) (h : IntsAt w a n c xs) :
    Calls Tryz.prog 85 #[.slice a n c] w fun e w' => ∃ E : Int, e = .returned (.int .i64 E) ∧ Hid (0 ≤ E ∧ E ≤ 5 ∧ (E = 0 ↔ PermOk xs n)) ∧ Below w.heap.size w w' := by
  obtain ⟨ib, hib, hz0, hz1, hz2⟩ := info_parts info_bool
  obtain ⟨b, o, hz, hx⟩ := h.split
  have hz' : Hid (n = 0) ∨ a = some ⟨b, o, none⟩ := hz.imp_left hidp
  have HX := hidp hx
  have mm := h.max
  have ee := h.le
  clear hx hz h
  by_cases h12 : 12 < n
  · have F := hidp (show ¬ PermOk xs n from fun h => by have := h.1; omega)
    go_enter Tryz.func85, Tryz.ntmps85
    go_wp2_with fail
    go_ret
    exact ⟨2, rfl, ⟨by omega, by omega, fun h => by omega, fun h => absurd h F.out⟩, Below.refl _ _⟩
  · have hn : n ≤ 12 := by omega
    go_enter Tryz.func85, Tryz.ntmps85
    go_wp2_with (at_make; refine wpList_make_full w rfl _ _ 155 rfl w.heap.size 4 ib (.bool false) 1 Tryz.underlying155 hib hz0 hz1 .i64 .i64 n n n rfl rfl rfl rfl (by rw [hz2]; omega) (by unfold maxLen; omega) (Nat.le_refl _) ?_; intro wb how hgr)
    have hbb : Below w.heap.size w wb := below_new hgr
    have e0 : (madeCells (Value.bool false).cells (n * 1)).toList = tab (fun v => Value.bool (seenF xs 0 v)) n := by
      show (madeCells #[Value.bool false] (n * 1)).toList = _
      rw [made_tab]; rfl
    rw [e0] at how
    have hgl : w.heap.size < wb.heap.size := (how.lt w.heap.size rfl).2
    clear e0 hgr
    generalize hgg : w.heap.size = g at *
    have HG := hidp hgg
    have HXB := hidp (fun (wr : World) (hb : Below g w wr) k (hk : k < n) => show wr.cell? ⟨b, o + k, none⟩ = some (.int .i64 (gi xs k)) from carry_cell ⟨by rw [hgg]; exact (HX.out k hk).1, (HX.out k hk).2⟩ (by rw [hgg]; exact hb))
    clear hgg
    go_loopw [14] (fun i wr => ∃ k : Nat, k ≤ n ∧ i = .int .i64 k ∧ Hid (∀ i, i < k → 0 ≤ gi xs i ∧ gi xs i < n ∧ ∀ j, j < i → gi xs j ≠ gi xs i) ∧ wr.ownsRow g 4 1 (.slice (some ⟨g, 0, none⟩) n n) n (tab (fun v => Value.bool (seenF xs k v)) n) ∧ Below g w wr ∧ g < wr.heap.size) (fun i _ => n - (intOf i).toNat)
    case atStart => exact ⟨0, by omega, rfl, fun i hi => by omega, how, hbb, hgl⟩
    case round =>
      obtain ⟨k, hk, rfl, hok, ho, hbl, hgw⟩ := hrel
      by_cases hlt : k < n
      · obtain rfl : a = some ⟨b, o, none⟩ := hz'.resolve_left (fun e => by have := e.out; omega)
        have q := HXB.out wr hbl k hlt
        by_cases h1 : 0 ≤ gi xs k
        · by_cases h2 : gi xs k < n
          · obtain ⟨v, hv⟩ := Int.eq_ofNat_of_zero_le h1
            have hvn : v < n := by omega
            have q2 := ho.cellAt v (by omega)
            rw [tab_get _ _ _ hvn] at q2
            have q3 := ho.frozenAt v
            have HV := hidp hv
            rw [hv] at q
            clear h1 h2 hv
            cases hs : seenF xs k v with
            | true =>
              have F := hidp (show ¬ PermOk xs n from fun h => by
                obtain ⟨j, hj, he⟩ := (seenF_iff xs v k).1 hs
                exact (h.2 k hlt).2.2 j hj (by rw [he, HV.out] <;> rfl))
              rw [hs] at q2
              clear hs
              go_wp2_with fail
              go_ret
              rw [HG.out]
              exact ⟨5, rfl, ⟨by omega, by omega, fun h => by omega, fun h => absurd h F.out⟩, hbl⟩
            | false =>
              have S := hidp (show ∀ i, i < k + 1 → 0 ≤ gi xs i ∧ gi xs i < n ∧ ∀ j, j < i → gi xs j ≠ gi xs i from fun i hi => by
                by_cases e : i = k
                · subst e
                  have := HV.out
                  refine ⟨by omega, by omega, fun j hj hje => ?_⟩
                  have : seenF xs i v = true := (seenF_iff xs v i).2 ⟨j, hj, by rw [hje, HV.out] <;> rfl⟩
                  rw [hs] at this
                  cases this
                · exact hok.out i (by omega))
              rw [hs] at q2
              clear hs
              go_wp2_with fail
              go_roundw
              case rel =>
                refine ⟨k + 1, by omega, by go_num, S, ?_, hbl.setCell (p := ⟨g, v, none⟩) (Nat.le_refl _) _, by simpa using hgw⟩
                rw [tab_congr _ (fun u => if u = v then Value.bool true else Value.bool (seenF xs k u)) n (fun u _ => by
                  have hvv := HV.out
                  simp only [seenF]
                  by_cases e : u = v
                  · rw [if_pos e, decide_eq_true (by rw [hvv, e] <;> rfl)]; simp
                  · rw [if_neg e, decide_eq_false (by rw [hvv]; intro e2; exact e (by omega))]; simp)]
                exact own_store_tab ho v (.bool true)
              case measure => simp [intOf]; omega
          · have F := hidp (show ¬ PermOk xs n from fun h => h2 (h.2 k hlt).2.1)
            have h2' : (n : Int) ≤ gi xs k := by omega
            clear h2
            go_wp2_with fail
            go_ret
            rw [HG.out]
            exact ⟨1, rfl, ⟨by omega, by omega, fun h => by omega, fun h => absurd h F.out⟩, hbl⟩
        · have F := hidp (show ¬ PermOk xs n from fun h => h1 (h.2 k hlt).1)
          have h1' : gi xs k < 0 := by omega
          clear h1
          go_wp2_with fail
          go_ret
          rw [HG.out]
          exact ⟨1, rfl, ⟨by omega, by omega, fun h => by omega, fun h => absurd h F.out⟩, hbl⟩
      · obtain rfl : k = n := by omega
        go_wp2
        go_ret
        rw [HG.out]
        exact ⟨0, rfl, ⟨by omega, by omega, fun _ => ⟨hn, hok.out⟩, fun _ => rfl⟩, hbl⟩
set_option maxHeartbeats 4000000 in
theorem drank_ok (a : Option Addr) (n c : Nat) (xs : List Int) (w : World) (h : IntsAt w a n c xs) (hok : PermOk xs n) :
    Calls Tryz.prog 36 #[.slice a n c] w fun e w' => e = .returned (.tuple #[.int .i64 (rkD xs n n : Nat), .int .i64 0]) ∧ Below w.heap.size w w' := by
  have CC := hidp (dcheck_c a n c xs w h)
  obtain ⟨b, o, hz, hx⟩ := h.split
  have hz' : Hid (n = 0) ∨ a = some ⟨b, o, none⟩ := hz.imp_left hidp
  have HX := hidp hx
  have mm := h.max
  have ee := h.le
  have hn := hok.1
  have OK := hidp hok
  have BD := hidp (rkD_le xs n hn)
  clear hx hz h hok
  go_enter Tryz.func36, Tryz.ntmps36
  go_wp2_with fail
  refine CC.out.mono ?_
  rintro e wa ⟨E, rfl, hE, hba⟩
  obtain rfl : E = 0 := hE.out.2.2.2 OK.out
  clear CC hE OK
  go_wp2_with fail
  go_loopg [5, 18] n (fun gg s i wr => ∃ k : Nat, k ≤ n ∧ n - k ≤ gg ∧ i = .int .i64 k ∧ s = .int .i64 (rkD xs n k : Nat) ∧ Below w.heap.size w wr)
  case atStart => exact ⟨0, by omega, by omega, rfl, rfl, hba⟩
  case round =>
    obtain ⟨k, hk, hgg, rfl, rfl, hbl⟩ := hrel
    by_cases hlt : k < n
    · obtain rfl : a = some ⟨b, o, none⟩ := hz'.resolve_left (fun e => by have := e.out; omega)
      have q := carry_cell (HX.out k hlt) hbl
      have S := hidp (show rkD xs n (k + 1) = rkD xs n k * (n - k) + lessM xs k (n - 1 - k) from rfl)
      have B1 := BD.out k (by omega)
      have B2 := BD.out (k + 1) (by omega)
      rw [S.out] at B2
      obtain ⟨D, hD⟩ : ∃ D, D = n - k := ⟨_, rfl⟩
      have hDE : (n : Int) - (k : Int) = (D : Int) := by omega
      have hDm : n - 1 - k = D - 1 := by omega
      rw [← hD, hDm] at S B2
      have LB := hidp (lessM_le xs k)
      have HD := hidp hD
      have hD1 : 1 ≤ D ∧ D ≤ 12 := by omega
      obtain ⟨hD1, hD2⟩ := hD1
      generalize hR : rkD xs n k = R at *
      clear hR hD hDm
      obtain ⟨P, hP⟩ : ∃ P, P = R * D := ⟨_, rfl⟩
      have hPE : (R : Int) * (D : Int) = (P : Int) := by rw [hP, Int.natCast_mul]
      rw [← hP] at S B2
      clear hP
      by_cases hc : D = 1
      · obtain rfl : n = k + 1 := by have := HD.out; omega
        have L0 := hidp (show lessM xs k (D - 1) = 0 by rw [hc]; rfl)
        rw [L0.out] at S B2
        clear hc
        by_cases hcc : c = k + 1
        · subst hcc
          go_wp2_with fail
          refine wp_loop_rounds 1 ?_; rw [rounds_succ]
          go_wp2_with fail
          go_roundg (k + 1 - (k + 1))
          case measure => omega
          case rel => exact ⟨k + 1, by omega, by omega, by go_num, v_int (by rw [S.out, show (k : Int) + 1 - (k : Int) = (D : Int) by have := HD.out; omega, hPE]; omega), hbl⟩
        · go_wp2_with fail
          refine wp_loop_rounds 1 ?_; rw [rounds_succ]
          go_wp2_with fail
          go_roundg (k + 1 - (k + 1))
          case measure => omega
          case rel => exact ⟨k + 1, by omega, by omega, by go_num, v_int (by rw [S.out, show (k : Int) + 1 - (k : Int) = (D : Int) by have := HD.out; omega, hPE]; omega), hbl⟩
      · have hcne : ¬ c = k + 1 := by have := HD.out; omega
        have hle : k + 1 ≤ n := by omega
        have hDn : (((n - (k + 1) : Nat)) : Int) = ((D - 1 : Nat) : Int) := by have := HD.out; omega
        have HDN := hidp hDn
        clear hDn hc
        go_wp2_with fail
        go_loopg [8, 28] D (fun gg s i wx => ∃ m : Nat, m ≤ D - 1 ∧ D - 1 - m ≤ gg ∧ i = .int .i64 m ∧ s = .int .i64 (lessM xs k m : Nat) ∧ Below w.heap.size w wx)
        case atStart => exact ⟨0, by omega, by omega, rfl, rfl, hbl⟩
        case round =>
          obtain ⟨m, hm, hgm, rfl, rfl, hbx⟩ := hrel
          have l1 := LB.out m
          have l2 := LB.out (D - 1)
          by_cases hlm : m < D - 1
          · have q2 := carry_cell (HX.out (k + 1 + m) (by have := HD.out; omega)) hbx
            have q3 : wr.cell? ⟨b, o + (k + 1) + m, none⟩ = some (.int .i64 (gi xs (k + 1 + m))) := by rw [show o + (k + 1) + m = o + (k + 1 + m) by omega]; exact q2
            have S2 := hidp (show lessM xs k (m + 1) = lessM xs k m + if gi xs (k + 1 + m) < gi xs k then 1 else 0 from rfl)
            have hmn : m < n - (k + 1) := by have := HD.out; omega
            have hmn' : (m : Int) < (n : Int) - ((k : Int) + 1) := by have := HD.out; omega
            by_cases hl : gi xs (k + 1 + m) < gi xs k
            · have E := hidp (show lessM xs k (m + 1) = lessM xs k m + 1 by rw [S2.out, if_pos hl])
              go_wp2_with fail
              go_roundg (D - 1 - (m + 1))
              case measure => omega
              case rel => exact ⟨m + 1, by omega, by omega, by go_num, v_int (by rw [E.out]; omega), hbx⟩
            · have E := hidp (show lessM xs k (m + 1) = lessM xs k m by rw [S2.out, if_neg hl]; rfl)
              have hl' : gi xs k ≤ gi xs (k + 1 + m) := by omega
              clear hl
              go_wp2_with fail
              go_roundg (D - 1 - (m + 1))
              case measure => omega
              case rel => exact ⟨m + 1, by omega, by omega, by go_num, v_int (by rw [E.out]), hbx⟩
          · have hme : m = D - 1 := by omega
            have hmn : ¬ m < n - (k + 1) := by have := HD.out; omega
            have hmn' : ¬ (m : Int) < (n : Int) - ((k : Int) + 1) := by have := HD.out; omega
            have HME := hidp hme
            have B3 : P + lessM xs k m ≤ 100000000000000 := by rw [hme]; exact B2
            clear hme
            go_wp2_with fail
            go_roundg (n - (k + 1))
            case measure => omega
            case rel => exact ⟨k + 1, by omega, by omega, by go_num, v_int (by rw [S.out, HME.out]; omega), hbx⟩
    · obtain rfl : k = n := by omega
      go_wp2_with fail
      go_ret2
      exact ⟨rfl, hbl⟩
end Go.Proofs.YtgodgfnfaiiohaaGreatDoor
