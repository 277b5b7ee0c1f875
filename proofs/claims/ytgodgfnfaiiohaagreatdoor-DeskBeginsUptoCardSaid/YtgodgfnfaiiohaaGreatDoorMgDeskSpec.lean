/- Merged: RankMath, Rank, DeskOpA, Est, EstAny, BotFill, BotJoin, BotAny, MixMath, Mix, MixOf, MixTextW, FewMore, DeskOne, Many, DeskSpec. -/
import Derived.Test.YtgodgfnfaiiohaaGreatDoorSomeMath
import Derived.Test.YtgodgfnfaiiohaaGreatDoorMgSome
import Derived.Test.YtgodgfnfaiiohaaGreatDoorKit
import Derived.Test.YtgodgfnfaiiohaaGreatDoorMgNumAny
import Derived.Test.YtgodgfnfaiiohaaGreatDoorDRank
import Derived.Test.YtgodgfnfaiiohaaGreatDoorLev
import Derived.Test.YtgodgfnfaiiohaaGreatDoorMem
import Derived.Deep.QuietTactic
import Derived.BigQuiet
import Derived.WalkSmall
import Derived.Test.YtgodgfnfaiiohaaGreatDoorBase
import Derived.Test.YtgodgfnfaiiohaaGreatDoorMgBottom
import Derived.Test.YtgodgfnfaiiohaaGreatDoorEqI
import Derived.Test.YtgodgfnfaiiohaaGreatDoorTake
import Derived.Test.YtgodgfnfaiiohaaGreatDoorMgFewPutC
import Derived.Test.YtgodgfnfaiiohaaGreatDoorMgDeskWords
import Derived.Test.YtgodgfnfaiiohaaGreatDoorMgDiv
import Derived.Test.YtgodgfnfaiiohaaGreatDoorShelf
import Derived.Test.YtgodgfnfaiiohaaGreatDoorDeskList
import Derived.Test.YtgodgfnfaiiohaaGreatDoorMgDeskOpC
import Derived.Test.YtgodgfnfaiiohaaGreatDoorDeskOpD
import Derived.Test.YtgodgfnfaiiohaaGreatDoorMark
import Derived.Test.YtgodgfnfaiiohaaGreatDoorMgSet
import Derived.Test.YtgodgfnfaiiohaaGreatDoorEven
import Derived.Test.YtgodgfnfaiiohaaGreatDoorMgBoardPut
/- Ranks of rows of numbers, and the rows of ranks (plain Lean). -/
namespace Go.Proofs.YtgodgfnfaiiohaaGreatDoor.CombMath

/-- The rank of the first k. -/
def rs (c : Nat → Nat) : Nat → Nat
  | 0 => 0
  | k + 1 => rs c k + wz (c k) (k + 1)
/-- Place p of the row of a rank. -/
def sf (k r p : Nat) : Nat := top (p + 1) (rk k r (k - 1 - p))
theorem rs_bd (c : Nat → Nat) : ∀ n, (∀ i, i < n → c i ≤ 30) → rs c n ≤ 155117520 * n
  | 0, _ => by simp [rs]
  | n + 1, h => by
    have a := rs_bd c n (fun i hi => h i (by omega))
    have b := wz_le (c n) (n + 1) (h n (by omega))
    simp only [rs]; omega
end Go.Proofs.YtgodgfnfaiiohaaGreatDoor.CombMath

/- Contracts of comb.Check and comb.Rank at every list. -/
namespace Go.Proofs.YtgodgfnfaiiohaaGreatDoor
open Go.ChangeShapes Go.WideShapes Go.ChangeAt Go.RowKit
set_option maxRecDepth 20000
open CombMath

/-- May it be such a row? -/
def CombOk (xs : List Int) (n : Nat) : Prop := n ≤ 30 ∧ ∀ i, i < n → 0 ≤ gi xs i ∧ gi xs i < 30 ∧ (0 < i → gi xs (i - 1) < gi xs i)
def cN (xs : List Int) (i : Nat) : Nat := (gi xs i).toNat
set_option maxHeartbeats 2000000 in
theorem ccheck_c (a : Option Addr) (n c : Nat) (xs : List Int) (w : World) (h : IntsAt w a n c xs) :
    Calls Tryz.prog 86 #[.slice a n c] w fun e w' => ∃ E : Int, e = .returned (.int .i64 E) ∧ Hid (0 ≤ E ∧ E ≤ 3 ∧ (E = 0 ↔ CombOk xs n)) ∧ Below w.heap.size w w' := by
  obtain ⟨b, o, hz, hx⟩ := h.split
  have hz' : Hid (n = 0) ∨ a = some ⟨b, o, none⟩ := hz.imp_left hidp
  have HX := hidp hx
  have mm := h.max
  have ee := h.le
  clear hx hz h
  by_cases h30 : 30 < n
  · have F := hidp (show ¬ CombOk xs n from fun h => by have := h.1; omega)
    go_enter Tryz.func86, Tryz.ntmps86
    go_wp2_with fail
    go_ret
    exact ⟨2, rfl, ⟨by omega, by omega, fun h => by omega, fun h => absurd h F.out⟩, Below.refl _ _⟩
  · have hn : n ≤ 30 := by omega
    go_enter Tryz.func86, Tryz.ntmps86
    go_wp2_with fail
    go_loopw [10] (fun i wr => ∃ k : Nat, k ≤ n ∧ i = .int .i64 k ∧ Hid (∀ i, i < k → 0 ≤ gi xs i ∧ gi xs i < 30 ∧ (0 < i → gi xs (i - 1) < gi xs i)) ∧ Below w.heap.size w wr) (fun i _ => n - (intOf i).toNat)
    case atStart => exact ⟨0, by omega, rfl, fun i hi => by omega, Below.refl _ _⟩
    case round =>
      obtain ⟨k, hk, rfl, hok, hbl⟩ := hrel
      by_cases hlt : k < n
      · obtain rfl : a = some ⟨b, o, none⟩ := hz'.resolve_left (fun e => by have := e.out; omega)
        have q := carry_cell (HX.out k hlt) hbl
        have STEP := hidp (fun (h1 : 0 ≤ gi xs k) (h2 : gi xs k < 30) (h3 : 0 < k → gi xs (k - 1) < gi xs k) => show ∀ i, i < k + 1 → 0 ≤ gi xs i ∧ gi xs i < 30 ∧ (0 < i → gi xs (i - 1) < gi xs i) from fun i hi => by
          by_cases e : i = k
          · subst e; exact ⟨h1, h2, h3⟩
          · exact hok.out i (by omega))
        by_cases h1 : 0 ≤ gi xs k
        · by_cases h2 : gi xs k < 30
          · by_cases hk0 : 0 < k
            · have q' := carry_cell (HX.out (k - 1) (by omega)) hbl
              have hk0' : (0 : Int) < (k : Int) := by omega
              have hkm : ((k : Int) - 1).toNat = k - 1 := by omega
              by_cases h3 : gi xs (k - 1) < gi xs k
              · have S := hidp (STEP.out h1 h2 (fun _ => h3))
                go_wp2_with fail
                go_roundw
                case rel => exact ⟨k + 1, by omega, by go_num, S, hbl⟩
                case measure => simp [intOf]; omega
              · have F := hidp (show ¬ CombOk xs n from fun h => h3 ((h.2 k hlt).2.2 hk0))
                have h3' : gi xs k ≤ gi xs (k - 1) := by omega
                clear h3
                go_wp2_with fail
                go_ret
                exact ⟨3, rfl, ⟨by omega, by omega, fun h => by omega, fun h => absurd h F.out⟩, hbl⟩
            · obtain rfl : k = 0 := by omega
              have S := hidp (STEP.out h1 h2 (fun h => by omega))
              have q0 : wr.cell? ⟨b, o, none⟩ = some (.int .i64 (gi xs 0)) := q
              go_wp2_with fail
              go_roundw
              case rel => exact ⟨1, by omega, by go_num, S, hbl⟩
              case measure => simp [intOf]; omega
          · have F := hidp (show ¬ CombOk xs n from fun h => h2 (h.2 k hlt).2.1)
            have h2' : 30 ≤ gi xs k := by omega
            clear h2
            go_wp2_with fail
            go_ret
            exact ⟨1, rfl, ⟨by omega, by omega, fun h => by omega, fun h => absurd h F.out⟩, hbl⟩
        · have F := hidp (show ¬ CombOk xs n from fun h => h1 (h.2 k hlt).1)
          have h1' : gi xs k < 0 := by omega
          clear h1
          go_wp2_with fail
          go_ret
          exact ⟨1, rfl, ⟨by omega, by omega, fun h => by omega, fun h => absurd h F.out⟩, hbl⟩
      · obtain rfl : k = n := by omega
        go_wp2
        go_ret
        exact ⟨0, rfl, ⟨by omega, by omega, fun _ => ⟨hn, hok.out⟩, fun _ => rfl⟩, hbl⟩
set_option maxHeartbeats 2000000 in
theorem rank_ok (a : Option Addr) (n c : Nat) (xs : List Int) (w : World) (h : IntsAt w a n c xs) (hok : CombOk xs n) :
    Calls Tryz.prog 38 #[.slice a n c] w fun e w' => e = .returned (.tuple #[.int .i64 (rs (cN xs) n : Nat), .int .i64 0]) ∧ Below w.heap.size w w' := by
  have CC := hidp (ccheck_c a n c xs w h)
  obtain ⟨b, o, hz, hx⟩ := h.split
  have hz' : Hid (n = 0) ∨ a = some ⟨b, o, none⟩ := hz.imp_left hidp
  have HX := hidp hx
  have mm := h.max
  have ee := h.le
  have hn := hok.1
  have OK := hidp hok
  have BD := hidp (fun k (hk : k ≤ n) => rs_bd (cN xs) k (fun i hi => by have := hok.2 i (by omega); unfold cN; omega))
  clear hx hz h hok
  go_enter Tryz.func38, Tryz.ntmps38
  go_wp2_with fail
  refine CC.out.mono ?_
  rintro e wa ⟨E, rfl, hE, hba⟩
  obtain rfl : E = 0 := hE.out.2.2.2 OK.out
  go_wp2_with fail
  go_loopw [5, 15] (fun s i wr => ∃ k : Nat, k ≤ n ∧ i = .int .i64 k ∧ s = .int .i64 (rs (cN xs) k : Nat) ∧ Below w.heap.size w wr) (fun _ i _ => n - (intOf i).toNat)
  case atStart => exact ⟨0, by omega, rfl, rfl, hba⟩
  case round =>
    obtain ⟨k, hk, rfl, rfl, hbl⟩ := hrel
    by_cases hlt : k < n
    · obtain rfl : a = some ⟨b, o, none⟩ := hz'.resolve_left (fun e => by have := e.out; omega)
      have q := carry_cell (HX.out k hlt) hbl
      have hg := OK.out.2 k hlt
      have HN := hidp (show gi xs k = ((cN xs k : Nat) : Int) by unfold cN; omega)
      have HW := hidp (fun W => waysz_i (cN xs k) (k + 1) (gi xs k) ((k : Int) + 1) HN.out (by omega) (by unfold cN; omega) W)
      have S := hidp (show rs (cN xs) (k + 1) = rs (cN xs) k + wz (cN xs k) (k + 1) from rfl)
      have B1 := BD.out k (by omega)
      have B2 := BD.out (k + 1) (by omega)
      rw [S.out] at B2
      clear hg
      generalize gi xs k = y at *
      generalize wz (cN xs k) (k + 1) = z at *
      generalize rs (cN xs) k = R at *
      go_wp2_with (go_at_call 87; refine (HW.out _).mono ?_; rintro e w' ⟨rfl, rfl⟩)
      go_roundw
      case rel => exact ⟨k + 1, by omega, by go_num, v_int (by rw [S.out]; omega), hbl⟩
      case measure => simp [intOf]; omega
    · obtain rfl : k = n := by omega
      go_wp2
      go_ret2
      exact ⟨rfl, hbl⟩
end Go.Proofs.YtgodgfnfaiiohaaGreatDoor

/- digit.Rank and comb.Rank at every list, with their errors. -/
namespace Go.Proofs.YtgodgfnfaiiohaaGreatDoor
open Go.ChangeShapes Go.WideShapes Go.ChangeAt Go.RowKit
set_option maxRecDepth 20000
set_option linter.unusedVariables false
open CombMath
def dkF (xs : List Int) (n k : Nat) : Int := if 0 ≤ gi xs k ∧ gi xs k < (n : Int) then (if seenF xs k (gi xs k).toNat = true then 5 else 0) else 1
def dkE (xs : List Int) (n : Nat) : Int := if 12 < n then 2 else fE (dkF xs n) n
theorem dkF_seen (xs : List Int) (n k v : Nat) (hv : gi xs k = (v : Int)) (hn : v < n) (h : seenF xs k v = true) : dkF xs n k = 5 := by
  unfold dkF
  rw [if_pos ⟨by omega, by omega⟩, show (gi xs k).toNat = v by omega, if_pos h]
theorem dkF_new (xs : List Int) (n k v : Nat) (hv : gi xs k = (v : Int)) (hn : v < n) (h : seenF xs k v = false) : dkF xs n k = 0 := by
  unfold dkF
  rw [if_pos ⟨by omega, by omega⟩, show (gi xs k).toNat = v by omega, if_neg (by rw [h]; decide)]
theorem dkF_out (xs : List Int) (n k : Nat) (h : ¬ (0 ≤ gi xs k ∧ gi xs k < (n : Int))) : dkF xs n k = 1 := by
  unfold dkF
  rw [if_neg h]
theorem dkE_ok (xs : List Int) (n : Nat) (h : dkE xs n = 0) : PermOk xs n := by
  unfold dkE at h
  by_cases h12 : 12 < n
  · rw [if_pos h12] at h; omega
  · rw [if_neg h12] at h
    refine ⟨by omega, fun i hi => ?_⟩
    have e := fE_zero _ n h i hi
    unfold dkF at e
    by_cases hb : 0 ≤ gi xs i ∧ gi xs i < (n : Int)
    · rw [if_pos hb] at e
      by_cases hs : seenF xs i (gi xs i).toNat = true
      · rw [if_pos hs] at e; omega
      · refine ⟨hb.1, hb.2, fun j hj he => hs ((seenF_iff xs _ i).2 ⟨j, hj, by rw [he]; omega⟩)⟩
    · rw [if_neg hb] at e; omega
set_option maxHeartbeats 4000000 in
theorem dcheck_e (a : Option Addr) (n c : Nat) (xs : List Int) (w : World) (h : IntsAt w a n c xs) :
    Calls Tryz.prog 85 #[.slice a n c] w fun e w' => ∃ E : Int, e = .returned (.int .i64 E) ∧ Hid (E = dkE xs n) ∧ Below w.heap.size w w' := by
  obtain ⟨ib, hib, hz0, hz1, hz2⟩ := info_parts info_bool
  obtain ⟨b, o, hz, hx⟩ := h.split
  have hz' : Hid (n = 0) ∨ a = some ⟨b, o, none⟩ := hz.imp_left hidp
  have HX := hidp hx
  have mm := h.max
  have ee := h.le
  clear hx hz h
  by_cases h12 : 12 < n
  · have F := hidp (show 2 = dkE xs n by unfold dkE; rw [if_pos h12])
    go_enter Tryz.func85, Tryz.ntmps85
    go_wp2_with fail
    go_ret
    exact ⟨2, rfl, F, Below.refl _ _⟩
  · have hn : n ≤ 12 := by omega
    have DE := hidp (show dkE xs n = fE (dkF xs n) n by unfold dkE; rw [if_neg h12])
    go_enter Tryz.func85, Tryz.ntmps85
    go_wp2_with (at_make; refine wpList_make_full w rfl _ _ 155 rfl w.heap.size 4 ib (.bool false) 1 Tryz.underlying155 hib hz0 hz1 .i64 .i64 n n n rfl rfl rfl rfl (by rw [hz2]; omega) (by unfold maxLen; omega) (Nat.le_refl _) ?_; intro wb how hgr)
    have hbb : Below w.heap.size w wb := below_new hgr
    have e0 : (madeCells (Value.bool false).cells (n * 1)).toList = tab (fun v => Value.bool (seenF xs 0 v)) n := by
      show (madeCells #[Value.bool false] (n * 1)).toList = _
      rw [made_tab]; rfl
    rw [e0] at how
    have hgl : w.heap.size < wb.heap.size := (how.lt w.heap.size rfl).2
    clear e0 hgr
    generalize hgg : w.heap.size = g at *
    have HG := hidp hgg
    have HXB := hidp (fun (wr : World) (hb : Below g w wr) k (hk : k < n) => show wr.cell? ⟨b, o + k, none⟩ = some (.int .i64 (gi xs k)) from carry_cell ⟨by rw [hgg]; exact (HX.out k hk).1, (HX.out k hk).2⟩ (by rw [hgg]; exact hb))
    clear hgg
    go_loopw [14] (fun i wr => ∃ k : Nat, k ≤ n ∧ i = .int .i64 k ∧ Hid (fE (dkF xs n) k = 0) ∧ wr.ownsRow g 4 1 (.slice (some ⟨g, 0, none⟩) n n) n (tab (fun v => Value.bool (seenF xs k v)) n) ∧ Below g w wr ∧ g < wr.heap.size) (fun i _ => n - (intOf i).toNat)
    case atStart => exact ⟨0, by omega, rfl, rfl, how, hbb, hgl⟩
    case round =>
      obtain ⟨k, hk, rfl, hok, ho, hbl, hgw⟩ := hrel
      by_cases hlt : k < n
      · obtain rfl : a = some ⟨b, o, none⟩ := hz'.resolve_left (fun e => by have := e.out; omega)
        have q := HXB.out wr hbl k hlt
        by_cases h1 : 0 ≤ gi xs k
        · by_cases h2 : gi xs k < n
          · obtain ⟨v, hv⟩ := Int.eq_ofNat_of_zero_le h1
            have hvn : v < n := by omega
            have q2 := ho.cellAt v (by omega)
            rw [tab_get _ _ _ hvn] at q2
            have q3 := ho.frozenAt v
            have HV := hidp hv
            rw [hv] at q
            clear h1 h2 hv
            cases hs : seenF xs k v with
            | true =>
              have F := hidp (show 5 = dkE xs n by rw [DE.out, fE_at _ k n hok.out (by rw [dkF_seen xs n k v HV.out hvn hs]; decide) hlt, dkF_seen xs n k v HV.out hvn hs])
              rw [hs] at q2
              clear hs
              go_wp2_with fail
              go_ret
              rw [HG.out]
              exact ⟨5, rfl, F, hbl⟩
            | false =>
              have S := hidp (fE_next _ k hok.out (dkF_new xs n k v HV.out hvn hs))
              rw [hs] at q2
              clear hs
              go_wp2_with fail
              go_roundw
              case rel =>
                refine ⟨k + 1, by omega, by go_num, S, ?_, hbl.setCell (p := ⟨g, v, none⟩) (Nat.le_refl _) _, by simpa using hgw⟩
                rw [tab_congr _ (fun u => if u = v then Value.bool true else Value.bool (seenF xs k u)) n (fun u _ => by
                  have hvv := HV.out
                  simp only [seenF]
                  by_cases e : u = v
                  · rw [if_pos e, decide_eq_true (by rw [hvv, e] <;> rfl)]; simp
                  · rw [if_neg e, decide_eq_false (by rw [hvv]; intro e2; exact e (by omega))]; simp)]
                exact own_store_tab ho v (.bool true)
              case measure => simp [intOf]; omega
          · have F := hidp (show 1 = dkE xs n by rw [DE.out, fE_at _ k n hok.out (by rw [dkF_out xs n k (fun h => h2 h.2)]; decide) hlt, dkF_out xs n k (fun h => h2 h.2)])
            have h2' : (n : Int) ≤ gi xs k := by omega
            clear h2
            go_wp2_with fail
            go_ret
            rw [HG.out]
            exact ⟨1, rfl, F, hbl⟩
        · have F := hidp (show 1 = dkE xs n by rw [DE.out, fE_at _ k n hok.out (by rw [dkF_out xs n k (fun h => h1 h.1)]; decide) hlt, dkF_out xs n k (fun h => h1 h.1)])
          have h1' : gi xs k < 0 := by omega
          clear h1
          go_wp2_with fail
          go_ret
          rw [HG.out]
          exact ⟨1, rfl, F, hbl⟩
      · obtain rfl : k = n := by omega
        go_wp2
        go_ret
        rw [HG.out]
        exact ⟨0, rfl, hidp (by rw [DE.out, hok.out]), hbl⟩
set_option maxHeartbeats 2000000 in
theorem drank_x (a : Option Addr) (n c : Nat) (xs : List Int) (w : World) (h : IntsAt w a n c xs) :
    Calls Tryz.prog 36 #[.slice a n c] w fun e w' => ∃ V, e = .returned (.tuple #[.int .i64 V, .int .i64 (dkE xs n)]) ∧ Hid (V = if dkE xs n = 0 then (rkD xs n n : Nat) else 0) ∧ Below w.heap.size w w' := by
  by_cases hE : dkE xs n = 0
  · refine (drank_ok a n c xs w h (dkE_ok xs n hE)).mono ?_
    rintro e w' ⟨rfl, hb⟩
    exact ⟨_, by rw [hE], hidp (by rw [if_pos hE]), hb⟩
  · have CC := hidp (dcheck_e a n c xs w h)
    have HE := hidp hE
    clear hE h
    generalize dkE xs n = D at *
    have hne : (D != 0) = true := by rw [bne_iff_ne]; exact HE.out
    go_enter Tryz.func36, Tryz.ntmps36
    go_wp2_with fail
    refine CC.out.mono ?_
    rintro e wa ⟨E, rfl, hE, hba⟩
    obtain rfl := hE.out
    go_wp2_with fail
    go_ret2
    exact ⟨0, rfl, hidp rfl, hba⟩
def ckF (xs : List Int) (k : Nat) : Int := if 0 ≤ gi xs k ∧ gi xs k < 30 then (if 0 < k ∧ ¬ gi xs (k - 1) < gi xs k then 3 else 0) else 1
def ckE (xs : List Int) (n : Nat) : Int := if 30 < n then 2 else fE (ckF xs) n
theorem ckF_out (xs : List Int) (k : Nat) (h : ¬ (0 ≤ gi xs k ∧ gi xs k < 30)) : ckF xs k = 1 := by unfold ckF; rw [if_neg h]
theorem ckF_form (xs : List Int) (k : Nat) (h : 0 ≤ gi xs k ∧ gi xs k < 30) (h0 : 0 < k) (h3 : ¬ gi xs (k - 1) < gi xs k) : ckF xs k = 3 := by unfold ckF; rw [if_pos h, if_pos ⟨h0, h3⟩]
theorem ckF_ok (xs : List Int) (k : Nat) (h : 0 ≤ gi xs k ∧ gi xs k < 30) (h3 : 0 < k → gi xs (k - 1) < gi xs k) : ckF xs k = 0 := by unfold ckF; rw [if_pos h, if_neg (fun e => e.2 (h3 e.1))]
theorem ckE_ok (xs : List Int) (n : Nat) (h : ckE xs n = 0) : CombOk xs n := by
  unfold ckE at h
  by_cases h30 : 30 < n
  · rw [if_pos h30] at h; omega
  · rw [if_neg h30] at h
    refine ⟨by omega, fun i hi => ?_⟩
    have e := fE_zero _ n h i hi
    unfold ckF at e
    by_cases hb : 0 ≤ gi xs i ∧ gi xs i < 30
    · rw [if_pos hb] at e
      by_cases hs : 0 < i ∧ ¬ gi xs (i - 1) < gi xs i
      · rw [if_pos hs] at e; omega
      · exact ⟨hb.1, hb.2, fun h0 => Classical.byContradiction fun hh => hs ⟨h0, hh⟩⟩
    · rw [if_neg hb] at e; omega
set_option maxHeartbeats 2000000 in
theorem ccheck_e (a : Option Addr) (n c : Nat) (xs : List Int) (w : World) (h : IntsAt w a n c xs) :
    Calls Tryz.prog 86 #[.slice a n c] w fun e w' => ∃ E : Int, e = .returned (.int .i64 E) ∧ Hid (E = ckE xs n) ∧ Below w.heap.size w w' := by
  obtain ⟨b, o, hz, hx⟩ := h.split
  have hz' : Hid (n = 0) ∨ a = some ⟨b, o, none⟩ := hz.imp_left hidp
  have HX := hidp hx
  have mm := h.max
  have ee := h.le
  clear hx hz h
  by_cases h30 : 30 < n
  · have F := hidp (show 2 = ckE xs n by unfold ckE; rw [if_pos h30])
    go_enter Tryz.func86, Tryz.ntmps86
    go_wp2_with fail
    go_ret
    exact ⟨2, rfl, F, Below.refl _ _⟩
  · have hn : n ≤ 30 := by omega
    have DE := hidp (show ckE xs n = fE (ckF xs) n by unfold ckE; rw [if_neg h30])
    go_enter Tryz.func86, Tryz.ntmps86
    go_wp2_with fail
    go_loopw [10] (fun i wr => ∃ k : Nat, k ≤ n ∧ i = .int .i64 k ∧ Hid (fE (ckF xs) k = 0) ∧ Below w.heap.size w wr) (fun i _ => n - (intOf i).toNat)
    case atStart => exact ⟨0, by omega, rfl, rfl, Below.refl _ _⟩
    case round =>
      obtain ⟨k, hk, rfl, hok, hbl⟩ := hrel
      by_cases hlt : k < n
      · obtain rfl : a = some ⟨b, o, none⟩ := hz'.resolve_left (fun e => by have := e.out; omega)
        have q := carry_cell (HX.out k hlt) hbl
        have STEP := hidp (fun (h1 : 0 ≤ gi xs k) (h2 : gi xs k < 30) (h3 : 0 < k → gi xs (k - 1) < gi xs k) => fE_next (ckF xs) k hok.out (ckF_ok xs k ⟨h1, h2⟩ h3))
        by_cases h1 : 0 ≤ gi xs k
        · by_cases h2 : gi xs k < 30
          · by_cases hk0 : 0 < k
            · have q' := carry_cell (HX.out (k - 1) (by omega)) hbl
              have hk0' : (0 : Int) < (k : Int) := by omega
              have hkm : ((k : Int) - 1).toNat = k - 1 := by omega
              by_cases h3 : gi xs (k - 1) < gi xs k
              · have S := hidp (STEP.out h1 h2 (fun _ => h3))
                go_wp2_with fail
                go_roundw
                case rel => exact ⟨k + 1, by omega, by go_num, S, hbl⟩
                case measure => simp [intOf]; omega
              · have F := hidp (show 3 = ckE xs n by rw [DE.out, fE_at _ k n hok.out (by rw [ckF_form xs k ⟨h1, h2⟩ hk0 h3]; decide) hlt, ckF_form xs k ⟨h1, h2⟩ hk0 h3])
                have h3' : gi xs k ≤ gi xs (k - 1) := by omega
                clear h3
                go_wp2_with fail
                go_ret
                exact ⟨3, rfl, F, hbl⟩
            · obtain rfl : k = 0 := by omega
              have S := hidp (STEP.out h1 h2 (fun h => by omega))
              have q0 : wr.cell? ⟨b, o, none⟩ = some (.int .i64 (gi xs 0)) := q
              go_wp2_with fail
              go_roundw
              case rel => exact ⟨1, by omega, by go_num, S, hbl⟩
              case measure => simp [intOf]; omega
          · have F := hidp (show 1 = ckE xs n by rw [DE.out, fE_at _ k n hok.out (by rw [ckF_out xs k (fun h => h2 h.2)]; decide) hlt, ckF_out xs k (fun h => h2 h.2)])
            have h2' : 30 ≤ gi xs k := by omega
            clear h2
            go_wp2_with fail
            go_ret
            exact ⟨1, rfl, F, hbl⟩
        · have F := hidp (show 1 = ckE xs n by rw [DE.out, fE_at _ k n hok.out (by rw [ckF_out xs k (fun h => h1 h.1)]; decide) hlt, ckF_out xs k (fun h => h1 h.1)])
          have h1' : gi xs k < 0 := by omega
          clear h1
          go_wp2_with fail
          go_ret
          exact ⟨1, rfl, F, hbl⟩
      · obtain rfl : k = n := by omega
        go_wp2
        go_ret
        exact ⟨0, rfl, hidp (by rw [DE.out, hok.out]), hbl⟩
set_option maxHeartbeats 2000000 in
theorem crank_x (a : Option Addr) (n c : Nat) (xs : List Int) (w : World) (h : IntsAt w a n c xs) :
    Calls Tryz.prog 38 #[.slice a n c] w fun e w' => ∃ V, e = .returned (.tuple #[.int .i64 V, .int .i64 (ckE xs n)]) ∧ Hid (V = if ckE xs n = 0 then (rs (cN xs) n : Nat) else 0) ∧ Below w.heap.size w w' := by
  by_cases hE : ckE xs n = 0
  · refine (rank_ok a n c xs w h (ckE_ok xs n hE)).mono ?_
    rintro e w' ⟨rfl, hb⟩
    exact ⟨_, by rw [hE], hidp (by rw [if_pos hE]), hb⟩
  · have CC := hidp (ccheck_e a n c xs w h)
    have HE := hidp hE
    clear hE h
    generalize ckE xs n = D at *
    have hne : (D != 0) = true := by rw [bne_iff_ne]; exact HE.out
    go_enter Tryz.func38, Tryz.ntmps38
    go_wp2_with fail
    refine CC.out.mono ?_
    rintro e wa ⟨E, rfl, hE, hba⟩
    obtain rfl := hE.out
    go_wp2_with fail
    go_ret2
    exact ⟨0, rfl, hidp rfl, hba⟩
end Go.Proofs.YtgodgfnfaiiohaaGreatDoor

/- Contracts of est.look and est.Sum at lists that fit: what each call returns, and that old memory stays as it is. -/
namespace Go.Proofs.YtgodgfnfaiiohaaGreatDoor
open Go.ChangeShapes Go.WideShapes Go.ChangeAt Go.RowKit
set_option maxRecDepth 20000

theorem two_pow_le (m : Nat) (hm : m ≤ 20) : (2 : Int) ^ m ≤ 1048576 := by
  have this : ((2 ^ m : Nat) : Int) ≤ ((1048576 : Nat) : Int) := Int.ofNat_le.2 (Nat.pow_le_pow_right (show 0 < 2 by omega) hm)
  rw [Int.natCast_pow] at this
  exact this
/-- One term of the estimate. -/
def est1 (v l r : Int) : Int := if lev l.toNat ≤ r then v * 2 ^ l.toNat else 0
theorem est1_bd (B v l r : Int) (hl : 0 ≤ l ∧ l ≤ 20) (hv : -B ≤ v ∧ v ≤ B) : -(B * 1048576) ≤ est1 v l r ∧ est1 v l r ≤ B * 1048576 := by
  unfold est1
  have hB : 0 ≤ B := by omega
  split
  · obtain ⟨m, rfl⟩ := Int.eq_ofNat_of_zero_le hl.1
    have e : ((m : Int)).toNat = m := rfl
    rw [e]
    have hm : m ≤ 20 := by omega
    have h2 : (2 : Int) ^ m ≤ 1048576 := by
      have this : ((2 ^ m : Nat) : Int) ≤ ((1048576 : Nat) : Int) := Int.ofNat_le.2 (Nat.pow_le_pow_right (show 0 < 2 by omega) hm)
      rw [Int.natCast_pow] at this
      exact this
    have h3 : (0 : Int) ≤ 2 ^ m := Int.le_of_lt (Int.pow_pos (by omega))
    have x1 : v * 2 ^ m ≤ B * 2 ^ m := Int.mul_le_mul_of_nonneg_right hv.2 h3
    have x2 : B * 2 ^ m ≤ B * 1048576 := Int.mul_le_mul_of_nonneg_left h2 hB
    have x3 : -B * 2 ^ m ≤ v * 2 ^ m := Int.mul_le_mul_of_nonneg_right hv.1 h3
    rw [Int.neg_mul] at x3
    omega
  · omega
end Go.Proofs.YtgodgfnfaiiohaaGreatDoor

/- est.look and est.Sum exactly, whatever comes; est.Spread returns, whatever comes. -/
namespace Go.Proofs.YtgodgfnfaiiohaaGreatDoor
open Go.ChangeShapes Go.WideShapes Go.ChangeAt Go.RowKit
set_option maxRecDepth 20000
def lkF (vs ls : List Int) (i : Nat) : Int := if gi vs i < -1000000000000 ∨ 1000000000000 < gi vs i ∨ gi ls i < 0 ∨ 20 < gi ls i then 1 else 0
def lkE (vs ls : List Int) (n m : Nat) : Int := if 40 < n ∨ 40 < m then 2 else if n ≠ m then 7 else fE (lkF vs ls) n
theorem lkE_ok (vs ls : List Int) (n m : Nat) (h : lkE vs ls n m = 0) : n = m ∧ n ≤ 40 ∧ ∀ i, i < n → (-1000000000000 ≤ gi vs i ∧ gi vs i ≤ 1000000000000) ∧ 0 ≤ gi ls i ∧ gi ls i ≤ 20 := by
  have e1 : ¬ (40 < n ∨ 40 < m) := fun e => by unfold lkE at h; rw [if_pos e] at h; omega
  have e2 : n = m := by
    by_cases e : n = m
    · exact e
    · unfold lkE at h; rw [if_neg e1, if_pos e] at h; omega
  unfold lkE at h
  rw [if_neg e1, if_neg (fun e => e e2)] at h
  refine ⟨e2, by omega, fun i hi => ?_⟩
  have := fE_zero _ n h i hi
  unfold lkF at this
  by_cases e : gi vs i < -1000000000000 ∨ 1000000000000 < gi vs i ∨ gi ls i < 0 ∨ 20 < gi ls i
  · rw [if_pos e] at this; omega
  · omega
set_option maxHeartbeats 4000000 in
theorem look_e (a0 a1 : Option Addr) (n m c0 c1 : Nat) (vs ls : List Int) (w : World) (h0 : IntsAt w a0 n c0 vs) (h1 : IntsAt w a1 m c1 ls) :
    Calls Tryz.prog 107 #[.slice a0 n c0, .slice a1 m c1] w fun e w' => e = .returned (.int .i64 (lkE vs ls n m)) ∧ w = w' := by
  have m0 := h0.max
  have m1 := h1.max
  have l0 := h0.le
  have l1 := h1.le
  by_cases e1 : 40 < n ∨ 40 < m
  · rw [show lkE vs ls n m = 2 by unfold lkE; rw [if_pos e1]]
    by_cases e2 : (40 : Int) < (n : Int)
    · clear h0 h1 e1
      go_enter Tryz.func107, Tryz.ntmps107
      go_wp2
      go_ret
      exact ⟨rfl, rfl⟩
    · have e3 : (40 : Int) < (m : Int) := by omega
      clear h0 h1 e1
      go_enter Tryz.func107, Tryz.ntmps107
      go_wp2
      go_ret
      exact ⟨rfl, rfl⟩
  have n1 : ¬ (40 : Int) < (n : Int) := by omega
  have n2 : ¬ (40 : Int) < (m : Int) := by omega
  by_cases e4 : n = m
  · subst e4
    have EE := hidp (show lkE vs ls n n = fE (lkF vs ls) n by unfold lkE; rw [if_neg e1, if_neg (fun e => e rfl)])
    clear e1
    rcases Nat.eq_zero_or_pos n with hz | hz
    · subst hz
      have RV := hidp (show lkE vs ls 0 0 = 0 from EE.out)
      clear h0 h1
      go_enter Tryz.func107, Tryz.ntmps107
      go_wp2_with fail
      refine wp_loop_rounds 1 ?_; rw [rounds_succ]
      go_wp2
      go_ret
      exact ⟨by rw [RV.out] <;> rfl, rfl⟩
    · obtain ⟨b0, o0, rfl, hb0, hc0⟩ := h0.addr hz
      obtain ⟨b1, o1, rfl, hb1, hc1⟩ := h1.addr hz
      have C0 := hidp hc0
      have C1 := hidp hc1
      clear hc0 hc1 h0 h1
      go_enter Tryz.func107, Tryz.ntmps107
      go_wp2_with fail
      go_loop [22] (fun i => ∃ k : Nat, k ≤ n ∧ i = .int .i64 k ∧ Hid (fE (lkF vs ls) k = 0)) (fun i => n - (intOf i).toNat)
      case atStart => exact ⟨0, by omega, rfl, rfl⟩
      case round =>
        obtain ⟨k, hk, rfl, FE⟩ := hrel
        by_cases hlt : k < n
        · have q0 := C0.out k hlt
          have q1 := C1.out k hlt
          have NX := hidp (fun h => fE_next (lkF vs ls) k FE.out h)
          have AT := hidp (fun h => fE_at (lkF vs ls) k n FE.out h hlt)
          by_cases d : gi vs k < -1000000000000 ∨ 1000000000000 < gi vs k ∨ gi ls k < 0 ∨ 20 < gi ls k
          · have hv : lkF vs ls k = 1 := by unfold lkF; rw [if_pos d]
            have RV := hidp (show lkE vs ls n n = 1 by rw [EE.out, AT.out (by rw [hv]; omega), hv])
            clear hv
            generalize gi vs k = X at *
            generalize gi ls k = Y at *
            by_cases d1 : X < -1000000000000
            · clear d
              go_wp2
              go_ret
              exact ⟨by rw [RV.out] <;> rfl, rfl⟩
            by_cases d2 : 1000000000000 < X
            · clear d
              go_wp2
              go_ret
              exact ⟨by rw [RV.out] <;> rfl, rfl⟩
            by_cases d3 : Y < 0
            · clear d
              go_wp2
              go_ret
              exact ⟨by rw [RV.out] <;> rfl, rfl⟩
            · have d4 : 20 < Y := by omega
              clear d
              go_wp2
              go_ret
              exact ⟨by rw [RV.out] <;> rfl, rfl⟩
          · have hv : lkF vs ls k = 0 := by unfold lkF; rw [if_neg d]
            have RV := hidp (NX.out hv)
            clear hv
            generalize gi vs k = X at *
            generalize gi ls k = Y at *
            have d1 : ¬ X < -1000000000000 := fun e => d (.inl e)
            have d2 : ¬ 1000000000000 < X := fun e => d (.inr (.inl e))
            have d3 : ¬ Y < 0 := fun e => d (.inr (.inr (.inl e)))
            have d4 : ¬ 20 < Y := fun e => d (.inr (.inr (.inr e)))
            clear d
            go_wp2
            go_round
            case rel => exact ⟨k + 1, by omega, by go_num, RV⟩
            case measure => simp [intOf]; omega
        · obtain rfl : k = n := by omega
          go_wp2
          go_ret
          exact ⟨by rw [EE.out, FE.out] <;> rfl, rfl⟩
  · rw [show lkE vs ls n m = 7 by unfold lkE; rw [if_neg e1, if_pos e4]]
    have e6 : ((n : Int) != (m : Int)) = true := by rw [bne_iff_ne]; omega
    clear h0 h1 e1 e4
    go_enter Tryz.func107, Tryz.ntmps107
    go_wp2
    go_ret
    exact ⟨rfl, rfl⟩
/-- The estimate of the first k, as int64 has it. -/
def estW (vs ls rs : List Int) : Nat → Int
  | 0 => 0
  | k + 1 => if lev (gi ls k).toNat ≤ gi rs k then wrap64 (estW vs ls rs k + gi vs k * 2 ^ (gi ls k).toNat) else estW vs ls rs k
def rdF (rs : List Int) (i : Nat) : Int := if gi rs i < 0 ∨ 72057594037927936 ≤ gi rs i then 1 else 0
def sumE (vs ls rs : List Int) (n m k : Nat) : Int := if lkE vs ls n m = 0 then (if k = n then fE (rdF rs) n else 7) else lkE vs ls n m
def sumV (vs ls rs : List Int) (n m k : Nat) : Int := if sumE vs ls rs n m k = 0 then estW vs ls rs n else 0
set_option maxHeartbeats 4000000 in
theorem sum_e (a0 a1 a2 : Option Addr) (n m q c0 c1 c2 : Nat) (vs ls rs : List Int) (w : World) (h0 : IntsAt w a0 n c0 vs) (h1 : IntsAt w a1 m c1 ls) (h2 : IntsAt w a2 q c2 rs) :
    Calls Tryz.prog 77 #[.slice a0 n c0, .slice a1 m c1, .slice a2 q c2] w fun e w' => e = .returned (.tuple #[.int .i64 (sumV vs ls rs n m q), .int .i64 (sumE vs ls rs n m q)]) ∧ Below w.heap.size w w' := by
  have m0 := h0.max
  have m2 := h2.max
  have l0 := h0.le
  have l2 := h2.le
  have CL := hidp (look_e a0 a1 n m c0 c1 vs ls w h0 h1)
  by_cases e1 : lkE vs ls n m = 0
  · rw [e1] at CL
    obtain ⟨rfl, hn40, hbd⟩ := lkE_ok vs ls n m e1
    by_cases e2 : q = n
    · subst e2
      have EE := hidp (show sumE vs ls rs q q q = fE (rdF rs) q by unfold sumE; rw [if_pos e1, if_pos rfl])
      have HD := hidp hbd
      clear e1 hbd
      rcases Nat.eq_zero_or_pos q with hz | hz
      · subst hz
        have RE := hidp (show sumE vs ls rs 0 0 0 = 0 from EE.out)
        have RV := hidp (show sumV vs ls rs 0 0 0 = 0 by unfold sumV; rw [if_pos RE.out]; rfl)
        clear h0 h1 h2
        go_enter Tryz.func77, Tryz.ntmps77
        go_wp2_with fail
        refine CL.out.mono ?_; rintro e w' ⟨rfl, rfl⟩
        go_wp2_with fail
        refine wp_loop_rounds 1 ?_; rw [rounds_succ]
        go_wp2
        go_ret2
        exact ⟨by rw [RE.out, RV.out] <;> rfl, Below.refl _ _⟩
      · obtain ⟨b0, o0, rfl, hb0, hc0⟩ := h0.addr hz
        obtain ⟨b1, o1, rfl, hb1, hc1⟩ := h1.addr hz
        obtain ⟨b2, o2, rfl, hb2, hc2⟩ := h2.addr hz
        have C0 := hidp hc0
        have C1 := hidp hc1
        have C2 := hidp hc2
        clear hc0 hc1 hc2 h0 h1 h2
        go_enter Tryz.func77, Tryz.ntmps77
        go_wp2_with fail
        refine CL.out.mono ?_; rintro e w' ⟨rfl, rfl⟩
        go_wp2_with fail
        go_loopw [9, 25] (fun s i wr => ∃ k : Nat, k ≤ q ∧ i = .int .i64 k ∧ s = .int .i64 (estW vs ls rs k) ∧ Hid (fE (rdF rs) k = 0) ∧ Below w.heap.size w wr) (fun _ i _ => q - (intOf i).toNat)
        case atStart => exact ⟨0, by omega, rfl, rfl, rfl, Below.refl _ _⟩
        case round =>
          obtain ⟨k, hk, rfl, rfl, FE, hbl⟩ := hrel
          by_cases hlt : k < q
          · have q0 := carry_cell ⟨hb0, C0.out k hlt⟩ hbl
            have q1 := carry_cell ⟨hb1, C1.out k hlt⟩ hbl
            have q2 := carry_cell ⟨hb2, C2.out k hlt⟩ hbl
            obtain ⟨⟨q3, q4⟩, q5, q6⟩ := HD.out k hlt
            have NX := hidp (fun h => fE_next (rdF rs) k FE.out h)
            have AT := hidp (fun h => fE_at (rdF rs) k q FE.out h hlt)
            by_cases d : gi rs k < 0 ∨ 72057594037927936 ≤ gi rs k
            · have hv : rdF rs k = 1 := by unfold rdF; rw [if_pos d]
              have RE := hidp (show sumE vs ls rs q q q = 1 by rw [EE.out, AT.out (by rw [hv]; omega), hv])
              have RV := hidp (show sumV vs ls rs q q q = 0 by unfold sumV; rw [if_neg (by rw [RE.out]; omega)])
              clear hv
              by_cases d1 : gi rs k < 0
              · clear d
                go_wp2
                go_ret2
                exact ⟨by rw [RE.out, RV.out] <;> rfl, hbl⟩
              · have d2 := d.resolve_left d1
                clear d
                go_wp2
                go_ret2
                exact ⟨by rw [RE.out, RV.out] <;> rfl, hbl⟩
            · have hv : rdF rs k = 0 := by unfold rdF; rw [if_neg d]
              have RN := hidp (NX.out hv)
              have q7 : ¬ gi rs k < 0 := fun e => d (.inl e)
              have q8 : ¬ 72057594037927936 ≤ gi rs k := fun e => d (.inr e)
              clear hv d
              have q9 := lev_lo (gi ls k).toNat
              have q10 := lev_hi (gi ls k).toNat
              by_cases hkp : lev (gi ls k).toNat ≤ gi rs k
              · have E2 := hidp (show estW vs ls rs (k + 1) = wrap64 (estW vs ls rs k + gi vs k * 2 ^ (gi ls k).toNat) by simp only [estW]; rw [if_pos hkp])
                have p1 := est1_bd 1000000000000 (gi vs k) (gi ls k) (gi rs k) ⟨q5, q6⟩ ⟨q3, q4⟩
                have p0 : est1 (gi vs k) (gi ls k) (gi rs k) = gi vs k * 2 ^ (gi ls k).toNat := by unfold est1; rw [if_pos hkp]
                have p2 : (0 : Int) ≤ 2 ^ (gi ls k).toNat := Int.le_of_lt (Int.pow_pos (by omega))
                have p3 : (2 : Int) ^ (gi ls k).toNat ≤ 1048576 := two_pow_le _ (by omega)
                rw [p0] at p1
                obtain ⟨p1a, p1b⟩ := p1
                clear p0
                unfold lev at q9 q10 hkp
                go_wp2_with fail
                go_quiet (fail)
                go_wp2
                go_roundw
                case rel => exact ⟨k + 1, by omega, by go_num, v_int (by rw [E2.out]), RN, below_drewN hbl _⟩
                case measure => simp [intOf]; omega
              · have E2 := hidp (show estW vs ls rs (k + 1) = estW vs ls rs k by simp only [estW]; rw [if_neg hkp])
                unfold lev at q9 q10 hkp
                go_wp2
                go_roundw
                case rel => exact ⟨k + 1, by omega, by go_num, v_int (by rw [E2.out]), RN, hbl⟩
                case measure => simp [intOf]; omega
          · obtain rfl : k = q := by omega
            have RE := hidp (show sumE vs ls rs k k k = 0 by rw [EE.out]; exact FE.out)
            have RV := hidp (show sumV vs ls rs k k k = estW vs ls rs k by unfold sumV; rw [if_pos RE.out])
            go_wp2
            go_ret2
            exact ⟨by rw [RE.out, RV.out] <;> rfl, hbl⟩
    · have RE := hidp (show sumE vs ls rs n n q = 7 by unfold sumE; rw [if_pos e1, if_neg e2])
      have RV := hidp (show sumV vs ls rs n n q = 0 by unfold sumV; rw [if_neg (by rw [RE.out]; omega)])
      have e6 : ((q : Int) != (n : Int)) = true := by rw [bne_iff_ne]; omega
      clear h0 h1 h2 e1 e2 hbd
      go_enter Tryz.func77, Tryz.ntmps77
      go_wp2_with fail
      refine CL.out.mono ?_; rintro e w' ⟨rfl, rfl⟩
      go_wp2
      go_ret2
      exact ⟨by rw [RE.out, RV.out] <;> rfl, Below.refl _ _⟩
  · have RE := hidp (show sumE vs ls rs n m q = lkE vs ls n m by unfold sumE; rw [if_neg e1])
    have RV := hidp (show sumV vs ls rs n m q = 0 by unfold sumV; rw [if_neg (by rw [RE.out]; exact e1)])
    have hne : (lkE vs ls n m != 0) = true := by rw [bne_iff_ne]; exact e1
    clear h0 h1 h2 e1
    generalize lkE vs ls n m = E at *
    go_enter Tryz.func77, Tryz.ntmps77
    go_wp2_with fail
    refine CL.out.mono ?_; rintro e w' ⟨rfl, rfl⟩
    go_wp2
    go_ret2
    exact ⟨by rw [RE.out, RV.out] <;> rfl, Below.refl _ _⟩
end Go.Proofs.YtgodgfnfaiiohaaGreatDoor

/- Contracts of culkeep.filled and culref.SameBottom. -/
namespace Go.Proofs.YtgodgfnfaiiohaaGreatDoor
open Go.ChangeShapes Go.WideShapes Go.ChangeAt Go.RowKit
set_option maxRecDepth 20000
/-- What stands while a bottom is filled. -/
structure BotW (W : World) (H K : Nat) (v : Value) : Prop where
  o0 : W.cell? ⟨H + 1, 0, none⟩ = some (.int .i64 (K : Nat))
  o1 : W.cell? ⟨H + 1, 1, none⟩ = some v
  r0 : ∃ u, W.cell? ⟨H, 0, none⟩ = some u
  r1 : ∃ u, W.cell? ⟨H, 1, none⟩ = some u
  fo : ∀ o, W.frozen? ⟨H + 1, o, none⟩ = false
  fr : ∀ o, W.frozen? ⟨H, o, none⟩ = false
theorem BotW.below {W W' : World} {H K : Nat} {v : Value} (h : BotW W H K v) (hb : Below W.heap.size W W') : BotW W' H K v :=
  ⟨ck hb h.o0, ck hb h.o1, h.r0.imp (fun _ e => ck hb e), h.r1.imp (fun _ e => ck hb e), fun o => (hb.frozen (p := ⟨H + 1, o, none⟩) (show H + 1 < _ from ltc h.o0)).trans (h.fo o), fun o => by
    obtain ⟨u, e⟩ := h.r0
    exact (hb.frozen (p := ⟨H, o, none⟩) (show H < _ from ltc e)).trans (h.fr o)⟩
theorem BotW.put {W : World} {H K : Nat} {v : Value} (h : BotW W H K v) (v' : Value) : BotW ((W.setCell ⟨H + 1, 0, none⟩ (.int .i64 (K : Nat))).setCell ⟨H + 1, 1, none⟩ v') H K v' :=
  ⟨(res2 _ _ h.o0 h.o1).1, (res2 _ _ h.o0 h.o1).2, h.r0.imp (fun _ e => coff (coff e (by omega)) (by omega)), h.r1.imp (fun _ e => coff (coff e (by omega)) (by omega)), fun o => frs (frs (h.fo o)), fun o => frs (frs (h.fr o))⟩
end Go.Proofs.YtgodgfnfaiiohaaGreatDoor

/- Contract of bottom.Join at bottoms of one size. -/
namespace Go.Proofs.YtgodgfnfaiiohaaGreatDoor
open Go.ChangeShapes Go.WideShapes Go.ChangeAt Go.RowKit
set_option maxRecDepth 20000
theorem BotOk.puts {K : Nat} : ∀ (ys xs : List Int), BotOk K xs → (∀ y ∈ ys, 0 ≤ y ∧ y < 72057594037927936) → BotOk K (bots K xs ys)
  | [], _, h, _ => h
  | y :: ys, xs, h, hb => BotOk.puts ys (bot K xs y) (h.put y (hb y (List.mem_cons_self ..))) (fun z hz => hb z (List.mem_cons_of_mem _ hz))
/-- What stands while a bottom is joined. -/
structure BotX (W : World) (Q R K : Nat) (v : Value) : Prop where
  o0 : W.cell? ⟨Q, 0, none⟩ = some (.int .i64 (K : Nat))
  o1 : W.cell? ⟨Q, 1, none⟩ = some v
  r0 : ∃ u, W.cell? ⟨R, 0, none⟩ = some u
  r1 : ∃ u, W.cell? ⟨R, 1, none⟩ = some u
  fo : ∀ o, W.frozen? ⟨Q, o, none⟩ = false
  fr : ∀ o, W.frozen? ⟨R, o, none⟩ = false
theorem BotX.below {W W' : World} {Q R K : Nat} {v : Value} (h : BotX W Q R K v) (hb : Below W.heap.size W W') : BotX W' Q R K v :=
  ⟨ck hb h.o0, ck hb h.o1, h.r0.imp (fun _ e => ck hb e), h.r1.imp (fun _ e => ck hb e), fun o => (hb.frozen (p := ⟨Q, o, none⟩) (show Q < _ from ltc h.o0)).trans (h.fo o), fun o => by
    obtain ⟨u, e⟩ := h.r0
    exact (hb.frozen (p := ⟨R, o, none⟩) (show R < _ from ltc e)).trans (h.fr o)⟩
theorem BotX.put {W : World} {Q R K : Nat} {v : Value} (h : BotX W Q R K v) (hne : R ≠ Q) (v' : Value) : BotX ((W.setCell ⟨Q, 0, none⟩ (.int .i64 (K : Nat))).setCell ⟨Q, 1, none⟩ v') Q R K v' :=
  ⟨(res2 _ _ h.o0 h.o1).1, (res2 _ _ h.o0 h.o1).2, h.r0.imp (fun _ e => coff (coff e hne) hne), h.r1.imp (fun _ e => coff (coff e hne) hne), fun o => frs (frs (h.fo o)), fun o => frs (frs (h.fr o))⟩
theorem BotX.put1 {W : World} {Q R K : Nat} {v : Value} (h : BotX W Q R K v) (hne : R ≠ Q) (v' : Value) : BotX (W.setCell ⟨Q, 1, none⟩ v') Q R K v' :=
  ⟨con h.o0 (by omega), cset h.o1, h.r0.imp (fun _ e => coff e hne), h.r1.imp (fun _ e => coff e hne), fun o => frs (h.fo o), fun o => frs (h.fr o)⟩
end Go.Proofs.YtgodgfnfaiiohaaGreatDoor

/- bottom.Check exactly, Put and Join at whatever comes. -/
namespace Go.Proofs.YtgodgfnfaiiohaaGreatDoor
open Go.ChangeShapes Go.WideShapes Go.ChangeAt Go.RowKit
set_option maxRecDepth 20000
/-- What is wrong at a place. -/
def boF (xs : List Int) (i : Nat) : Int := if ¬ (0 ≤ gi xs i ∧ gi xs i < 72057594037927936) then 1 else if 0 < i ∧ gi xs i ≤ gi xs (i - 1) then 3 else 0
def boE (K : Int) (xs : List Int) (n : Nat) : Int := if K < 1 ∨ 40 < K then 1 else if K < (n : Int) then 2 else fE (boF xs) n
abbrev botI (K : Int) (a : Option Addr) (n c : Nat) : Value := .agg #[.int .i64 K, .slice a n c]
set_option maxHeartbeats 4000000 in
theorem bocheck_e (K : Int) (a : Option Addr) (n c : Nat) (xs : List Int) (w : World) (h : IntsAt w a n c xs) :
    Calls Tryz.prog 143 #[botI K a n c] w fun e w' => e = .returned (.int .i64 (boE K xs n)) ∧ Below w.heap.size w w' := by
  have hb0 : Below w.heap.size w (w.alloc (.cells #[.int .i64 K, .slice a n c] 41)) := bal (Below.refl _ _) _
  have c0 : (w.alloc (.cells #[.int .i64 K, .slice a n c] 41)).cell? ⟨w.heap.size, 0, none⟩ = some (.int .i64 K) := by go_simp
  have c1 : (w.alloc (.cells #[.int .i64 K, .slice a n c] 41)).cell? ⟨w.heap.size, 1, none⟩ = some (.slice a n c) := by go_simp
  obtain ⟨b, o, hz, hx⟩ := (h.below hb0).split
  have hz' : Hid (n = 0) ∨ a = some ⟨b, o, none⟩ := hz.imp_left hidp
  have HX := hidp hx
  have mm := h.max
  have ee := h.le
  have HB := hidp hb0
  unfold botI
  clear hx hz h hb0
  by_cases e1 : K < 1 ∨ 40 < K
  · rw [show boE K xs n = 1 by unfold boE; rw [if_pos e1]]
    by_cases e2 : K < 1
    · clear e1
      go_enter Tryz.func143, Tryz.ntmps143
      go_wp2
      go_ret
      exact ⟨rfl, HB.out⟩
    · have e3 := e1.resolve_left e2
      clear e1
      go_enter Tryz.func143, Tryz.ntmps143
      go_wp2
      go_ret
      exact ⟨rfl, HB.out⟩
  have k1' : ¬ K < 1 := fun e => e1 (.inl e)
  have k2' : ¬ 40 < K := fun e => e1 (.inr e)
  by_cases e2 : K < (n : Int)
  · rw [show boE K xs n = 2 by unfold boE; rw [if_neg e1, if_pos e2]]
    clear e1
    go_enter Tryz.func143, Tryz.ntmps143
    go_wp2
    go_ret
    exact ⟨rfl, HB.out⟩
  have EE := hidp (show boE K xs n = fE (boF xs) n by unfold boE; rw [if_neg e1, if_neg e2])
  clear e1
  go_enter Tryz.func143, Tryz.ntmps143
  go_upto_region 1 with fail
  generalize (w.alloc (.cells #[.int .i64 K, .slice a n c] 41)) = w1 at *
  go_wp2_with fail
  go_loopw [22] (fun i wr => ∃ k : Nat, k ≤ n ∧ i = .int .i64 k ∧ Hid (fE (boF xs) k = 0) ∧ wr = w1) (fun i _ => n - (intOf i).toNat)
  case atStart => exact ⟨0, by omega, rfl, rfl, rfl⟩
  case round =>
    obtain ⟨k, hk, rfl, FE, rfl⟩ := hrel
    by_cases hlt : k < n
    · obtain rfl : a = some ⟨b, o, none⟩ := hz'.resolve_left (fun e => by have := e.out; omega)
      have q := (HX.out k hlt).2
      have NC := hidp (num_c (gi xs k))
      have NX := hidp (fun h => fE_next (boF xs) k FE.out h)
      have AT := hidp (fun h => fE_at (boF xs) k n FE.out h hlt)
      by_cases d1 : 0 ≤ gi xs k ∧ gi xs k < 72057594037927936
      · rw [decide_eq_true d1] at NC
        by_cases h0 : 0 < k
        · have q2 := (HX.out (k - 1) (by omega)).2
          have e1 : ((k : Int) - 1) = ((k - 1 : Nat) : Int) := by omega
          have h0' : (0 : Int) < (k : Int) := by omega
          by_cases d2 : gi xs k ≤ gi xs (k - 1)
          · have hv : boF xs k = 3 := by unfold boF; rw [if_neg (fun e => e d1), if_pos ⟨h0, d2⟩]
            have RV := hidp (show boE K xs n = 3 by rw [EE.out, AT.out (by rw [hv]; omega), hv])
            clear hv d1
            generalize gi xs k = X at *
            generalize gi xs (k - 1) = Y at *
            go_wp2_with fail
            refine (NC.out _).mono ?_
            rintro e w' ⟨rfl, rfl⟩
            go_wp2_with fail
            go_ret
            exact ⟨by rw [RV.out] <;> rfl, HB.out⟩
          · have hv : boF xs k = 0 := by unfold boF; rw [if_neg (fun e => e d1), if_neg (fun e => d2 e.2)]
            have RV := hidp (NX.out hv)
            clear hv d1
            generalize gi xs k = X at *
            generalize gi xs (k - 1) = Y at *
            go_wp2_with fail
            refine (NC.out _).mono ?_
            rintro e w' ⟨rfl, rfl⟩
            go_wp2_with fail
            go_roundw
            case rel => exact ⟨k + 1, by omega, by go_num, RV, trivial⟩
            case measure => simp [intOf]; omega
        · have h0' : ¬ (0 : Int) < (k : Int) := by omega
          have hv : boF xs k = 0 := by unfold boF; rw [if_neg (fun e => e d1), if_neg (fun e => h0 e.1)]
          have RV := hidp (NX.out hv)
          clear hv d1
          generalize gi xs k = X at *
          go_wp2_with fail
          refine (NC.out _).mono ?_
          rintro e w' ⟨rfl, rfl⟩
          go_wp2_with fail
          go_roundw
          case rel => exact ⟨k + 1, by omega, by go_num, RV, trivial⟩
          case measure => simp [intOf]; omega
      · rw [decide_eq_false d1] at NC
        have hv : boF xs k = 1 := by unfold boF; rw [if_pos d1]
        have RV := hidp (show boE K xs n = 1 by rw [EE.out, AT.out (by rw [hv]; omega), hv])
        clear hv d1
        generalize gi xs k = X at *
        go_wp2_with fail
        refine (NC.out _).mono ?_
        rintro e w' ⟨rfl, rfl⟩
        go_wp2_with fail
        go_ret
        exact ⟨by rw [RV.out] <;> rfl, HB.out⟩
    · obtain rfl : k = n := by omega
      go_wp2_with fail
      go_ret
      exact ⟨by rw [EE.out, FE.out] <;> rfl, HB.out⟩

/-- The result's block behind calls: still as it was laid. -/
theorem res_at {W W' : World} {P : Nat} (h0 : W.cell? ⟨P, 0, none⟩ = some (.int .i64 0)) (h1 : W.cell? ⟨P, 1, none⟩ = some (.slice none 0 0)) (z : ∀ o, W.frozen? ⟨P, o, none⟩ = false) (hB : Below W.heap.size W W') :
    W'.cell? ⟨P, 0, none⟩ = some (.int .i64 0) ∧ W'.cell? ⟨P, 1, none⟩ = some (.slice none 0 0) ∧ ∀ o, W'.frozen? ⟨P, o, none⟩ = false :=
  ⟨ck hB h0, ck hB h1, fun o => (hB.frozen (p := ⟨P, o, none⟩) (ltc h0)).trans (z o)⟩
def bpE (K : Int) (xs : List Int) (n : Nat) (x : Int) : Int := if boE K xs n = 0 then (if 0 ≤ x ∧ x < 72057594037927936 then 0 else 1) else boE K xs n
set_option maxHeartbeats 4000000 in
theorem boput_bad (K : Int) (a : Option Addr) (n c : Nat) (xs : List Int) (x : Int) (w : World) (h : IntsAt w a n c xs) (hE : bpE K xs n x ≠ 0) :
    Calls Tryz.prog 111 #[botI K a n c, .int .i64 x] w fun e w' => e = .returned (.tuple #[botI 0 none 0 0, .int .i64 (bpE K xs n x)]) ∧ Below w.heap.size w w' := by
  have CK := hidp (fun W (hB : Below w.heap.size w W) => bocheck_e K a n c xs W (h.below hB))
  have NC := hidp (num_c x)
  clear h
  by_cases e1 : boE K xs n = 0
  · have e2 : ¬ (0 ≤ x ∧ x < 72057594037927936) := fun e => hE (by unfold bpE; rw [if_pos e1, if_pos e])
    have RV := hidp (show bpE K xs n x = 1 by unfold bpE; rw [if_pos e1, if_neg e2])
    rw [e1] at CK
    rw [decide_eq_false e2] at NC
    clear hE e1 e2
    unfold botI at *
    go_enter Tryz.func111, Tryz.ntmps111
    go_wp2_with fail
    refine (CK.out _ (bal (bal (Below.refl _ _) _) _)).mono ?_
    rintro e wa ⟨rfl, hB⟩
    have hb2 : Below w.heap.size w wa := bstep (bal (bal (Below.refl _ _) _) _) hB
    obtain ⟨x0, x1, z⟩ := res_at (P := w.heap.size + 1) (by go_simp) (by go_simp) (fun o => by go_simp) hB
    have z0 := z 0
    have z1 := z 1
    clear CK hB z
    go_wp2_with fail
    refine (NC.out _).mono ?_
    rintro e w' ⟨rfl, rfl⟩
    go_wp2_with fail
    obtain ⟨t0, t1⟩ := res2 (.int .i64 0) (.slice none 0 0) x0 x1
    exact bodyPost_ret (v := .tuple #[.agg #[.int .i64 0, .slice none 0 0], .int .i64 1]) (by simp [results, Tryz.results111, go_sem, t0, t1]) rfl ⟨by rw [RV.out] <;> rfl, below_set2 hb2 _ (Nat.le_succ _) _ _⟩
  · have RV := hidp (show bpE K xs n x = boE K xs n by unfold bpE; rw [if_neg e1])
    have hne : (boE K xs n != 0) = true := by rw [bne_iff_ne]; exact e1
    clear hE e1 NC
    generalize boE K xs n = E at *
    unfold botI at *
    go_enter Tryz.func111, Tryz.ntmps111
    go_wp2_with fail
    refine (CK.out _ (bal (bal (Below.refl _ _) _) _)).mono ?_
    rintro e wa ⟨rfl, hB⟩
    have hb2 : Below w.heap.size w wa := bstep (bal (bal (Below.refl _ _) _) _) hB
    obtain ⟨x0, x1, z⟩ := res_at (P := w.heap.size + 1) (by go_simp) (by go_simp) (fun o => by go_simp) hB
    have z0 := z 0
    have z1 := z 1
    clear CK hB z
    go_wp2_with fail
    obtain ⟨t0, t1⟩ := res2 (.int .i64 0) (.slice none 0 0) x0 x1
    exact bodyPost_ret (v := .tuple #[.agg #[.int .i64 0, .slice none 0 0], .int .i64 E]) (by simp [results, Tryz.results111, go_sem, t0, t1]) rfl ⟨by rw [RV.out] <;> rfl, below_set2 hb2 _ (Nat.le_succ _) _ _⟩
end Go.Proofs.YtgodgfnfaiiohaaGreatDoor

/- The mixing function on natural numbers below 2^64 (plain Lean, no program in sight): it is one to one. -/
namespace Go.Proofs.YtgodgfnfaiiohaaGreatDoor.MixMath

def M64 : Nat := 18446744073709551616
def C1 : Nat := 13787848793156543929
def C2 : Nat := 10723151780598845931

/-- What mix.Mix reckons. -/
def mixN (x : Nat) : Nat :=
  let y := (x ^^^ x / 1073741824) * C1 % M64
  let z := (y ^^^ y / 134217728) * C2 % M64
  z ^^^ z / 2147483648

def sh (s x : Nat) : Nat := x ^^^ x / 2 ^ s

theorem sh_lt (s x : Nat) (h : x < M64) : sh s x < M64 :=
  Nat.xor_lt_two_pow (n := 64) h (Nat.lt_of_le_of_lt (Nat.div_le_self _ _) h)

theorem mixN_eq (x : Nat) : mixN x = sh 31 (sh 27 (sh 30 x * C1 % M64) * C2 % M64) := rfl

theorem mixN_lt (x : Nat) : mixN x < M64 := by
  rw [mixN_eq]; exact sh_lt _ _ (Nat.mod_lt _ (by decide))

def D1 : Nat := 10871156337175269513
def D2 : Nat := 3573116690164977347

end Go.Proofs.YtgodgfnfaiiohaaGreatDoor.MixMath

/- Contracts of mix.Mix, mix.Next and mix.Of: what each call returns, and that memory stays as it is. -/
namespace Go.Proofs.YtgodgfnfaiiohaaGreatDoor
open Go.ChangeShapes Go.WideShapes Go.ChangeAt Go.RowKit
set_option maxRecDepth 20000
open MixMath

theorem mixI_eq (x : Nat) (hx : x < 18446744073709551616) :
    bits BinOp.xor IntKind.u64 (IntKind.u64.wrap (bits BinOp.xor IntKind.u64 (IntKind.u64.wrap (bits BinOp.xor IntKind.u64 (x : Int) ((x : Int) / 1073741824) * 13787848793156543929)) (IntKind.u64.wrap (bits BinOp.xor IntKind.u64 (x : Int) ((x : Int) / 1073741824) * 13787848793156543929) / 134217728) * 10723151780598845931))
      (IntKind.u64.wrap (bits BinOp.xor IntKind.u64 (IntKind.u64.wrap (bits BinOp.xor IntKind.u64 (x : Int) ((x : Int) / 1073741824) * 13787848793156543929)) (IntKind.u64.wrap (bits BinOp.xor IntKind.u64 (x : Int) ((x : Int) / 1073741824) * 13787848793156543929) / 134217728) * 10723151780598845931) / 2147483648) = ((mixN x : Nat) : Int) := by
  have m1 : ∀ a, a % 18446744073709551616 < 18446744073709551616 := fun a => Nat.mod_lt _ (by decide)
  have e1 : IntKind.u64.wrap (bits BinOp.xor IntKind.u64 (x : Int) ((x : Int) / 1073741824) * 13787848793156543929) = (((x ^^^ x / 1073741824) * C1 % M64 : Nat) : Int) := mixStep_u64 x 1073741824 13787848793156543929 hx
  rw [e1]
  obtain ⟨y, hy⟩ : ∃ y, y = (x ^^^ x / 1073741824) * C1 % M64 := ⟨_, rfl⟩
  have hy1 : y < 18446744073709551616 := by rw [hy]; exact m1 _
  have e2 : IntKind.u64.wrap (bits BinOp.xor IntKind.u64 (y : Int) ((y : Int) / 134217728) * 10723151780598845931) = (((y ^^^ y / 134217728) * C2 % M64 : Nat) : Int) := mixStep_u64 y 134217728 10723151780598845931 hy1
  rw [← hy, e2]
  obtain ⟨z, hz⟩ : ∃ z, z = (y ^^^ y / 134217728) * C2 % M64 := ⟨_, rfl⟩
  have hz1 : z < 18446744073709551616 := by rw [hz]; exact m1 _
  have e3 : bits BinOp.xor IntKind.u64 (z : Int) ((z : Int) / 2147483648) = ((z ^^^ z / 2147483648 : Nat) : Int) := xorShift_u64 z 2147483648 hz1
  rw [← hz, e3, hz, hy]
  rfl

theorem mix_c (x : Nat) (hx : x < 18446744073709551616) (w : World) :
    Calls Tryz.prog 90 #[.int .u64 x] w fun e w' => e = .returned (.int .u64 (mixN x)) ∧ w = w' := by
  have HX := hidp hx
  clear hx
  go_enter Tryz.func90, Tryz.ntmps90
  go_wp2
  go_ret
  refine ⟨ret_int ?_, rfl⟩
  exact mixI_eq x HX.out

end Go.Proofs.YtgodgfnfaiiohaaGreatDoor

/- Contract of mix.Of: what the call returns, and that memory stays as it is. -/
namespace Go.Proofs.YtgodgfnfaiiohaaGreatDoor
open Go.ChangeShapes Go.WideShapes Go.ChangeAt Go.RowKit
set_option maxRecDepth 20000
open MixMath

def fnvStep (h : Nat) (c : UInt8) : Nat := (h ^^^ c.toNat) * 1099511628211 % 18446744073709551616
def fnv (l : List UInt8) : Nat := l.foldl fnvStep 14695981039346656037
theorem fnv_lt (l : List UInt8) : fnv l < 18446744073709551616 := by
  unfold fnv
  have : ∀ (l : List UInt8) (h : Nat), h < 18446744073709551616 → l.foldl fnvStep h < 18446744073709551616 := by
    intro l
    induction l with
    | nil => intro h hh; exact hh
    | cons c l ih => intro h _; exact ih _ (Nat.mod_lt _ (by decide))
  exact this l _ (by decide)
theorem take_snoc (s : ByteArray) (k : Nat) (h : k < s.size) : s.data.toList.take (k + 1) = s.data.toList.take k ++ [s[k]] := by
  rw [List.take_succ_eq_append_getElem (by simpa using h)]; rfl
theorem fnv_snoc (l : List UInt8) (c : UInt8) : fnv (l ++ [c]) = fnvStep (fnv l) c := by
  unfold fnv; rw [List.foldl_append, List.foldl_cons, List.foldl_nil]
/-- mix.Of of a text that is not too long. -/
def ofN (s : ByteArray) : Nat := mixN (fnv s.data.toList) / 256
theorem ofN_lt (s : ByteArray) : ofN s < 72057594037927936 := by
  unfold ofN
  have := mixN_lt (fnv s.data.toList)
  unfold M64 at this
  omega
theorem fnv_step_int (h : Nat) (c : UInt8) (hh : h < 18446744073709551616) : IntKind.u64.wrap (bits BinOp.xor IntKind.u64 (h : Int) ((c.toNat : Nat) : Int) * 1099511628211) = ((fnvStep h c : Nat) : Int) := by
  have hc := c.toNat_lt
  rw [bits_xor_u64_nat h c.toNat hh (by omega), IntKind.wrap_u64]
  unfold fnvStep
  rw [Int.natCast_emod, Int.natCast_mul]
  rfl

theorem fnv_nil : ((fnv [] : Nat) : Int) = 14695981039346656037 := rfl
theorem fnv_step (l : List UInt8) (c : UInt8) : IntKind.u64.wrap (bits BinOp.xor IntKind.u64 ((fnv l : Nat) : Int) (IntKind.u64.wrap ((c.toNat : Nat) : Int)) * 1099511628211) = ((fnv (l ++ [c]) : Nat) : Int) := by
  have hc := c.toNat_lt
  rw [IntWalk.u64_in ((c.toNat : Nat) : Int) (by constructor <;> omega), fnv_snoc]; exact fnv_step_int _ _ (fnv_lt _)
theorem ofN_eq (s : ByteArray) : RowKit.wrap64 (((mixN (fnv s.data.toList) : Nat) : Int) / 256) = ((ofN s : Nat) : Int) := by
  have hb := ofN_lt s
  unfold ofN at *
  rw [Int.natCast_ediv]
  exact IntWalk.wrap64_in _ (by constructor <;> omega)

/-- The walk, over any function that is reckoned step by step as the loop does. -/
theorem of_any (s : ByteArray) (hs : s.size ≤ 200) (F : List UInt8 → Nat) (h0 : Hid (((F [] : Nat) : Int) = 14695981039346656037)) (h1 : Hid (∀ l c, IntKind.u64.wrap (bits BinOp.xor IntKind.u64 ((F l : Nat) : Int) (IntKind.u64.wrap ((c.toNat : Nat) : Int)) * 1099511628211) = ((F (l ++ [c]) : Nat) : Int)))
    (hlt : Hid (F s.data.toList < 18446744073709551616)) (w : World) :
    Calls Tryz.prog 49 #[.string s] w fun e w' => e = .returned (.tuple #[.int .i64 (RowKit.wrap64 (((mixN (F s.data.toList) : Nat) : Int) / 256)), .int .i64 0]) ∧ w = w' := by
  go_enter Tryz.func49, Tryz.ntmps49
  go_wp2
  go_loop [4, 11] (fun h i => ∃ k : Nat, k ≤ s.size ∧ i = .int .i64 k ∧ h = .int .u64 (F (s.data.toList.take k))) (fun _ i => s.size - (intOf i).toNat)
  case atStart => exact ⟨0, Nat.zero_le _, rfl, v_int h0.out.symm⟩
  case round =>
    obtain ⟨k, hk, rfl, rfl⟩ := hrel
    by_cases hks : k < s.size
    · go_wp2
      go_round
      case rel =>
        refine ⟨k + 1, by omega, by go_num, v_int ?_⟩
        rw [take_snoc s k hks]
        exact h1.out _ _
      case measure => simp [intOf]; omega
    · obtain rfl : k = s.size := by omega
      have e : s.data.toList.take s.size = s.data.toList := List.take_of_length_le (by simp)
      rw [e]
      have c := mix_c (F s.data.toList) hlt.out
      go_wp2_with fail
      refine (c _).mono ?_; rintro e w' ⟨rfl, rfl⟩
      go_wp2
      go_ret2
      exact ⟨rfl, rfl⟩

theorem of_c (s : ByteArray) (hs : s.size ≤ 200) (w : World) :
    Calls Tryz.prog 49 #[.string s] w fun e w' => e = .returned (.tuple #[.int .i64 (ofN s), .int .i64 0]) ∧ w = w' := by
  have h := of_any s hs fnv (hidp fnv_nil) (hidp fnv_step) (hidp (fnv_lt _)) w
  rw [ofN_eq] at h
  exact h

theorem of_large (s : ByteArray) (hs : 200 < s.size) (h2 : s.size ≤ 9223372036854775807) (w : World) :
    Calls Tryz.prog 49 #[.string s] w fun e w' => e = .returned (.tuple #[.int .i64 0, .int .i64 2]) ∧ w = w' := by
  go_enter Tryz.func49, Tryz.ntmps49
  go_wp2
  go_ret2
  exact ⟨rfl, rfl⟩
end Go.Proofs.YtgodgfnfaiiohaaGreatDoor

/- The walk of MixText: the law returns true at all inputs, and no old memory changes. -/
namespace Go.Proofs.YtgodgfnfaiiohaaGreatDoor.mixText
open Go.ChangeShapes Go.WideShapes Go.ChangeAt Go.RowKit
set_option maxRecDepth 20000
open Go.Proofs.YtgodgfnfaiiohaaGreatDoor MixMath

/-- mix.Of of any text. -/
def ofI (s : ByteArray) : Int := if s.size ≤ 200 then ofN s else 0
def ofE (s : ByteArray) : Int := if s.size ≤ 200 then 0 else 2
theorem of_all (s : ByteArray) (h2 : s.size ≤ 9223372036854775807) (w : World) :
    Calls Tryz.prog 49 #[.string s] w fun e w' => e = .returned (.tuple #[.int .i64 (ofI s), .int .i64 (ofE s)]) ∧ w = w' := by
  unfold ofI ofE
  split
  · exact of_c s (by omega) w
  · exact of_large s (by omega) h2 w
theorem ofI_bd (s : ByteArray) : 0 ≤ ofI s ∧ ofI s < 72057594037927936 := by
  unfold ofI
  have := ofN_lt s
  split <;> omega

set_option linter.unusedVariables false
end Go.Proofs.YtgodgfnfaiiohaaGreatDoor.mixText

/- Contracts of few.Ask, the laws' own heard, slices.Equal at equal counters, culref.SameFew. -/
namespace Go.Proofs.YtgodgfnfaiiohaaGreatDoor
open Go.ChangeShapes Go.WideShapes Go.ChangeAt Go.RowKit
set_option maxRecDepth 20000
theorem FewOk.occ_le {K : Nat} {s : Int × List (Int × Int)} (h : FewOk K s) (z : Int) : 0 ≤ occ s.2 z ∧ occ s.2 z ≤ 1000000000000 := by
  rw [← ask_occ z s.2 h.ris]
  split
  · rename_i hh
    have hk := khas_key s.2 z hh
    have hm := cmem s.2 (kpos s.2 z) hk.1
    have h1 := h.pos _ hm
    have h2 := h.big _ hm
    have h3 : 1 ≤ cnum s.2 (kpos s.2 z) := h1
    have h4 : cnum s.2 (kpos s.2 z) ≤ 1000000000000 := h2
    omega
  · omega
set_option maxHeartbeats 4000000 in
theorem fask_c (K : Nat) (s : Int × List (Int × Int)) (a : Option Addr) (n c : Nat) (k : Int) (w : World) (h : CntAt w a n c s.2) (hok : FewOk K s) :
    Calls Tryz.prog 117 #[fewV K s.1 a n c, .int .i64 k] w fun e w' => e = .returned (.tuple #[.int .i64 (occ s.2 k), .int .i64 (occ s.2 k + s.1), .int .i64 0]) ∧ Below w.heap.size w w' := by
  have hb0 : Below w.heap.size w (w.alloc (.cells #[.int .i64 K, .int .i64 s.1, .slice a n c] 36)) := bal (Below.refl _ _) _
  have CK := hidp (fcheck_ok K s a n c _ (h.below hb0) hok)
  have hl := h.len
  have hln := hok.ln
  have hk2 := hok.k2
  have FN := hidp (fun W (hB : Below w.heap.size w W) => find_c a n c s.2 k W (h.below hB) hok.ris (by omega))
  have H := hidp h
  have ASK := hidp (ask_occ k s.2 hok.ris)
  have HK := hidp (khas_key s.2 k)
  have OB := hok.occ_le k
  have l0 := hok.l0
  have l1 := hok.l1
  have mm := h.max
  have ee := h.le
  have HB := hidp hb0
  clear h hok hb0
  obtain ⟨lost, L⟩ := s
  dsimp only at *
  unfold fewV at *
  go_enter Tryz.func117, Tryz.ntmps117
  go_wp2_with fail
  refine CK.out.mono ?_
  rintro e wa ⟨rfl, hba⟩
  have c1 : wa.cell? ⟨w.heap.size, 1, none⟩ = some (.int .i64 lost) := ck hba (by go_simp)
  have c2 : wa.cell? ⟨w.heap.size, 2, none⟩ = some (.slice a n c) := ck hba (by go_simp)
  have hwa := bstep HB.out hba
  clear hba HB CK
  go_wp2_with fail
  refine (FN.out _ hwa).mono ?_
  rintro e wb ⟨rfl, hbb⟩
  replace c1 := ck hbb c1
  replace c2 := ck hbb c2
  have hwb := bstep hwa hbb
  clear hbb hwa FN
  cases hh : khas L k with
  | true =>
    obtain ⟨k1, k2⟩ := HK.out hh
    rw [hl] at k1
    have AS := hidp (show cnum L (kpos L k) = occ L k by have := ASK.out; rw [if_pos hh] at this; exact this)
    obtain ⟨b, o, rfl, hbb, hx⟩ := (H.out.below hwb).cells (by omega)
    have q := (hx (kpos L k) k1).2
    rw [AS.out] at q
    obtain ⟨oc, hoc⟩ : ∃ oc, oc = occ L k := ⟨_, rfl⟩
    rw [← hoc] at q OB
    have HOC := hidp hoc
    clear hx ASK HK k2 AS H hh hoc
    generalize kpos L k = kp at *
    have WR : IntKind.i64.wrap (oc + lost) = oc + lost := IntWalk.i64_in _ (by omega)
    go_wp2_with fail
    go_quiet (fail)
    go_wp2
    exact bodyPost_ret (v := .tuple #[.int .i64 oc, .int .i64 (oc + lost), .int .i64 0]) (by simp [results, Tryz.results117, go_sem]) rfl ⟨by rw [← HOC.out], below_drewN hwb _⟩
  | false =>
    have AS := hidp (show occ L k = 0 by have := ASK.out; rw [if_neg (by rw [hh]; simp)] at this; exact this.symm)
    clear ASK HK OB H hh
    have WR : IntKind.i64.wrap (0 + lost) = lost := by rw [Int.zero_add]; exact IntWalk.i64_in _ (by omega)
    have Z := hidp (show (0 : Int) + lost = lost from Int.zero_add _)
    generalize kpos L k = kp at *
    go_wp2_with fail
    go_quiet (fail)
    go_wp2
    exact bodyPost_ret (v := .tuple #[.int .i64 0, .int .i64 lost, .int .i64 0]) (by simp [results, Tryz.results117, go_sem]) rfl ⟨by rw [AS.out, Z.out], below_drewN hwb _⟩
/-- What stands while a few is heard: the result's cell H, the few at H + 1. -/
structure HeaS (W : World) (H : Nat) (K lost : Int) (v : Value) : Prop where
  o0 : W.cell? ⟨H + 1, 0, none⟩ = some (.int .i64 K)
  o1 : W.cell? ⟨H + 1, 1, none⟩ = some (.int .i64 lost)
  o2 : W.cell? ⟨H + 1, 2, none⟩ = some v
  r0 : ∃ u, W.cell? ⟨H, 0, none⟩ = some u
  r1 : ∃ u, W.cell? ⟨H, 1, none⟩ = some u
  r2 : ∃ u, W.cell? ⟨H, 2, none⟩ = some u
  fo : ∀ o, W.frozen? ⟨H + 1, o, none⟩ = false
  fr : ∀ o, W.frozen? ⟨H, o, none⟩ = false
theorem HeaS.below {W W' : World} {H : Nat} {K lost : Int} {v : Value} (h : HeaS W H K lost v) (hb : Below W.heap.size W W') : HeaS W' H K lost v :=
  ⟨ck hb h.o0, ck hb h.o1, ck hb h.o2, h.r0.imp (fun _ e => ck hb e), h.r1.imp (fun _ e => ck hb e), h.r2.imp (fun _ e => ck hb e), fun o => (hb.frozen (p := ⟨H + 1, o, none⟩) (show H + 1 < _ from ltc h.o0)).trans (h.fo o), fun o => by
    obtain ⟨u, e⟩ := h.r0
    exact (hb.frozen (p := ⟨H, o, none⟩) (show H < _ from ltc e)).trans (h.fr o)⟩
theorem HeaS.put {W : World} {H : Nat} {K lost : Int} {v : Value} (h : HeaS W H K lost v) (l2 : Int) (v2 : Value) : HeaS (((W.setCell ⟨H + 1, 0, none⟩ (.int .i64 K)).setCell ⟨H + 1, 1, none⟩ (.int .i64 l2)).setCell ⟨H + 1, 2, none⟩ v2) H K l2 v2 :=
  ⟨(res3 _ _ _ h.o0 h.o1 h.o2).1, (res3 _ _ _ h.o0 h.o1 h.o2).2.1, (res3 _ _ _ h.o0 h.o1 h.o2).2.2, h.r0.imp (fun _ e => coff3 e (by omega)), h.r1.imp (fun _ e => coff3 e (by omega)), h.r2.imp (fun _ e => coff3 e (by omega)), fun o => frs3 (h.fo o), fun o => frs3 (h.fr o)⟩
end Go.Proofs.YtgodgfnfaiiohaaGreatDoor

/- desk.one, desk.many, desk.text: an answer, or a fault. -/
namespace Go.Proofs.YtgodgfnfaiiohaaGreatDoor
open Go.ChangeShapes Go.WideShapes Go.ChangeAt Go.RowKit
set_option maxRecDepth 20000
set_option linter.unusedVariables false
theorem ints_one (n : Int) (T : TypeId) (w : World) (h0 : -9223372036854775808 ≤ n) (h1 : n ≤ 9223372036854775807) : IntsAt (w.alloc (.cells #[.int .i64 n] T)) (some ⟨w.heap.size, 0, none⟩) 1 1 [n] :=
  ⟨rfl, Nat.le_refl _, by omega, fun _ => ⟨w.heap.size, 0, rfl, by simp, fun i u hu => match i, hu with
    | 0, hu => by cases hu; go_simp
    | i + 1, hu => by simp at hu⟩, fun x hx => by simp at hx; subst hx; exact ⟨h0, h1⟩⟩
set_option maxHeartbeats 2000000 in
theorem done_ok (n : Int) (w : World) (hT : Tabs w) (h0 : -9223372036854775808 ≤ n) (h1 : n ≤ 9223372036854775807) :
    Calls Tryz.prog 35 #[.int .i64 n, .int .i64 0] w fun e w' => e = .returned (.string (toldS [n])) ∧ Below w.heap.size w w' := by
  have MU := hidp (must_ok w)
  have ha : Below w.heap.size w (w.alloc (.cells #[.int .i64 n] 3)) := bal (Below.refl _ _) _
  have TO := hidp (told_c (some ⟨w.heap.size, 0, none⟩) 1 1 [n] (w.alloc (.cells #[.int .i64 n] 3)) (ints_one n _ w h0 h1) (hT.below (ha.mono hT.size)) (by omega))
  clear hT
  go_enter Tryz.func35, Tryz.ntmps35
  go_wp2_with fail
  refine MU.out.mono ?_
  rintro e w1 ⟨rfl, rfl⟩
  clear MU
  go_wp2_with fail
  refine TO.out.mono ?_
  rintro e w2 ⟨rfl, hb⟩
  have hb2 := bstep ha hb
  clear TO
  go_wp2
  go_ret
  exact ⟨rfl, hb2⟩
set_option maxHeartbeats 2000000 in
theorem done_bad (n e : Int) (he : e ≠ 0) (w : World) :
    Calls Tryz.prog 35 #[.int .i64 n, .int .i64 e] w fun x w' => x = .panicked [faultV e] ∧ Below w.heap.size w w' := by
  have MU := hidp (must_bad e he w)
  clear he
  go_enter Tryz.func35, Tryz.ntmps35
  go_wp2_with fail
  refine MU.out.mono ?_
  rintro x w1 ⟨rfl, rfl⟩
  clear MU
  go_wp2
  exact ⟨rfl, rfl, Below.refl _ _⟩
set_option maxHeartbeats 2000000 in
theorem dmany_ok (a : Option Addr) (n c : Nat) (xs : List Int) (w : World) (h : IntsAt w a n c xs) (hT : Tabs w) (hn : n ≤ 100000) :
    Calls Tryz.prog 64 #[.slice a n c, .int .i64 0] w fun e w' => e = .returned (.string (toldS xs)) ∧ Below w.heap.size w w' := by
  have MU := hidp (must_ok w)
  have TO := hidp (told_c a n c xs w h hT hn)
  clear hT h
  go_enter Tryz.func64, Tryz.ntmps64
  go_wp2_with fail
  refine MU.out.mono ?_
  rintro e w1 ⟨rfl, rfl⟩
  clear MU
  go_wp2_with fail
  refine TO.out.mono ?_
  rintro e w2 ⟨rfl, hb⟩
  clear TO
  go_wp2
  go_ret
  exact ⟨rfl, hb⟩
set_option maxHeartbeats 2000000 in
theorem dmany_bad (v : Value) (e : Int) (he : e ≠ 0) (w : World) :
    Calls Tryz.prog 64 #[v, .int .i64 e] w fun x w' => x = .panicked [faultV e] ∧ Below w.heap.size w w' := by
  have MU := hidp (must_bad e he w)
  clear he
  go_enter Tryz.func64, Tryz.ntmps64
  go_wp2_with fail
  refine MU.out.mono ?_
  rintro x w1 ⟨rfl, rfl⟩
  clear MU
  go_wp2
  exact ⟨rfl, rfl, Below.refl _ _⟩
set_option maxHeartbeats 2000000 in
theorem dtext_ok (s : ByteArray) (hs : s.size ≤ 281474976710656) (w : World) :
    Calls Tryz.prog 52 #[.string s, .int .i64 0] w fun e w' => e = .returned (.string (⟨#[111, 107, 32]⟩ ++ s)) ∧ Below w.heap.size w w' := by
  have MU := hidp (must_ok w)
  have hs2 : (⟨#[111, 107, 32]⟩ ++ s : ByteArray).size = 3 + s.size := by simp [ByteArray.size_append]; rfl
  go_enter Tryz.func52, Tryz.ntmps52
  go_wp2_with fail
  refine MU.out.mono ?_
  rintro e w1 ⟨rfl, rfl⟩
  clear MU
  go_wp2
  go_ret
  exact ⟨rfl, Below.refl _ _⟩
set_option maxHeartbeats 2000000 in
theorem dtext_bad (s : ByteArray) (e : Int) (he : e ≠ 0) (w : World) :
    Calls Tryz.prog 52 #[.string s, .int .i64 e] w fun x w' => x = .panicked [faultV e] ∧ Below w.heap.size w w' := by
  have MU := hidp (must_bad e he w)
  clear he
  go_enter Tryz.func52, Tryz.ntmps52
  go_wp2_with fail
  refine MU.out.mono ?_
  rintro x w1 ⟨rfl, rfl⟩
  clear MU
  go_wp2
  exact ⟨rfl, rfl, Below.refl _ _⟩
end Go.Proofs.YtgodgfnfaiiohaaGreatDoor

/- Contract of bottom.Many at bottoms that may be. -/
namespace Go.Proofs.YtgodgfnfaiiohaaGreatDoor
open Go.ChangeShapes Go.WideShapes Go.ChangeAt Go.RowKit
set_option maxRecDepth 20000
/-- Fewer than K: as many as lie there. -/
theorem many_few (K : Nat) (a : Option Addr) (n c : Nat) (xs : List Int) (w : World) (h : IntsAt w a n c xs) (hok : BotOk K xs) (hn : n < K) :
    Calls Tryz.prog 113 #[botV K a n c] w fun e w' => e = .returned (.tuple #[.int .i64 n, .int .i64 0]) ∧ Below w.heap.size w w' := by
  have hb1 : Below w.heap.size w (w.alloc (.cells #[.int .i64 (K : Nat), .slice a n c] 41)) := bal (Below.refl _ _) _
  have CK := hidp (bocheck_c K a n c xs _ (h.below hb1) hok)
  have HB := hidp hb1
  have mm := h.max
  have ee := h.le
  have hn' : (n : Int) < (K : Int) := by omega
  clear h hok hb1 hn
  unfold botV at *
  go_enter Tryz.func113, Tryz.ntmps113
  go_wp2_with fail
  refine CK.out.mono ?_
  rintro e wa ⟨rfl, hba⟩
  have c0 : wa.cell? ⟨w.heap.size, 0, none⟩ = some (.int .i64 (K : Nat)) := ck hba (by go_simp)
  have c1 : wa.cell? ⟨w.heap.size, 1, none⟩ = some (.slice a n c) := ck hba (by go_simp)
  have HA := hidp (bstep HB.out hba)
  clear hba CK HB
  go_wp2_with fail
  go_ret2
  exact ⟨ret_tup_ii rfl rfl, HA.out⟩
/-- The estimate. -/
theorem many_est (K : Nat) (a : Option Addr) (c : Nat) (xs : List Int) (w : World) (h : IntsAt w a K c xs) (hok : BotOk K xs) (Y : Nat) (hY : gi xs (K - 1) = (Y : Int)) (hY1 : 1 ≤ Y) :
    Calls Tryz.prog 113 #[botV K a K c] w fun e w' => e = .returned (.tuple #[.int .i64 (72057594037927936 * (K - 1) / Y : Nat), .int .i64 0]) ∧ Below w.heap.size w w' := by
  have hb1 : Below w.heap.size w (w.alloc (.cells #[.int .i64 (K : Nat), .slice a K c] 41)) := bal (Below.refl _ _) _
  have CK := hidp (bocheck_c K a K c xs _ (h.below hb1) hok)
  have HB := hidp hb1
  have mm := h.max
  have ee := h.le
  have k1 := hok.k1
  have k2 := hok.k2
  have hl := h.len
  have hyb := hok.bd _ (gi_mem xs (K - 1) (by omega))
  obtain ⟨b, o, rfl, hbl, hx⟩ := h.addr (by omega)
  have q := hx (K - 1) (by omega)
  rw [hY] at q hyb
  obtain ⟨J, hJ⟩ : ∃ J, J = K - 1 := ⟨_, rfl⟩
  rw [← hJ] at q ⊢
  have hJi : (K : Int) - 1 = (J : Int) := by omega
  have hJl : J < K := by omega
  have CM := hidp (fun W => Tryz.bits_Mul64 72057594037927936 J (by omega) (by omega) W)
  have hH : 72057594037927936 * J / 18446744073709551616 = 0 := by omega
  have hL : 72057594037927936 * J % 18446744073709551616 = 72057594037927936 * J := by omega
  have CD := hidp (fun W => div_c 0 (72057594037927936 * J) Y hY1 (by omega) (by omega) (by omega) W)
  rw [hH, hL] at CM
  rw [Nat.zero_mul, Nat.zero_add] at CD
  have hqle : 72057594037927936 * J / Y ≤ 72057594037927936 * J := Nat.div_le_self _ _
  have hq2 : 72057594037927936 * J / Y ≤ 9223372036854775807 := by omega
  generalize 72057594037927936 * J = L at *
  generalize L / Y = E at *
  have q1 := ck hb1 q
  have hY0 : ¬ (Y : Int) = 0 := by omega
  have hYb : (Y : Int) ≤ 72057594037927935 := by omega
  clear h hok hb1 hx hJ q hyb hY hH hL hqle
  unfold botV at *
  go_enter Tryz.func113, Tryz.ntmps113
  go_wp2_with fail
  refine CK.out.mono ?_
  rintro e wa ⟨rfl, hba⟩
  have c0 : wa.cell? ⟨w.heap.size, 0, none⟩ = some (.int .i64 (K : Nat)) := ck hba (by go_simp)
  have c1 : wa.cell? ⟨w.heap.size, 1, none⟩ = some (.slice (some ⟨b, o, none⟩) K c) := ck hba (by go_simp)
  have q2 := ck hba q1
  have HA := hidp (bstep HB.out hba)
  clear hba CK HB q1
  go_wp2_with fail
  refine (CM.out _).mono ?_; rintro e w' ⟨rfl, rfl⟩
  go_wp2_with fail
  refine (CD.out _).mono ?_; rintro e w' ⟨rfl, qd, rfl⟩
  go_wp2_with fail
  go_ret2
  exact ⟨ret_tup_ii (by omega) rfl, below_drewN HA.out qd⟩
end Go.Proofs.YtgodgfnfaiiohaaGreatDoor

/- What the desk answers to each line's order, as functions; one, many, text by them. -/
namespace Go.Proofs.YtgodgfnfaiiohaaGreatDoor
open Go.ChangeShapes Go.WideShapes Go.ChangeAt Go.RowKit
set_option maxRecDepth 20000
set_option linter.unusedVariables false
open CombMath
abbrev Res := Except Int ByteArray
/-- How an answer ends a function: a text, or a fault. -/
def AnsX (r : Res) (x : Ending) : Prop := (∃ s, r = .ok s ∧ x = .returned (.string s)) ∨ (∃ c, r = .error c ∧ x = .panicked [faultV c])
def oneR (n e : Int) : Res := if e = 0 then .ok (toldS [n]) else .error e
def manyR (l : List Int) (e : Int) : Res := if e = 0 then .ok (toldS l) else .error e
def textR (s : ByteArray) (e : Int) : Res := if e = 0 then .ok (⟨#[111, 107, 32]⟩ ++ s) else .error e
def I64 (n : Int) : Prop := -9223372036854775808 ≤ n ∧ n ≤ 9223372036854775807
theorem one_x (n e : Int) (w : World) (hT : Tabs w) (hn : e = 0 → I64 n) :
    Calls Tryz.prog 35 #[.int .i64 n, .int .i64 e] w fun x w' => AnsX (oneR n e) x ∧ Below w.heap.size w w' := by
  unfold oneR
  by_cases he : e = 0
  · subst he
    rw [if_pos rfl]
    obtain ⟨h0, h1⟩ := hn rfl
    refine (done_ok n w hT h0 h1).mono ?_
    rintro x w' ⟨rfl, hb⟩
    exact ⟨.inl ⟨_, rfl, rfl⟩, hb⟩
  · rw [if_neg he]
    refine (done_bad n e he w).mono ?_
    rintro x w' ⟨rfl, hb⟩
    exact ⟨.inr ⟨_, rfl, rfl⟩, hb⟩
theorem many_x (a : Option Addr) (n c : Nat) (l : List Int) (e : Int) (w : World) (hT : Tabs w) (hn : e = 0 → IntsAt w a n c l ∧ n ≤ 100000) :
    Calls Tryz.prog 64 #[.slice a n c, .int .i64 e] w fun x w' => AnsX (manyR l e) x ∧ Below w.heap.size w w' := by
  unfold manyR
  by_cases he : e = 0
  · subst he
    rw [if_pos rfl]
    obtain ⟨h0, h1⟩ := hn rfl
    refine (dmany_ok a n c l w h0 hT h1).mono ?_
    rintro x w' ⟨rfl, hb⟩
    exact ⟨.inl ⟨_, rfl, rfl⟩, hb⟩
  · rw [if_neg he]
    refine (dmany_bad _ e he w).mono ?_
    rintro x w' ⟨rfl, hb⟩
    exact ⟨.inr ⟨_, rfl, rfl⟩, hb⟩
theorem text_x (s : ByteArray) (e : Int) (w : World) (hs : s.size ≤ 281474976710656) :
    Calls Tryz.prog 52 #[.string s, .int .i64 e] w fun x w' => AnsX (textR s e) x ∧ Below w.heap.size w w' := by
  unfold textR
  by_cases he : e = 0
  · subst he
    rw [if_pos rfl]
    refine (dtext_ok s hs w).mono ?_
    rintro x w' ⟨rfl, hb⟩
    exact ⟨.inl ⟨_, rfl, rfl⟩, hb⟩
  · rw [if_neg he]
    refine (dtext_bad _ e he w).mono ?_
    rintro x w' ⟨rfl, hb⟩
    exact ⟨.inr ⟨_, rfl, rfl⟩, hb⟩
/-- What a line may ask. -/
inductive Cmd where
  | rank (l : List Int)
  | comb (l : List Int)
  | alias (l : List Int)
  | most (l : List Int)
  | hash (s : ByteArray)
  | th (n : Int)
  | part (a b : Int)
  | count (a b : Int)
  | mark (s : ByteArray)
  | order (a b : Int)
  | some (a b : Int)
  | pick (a : Int) (l : List Int)
  | fair (a : Int) (l : List Int)
  | level (a : Int) (l : List Int)
  | even (k s : Int) (l : List Int)
  | est (a b c : List Int)
  | pond (x d : Int)
  | least (n : Int)
  | many
  | few (k n : Int)
  | ask (k : Int)
  | rule (p : ByteArray) (l e : Int)
  | of (s : ByteArray)
/-- What the desk keeps. -/
structure DeskSt where
  lost : Int
  cnt : List (Int × Int)
  rules : List Rl
  seen : Int
  items : List Int
  nums : List Int
structure StOk (D : DeskSt) : Prop where
  few : FewOk 3 (D.lost, D.cnt)
  bd : BdOk D.rules
  s0 : 0 ≤ D.seen
  s1 : D.seen ≤ 1000000000000
  pn : min 3 D.seen = (D.items.length : Int)
  pb : ∀ x ∈ D.items, I64 x
  bot : BotOk 3 D.nums
def aliasL (l : List Int) : List Int := sumK l l.length :: (tab (wkEnd (sumK l l.length) (ws l l.length) l.length).own l.length ++ tab (fun i => (((wkEnd (sumK l l.length) (ws l l.length) l.length).rest i : Nat) : Int)) l.length)
def markR (s : ByteArray) : Res :=
  if rE s = 0 then
    if mErr (rL s) = 0 then
      if setE (rL s) (mTh (rL s)) (mRv (rL s)) (mHT (rL s)) (mHR (rL s)) = 0 then
        textR (wT (setL (rL s) (mTh (rL s)) (mRv (rL s)) (mHT (rL s)) (mHR (rL s)))) (wE (setL (rL s) (mTh (rL s)) (mRv (rL s)) (mHT (rL s)) (mHR (rL s))))
      else .error (setE (rL s) (mTh (rL s)) (mRv (rL s)) (mHT (rL s)) (mHR (rL s)))
    else .error (mErr (rL s))
  else .error (rE s)
open Classical in
/-- What is answered, and what is kept. -/
noncomputable def opF (D : DeskSt) : Cmd → Res × DeskSt
  | .rank l => (oneR (if dkE l l.length = 0 then (rkD l l.length l.length : Nat) else 0) (dkE l l.length), D)
  | .comb l => (oneR (if ckE l l.length = 0 then (rs (cN l) l.length : Nat) else 0) (ckE l l.length), D)
  | .alias l => (manyR (aliasL l) (wtsE l l.length), D)
  | .most l => (if qmoE l.length = 0 then (if (qmoR l l.length).2 = true then .ok (toldS [(qmoR l l.length).1]) else .error 4) else .error (qmoE l.length), D)
  | .hash s => (oneR (mixText.ofI s) (mixText.ofE s), D)
  | .th n => (textR (qthS n) (qthE n), D)
  | .part a b => (oneR (qpaV a b) (qpaE a b), D)
  | .count a b => (oneR (qcoV a b) (qcoE a b), D)
  | .mark s => (markR s, D)
  | .order a b => (manyR (ordL a.toNat b.toNat (idn a.toNat)) (qodE a b), D)
  | .some a b => (manyR (tab (someF a.toNat b.toNat) a.toNat) (smE a.toNat b), D)
  | .pick a l => (oneR (qpiV l l.length a) (qpiE l l.length a), D)
  | .fair a l => (manyR (tab (FairM.fairF l l.length a) l.length) (qfrE l l.length a), D)
  | .level a l => (oneR (qleV l l.length a) (qleE l l.length a), D)
  | .even k s l => (manyR (tab (evM l k s l.length) l.length) (evE l l.length k s), D)
  | .est a b c => (oneR (sumV a b c a.length b.length c.length) (sumE a b c a.length b.length c.length), D)
  | .pond x d => if qpoE D.seen d = 0 then (.ok (toldS (pput 3 D.seen D.items x d)), { D with seen := D.seen + 1, items := pput 3 D.seen D.items x d }) else (.error (qpoE D.seen d), D)
  | .least n => if n < 72057594037927936 then (.ok (toldS (bot 3 D.nums n)), { D with nums := bot 3 D.nums n }) else (.error 1, D)
  | .many => (if D.nums.length < 3 then oneR D.nums.length 0 else oneR ((72057594037927936 * 2 / (gi D.nums 2).toNat : Nat) : Int) 0, D)
  | .few k n => if 1 ≤ n ∧ n ≤ 1000000000000 then (if FewOk 3 (fput 3 (D.lost, D.cnt) k n) then (.ok (toldS [((fput 3 (D.lost, D.cnt) k n).2.length : Int), (fput 3 (D.lost, D.cnt) k n).1]), { D with lost := (fput 3 (D.lost, D.cnt) k n).1, cnt := (fput 3 (D.lost, D.cnt) k n).2 }) else (.error 2, D)) else (.error 1, D)
  | .ask k => (.ok (toldS [occ D.cnt k, occ D.cnt k + D.lost]), D)
  | .rule p l e => if putE D.rules (p, l, e) = 0 then (.ok ⟨#[111, 107]⟩, { D with rules := bput D.rules (p, l, e) }) else (.error (putE D.rules (p, l, e)), D)
  | .of s => (oneR (qasV D.rules s) (qasE D.rules s), D)
end Go.Proofs.YtgodgfnfaiiohaaGreatDoor
