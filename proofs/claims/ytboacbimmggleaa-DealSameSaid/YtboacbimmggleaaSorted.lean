/- Contract of the document's Sorted: a sorted list, in new memory. -/
import Derived.Test.YtboacbimmggleaaDeal
import Derived.Test.YtboacbimmggleaaSortMath
namespace Go.Proofs.Ytboacbimmggleaa
open Go.ChangeShapes Go.WideShapes Go.ChangeAt Go.RowKit
open SortMath

set_option maxHeartbeats 2000000 in
theorem sorted_c (a : Option Addr) (n c : Nat) (xs : List Int) (w : World) (h : IntsAt w a n c xs) (hn : n ≤ 1000) :
    Calls Try.prog 18 #[.slice a n c] w fun e w' => ∃ v, e = .returned v ∧ w'.ownsRow w.heap.size 3 1 v n ((tab (srt (gi xs) n n) n).map (Value.int .i64)) ∧ Below w.heap.size w w' := by
  obtain ⟨ib, hib, hz0, hz1, hz2⟩ := info_parts info_int
  obtain ⟨b, o, hz, hx⟩ := h.split
  have hz' : Hid (n = 0) ∨ a = some ⟨b, o, none⟩ := hz.imp_left hidp
  have HX := hidp hx
  have mm := h.max
  have ee := h.le
  clear hx hz h
  go_enter Try.func18, Try.ntmps18
  go_wp2_with (at_make; refine wpList_make_full w rfl _ _ 22 rfl w.heap.size 3 ib (.int .i64 0) 1 Try.underlying22 hib hz0 hz1 .i64 .i64 n n n rfl rfl rfl rfl (by rw [hz2]; omega) (by unfold maxLen; omega) (Nat.le_refl _) ?_; intro wb how hgr)
  have hbb : Below w.heap.size w wb := (Below.refl _ _).grown hgr (Nat.le_refl _) (fun k hk => by simp at hk)
  have hgl : w.heap.size < wb.heap.size := (how.lt w.heap.size rfl).2
  have how0 : wb.ownsRow w.heap.size 3 1 (.slice (some ⟨w.heap.size, 0, none⟩) n n) n (tab (fun j => Value.int .i64 (srt (gi xs) n 0 j)) n) := by
    have e : (madeCells (Value.int .i64 0).cells (n * 1)).toList = tab (fun j => Value.int .i64 (srt (gi xs) n 0 j)) n := by
      show (madeCells #[Value.int .i64 0] (n * 1)).toList = _
      rw [made_tab]; rfl
    rw [← e]; exact how
  clear how hgr
  generalize hgg : w.heap.size = g at how0 hgl hbb ⊢
  have HG := hidp hgg
  have HXB := hidp (fun (wr : World) (hb : Below g w wr) k (hk : k < n) => show wr.cell? ⟨b, o + k, none⟩ = some (.int .i64 (gi xs k)) from carry_cell (HX.out k hk) (by rw [hgg]; exact hb))
  clear hgg
  go_loopw [14] (fun i wr => ∃ k : Nat, k ≤ n ∧ i = .int .i64 k ∧ wr.ownsRow g 3 1 (.slice (some ⟨g, 0, none⟩) n n) n (tab (fun j => Value.int .i64 (srt (gi xs) n k j)) n) ∧ Below g w wr ∧ g < wr.heap.size) (fun i _ => n - (intOf i).toNat)
  case atStart => exact ⟨0, by omega, rfl, how0, hbb, hgl⟩
  case round =>
    obtain ⟨k, hk, rfl, how, hbl, hgw⟩ := hrel
    by_cases hlt : k < n
    · obtain rfl : a = some ⟨b, o, none⟩ := hz'.resolve_left (fun e => by have := e.out; omega)
      have q0 := HXB.out wr hbl k hlt
      go_wp2_with fail
      go_loop [6, 21] (fun t i => ∃ m : Nat, m ≤ n ∧ i = .int .i64 m ∧ t = .int .i64 (cn (bfr (gi xs) k) m : Nat)) (fun _ i => n - (intOf i).toNat)
      case atStart => exact ⟨0, by omega, rfl, rfl⟩
      case round =>
        obtain ⟨m, hm, rfl, rfl⟩ := hrel
        have hcn := cn_le (bfr (gi xs) k) m
        by_cases hmn : m < n
        · have q1 := HXB.out wr hbl m hmn
          have C1 := hidp (show cn (bfr (gi xs) k) (m + 1) = cn (bfr (gi xs) k) m + if bfr (gi xs) k m = true then 1 else 0 from rfl)
          by_cases hA : gi xs m < gi xs k
          · have AH := hidp (show bfr (gi xs) k m = true by simp [bfr]; omega)
            go_wp2_with fail
            go_round
            case rel => exact ⟨m + 1, by omega, by go_num, by rw [C1.out, if_pos AH.out]; go_num⟩
            case measure => simp [intOf]; omega
          · by_cases hE : gi xs m = gi xs k
            · have hE' : (gi xs m == gi xs k) = true := by rw [hE]; simp
              by_cases hmk : m < k
              · have AH := hidp (show bfr (gi xs) k m = true by simp [bfr]; omega)
                clear hE
                go_wp2_with fail
                go_round
                case rel => exact ⟨m + 1, by omega, by go_num, by rw [C1.out, if_pos AH.out]; go_num⟩
                case measure => simp [intOf]; omega
              · have AH := hidp (show ¬ bfr (gi xs) k m = true by simp [bfr]; omega)
                clear hE
                go_wp2_with fail
                go_round
                case rel => exact ⟨m + 1, by omega, by go_num, by rw [C1.out, if_neg AH.out]; rfl⟩
                case measure => simp [intOf]; omega
            · have hE' : (gi xs m == gi xs k) = false := by simp [hE]
              have AH := hidp (show ¬ bfr (gi xs) k m = true by simp [bfr]; omega)
              go_wp2_with fail
              go_round
              case rel => exact ⟨m + 1, by omega, by go_num, by rw [C1.out, if_neg AH.out]; rfl⟩
              case measure => simp [intOf]; omega
        · obtain rfl : m = n := by omega
          have hr := rank_lt (gi xs) m k hlt
          have R := hidp (show cn (bfr (gi xs) k) m = rank (gi xs) m k from rfl)
          rw [show cn (bfr (gi xs) k) m = rank (gi xs) m k from rfl] at *
          have S := hidp (show srt (gi xs) m (k + 1) = fun j => if j = rank (gi xs) m k then gi xs k else srt (gi xs) m k j from rfl)
          generalize rank (gi xs) m k = r at *
          have q2 := how.frozenAt r
          have q3 := how.cellAt r (by omega)
          rw [tab_get _ _ _ hr] at q3
          go_wp2_with fail
          go_roundw
          case rel =>
            refine ⟨k + 1, by omega, by go_num, ?_, (hbl.setCell (p := ⟨g, r, none⟩) (Nat.le_refl g) _), by simpa using hgw⟩
            have st := own_store_tab how r (.int .i64 (gi xs k))
            rw [S.out, tab_congr _ (fun i => if i = r then Value.int .i64 (gi xs k) else Value.int .i64 (srt (gi xs) m k i)) m (fun i _ => by show Value.int .i64 (if i = r then gi xs k else srt (gi xs) m k i) = _; split <;> rfl)]
            exact st
          case measure => simp [intOf]; omega
    · obtain rfl : k = n := by omega
      go_wp2
      go_ret
      rw [HG.out]
      exact ⟨_, rfl, by rw [tab_map]; exact how, hbl⟩
end Go.Proofs.Ytboacbimmggleaa
