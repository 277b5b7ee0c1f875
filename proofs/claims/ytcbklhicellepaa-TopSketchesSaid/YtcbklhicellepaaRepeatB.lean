/- Contract of slices.Repeat of one Bool (after that of one integer). -/
import Derived.Test.YtcbklhicellepaaRepeat
namespace Go.Proofs.Ytcbklhicellepaa
open Go.ChangeShapes Go.WideShapes Go.ChangeAt Go.RowKit
set_option maxRecDepth 20000
def rpB (x : Bool) (m : Nat) (j : Nat) : Value := .bool (if j < m then x else false)
theorem splice_rpB (x : Bool) (n m k : Nat) (h : m + k ≤ n) : splice (tab (rpB x m) n) m (tab (fun _ => Value.bool x) k) = tab (rpB x (m + k)) n := by
  unfold splice
  apply List.ext_getElem?
  intro i
  by_cases hi : i < n
  · rw [tab_get _ _ _ hi]
    by_cases h1 : i < m
    · rw [List.getElem?_append_left (by rw [List.length_take, tab_len]; omega), List.getElem?_take, if_pos h1, tab_get _ _ _ hi]
      unfold rpB; rw [if_pos h1, if_pos (by omega)]
    · rw [List.getElem?_append_right (by simp only [List.length_take, tab_len]; omega)]
      simp only [List.length_take, tab_len]
      rw [Nat.min_eq_left (show m ≤ n by omega)]
      by_cases h2 : i < m + k
      · rw [List.getElem?_append_left (by rw [tab_len]; omega), tab_get _ _ _ (by omega)]
        unfold rpB; rw [if_pos h2]
      · rw [List.getElem?_append_right (by rw [tab_len]; omega), List.getElem?_drop, tab_len, tab_get _ _ _ (by omega)]
        unfold rpB; rw [if_neg (by omega), if_neg h2]
  · rw [List.getElem?_eq_none (by simp [tab_len]; omega), List.getElem?_eq_none (by rw [tab_len]; omega)]
set_option maxHeartbeats 20000000 in
theorem repeatb_c (ax : Option Addr) (c : Nat) (x : Bool) (n : Nat) (hn : n ≤ 1000) (w : World) (hx : BoolsAt w ax 1 c [x]) :
    Calls Try.prog 8 #[.slice ax 1 c, .int .i64 n] w fun e w' => ∃ v, e = .returned v ∧ w'.ownsRow w.heap.size 4 1 v n ((tab (fun _ => x) n).map Value.bool) ∧ Below w.heap.size w w' := by
  obtain ⟨ib, hib, hz0, hz1, hz2⟩ := info_parts info_bool
  obtain ⟨b, o, rfl, hb, hc⟩ := hx.cells (by omega)
  have q := hc 0 (by omega)
  have q' : w.cell? ⟨b, o, none⟩ = some (.bool x) := q
  have mm := hx.max
  have ee := hx.le
  have MC := hidp (mul_one_c n (by omega))
  clear hc hx q
  have Q := hidp q'
  clear q'
  go_enter Try.func8, Try.ntmps8
  go_wp2_with fail
  refine (MC.out _).mono ?_; rintro e w' ⟨rfl, rfl⟩
  rcases Nat.eq_zero_or_pos n with hz | hz
  · subst hz
    go_wp2_with (first | (at_make; refine wpList_make_full w rfl _ _ 31 rfl w.heap.size 4 ib (.bool false) 1 Try.underlying31 hib hz0 hz1 .i64 .i64 0 0 0 rfl rfl rfl rfl (by rw [hz2]; omega) (by unfold maxLen; omega) (Nat.le_refl _) ?_; intro wd how hgr) | (refine wpList_copy_nothing rfl (.tmp 31) (.tmp 32) 31 31 rfl 4 Try.underlying31 (by kernel_rfl) _ _ _ _ _ _ rfl rfl rfl ?_))
    refine wp_loop_rounds 1 ?_; rw [rounds_succ]
    go_wp2
    go_ret
    exact ⟨_, rfl, by simpa [tab, madeCells] using how, below_new hgr⟩
  · have SP := hidp (splice_rpB x n)
    obtain ⟨cs, hcs⟩ : ∃ cs, cs = tab (fun _ => Value.bool x) 1 := ⟨_, rfl⟩
    have h1 : Hid (splice (tab (rpB x 0) n) 0 cs = tab (rpB x 1) n) := by rw [hcs]; exact SP.out 0 1 (by omega)
    have lcs : cs.length = 1 := by rw [hcs, tab_len]
    have ocs : ∀ v ∈ cs, v.oneCell' = true := fun v hv => by rw [hcs] at hv; obtain ⟨i, _, rfl⟩ := tab_mem _ _ _ hv; rfl
    have GCS := hidp (fun (wd : World) (hb : Below w.heap.size w wd) (j : Nat) (v : Value) (hv : cs[j]? = some v) => show wd.cell? ((⟨b, o, none⟩ : Addr).add j) = some v by
      rw [hcs] at hv
      have hj : j < 1 := by have := (List.getElem?_eq_some_iff.1 hv).1; rwa [tab_len] at this
      rw [tab_get _ _ _ hj] at hv
      obtain rfl : j = 0 := by omega
      rw [addr_add]
      rw [← Option.some.inj hv]
      exact ck hb Q.out)
    have OCS := hidp ocs
    have LCS := hidp lcs
    obtain ⟨L0, hL0⟩ : ∃ L0, L0 = tab (rpB x 0) n := ⟨_, rfl⟩
    have ll0 : Hid (L0.length = n) := by rw [hL0]; exact tab_len _ _
    have ROW := hidp (fun (wd : World) (how : wd.ownsRow w.heap.size 4 1 (.slice (some ⟨w.heap.size, 0, none⟩) n n) n (madeCells (Value.bool false).cells (n * 1)).toList) => show wd.heap[w.heap.size]? = some (.cells L0.toArray 4 (0, 0)) by
      have e0 : (madeCells (Value.bool false).cells (n * 1)).toList = L0 := by
        rw [hL0]
        show (madeCells #[Value.bool false] (n * 1)).toList = _
        rw [made_tab]
        exact tab_congr _ _ _ (fun i _ => by unfold rpB; rw [if_neg (by omega)])
      rw [e0] at how
      exact owns_full how)
    rw [← hL0] at h1
    clear hcs hL0 ocs lcs
    have hn1 : Nat.min 1 n = 1 := by show min 1 n = 1; omega
    go_wp2_with (first | (at_make; refine wpList_make_full w rfl _ _ 31 rfl w.heap.size 4 ib (.bool false) 1 Try.underlying31 hib hz0 hz1 .i64 .i64 n n n rfl rfl rfl rfl (by rw [hz2]; omega) (by unfold maxLen; omega) (Nat.le_refl _) ?_; intro wd how hgr; have H0 := hidp (ROW.out wd how); have hbd := below_new hgr; clear how hgr) | (refine wpList_copy_splice rfl (.tmp 31) (.tmp 32) 31 31 rfl 4 Try.underlying31 (by kernel_rfl) _ _ _ _ _ _ rfl rfl w.heap.size 0 _ _ H0.out cs (by rw [LCS.out]; exact hn1.symm) (fun _ => ⟨rfl, _, rfl, GCS.out wd hbd⟩) (by rw [LCS.out, ll0.out]; omega) OCS.out w.heap.size w hbd (Nat.le_refl _) ?_; intro we hwe hbe; rw [LCS.out]))
    have hwe1 := hidp (show we.heap[w.heap.size]? = some (.cells (tab (rpB x 1) n).toArray 4 (0, 0)) by rw [← h1.out]; exact hwe.out)
    clear hwe H0 hbd h1 ROW GCS OCS LCS ll0
    generalize hgg : w.heap.size = g at *
    have HG := hidp hgg
    clear hgg
    go_loopg [8] n (fun gg s8 wr => ∃ m : Nat, 1 ≤ m ∧ m ≤ n ∧ n - m ≤ gg ∧ s8 = .int .i64 m ∧ Hid (wr.heap[g]? = some (.cells (tab (rpB x m) n).toArray 4 (0, 0))) ∧ Below g w wr)
    case atStart => exact ⟨1, by omega, by omega, by omega, rfl, hwe1, hbe⟩
    case round =>
      obtain ⟨m, hm1, hm2, hgk, rfl, HR, hbl⟩ := hrel
      by_cases hlt : m < n
      · obtain ⟨k, hk⟩ : ∃ k, k = min m (n - m) := ⟨_, rfl⟩
        have hk1 : 1 ≤ k ∧ m + k ≤ n ∧ k ≤ m := by omega
        obtain ⟨hk1, hk2, hk3⟩ := hk1
        obtain ⟨ds, hds⟩ : ∃ ds, ds = tab (fun _ => Value.bool x) k := ⟨_, rfl⟩
        have lds : Hid (ds.length = k) := by rw [hds]; exact tab_len _ _
        have ods : Hid (∀ v ∈ ds, v.oneCell' = true) := fun v hv => by rw [hds] at hv; obtain ⟨i, _, rfl⟩ := tab_mem _ _ _ hv; rfl
        have cds : Hid (∀ W : World, W.heap = wr.heap → ∀ j v, ds[j]? = some v → W.cell? ((⟨g, 0, none⟩ : Addr).add j) = some v) := fun W hW j v hv => by
          rw [hds] at hv
          have hj : j < k := by have := (List.getElem?_eq_some_iff.1 hv).1; rwa [tab_len] at this
          rw [tab_get _ _ _ hj] at hv
          rw [addr_add0, ← Option.some.inj hv]
          have := HR.out
          unfold World.cell?
          rw [hW, this]
          simp [tab_get _ _ _ (show j < n by omega)]
          unfold rpB
          rw [if_pos (by omega)]
        have S1 := hidp (show splice (tab (rpB x m) n) m ds = tab (rpB x (m + k)) n by rw [hds]; exact SP.out m k hk2)
        have LT := hidp (tab_len (rpB x m) n)
        have KE := hidp (show k = Nat.min m (n - m) from hk)
        have hmi : (m : Int) < (n : Int) := by omega
        clear hk hds MC SP hib hz0 hz1 hz2 Q
        go_wp2_with fail
        have hnm : ¬ n = m := by omega
        clear hnm
        go_region_law (go_loud (refine step_copy_splice rfl (.tmp 41) (.tmp 44) 31 31 rfl 4 Try.underlying31 (by kernel_rfl) _ _ _ _ _ _ rfl rfl g m _ _ HR.out ds (by rw [lds.out]; exact KE.out) (fun _ => ⟨by first | rfl | exact if_neg (by omega), _, rfl, cds.out _ rfl⟩) (by rw [lds.out, LT.out]; omega) ods.out g w ⟨hbl.os, hbl.tape, hbl.output, hbl.size, fun k hk => hbl.block k hk⟩ (Nat.le_refl _) ?_); intro w4 hg4 hb4)
        all_goals go_wp2
        all_goals rw [lds.out]
        all_goals have hwr : wrap64 ((m : Int) + (k : Int)) = ((m + k : Nat) : Int) := IntWalk.wrap64_in _ (by constructor <;> omega)
        go_roundg (n - (m + k))
        case measure => omega
        case rel => exact ⟨m + k, by omega, by omega, by omega, v_int (by first | omega | (rw [lds.out]; omega) | exact hwr | exact (IntWalk.i64_in _ (by constructor <;> omega)).trans (by omega)), hidp (by rw [← S1.out]; exact hg4.out), hb4⟩
      · obtain rfl : m = n := by omega
        go_wp2_with fail
        go_ret
        rw [HG.out]
        refine ⟨_, rfl, ?_, hbl⟩
        refine owns_of_row (Nat.le_refl _) (by rw [List.length_map, tab_len]) (by unfold maxLen; omega) ?_
        rw [tab_map, HR.out]
        congr 3
        exact tab_congr _ _ _ (fun i hi => by unfold rpB; rw [if_pos hi])
end Go.Proofs.Ytcbklhicellepaa
