/- Contract of slices.Repeat of one integer. -/
import Derived.Test.YtcbklhicellepaaShelf
import Derived.Test.YtcbklhicellepaaKit
import Derived.Laws.CopyOwn
import Derived.Deep.LoopGhost
import Derived.Deep.RegionLaw
import Derived.StillTailTactics
namespace Go.Proofs.Ytcbklhicellepaa
open Go.ChangeShapes Go.WideShapes Go.ChangeAt Go.RowKit
set_option maxRecDepth 20000

theorem mul_one_c (n : Nat) (hn : n ≤ 1000000) (w : World) : Calls Try.prog 30 #[.int .u64 1, .int .u64 n] w fun e w' => e = .returned (.tuple #[.int .u64 0, .int .u64 n]) ∧ w = w' := by
  have h := Try.bits_Mul 1 n (by omega) (by omega) w
  rw [Nat.one_mul, Nat.div_eq_of_lt (by omega), Nat.mod_eq_of_lt (by omega)] at h
  exact h.mono fun e w' h => ⟨h.1, h.2.symm⟩
def rpF (x : Int) (m : Nat) (j : Nat) : Value := .int .i64 (if j < m then x else 0)
theorem splice_rp (x : Int) (n m k : Nat) (h : m + k ≤ n) : splice (tab (rpF x m) n) m (tab (fun _ => Value.int .i64 x) k) = tab (rpF x (m + k)) n := by
  unfold splice
  apply List.ext_getElem?
  intro i
  by_cases hi : i < n
  · rw [tab_get _ _ _ hi]
    by_cases h1 : i < m
    · rw [List.getElem?_append_left (by rw [List.length_take, tab_len]; omega), List.getElem?_take, if_pos h1, tab_get _ _ _ hi]
      unfold rpF; rw [if_pos h1, if_pos (by omega)]
    · rw [List.getElem?_append_right (by simp only [List.length_take, tab_len]; omega)]
      simp only [List.length_take, tab_len]
      rw [Nat.min_eq_left (show m ≤ n by omega)]
      by_cases h2 : i < m + k
      · rw [List.getElem?_append_left (by rw [tab_len]; omega), tab_get _ _ _ (by omega)]
        unfold rpF; rw [if_pos h2]
      · rw [List.getElem?_append_right (by rw [tab_len]; omega), List.getElem?_drop, tab_len, tab_get _ _ _ (by omega)]
        unfold rpF; rw [if_neg (by omega), if_neg h2]
  · rw [List.getElem?_eq_none (by simp [tab_len]; omega), List.getElem?_eq_none (by rw [tab_len]; omega)]
theorem owns_full {w : World} {B : Nat} {e : TypeId} {g n : Nat} {xs : List Value} (h : w.ownsRow B e 1 (.slice (some ⟨g, 0, none⟩) n n) n xs) : w.heap[g]? = some (.cells xs.toArray e (0, 0)) := by
  rcases h.2 with ⟨h0, _⟩ | ⟨g', cap', cur, hv, hg, hh, hnc, hm, hcs, ht⟩
  · cases h0
  · simp only [Value.slice.injEq, Option.some.injEq, Addr.mk.injEq] at hv
    obtain ⟨⟨rfl, _, _⟩, _, rfl⟩ := hv
    rw [hh]
    have : cur = xs.toArray := by
      apply Array.ext'
      rw [← ht]
      simp [List.take_of_length_le, hcs]
    rw [this]
theorem owns_of_row {w : World} {B : Nat} {e : TypeId} {g n : Nat} {xs : List Value} (hg : B ≤ g) (hl : xs.length = n) (hm : n ≤ maxLen) (h : w.heap[g]? = some (.cells xs.toArray e (0, 0))) : w.ownsRow B e 1 (.slice (some ⟨g, 0, none⟩) n n) n xs :=
  ⟨by rw [hl, Nat.mul_one], .inr ⟨g, n, xs.toArray, rfl, hg, h, Nat.le_refl _, hm, by simp [hl], by rw [Nat.mul_one, ← hl]; simp⟩⟩

set_option maxHeartbeats 20000000 in
theorem repeat_c (ax : Option Addr) (c : Nat) (x : Int) (n : Nat) (hn : n ≤ 1000) (w : World) (hx : IntsAt w ax 1 c [x]) :
    Calls Try.prog 9 #[.slice ax 1 c, .int .i64 n] w fun e w' => ∃ v, e = .returned v ∧ w'.ownsRow w.heap.size 3 1 v n ((tab (fun _ => x) n).map (Value.int .i64)) ∧ Below w.heap.size w w' := by
  obtain ⟨ib, hib, hz0, hz1, hz2⟩ := info_parts info_int
  obtain ⟨b, o, rfl, hb, hc⟩ := hx.addr (by omega)
  have q := hc 0 (by omega)
  have q' : w.cell? ⟨b, o, none⟩ = some (.int .i64 x) := q
  have mm := hx.max
  have ee := hx.le
  have MC := hidp (mul_one_c n (by omega))
  clear hc hx q
  have Q := hidp q'
  clear q'
  go_enter Try.func9, Try.ntmps9
  go_wp2_with fail
  refine (MC.out _).mono ?_; rintro e w' ⟨rfl, rfl⟩
  rcases Nat.eq_zero_or_pos n with hz | hz
  · subst hz
    go_wp2_with (first | (at_make; refine wpList_make_full w rfl _ _ 24 rfl w.heap.size 3 ib (.int .i64 0) 1 Try.underlying24 hib hz0 hz1 .i64 .i64 0 0 0 rfl rfl rfl rfl (by rw [hz2]; omega) (by unfold maxLen; omega) (Nat.le_refl _) ?_; intro wd how hgr) | (refine wpList_copy_nothing rfl (.tmp 31) (.tmp 32) 24 24 rfl 3 Try.underlying24 (by kernel_rfl) _ _ _ _ _ _ rfl rfl rfl ?_))
    refine wp_loop_rounds 1 ?_; rw [rounds_succ]
    go_wp2
    go_ret
    exact ⟨_, rfl, by simpa [tab, madeCells] using how, below_new hgr⟩
  · have SP := hidp (splice_rp x n)
    obtain ⟨cs, hcs⟩ : ∃ cs, cs = tab (fun _ => Value.int .i64 x) 1 := ⟨_, rfl⟩
    have h1 : Hid (splice (tab (rpF x 0) n) 0 cs = tab (rpF x 1) n) := by rw [hcs]; exact SP.out 0 1 (by omega)
    have lcs : cs.length = 1 := by rw [hcs, tab_len]
    have ocs : ∀ v ∈ cs, v.oneCell' = true := fun v hv => by rw [hcs] at hv; obtain ⟨i, _, rfl⟩ := tab_mem _ _ _ hv; rfl
    have GCS := hidp (fun (wd : World) (hb : Below w.heap.size w wd) (j : Nat) (v : Value) (hv : cs[j]? = some v) => show wd.cell? ((⟨b, o, none⟩ : Addr).add j) = some v by
      rw [hcs] at hv
      have hj : j < 1 := by have := (List.getElem?_eq_some_iff.1 hv).1; rwa [tab_len] at this
      rw [tab_get _ _ _ hj] at hv
      obtain rfl : j = 0 := by omega
      rw [addr_add]
      rw [← Option.some.inj hv]
      exact ck hb Q.out)
    have OCS := hidp ocs
    have LCS := hidp lcs
    obtain ⟨L0, hL0⟩ : ∃ L0, L0 = tab (rpF x 0) n := ⟨_, rfl⟩
    have ll0 : Hid (L0.length = n) := by rw [hL0]; exact tab_len _ _
    have ROW := hidp (fun (wd : World) (how : wd.ownsRow w.heap.size 3 1 (.slice (some ⟨w.heap.size, 0, none⟩) n n) n (madeCells (Value.int .i64 0).cells (n * 1)).toList) => show wd.heap[w.heap.size]? = some (.cells L0.toArray 3 (0, 0)) by
      have e0 : (madeCells (Value.int .i64 0).cells (n * 1)).toList = L0 := by
        rw [hL0]
        show (madeCells #[Value.int .i64 0] (n * 1)).toList = _
        rw [made_tab]
        exact tab_congr _ _ _ (fun i _ => by unfold rpF; rw [if_neg (by omega)])
      rw [e0] at how
      exact owns_full how)
    rw [← hL0] at h1
    clear hcs hL0 ocs lcs
    have hn1 : Nat.min 1 n = 1 := by show min 1 n = 1; omega
    go_wp2_with (first | (at_make; refine wpList_make_full w rfl _ _ 24 rfl w.heap.size 3 ib (.int .i64 0) 1 Try.underlying24 hib hz0 hz1 .i64 .i64 n n n rfl rfl rfl rfl (by rw [hz2]; omega) (by unfold maxLen; omega) (Nat.le_refl _) ?_; intro wd how hgr; have H0 := hidp (ROW.out wd how); have hbd := below_new hgr; clear how hgr) | (refine wpList_copy_splice rfl (.tmp 31) (.tmp 32) 24 24 rfl 3 Try.underlying24 (by kernel_rfl) _ _ _ _ _ _ rfl rfl w.heap.size 0 _ _ H0.out cs (by rw [LCS.out]; exact hn1.symm) (fun _ => ⟨rfl, _, rfl, GCS.out wd hbd⟩) (by rw [LCS.out, ll0.out]; omega) OCS.out w.heap.size w hbd (Nat.le_refl _) ?_; intro we hwe hbe; rw [LCS.out]))
    have hwe1 := hidp (show we.heap[w.heap.size]? = some (.cells (tab (rpF x 1) n).toArray 3 (0, 0)) by rw [← h1.out]; exact hwe.out)
    clear hwe H0 hbd h1 ROW GCS OCS LCS ll0
    generalize hgg : w.heap.size = g at *
    have HG := hidp hgg
    clear hgg
    go_loopg [8] n (fun gg s8 wr => ∃ m : Nat, 1 ≤ m ∧ m ≤ n ∧ n - m ≤ gg ∧ s8 = .int .i64 m ∧ Hid (wr.heap[g]? = some (.cells (tab (rpF x m) n).toArray 3 (0, 0))) ∧ Below g w wr)
    case atStart => exact ⟨1, by omega, by omega, by omega, rfl, hwe1, hbe⟩
    case round =>
      obtain ⟨m, hm1, hm2, hgk, rfl, HR, hbl⟩ := hrel
      by_cases hlt : m < n
      · obtain ⟨k, hk⟩ : ∃ k, k = min m (n - m) := ⟨_, rfl⟩
        have hk1 : 1 ≤ k ∧ m + k ≤ n ∧ k ≤ m := by omega
        obtain ⟨hk1, hk2, hk3⟩ := hk1
        obtain ⟨ds, hds⟩ : ∃ ds, ds = tab (fun _ => Value.int .i64 x) k := ⟨_, rfl⟩
        have lds : Hid (ds.length = k) := by rw [hds]; exact tab_len _ _
        have ods : Hid (∀ v ∈ ds, v.oneCell' = true) := fun v hv => by rw [hds] at hv; obtain ⟨i, _, rfl⟩ := tab_mem _ _ _ hv; rfl
        have cds : Hid (∀ W : World, W.heap = wr.heap → ∀ j v, ds[j]? = some v → W.cell? ((⟨g, 0, none⟩ : Addr).add j) = some v) := fun W hW j v hv => by
          rw [hds] at hv
          have hj : j < k := by have := (List.getElem?_eq_some_iff.1 hv).1; rwa [tab_len] at this
          rw [tab_get _ _ _ hj] at hv
          rw [addr_add0, ← Option.some.inj hv]
          have := HR.out
          unfold World.cell?
          rw [hW, this]
          simp [tab_get _ _ _ (show j < n by omega)]
          unfold rpF
          rw [if_pos (by omega)]
        have S1 := hidp (show splice (tab (rpF x m) n) m ds = tab (rpF x (m + k)) n by rw [hds]; exact SP.out m k hk2)
        have LT := hidp (tab_len (rpF x m) n)
        have KE := hidp (show k = Nat.min m (n - m) from hk)
        have hmi : (m : Int) < (n : Int) := by omega
        clear hk hds MC SP hib hz0 hz1 hz2 Q
        go_wp2_with fail
        have hnm : ¬ n = m := by omega
        clear hnm
        go_region_law (go_loud (refine step_copy_splice rfl (.tmp 41) (.tmp 44) 24 24 rfl 3 Try.underlying24 (by kernel_rfl) _ _ _ _ _ _ rfl rfl g m _ _ HR.out ds (by rw [lds.out]; exact KE.out) (fun _ => ⟨by first | rfl | exact if_neg (by omega), _, rfl, cds.out _ rfl⟩) (by rw [lds.out, LT.out]; omega) ods.out g w ⟨hbl.os, hbl.tape, hbl.output, hbl.size, fun k hk => hbl.block k hk⟩ (Nat.le_refl _) ?_); intro w4 hg4 hb4)
        all_goals go_wp2
        all_goals rw [lds.out]
        all_goals have hwr : wrap64 ((m : Int) + (k : Int)) = ((m + k : Nat) : Int) := IntWalk.wrap64_in _ (by constructor <;> omega)
        go_roundg (n - (m + k))
        case measure => omega
        case rel => exact ⟨m + k, by omega, by omega, by omega, v_int (by first | omega | (rw [lds.out]; omega) | exact hwr | exact (IntWalk.i64_in _ (by constructor <;> omega)).trans (by omega)), hidp (by rw [← S1.out]; exact hg4.out), hb4⟩
      · obtain rfl : m = n := by omega
        go_wp2_with fail
        go_ret
        rw [HG.out]
        refine ⟨_, rfl, ?_, hbl⟩
        refine owns_of_row (Nat.le_refl _) (by rw [List.length_map, tab_len]) (by unfold maxLen; omega) ?_
        rw [tab_map, HR.out]
        congr 3
        exact tab_congr _ _ _ (fun i hi => by unfold rpF; rw [if_pos hi])
end Go.Proofs.Ytcbklhicellepaa
