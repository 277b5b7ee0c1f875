/- The walk of TopTraces: the law returns true at all inputs, and no old memory changes. -/
import Derived.Test.YtmgagmnknhgkdaaBegun
import Derived.Test.YtmgagmnknhgkdaaMend
import Derived.Test.YtmgagmnknhgkdaaWhole
import Derived.Test.YtmgagmnknhgkdaaCount
import Derived.Test.YtmgagmnknhgkdaaMixOf
import Derived.Test.YtmgagmnknhgkdaaEst
import Derived.Test.YtmgagmnknhgkdaaRepeat
import Derived.Test.YtmgagmnknhgkdaaStepCall
import Derived.Deep.DeepCutAuto
namespace Go.Proofs.Ytmgagmnknhgkdaa.topTraces
open Go.ChangeShapes Go.WideShapes Go.ChangeAt Go.RowKit
open Go.Proofs.Ytmgagmnknhgkdaa
set_option maxRecDepth 20000

def upT (xs : List (List Int)) (i : Nat) : Int := if 2 ≤ (gl xs i).length then wi (gi (gl xs i) 0) ((i : Int) + 1) - 1 else -1
def lvT (xs : List (List Int)) (i : Nat) : Int := if 2 ≤ (gl xs i).length then wi (gi (gl xs i) 1) 7 else 0
theorem upT_bd (xs : List (List Int)) (i : Nat) : -1 ≤ upT xs i ∧ upT xs i < i := by
  have h1 := wi_lo (gi (gl xs i) 0) ((i : Int) + 1) (by omega)
  have h2 := wi_hi (gi (gl xs i) 0) ((i : Int) + 1) (by omega)
  unfold upT; split <;> omega
theorem lvT_bd (xs : List (List Int)) (i : Nat) : 0 ≤ lvT xs i ∧ lvT xs i ≤ 20 := by
  have h1 := wi_lo (gi (gl xs i) 1) 7 (by omega)
  have h2 := wi_hi (gi (gl xs i) 1) 7 (by omega)
  unfold lvT; split <;> omega
theorem lev_mono (a b : Nat) (h : a ≤ b) : lev a ≤ lev b := by
  rw [lev_nat, lev_nat]
  have : 72057594037927936 / 2 ^ b ≤ 72057594037927936 / 2 ^ a := Nat.div_le_div_left (Nat.pow_le_pow_right (by omega) h) (Nat.pow_pos (by omega))
  omega
/-- Mended, what is kept is whole. -/
theorem whole (U : List Int) (M : Nat → Int) (N : Nat) (r : Int) (hu : ∀ i, i < N → gi U i < i) (hc : ∀ i, i < N → 0 ≤ gi U i → M (gi U i).toNat ≤ M i) : wholeB U (tab (kb (tab M N) r) N) N = true :=
  wholeB_true _ _ _ (fun i hi => by
    unfold wh1
    by_cases h1 : gb (tab (kb (tab M N) r) N) i = true ∧ 0 ≤ gi U i
    · obtain ⟨h1, h2⟩ := h1
      have hui := hu i hi
      rw [tab_gb _ _ _ hi] at h1
      have hk : gb (tab (kb (tab M N) r) N) (gi U i).toNat = true := by
        rw [tab_gb _ _ _ (by omega)]
        unfold kb at h1 ⊢
        rw [decide_eq_true_eq] at *
        rw [tab_gi _ _ _ (by omega)]
        rw [tab_gi _ _ _ hi] at h1
        have := hc i hi h2
        have := lev_mono (M (gi U i).toNat).toNat (M i).toNat (by omega)
        omega
      simp [hk]
    · by_cases h2 : gb (tab (kb (tab M N) r) N) i = true
      · have h3 : ¬ 0 ≤ gi U i := fun h => h1 ⟨h2, h⟩
        simp [h3]
      · simp [h2])
theorem cnt_est (ls : List Int) (r : Int) (N : Nat) : ∀ k, k ≤ N → estS (tab (fun _ => 1) N) ls (tab (fun _ => r) N) k = cntS ls (tab (kb ls r) N) k
  | 0, _ => rfl
  | k + 1, h => by
    simp only [estS, cntS]
    rw [cnt_est ls r N k (by omega), tab_gi _ _ _ (by omega), tab_gi _ _ _ (by omega), tab_gb _ _ _ (by omega)]
    unfold est1 kb
    by_cases e : lev (gi ls k).toNat ≤ r
    · rw [if_pos e, if_pos (by simpa using e)]; omega
    · rw [if_neg e, if_neg (by simpa using e)]
set_option linter.unusedVariables false
set_option maxHeartbeats 8000000 in
theorem walk (a0 : Option Addr) (len0 cap0 : Nat) (z0 : List (List Int)) (a1 : ByteArray) (w : World)
    (w0 : RowsAt w a0 len0 cap0 z0) (w1 : a1.size ≤ maxLen) :
    Calls Try.prog 14 #[.slice a0 len0 cap0, .string a1] w fun e w' => e = .returned (.bool true) ∧ Below w.heap.size w w' := by
  have H := hidp w0
  have mm := w0.max
  have ee := w0.le
  unfold maxLen at w1
  obtain ⟨N, hN⟩ : ∃ N : Nat, N = min len0 40 := ⟨_, rfl⟩
  have hN1 : N ≤ 40 ∧ N ≤ len0 := by omega
  have hmin : min (len0 : Int) 40 = (N : Int) := by omega
  obtain ⟨S, hS⟩ : ∃ S : Nat, S = min a1.size 200 := ⟨_, rfl⟩
  have hS1 : S ≤ 200 ∧ S ≤ a1.size := by omega
  have hminS : min (a1.size : Int) 200 = (S : Int) := by omega
  clear w0 hN hS
  go_enter Try.func14, Try.ntmps14
  go_wp2_with fail
  refine (begun_c _).mono ?_
  rintro e wa ⟨rfl, hwa⟩
  go_wp2_with fail
  have hsz : (a1.extract 0 S).size ≤ 200 := by rw [ByteArray.size_extract]; omega
  generalize a1.extract 0 S = nm at *
  generalize hgg : wa.heap.size = g at *
  have HRA := hidp (fun (wr : World) (hb : Below g wa wr) => (H.out.below hwa).below (by rw [hgg]; exact hb))
  have HG := hidp hgg
  have hgw : w.heap.size ≤ g := by have := hwa.size; omega
  have HWA := hidp hwa
  clear hgg hwa
  go_loopw [5, 36] (fun v i wr => ∃ k : Nat, k ≤ N ∧ i = .int .i64 k ∧ wr.ownsRow g 64 2 v k (spanCells (upT z0) (lvT z0) k) ∧ Below g wa wr) (fun _ i _ => N - (intOf i).toNat)
  case atStart => exact ⟨0, by omega, rfl, World.ownsRow_nil _ _ _ _, by rw [← HG.out]; exact Below.refl _ _⟩
  case round =>
    obtain ⟨k, hk, rfl, hv, hbl⟩ := hrel
    by_cases hlt : k < N
    · have HR := HRA.out wr hbl
      obtain ⟨b, o, rfl, _, hx⟩ := HR.cells (by omega)
      obtain ⟨ai, ni, ci, hc, hI⟩ := hx k (by omega)
      have li := hI.len
      have mi := hI.max
      have lei := hI.le
      have hgs : g ≤ wr.heap.size := by have := hbl.size; have := HG.out; omega
      have U := hidp (show upT z0 k = if 2 ≤ (gl z0 k).length then wi (gi (gl z0 k) 0) ((k : Int) + 1) - 1 else -1 from rfl)
      have L := hidp (show lvT z0 k = if 2 ≤ (gl z0 k).length then wi (gi (gl z0 k) 1) 7 else 0 from rfl)
      rw [li] at U L
      by_cases h2 : 2 ≤ ni
      · obtain ⟨bi, oi, rfl, _, hci⟩ := hI.addr (by omega)
        have q0 := hci 0 (by omega)
        rw [Nat.add_zero] at q0
        have q1 := hci 1 (by omega)
        have n0 : 0 < ni := by omega
        have n1 : (1 : Int) < (ni : Int) := by omega
        have n2 : ¬ (ni : Int) < 2 := by omega
        have hLI := hidp hI
        clear hx HR hci hI
        go_wp2_with fail
        have K1 := hidp (fun W => within_c (gi (gl z0 k) 0) ((k : Int) + 1) (by omega) (by omega) W)
        have K2 := hidp (fun W => within_c (gi (gl z0 k) 1) 7 (by omega) (by omega) W)
        have x1 := wi_lo (gi (gl z0 k) 0) ((k : Int) + 1) (by omega)
        have x2 := wi_hi (gi (gl z0 k) 0) ((k : Int) + 1) (by omega)
        have WR := hidp (show IntKind.i64.wrap (wi (gi (gl z0 k) 0) ((k : Int) + 1) - 1) = wi (gi (gl z0 k) 0) ((k : Int) + 1) - 1 from IntWalk.i64_in _ (by constructor <;> omega))
        have U2 := hidp (show upT z0 k = wi (gi (gl z0 k) 0) ((k : Int) + 1) - 1 by rw [U.out, if_pos h2])
        have L2 := hidp (show lvT z0 k = wi (gi (gl z0 k) 1) 7 by rw [L.out, if_pos h2])
        have WK := hidp (show IntKind.i64.wrap ((k : Int) + 1) = (k : Int) + 1 from IntWalk.i64_in _ (by constructor <;> omega))
        go_region_law (first
          | (refine step_call rfl 27 #[.tmp 48, .tmp 50] _ rfl (fun _ _ => by kernel_rfl) #[.int .i64 (gi (gl z0 k) 0), .int .i64 ((k : Int) + 1)] (by simp [Act.eval, Act.put, WK.out]) _ (K1.out _) ?_; rintro e w' ⟨rfl, rfl⟩; refine ⟨_, rfl, ?_⟩)
          | (refine step_call rfl 27 #[.tmp 55, .const (.int .i64 7)] _ rfl (fun _ _ => by kernel_rfl) #[.int .i64 (gi (gl z0 k) 1), .int .i64 7] (by simp [Act.eval, Act.put]) _ (K2.out _) ?_; rintro e w' ⟨rfl, rfl⟩; refine ⟨_, rfl, ?_⟩)
          | (refine step_append_new wr ⟨rfl, rfl, rfl, rfl⟩ rfl (.tmp 45) (.tmp 58) 62 rfl g 64 _ 2 16 info_span rfl (by decide) Try.underlying62 u5 k _ (by simp [Act.eval]) hv rfl (one_two _ _) (by simp [Act.eval]) (by omega) (by decide) hgs ?_; intro v0 x0 nw g0 d0))
        all_goals rw [WR.out] at nw
        all_goals have bl0 := append_step hv hbl (Nat.le_of_eq HG.out.symm) g0
        all_goals go_wp2
        all_goals go_roundw
        all_goals first
          | exact ⟨k + 1, by omega, by go_num, by simp only [spanCells]; rw [U2.out, L2.out]; exact nw, bl0⟩
          | (simp [intOf]; omega)
      · have U2 := hidp (show upT z0 k = -1 by rw [U.out, if_neg h2])
        have L2 := hidp (show lvT z0 k = 0 by rw [L.out, if_neg h2])
        have n2 : (ni : Int) < 2 := by omega
        have K1 := hidp (fun W => by have := within_c 0 ((k : Int) + 1) (by omega) (by omega) W; rw [show wi 0 ((k : Int) + 1) = 0 from by unfold wi; simp] at this; exact this)
        have K2 := hidp (fun W => by have := within_c 0 7 (by omega) (by omega) W; rw [show wi 0 7 = 0 from by decide] at this; exact this)
        have WK := hidp (show IntKind.i64.wrap ((k : Int) + 1) = (k : Int) + 1 from IntWalk.i64_in _ (by constructor <;> omega))
        have q0 : (wr.alloc (.cells #[.int .i64 0, .int .i64 0] 3)).cell? ⟨wr.heap.size, 0, none⟩ = some (.int .i64 0) := by go_simp
        have q1 : (wr.alloc (.cells #[.int .i64 0, .int .i64 0] 3)).cell? ⟨wr.heap.size, 1, none⟩ = some (.int .i64 0) := by go_simp
        have hv2 : (wr.alloc (.cells #[.int .i64 0, .int .i64 0] 3)).ownsRow g 64 2 u5 k (spanCells (upT z0) (lvT z0) k) := hv.alloc _
        have hbl2 : Below g wa (wr.alloc (.cells #[.int .i64 0, .int .i64 0] 3)) := hbl.alloc hgs _
        have hgs2 : g ≤ (wr.alloc (.cells #[.int .i64 0, .int .i64 0] 3)).heap.size := by simp; omega
        clear hx HR hI
        go_upto_region 10 with fail
        clear hc
        generalize hwn : wr.alloc (.cells #[.int .i64 0, .int .i64 0] 3) = wn at *
        generalize wr.heap.size = gb at *
        clear hwn hv hbl hgs
        have WM := hidp (show IntKind.i64.wrap (-1) = -1 from IntWalk.i64_in _ (by constructor <;> omega))
        go_region_law (first
          | (refine step_call rfl 27 #[.tmp 48, .tmp 50] _ rfl (fun _ _ => by kernel_rfl) #[.int .i64 0, .int .i64 ((k : Int) + 1)] (by simp [Act.eval, Act.put, WK.out]) _ (K1.out _) ?_; rintro e w' ⟨rfl, rfl⟩; refine ⟨_, rfl, ?_⟩)
          | (refine step_call rfl 27 #[.tmp 55, .const (.int .i64 7)] _ rfl (fun _ _ => by kernel_rfl) #[.int .i64 0, .int .i64 7] (by simp [Act.eval, Act.put]) _ (K2.out _) ?_; rintro e w' ⟨rfl, rfl⟩; refine ⟨_, rfl, ?_⟩)
          | (refine step_append_new wn ⟨rfl, rfl, rfl, rfl⟩ rfl (.tmp 45) (.tmp 58) 62 rfl g 64 _ 2 16 info_span rfl (by decide) Try.underlying62 u5 k _ (by simp [Act.eval]) hv2 rfl (one_two _ _) (by simp [Act.eval]) (by omega) (by decide) hgs2 ?_; intro v0 x0 nw g0 d0))
        all_goals rw [WM.out] at nw
        all_goals have bl0 := append_step hv2 hbl2 (Nat.le_of_eq HG.out.symm) g0
        all_goals go_wp2
        all_goals go_roundw
        all_goals first
          | exact ⟨k + 1, by omega, by go_num, by simp only [spanCells]; rw [U2.out, L2.out]; exact nw, bl0⟩
          | (simp [intOf]; omega)
    · obtain rfl : k = N := by omega
      obtain ⟨av, cv, hve, hsp⟩ := owns_spans hv
      subst hve
      have hok : SpansOk k (tab (upT z0) k) (tab (lvT z0) k) := fun i hi => by
        rw [tab_gi _ _ _ hi, tab_gi _ _ _ hi]
        have := upT_bd z0 i
        have := lvT_bd z0 i
        omega
      have hl0 : ∀ j, 0 ≤ gi (tab (lvT z0) k) j := fun j => by
        by_cases hj : j < k
        · rw [tab_gi _ _ _ hj]; exact (lvT_bd z0 j).1
        · unfold gi; rw [List.getD_eq_getElem?_getD, List.getElem?_eq_none (by rw [tab_len]; omega)]; simp
      have hwr : Below w.heap.size w wr := HWA.out.trans (hbl.mono hgw)
      generalize tab (upT z0) k = us at *
      generalize tab (lvT z0) k = ls at *
      have MD := hidp (fun i (hi : i < k) => show 0 ≤ mdS (gi us) k (gi ls) k i ∧ mdS (gi us) k (gi ls) k i ≤ 20 from ⟨mdS_ge _ _ _ 0 hl0 _ _, by have := mdS_le (gi us) k (gi ls) i k; have := (hok i hi).2.2.2; omega⟩)
      have MC := hidp (fun i (hi : i < k) h0 => mdS_closed (gi us) k (gi ls) (fun i hi => (hok i hi).2.1) k (Nat.le_refl _) i (by omega) hi h0)
      have UB := hidp (fun i (hi : i < k) => And.intro (hok i hi).1 (hok i hi).2.1)
      have OFR := ofN_lt nm
      have SP := hidp hsp
      have OKS := hidp hok
      clear hsp hok hl0 hv hbl HRA HG HWA H hgw
      generalize hM : mdS (gi us) k (gi ls) k = M at *
      have HM := hidp hM
      clear hM
      go_wp2_with fail
      refine (of_c nm hsz _).mono ?_
      rintro e w' ⟨rfl, rfl⟩
      generalize ofN nm = r at *
      go_wp2_with fail
      refine (mend_c _ _ _ us ls _ SP.out (by omega) OKS.out).mono ?_
      rintro e wb ⟨v, rfl, hv, hbb⟩
      rw [HM.out] at hv
      obtain ⟨am, cm, hve, hsm⟩ := owns_spans hv
      subst hve
      have hwb := bstep hwr hbb
      have hok2 : SpansOk k (tab (gi us) k) (tab M k) := fun i hi => by
        rw [tab_gi _ _ _ hi, tab_gi _ _ _ hi]
        have := UB.out i hi
        have := MD.out i hi
        omega
      have SM := hidp hsm
      have OK2 := hidp hok2
      have WH := hidp (whole (tab (gi us) k) M k (r : Nat) (fun i hi => by rw [tab_gi _ _ _ hi]; exact (UB.out i hi).2) (fun i hi h0 => by rw [tab_gi _ _ _ hi] at h0 ⊢; exact MC.out i hi h0))
      clear hsm hok2 hv hbb SP OKS hwr
      go_wp2_with fail
      refine (kept_c _ _ _ _ _ (r : Nat) _ SM.out (by omega) OK2.out (by omega) (by omega)).mono ?_
      rintro e wc ⟨v, rfl, hv, hbc⟩
      obtain ⟨ak, ckk, hve, hkb⟩ := owns_bools hv
      subst hve
      have hwc := bstep hwb hbc
      have SM := hidp (SM.out.below hbc)
      have KB := hidp hkb
      clear hv hbc hkb hwb
      go_wp2_with fail
      refine (whole_c _ _ _ _ _ _ _ _ _ SM.out KB.out (by omega) OK2.out).mono ?_
      rintro e wd ⟨rfl, hbd⟩
      rw [WH.out]
      have hwd := bstep hwc hbd
      have SM := hidp (SM.out.below hbd)
      have KB := hidp (KB.out.below hbd)
      clear hbd hwc
      go_wp2_with fail
      refine (count_c _ _ _ _ _ _ _ _ _ SM.out KB.out (by omega) OK2.out).mono ?_
      rintro e we ⟨rfl, hbe⟩
      have hwe := bstep hwd hbe
      have SM := hidp (SM.out.below hbe)
      clear hbe hwd KB
      have EST := hidp (cnt_est (tab M k) (r : Nat) k k (Nat.le_refl _))
      generalize cntS (tab M k) (tab (kb (tab M k) (r : Nat)) k) k = cnt at *
      have hne : ((k : Int) != (k : Int)) = false := by simp
      go_wp2_with fail
      clear hne
      have HWE := hidp hwe
      have LV := hidp (fun j (hj : j < k) => MD.out j hj)
      go_loopw [18, 120] (fun v i wr => ∃ j : Nat, j ≤ k ∧ i = .int .i64 j ∧ wr.ownsRow we.heap.size 3 1 v j ((tab M j).map (Value.int .i64)) ∧ Below we.heap.size we wr) (fun _ i _ => k - (intOf i).toNat)
      case atStart => exact ⟨0, by omega, rfl, World.ownsRow_nil _ _ _ _, Below.refl _ _⟩
      case round =>
        obtain ⟨j, hj, rfl, hv, hbl⟩ := hrel
        by_cases hlj : j < k
        · obtain ⟨b, o, rfl, _, hx⟩ := (SM.out.below hbl).cells (by omega)
          obtain ⟨q1, q2⟩ := hx j hlj
          rw [tab_gi _ _ _ hlj] at q1 q2
          have mS := SM.out.max
          have lS := SM.out.le
          have jI : (j : Int) < (k : Int) := by omega
          have hs : we.heap.size ≤ (wr.alloc (.cells #[.int .i64 (gi us j), .int .i64 (M j)] 64)).heap.size := by have := hbl.size; simp; omega
          have hv2 := hv.alloc (.cells #[.int .i64 (gi us j), .int .i64 (M j)] 64)
          have hbl2 : Below we.heap.size we (wr.alloc (.cells #[.int .i64 (gi us j), .int .i64 (M j)] 64)) := hbl.alloc hbl.size _
          clear hx
          go_wp2_with (at_builtin; go_loud (refine wpList_append_new rfl (.tmp 124) (.tmp 127) 22 rfl we.heap.size 3 _ 1 8 info_int rfl (by decide) Try.underlying22 _ j _ rfl hv2 rfl (one_int _ _) rfl (by simp) (by omega) (by decide) hs ?_; intro v0 x0 nw g0 d0))
          go_roundw
          case measure => simp [intOf]; omega
          case rel => exact ⟨j + 1, by omega, by go_num, by rw [tab_snoc, List.map_append]; exact nw, append_step hv2 hbl2 (Nat.le_refl _) g0⟩
        · obtain rfl : j = k := by omega
          obtain ⟨al, cl, hve, hal⟩ := owns_ints hv (fun x hx => by obtain ⟨i, hi, rfl⟩ := tab_mem _ _ _ hx; have := LV.out i hi; omega)
          subst hve
          have AL := hidp hal
          have hwr := bstep HWE.out hbl
          have ONE := hidp (show IntsAt (wr.alloc (.cells #[.int .i64 1] 3)) (some ⟨wr.heap.size, 0, none⟩) 1 1 [1] from ints_lit [1] rfl rfl rfl (by simp) (by omega))
          clear hv hal hbl SM
          go_wp2_with fail
          refine (repeat_c _ 1 1 j (by omega) _ ONE.out).mono ?_
          rintro e wf ⟨v, rfl, hv, hbf⟩
          obtain ⟨a1', c1', rfl, h1'⟩ := owns_ints hv (fun x hx => by obtain ⟨i, hi, rfl⟩ := tab_mem _ _ _ hx; omega)
          have hbf2 := bstep (bal (Below.refl wr.heap.size wr) _) hbf
          have AL := hidp (AL.out.below hbf2)
          have A1 := hidp h1'
          have hwf := bstep hwr hbf2
          have RR := hidp (show IntsAt (wf.alloc (.cells #[.int .i64 (r : Nat)] 3)) (some ⟨wf.heap.size, 0, none⟩) 1 1 [(r : Int)] from ints_lit [(r : Int)] rfl rfl rfl (by simp; omega) (by omega))
          clear hv h1' hbf hbf2 hwr ONE
          go_wp2_with fail
          refine (repeat_c _ 1 (r : Nat) j (by omega) _ RR.out).mono ?_
          rintro e wg ⟨v, rfl, hv, hbg⟩
          obtain ⟨a2', c2', rfl, h2'⟩ := owns_ints hv (fun x hx => by obtain ⟨i, hi, rfl⟩ := tab_mem _ _ _ hx; omega)
          have hbg2 := bstep (bal (Below.refl wf.heap.size wf) _) hbg
          have AL := hidp (AL.out.below hbg2)
          have A1 := hidp (A1.out.below hbg2)
          have A2 := hidp h2'
          have hwg := bstep hwf hbg2
          clear hv h2' hbg hbg2 hwf RR
          go_wp2_with fail
          refine (sum_ok _ _ _ j _ _ _ (tab (fun _ => 1) j) (tab M j) (tab (fun _ => (r : Int)) j) _ A1.out AL.out A2.out (by omega) (fun i hi => by rw [tab_gi _ _ _ hi]; omega) (fun i hi => by rw [tab_gi _ _ _ hi]; exact LV.out i hi) (fun i hi => by rw [tab_gi _ _ _ hi]; omega)).mono ?_
          rintro e wh ⟨rfl, hbh⟩
          rw [EST.out]
          have hwh := bstep hwg hbh
          clear hbh hwg A1 A2 AL
          go_wp2_with fail
          go_ret
          exact ⟨rfl, hwh⟩
end Go.Proofs.Ytmgagmnknhgkdaa.topTraces
