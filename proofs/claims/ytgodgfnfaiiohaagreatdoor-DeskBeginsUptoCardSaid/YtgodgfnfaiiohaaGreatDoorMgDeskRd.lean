/- Merged: DeskVal, DeskDoA, DeskDoB, Step, DeskDoC, DeskAt, DeskKeep, DeskPut, DeskPut2, DeskPut3, DeskPut4, DeskRd. -/
import Derived.Test.YtgodgfnfaiiohaaGreatDoorMgDeskSpec
import Derived.Test.YtgodgfnfaiiohaaGreatDoorMem
import Derived.Deep.RegionLaw
import Derived.Deep.RegionHeld3
import Derived.Deep.DeepCutAuto
import Derived.Deep.RegionWith
import Derived.Test.YtgodgfnfaiiohaaGreatDoorDeskMap
/- The operations that leave the desk alone: each with its value, its error, and their bounds. -/
namespace Go.Proofs.YtgodgfnfaiiohaaGreatDoor
open Go.ChangeShapes Go.WideShapes Go.ChangeAt Go.RowKit
set_option maxRecDepth 20000
set_option linter.unusedVariables false
open CombMath
/-- What a call answers whose answer is one number. -/
def OneP (w : World) (r : Res) (e : Ending) (w' : World) : Prop := ∃ V E : Int, e = .returned (.tuple #[.int .i64 V, .int .i64 E]) ∧ Hid (oneR V E = r ∧ (E = 0 → I64 V)) ∧ Below w.heap.size w w'
/-- What a call answers whose answer is a list. -/
def ManyP (w : World) (r : Res) (e : Ending) (w' : World) : Prop := ∃ (a : Option Addr) (n c : Nat) (l : List Int) (E : Int), e = .returned (.tuple #[.slice a n c, .int .i64 E]) ∧ Hid (manyR l E = r ∧ (E = 0 → IntsAt w' a n c l ∧ n ≤ 100000)) ∧ Below w.heap.size w w'
theorem many_of {w w' : World} {v : Value} {n : Nat} {l : List Int} {r : Res} (ho : w'.ownsRow w.heap.size 3 1 v n (l.map (Value.int .i64))) (hl : n ≤ 100000) (hb : ∀ x ∈ l, I64 x) (hr : manyR l 0 = r) (hB : Below w.heap.size w w') : ManyP w r (.returned (.tuple #[v, .int .i64 0])) w' := by
  obtain ⟨a, c, rfl, hi⟩ := owns_ints ho hb
  exact ⟨a, n, c, l, 0, rfl, ⟨hr, fun _ => ⟨hi, hl⟩⟩, hB⟩
theorem many_no {w w' : World} {l : List Int} {r : Res} {E : Int} (hE : E ≠ 0) (hr : manyR l E = r) (hB : Below w.heap.size w w') : ManyP w r (.returned (.tuple #[.slice none 0 0, .int .i64 E])) w' :=
  ⟨none, 0, 0, l, E, rfl, ⟨hr, fun e => absurd e hE⟩, hB⟩
theorem estW_i64 (vs ls rs : List Int) : ∀ n, I64 (estW vs ls rs n)
  | 0 => by unfold I64; simp [estW]
  | n + 1 => by
    simp only [estW]
    split
    · unfold I64 wrap64; omega
    · exact estW_i64 vs ls rs n
theorem sumV_bd (x y z : List Int) (h : sumE x y z x.length y.length z.length = 0) : I64 (sumV x y z x.length y.length z.length) := by
  unfold sumV
  rw [if_pos h]
  exact estW_i64 _ _ _ _
theorem qasV_bd (L : List Rl) (s : ByteArray) (ho : BdOk L) : I64 (qasV L s) := by
  unfold qasV askL
  split
  · split
    · unfold I64; omega
    · rename_i hz
      have hle := askI_le L s L.length
      have hm : (rp L (askI L s L.length - 1), rl L (askI L s L.length - 1), re L (askI L s L.length - 1)) ∈ L := rmem L _ (by omega)
      have := ho.one _ hm
      unfold oneE at this
      split at this
      · omega
      · split at this
        · omega
        · rename_i hn
          unfold numE at hn
          unfold I64
          simp at hn
          omega
  · unfold I64; omega
theorem third_pos (L : List Int) (h : BotOk 3 L) (hl : L.length = 3) : 2 ≤ gi L 2 := by
  match L, hl with
  | [x, y, z], _ =>
    have r := h.ris
    unfold Rising at r
    have b := (h.bd x (by simp)).1
    simp at r
    show 2 ≤ z
    omega
theorem rank_v (a : Option Addr) (n c : Nat) (l : List Int) (D : DeskSt) (w : World) (h : IntsAt w a n c l) :
    Calls Tryz.prog 36 #[.slice a n c] w (OneP w (opF D (.rank l)).1) := by
  obtain rfl := h.len
  refine (drank_x a _ c l w h).mono ?_
  rintro e w' ⟨V, rfl, hV, hb⟩
  refine ⟨V, _, rfl, ⟨by rw [hV.out]; show oneR _ _ = oneR _ _; congr 1; split <;> rfl, fun h0 => ?_⟩, hb⟩
  have := rkD_le l l.length (dkE_ok l _ h0).1 l.length (Nat.le_refl _)
  rw [hV.out, if_pos h0]
  unfold I64; omega
theorem comb_v (a : Option Addr) (n c : Nat) (l : List Int) (D : DeskSt) (w : World) (h : IntsAt w a n c l) :
    Calls Tryz.prog 38 #[.slice a n c] w (OneP w (opF D (.comb l)).1) := by
  obtain rfl := h.len
  refine (crank_x a _ c l w h).mono ?_
  rintro e w' ⟨V, rfl, hV, hb⟩
  refine ⟨V, _, rfl, ⟨by rw [hV.out]; show oneR _ _ = oneR _ _; congr 1; split <;> rfl, fun h0 => ?_⟩, hb⟩
  have hok := ckE_ok l _ h0
  have h1 := rs_bd (cN l) l.length (fun i hi => by have := hok.2 i hi; unfold cN; omega)
  have h2 : 155117520 * l.length ≤ 155117520 * 30 := Nat.mul_le_mul_left _ hok.1
  rw [hV.out, if_pos h0]
  unfold I64; omega
theorem hash_v (s : ByteArray) (hs : s.size ≤ 9223372036854775807) (D : DeskSt) (w : World) :
    Calls Tryz.prog 49 #[.string s] w (OneP w (opF D (.hash s)).1) := by
  refine (mixText.of_all s hs w).mono ?_
  rintro e w' ⟨rfl, rfl⟩
  have := mixText.ofI_bd s
  exact ⟨_, _, rfl, ⟨rfl, fun _ => by unfold I64; omega⟩, Below.refl _ _⟩
theorem part_v (x y : Int) (D : DeskSt) (w : World) :
    Calls Tryz.prog 55 #[.int .i64 x, .int .i64 y] w (OneP w (opF D (.part x y)).1) := by
  refine (part_x x y w).mono ?_
  rintro e w' ⟨rfl, hb⟩
  refine ⟨_, _, rfl, ⟨rfl, fun h0 => ?_⟩, hb⟩
  have hp : 1 ≤ x ∧ x ≤ y ∧ y ≤ 1000000000000 := Classical.byContradiction fun hh => by
    unfold qpaE at h0; rw [if_neg hh] at h0; omega
  obtain ⟨b1, b2⟩ := cq_le x.toNat y.toNat (by omega) (by omega)
  unfold qpaV I64
  rw [if_pos h0]
  have h3 : cq x.toNat y.toNat ≤ 72057594037927936 := by
    unfold cq
    by_cases hr : 0 < 72057594037927936 * x.toNat % y.toNat
    · rw [if_pos hr]; exact b2 hr
    · rw [if_neg hr]; exact b1
  omega
theorem count_v (x y : Int) (D : DeskSt) (w : World) :
    Calls Tryz.prog 57 #[.int .i64 x, .int .i64 y] w (OneP w (opF D (.count x y)).1) := by
  refine (count_x x y w).mono ?_
  rintro e w' ⟨rfl, hb⟩
  refine ⟨_, _, rfl, ⟨rfl, fun h0 => ?_⟩, hb⟩
  have h1 : qcoV x y = ((72057594037927936 * x.toNat / (72057594037927936 - y).toNat : Nat) : Int) := by unfold qcoV; rw [if_pos h0]
  have h2 : ¬ (4611686018427387904 : Int) < ((72057594037927936 * x.toNat / (72057594037927936 - y).toNat : Nat) : Int) := fun hh => by
    unfold qcoE at h0
    rw [if_pos hh] at h0
    split at h0
    · split at h0 <;> omega
    · omega
  rw [h1]
  generalize 72057594037927936 * x.toNat / (72057594037927936 - y).toNat = q at h2 ⊢
  unfold I64
  omega
theorem order_v (x y : Int) (hx : 0 ≤ x) (hy : 0 ≤ y) (D : DeskSt) (w : World) :
    Calls Tryz.prog 67 #[.int .i64 x, .int .i64 y] w (ManyP w (opF D (.order x y)).1) := by
  by_cases hE : qodE x y = 0
  · obtain ⟨n, rfl⟩ := Int.eq_ofNat_of_zero_le hx
    obtain ⟨r, rfl⟩ := Int.eq_ofNat_of_zero_le hy
    have h12 : ¬ (12 : Int) < (n : Int) := fun hh => by unfold qodE at hE; rw [if_pos hh] at hE; omega
    have hr : ¬ (fct n : Int) ≤ (r : Int) := fun hh => by unfold qodE at hE; rw [if_neg h12] at hE; rw [if_pos (by exact hh)] at hE; omega
    refine (order_c n r _ _ rfl rfl (by omega) (by omega) w).mono ?_
    rintro e w' ⟨v, rfl, hO, hB⟩
    refine many_of hO (by omega) (fun z hz => ?_) ?_ hB
    · have hp := ordL_perm n r (idn n) (by unfold idn; rw [tab_len]) (by omega)
      obtain ⟨j, hj, rfl⟩ := tab_mem _ _ _ (hp.mem_iff.1 hz)
      unfold I64; omega
    · show _ = manyR _ (qodE _ _)
      rw [hE]; rfl
  · refine (order_bad x y hx hy hE w).mono ?_
    rintro e w' ⟨rfl, hB⟩
    exact many_no hE rfl hB
theorem some_v (x y : Int) (hx : 0 ≤ x) (hx2 : x ≤ 9223372036854775807) (hy : 0 ≤ y) (D : DeskSt) (w : World) :
    Calls Tryz.prog 65 #[.int .i64 x, .int .i64 y] w (ManyP w (opF D (.some x y)).1) := by
  obtain ⟨n, rfl⟩ := Int.eq_ofNat_of_zero_le hx
  by_cases hE : smE n y = 0
  · have h1 : ¬ 30 < n := fun h => by unfold smE at hE; rw [if_pos h] at hE; omega
    have h2 : ¬ (y < 0 ∨ (wz 30 n : Int) ≤ y) := fun h => by unfold smE at hE; rw [if_neg h1, if_pos h] at hE; omega
    obtain ⟨q, rfl⟩ := Int.eq_ofNat_of_zero_le hy
    refine (some_c n q (by omega) (by omega) w).mono ?_
    rintro e w' ⟨v, rfl, hO, hB⟩
    refine many_of hO (by omega) (fun z hz => ?_) ?_ hB
    · obtain ⟨j, hj, rfl⟩ := tab_mem _ _ _ hz
      have := (top_spec (j + 1) (rk n q (n - 1 - j)) (by omega) (by omega)).2.1
      unfold someF I64
      omega
    · show _ = manyR _ (smE _ _)
      rw [show smE (n : Int).toNat (q : Int) = 0 from hE]; rfl
  · refine (some_bad n y hE (by omega) w).mono ?_
    rintro e w' ⟨rfl, rfl⟩
    exact many_no hE rfl (Below.refl _ _)
theorem piI_le (xs : List Int) (p : Int) : ∀ n, qpiI xs p n ≤ n
  | 0 => Nat.le_refl _
  | n + 1 => by simp only [qpiI]; have := piI_le xs p n; split <;> omega
theorem pick_v (p : Int) (a : Option Addr) (n c : Nat) (l : List Int) (D : DeskSt) (w : World) (h : IntsAt w a n c l) :
    Calls Tryz.prog 73 #[.slice a n c, .int .i64 p] w (OneP w (opF D (.pick p l)).1) := by
  obtain rfl := h.len
  have hm := h.max
  have hl := h.le
  refine (pick_x a _ c l p w h).mono ?_
  rintro e w' ⟨rfl, hb⟩
  refine ⟨_, _, rfl, ⟨rfl, fun h0 => ?_⟩, hb⟩
  have := piI_le l p l.length
  unfold qpiV I64
  rw [if_pos h0]
  omega
theorem fair_v (p : Int) (a : Option Addr) (n c : Nat) (l : List Int) (D : DeskSt) (w : World) (h : IntsAt w a n c l) :
    Calls Tryz.prog 69 #[.int .i64 p, .slice a n c] w (ManyP w (opF D (.fair p l)).1) := by
  obtain rfl := h.len
  by_cases hE : qfrE l l.length p = 0
  · have hw : wantE l l.length = 0 := Classical.byContradiction fun hh => hh (by unfold qfrE at hE; rw [if_neg hh] at hE; exact hE)
    have hr : 0 ≤ p ∧ p ≤ 1000000000000 := Classical.byContradiction fun hh => by
      unfold qfrE at hE; rw [if_pos hw, if_neg hh] at hE; omega
    obtain ⟨h1, h2⟩ := want_zero l l.length hw
    refine (fair_c p a _ c l w h hw hr.1 hr.2).mono ?_
    rintro e w' ⟨v, rfl, hO, hB⟩
    refine many_of hO (by omega) (fun z hz => ?_) ?_ hB
    · obtain ⟨j, hj, rfl⟩ := tab_mem _ _ _ hz
      have := FairM.fair_bd l l.length p hr.1 (fun i hi => (h2 i hi).1) j hj
      have := h2 j hj
      unfold I64; omega
    · show _ = manyR _ (qfrE _ _ _)
      rw [hE]
  · refine (fair_bad_e p a _ c l w h hE).mono ?_
    rintro e w' ⟨rfl, hB⟩
    exact many_no hE rfl hB
theorem level_v (p : Int) (a : Option Addr) (n c : Nat) (l : List Int) (D : DeskSt) (w : World) (h : IntsAt w a n c l) :
    Calls Tryz.prog 71 #[.int .i64 p, .slice a n c] w (OneP w (opF D (.level p l)).1) := by
  obtain rfl := h.len
  refine (level_x p a _ c l w h).mono ?_
  rintro e w' ⟨rfl, hb⟩
  refine ⟨_, _, rfl, ⟨rfl, fun h0 => ?_⟩, hb⟩
  unfold qleV lvA I64
  split
  · split <;> omega
  · omega
theorem even_v (k s : Int) (a : Option Addr) (n c : Nat) (l : List Int) (D : DeskSt) (w : World) (h : IntsAt w a n c l) :
    Calls Tryz.prog 75 #[.slice a n c, .int .i64 k, .int .i64 s] w (ManyP w (opF D (.even k s l)).1) := by
  obtain rfl := h.len
  by_cases hE : evE l l.length k s = 0
  · obtain ⟨h0, h1, h2, h3, h4⟩ := evE_zero l l.length k s hE
    obtain ⟨g1, g2, g3⟩ := wtsE_zero l l.length h0
    obtain ⟨K, rfl⟩ := Int.eq_ofNat_of_zero_le (show 0 ≤ k by omega)
    obtain ⟨S, rfl⟩ := Int.eq_ofNat_of_zero_le h3
    refine (even_ok a _ c l K S _ _ rfl rfl w h g1 g2 (by omega) (by omega) h4).mono ?_
    rintro e w' ⟨v, rfl, hO, hB⟩
    refine many_of hO (by omega) (fun x hx => ?_) ?_ hB
    · obtain ⟨j, hj, rfl⟩ := tab_mem _ _ _ hx
      have := SortMath.cn_le (hit l K (sumK l l.length) S j) (K : Int).toNat
      unfold evM evF I64
      omega
    · show _ = manyR _ (evE _ _ _ _)
      rw [hE]
  · refine (even_bad a _ c l k s w h hE).mono ?_
    rintro e w' ⟨rfl, rfl⟩
    exact many_no hE rfl (Below.refl _ _)
theorem est_v (a0 a1 a2 : Option Addr) (n m q c0 c1 c2 : Nat) (x y z : List Int) (D : DeskSt) (w : World) (h0 : IntsAt w a0 n c0 x) (h1 : IntsAt w a1 m c1 y) (h2 : IntsAt w a2 q c2 z) :
    Calls Tryz.prog 77 #[.slice a0 n c0, .slice a1 m c1, .slice a2 q c2] w (OneP w (opF D (.est x y z)).1) := by
  obtain rfl := h0.len
  obtain rfl := h1.len
  obtain rfl := h2.len
  refine (sum_e a0 a1 a2 _ _ _ c0 c1 c2 x y z w h0 h1 h2).mono ?_
  rintro e w' ⟨rfl, hb⟩
  refine ⟨_, _, rfl, ⟨rfl, fun hz => ?_⟩, hb⟩
  exact sumV_bd x y z hz
theorem of_v (a : Option Addr) (n c : Nat) (D : DeskSt) (s : ByteArray) (w : World) (h : RulesAt w a n c D.rules) (ho : BdOk D.rules) :
    Calls Tryz.prog 121 #[.slice a n c, .string s] w (OneP w (opF D (.of s)).1) := by
  refine (dask_x a n c D.rules s w h ho).mono ?_
  rintro e w' ⟨rfl, hb⟩
  refine ⟨_, _, rfl, ⟨rfl, fun hz => ?_⟩, hb⟩
  exact qasV_bd D.rules s ho
theorem many_v (a : Option Addr) (n c : Nat) (D : DeskSt) (w : World) (h : IntsAt w a n c D.nums) (ho : BotOk 3 D.nums) :
    Calls Tryz.prog 113 #[.agg #[.int .i64 3, .slice a n c]] w (OneP w (opF D .many).1) := by
  obtain rfl := h.len
  by_cases hn : D.nums.length < 3
  · refine (many_few 3 a _ c D.nums w h ho hn).mono ?_
    rintro e w' ⟨rfl, hb⟩
    refine ⟨_, _, rfl, ⟨?_, fun _ => by unfold I64; omega⟩, hb⟩
    show _ = if D.nums.length < 3 then _ else _
    rw [if_pos hn]
  · have hn3 : D.nums.length = 3 := by have := ho.ln; omega
    have hy := third_pos D.nums ho hn3
    obtain ⟨Y, hY⟩ := Int.eq_ofNat_of_zero_le (show 0 ≤ gi D.nums 2 by omega)
    rw [hn3] at h
    rw [hn3]
    refine (many_est 3 a c D.nums w h ho Y hY (by omega)).mono ?_
    rintro e w' ⟨rfl, hb⟩
    refine ⟨_, _, rfl, ⟨?_, fun _ => ?_⟩, hb⟩
    · show _ = if D.nums.length < 3 then _ else _
      rw [if_neg hn, hY]
      rfl
    · have : 72057594037927936 * (3 - 1) / Y ≤ 72057594037927936 * (3 - 1) := Nat.div_le_self _ _
      generalize 72057594037927936 * (3 - 1) / Y = q at this ⊢
      unfold I64; omega
end Go.Proofs.YtgodgfnfaiiohaaGreatDoor

/- The functions that 'read' hands back, of those that leave the desk alone. -/
namespace Go.Proofs.YtgodgfnfaiiohaaGreatDoor
open Go.ChangeShapes Go.WideShapes Go.ChangeAt Go.RowKit
set_option maxRecDepth 20000
set_option linter.unusedVariables false
theorem Tabs.on {w w' : World} (h : Tabs w) (hb : Below w.heap.size w w') : Tabs w' := h.below (hb.mono h.size)
set_option maxHeartbeats 2000000 in
theorem do_hash (b0 : Nat) (x0 : ByteArray) (D : DeskSt) (W : World) (hT : Tabs W) (q0 : W.cell? ⟨b0, 0, none⟩ = some (.string x0)) (p0 : x0.size ≤ 65536) :
    Calls Tryz.prog 48 #[.pointer (some ⟨b0, 0, none⟩)] W fun e w' => AnsX (opF D (.hash x0)).1 e ∧ Below W.heap.size W w' := by
  have CT := hidp (hash_v x0 (by omega) D W )
  have ON := hidp (fun V E w1 (hB : Below W.heap.size W w1) h => one_x V E w1 (hT.on hB) h)
  generalize (opF D (.hash x0)).1 = r at *
  clear hT p0
  go_enter Tryz.func48, Tryz.ntmps48
  go_wp2_with fail
  refine CT.out.mono ?_
  rintro e w1 ⟨V, E, rfl, hv, hb⟩
  have HB := hidp hb
  clear CT hb
  go_wp2_with fail
  refine (ON.out V E w1 HB.out hv.out.2).mono ?_
  rintro e w2 ⟨hx, hb2⟩
  rw [hv.out.1] at hx
  have hb3 := bstep HB.out hb2
  clear ON hv HB hb2
  rcases hx with ⟨s, h1, rfl⟩ | ⟨c, h1, rfl⟩
  · have H1 := hidp h1
    clear h1
    go_wp2
    go_ret
    exact ⟨.inl ⟨s, H1.out, rfl⟩, hb3⟩
  · have H1 := hidp h1
    clear h1
    go_wp2
    exact ⟨rfl, .inr ⟨c, H1.out, rfl⟩, hb3⟩
set_option maxHeartbeats 2000000 in
theorem do_part (b0 : Nat) (x0 : Int) (b1 : Nat) (x1 : Int) (D : DeskSt) (W : World) (hT : Tabs W) (q0 : W.cell? ⟨b0, 0, none⟩ = some (.int .i64 x0)) (p0 : 0 ≤ x0 ∧ x0 ≤ 9223372036854775807) (q1 : W.cell? ⟨b1, 0, none⟩ = some (.int .i64 x1)) (p1 : 0 ≤ x1 ∧ x1 ≤ 9223372036854775807) :
    Calls Tryz.prog 54 #[.pointer (some ⟨b0, 0, none⟩), .pointer (some ⟨b1, 0, none⟩)] W fun e w' => AnsX (opF D (.part x0 x1)).1 e ∧ Below W.heap.size W w' := by
  have CT := hidp (part_v x0 x1 D W )
  have ON := hidp (fun V E w1 (hB : Below W.heap.size W w1) h => one_x V E w1 (hT.on hB) h)
  generalize (opF D (.part x0 x1)).1 = r at *
  clear hT p0 p1
  go_enter Tryz.func54, Tryz.ntmps54
  go_wp2_with fail
  refine CT.out.mono ?_
  rintro e w1 ⟨V, E, rfl, hv, hb⟩
  have HB := hidp hb
  clear CT hb
  go_wp2_with fail
  refine (ON.out V E w1 HB.out hv.out.2).mono ?_
  rintro e w2 ⟨hx, hb2⟩
  rw [hv.out.1] at hx
  have hb3 := bstep HB.out hb2
  clear ON hv HB hb2
  rcases hx with ⟨s, h1, rfl⟩ | ⟨c, h1, rfl⟩
  · have H1 := hidp h1
    clear h1
    go_wp2
    go_ret
    exact ⟨.inl ⟨s, H1.out, rfl⟩, hb3⟩
  · have H1 := hidp h1
    clear h1
    go_wp2
    exact ⟨rfl, .inr ⟨c, H1.out, rfl⟩, hb3⟩
set_option maxHeartbeats 2000000 in
theorem do_count (b0 : Nat) (x0 : Int) (b1 : Nat) (x1 : Int) (D : DeskSt) (W : World) (hT : Tabs W) (q0 : W.cell? ⟨b0, 0, none⟩ = some (.int .i64 x0)) (p0 : 0 ≤ x0 ∧ x0 ≤ 9223372036854775807) (q1 : W.cell? ⟨b1, 0, none⟩ = some (.int .i64 x1)) (p1 : 0 ≤ x1 ∧ x1 ≤ 9223372036854775807) :
    Calls Tryz.prog 56 #[.pointer (some ⟨b0, 0, none⟩), .pointer (some ⟨b1, 0, none⟩)] W fun e w' => AnsX (opF D (.count x0 x1)).1 e ∧ Below W.heap.size W w' := by
  have CT := hidp (count_v x0 x1 D W )
  have ON := hidp (fun V E w1 (hB : Below W.heap.size W w1) h => one_x V E w1 (hT.on hB) h)
  generalize (opF D (.count x0 x1)).1 = r at *
  clear hT p0 p1
  go_enter Tryz.func56, Tryz.ntmps56
  go_wp2_with fail
  refine CT.out.mono ?_
  rintro e w1 ⟨V, E, rfl, hv, hb⟩
  have HB := hidp hb
  clear CT hb
  go_wp2_with fail
  refine (ON.out V E w1 HB.out hv.out.2).mono ?_
  rintro e w2 ⟨hx, hb2⟩
  rw [hv.out.1] at hx
  have hb3 := bstep HB.out hb2
  clear ON hv HB hb2
  rcases hx with ⟨s, h1, rfl⟩ | ⟨c, h1, rfl⟩
  · have H1 := hidp h1
    clear h1
    go_wp2
    go_ret
    exact ⟨.inl ⟨s, H1.out, rfl⟩, hb3⟩
  · have H1 := hidp h1
    clear h1
    go_wp2
    exact ⟨rfl, .inr ⟨c, H1.out, rfl⟩, hb3⟩
set_option maxHeartbeats 2000000 in
theorem do_some (b0 : Nat) (x0 : Int) (b1 : Nat) (x1 : Int) (D : DeskSt) (W : World) (hT : Tabs W) (q0 : W.cell? ⟨b0, 0, none⟩ = some (.int .i64 x0)) (p0 : 0 ≤ x0 ∧ x0 ≤ 9223372036854775807) (q1 : W.cell? ⟨b1, 0, none⟩ = some (.int .i64 x1)) (p1 : 0 ≤ x1 ∧ x1 ≤ 9223372036854775807) :
    Calls Tryz.prog 63 #[.pointer (some ⟨b0, 0, none⟩), .pointer (some ⟨b1, 0, none⟩)] W fun e w' => AnsX (opF D (.some x0 x1)).1 e ∧ Below W.heap.size W w' := by
  have CT := hidp (some_v x0 x1 p0.1 p0.2 p1.1 D W )
  have ON := hidp (fun a n c l E w1 (hB : Below W.heap.size W w1) h => many_x a n c l E w1 (hT.on hB) h)
  generalize (opF D (.some x0 x1)).1 = r at *
  clear hT p0 p1
  go_enter Tryz.func63, Tryz.ntmps63
  go_wp2_with fail
  refine CT.out.mono ?_
  rintro e w1 ⟨a, n, c, l, E, rfl, hv, hb⟩
  have HB := hidp hb
  clear CT hb
  go_wp2_with fail
  refine (ON.out a n c l E w1 HB.out hv.out.2).mono ?_
  rintro e w2 ⟨hx, hb2⟩
  rw [hv.out.1] at hx
  have hb3 := bstep HB.out hb2
  clear ON hv HB hb2
  rcases hx with ⟨s, h1, rfl⟩ | ⟨c, h1, rfl⟩
  · have H1 := hidp h1
    clear h1
    go_wp2
    go_ret
    exact ⟨.inl ⟨s, H1.out, rfl⟩, hb3⟩
  · have H1 := hidp h1
    clear h1
    go_wp2
    exact ⟨rfl, .inr ⟨c, H1.out, rfl⟩, hb3⟩
set_option maxHeartbeats 2000000 in
theorem do_order (b0 : Nat) (x0 : Int) (b1 : Nat) (x1 : Int) (D : DeskSt) (W : World) (hT : Tabs W) (q0 : W.cell? ⟨b0, 0, none⟩ = some (.int .i64 x0)) (p0 : 0 ≤ x0 ∧ x0 ≤ 9223372036854775807) (q1 : W.cell? ⟨b1, 0, none⟩ = some (.int .i64 x1)) (p1 : 0 ≤ x1 ∧ x1 ≤ 9223372036854775807) :
    Calls Tryz.prog 66 #[.pointer (some ⟨b0, 0, none⟩), .pointer (some ⟨b1, 0, none⟩)] W fun e w' => AnsX (opF D (.order x0 x1)).1 e ∧ Below W.heap.size W w' := by
  have CT := hidp (order_v x0 x1 p0.1 p1.1 D W )
  have ON := hidp (fun a n c l E w1 (hB : Below W.heap.size W w1) h => many_x a n c l E w1 (hT.on hB) h)
  generalize (opF D (.order x0 x1)).1 = r at *
  clear hT p0 p1
  go_enter Tryz.func66, Tryz.ntmps66
  go_wp2_with fail
  refine CT.out.mono ?_
  rintro e w1 ⟨a, n, c, l, E, rfl, hv, hb⟩
  have HB := hidp hb
  clear CT hb
  go_wp2_with fail
  refine (ON.out a n c l E w1 HB.out hv.out.2).mono ?_
  rintro e w2 ⟨hx, hb2⟩
  rw [hv.out.1] at hx
  have hb3 := bstep HB.out hb2
  clear ON hv HB hb2
  rcases hx with ⟨s, h1, rfl⟩ | ⟨c, h1, rfl⟩
  · have H1 := hidp h1
    clear h1
    go_wp2
    go_ret
    exact ⟨.inl ⟨s, H1.out, rfl⟩, hb3⟩
  · have H1 := hidp h1
    clear h1
    go_wp2
    exact ⟨rfl, .inr ⟨c, H1.out, rfl⟩, hb3⟩
set_option maxHeartbeats 2000000 in
theorem do_fair (b0 : Nat) (x0 : Int) (b1 : Nat) (a1 : Option Addr) (n1 c1 : Nat) (x1 : List Int) (D : DeskSt) (W : World) (hT : Tabs W) (q0 : W.cell? ⟨b0, 0, none⟩ = some (.int .i64 x0)) (p0 : 0 ≤ x0 ∧ x0 ≤ 9223372036854775807) (q1 : W.cell? ⟨b1, 0, none⟩ = some (.slice a1 n1 c1)) (p1 : IntsAt W a1 n1 c1 x1) :
    Calls Tryz.prog 68 #[.pointer (some ⟨b0, 0, none⟩), .pointer (some ⟨b1, 0, none⟩)] W fun e w' => AnsX (opF D (.fair x0 x1)).1 e ∧ Below W.heap.size W w' := by
  have CT := hidp (fair_v x0 a1 n1 c1 x1 D W p1)
  have ON := hidp (fun a n c l E w1 (hB : Below W.heap.size W w1) h => many_x a n c l E w1 (hT.on hB) h)
  generalize (opF D (.fair x0 x1)).1 = r at *
  clear hT p0 p1
  go_enter Tryz.func68, Tryz.ntmps68
  go_wp2_with fail
  refine CT.out.mono ?_
  rintro e w1 ⟨a, n, c, l, E, rfl, hv, hb⟩
  have HB := hidp hb
  clear CT hb
  go_wp2_with fail
  refine (ON.out a n c l E w1 HB.out hv.out.2).mono ?_
  rintro e w2 ⟨hx, hb2⟩
  rw [hv.out.1] at hx
  have hb3 := bstep HB.out hb2
  clear ON hv HB hb2
  rcases hx with ⟨s, h1, rfl⟩ | ⟨c, h1, rfl⟩
  · have H1 := hidp h1
    clear h1
    go_wp2
    go_ret
    exact ⟨.inl ⟨s, H1.out, rfl⟩, hb3⟩
  · have H1 := hidp h1
    clear h1
    go_wp2
    exact ⟨rfl, .inr ⟨c, H1.out, rfl⟩, hb3⟩
set_option maxHeartbeats 2000000 in
theorem do_level (b0 : Nat) (x0 : Int) (b1 : Nat) (a1 : Option Addr) (n1 c1 : Nat) (x1 : List Int) (D : DeskSt) (W : World) (hT : Tabs W) (q0 : W.cell? ⟨b0, 0, none⟩ = some (.int .i64 x0)) (p0 : 0 ≤ x0 ∧ x0 ≤ 9223372036854775807) (q1 : W.cell? ⟨b1, 0, none⟩ = some (.slice a1 n1 c1)) (p1 : IntsAt W a1 n1 c1 x1) :
    Calls Tryz.prog 70 #[.pointer (some ⟨b0, 0, none⟩), .pointer (some ⟨b1, 0, none⟩)] W fun e w' => AnsX (opF D (.level x0 x1)).1 e ∧ Below W.heap.size W w' := by
  have CT := hidp (level_v x0 a1 n1 c1 x1 D W p1)
  have ON := hidp (fun V E w1 (hB : Below W.heap.size W w1) h => one_x V E w1 (hT.on hB) h)
  generalize (opF D (.level x0 x1)).1 = r at *
  clear hT p0 p1
  go_enter Tryz.func70, Tryz.ntmps70
  go_wp2_with fail
  refine CT.out.mono ?_
  rintro e w1 ⟨V, E, rfl, hv, hb⟩
  have HB := hidp hb
  clear CT hb
  go_wp2_with fail
  refine (ON.out V E w1 HB.out hv.out.2).mono ?_
  rintro e w2 ⟨hx, hb2⟩
  rw [hv.out.1] at hx
  have hb3 := bstep HB.out hb2
  clear ON hv HB hb2
  rcases hx with ⟨s, h1, rfl⟩ | ⟨c, h1, rfl⟩
  · have H1 := hidp h1
    clear h1
    go_wp2
    go_ret
    exact ⟨.inl ⟨s, H1.out, rfl⟩, hb3⟩
  · have H1 := hidp h1
    clear h1
    go_wp2
    exact ⟨rfl, .inr ⟨c, H1.out, rfl⟩, hb3⟩
set_option maxHeartbeats 2000000 in
theorem do_pick (b0 : Nat) (a0 : Option Addr) (n0 c0 : Nat) (x0 : List Int) (b1 : Nat) (x1 : Int) (D : DeskSt) (W : World) (hT : Tabs W) (q0 : W.cell? ⟨b0, 0, none⟩ = some (.slice a0 n0 c0)) (p0 : IntsAt W a0 n0 c0 x0) (q1 : W.cell? ⟨b1, 0, none⟩ = some (.int .i64 x1)) (p1 : 0 ≤ x1 ∧ x1 ≤ 9223372036854775807) :
    Calls Tryz.prog 72 #[.pointer (some ⟨b0, 0, none⟩), .pointer (some ⟨b1, 0, none⟩)] W fun e w' => AnsX (opF D (.pick x1 x0)).1 e ∧ Below W.heap.size W w' := by
  have CT := hidp (pick_v x1 a0 n0 c0 x0 D W p0)
  have ON := hidp (fun V E w1 (hB : Below W.heap.size W w1) h => one_x V E w1 (hT.on hB) h)
  generalize (opF D (.pick x1 x0)).1 = r at *
  clear hT p0 p1
  go_enter Tryz.func72, Tryz.ntmps72
  go_wp2_with fail
  refine CT.out.mono ?_
  rintro e w1 ⟨V, E, rfl, hv, hb⟩
  have HB := hidp hb
  clear CT hb
  go_wp2_with fail
  refine (ON.out V E w1 HB.out hv.out.2).mono ?_
  rintro e w2 ⟨hx, hb2⟩
  rw [hv.out.1] at hx
  have hb3 := bstep HB.out hb2
  clear ON hv HB hb2
  rcases hx with ⟨s, h1, rfl⟩ | ⟨c, h1, rfl⟩
  · have H1 := hidp h1
    clear h1
    go_wp2
    go_ret
    exact ⟨.inl ⟨s, H1.out, rfl⟩, hb3⟩
  · have H1 := hidp h1
    clear h1
    go_wp2
    exact ⟨rfl, .inr ⟨c, H1.out, rfl⟩, hb3⟩
set_option maxHeartbeats 2000000 in
theorem do_even (b0 : Nat) (a0 : Option Addr) (n0 c0 : Nat) (x0 : List Int) (b1 : Nat) (x1 : Int) (b2 : Nat) (x2 : Int) (D : DeskSt) (W : World) (hT : Tabs W) (q0 : W.cell? ⟨b0, 0, none⟩ = some (.slice a0 n0 c0)) (p0 : IntsAt W a0 n0 c0 x0) (q1 : W.cell? ⟨b1, 0, none⟩ = some (.int .i64 x1)) (p1 : 0 ≤ x1 ∧ x1 ≤ 9223372036854775807) (q2 : W.cell? ⟨b2, 0, none⟩ = some (.int .i64 x2)) (p2 : 0 ≤ x2 ∧ x2 ≤ 9223372036854775807) :
    Calls Tryz.prog 74 #[.pointer (some ⟨b0, 0, none⟩), .pointer (some ⟨b1, 0, none⟩), .pointer (some ⟨b2, 0, none⟩)] W fun e w' => AnsX (opF D (.even x1 x2 x0)).1 e ∧ Below W.heap.size W w' := by
  have CT := hidp (even_v x1 x2 a0 n0 c0 x0 D W p0)
  have ON := hidp (fun a n c l E w1 (hB : Below W.heap.size W w1) h => many_x a n c l E w1 (hT.on hB) h)
  generalize (opF D (.even x1 x2 x0)).1 = r at *
  clear hT p0 p1 p2
  go_enter Tryz.func74, Tryz.ntmps74
  go_wp2_with fail
  refine CT.out.mono ?_
  rintro e w1 ⟨a, n, c, l, E, rfl, hv, hb⟩
  have HB := hidp hb
  clear CT hb
  go_wp2_with fail
  refine (ON.out a n c l E w1 HB.out hv.out.2).mono ?_
  rintro e w2 ⟨hx, hb2⟩
  rw [hv.out.1] at hx
  have hb3 := bstep HB.out hb2
  clear ON hv HB hb2
  rcases hx with ⟨s, h1, rfl⟩ | ⟨c, h1, rfl⟩
  · have H1 := hidp h1
    clear h1
    go_wp2
    go_ret
    exact ⟨.inl ⟨s, H1.out, rfl⟩, hb3⟩
  · have H1 := hidp h1
    clear h1
    go_wp2
    exact ⟨rfl, .inr ⟨c, H1.out, rfl⟩, hb3⟩
set_option maxHeartbeats 2000000 in
theorem do_est (b0 : Nat) (a0 : Option Addr) (n0 c0 : Nat) (x0 : List Int) (b1 : Nat) (a1 : Option Addr) (n1 c1 : Nat) (x1 : List Int) (b2 : Nat) (a2 : Option Addr) (n2 c2 : Nat) (x2 : List Int) (D : DeskSt) (W : World) (hT : Tabs W) (q0 : W.cell? ⟨b0, 0, none⟩ = some (.slice a0 n0 c0)) (p0 : IntsAt W a0 n0 c0 x0) (q1 : W.cell? ⟨b1, 0, none⟩ = some (.slice a1 n1 c1)) (p1 : IntsAt W a1 n1 c1 x1) (q2 : W.cell? ⟨b2, 0, none⟩ = some (.slice a2 n2 c2)) (p2 : IntsAt W a2 n2 c2 x2) :
    Calls Tryz.prog 76 #[.pointer (some ⟨b0, 0, none⟩), .pointer (some ⟨b1, 0, none⟩), .pointer (some ⟨b2, 0, none⟩)] W fun e w' => AnsX (opF D (.est x0 x1 x2)).1 e ∧ Below W.heap.size W w' := by
  have CT := hidp (est_v a0 a1 a2 n0 n1 n2 c0 c1 c2 x0 x1 x2 D W p0 p1 p2)
  have ON := hidp (fun V E w1 (hB : Below W.heap.size W w1) h => one_x V E w1 (hT.on hB) h)
  generalize (opF D (.est x0 x1 x2)).1 = r at *
  clear hT p0 p1 p2
  go_enter Tryz.func76, Tryz.ntmps76
  go_wp2_with fail
  refine CT.out.mono ?_
  rintro e w1 ⟨V, E, rfl, hv, hb⟩
  have HB := hidp hb
  clear CT hb
  go_wp2_with fail
  refine (ON.out V E w1 HB.out hv.out.2).mono ?_
  rintro e w2 ⟨hx, hb2⟩
  rw [hv.out.1] at hx
  have hb3 := bstep HB.out hb2
  clear ON hv HB hb2
  rcases hx with ⟨s, h1, rfl⟩ | ⟨c, h1, rfl⟩
  · have H1 := hidp h1
    clear h1
    go_wp2
    go_ret
    exact ⟨.inl ⟨s, H1.out, rfl⟩, hb3⟩
  · have H1 := hidp h1
    clear h1
    go_wp2
    exact ⟨rfl, .inr ⟨c, H1.out, rfl⟩, hb3⟩
set_option maxHeartbeats 2000000 in
theorem do_rank (a : Option Addr) (n c : Nat) (x : List Int) (D : DeskSt) (W : World) (hT : Tabs W) (h : IntsAt W a n c x) :
    Calls Tryz.prog 34 #[.slice a n c] W fun e w' => AnsX (opF D (.rank x)).1 e ∧ Below W.heap.size W w' := by
  have CT := hidp (rank_v a n c x D W h)
  have ON := hidp (fun V E w1 (hB : Below W.heap.size W w1) h => one_x V E w1 (hT.on hB) h)
  generalize (opF D (.rank x)).1 = r at *
  have mm := h.max
  have ll := h.le
  clear hT h
  go_enter Tryz.func34, Tryz.ntmps34
  go_wp2_with fail
  refine CT.out.mono ?_
  rintro e w1 ⟨V, E, rfl, hv, hb⟩
  have HB := hidp hb
  clear CT hb
  go_wp2_with fail
  refine (ON.out V E w1 HB.out hv.out.2).mono ?_
  rintro e w2 ⟨hx, hb2⟩
  rw [hv.out.1] at hx
  have hb3 := bstep HB.out hb2
  clear ON hv HB hb2
  rcases hx with ⟨s, h1, rfl⟩ | ⟨c, h1, rfl⟩
  · have H1 := hidp h1
    clear h1
    go_wp2
    go_ret
    exact ⟨.inl ⟨s, H1.out, rfl⟩, hb3⟩
  · have H1 := hidp h1
    clear h1
    go_wp2
    exact ⟨rfl, .inr ⟨c, H1.out, rfl⟩, hb3⟩
set_option maxHeartbeats 2000000 in
theorem do_comb (a : Option Addr) (n c : Nat) (x : List Int) (D : DeskSt) (W : World) (hT : Tabs W) (h : IntsAt W a n c x) :
    Calls Tryz.prog 37 #[.slice a n c] W fun e w' => AnsX (opF D (.comb x)).1 e ∧ Below W.heap.size W w' := by
  have CT := hidp (comb_v a n c x D W h)
  have ON := hidp (fun V E w1 (hB : Below W.heap.size W w1) h => one_x V E w1 (hT.on hB) h)
  generalize (opF D (.comb x)).1 = r at *
  have mm := h.max
  have ll := h.le
  clear hT h
  go_enter Tryz.func37, Tryz.ntmps37
  go_wp2_with fail
  refine CT.out.mono ?_
  rintro e w1 ⟨V, E, rfl, hv, hb⟩
  have HB := hidp hb
  clear CT hb
  go_wp2_with fail
  refine (ON.out V E w1 HB.out hv.out.2).mono ?_
  rintro e w2 ⟨hx, hb2⟩
  rw [hv.out.1] at hx
  have hb3 := bstep HB.out hb2
  clear ON hv HB hb2
  rcases hx with ⟨s, h1, rfl⟩ | ⟨c, h1, rfl⟩
  · have H1 := hidp h1
    clear h1
    go_wp2
    go_ret
    exact ⟨.inl ⟨s, H1.out, rfl⟩, hb3⟩
  · have H1 := hidp h1
    clear h1
    go_wp2
    exact ⟨rfl, .inr ⟨c, H1.out, rfl⟩, hb3⟩
end Go.Proofs.YtgodgfnfaiiohaaGreatDoor

/- The functions of 'th', 'most' and 'mark'. -/
namespace Go.Proofs.YtgodgfnfaiiohaaGreatDoor
open Go.ChangeShapes Go.WideShapes Go.ChangeAt Go.RowKit
set_option maxRecDepth 20000
set_option linter.unusedVariables false
theorem qthS_size (n : Int) : (qthS n).size ≤ 14 := by
  unfold qthS
  split
  · exact thTxt_sz _
  · decide
set_option maxHeartbeats 2000000 in
theorem do_th (b0 : Nat) (x0 : Int) (D : DeskSt) (W : World) (hT : Tabs W) (q0 : W.cell? ⟨b0, 0, none⟩ = some (.int .i64 x0)) (p0 : 0 ≤ x0 ∧ x0 ≤ 9223372036854775807) :
    Calls Tryz.prog 51 #[.pointer (some ⟨b0, 0, none⟩)] W fun e w' => AnsX (opF D (.th x0)).1 e ∧ Below W.heap.size W w' := by
  have CT := hidp (th_x x0 p0.1 W)
  have hs := qthS_size x0
  have HR := hidp (show (opF D (.th x0)).1 = textR (qthS x0) (qthE x0) from rfl)
  generalize (opF D (.th x0)).1 = r at *
  generalize qthS x0 = s at *
  generalize qthE x0 = E at *
  clear hT p0
  go_enter Tryz.func51, Tryz.ntmps51
  go_wp2_with fail
  refine CT.out.mono ?_
  rintro e w1 ⟨rfl, hb⟩
  have HB := hidp hb
  clear CT hb
  go_wp2_with fail
  refine (text_x s E w1 (by omega)).mono ?_
  rintro e w2 ⟨hx, hb2⟩
  rw [← HR.out] at hx
  have hb3 := bstep HB.out hb2
  clear HR HB hb2
  rcases hx with ⟨s, h1, rfl⟩ | ⟨c, h1, rfl⟩
  · have H1 := hidp h1
    clear h1
    go_wp2
    go_ret
    exact ⟨.inl ⟨s, H1.out, rfl⟩, hb3⟩
  · have H1 := hidp h1
    clear h1
    go_wp2
    exact ⟨rfl, .inr ⟨c, H1.out, rfl⟩, hb3⟩
theorem cn_mem (x : Int) (xs : List Int) (h : 0 < cn x xs) : x ∈ xs := by
  unfold cn at h
  obtain ⟨y, hy, he⟩ := List.countP_pos_iff.1 h
  have : y = x := by simpa using he
  rw [← this]; exact hy
theorem qmoR_bd (xs : List Int) (n : Nat) (hb : ∀ x ∈ xs, I64 x) : I64 (qmoR xs n).1 := by
  unfold qmoR mostR
  split
  · split
    · rename_i h
      have hp : 0 < cn (bm xs).1 xs := by omega
      exact hb _ (cn_mem _ _ hp)
    · unfold I64; simp
  · unfold I64; simp
set_option maxHeartbeats 2000000 in
theorem do_most (a : Option Addr) (n c : Nat) (x : List Int) (D : DeskSt) (W : World) (hT : Tabs W) (h : IntsAt W a n c x) :
    Calls Tryz.prog 43 #[.slice a n c] W fun e w' => AnsX (opF D (.most x)).1 e ∧ Below W.heap.size W w' := by
  obtain rfl := h.len
  have CT := hidp (most_x a _ c x W h)
  have hb := qmoR_bd x x.length h.bd
  have HR := hidp (show (opF D (.most x)).1 = if qmoE x.length = 0 then (if (qmoR x x.length).2 = true then .ok (toldS [(qmoR x x.length).1]) else .error 4) else .error (qmoE x.length) from rfl)
  have mm := h.max
  have ll := h.le
  generalize (opF D (.most x)).1 = r at *
  generalize (qmoR x x.length).1 = V at *
  generalize (qmoR x x.length).2 = B at *
  generalize qmoE x.length = E at *
  have MO := hidp (must_ok W)
  have BD := hidp (bad_c 4 W)
  have HT := hidp hT
  clear h hT
  by_cases hE : E = 0
  · subst hE
    cases B with
    | true =>
      have H1 := hidp (show r = .ok (toldS [V]) by rw [HR.out, if_pos rfl, if_pos rfl])
      have ha : Below W.heap.size W (W.alloc (.cells #[.int .i64 V] 3)) := bal (Below.refl _ _) _
      have TO := hidp (told_c (some ⟨W.heap.size, 0, none⟩) 1 1 [V] (W.alloc (.cells #[.int .i64 V] 3)) (ints_one V _ W hb.1 hb.2) (HT.out.on ha) (by omega))
      clear HR
      go_enter Tryz.func43, Tryz.ntmps43
      go_wp2_with fail
      refine CT.out.mono ?_
      rintro e w1 ⟨rfl, rfl⟩
      go_wp2_with fail
      refine MO.out.mono ?_
      rintro e w1 ⟨rfl, rfl⟩
      go_wp2_with fail
      refine TO.out.mono ?_
      rintro e w2 ⟨rfl, hb2⟩
      have hb3 := bstep ha hb2
      go_wp2
      go_ret
      exact ⟨.inl ⟨_, H1.out, rfl⟩, hb3⟩
    | false =>
      have H1 := hidp (show r = .error 4 by rw [HR.out, if_pos rfl, if_neg (by decide)])
      clear HR
      go_enter Tryz.func43, Tryz.ntmps43
      go_wp2_with fail
      refine CT.out.mono ?_
      rintro e w1 ⟨rfl, rfl⟩
      go_wp2_with fail
      refine MO.out.mono ?_
      rintro e w1 ⟨rfl, rfl⟩
      go_wp2_with fail
      refine BD.out.mono ?_
      rintro e w2 ⟨rfl, rfl⟩
      go_wp2
      exact ⟨rfl, .inr ⟨_, H1.out, rfl⟩, Below.refl _ _⟩
  · have H1 := hidp (show r = .error E by rw [HR.out, if_neg hE])
    have MB := hidp (must_bad E hE W)
    clear HR hE
    go_enter Tryz.func43, Tryz.ntmps43
    go_wp2_with fail
    refine CT.out.mono ?_
    rintro e w1 ⟨rfl, rfl⟩
    go_wp2_with fail
    refine MB.out.mono ?_
    rintro e w1 ⟨rfl, rfl⟩
    go_wp2
    exact ⟨rfl, .inr ⟨_, H1.out, rfl⟩, Below.refl _ _⟩
theorem setL_small (L : List (ByteArray × ByteArray)) (th rv : Int) (ht hr : Bool) (B : Nat) (hB : 14 ≤ B) (h : ∀ p ∈ L, p.1.size ≤ B ∧ p.2.size ≤ B) : ∀ p ∈ setL L th rv ht hr, p.1.size ≤ B ∧ p.2.size ≤ B := by
  intro p hp
  unfold setL preM at hp
  rcases List.mem_append.1 hp with hp | hp
  · rcases List.mem_append.1 hp with hp | hp
    · split at hp
      · simp at hp; subst hp
        have := thTxt_sz th.toNat
        exact ⟨Nat.le_trans (by show txtTh.size ≤ 14; decide) hB, by show (thTxt th.toNat).size ≤ _; omega⟩
      · simp at hp
    · split at hp
      · simp at hp; subst hp
        have := hexB_size rv.toNat 14
        exact ⟨Nat.le_trans (by show txtRv.size ≤ 14; decide) hB, by show (hexB rv.toNat 14).size ≤ _; omega⟩
      · simp at hp
  · exact h p (List.mem_filter.1 hp).1
theorem qrL_size (s : ByteArray) (h : rE s = 0) : ∀ p ∈ rL s, p.1.size ≤ 2097152 ∧ p.2.size ≤ 2097152 := fun p hp => by
  have h2 : ¬ 200 < s.size := fun e => by unfold rE at h; rw [if_pos e] at h; cases h
  unfold rL at hp
  by_cases h0 : s.size = 0
  · rw [if_pos h0] at hp; cases hp
  · rw [if_neg h0] at hp
    have := rdP_size s p hp
    omega
theorem set_x (a : Option Addr) (n c : Nat) (L : List (ByteArray × ByteArray)) (th rv : Int) (ht hr : Bool) (w : World) (h : PairsAt w a n c L) :
    Calls Tryz.prog 61 #[.slice a n c, markV th rv ht hr] w fun e w' => ∃ (a' : Option Addr) (n' c' : Nat), e = .returned (.tuple #[.slice a' n' c', .int .i64 (setE L th rv ht hr)]) ∧ Hid (setE L th rv ht hr = 0 → PairsAt w' a' n' c' (setL L th rv ht hr)) ∧ Below w.heap.size w w' := by
  by_cases hE : chkE L = 0 ∧ (isNum th && isNum rv) = true
  · refine (set_ok a n c L th rv ht hr w h hE.1 hE.2).mono ?_
    rintro e w' ⟨v, rfl, ⟨h0, ho⟩ | ⟨h2, rfl⟩, hb⟩
    · obtain ⟨a', c', rfl, hp⟩ := owns_pairs ho (setL_sz L th rv ht hr h.sz)
      exact ⟨a', _, c', rfl, hidp (fun _ => hp), hb⟩
    · exact ⟨none, 0, 0, rfl, hidp (fun h0 => by rw [h2] at h0; cases h0), hb⟩
  · refine (set_bad a n c L th rv ht hr w h hE).mono ?_
    rintro e w' ⟨rfl, hb⟩
    refine ⟨none, 0, 0, rfl, hidp (fun h0 => ?_), hb⟩
    exfalso
    unfold setE at h0
    by_cases h1 : chkE L = 0
    · rw [if_pos h1] at h0
      by_cases h2 : (isNum th && isNum rv) = true
      · exact hE ⟨h1, h2⟩
      · rw [if_neg h2] at h0; omega
    · rw [if_neg h1] at h0; exact h1 h0
set_option maxHeartbeats 4000000 in
theorem do_mark (b0 : Nat) (x0 : ByteArray) (D : DeskSt) (W : World) (hT : Tabs W) (q0 : W.cell? ⟨b0, 0, none⟩ = some (.string x0)) :
    Calls Tryz.prog 58 #[.pointer (some ⟨b0, 0, none⟩)] W fun e w' => AnsX (opF D (.mark x0)).1 e ∧ Below W.heap.size W w' := by
  obtain ⟨ml, hml⟩ := hT.ml
  have CT := hidp (read_x x0 ml W hml)
  have HR := hidp (show (opF D (.mark x0)).1 = markR x0 from rfl)
  generalize (opF D (.mark x0)).1 = r at *
  have HSZ := hidp (qrL_size x0)
  have MO := hidp (fun w => must_ok w)
  have MB := hidp (fun e h w => must_bad e h w)
  clear hT hml
  unfold markR at HR
  generalize rE x0 = E1 at *
  generalize rL x0 = L at *
  by_cases h1 : E1 = 0
  · subst h1
    have R1 := HR.out
    rw [if_pos rfl] at R1
    have HR1 := hidp R1
    clear HR R1
    have MK := hidp (fun a n c w h => mark_c a n c L w h)
    have ST := hidp (fun a n c w h => set_x a n c L (mTh L) (mRv L) (mHT L) (mHR L) w h)
    generalize mTh L = th at *
    generalize mRv L = rv at *
    generalize mHT L = ht at *
    generalize mHR L = hr at *
    have SZ := hidp (setL_small L th rv ht hr 2097152 (by omega) (HSZ.out rfl))
    generalize setE L th rv ht hr = E3 at *
    generalize setL L th rv ht hr = L2 at *
    generalize mErr L = E2 at *
    have WR := hidp (fun a n c w h => write_c a n c L2 w h SZ.out)
    have hwz : (wT L2).size ≤ 200 := by
      unfold wT
      split
      · rename_i h
        unfold wE at h
        split at h
        · split at h
          · cases h
          · omega
        · contradiction
      · decide
    generalize wT L2 = S at *
    generalize wE L2 = E4 at *
    go_enter Tryz.func58, Tryz.ntmps58
    go_wp2_with fail
    refine CT.out.mono ?_
    rintro e w1 ⟨⟨_, a, c, rfl, hP⟩ | ⟨h, _⟩, hb⟩
    case inr => exact absurd rfl h
    have HP := hidp hP
    have HB := hidp hb
    generalize L.length = n at *
    clear CT hb hP
    go_wp2_with fail
    refine (MO.out _).mono ?_
    rintro e w1' ⟨rfl, rfl⟩
    go_wp2_with fail
    refine (MK.out _ _ _ _ HP.out).mono ?_
    rintro e w2 ⟨rfl, hb2⟩
    have HB2 := hidp (bstep HB.out hb2)
    have HP2 := hidp (HP.out.below hb2)
    clear MK HB hb2 HP
    have ha : Below w2.heap.size w2 (w2.alloc (.cells #[.int .i64 th, .int .i64 rv, .bool ht, .bool hr] 102)) := bal (Below.refl _ _) _
    have m0 : (w2.alloc (.cells #[.int .i64 th, .int .i64 rv, .bool ht, .bool hr] 102)).cell? ⟨w2.heap.size, 0, none⟩ = some (.int .i64 th) := by go_simp
    have m1 : (w2.alloc (.cells #[.int .i64 th, .int .i64 rv, .bool ht, .bool hr] 102)).cell? ⟨w2.heap.size, 1, none⟩ = some (.int .i64 rv) := by go_simp
    have m2 : (w2.alloc (.cells #[.int .i64 th, .int .i64 rv, .bool ht, .bool hr] 102)).cell? ⟨w2.heap.size, 2, none⟩ = some (.bool ht) := by go_simp
    have m3 : (w2.alloc (.cells #[.int .i64 th, .int .i64 rv, .bool ht, .bool hr] 102)).cell? ⟨w2.heap.size, 3, none⟩ = some (.bool hr) := by go_simp
    have HA := hidp (bstep HB2.out ha)
    have HP3 := hidp (HP2.out.below ha)
    clear ha HB2 HP2
    go_wp2_with fail
    generalize w2.alloc (.cells #[.int .i64 th, .int .i64 rv, .bool ht, .bool hr] 102) = w3 at *
    by_cases h2 : E2 = 0
    · subst h2
      have R1 := HR1.out
      rw [if_pos rfl] at R1
      have HR2 := hidp R1
      clear HR1 R1
      refine (MO.out _).mono ?_
      rintro e w1' ⟨rfl, rfl⟩
      go_wp2_with fail
      refine (ST.out _ _ _ _ HP3.out).mono ?_
      rintro e w4 ⟨a2, n2, c2, rfl, hp2, hb4⟩
      have HB4 := hidp (bstep HA.out hb4)
      clear ST HA hb4 m0 m1 m2 m3 HP3
      go_wp2_with fail
      by_cases h3 : E3 = 0
      · subst h3
        have HP4 := hidp (hp2.out rfl)
        have R1 := HR2.out
        rw [if_pos rfl] at R1
        have HR3 := hidp R1
        clear HR2 R1
        refine (MO.out _).mono ?_
        rintro e w1' ⟨rfl, rfl⟩
        go_wp2_with fail
        refine (WR.out _ _ _ _ HP4.out).mono ?_
        rintro e w5 ⟨rfl, hb5⟩
        have HB5 := hidp (bstep HB4.out hb5)
        clear WR HB4 hb5 HP4 hp2
        go_wp2_with fail
        refine (text_x S E4 w5 (by omega)).mono ?_
        rintro e w6 ⟨hx, hb6⟩
        rw [← HR3.out] at hx
        have hb7 := bstep HB5.out hb6
        clear HR3 HB5 hb6
        rcases hx with ⟨s, h1, rfl⟩ | ⟨c, h1, rfl⟩
        · have H1 := hidp h1
          clear h1
          go_wp2
          go_ret
          exact ⟨.inl ⟨s, H1.out, rfl⟩, hb7⟩
        · have H1 := hidp h1
          clear h1
          go_wp2
          exact ⟨rfl, .inr ⟨c, H1.out, rfl⟩, hb7⟩
      · have H1 := hidp (show r = .error E3 by rw [HR2.out, if_neg h3])
        refine (MB.out E3 h3 _).mono ?_
        rintro e w1' ⟨rfl, rfl⟩
        clear h3 HR2
        go_wp2
        exact ⟨rfl, .inr ⟨_, H1.out, rfl⟩, HB4.out⟩
    · have H1 := hidp (show r = .error E2 by rw [HR1.out, if_neg h2])
      refine (MB.out E2 h2 _).mono ?_
      rintro e w1' ⟨rfl, rfl⟩
      clear h2 HR1
      go_wp2
      exact ⟨rfl, .inr ⟨_, H1.out, rfl⟩, HA.out⟩
  · have H1 := hidp (show r = .error E1 by rw [HR.out, if_neg h1])
    have HH := hidp h1
    clear HR HSZ h1
    go_enter Tryz.func58, Tryz.ntmps58
    go_wp2_with fail
    refine CT.out.mono ?_
    rintro e w1 ⟨⟨h0, _⟩ | ⟨_, rfl⟩, hb⟩
    · exact absurd h0 HH.out
    · clear CT
      go_wp2_with fail
      refine (MB.out E1 HH.out _).mono ?_
      rintro e w1' ⟨rfl, rfl⟩
      go_wp2
      exact ⟨rfl, .inr ⟨_, H1.out, rfl⟩, hb⟩
end Go.Proofs.YtgodgfnfaiiohaaGreatDoor

/- 'append' of one new element to a slice of the call's own, as one step of a region that draws its order. -/
namespace Go.Proofs.YtgodgfnfaiiohaaGreatDoor
open Go.ChangeShapes Go.WideShapes Go.ChangeAt Go.RowKit
set_option maxRecDepth 20000

end Go.Proofs.YtgodgfnfaiiohaaGreatDoor

/- The function of 'alias'. -/
namespace Go.Proofs.YtgodgfnfaiiohaaGreatDoor
open Go.ChangeShapes Go.WideShapes Go.ChangeAt Go.RowKit
set_option maxRecDepth 20000
set_option linter.unusedVariables false
/-- 'append' of a whole slice, as one step of a region. -/
theorem step_append_at {P : Program} {ops : Array Oper} {o : Oper} {a : Act} {W : World} {K : Act → World → Prop} {Q : Exit → Act → World → Prop} {E : Prop}
    (hg : o.guard = none) (s x : Operand) (t : TypeId) (hop : o.op = Op.call { callee := Callee.builtin Builtin.append, args := #[s, x], argTypes := #[t, t] })
    (base : Nat) (e : TypeId) (z : Value) (size bytes : Nat) (hinfo : (P.info? e).map (fun i => (i.zero, i.size, i.bytes)) = some (some z, size, bytes)) (hzs : z.cells.size = size) (hsz : 0 < size) (ht : P.underlying t = some (.slice e))
    (v : Value) (n : Nat) (xs : List Value) (hs : a.eval s = v) (hown : W.ownsRow base e size v n xs) (ad : Addr) (m c : Nat) (news : List Value) (hx : a.eval x = .slice (some ad) m c) (hl : news.length = m * size)
    (hnews : ∀ j u, news[j]? = some u → W.cell? (ad.add j) = some u) (h1 : ∀ u ∈ news, u.oneCell' = true) (hn : n + m ≤ 1000000) (hby : bytes ≤ 1000) (hbase : base ≤ W.heap.size)
    (hK : ∀ v' w', w'.ownsRow base e size v' (n + m) (xs ++ news) → W.grownBy w' v.ownBlock → (v'.ownBlock = v.ownBlock ∨ v'.ownBlock = some W.heap.size) → K (a.put o.dst v') w') :
    if Region.wanted o (yielded ops a.tmps) = true then Oper.wp P o a W K Q else E := by
  have hw : Region.wanted o (yielded ops a.tmps) = true := by simp [Region.wanted, hg]
  rw [if_pos hw]
  obtain ⟨i, hi, hz, hsize, hbytes⟩ := info_parts hinfo
  have hb2 : (n + m) * bytes ≤ 140737488355328 := Nat.le_trans (Nat.mul_le_mul hn hby) (by omega)
  obtain ⟨v', w', hr, h2, h3, h4, h5⟩ := run_append_own_at (P := P) W base t o.type e i z size bytes ht hi hz hsize hbytes hzs hsz v n xs hown ad m c news hl hnews h1 (by unfold maxLen; omega) hb2 hbase
  unfold Oper.wp
  simp only [execOp, hop, resolve, invoke, builtin, Sem.run_bind, Sem.run_pure, Result.andThen_ok, List.map_toArray, List.map_cons, List.map_nil, hs, hx, hr]
  exact hK _ _ h2 h3 h5
theorem own_one1 (W : World) (x : Value) (T : TypeId) : (W.alloc (.cells #[x] T)).ownsRow W.heap.size T 1 (.slice (some ⟨W.heap.size, 0, none⟩) 1 1) 1 [x] :=
  ⟨rfl, .inr ⟨W.heap.size, 1, #[x], rfl, Nat.le_refl _, heap_alloc_new W _, Nat.le_refl _, by unfold maxLen; omega, rfl, rfl⟩⟩
theorem rowV (f : Nat → Int) (n : Nat) : row f n = (tab f n).map (Value.int .i64) := by unfold row; rw [tab_map]
theorem row_one (f : Nat → Int) (n : Nat) : ∀ u ∈ row f n, u.oneCell' = true := fun u hu => by
  unfold row at hu
  obtain ⟨j, _, rfl⟩ := tab_mem _ _ _ hu
  rfl
theorem row_cells {W : World} {B g n : Nat} {f : Nat → Int} (h : W.ownsRow B 3 1 (.slice (some ⟨g, 0, none⟩) n n) n (row f n)) : ∀ j u, (row f n)[j]? = some u → W.cell? ((⟨g, 0, none⟩ : Addr).add j) = some u := fun j u hu => by
  have hj : j < (row f n).length := (List.getElem?_eq_some_iff.1 hu).1
  have := h.cellAt j (by rw [h.1] at hj; omega)
  rw [hu] at this
  rw [addr_add0]
  exact this
set_option maxHeartbeats 4000000 in
theorem do_alias (a : Option Addr) (n c : Nat) (x : List Int) (D : DeskSt) (W : World) (hT : Tabs W) (h : IntsAt W a n c x) :
    Calls Tryz.prog 39 #[.slice a n c] W fun e w' => AnsX (opF D (.alias x)).1 e ∧ Below W.heap.size W w' := by
  obtain rfl := h.len
  have HR := hidp (show (opF D (.alias x)).1 = manyR (aliasL x) (wtsE x x.length) from rfl)
  generalize (opF D (.alias x)).1 = r at *
  have mm := h.max
  have ll := h.le
  have HT := hidp hT
  by_cases hE : wtsE x x.length = 0
  · have CT := hidp (make_cy a _ c x W h hE)
    obtain ⟨k1, k2, k3⟩ := wtsE_zero x x.length hE
    obtain ⟨s1, s2⟩ := sumK_ok x x.length k2
    have H1 := hidp (show r = .ok (toldS (aliasL x)) by rw [HR.out]; unfold manyR; rw [if_pos hE])
    have AL := hidp (show aliasL x = sumK x x.length :: (tab (wkEnd (sumK x x.length) (ws x x.length) x.length).own x.length ++ tab (fun i => (((wkEnd (sumK x x.length) (ws x x.length) x.length).rest i : Nat) : Int)) x.length) from rfl)
    generalize aliasL x = L at *
    generalize wkEnd (sumK x x.length) (ws x x.length) x.length = Z at *
    have MO := hidp (fun w => must_ok w)
    clear HR hE k2 k3 h hT
    generalize ws x x.length = V at *
    generalize sumK x x.length = A at *
    generalize x.length = n at *
    go_enter Tryz.func39, Tryz.ntmps39
    go_wp2_with fail
    refine CT.out.mono ?_
    rintro e w1 ⟨g1, g2, own, rest, rfl, hF, ⟨rfl, rfl⟩, o1, o2, hb, hne⟩
    have HF := hidp hF
    have HB := hidp hb
    have hg1 := (o1.lt g1 rfl).2
    have hg2 := (o2.lt g2 rfl).2
    have O1 := hidp (owns_belowD o1 (Below.refl _ _))
    have O2 := hidp o2
    clear CT hF hb o1 o2 hne
    go_wp2_with fail
    have ha : Below w1.heap.size w1 (w1.alloc (.cells #[.int .i64 A, .slice (some ⟨g1, 0, none⟩) n n, .slice (some ⟨g2, 0, none⟩) n n] 83)) := bal (Below.refl _ _) _
    have m0 : (w1.alloc (.cells #[.int .i64 A, .slice (some ⟨g1, 0, none⟩) n n, .slice (some ⟨g2, 0, none⟩) n n] 83)).cell? ⟨w1.heap.size, 0, none⟩ = some (.int .i64 A) := by go_simp
    have m1 : (w1.alloc (.cells #[.int .i64 A, .slice (some ⟨g1, 0, none⟩) n n, .slice (some ⟨g2, 0, none⟩) n n] 83)).cell? ⟨w1.heap.size, 1, none⟩ = some (.slice (some ⟨g1, 0, none⟩) n n) := by go_simp
    have m2 : (w1.alloc (.cells #[.int .i64 A, .slice (some ⟨g1, 0, none⟩) n n, .slice (some ⟨g2, 0, none⟩) n n] 83)).cell? ⟨w1.heap.size, 2, none⟩ = some (.slice (some ⟨g2, 0, none⟩) n n) := by go_simp
    have hp2 : w1.heap.size < (w1.alloc (.cells #[.int .i64 A, .slice (some ⟨g1, 0, none⟩) n n, .slice (some ⟨g2, 0, none⟩) n n] 83)).heap.size := by simp
    have P1 := hidp (owns_belowD O1.out ha)
    have P2 := hidp (owns_belowD O2.out ha)
    have HA := hidp (bstep HB.out ha)
    clear ha O1 O2 HB
    generalize w1.alloc (.cells #[.int .i64 A, .slice (some ⟨g1, 0, none⟩) n n, .slice (some ⟨g2, 0, none⟩) n n] 83) = w2 at *
    generalize w1.heap.size = p at *
    refine (MO.out _).mono ?_
    rintro e w1' ⟨rfl, rfl⟩
    go_upto_region 3 with fail
    have hpne : ¬ w1'.heap.size = p := by omega
    have CE1 := hidp (fun W2 (hb : Below w1'.heap.size w1' W2) => row_cells (owns_belowD P1.out hb))
    have CE2 := hidp (fun W2 (hb : Below w1'.heap.size w1' W2) => row_cells (owns_belowD P2.out hb))
    have LR1 := hidp (show (row Z.own n).length = n * 1 by unfold row; rw [tab_len]; omega)
    have LR2 := hidp (show (row (fun j => ((Z.rest j : Nat) : Int)) n).length = n * 1 by unfold row; rw [tab_len]; omega)
    have OA := hidp (row_one Z.own n)
    have OB := hidp (row_one (fun j => ((Z.rest j : Nat) : Int)) n)
    have HL := hidp (show [Value.int .i64 A] ++ row Z.own n ++ row (fun j => ((Z.rest j : Nat) : Int)) n = L.map (Value.int .i64) by
      rw [AL.out, rowV, rowV]; simp)
    have LB := hidp (show ∀ v ∈ L, I64 v by
      rw [AL.out]
      intro v hv
      rcases List.mem_cons.1 hv with rfl | hv
      · unfold I64; omega
      · rcases List.mem_append.1 hv with hv | hv
        · obtain ⟨j, hj, rfl⟩ := tab_mem _ _ _ hv
          have := HF.out.bd j hj
          unfold I64; omega
        · obtain ⟨j, hj, rfl⟩ := tab_mem _ _ _ hv
          have := HF.out.rt j hj
          unfold I64; omega)
    have TO := hidp (fun a c m W2 (hb : Below w1'.heap.size w1' W2) hi hm => told_c a m c L W2 hi (HT.out.on (bstep HA.out hb)) hm)
    have OW := hidp (show ((w1'.alloc (.cells #[.int .i64 A] 3)).drew).ownsRow w1'.heap.size 3 1 (.slice (some ⟨w1'.heap.size, 0, none⟩) 1 1) 1 [.int .i64 A] from World.ownsRow.drew (own_one1 w1' (.int .i64 A) 3))
    have BW := hidp (show Below w1'.heap.size w1' ((w1'.alloc (.cells #[.int .i64 A] 3)).drew) from Below.drew (bal (Below.refl _ _) _))
    have d0 : ((w1'.alloc (.cells #[.int .i64 A] 3)).drew).cell? ⟨p, 0, none⟩ = _ := ca m0 _
    have d1 : ((w1'.alloc (.cells #[.int .i64 A] 3)).drew).cell? ⟨p, 1, none⟩ = _ := ca m1 _
    have d2 : ((w1'.alloc (.cells #[.int .i64 A] 3)).drew).cell? ⟨p, 2, none⟩ = _ := ca m2 _
    generalize row Z.own n = R1 at *
    generalize row (fun j => ((Z.rest j : Nat) : Int)) n = R2 at *
    go_region_held3 (fun w' => w'.cell? ⟨p, 0, none⟩ = some (.int .i64 A) ∧ w'.cell? ⟨p, 1, none⟩ = some (.slice (some ⟨g1, 0, none⟩) n n) ∧ w'.cell? ⟨p, 2, none⟩ = some (.slice (some ⟨g2, 0, none⟩) n n)) (first | go_keep | exact ⟨z0, z1, z2⟩ | exact ⟨y0, y1, y2⟩ | exact ⟨ck hb9 y0, ck hb9 y1, ck hb9 y2⟩)
      (first
        | (refine step_append_at rfl (.tmp 14) (.tmp 16) 37 rfl w1'.heap.size 3 _ 1 8 info_int rfl (by decide) Tryz.underlying37 (.slice (some ⟨w1'.heap.size, 0, none⟩) 1 1) 1 [.int .i64 A] (by simp [Act.eval]) OW.out ⟨g1, 0, none⟩ n n R1 (by simp [Act.eval]) LR1.out (CE1.out _ BW.out) OA.out (by omega) (by decide) BW.out.size ?_; intro v1 x1 nv1 gg1 e1; have b1 := append_step OW.out BW.out (Nat.le_refl _) gg1; have z0 := gk gg1 d0 (fun e => by simp [Value.ownBlock] at e; omega); have z1 := gk gg1 d1 (fun e => by simp [Value.ownBlock] at e; omega); have z2 := gk gg1 d2 (fun e => by simp [Value.ownBlock] at e; omega))
        | (refine step_append_at rfl (.tmp 17) (.tmp 19) 37 rfl w1'.heap.size 3 _ 1 8 info_int rfl (by decide) Tryz.underlying37 v1 (1 + n) ([.int .i64 A] ++ R1) (by simp [Act.eval]) nv1 ⟨g2, 0, none⟩ n n R2 (by simp [Act.eval]) LR2.out (CE2.out _ b1) OB.out (by omega) (by decide) b1.size ?_; intro v2 x2 nv2 gg2 e2; have b2 := append_step nv1 b1 (Nat.le_refl _) gg2; have hnp : v1.ownBlock ≠ some p := (fun e => by have := (nv1.lt _ e).1; omega); have y0 := gk gg2 z0 hnp; have y1 := gk gg2 z1 hnp; have y2 := gk gg2 z2 hnp; rw [HL.out] at nv2; obtain ⟨a2, c2, hve, hi2⟩ := owns_ints nv2 LB.out; subst hve)
        | (go_at_call 42; refine (TO.out _ _ _ _ b2 hi2 (by omega)).mono ?_; rintro e w9 ⟨rfl, hb9⟩))
    go_wp2
    go_ret
    exact ⟨.inl ⟨_, H1.out, rfl⟩, bstep HA.out (bstep b2 hb9)⟩
  · have H1 := hidp (show r = .error (wtsE x x.length) by rw [HR.out]; unfold manyR; rw [if_neg hE])
    have CT := hidp (make_bad a _ c x W h hE)
    have MB := hidp (fun w => must_bad (wtsE x x.length) hE w)
    clear HR hE hT h
    generalize wtsE x x.length = E at *
    go_enter Tryz.func39, Tryz.ntmps39
    go_wp2_with fail
    refine CT.out.mono ?_
    rintro e w1 ⟨rfl, hb⟩
    have HB := hidp hb
    clear CT hb
    go_wp2_with fail
    refine (MB.out _).mono ?_
    rintro e w1' ⟨rfl, rfl⟩
    go_wp2
    exact ⟨rfl, .inr ⟨_, H1.out, rfl⟩, bal HB.out _⟩
end Go.Proofs.YtgodgfnfaiiohaaGreatDoor

/- The desk in memory: nine cells in a block, four lists in others. -/
namespace Go.Proofs.YtgodgfnfaiiohaaGreatDoor
open Go.ChangeShapes Go.WideShapes Go.ChangeAt Go.RowKit
set_option maxRecDepth 20000
set_option linter.unusedVariables false
/-- A list lies in another block than P. -/
def OffB (a : Option Addr) (P : Nat) : Prop := ∀ ad, a = some ad → ad.block ≠ P
theorem gb_set (W : World) (P i : Nat) (v : Value) : W.grownBy (W.setCell ⟨P, i, none⟩ v) (some P) :=
  ⟨rfl, rfl, rfl, by show W.heap.size ≤ (W.setCell ⟨P, i, none⟩ v).heap.size; simp, fun q hq hne => Below.heap_setCell W ⟨P, i, none⟩ v q (fun e => hne (by rw [e]))⟩
theorem gb_cell {W W' : World} {P b o : Nat} {v : Value} (hg : W.grownBy W' (some P)) (h : W.cell? ⟨b, o, none⟩ = some v) (hne : b ≠ P) : W'.cell? ⟨b, o, none⟩ = some v :=
  gk hg h (fun e => hne (by cases e; rfl))
theorem CntAt.off {W W' : World} {P : Nat} {a : Option Addr} {n c : Nat} {L : List (Int × Int)} (h : CntAt W a n c L) (hg : W.grownBy W' (some P)) (ho : OffB a P) : CntAt W' a n c L := by
  refine ⟨h.len, h.le, h.max, fun hn => ?_⟩
  obtain ⟨b, off, rfl, hlt, hc⟩ := h.cells hn
  have hb := ho _ rfl
  exact ⟨b, off, rfl, Nat.lt_of_lt_of_le hlt hg.size, fun i hi => ⟨gb_cell hg (hc i hi).1 hb, gb_cell hg (hc i hi).2 hb⟩⟩
theorem RulesAt.off {W W' : World} {P : Nat} {a : Option Addr} {n c : Nat} {L : List Rl} (h : RulesAt W a n c L) (hg : W.grownBy W' (some P)) (ho : OffB a P) : RulesAt W' a n c L := by
  refine ⟨h.len, h.le, h.max, fun hn => ?_⟩
  obtain ⟨b, off, rfl, hlt, hc⟩ := h.cells hn
  have hb := ho _ rfl
  exact ⟨b, off, rfl, Nat.lt_of_lt_of_le hlt hg.size, fun i hi => ⟨gb_cell hg (hc i hi).1 hb, gb_cell hg (hc i hi).2.1 hb, gb_cell hg (hc i hi).2.2 hb⟩⟩
theorem IntsAt.off {W W' : World} {P : Nat} {a : Option Addr} {n c : Nat} {L : List Int} (h : IntsAt W a n c L) (hg : W.grownBy W' (some P)) (ho : OffB a P) : IntsAt W' a n c L := by
  refine ⟨h.len, h.le, h.max, fun hn => ?_, h.bd⟩
  obtain ⟨b, off, rfl, hlt, hc⟩ := h.cells hn
  have hb := ho _ rfl
  exact ⟨b, off, rfl, Nat.lt_of_lt_of_le hlt hg.size, fun i u hu => gb_cell hg (hc i u hu) hb⟩
/-- A list's block is there, and is none of those that F names. -/
def OffF (W : World) (a : Option Addr) (F : Nat → Prop) : Prop := ∀ ad, a = some ad → ad.block < W.heap.size ∧ ¬ F ad.block
theorem OffF.off {W : World} {a : Option Addr} {F : Nat → Prop} {P : Nat} (h : OffF W a F) (hP : F P) : OffB a P := fun ad e hh => (h ad e).2 (by rw [hh]; exact hP)
theorem OffF.size {W W' : World} {a : Option Addr} {F : Nat → Prop} (h : OffF W a F) (hs : W.heap.size ≤ W'.heap.size) : OffF W' a F := fun ad e => ⟨Nat.lt_of_lt_of_le (h ad e).1 hs, (h ad e).2⟩
variable {F : Nat → Prop}
/-- The desk at the pointer P. -/
structure DeskAt (W : World) (P : Nat) (F : Nat → Prop) (D : DeskSt) : Prop where
  fP : F P
  fl : ∀ q, F q → q < W.heap.size
  k0 : W.cell? ⟨P, 0, none⟩ = some (.int .i64 3)
  k1 : W.cell? ⟨P, 1, none⟩ = some (.int .i64 D.lost)
  k2 : ∃ a n c, W.cell? ⟨P, 2, none⟩ = some (.slice a n c) ∧ CntAt W a n c D.cnt ∧ OffF W a F
  k3 : ∃ a n c, W.cell? ⟨P, 3, none⟩ = some (.slice a n c) ∧ RulesAt W a n c D.rules ∧ OffF W a F
  k4 : W.cell? ⟨P, 4, none⟩ = some (.int .i64 3)
  k5 : W.cell? ⟨P, 5, none⟩ = some (.int .i64 D.seen)
  k6 : ∃ a n c, W.cell? ⟨P, 6, none⟩ = some (.slice a n c) ∧ IntsAt W a n c D.items ∧ OffF W a F
  k7 : W.cell? ⟨P, 7, none⟩ = some (.int .i64 3)
  k8 : ∃ a n c, W.cell? ⟨P, 8, none⟩ = some (.slice a n c) ∧ IntsAt W a n c D.nums ∧ OffF W a F
  fz : ∀ i, W.frozen? ⟨P, i, none⟩ = false
theorem DeskAt.lt {W : World} {P : Nat} {D : DeskSt} (h : DeskAt W P F D) : P < W.heap.size := lt_of_cell h.k0
theorem DeskAt.below {W W' : World} {P : Nat} {D : DeskSt} (h : DeskAt W P F D) (hb : Below W.heap.size W W') : DeskAt W' P F D := by
  obtain ⟨a2, n2, c2, q2, r2, o2⟩ := h.k2
  obtain ⟨a3, n3, c3, q3, r3, o3⟩ := h.k3
  obtain ⟨a6, n6, c6, q6, r6, o6⟩ := h.k6
  obtain ⟨a8, n8, c8, q8, r8, o8⟩ := h.k8
  exact ⟨h.fP, fun q hq => Nat.lt_of_lt_of_le (h.fl q hq) hb.size, ck hb h.k0, ck hb h.k1, ⟨a2, n2, c2, ck hb q2, r2.below hb, o2.size hb.size⟩, ⟨a3, n3, c3, ck hb q3, r3.below hb, o3.size hb.size⟩, ck hb h.k4, ck hb h.k5, ⟨a6, n6, c6, ck hb q6, r6.below hb, o6.size hb.size⟩, ck hb h.k7, ⟨a8, n8, c8, ck hb q8, r8.below hb, o8.size hb.size⟩, fun i => (hb.frozen (p := ⟨P, i, none⟩) h.lt).trans (h.fz i)⟩
/-- A new pond. -/
theorem DeskAt.pond {W : World} {P : Nat} {D : DeskSt} {S : Int} {L : List Int} {a : Option Addr} {n c : Nat} (h : DeskAt W P F D) (hi : IntsAt W a n c L) (ho : OffF W a F) :
    DeskAt (((W.setCell ⟨P, 4, none⟩ (.int .i64 3)).setCell ⟨P, 5, none⟩ (.int .i64 S)).setCell ⟨P, 6, none⟩ (.slice a n c)) P F { D with seen := S, items := L } := by
  have hg : W.grownBy (((W.setCell ⟨P, 4, none⟩ (.int .i64 3)).setCell ⟨P, 5, none⟩ (.int .i64 S)).setCell ⟨P, 6, none⟩ (.slice a n c)) (some P) := gb_trans (gb_trans (gb_set _ _ _ _) (gb_set _ _ _ _)) (gb_set _ _ _ _)
  obtain ⟨a2, n2, c2, q2, r2, o2⟩ := h.k2
  obtain ⟨a3, n3, c3, q3, r3, o3⟩ := h.k3
  obtain ⟨a6, n6, c6, q6, r6, o6⟩ := h.k6
  obtain ⟨a8, n8, c8, q8, r8, o8⟩ := h.k8
  have k0 := h.k0
  have k1 := h.k1
  have k4 := h.k4
  have k5 := h.k5
  have k7 := h.k7
  have fz := h.fz
  exact ⟨h.fP, fun q hq => Nat.lt_of_lt_of_le (h.fl q hq) hg.size, by go_simp, by go_simp, ⟨a2, n2, c2, by go_simp, r2.off hg (o2.off h.fP), o2.size hg.size⟩, ⟨a3, n3, c3, by go_simp, r3.off hg (o3.off h.fP), o3.size hg.size⟩, by go_simp, by go_simp, ⟨a, n, c, by go_simp, hi.off hg (ho.off h.fP), ho.size hg.size⟩, by go_simp, ⟨a8, n8, c8, by go_simp, r8.off hg (o8.off h.fP), o8.size hg.size⟩, fun i => by have := fz i; go_simp⟩
theorem DeskAt.least {W : World} {P : Nat} {D : DeskSt} {L : List Int} {a : Option Addr} {n c : Nat} (h : DeskAt W P F D) (hi : IntsAt W a n c L) (ho : OffF W a F) :
    DeskAt ((W.setCell ⟨P, 7, none⟩ (.int .i64 3)).setCell ⟨P, 8, none⟩ (.slice a n c)) P F { D with nums := L } := by
  have hg : W.grownBy ((W.setCell ⟨P, 7, none⟩ (.int .i64 3)).setCell ⟨P, 8, none⟩ (.slice a n c)) (some P) := gb_trans (gb_set _ _ _ _) (gb_set _ _ _ _)
  obtain ⟨a2, n2, c2, q2, r2, o2⟩ := h.k2
  obtain ⟨a3, n3, c3, q3, r3, o3⟩ := h.k3
  obtain ⟨a6, n6, c6, q6, r6, o6⟩ := h.k6
  obtain ⟨a8, n8, c8, q8, r8, o8⟩ := h.k8
  have k0 := h.k0
  have k1 := h.k1
  have k4 := h.k4
  have k5 := h.k5
  have k7 := h.k7
  have fz := h.fz
  exact ⟨h.fP, fun q hq => Nat.lt_of_lt_of_le (h.fl q hq) hg.size, by go_simp, by go_simp, ⟨a2, n2, c2, by go_simp, r2.off hg (o2.off h.fP), o2.size hg.size⟩, ⟨a3, n3, c3, by go_simp, r3.off hg (o3.off h.fP), o3.size hg.size⟩, by go_simp, by go_simp, ⟨a6, n6, c6, by go_simp, r6.off hg (o6.off h.fP), o6.size hg.size⟩, by go_simp, ⟨a, n, c, by go_simp, hi.off hg (ho.off h.fP), ho.size hg.size⟩, fun i => by have := fz i; go_simp⟩
theorem DeskAt.few {W : World} {P : Nat} {D : DeskSt} {S : Int} {L : List (Int × Int)} {a : Option Addr} {n c : Nat} (h : DeskAt W P F D) (hi : CntAt W a n c L) (ho : OffF W a F) :
    DeskAt (((W.setCell ⟨P, 0, none⟩ (.int .i64 3)).setCell ⟨P, 1, none⟩ (.int .i64 S)).setCell ⟨P, 2, none⟩ (.slice a n c)) P F { D with lost := S, cnt := L } := by
  have hg : W.grownBy (((W.setCell ⟨P, 0, none⟩ (.int .i64 3)).setCell ⟨P, 1, none⟩ (.int .i64 S)).setCell ⟨P, 2, none⟩ (.slice a n c)) (some P) := gb_trans (gb_trans (gb_set _ _ _ _) (gb_set _ _ _ _)) (gb_set _ _ _ _)
  obtain ⟨a2, n2, c2, q2, r2, o2⟩ := h.k2
  obtain ⟨a3, n3, c3, q3, r3, o3⟩ := h.k3
  obtain ⟨a6, n6, c6, q6, r6, o6⟩ := h.k6
  obtain ⟨a8, n8, c8, q8, r8, o8⟩ := h.k8
  have k0 := h.k0
  have k1 := h.k1
  have k4 := h.k4
  have k5 := h.k5
  have k7 := h.k7
  have fz := h.fz
  exact ⟨h.fP, fun q hq => Nat.lt_of_lt_of_le (h.fl q hq) hg.size, by go_simp, by go_simp, ⟨a, n, c, by go_simp, hi.off hg (ho.off h.fP), ho.size hg.size⟩, ⟨a3, n3, c3, by go_simp, r3.off hg (o3.off h.fP), o3.size hg.size⟩, by go_simp, by go_simp, ⟨a6, n6, c6, by go_simp, r6.off hg (o6.off h.fP), o6.size hg.size⟩, by go_simp, ⟨a8, n8, c8, by go_simp, r8.off hg (o8.off h.fP), o8.size hg.size⟩, fun i => by have := fz i; go_simp⟩
theorem DeskAt.rules_ {W : World} {P : Nat} {D : DeskSt} {L : List Rl} {a : Option Addr} {n c : Nat} (h : DeskAt W P F D) (hi : RulesAt W a n c L) (ho : OffF W a F) :
    DeskAt (W.setCell ⟨P, 3, none⟩ (.slice a n c)) P F { D with rules := L } := by
  have hg : W.grownBy (W.setCell ⟨P, 3, none⟩ (.slice a n c)) (some P) := gb_set _ _ _ _
  obtain ⟨a2, n2, c2, q2, r2, o2⟩ := h.k2
  obtain ⟨a3, n3, c3, q3, r3, o3⟩ := h.k3
  obtain ⟨a6, n6, c6, q6, r6, o6⟩ := h.k6
  obtain ⟨a8, n8, c8, q8, r8, o8⟩ := h.k8
  have k0 := h.k0
  have k1 := h.k1
  have k4 := h.k4
  have k5 := h.k5
  have k7 := h.k7
  have fz := h.fz
  exact ⟨h.fP, fun q hq => Nat.lt_of_lt_of_le (h.fl q hq) hg.size, by go_simp, by go_simp, ⟨a2, n2, c2, by go_simp, r2.off hg (o2.off h.fP), o2.size hg.size⟩, ⟨a, n, c, by go_simp, hi.off hg (ho.off h.fP), ho.size hg.size⟩, by go_simp, by go_simp, ⟨a6, n6, c6, by go_simp, r6.off hg (o6.off h.fP), o6.size hg.size⟩, by go_simp, ⟨a8, n8, c8, by go_simp, r8.off hg (o8.off h.fP), o8.size hg.size⟩, fun i => by have := fz i; go_simp⟩
end Go.Proofs.YtgodgfnfaiiohaaGreatDoor

/- What changes the desk: values and errors. -/
namespace Go.Proofs.YtgodgfnfaiiohaaGreatDoor
open Go.ChangeShapes Go.WideShapes Go.ChangeAt Go.RowKit
set_option maxRecDepth 20000
set_option linter.unusedVariables false
def PondP (w : World) (D : DeskSt) (x d : Int) (e : Ending) (w' : World) : Prop :=
  ∃ (k s : Int) (a : Option Addr) (n c : Nat) (E : Int), e = .returned (.tuple #[.agg #[.int .i64 k, .int .i64 s, .slice a n c], .int .i64 E]) ∧
    Hid (E = qpoE D.seen d ∧ (E = 0 → k = 3 ∧ s = D.seen + 1 ∧ n ≤ 3 ∧ IntsAt w' a n c (pput 3 D.seen D.items x d) ∧ ∀ ad, a = some ad → w.heap.size ≤ ad.block ∧ ad.block < w'.heap.size)) ∧ Below w.heap.size w w'
theorem own_base {w : World} {base : Nat} {e : TypeId} {size : Nat} {a : Option Addr} {n c m : Nat} {xs : List Value} (h : w.ownsRow base e size (.slice a n c) m xs) : ∀ ad, a = some ad → base ≤ ad.block ∧ ad.block < w.heap.size := fun ad hd => by
  subst hd
  rcases h.2 with ⟨h0, _⟩ | ⟨g, cap, cur, hv, hg, hh, _⟩
  · cases h0
  · simp only [Value.slice.injEq, Option.some.injEq] at hv
    rw [hv.1]; exact ⟨hg, (Array.getElem?_eq_some_iff.1 hh).1⟩
theorem fE_all (f : Nat → Int) : ∀ n, (∀ i, i < n → f i = 0) → fE f n = 0
  | 0, _ => rfl
  | n + 1, h => fE_next f n (fE_all f n (fun i hi => h i (by omega))) (h n (by omega))
theorem boE_of (xs : List Int) (n : Nat) (hl : xs.length = n) (h : BotOk 3 xs) : boE 3 xs n = 0 := by
  have := h.ln
  unfold boE
  rw [if_neg (by omega), if_neg (by omega)]
  refine fE_all _ _ fun i hi => ?_
  have hm : gi xs i ∈ xs := gi_mem xs i (by omega)
  have hb := h.bd _ hm
  unfold boF
  rw [if_neg (by omega), if_neg]
  rintro ⟨h0, h1⟩
  have hr := List.pairwise_iff_getElem.1 h.ris (i - 1) i (by omega) (by omega) (by omega)
  unfold gi at h1
  rw [List.getD_eq_getElem?_getD, List.getD_eq_getElem?_getD, List.getElem?_eq_getElem (by omega), List.getElem?_eq_getElem (by omega)] at h1
  simp only [Option.getD_some] at h1
  omega
theorem few_z {s : Int × List (Int × Int)} (h : FewOk 3 s) : FewOkZ 3 s.1 s.2 :=
  ⟨by omega, by omega, h.l0, h.l1, by have := h.ln; omega, h.ris, fun p hp => ⟨h.pos p hp, h.big p hp⟩⟩
theorem pond_v (x d : Int) (a : Option Addr) (n c : Nat) (D : DeskSt) (w : World) (h : IntsAt w a n c D.items) (ho : StOk D) (hx : I64 x) :
    Calls Tryz.prog 109 #[.agg #[.int .i64 3, .int .i64 D.seen, .slice a n c], .int .i64 x, .int .i64 d] w (PondP w D x d) := by
  have hn : min 3 D.seen = (n : Int) := by have := ho.pn; rw [h.len] at this; exact this
  have s0 := ho.s0
  have s1 := ho.s1
  by_cases hE : qpoE D.seen d = 0
  · have h1 : ¬ D.seen = 1000000000000 := fun e => by unfold qpoE at hE; rw [if_pos e] at hE; omega
    have h2 : ¬ (d < 0 ∨ D.seen < d) := fun e => by unfold qpoE at hE; rw [if_neg h1, if_pos e] at hE; omega
    refine (pput_c 3 D.seen x d a n c D.items w h (by omega) (by omega) s0 (by omega) hn (by omega) (by omega)).mono ?_
    rintro e w' ⟨v, rfl, hO, hB⟩
    have hl := h.len
    have hbl : (pput 3 D.seen D.items x d).length ≤ 3 := by
      unfold pput
      split
      · rw [List.length_append, hl, List.length_singleton]; omega
      · split
        · rw [List.length_set, hl]; omega
        · rw [hl]; omega
    obtain ⟨a', c', rfl, hi⟩ := owns_ints hO (fun y hy => by
      unfold pput at hy
      split at hy
      · rcases List.mem_append.1 hy with hy | hy
        · exact ho.pb y hy
        · simp at hy; subst hy; exact hx
      · split at hy
        · rcases List.mem_or_eq_of_mem_set hy with hy | hy
          · exact ho.pb y hy
          · subst hy; exact hx
        · exact ho.pb y hy)
    exact ⟨3, D.seen + 1, a', _, c', 0, rfl, ⟨hE.symm, fun _ => ⟨rfl, rfl, hbl, hi, own_base hO⟩⟩, hB⟩
  · refine (pput_bad 3 D.seen x d a n c w (by omega) (by omega) s0 s1 hn hE).mono ?_
    rintro e w' ⟨rfl, hB⟩
    exact ⟨0, 0, none, 0, 0, _, rfl, ⟨rfl, fun e => absurd e hE⟩, hB⟩
def LeastP (w : World) (D : DeskSt) (x : Int) (e : Ending) (w' : World) : Prop :=
  ∃ (k : Int) (a : Option Addr) (n c : Nat) (E : Int), e = .returned (.tuple #[.agg #[.int .i64 k, .slice a n c], .int .i64 E]) ∧
    Hid ((E = if x < 72057594037927936 then 0 else 1) ∧ (E = 0 → k = 3 ∧ n ≤ 3 ∧ IntsAt w' a n c (bot 3 D.nums x) ∧ ∀ ad, a = some ad → w.heap.size ≤ ad.block ∧ ad.block < w'.heap.size)) ∧ Below w.heap.size w w'
theorem least_v (x : Int) (a : Option Addr) (n c : Nat) (D : DeskSt) (w : World) (h : IntsAt w a n c D.nums) (ho : StOk D) (hx : 0 ≤ x) :
    Calls Tryz.prog 111 #[.agg #[.int .i64 3, .slice a n c], .int .i64 x] w (LeastP w D x) := by
  have hb0 : boE 3 D.nums n = 0 := boE_of D.nums n h.len ho.bot
  by_cases hE : x < 72057594037927936
  · refine (boput_c 3 a n c D.nums x w h ho.bot ⟨hx, hE⟩).mono ?_
    rintro e w' ⟨a', n', c', rfl, hO, hB⟩
    have hp := ho.bot.put x ⟨hx, hE⟩
    have hl := hO.1
    rw [List.length_map] at hl
    obtain ⟨a2, c2, hv, hi⟩ := owns_ints hO (fun y hy => by have := hp.bd y hy; omega)
    simp only [Value.slice.injEq] at hv
    obtain ⟨rfl, _, rfl⟩ := hv
    exact ⟨3, a', n', c', 0, rfl, ⟨by rw [if_pos hE], fun _ => ⟨rfl, by have := hp.ln; omega, hi, own_base hO⟩⟩, hB⟩
  · have hP : bpE 3 D.nums n x = 1 := by unfold bpE; rw [if_pos hb0, if_neg (fun e => hE e.2)]
    refine (boput_bad 3 a n c D.nums x w h (by rw [hP]; decide)).mono ?_
    rintro e w' ⟨rfl, hB⟩
    rw [hP]
    exact ⟨0, none, 0, 0, 1, rfl, ⟨by rw [if_neg hE], fun e => by cases e⟩, hB⟩
def FewP (w : World) (D : DeskSt) (k x : Int) (e : Ending) (w' : World) : Prop :=
  ∃ (q s : Int) (a : Option Addr) (n c : Nat) (E : Int), e = .returned (.tuple #[.agg #[.int .i64 q, .int .i64 s, .slice a n c], .int .i64 E]) ∧
    Hid (((E = 0 ∧ (1 ≤ x ∧ x ≤ 1000000000000) ∧ FewOk 3 (fput 3 (D.lost, D.cnt) k x)) ∨ (E = 2 ∧ (1 ≤ x ∧ x ≤ 1000000000000) ∧ ¬ FewOk 3 (fput 3 (D.lost, D.cnt) k x)) ∨ (E = 1 ∧ ¬ (1 ≤ x ∧ x ≤ 1000000000000))) ∧ (E = 0 → q = 3 ∧ s = (fput 3 (D.lost, D.cnt) k x).1 ∧ n ≤ 3 ∧ CntAt w' a n c (fput 3 (D.lost, D.cnt) k x).2 ∧ ∀ ad, a = some ad → w.heap.size ≤ ad.block ∧ ad.block < w'.heap.size)) ∧ Below w.heap.size w w'
theorem few_v (k x : Int) (a : Option Addr) (n c : Nat) (D : DeskSt) (w : World) (h : CntAt w a n c D.cnt) (ho : StOk D) :
    Calls Tryz.prog 115 #[.agg #[.int .i64 3, .int .i64 D.lost, .slice a n c], .int .i64 k, .int .i64 x] w (FewP w D k x) := by
  by_cases hx : 1 ≤ x ∧ x ≤ 1000000000000
  · refine (fput_c 3 (D.lost, D.cnt) a n c k x w h ho.few hx).mono ?_
    rintro e w' ⟨⟨hF, a', n', c', rfl, hO⟩ | ⟨hF, rfl⟩, hB⟩
    · obtain ⟨a2, c2, hv, hi⟩ := owns_cnts hO
      simp only [Value.slice.injEq] at hv
      obtain ⟨rfl, _, rfl⟩ := hv
      have hl := hi.len
      exact ⟨_, _, a', n', c', 0, rfl, ⟨.inl ⟨rfl, hx, hF⟩, fun _ => ⟨rfl, rfl, by have := hF.ln; omega, hi, own_base hO⟩⟩, hB⟩
    · exact ⟨_, _, none, 0, 0, 2, rfl, ⟨.inr (.inl ⟨rfl, hx, hF⟩), fun e => by cases e⟩, hB⟩
  · refine (fput_no3 3 D.lost a n c D.cnt k x w h (few_z ho.few) (by omega)).mono ?_
    rintro e w' ⟨rfl, hB⟩
    exact ⟨_, _, none, 0, 0, 1, rfl, ⟨.inr (.inr ⟨rfl, hx⟩), fun e => by cases e⟩, hB⟩
def RuleP (w : World) (D : DeskSt) (p : ByteArray) (l q : Int) (e : Ending) (w' : World) : Prop :=
  ∃ (a : Option Addr) (n c : Nat) (E : Int), e = .returned (.tuple #[.slice a n c, .int .i64 E]) ∧
    Hid (E = putE D.rules (p, l, q) ∧ (E = 0 → RulesAt w' a n c (bput D.rules (p, l, q)) ∧ ∀ ad, a = some ad → w.heap.size ≤ ad.block ∧ ad.block < w'.heap.size)) ∧ Below w.heap.size w w'
theorem rule_v (p : ByteArray) (l q : Int) (a : Option Addr) (n c : Nat) (D : DeskSt) (w : World) (h : RulesAt w a n c D.rules) (ho : StOk D) :
    Calls Tryz.prog 119 #[.slice a n c, .agg #[.string p, .int .i64 l, .int .i64 q]] w (RuleP w D p l q) := by
  refine (bdput_c a n c D.rules p l q w h ho.bd).mono ?_
  rintro e w' ⟨⟨h0, v, rfl, hO⟩ | ⟨h0, rfl⟩, hB⟩
  · obtain ⟨a', c', rfl, hi⟩ := owns_rules hO
    exact ⟨a', _, c', 0, rfl, ⟨h0.symm, fun _ => ⟨hi, own_base hO⟩⟩, hB⟩
  · exact ⟨none, 0, 0, _, rfl, ⟨rfl, fun e => absurd e h0⟩, hB⟩
end Go.Proofs.YtgodgfnfaiiohaaGreatDoor

/- The functions of 'pond' and 'least': what changes the desk. -/
namespace Go.Proofs.YtgodgfnfaiiohaaGreatDoor
open Go.ChangeShapes Go.WideShapes Go.ChangeAt Go.RowKit
set_option maxRecDepth 20000
set_option linter.unusedVariables false
variable {F : Nat → Prop}
theorem offF_of {W W' : World} {a : Option Addr} (h : ∀ ad, a = some ad → W.heap.size ≤ ad.block ∧ ad.block < W'.heap.size) (hF : ∀ q, F q → q < W.heap.size) : OffF W' a F := fun ad e => ⟨(h ad e).2, fun hf => by have := hF _ hf; have := (h ad e).1; omega⟩
theorem offB_of {P B : Nat} {a : Option Addr} (h : ∀ ad, a = some ad → B ≤ ad.block) (hP : P < B) : OffB a P := fun ad e hh => by
  have := h ad e
  omega
set_option maxHeartbeats 4000000 in
theorem do_pond (bd b1 b2 P : Nat) (x d : Int) (D : DeskSt) (W : World) (hT : Tabs W) (hD : DeskAt W P F D) (ho : StOk D) (hP : 8 ≤ P) (q0 : W.cell? ⟨bd, 0, none⟩ = some (.pointer (some ⟨P, 0, none⟩))) (q1 : W.cell? ⟨b1, 0, none⟩ = some (.int .i64 x)) (q2 : W.cell? ⟨b2, 0, none⟩ = some (.int .i64 d)) (hx : I64 x) (hbd : ¬ P = bd) :
    Calls Tryz.prog 108 #[.pointer (some ⟨bd, 0, none⟩), .pointer (some ⟨b1, 0, none⟩), .pointer (some ⟨b2, 0, none⟩)] W fun e w' => AnsX (opF D (.pond x d)).1 e ∧ DeskAt w' P F (opF D (.pond x d)).2 ∧ W.grownBy w' (some P) := by
  obtain ⟨a6, n6, c6, q6, r6, o6⟩ := hD.k6
  have k4 := hD.k4
  have k5 := hD.k5
  have hPl := hD.lt
  have bdl : bd < W.heap.size := lt_of_cell q0
  have CT := hidp (fun W' (hB : Below W.heap.size W W') => pond_v x d a6 n6 c6 D W' (r6.below hB) ho hx)
  have HD := hidp hD
  have HT := hidp hT
  have HR := hidp (show opF D (.pond x d) = if qpoE D.seen d = 0 then (.ok (toldS (pput 3 D.seen D.items x d)), { D with seen := D.seen + 1, items := pput 3 D.seen D.items x d }) else (.error (qpoE D.seen d), D) from rfl)
  have MO := hidp (fun w => must_ok w)
  have MB := hidp (fun e h w => must_bad e h w)
  unfold PondP at CT
  generalize opF D (.pond x d) = RR at *
  generalize pput 3 D.seen D.items x d = L at *
  generalize qpoE D.seen d = EE at *
  have KEEP := hidp (fun W' (hb : Below W.heap.size W W') => And.intro (ck hb q0) (And.intro (ck hb q1) (And.intro (ck hb q2) (And.intro (ck hb k4) (And.intro (ck hb k5) (ck hb q6))))))
  clear hT hD r6 ho hx
  go_enter Tryz.func108, Tryz.ntmps108
  go_upto_region 1 with fail
  go_cut [4, 5] (fun s4 s5 wx => ∃ (p : Nat) (k s : Int) (a : Option Addr) (n c : Nat) (E : Int), s4 = .pointer (some ⟨p, 0, none⟩) ∧ s5 = .int .i64 E ∧ W.heap.size ≤ p ∧ wx.cell? ⟨p, 0, none⟩ = some (.int .i64 k) ∧ wx.cell? ⟨p, 1, none⟩ = some (.int .i64 s) ∧ wx.cell? ⟨p, 2, none⟩ = some (.slice a n c) ∧
      Hid (E = EE ∧ (E = 0 → k = 3 ∧ s = D.seen + 1 ∧ n ≤ 3 ∧ IntsAt wx a n c L ∧ ∀ ad, a = some ad → W.heap.size ≤ ad.block ∧ ad.block < wx.heap.size)) ∧ Below W.heap.size W wx)
  case first =>
    go_region_held3 (fun w' => w'.cell? ⟨bd, 0, none⟩ = some (.pointer (some ⟨P, 0, none⟩)) ∧ w'.cell? ⟨b1, 0, none⟩ = some (.int .i64 x) ∧ w'.cell? ⟨b2, 0, none⟩ = some (.int .i64 d) ∧ w'.cell? ⟨P, 4, none⟩ = some (.int .i64 3) ∧ w'.cell? ⟨P, 5, none⟩ = some (.int .i64 D.seen) ∧ w'.cell? ⟨P, 6, none⟩ = some (.slice a6 n6 c6)) (first | go_keep | exact KEEP.out _ hbw | exact KEEP.out _ (bal hbw _) | exact KEEP.out _ (((hbw.setCell (Nat.le_refl _) _).setCell (Nat.le_refl _) _).setCell (Nat.le_refl _) _))
      (first
        | (go_at_call 109; refine (CT.out _ ((bal (Below.refl W.heap.size W) _).drew)).mono ?_; rintro e wd ⟨k, s, a, n, c, E, rfl, hv, hbd2⟩; have hbw := bstep (bal (Below.refl W.heap.size W) _).drew hbd2; obtain ⟨hcA, hfA⟩ := bcell hbd2; have hsd := hbd2.size; have e0 := hcA W.heap.size 0 (by simp); have e1 := hcA W.heap.size 1 (by simp); have e2 := hcA W.heap.size 2 (by simp); have f0 := hfA W.heap.size 0 (by simp); have f1 := hfA W.heap.size 1 (by simp); have f2 := hfA W.heap.size 2 (by simp); simp at e0 e1 e2 f0 f1 f2 hsd; clear hcA hfA)
        | (go_at_call 109; refine (CT.out _ (Below.refl W.heap.size W).drew).mono ?_; rintro e wd ⟨k, s, a, n, c, E, rfl, hv, hbd2⟩; have hbw := bstep (Below.refl W.heap.size W).drew hbd2; have hsd := hbd2.size; simp at hsd))
    · go_wp2_with fail
      go_meet
      exact ⟨wd.heap.size, k, s, a, n, c, E, rfl, rfl, hsd, by go_simp, by go_simp, by go_simp, ⟨hv.out.1, fun h => by
        obtain ⟨g1, g2, g3, g4, g5⟩ := hv.out.2 h
        exact ⟨g1, g2, g3, g4.alloc _, fun ad e => ⟨(g5 ad e).1, Nat.lt_of_lt_of_le (g5 ad e).2 (by simp)⟩⟩⟩, bal hbw _⟩
    · go_wp2_with fail
      go_meet
      exact ⟨W.heap.size, k, s, a, n, c, E, rfl, rfl, Nat.le_refl _, by go_simp, by go_simp, by go_simp, ⟨hv.out.1, fun h => by
        obtain ⟨g1, g2, g3, g4, g5⟩ := hv.out.2 h
        have g6 : ∀ ad, a = some ad → W.heap.size + 1 ≤ ad.block := fun ad e => by have := (g5 ad e).1; simpa using this
        exact ⟨g1, g2, g3, g4.off (gb_trans (gb_trans (gb_set _ _ _ _) (gb_set _ _ _ _)) (gb_set _ _ _ _)) (offB_of g6 (Nat.lt_succ_self _)), fun ad e => ⟨Nat.le_of_succ_le (g6 ad e), by simpa using (g5 ad e).2⟩⟩⟩, ((hbw.setCell (Nat.le_refl _) _).setCell (Nat.le_refl _) _).setCell (Nat.le_refl _) _⟩
  case rest =>
    obtain ⟨p, k, s, a, n, c, E, rfl, rfl, hp, c0, c1, c2, hv, hbx⟩ := hcut
    obtain ⟨hE, hv2⟩ := hv.out
    subst hE
    have D1 := hidp (HD.out.below hbx)
    have HB := hidp hbx
    have d0 := ck hbx q0
    have p4 := D1.out.k4
    have p5 := D1.out.k5
    have p6 := ck hbx q6
    have f4 := D1.out.fz 4
    have f5 := D1.out.fz 5
    have f6 := D1.out.fz 6
    have npP : ¬ p = P := by omega
    have nPp : ¬ P = p := by omega
    have npb : ¬ p = bd := by omega
    have nbp : ¬ bd = p := by omega
    have nbP : ¬ bd = P := fun e => hbd e.symm
    have HT1 := hidp (HT.out.on hbx)
    clear q0 q1 q2 k4 k5 q6 KEEP CT hbx hv
    by_cases h0 : E = 0
    · subst h0
      obtain ⟨rfl, rfl, hn3, hi, hoff⟩ := hv2 rfl
      have R1 := hidp (show RR = (.ok (toldS L), { D with seen := D.seen + 1, items := L }) by rw [HR.out, if_pos rfl])
      have OF := hidp (offF_of hoff HD.out.fl)
      have HI := hidp hi
      clear hv2 hi hoff HR
      go_wp2_with fail
      refine (MO.out _).mono ?_
      rintro e w1' ⟨rfl, rfl⟩
      go_wp2_with fail
      have hg : w1'.grownBy (((w1'.setCell ⟨P, 4, none⟩ (.int .i64 3)).setCell ⟨P, 5, none⟩ (.int .i64 (D.seen + 1))).setCell ⟨P, 6, none⟩ (.slice a n c)) (some P) := gb_trans (gb_trans (gb_set _ _ _ _) (gb_set _ _ _ _)) (gb_set _ _ _ _)
      have DP := hidp (D1.out.pond (S := D.seen + 1) HI.out OF.out)
      refine (told_c a n c L _ (HI.out.off hg (OF.out.off HD.out.fP)) (HT1.out.grown hg hP) (by omega)).mono ?_
      rintro e w2 ⟨rfl, hb2⟩
      have HG := hidp (gb_trans (gb_of HB.out (some P)) (gb_trans hg (gb_of hb2 _)))
      have DQ := hidp (DP.out.below hb2)
      clear hg DP hb2
      go_wp2
      go_ret
      rw [R1.out]
      exact ⟨.inl ⟨_, rfl, rfl⟩, DQ.out, HG.out⟩
    · have R1 := hidp (show RR = (.error E, D) by rw [HR.out, if_neg h0])
      have HG := hidp (gb_of HB.out (some P))
      have H0 := hidp h0
      clear hv2 HR h0
      go_wp2_with fail
      refine (MB.out E H0.out _).mono ?_
      rintro e w1' ⟨rfl, rfl⟩
      go_wp2
      rw [R1.out]
      exact ⟨rfl, .inr ⟨_, rfl, rfl⟩, D1.out, HG.out⟩
end Go.Proofs.YtgodgfnfaiiohaaGreatDoor

/- The functions of 'least' and 'few'. -/
namespace Go.Proofs.YtgodgfnfaiiohaaGreatDoor
open Go.ChangeShapes Go.WideShapes Go.ChangeAt Go.RowKit
set_option maxRecDepth 20000
set_option linter.unusedVariables false
variable {F : Nat → Prop}
set_option maxHeartbeats 4000000 in
theorem do_least (bd b1 P : Nat) (x : Int) (D : DeskSt) (W : World) (hT : Tabs W) (hD : DeskAt W P F D) (ho : StOk D) (hP : 8 ≤ P) (q0 : W.cell? ⟨bd, 0, none⟩ = some (.pointer (some ⟨P, 0, none⟩))) (q1 : W.cell? ⟨b1, 0, none⟩ = some (.int .i64 x)) (hx : 0 ≤ x) (hbd : ¬ P = bd) :
    Calls Tryz.prog 110 #[.pointer (some ⟨bd, 0, none⟩), .pointer (some ⟨b1, 0, none⟩)] W fun e w' => AnsX (opF D (.least x)).1 e ∧ DeskAt w' P F (opF D (.least x)).2 ∧ W.grownBy w' (some P) := by
  obtain ⟨a6, n6, c6, q6, r6, o6⟩ := hD.k8
  have k4 := hD.k7
  have hPl := hD.lt
  have bdl : bd < W.heap.size := lt_of_cell q0
  have CT := hidp (fun W' (hB : Below W.heap.size W W') => least_v x a6 n6 c6 D W' (r6.below hB) ho hx)
  have HD := hidp hD
  have HT := hidp hT
  have HR := hidp (show opF D (.least x) = if (if x < 72057594037927936 then (0 : Int) else 1) = 0 then (.ok (toldS (bot 3 D.nums x)), { D with nums := bot 3 D.nums x }) else (.error (if x < 72057594037927936 then (0 : Int) else 1), D) from by
    show (if x < 72057594037927936 then _ else _) = _
    split <;> rfl)
  have MO := hidp (fun w => must_ok w)
  have MB := hidp (fun e h w => must_bad e h w)
  unfold LeastP at CT
  generalize opF D (.least x) = RR at *
  generalize bot 3 D.nums x = L at *
  generalize (if x < 72057594037927936 then (0 : Int) else 1) = EE at *
  have KEEP := hidp (fun W' (hb : Below W.heap.size W W') => And.intro (ck hb q0) (And.intro (ck hb q1) (And.intro (ck hb k4) (ck hb q6))))
  clear hT hD r6 ho hx
  go_enter Tryz.func110, Tryz.ntmps110
  go_upto_region 1 with fail
  go_cut [3, 4] (fun s4 s5 wx => ∃ (p : Nat) (k : Int) (a : Option Addr) (n c : Nat) (E : Int), s4 = .pointer (some ⟨p, 0, none⟩) ∧ s5 = .int .i64 E ∧ W.heap.size ≤ p ∧ wx.cell? ⟨p, 0, none⟩ = some (.int .i64 k) ∧ wx.cell? ⟨p, 1, none⟩ = some (.slice a n c) ∧
      Hid (E = EE ∧ (E = 0 → k = 3 ∧ n ≤ 3 ∧ IntsAt wx a n c L ∧ ∀ ad, a = some ad → W.heap.size ≤ ad.block ∧ ad.block < wx.heap.size)) ∧ Below W.heap.size W wx)
  case first =>
    go_region_held3 (fun w' => w'.cell? ⟨bd, 0, none⟩ = some (.pointer (some ⟨P, 0, none⟩)) ∧ w'.cell? ⟨b1, 0, none⟩ = some (.int .i64 x) ∧ w'.cell? ⟨P, 7, none⟩ = some (.int .i64 3) ∧ w'.cell? ⟨P, 8, none⟩ = some (.slice a6 n6 c6)) (first | go_keep | exact KEEP.out _ hbw | exact KEEP.out _ (bal hbw _) | exact KEEP.out _ ((hbw.setCell (Nat.le_refl _) _).setCell (Nat.le_refl _) _))
      (first
        | (go_at_call 111; refine (CT.out _ ((bal (Below.refl W.heap.size W) _).drew)).mono ?_; rintro e wd ⟨k, a, n, c, E, rfl, hv, hbd2⟩; have hbw := bstep (bal (Below.refl W.heap.size W) _).drew hbd2; obtain ⟨hcA, hfA⟩ := bcell hbd2; have hsd := hbd2.size; have e0 := hcA W.heap.size 0 (by simp); have e1 := hcA W.heap.size 1 (by simp); have f0 := hfA W.heap.size 0 (by simp); have f1 := hfA W.heap.size 1 (by simp); simp at e0 e1 f0 f1 hsd; clear hcA hfA)
        | (go_at_call 111; refine (CT.out _ (Below.refl W.heap.size W).drew).mono ?_; rintro e wd ⟨k, a, n, c, E, rfl, hv, hbd2⟩; have hbw := bstep (Below.refl W.heap.size W).drew hbd2; have hsd := hbd2.size; simp at hsd))
    · go_wp2_with fail
      go_meet
      exact ⟨wd.heap.size, k, a, n, c, E, rfl, rfl, hsd, by go_simp, by go_simp, ⟨hv.out.1, fun h => by
        obtain ⟨g1, g3, g4, g5⟩ := hv.out.2 h
        exact ⟨g1, g3, g4.alloc _, fun ad e => ⟨(g5 ad e).1, Nat.lt_of_lt_of_le (g5 ad e).2 (by simp)⟩⟩⟩, bal hbw _⟩
    · go_wp2_with fail
      go_meet
      exact ⟨W.heap.size, k, a, n, c, E, rfl, rfl, Nat.le_refl _, by go_simp, by go_simp, ⟨hv.out.1, fun h => by
        obtain ⟨g1, g3, g4, g5⟩ := hv.out.2 h
        have g6 : ∀ ad, a = some ad → W.heap.size + 1 ≤ ad.block := fun ad e => by have := (g5 ad e).1; simpa using this
        exact ⟨g1, g3, g4.off (gb_trans (gb_set _ _ _ _) (gb_set _ _ _ _)) (offB_of g6 (Nat.lt_succ_self _)), fun ad e => ⟨Nat.le_of_succ_le (g6 ad e), by simpa using (g5 ad e).2⟩⟩⟩, (hbw.setCell (Nat.le_refl _) _).setCell (Nat.le_refl _) _⟩
  case rest =>
    obtain ⟨p, k, a, n, c, E, rfl, rfl, hp, c0, c1, hv, hbx⟩ := hcut
    obtain ⟨hE, hv2⟩ := hv.out
    subst hE
    have D1 := hidp (HD.out.below hbx)
    have HB := hidp hbx
    have d0 := ck hbx q0
    have p4 := D1.out.k7
    have p6 := ck hbx q6
    have f4 := D1.out.fz 7
    have f5 := D1.out.fz 8
    have npP : ¬ p = P := by omega
    have nPp : ¬ P = p := by omega
    have npb : ¬ p = bd := by omega
    have nbp : ¬ bd = p := by omega
    have nbP : ¬ bd = P := fun e => hbd e.symm
    have HT1 := hidp (HT.out.on hbx)
    clear q0 q1 k4 q6 KEEP CT hbx hv
    by_cases h0 : E = 0
    · subst h0
      obtain ⟨rfl, hn3, hi, hoff⟩ := hv2 rfl
      have R1 := hidp (show RR = (.ok (toldS L), { D with nums := L }) by rw [HR.out, if_pos rfl])
      have OF := hidp (offF_of hoff HD.out.fl)
      have HI := hidp hi
      clear hv2 hi hoff HR
      go_wp2_with fail
      refine (MO.out _).mono ?_
      rintro e w1' ⟨rfl, rfl⟩
      go_wp2_with fail
      have hg : w1'.grownBy ((w1'.setCell ⟨P, 7, none⟩ (.int .i64 3)).setCell ⟨P, 8, none⟩ (.slice a n c)) (some P) := gb_trans (gb_set _ _ _ _) (gb_set _ _ _ _)
      have DP := hidp (D1.out.least HI.out OF.out)
      refine (told_c a n c L _ (HI.out.off hg (OF.out.off HD.out.fP)) (HT1.out.grown hg hP) (by omega)).mono ?_
      rintro e w2 ⟨rfl, hb2⟩
      have HG := hidp (gb_trans (gb_of HB.out (some P)) (gb_trans hg (gb_of hb2 _)))
      have DQ := hidp (DP.out.below hb2)
      clear hg DP hb2
      go_wp2
      go_ret
      rw [R1.out]
      exact ⟨.inl ⟨_, rfl, rfl⟩, DQ.out, HG.out⟩
    · have R1 := hidp (show RR = (.error E, D) by rw [HR.out, if_neg h0])
      have HG := hidp (gb_of HB.out (some P))
      have H0 := hidp h0
      clear hv2 HR h0
      go_wp2_with fail
      refine (MB.out E H0.out _).mono ?_
      rintro e w1' ⟨rfl, rfl⟩
      go_wp2
      rw [R1.out]
      exact ⟨rfl, .inr ⟨_, rfl, rfl⟩, D1.out, HG.out⟩
theorem few_r (D : DeskSt) (x d : Int) : (((1 ≤ d ∧ d ≤ 1000000000000) ∧ FewOk 3 (fput 3 (D.lost, D.cnt) x d)) → opF D (.few x d) = (.ok (toldS [((fput 3 (D.lost, D.cnt) x d).2.length : Int), (fput 3 (D.lost, D.cnt) x d).1]), { D with lost := (fput 3 (D.lost, D.cnt) x d).1, cnt := (fput 3 (D.lost, D.cnt) x d).2 })) ∧
    (((1 ≤ d ∧ d ≤ 1000000000000) ∧ ¬ FewOk 3 (fput 3 (D.lost, D.cnt) x d)) → opF D (.few x d) = (.error 2, D)) ∧ (¬ (1 ≤ d ∧ d ≤ 1000000000000) → opF D (.few x d) = (.error 1, D)) := by
  refine ⟨fun h => ?_, fun h => ?_, fun h => ?_⟩
  · simp only [opF]; rw [if_pos h.1, if_pos h.2]
  · simp only [opF]; rw [if_pos h.1, if_neg h.2]
  · simp only [opF]; rw [if_neg h]
theorem few_e {E : Int} {A B : Prop} {RR : Res × DeskSt} {X : Res × DeskSt} {D : DeskSt} (hE : (E = 0 ∧ A ∧ B) ∨ (E = 2 ∧ A ∧ ¬ B) ∨ (E = 1 ∧ ¬ A)) (h : ((A ∧ B) → RR = X) ∧ ((A ∧ ¬ B) → RR = (.error 2, D)) ∧ (¬ A → RR = (.error 1, D))) : (E = 0 → RR = X) ∧ (E ≠ 0 → RR = (.error E, D)) := by
  obtain ⟨h1, h2, h3⟩ := h
  rcases hE with ⟨rfl, a, b⟩ | ⟨rfl, a, b⟩ | ⟨rfl, a⟩
  · exact ⟨fun _ => h1 ⟨a, b⟩, fun e => absurd rfl e⟩
  · exact ⟨fun e => absurd e (by decide), fun _ => h2 ⟨a, b⟩⟩
  · exact ⟨fun e => absurd e (by decide), fun _ => h3 a⟩
set_option maxHeartbeats 4000000 in
theorem do_few (bd b1 b2 P : Nat) (x d : Int) (D : DeskSt) (W : World) (hT : Tabs W) (hD : DeskAt W P F D) (ho : StOk D) (hP : 8 ≤ P) (q0 : W.cell? ⟨bd, 0, none⟩ = some (.pointer (some ⟨P, 0, none⟩))) (q1 : W.cell? ⟨b1, 0, none⟩ = some (.int .i64 x)) (q2 : W.cell? ⟨b2, 0, none⟩ = some (.int .i64 d)) (hbd : ¬ P = bd) :
    Calls Tryz.prog 114 #[.pointer (some ⟨bd, 0, none⟩), .pointer (some ⟨b1, 0, none⟩), .pointer (some ⟨b2, 0, none⟩)] W fun e w' => AnsX (opF D (.few x d)).1 e ∧ DeskAt w' P F (opF D (.few x d)).2 ∧ W.grownBy w' (some P) := by
  obtain ⟨a6, n6, c6, q6, r6, o6⟩ := hD.k2
  have k4 := hD.k0
  have k5 := hD.k1
  have hPl := hD.lt
  have bdl : bd < W.heap.size := lt_of_cell q0
  have CT := hidp (fun W' (hB : Below W.heap.size W W') => few_v x d a6 n6 c6 D W' (r6.below hB) ho)
  have HD := hidp hD
  have HT := hidp hT
  have HR := hidp (few_r D x d)
  have MO := hidp (fun w => must_ok w)
  have MB := hidp (fun e h w => must_bad e h w)
  unfold FewP at CT
  generalize opF D (.few x d) = RR at *
  obtain ⟨FS, hFS⟩ : ∃ FS, FS = fput 3 (D.lost, D.cnt) x d := ⟨_, rfl⟩
  rw [← hFS] at CT HR
  obtain ⟨L, hL⟩ : ∃ L, L = FS.2 := ⟨_, rfl⟩
  obtain ⟨SS, hSS⟩ : ∃ SS, SS = FS.1 := ⟨_, rfl⟩
  have SE := hidp hSS
  rw [← hL, ← hSS] at CT HR
  have KS := hidp (fun (h : FewOk 3 FS) => h.l1)
  have KT := hidp (fun (h : FewOk 3 FS) => h.l0)
  clear hL hSS hFS
  have KEEP := hidp (fun W' (hb : Below W.heap.size W W') => And.intro (ck hb q0) (And.intro (ck hb q1) (And.intro (ck hb q2) (And.intro (ck hb k4) (And.intro (ck hb k5) (ck hb q6))))))
  clear hT hD r6 ho
  go_enter Tryz.func114, Tryz.ntmps114
  go_upto_region 1 with fail
  go_cut [4, 5] (fun s4 s5 wx => ∃ (p : Nat) (k s : Int) (a : Option Addr) (n c : Nat) (E : Int), s4 = .pointer (some ⟨p, 0, none⟩) ∧ s5 = .int .i64 E ∧ W.heap.size ≤ p ∧ wx.cell? ⟨p, 0, none⟩ = some (.int .i64 k) ∧ wx.cell? ⟨p, 1, none⟩ = some (.int .i64 s) ∧ wx.cell? ⟨p, 2, none⟩ = some (.slice a n c) ∧
      Hid (((E = 0 ∧ (1 ≤ d ∧ d ≤ 1000000000000) ∧ FewOk 3 FS) ∨ (E = 2 ∧ (1 ≤ d ∧ d ≤ 1000000000000) ∧ ¬ FewOk 3 FS) ∨ (E = 1 ∧ ¬ (1 ≤ d ∧ d ≤ 1000000000000))) ∧ (E = 0 → k = 3 ∧ s = SS ∧ n ≤ 3 ∧ CntAt wx a n c L ∧ ∀ ad, a = some ad → W.heap.size ≤ ad.block ∧ ad.block < wx.heap.size)) ∧ Below W.heap.size W wx)
  case first =>
    go_region_held3 (fun w' => w'.cell? ⟨bd, 0, none⟩ = some (.pointer (some ⟨P, 0, none⟩)) ∧ w'.cell? ⟨b1, 0, none⟩ = some (.int .i64 x) ∧ w'.cell? ⟨b2, 0, none⟩ = some (.int .i64 d) ∧ w'.cell? ⟨P, 0, none⟩ = some (.int .i64 3) ∧ w'.cell? ⟨P, 1, none⟩ = some (.int .i64 D.lost) ∧ w'.cell? ⟨P, 2, none⟩ = some (.slice a6 n6 c6)) (first | go_keep | exact KEEP.out _ hbw | exact KEEP.out _ (bal hbw _) | exact KEEP.out _ (((hbw.setCell (Nat.le_refl _) _).setCell (Nat.le_refl _) _).setCell (Nat.le_refl _) _))
      (first
        | (go_at_call 115; refine (CT.out _ ((bal (Below.refl W.heap.size W) _).drew)).mono ?_; rintro e wd ⟨k, s, a, n, c, E, rfl, hv, hbd2⟩; have hbw := bstep (bal (Below.refl W.heap.size W) _).drew hbd2; obtain ⟨hcA, hfA⟩ := bcell hbd2; have hsd := hbd2.size; have e0 := hcA W.heap.size 0 (by simp); have e1 := hcA W.heap.size 1 (by simp); have e2 := hcA W.heap.size 2 (by simp); have f0 := hfA W.heap.size 0 (by simp); have f1 := hfA W.heap.size 1 (by simp); have f2 := hfA W.heap.size 2 (by simp); simp at e0 e1 e2 f0 f1 f2 hsd; clear hcA hfA)
        | (go_at_call 115; refine (CT.out _ (Below.refl W.heap.size W).drew).mono ?_; rintro e wd ⟨k, s, a, n, c, E, rfl, hv, hbd2⟩; have hbw := bstep (Below.refl W.heap.size W).drew hbd2; have hsd := hbd2.size; simp at hsd))
    · go_wp2_with fail
      go_meet
      exact ⟨wd.heap.size, k, s, a, n, c, E, rfl, rfl, hsd, by go_simp, by go_simp, by go_simp, ⟨hv.out.1, fun h => by
        obtain ⟨g1, g2, g3, g4, g5⟩ := hv.out.2 h
        exact ⟨g1, g2, g3, g4.below (bal (Below.refl _ _) _), fun ad e => ⟨(g5 ad e).1, Nat.lt_of_lt_of_le (g5 ad e).2 (by simp)⟩⟩⟩, bal hbw _⟩
    · go_wp2_with fail
      go_meet
      exact ⟨W.heap.size, k, s, a, n, c, E, rfl, rfl, Nat.le_refl _, by go_simp, by go_simp, by go_simp, ⟨hv.out.1, fun h => by
        obtain ⟨g1, g2, g3, g4, g5⟩ := hv.out.2 h
        have g6 : ∀ ad, a = some ad → W.heap.size + 1 ≤ ad.block := fun ad e => by have := (g5 ad e).1; simpa using this
        exact ⟨g1, g2, g3, g4.off (gb_trans (gb_trans (gb_set _ _ _ _) (gb_set _ _ _ _)) (gb_set _ _ _ _)) (offB_of g6 (Nat.lt_succ_self _)), fun ad e => ⟨Nat.le_of_succ_le (g6 ad e), by simpa using (g5 ad e).2⟩⟩⟩, ((hbw.setCell (Nat.le_refl _) _).setCell (Nat.le_refl _) _).setCell (Nat.le_refl _) _⟩
  case rest =>
    obtain ⟨p, k, s, a, n, c, E, rfl, rfl, hp, c0, c1, c2, hv, hbx⟩ := hcut
    obtain ⟨hE, hv2⟩ := hv.out
    have hER := few_e hE HR.out
    have D1 := hidp (HD.out.below hbx)
    have HB := hidp hbx
    have d0 := ck hbx q0
    have p4 := D1.out.k0
    have p5 := D1.out.k1
    have p6 := ck hbx q6
    have f4 := D1.out.fz 0
    have f5 := D1.out.fz 1
    have f6 := D1.out.fz 2
    have npP : ¬ p = P := by omega
    have nPp : ¬ P = p := by omega
    have npb : ¬ p = bd := by omega
    have nbp : ¬ bd = p := by omega
    have nbP : ¬ bd = P := fun e => hbd e.symm
    have HT1 := hidp (HT.out.on hbx)
    clear q0 q1 q2 k4 k5 q6 KEEP CT hbx hv
    by_cases h0 : E = 0
    · subst h0
      obtain ⟨rfl, rfl, hn3, hi, hoff⟩ := hv2 rfl
      have hF : FewOk 3 FS := by
        rcases hE with h | h | h
        · exact h.2.2
        · exact absurd h.1 (by decide)
        · exact absurd h.1 (by decide)
      have R1 := hidp (show RR = (.ok (toldS [(L.length : Int), s]), { D with lost := s, cnt := L }) from hER.1 rfl)
      have OF := hidp (offF_of hoff HD.out.fl)
      have HI := hidp hi
      have LN := hidp hi.len
      have hs0 := KT.out hF
      have hs1 := KS.out hF
      rw [← SE.out] at hs0 hs1
      clear hv2 hi hoff HR hE hER hF
      go_wp2_with fail
      refine (MO.out _).mono ?_
      rintro e w1' ⟨rfl, rfl⟩
      go_upto_region 4 with fail
      have hg : w1'.grownBy (((w1'.setCell ⟨P, 0, none⟩ (.int .i64 3)).setCell ⟨P, 1, none⟩ (.int .i64 s)).setCell ⟨P, 2, none⟩ (.slice a n c)) (some P) := gb_trans (gb_trans (gb_set _ _ _ _) (gb_set _ _ _ _)) (gb_set _ _ _ _)
      have DP := hidp (D1.out.few (S := s) HI.out OF.out)
      have HTz := hidp (HT1.out.grown hg hP)
      have z0 : (((w1'.setCell ⟨P, 0, none⟩ (.int .i64 3)).setCell ⟨P, 1, none⟩ (.int .i64 s)).setCell ⟨P, 2, none⟩ (.slice a n c)).cell? ⟨bd, 0, none⟩ = some (.pointer (some ⟨P, 0, none⟩)) := by go_simp
      have z1 : (((w1'.setCell ⟨P, 0, none⟩ (.int .i64 3)).setCell ⟨P, 1, none⟩ (.int .i64 s)).setCell ⟨P, 2, none⟩ (.slice a n c)).cell? ⟨P, 1, none⟩ = some (.int .i64 s) := by go_simp
      have z2 : (((w1'.setCell ⟨P, 0, none⟩ (.int .i64 3)).setCell ⟨P, 1, none⟩ (.int .i64 s)).setCell ⟨P, 2, none⟩ (.slice a n c)).cell? ⟨P, 2, none⟩ = some (.slice a n c) := by go_simp
      have HGZ := hidp (gb_trans (gb_of HB.out (some P)) hg)
      clear hg c0 c1 c2 d0 p4 p5 p6 f4 f5 f6
      generalize (((w1'.setCell ⟨P, 0, none⟩ (.int .i64 3)).setCell ⟨P, 1, none⟩ (.int .i64 s)).setCell ⟨P, 2, none⟩ (.slice a n c)) = wz at *
      have TO := hidp (fun W' (hb : Below wz.heap.size wz W') hi => told_c (some ⟨wz.heap.size, 0, none⟩) 2 2 [(n : Int), s] W' hi (HTz.out.on hb) (by omega))
      have LI := hidp (show IntsAt (wz.alloc (.cells #[.int .i64 n, .int .i64 s] 3)) (some ⟨wz.heap.size, 0, none⟩) 2 2 [(n : Int), s] from ints_lit (cs := [.int .i64 n, .int .i64 s]) [(n : Int), s] rfl rfl rfl (by intro y hy; simp at hy; omega) (by omega))
      have KP := hidp (fun W' (hb : Below wz.heap.size wz W') => And.intro (ck hb z0) (And.intro (ck hb z1) (ck hb z2)))
      go_region_held3 (fun w' => w'.cell? ⟨bd, 0, none⟩ = some (.pointer (some ⟨P, 0, none⟩)) ∧ w'.cell? ⟨P, 1, none⟩ = some (.int .i64 s) ∧ w'.cell? ⟨P, 2, none⟩ = some (.slice a n c)) (first | go_keep | exact KP.out _ hb9)
        ((go_at_call 42; refine (TO.out _ (Below.drew (bal (Below.refl _ _) (.cells #[.int .i64 n, .int .i64 s] 3))) (LI.out.below (Below.refl _ _).drew)).mono ?_; rintro e w9 ⟨rfl, hb8⟩; have hb9 := bstep (Below.drew (bal (Below.refl _ _) _)) hb8))
      have DQ := hidp (DP.out.below hb9)
      have HG := hidp (gb_trans HGZ.out (gb_of hb9 _))
      clear DP HGZ
      go_wp2
      go_ret
      rw [R1.out, LN.out]
      exact ⟨.inl ⟨_, rfl, rfl⟩, DQ.out, HG.out⟩
    · have R1 := hidp (show RR = (.error E, D) from hER.2 h0)
      have HG := hidp (gb_of HB.out (some P))
      have H0 := hidp h0
      clear hv2 HR h0 hE hER
      go_wp2_with fail
      refine (MB.out E H0.out _).mono ?_
      rintro e w1' ⟨rfl, rfl⟩
      go_wp2
      rw [R1.out]
      exact ⟨rfl, .inr ⟨_, rfl, rfl⟩, D1.out, HG.out⟩
end Go.Proofs.YtgodgfnfaiiohaaGreatDoor

/- The functions of 'many', 'ask', 'rule' and 'of'. -/
namespace Go.Proofs.YtgodgfnfaiiohaaGreatDoor
open Go.ChangeShapes Go.WideShapes Go.ChangeAt Go.RowKit
set_option maxRecDepth 20000
set_option linter.unusedVariables false
variable {F : Nat → Prop}
set_option maxHeartbeats 4000000 in
theorem do_many (bd P : Nat) (D : DeskSt) (W : World) (hT : Tabs W) (hD : DeskAt W P F D) (ho : StOk D) (q0 : W.cell? ⟨bd, 0, none⟩ = some (.pointer (some ⟨P, 0, none⟩))) :
    Calls Tryz.prog 112 #[.pointer (some ⟨bd, 0, none⟩)] W fun e w' => AnsX (opF D .many).1 e ∧ Below W.heap.size W w' := by
  obtain ⟨a6, n6, c6, q6, r6, o6⟩ := hD.k8
  have k4 := hD.k7
  have CT := hidp (many_v a6 n6 c6 D W r6 ho.bot)
  have ON := hidp (fun V E w1 (hB : Below W.heap.size W w1) h => one_x V E w1 (hT.on hB) h)
  unfold OneP at CT
  generalize (opF D .many).1 = r at *
  clear hT hD r6 ho
  go_enter Tryz.func112, Tryz.ntmps112
  go_wp2_with fail
  refine CT.out.mono ?_
  rintro e w1 ⟨V, E, rfl, hv, hb⟩
  have HB := hidp hb
  clear CT hb
  go_wp2_with fail
  refine (ON.out V E w1 HB.out hv.out.2).mono ?_
  rintro e w2 ⟨hx, hb2⟩
  rw [hv.out.1] at hx
  have hb3 := bstep HB.out hb2
  clear ON hv HB hb2
  rcases hx with ⟨s, h1, rfl⟩ | ⟨c, h1, rfl⟩
  · have H1 := hidp h1
    clear h1
    go_wp2
    go_ret
    exact ⟨.inl ⟨s, H1.out, rfl⟩, hb3⟩
  · have H1 := hidp h1
    clear h1
    go_wp2
    exact ⟨rfl, .inr ⟨c, H1.out, rfl⟩, hb3⟩
theorem csum_le (B : Int) : ∀ L : List (Int × Int), (∀ p ∈ L, p.2 ≤ B) → csum L ≤ L.length * B
  | [], _ => by simp [csum]
  | p :: l, h => by
    have h1 := csum_le B l (fun q hq => h q (by simp [hq]))
    have h2 := h p (by simp)
    simp only [csum, List.length_cons, Int.natCast_add, Int.add_mul]
    simp
    omega
theorem occ_i64 {D : DeskSt} (ho : StOk D) (k : Int) : (0 ≤ occ D.cnt k ∧ occ D.cnt k ≤ 3000000000000) ∧ 0 ≤ D.lost ∧ D.lost ≤ 1000000000000 := by
  obtain ⟨h1, h2⟩ := occ_bd k D.cnt (fun p hp => by have := ho.few.pos p hp; omega)
  have h3 := csum_le 1000000000000 D.cnt ho.few.big
  have h4 := ho.few.ln
  have h5 : D.cnt.length ≤ 3 := h4
  have h6 := ho.few.l0
  have h7 := ho.few.l1
  have h8 : 0 ≤ D.lost := h6
  have h9 : D.lost ≤ 1000000000000 := h7
  exact ⟨⟨h1, by omega⟩, h8, h9⟩
set_option maxHeartbeats 4000000 in
theorem do_ask (bd b1 P : Nat) (x : Int) (D : DeskSt) (W : World) (hT : Tabs W) (hD : DeskAt W P F D) (ho : StOk D) (q0 : W.cell? ⟨bd, 0, none⟩ = some (.pointer (some ⟨P, 0, none⟩))) (q1 : W.cell? ⟨b1, 0, none⟩ = some (.int .i64 x)) :
    Calls Tryz.prog 116 #[.pointer (some ⟨bd, 0, none⟩), .pointer (some ⟨b1, 0, none⟩)] W fun e w' => AnsX (opF D (.ask x)).1 e ∧ Below W.heap.size W w' := by
  obtain ⟨a6, n6, c6, q6, r6, o6⟩ := hD.k2
  have k4 := hD.k0
  have k5 := hD.k1
  have CT := hidp (fun W' (hB : Below W.heap.size W W') => fask_c 3 (D.lost, D.cnt) a6 n6 c6 x W' (r6.below hB) ho.few)
  obtain ⟨⟨i1, i2⟩, i3, i4⟩ := occ_i64 ho x
  have HR := hidp (show (opF D (.ask x)).1 = .ok (toldS [occ D.cnt x, occ D.cnt x + D.lost]) from rfl)
  have HT := hidp hT
  have MO := hidp (fun w => must_ok w)
  simp only at CT
  generalize (opF D (.ask x)).1 = r at *
  generalize occ D.cnt x = O at *
  have KEEP := hidp (fun W' (hb : Below W.heap.size W W') => And.intro (ck hb q0) (And.intro (ck hb q1) (And.intro (ck hb k4) (And.intro (ck hb k5) (ck hb q6)))))
  clear hT hD r6 ho
  go_enter Tryz.func116, Tryz.ntmps116
  go_upto_region 1 with fail
  go_region_held3 (fun w' => w'.cell? ⟨bd, 0, none⟩ = some (.pointer (some ⟨P, 0, none⟩)) ∧ w'.cell? ⟨b1, 0, none⟩ = some (.int .i64 x) ∧ w'.cell? ⟨P, 0, none⟩ = some (.int .i64 3) ∧ w'.cell? ⟨P, 1, none⟩ = some (.int .i64 D.lost) ∧ w'.cell? ⟨P, 2, none⟩ = some (.slice a6 n6 c6)) (first | go_keep | exact KEEP.out _ hbw)
    ((go_at_call 117; refine (CT.out _ (Below.refl W.heap.size W).drew).mono ?_; rintro e wd ⟨rfl, hbd2⟩; have hbw := bstep (Below.refl W.heap.size W).drew hbd2))
  have HB := hidp hbw
  have HT1 := hidp (HT.out.on hbw)
  clear q0 q1 q6 k4 k5 KEEP CT hbd2 hbw
  go_wp2_with fail
  refine (MO.out _).mono ?_
  rintro e w1' ⟨rfl, rfl⟩
  have ha : Below w1'.heap.size w1' (w1'.alloc (.cells #[.int .i64 O, .int .i64 (O + D.lost)] 3)) := bal (Below.refl _ _) _
  have TO := hidp (told_c (some ⟨w1'.heap.size, 0, none⟩) 2 2 [O, O + D.lost] _ (ints_lit (T := 3) (cs := [.int .i64 O, .int .i64 (O + D.lost)]) [O, O + D.lost] rfl rfl rfl (by intro y hy; simp at hy; omega) (by omega)) (HT1.out.on ha) (by omega))
  go_wp2_with fail
  refine TO.out.mono ?_
  rintro e w2 ⟨rfl, hb2⟩
  have hb3 := bstep HB.out (bstep ha hb2)
  go_wp2
  go_ret
  exact ⟨.inl ⟨_, HR.out, rfl⟩, hb3⟩
set_option maxHeartbeats 4000000 in
theorem do_rule (bd b1 P : Nat) (p : ByteArray) (l q : Int) (D : DeskSt) (W : World) (hT : Tabs W) (hD : DeskAt W P F D) (ho : StOk D) (hP : 8 ≤ P) (q0 : W.cell? ⟨bd, 0, none⟩ = some (.pointer (some ⟨P, 0, none⟩))) (q1 : W.cell? ⟨b1, 0, none⟩ = some (.string p)) (q2 : W.cell? ⟨b1, 1, none⟩ = some (.int .i64 l)) (q3 : W.cell? ⟨b1, 2, none⟩ = some (.int .i64 q)) :
    Calls Tryz.prog 118 #[.pointer (some ⟨bd, 0, none⟩), .pointer (some ⟨b1, 0, none⟩)] W fun e w' => AnsX (opF D (.rule p l q)).1 e ∧ DeskAt w' P F (opF D (.rule p l q)).2 ∧ W.grownBy w' (some P) := by
  obtain ⟨a6, n6, c6, q6, r6, o6⟩ := hD.k3
  have hPl := hD.lt
  have CT := hidp (fun W' (hB : Below W.heap.size W W') => rule_v p l q a6 n6 c6 D W' (r6.below hB) ho)
  have HD := hidp hD
  have HT := hidp hT
  have HR := hidp (show opF D (.rule p l q) = if putE D.rules (p, l, q) = 0 then (.ok ⟨#[111, 107]⟩, { D with rules := bput D.rules (p, l, q) }) else (.error (putE D.rules (p, l, q)), D) from rfl)
  have MO := hidp (fun w => must_ok w)
  have MB := hidp (fun e h w => must_bad e h w)
  unfold RuleP at CT
  generalize opF D (.rule p l q) = RR at *
  generalize bput D.rules (p, l, q) = L at *
  generalize putE D.rules (p, l, q) = EE at *
  have KEEP := hidp (fun W' (hb : Below W.heap.size W W') => And.intro (ck hb q0) (And.intro (ck hb q1) (And.intro (ck hb q2) (And.intro (ck hb q3) (ck hb q6)))))
  clear hT hD r6 ho
  go_enter Tryz.func118, Tryz.ntmps118
  go_upto_region 1 with fail
  go_region_held3 (fun w' => w'.cell? ⟨bd, 0, none⟩ = some (.pointer (some ⟨P, 0, none⟩)) ∧ w'.cell? ⟨b1, 0, none⟩ = some (.string p) ∧ w'.cell? ⟨b1, 1, none⟩ = some (.int .i64 l) ∧ w'.cell? ⟨b1, 2, none⟩ = some (.int .i64 q) ∧ w'.cell? ⟨P, 3, none⟩ = some (.slice a6 n6 c6)) (first | go_keep | exact KEEP.out _ hbw)
    ((go_at_call 119; refine (CT.out _ (Below.refl W.heap.size W).drew).mono ?_; rintro e wd ⟨a, n, c, E, rfl, hv, hbd2⟩; have hbw := bstep (Below.refl W.heap.size W).drew hbd2))
  obtain ⟨hE, hv2⟩ := hv.out
  subst hE
  have D1 := hidp (HD.out.below hbw)
  have HB := hidp hbw
  have d0 := ck hbw q0
  have p6 := ck hbw q6
  have f6 := D1.out.fz 3
  clear q0 q1 q2 q3 q6 KEEP CT hbd2 hbw hv
  by_cases h0 : E = 0
  · subst h0
    obtain ⟨hi, hoff⟩ := hv2 rfl
    have R1 := hidp (show RR = (.ok ⟨#[111, 107]⟩, { D with rules := L }) by rw [HR.out, if_pos rfl])
    have OF := hidp (offF_of hoff HD.out.fl)
    have HI := hidp hi
    clear hv2 hi hoff HR
    go_wp2_with fail
    refine (MO.out _).mono ?_
    rintro e w1' ⟨rfl, rfl⟩
    go_wp2_with fail
    go_ret
    rw [R1.out]
    exact ⟨.inl ⟨_, rfl, rfl⟩, D1.out.rules_ HI.out OF.out, gb_trans (gb_of HB.out (some P)) (gb_set _ _ _ _)⟩
  · have R1 := hidp (show RR = (.error E, D) by rw [HR.out, if_neg h0])
    have HG := hidp (gb_of HB.out (some P))
    have H0 := hidp h0
    clear hv2 HR h0
    go_wp2_with fail
    refine (MB.out E H0.out _).mono ?_
    rintro e w1' ⟨rfl, rfl⟩
    go_wp2
    rw [R1.out]
    exact ⟨rfl, .inr ⟨_, rfl, rfl⟩, D1.out, HG.out⟩
end Go.Proofs.YtgodgfnfaiiohaaGreatDoor

/- The function of 'of'. -/
namespace Go.Proofs.YtgodgfnfaiiohaaGreatDoor
open Go.ChangeShapes Go.WideShapes Go.ChangeAt Go.RowKit
set_option maxRecDepth 20000
set_option linter.unusedVariables false
variable {F : Nat → Prop}
theorem absorb {A : Prop} (B : Prop) (hA : A) (hB : B) : A := hA
theorem ansx_ok {t : ByteArray} {e : Ending} (h : AnsX (.ok t) e) : e = .returned (.string t) := by
  rcases h with ⟨s, h1, h2⟩ | ⟨c, h1, _⟩
  · cases h1; exact h2
  · cases h1
theorem ansx_er {c : Int} {e : Ending} (h : AnsX (.error c) e) : e = .panicked [faultV c] := by
  rcases h with ⟨s, h1, _⟩ | ⟨c, h1, h2⟩
  · cases h1
  · cases h1; exact h2
set_option maxHeartbeats 4000000 in
theorem do_of (bd b1 P : Nat) (s : ByteArray) (D : DeskSt) (W : World) (hT : Tabs W) (hD : DeskAt W P F D) (ho : StOk D) (q0 : W.cell? ⟨bd, 0, none⟩ = some (.pointer (some ⟨P, 0, none⟩))) (q1 : W.cell? ⟨b1, 0, none⟩ = some (.string s)) :
    Calls Tryz.prog 120 #[.pointer (some ⟨bd, 0, none⟩), .pointer (some ⟨b1, 0, none⟩)] W fun e w' => AnsX (opF D (.of s)).1 e ∧ Below W.heap.size W w' := by
  obtain ⟨a6, n6, c6, q6, r6, o6⟩ := hD.k3
  have CT := hidp (fun W' (hB : Below W.heap.size W W') => of_v a6 n6 c6 D s W' (r6.below hB) ho.bd)
  have ON := hidp (fun V E w1 (hB : Below W.heap.size W w1) h => one_x V E w1 (hT.on hB) h)
  unfold OneP at CT
  generalize (opF D (.of s)).1 = r at *
  clear hT hD r6 ho
  cases r with
  | ok t =>
    go_enter Tryz.func120, Tryz.ntmps120
    go_upto_region 1 with fail
    go_region_with (first
      | (go_at_call 121; go_loud (refine Calls.mono (CT.out _ (Below.refl W.heap.size W).drew) ?_; rintro e w1 ⟨V, E, rfl, hv, hb⟩; have HB := hidp (bstep (Below.refl W.heap.size W).drew hb); clear hb))
      | (go_at_call 35; go_loud (refine Calls.mono (ON.out V E w1 HB.out hv.out.2) ?_; rintro e w2 ⟨hx, hb2⟩; rw [hv.out.1] at hx; have hb3 := bstep HB.out hb2; have hx2 := ansx_ok hx; subst hx2)))
    all_goals go_wp2
    all_goals go_ret
    all_goals exact ⟨.inl ⟨_, rfl, rfl⟩, hb3⟩

  | error c =>
    go_enter Tryz.func120, Tryz.ntmps120
    go_upto_region 1 with fail
    go_region_with (first
      | (go_at_call 121; go_loud (refine Calls.mono (CT.out _ (Below.refl W.heap.size W).drew) ?_; rintro e w1 ⟨V, E, rfl, hv, hb⟩; have HB := hidp (bstep (Below.refl W.heap.size W).drew hb); clear hb))
      | (go_at_call 35; go_loud (refine Calls.mono (ON.out V E w1 HB.out hv.out.2) ?_; rintro e w2 ⟨hx, hb2⟩; rw [hv.out.1] at hx; have hb3 := bstep HB.out hb2; have hx2 := ansx_er hx; subst hx2); refine absorb (wpAny Tryz.prog .any #[] (fun _ _ _ => True) 1 #[] ⟨#[], []⟩ W) ⟨rfl, .inr ⟨_, rfl, rfl⟩, hb3⟩ ?_))
    all_goals exact trivial

end Go.Proofs.YtgodgfnfaiiohaaGreatDoor

/- How a line is read: what the next words are, and what a function that is handed back does. -/
namespace Go.Proofs.YtgodgfnfaiiohaaGreatDoor
open Go.ChangeShapes Go.WideShapes Go.ChangeAt Go.RowKit
set_option maxRecDepth 20000
set_option linter.unusedVariables false
def nxS (L : List ByteArray) (n k : Nat) : Option ByteArray := if k < n then some (wg L k) else none
def nmS (L : List ByteArray) (n k : Nat) : Option Int := if k < n then nmb (wg L k) else none
def lsS (L : List ByteArray) (n k : Nat) : Option (List Int) := if k < n then lstN (wg L k) else none
theorem next_x (P : Nat) (L : List ByteArray) (n k : Nat) (w : World) (h : WdAt w P L n k) (hs : ∀ i, (wg L i).size ≤ 65536) :
    Calls Tryz.prog 46 #[.pointer (some ⟨P, 0, none⟩)] w fun e w' => ((∃ s, nxS L n k = some s ∧ s.size ≤ 65536 ∧ e = .returned (.string s) ∧ WdAt w' P L n (k + 1)) ∨ (nxS L n k = none ∧ e = .panicked [faultV 9])) ∧ w.grownBy w' (some P) := by
  by_cases hk : k < n
  · refine (dnext_c P L n k w h hk).mono ?_
    rintro e w' ⟨rfl, hW, hg⟩
    exact ⟨.inl ⟨_, by unfold nxS; rw [if_pos hk], hs k, rfl, hW⟩, hg⟩
  · obtain rfl : n = k := by have := h.le; omega
    refine (next_end P L n w h).mono ?_
    rintro e w' ⟨rfl, hb⟩
    exact ⟨.inr ⟨by unfold nxS; rw [if_neg hk], rfl⟩, gb_of hb _⟩
theorem num_x (P : Nat) (L : List ByteArray) (n k : Nat) (w : World) (h : WdAt w P L n k) (hT : Tabs w) (hP : 8 ≤ P) (hs : ∀ i, (wg L i).size ≤ 65536) :
    Calls Tryz.prog 50 #[.pointer (some ⟨P, 0, none⟩)] w fun e w' => ((∃ v : Int, nmS L n k = some v ∧ (0 ≤ v ∧ v ≤ 9223372036854775807) ∧ e = .returned (.int .i64 v) ∧ WdAt w' P L n (k + 1)) ∨ (nmS L n k = none ∧ e = .panicked [faultV 9])) ∧ w.grownBy w' (some P) := by
  by_cases hk : k < n
  · refine (dnum_c P L n k w h hk hT hP (by have := hs k; omega)).mono ?_
    rintro e w' ⟨⟨v, h1, h2, h3, rfl⟩ | ⟨h1, rfl⟩, hW, hg⟩
    · exact ⟨.inl ⟨v, by unfold nmS; rw [if_pos hk]; exact h1, ⟨h2, h3⟩, rfl, hW⟩, hg⟩
    · exact ⟨.inr ⟨by unfold nmS; rw [if_pos hk]; exact h1, rfl⟩, hg⟩
  · obtain rfl : n = k := by have := h.le; omega
    refine (num_end P L n w h).mono ?_
    rintro e w' ⟨rfl, hb⟩
    exact ⟨.inr ⟨by unfold nmS; rw [if_neg hk], rfl⟩, gb_of hb _⟩
set_option maxHeartbeats 4000000 in
theorem list_end (P : Nat) (L : List ByteArray) (n : Nat) (w : World) (h : WdAt w P L n n) :
    Calls Tryz.prog 24 #[.pointer (some ⟨P, 0, none⟩)] w fun e w' => e = .panicked [faultV 9] ∧ Below w.heap.size w w' := by
  have NX := hidp (next_end P L n w h)
  clear h
  go_enter Tryz.func24, Tryz.ntmps24
  go_wp2_with fail
  refine NX.out.mono ?_
  rintro x w' ⟨rfl, hb⟩
  clear NX
  go_wp2
  exact ⟨rfl, rfl, hb⟩
theorem list_x (P : Nat) (L : List ByteArray) (n k : Nat) (w : World) (h : WdAt w P L n k) (hT : Tabs w) (hP : 8 ≤ P) (hs : ∀ i, (wg L i).size ≤ 65536) :
    Calls Tryz.prog 24 #[.pointer (some ⟨P, 0, none⟩)] w fun e w' => ((∃ (a : Option Addr) (m c : Nat) (v : List Int), lsS L n k = some v ∧ e = .returned (.slice a m c) ∧ (IntsAt w' a m c v ∧ OffB a P) ∧ WdAt w' P L n (k + 1)) ∨ (lsS L n k = none ∧ e = .panicked [faultV 9])) ∧ w.grownBy w' (some P) := by
  by_cases hk : k < n
  · refine (list_c P L n k w h hk hT hP (hs k)).mono ?_
    rintro e w' ⟨⟨xs, v, h1, h2, h3, h4, rfl, ho⟩ | ⟨h1, rfl⟩, hW, hg⟩
    · obtain ⟨a, c, rfl, hi⟩ := owns_ints ho (fun x hx => by have := h4 x hx; omega)
      exact ⟨.inl ⟨a, _, c, xs, by unfold lsS; rw [if_pos hk]; exact h1, rfl, ⟨hi, offB_of (fun ad e => (own_base ho ad e).1) h.lt⟩, hW⟩, hg⟩
    · exact ⟨.inr ⟨by unfold lsS; rw [if_pos hk]; exact h1, rfl⟩, hg⟩
  · obtain rfl : n = k := by have := h.le; omega
    refine (list_end P L n w h).mono ?_
    rintro e w' ⟨rfl, hb⟩
    exact ⟨.inr ⟨by unfold lsS; rw [if_neg hk], rfl⟩, gb_of hb _⟩
/-- A function that does what a line asks, whenever it is called. -/
def Doable (w : World) (P g : Nat) (caps : Array Value) (c : Cmd) : Prop :=
  (∀ (args : Array Value) (w : World), (callFunc g args).run Tryz.prog w = .ok (.enter g args) w) ∧
  ∀ (F : Nat → Prop) W D, Below w.heap.size w W → DeskAt W P F D → StOk D → Tabs W → Calls Tryz.prog g caps W fun e w' => AnsX (opF D c).1 e ∧ DeskAt w' P F (opF D c).2 ∧ W.grownBy w' (some P)
theorem doable_of {w : World} {P g : Nat} {caps : Array Value} {c : Cmd} (hg : ∀ (args : Array Value) (w : World), (callFunc g args).run Tryz.prog w = .ok (.enter g args) w) (h2 : ∀ D, (opF D c).2 = D)
    (h : ∀ (F : Nat → Prop) W D, Below w.heap.size w W → DeskAt W P F D → StOk D → Tabs W → Calls Tryz.prog g caps W fun e w' => AnsX (opF D c).1 e ∧ Below W.heap.size W w') : Doable w P g caps c := by
  refine ⟨hg, fun F W D hB hD ho hT => ?_⟩
  refine (h F W D hB hD ho hT).mono ?_
  rintro e w' ⟨h1, hb⟩
  rw [h2 D]
  exact ⟨h1, hD.below hb, gb_of hb _⟩
/-- What 'read' hands back. -/
def ReadP (w : World) (P PW : Nat) (L : List ByteArray) (n : Nat) (R : Option (Cmd × Nat)) (e : Ending) (w' : World) : Prop :=
  ((∃ c k g caps, R = some (c, k) ∧ e = .returned (.func (.func g) #[] caps) ∧ WdAt w' PW L n k ∧ Hid (Doable w' P g caps c)) ∨ (R = none ∧ e = .panicked [faultV 9])) ∧ w.grownBy w' (some PW)
end Go.Proofs.YtgodgfnfaiiohaaGreatDoor
