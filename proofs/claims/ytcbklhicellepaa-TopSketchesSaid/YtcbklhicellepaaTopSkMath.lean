/- TopSketches: what keys leave in each sketch, and what joins give: plain. -/
import Derived.Test.YtcbklhicellepaaBotMath
import Derived.Test.YtcbklhicellepaaBloom
import Derived.Test.YtcbklhicellepaaTabMath
import Derived.Test.YtcbklhicellepaaRegs
import Derived.Test.YtcbklhicellepaaFewJoinMath
namespace Go.Proofs.Ytcbklhicellepaa
set_option maxRecDepth 20000
/-- The filter's bits. -/
def skF (X : List Int) (j : Nat) : Bool := X.any (fun x => hitP (plc 100 x) 3 j)
def skFL (X : List Int) : List Bool := tab (skF X) 100
theorem gb_tab (f : Nat → Bool) (n j : Nat) (h : j < n) : gb (tab f n) j = f j := by
  unfold gb; rw [List.getD_eq_getElem?_getD, tab_get _ _ _ h]; rfl
theorem skF_snoc (X : List Int) (x : Int) : tab (fun j => gb (skFL X) j || hitP (plc 100 x) 3 j) 100 = skFL (X ++ [x]) :=
  tab_congr _ _ _ (fun j hj => by
    unfold skFL
    rw [gb_tab _ _ _ hj]
    unfold skF
    rw [List.any_append]; simp)
theorem skF_join (Y Z : List Int) : tab (fun j => gb (skFL Y) j || gb (skFL Z) j) 100 = skFL (Y ++ Z) :=
  tab_congr _ _ _ (fun j hj => by
    unfold skFL
    rw [gb_tab _ _ _ hj, gb_tab _ _ _ hj]
    unfold skF
    rw [List.any_append])
theorem skF_comm (Y Z : List Int) : skFL (Y ++ Z) = skFL (Z ++ Y) :=
  tab_congr _ _ _ (fun j hj => by unfold skF; rw [List.any_append, List.any_append, Bool.or_comm])
theorem skF_has (X : List Int) (x : Int) (h : x ∈ X) : allP (plc 100 x) (gb (skFL X)) 3 = true := by
  unfold allP
  refine decide_eq_true (fun i hi => ?_)
  unfold skFL
  rw [gb_tab _ _ _ (plc_lt 100 x i (by omega))]
  unfold skF
  exact List.any_eq_true.2 ⟨x, h, (hit_iff _ _ _).2 ⟨i, hi, rfl⟩⟩
/-- The table's counts. -/
def skT (X : List Int) (i j : Nat) : Int := (X.countP (fun x => decide (plc 7 x i = j)) : Nat)
theorem skT_snoc (X : List Int) (x : Int) : tput (skT X) (plc 7 x) 1 = skT (X ++ [x]) := by
  funext i j
  unfold tput skT
  rw [List.countP_append]
  by_cases h : j = plc 7 x i
  · rw [if_pos h]; simp [h]
  · have h2 : ¬ plc 7 x i = j := fun e => h e.symm
    rw [if_neg h]; simp [h2]
theorem skT_join (Y Z : List Int) : (fun i j => skT Y i j + skT Z i j) = skT (Y ++ Z) := by
  funext i j
  unfold skT
  rw [List.countP_append]; push_cast; rfl
theorem skT_comm (Y Z : List Int) : skT (Y ++ Z) = skT (Z ++ Y) := by
  rw [← skT_join, ← skT_join]; funext i j; omega
theorem skT_bd (X : List Int) (i j : Nat) : 0 ≤ skT X i j ∧ skT X i j ≤ X.length := by
  unfold skT
  have : X.countP (fun x => decide (plc 7 x i = j)) ≤ X.length := List.countP_le_length
  omega
theorem skT_ask (X : List Int) (x : Int) (hl : X.length ≤ 1000) : (cn x X : Int) ≤ tmin (skT X) (plc 7 x) 2 := by
  have h : ∀ i, (cn x X : Int) ≤ skT X i (plc 7 x i) := fun i => by
    unfold cn skT
    have : X.countP (fun y => decide (y = x)) ≤ X.countP (fun y => decide (plc 7 y i = plc 7 x i)) := List.countP_mono_left (fun y _ h => by
      simp only [decide_eq_true_eq] at h ⊢; rw [h])
    omega
  have h0 : (cn x X : Int) ≤ 1000000000000 := by
    unfold cn
    have : X.countP (fun y => decide (y = x)) ≤ X.length := List.countP_le_length
    omega
  have a := h 0
  have b := h 1
  simp only [tmin]
  omega
/-- The registers. -/
def skRi (X : List Int) (i : Nat) : Int := X.foldl (fun m x => if i = x.toNat % 4 then max m (rpx 4 x.toNat) else m) 0
def skR (X : List Int) : List Int := tab (skRi X) 4
theorem skR_snoc (X : List Int) (x : Int) : tab (rputF (skR X) 4 x.toNat) 4 = skR (X ++ [x]) :=
  tab_congr _ _ _ (fun i hi => by
    unfold rputF skR
    rw [tab_gi _ _ _ hi]
    unfold skRi
    rw [List.foldl_append]; rfl)
theorem skRi_from (i : Nat) : ∀ (X : List Int) (m : Int), 0 ≤ m → X.foldl (fun m x => if i = x.toNat % 4 then max m (rpx 4 x.toNat) else m) m = max m (skRi X i) ∧ 0 ≤ skRi X i
  | [], m, h => by simp only [skRi, List.foldl_nil]; omega
  | x :: X, m, h => by
    have e : skRi (x :: X) i = X.foldl (fun m x => if i = x.toNat % 4 then max m (rpx 4 x.toNat) else m) (if i = x.toNat % 4 then max 0 (rpx 4 x.toNat) else 0) := rfl
    rw [List.foldl_cons, e]
    split
    · have a := skRi_from i X (max m (rpx 4 x.toNat)) (by omega)
      have b := skRi_from i X (max 0 (rpx 4 x.toNat)) (by omega)
      rw [a.1, b.1]; omega
    · have a := skRi_from i X m h
      have b := skRi_from i X 0 (by omega)
      rw [a.1, b.1]; omega
theorem skRi_join (Y Z : List Int) (i : Nat) : skRi (Y ++ Z) i = max (skRi Y i) (skRi Z i) := by
  have h := (skRi_from i Y 0 (by omega)).2
  have e : skRi (Y ++ Z) i = Z.foldl (fun m x => if i = x.toNat % 4 then max m (rpx 4 x.toNat) else m) (skRi Y i) := by unfold skRi; rw [List.foldl_append]
  rw [e]
  exact (skRi_from i Z _ h).1
theorem skR_join (Y Z : List Int) : tab (mxF (skR Y) (skR Z)) 4 = skR (Y ++ Z) :=
  tab_congr _ _ _ (fun i hi => by
    unfold mxF skR
    rw [tab_gi _ _ _ hi, tab_gi _ _ _ hi, skRi_join])
theorem skR_comm (Y Z : List Int) : skR (Y ++ Z) = skR (Z ++ Y) :=
  tab_congr _ _ _ (fun i hi => by rw [skRi_join, skRi_join]; omega)
theorem skR_ok : ∀ X : List Int, (∀ x ∈ X, 0 ≤ x ∧ x < 72057594037927936) → RegOk (skR X) 4 := by
  intro X
  induction X using snoc_ind with
  | h0 => exact fun _ => ⟨by unfold rgN; omega, fun i hi => by unfold skR; rw [tab_gi _ _ _ hi]; simp [skRi]⟩
  | h1 X x ih =>
    intro h
    have hx := h x (by simp)
    rw [← skR_snoc]
    exact rput_ok _ 4 x.toNat (ih (fun y hy => h y (by simp [hy]))) (by omega)
/-- The few counters. -/
def skD (X : List Int) : List (Int × Int) := X.map (fun x => (x, (1 : Int)))
def skC (X : List Int) : Int × List (Int × Int) := fewL 4 (skD X)
theorem skD_one (X : List Int) : ∀ p ∈ skD X, 1 ≤ p.2 := fun p hp => by
  obtain ⟨x, _, rfl⟩ := List.mem_map.1 hp
  exact Int.le_refl _
theorem skD_sum (X : List Int) : csum (skD X) = X.length := ones_csum X
theorem skC_is (X : List Int) : FewIs 4 (skD X) (skC X) := fewL_is 4 _ (skD_one X)
theorem skC_ok (X : List Int) (h : X.length ≤ 1000) : FewOk 4 (skC X) := (skC_is X).ok (by omega) (by omega) (by rw [skD_sum]; omega)
theorem skC_snoc (X : List Int) (x : Int) : fput 4 (skC X) x 1 = skC (X ++ [x]) := by
  unfold skC skD
  rw [List.map_append]
  exact (fewL_snoc 4 _ x 1).symm
def skJ (Y Z : List Int) : Int × List (Int × Int) := fjoinR 4 (skC Y) (skC Z)
theorem skJ_is (Y Z : List Int) : FewIs 4 (skD (Y ++ Z)) (skJ Y Z) := by
  unfold skD
  rw [List.map_append]
  exact fjoinR_is 4 _ _ _ _ (skC_is Y) (skC_is Z)
theorem skJ_ok (Y Z : List Int) (h : (Y ++ Z).length ≤ 1000) : FewOk 4 (skJ Y Z) := (skJ_is Y Z).ok (by omega) (by omega) (by rw [skD_sum]; omega)
theorem skC_sum (X : List Int) (h : X.length ≤ 1000) : csum (skC X).2 ≤ 1000 := by
  have := skC_is X
  have h1 := this.all
  have h2 := this.l0
  rw [skD_sum] at h1
  have : 0 ≤ (skC X).1 * ((4 : Nat) + 1 : Int) := Int.mul_nonneg h2 (by omega)
  omega
theorem cn_comm (x : Int) (Y Z : List Int) : cn x (Y ++ Z) = cn x (Z ++ Y) := by rw [cn_append, cn_append]; omega
/-- What the law asks of each key. -/
theorem sk_ask (Y Z : List Int) (x : Int) (hl : (Z ++ Y).length ≤ 1000) :
    occ (skJ Y Z).2 x ≤ tmin (skT (Y ++ Z)) (plc 7 x) 2 ∧ occ (skC (Z ++ Y)).2 x ≤ tmin (skT (Y ++ Z)) (plc 7 x) 2 ∧
    occ (skC (Z ++ Y)).2 x ≤ occ (skJ Y Z).2 x + (skJ Y Z).1 ∧ occ (skJ Y Z).2 x ≤ occ (skC (Z ++ Y)).2 x + (skC (Z ++ Y)).1 := by
  have a := (skJ_is Y Z).near x
  have b := (skC_is (Z ++ Y)).near x
  have o1 : occ (skD (Y ++ Z)) x = cn x (Y ++ Z) := ones_occ x _
  have o2 : occ (skD (Z ++ Y)) x = cn x (Z ++ Y) := ones_occ x _
  rw [o1] at a
  rw [o2, cn_comm] at b
  have c := skT_ask (Y ++ Z) x (by rw [List.length_append] at hl ⊢; omega)
  omega
theorem sk_bot (Y Z : List Int) : bots 5 (botL 5 Y) (botL 5 Z) = botL 5 (Z ++ Y) := by
  rw [botL_join]
  exact botL_ext 5 _ _ (fun z => by simp only [List.mem_append]; exact Or.comm)
end Go.Proofs.Ytcbklhicellepaa
