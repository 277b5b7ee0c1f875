/- Merged: InsI, BotMath, Bottom. -/
import Derived.Test.YtgodgfnfaiiohaaGreatDoorInsKit
import Derived.Test.YtgodgfnfaiiohaaGreatDoorMem
import Derived.Test.YtgodgfnfaiiohaaGreatDoorClone
import Derived.Test.YtgodgfnfaiiohaaGreatDoorNum
import Derived.Test.YtgodgfnfaiiohaaGreatDoorShelf
import Derived.Deep.RegionHeld3
import Derived.Deep.DeepCutAuto
import Derived.Lib.MinMax
import Derived.WalkSmall
/- Contract of slices.Insert of one element (an integer) into a slice of the call's own. -/
namespace Go.Proofs.YtgodgfnfaiiohaaGreatDoor
open Go.ChangeShapes Go.WideShapes Go.ChangeAt Go.RowKit
set_option maxRecDepth 20000
set_option maxHeartbeats 8000000 in
theorem insi_c (b n c i B vb : Nat) (xs vs : List Value) (T : TypeId) (w : World) (h : w.ownsRow B 3 1 (.slice (some ⟨b, 0, none⟩) n c) n xs) (hi : i ≤ n) (hn : n ≤ 1000) (hvl : vs.length = 1) (hv : w.heap[vb]? = some (.cells vs.toArray T (0, 0))) (hvb : vb ≠ b) (h1v : ∀ v ∈ vs, v.oneCell' = true) (h1x : ∀ v ∈ xs, v.oneCell' = true) :
    Calls Tryz.prog 145 #[.slice (some ⟨b, 0, none⟩) n c, .int .i64 i, .slice (some ⟨vb, 0, none⟩) 1 1] w fun e w' => ∃ v', e = .returned v' ∧ w'.ownsRow B 3 1 v' (n + 1) (xs.take (i) ++ vs ++ xs.drop (i)) ∧ w.grownBy w' (some b) ∧ NearBlk v' (some b) w.heap.size := by
  obtain ⟨i0, hi0, hz0, hz1, hz2⟩ := info_parts info_int
  have hsz : (Tryz.prog.info? 3).map (·.size) = some 1 := by rw [hi0]; simp [hz1]
  obtain ⟨R, hR⟩ : ∃ R, R = xs.take (i) ++ vs ++ xs.drop (i) := ⟨_, rfl⟩
  rw [← hR]
  have HR := hidp hR
  clear hR
  obtain ⟨hxl0, hrow⟩ := h
  have hxl : xs.length = n := by first | exact hxl0 | simpa using hxl0
  have H := hidp (show w.ownsRow B 3 1 (.slice (some ⟨b, 0, none⟩) n c) n xs from ⟨hxl0, hrow⟩)
  obtain ⟨cur, hB, hcur, hnc, hcm, hcs, hct⟩ : ∃ cur : List Value, B ≤ b ∧ w.heap[b]? = some (.cells cur.toArray 3 (0, 0)) ∧ n ≤ c ∧ c ≤ maxLen ∧ cur.length = c ∧ cur.take (n) = xs := by
    rcases hrow with ⟨h0, _⟩ | ⟨g, cp, cu, he, hg, hh, h1, h2, h3, h4⟩
    · cases h0
    · simp only [Value.slice.injEq, Option.some.injEq, Addr.mk.injEq] at he
      obtain ⟨⟨rfl, _, _⟩, _, rfl⟩ := he
      exact ⟨cu.toList, hg, by simpa using hh, h1, h2, by simpa using h3, by first | exact h4 | simpa using h4⟩
  clear hrow
  unfold maxLen at hcm
  have hbs : b < w.heap.size := (Array.getElem?_eq_some_iff.1 hcur).1
  have hvs : vb < w.heap.size := (Array.getElem?_eq_some_iff.1 hv).1
  have VC := hidp (fun (W : World) (hW : W.heap[vb]? = w.heap[vb]?) j u (hu : vs[j]? = some u) => show W.cell? ((⟨vb, 0, none⟩ : Addr).add j) = some u by
    rw [addr_add0, blk_cell (hW.trans hv)]; exact hu)
  have XC := hidp (fun (W : World) (hW : W.heap[b]? = w.heap[b]?) j u (hu : (xs.drop (i))[j]? = some u) => show W.cell? ((⟨b, i, none⟩ : Addr).add j) = some u by
    rw [addr_add, blk_cell (hW.trans hcur)]
    rw [List.getElem?_drop, ← hct, List.getElem?_take] at hu
    split at hu
    · exact hu
    · cases hu)
  have hdl : (xs.drop (i)).length = (n - i) := by simp only [List.length_drop, hxl] <;> omega
  have D1 := hidp (fun v (hv : v ∈ xs.drop (i)) => h1x v (List.mem_of_mem_drop hv))
  by_cases hin : i = n
  · subst hin
    have hT := hidp (show R = xs ++ vs by rw [HR.out, List.take_of_length_le (by omega), List.drop_of_length_le (by omega), List.append_nil])
    clear hdl hct hcur hcs
    go_enter Tryz.func145, Tryz.ntmps145
    go_wp2_with (at_builtin; refine wpList_append_own_at _ rfl (.tmp 23) (.tmp 24) 37 rfl B 3 i0 (Value.int .i64 0) 1 8 Tryz.underlying37 hi0 hz0 hz1 hz2 rfl (by decide) _ i xs rfl H.out ⟨vb, 0, none⟩ 1 1 vs rfl (by omega) (VC.out _ rfl) h1v (by unfold maxLen; omega) (by omega) (by omega) ?_; intro v1 w1 o1 g1 a1 d1)
    all_goals go_ret
    all_goals exact ⟨_, rfl, by rw [hT.out]; exact o1, g1, fun g e => d1.imp (fun h => h.symm.trans e) (fun h => Nat.le_of_eq (Option.some.inj (h.symm.trans e)))⟩
  · have hlt : i < n := by omega
    have hne : ¬ ((i : Int) = (n : Int)) := by omega
    have hw1 : IntKind.i64.wrap ((i : Int) + 1) = (i : Int) + 1 := by rw [IntKind.wrap_i64]; omega
    have ht1 : ((i : Int) + 1).toNat = i + 1 := by omega
    have hb1 : (0 : Int) ≤ (i : Int) + 1 := by omega
    have hb3 : (i : Int) ≤ (n : Int) := by omega
    by_cases hroom : c < n + 1
    · have hz3 : (c : Int) < (n : Int) + 1 := by omega
      have hkk : (n : Int) + 1 - (i : Int) = ((n + 1 - i : Nat) : Int) := by omega
      have hik : i + (n + 1 - i) = n + 1 := by omega
      have hold : (Builtin.firstCells i0.size i (.slice (some ⟨b, 0, none⟩) i c)).run Tryz.prog w.drew = .ok (xs.take (i)).toArray w.drew := by
        rw [hz1]
        exact run_firstCells_some w.drew 1 i ⟨b, 0, none⟩ i c (xs.take (i)) (by rw [List.length_take]; omega) (fun j v hj => by
          rw [addr_add0]
          show w.cell? ⟨b, j, none⟩ = _
          rw [blk_cell hcur]
          rw [List.getElem?_take] at hj
          split at hj
          · rw [← hct, List.getElem?_take] at hj
            split at hj
            · exact hj
            · cases hj
          · cases hj)
      have hrz : ∀ ty, (Builtin.append_ #[37, 3] ty #[.slice (some ⟨b, 0, none⟩) i c, .int .i64 ((n : Int) + 1 - (i : Int))]).run Tryz.prog w =
          .ok (.slice (some ⟨w.heap.size, 0, none⟩) (n + 1) (grownCap w (n + 1) c 3)) (w.drew.alloc (.cells ((xs.take (i)).toArray ++ Builtin.zeroCells ((Value.int .i64 0)).cells (n + 1 - i) ++ Builtin.zeroCells ((Value.int .i64 0)).cells (grownCap w (n + 1) c 3 - (n + 1))) 3)) := fun ty => by
        have h := Lib.run_append_grow_zeros w 37 3 ty 3 i0 _ .i64 .i64 Tryz.underlying37 Tryz.underlying3 hi0 hz0 (some ⟨b, 0, none⟩) i c (xs.take (i)) hold (n + 1 - i) (by omega) (by omega) (by omega) (by omega) (by rw [hz2]; omega) (by rw [hz2, hik]; exact growslice_fits hroom (by omega))
        rw [hik] at h
        rw [hkk]
        exact h
      obtain ⟨G, hG⟩ : ∃ G, G = grownCap w (n + 1) c 3 := ⟨_, rfl⟩
      have hGn : n + 1 ≤ G := by rw [hG]; exact grownCap_ge w _ _ _
      have hG63 : G ≤ 9223372036854775807 := by
        have := grownCap_le_maxLen w (n + 1) c 3 (by unfold maxLen; omega)
        rw [← hG] at this
        unfold maxLen at this
        omega
      obtain ⟨Z, hZ⟩ : ∃ Z : List Value, Z = (Builtin.zeroCells ((Value.int .i64 0)).cells (n + 1 - i) ++ Builtin.zeroCells ((Value.int .i64 0)).cells (G - (n + 1))).toList := ⟨_, rfl⟩
      have hZl : Z.length = (n + 1 - i) + (G - (n + 1)) := by
        rw [hZ]; simp [Builtin.zeroCells, Value.cells]
      have hROW : (xs.take (i)).toArray ++ Builtin.zeroCells ((Value.int .i64 0)).cells (n + 1 - i) ++ Builtin.zeroCells ((Value.int .i64 0)).cells (G - (n + 1)) = (xs.take (i) ++ Z).toArray := by
        rw [hZ]
        simp [Array.append_assoc]
      rw [← hG, hROW] at hrz
      have htl : (xs.take (i)).length = i := by rw [List.length_take]; omega
      have hrl : (xs.take (i) ++ Z).length = G := by rw [List.length_append, htl, hZl]; omega
      have SF := hidp (spl_fresh Z xs vs (i) 1 (n) hxl (by omega) hvl (by omega))
      have LN := hidp (fun (D : List Value) (hD : D = xs.drop (i)) => show (spl (spl (xs.take (i) ++ Z) (i) vs) (i + 1) D).length = G by
        have e1 := spl_len (xs.take (i) ++ Z) (i) vs (by omega)
        rw [spl_len _ _ _ (by rw [e1, hD, hdl]; omega), e1, hrl])
      have hfin : (spl (xs.take (i) ++ Z) (i) vs).length = G := by rw [spl_len _ _ _ (by omega), hrl]
      have FL := hidp (show R.length = (n + 1) * (1) by rw [HR.out, List.length_append, List.length_append, htl, hdl]; omega)
      obtain ⟨W1, hW1⟩ : ∃ W1, W1 = w.drew.alloc (.cells (xs.take (i) ++ Z).toArray 3) := ⟨_, rfl⟩
      have n1 : W1.heap[w.heap.size]? = some (.cells (xs.take (i) ++ Z).toArray 3 (0, 0)) := by rw [hW1]; exact heap_alloc_new w.drew _
      have o1 : ∀ k, k < w.heap.size → W1.heap[k]? = w.heap[k]? := fun k hk => by rw [hW1]; exact Below.heap_alloc w.drew _ _ hk
      have b1 : Below B w W1 := by rw [hW1]; exact (Below.refl B w).drew.alloc (by show B ≤ w.heap.size; omega) _
      rw [← hW1] at hrz
      have RZ := hidp hrz
      clear hxl0 hrz hold hkk hik hROW hZ hG hW1 hct hcs hxl H
      have hGi : ¬ (G = i) := by omega
      have hGim : ¬ (G = i + 1) := by omega
      have hci : ¬ (c = i) := by omega
      go_enter Tryz.func145, Tryz.ntmps145
      go_wp2_with (first
        | (at_builtin; refine Lib.wpList_append_run _ rfl _ _ _ _ rfl _ _ rfl rfl _ _ (RZ.out _) ?_)
        | (refine wpList_copy_blk rfl (.tmp 43) (.tmp 44) 37 37 rfl 3 Tryz.underlying37 1 hsz w.heap.size (i) (n + 1 - i) (G - i) ⟨vb, 0, none⟩ 1 1 rfl rfl vs (by rw [hvl]; simp only [Nat.min_def]; split <;> omega) (VC.out _ (o1 vb hvs)) 3 _ n1 (by omega) h1v ?_; intro w2 n2 m2 b2))
      have hs1 : w.heap.size + 1 ≤ W1.heap.size := by have := (Array.getElem?_eq_some_iff.1 n1).1; omega
      have k2 : ∀ k, k < w.heap.size → w2.heap[k]? = w.heap[k]? := fun k hk => (b2.block k hk).trans (o1 k hk)
      go_region_law ((refine step_copy_blk rfl (.tmp 50) (.tmp 53) 37 37 rfl 3 Tryz.underlying37 1 hsz w.heap.size ((i + 1)) (n - i) (G - (i + 1)) ⟨b, i, none⟩ (n - i) (c - i) (by simp [Act.eval, Act.put]) (by simp [Act.eval, Act.put]) (xs.drop (i)) (by rw [hdl]; simp only [Nat.min_def]; split <;> omega) (XC.out _ (k2 b hbs)) 3 _ n2 (by rw [hfin, hdl]; omega) D1.out ?_; intro w3 n3 m3 b3))
      all_goals go_wp2
      all_goals go_ret
      all_goals have e3 : (i + 1) = i + 1 := by omega
      all_goals rw [e3] at n3
      all_goals refine ⟨_, rfl, ⟨FL.out, .inr ⟨w.heap.size, G, _, rfl, by omega, n3, hGn, by unfold maxLen; omega, ?_, ?_⟩⟩, grown_of (((b1.trans (b2.mono (by omega))).drew).trans (b3.mono (by omega))) (fun k hk _ => (b3.block k hk).trans (k2 k hk)), fun g e => .inr (Nat.le_of_eq (Option.some.inj e))⟩
      all_goals first
        | (rw [List.size_toArray]; have := LN.out _ rfl; omega)
        | (rw [show (n + 1) * (1) = n + 1 by omega, HR.out]; exact SF.out)
    · have hov : ∀ lb cb, (callFunc 175 #[.slice (some ⟨vb, 0, none⟩) 1 1, .slice (some ⟨b, (i + 1), none⟩) lb cb]).run Tryz.prog w = .ok (.value (.bool false)) w := fun lb cb => by
        rw [run_callFunc_extern Tryz.func175 (by kernel_rfl) (by kernel_rfl) (by kernel_rfl) (e := Extern.SlicesOverlaps.overlaps #[37, 37] #[4]) (by kernel_rfl),
          Lib.run_overlaps_apart w 37 4 3 Tryz.underlying37 1 Tryz.sizeOf3 ⟨vb, 0, none⟩ ⟨b, (i + 1), none⟩ 1 1 lb cb hvb T 3 vs.length cur.length (by unfold World.shape?; rw [hv]; simp) (by unfold World.shape?; rw [hcur]; simp) (by omega) (blk_fro hv 0) (blk_fro hv _)]
        rfl
      have hnr : (n : Int) + 1 ≤ (c : Int) := by omega
      have hnr2 : ¬ ((c : Int) < (n : Int) + 1) := by omega
      have hb2 : ¬ (c = i + 1) := by omega
      have hb4 : ¬ (c = i) := by omega
      have hb5 : (i : Int) ≤ (n : Int) + 1 := by omega
      have SS := hidp (spl_shift cur xs vs (i) 1 (n) hxl (by omega) hvl hct (by omega))
      have l1 : (spl cur (i + 1) (xs.drop (i))).length = c := by rw [spl_len _ _ _ (by rw [hdl]; omega)]; exact hcs
      have l2 := hidp (show (spl (spl cur (i + 1) (xs.drop (i))) (i) vs).length = c by rw [spl_len _ _ _ (by omega)]; exact l1)
      have FL := hidp (show R.length = (n + 1) * (1) by rw [HR.out, List.length_append, List.length_append, List.length_take, hdl]; omega)
      clear hct H
      go_enter Tryz.func145, Tryz.ntmps145
      go_wp2_with (simp only [hov])
      go_region_law ((refine step_copy_blk rfl (.tmp 73) (.tmp 76) 37 37 rfl 3 Tryz.underlying37 1 hsz b ((i + 1)) (n - i) (c - (i + 1)) ⟨b, i, none⟩ (n + 1 - i) (c - i) (by simp [Act.eval, Act.put]) (by simp [Act.eval, Act.put]) (xs.drop (i)) (by rw [hdl]; simp only [Nat.min_def]; split <;> omega) (XC.out _ rfl) 3 cur hcur (by rw [hdl]; omega) D1.out ?_; intro w3 n3 m3 b3))
      all_goals rw [show (i + 1) = i + 1 by omega] at n3
      all_goals go_wp2_with (refine wpList_copy_blk rfl (.tmp 80) (.tmp 81) 37 37 rfl 3 Tryz.underlying37 1 hsz b (i) (n + 1 - i) (c - i) ⟨vb, 0, none⟩ 1 1 rfl rfl vs (by rw [hvl]; simp only [Nat.min_def]; split <;> omega) (VC.out _ (m3 vb hvb)) 3 _ n3 (by omega) h1v ?_; intro w4 n4 m4 b4)
      all_goals go_ret
      all_goals refine ⟨_, rfl, ⟨FL.out, .inr ⟨b, c, _, rfl, hB, n4, by omega, by unfold maxLen; omega, ?_, ?_⟩⟩, grown_of ((((Below.refl B w).drew).trans (b3.mono hB)).trans (b4.mono hB)) (fun k _ hne => (m4 k (fun e => hne (by rw [e]))).trans (m3 k (fun e => hne (by rw [e])))), fun g e => .inl e⟩
      all_goals first
        | (rw [List.size_toArray]; have := l2.out; omega)
        | (rw [show (n + 1) * (1) = n + 1 by omega, HR.out]; exact SS.out)
set_option maxHeartbeats 2000000 in
theorem insi_nil (B vb : Nat) (vs : List Value) (T : TypeId) (w : World) (hB : B ≤ w.heap.size) (hvl : vs.length = 1) (hv : w.heap[vb]? = some (.cells vs.toArray T (0, 0))) (h1v : ∀ v ∈ vs, v.oneCell' = true) :
    Calls Tryz.prog 145 #[.slice none 0 0, .int .i64 0, .slice (some ⟨vb, 0, none⟩) 1 1] w fun e w' => ∃ v', e = .returned v' ∧ w'.ownsRow B 3 1 v' 1 vs ∧ w.grownBy w' none ∧ NearBlk v' none w.heap.size := by
  obtain ⟨i0, hi0, hz0, hz1, hz2⟩ := info_parts info_int
  have VC := hidp (fun (W : World) (hW : W.heap[vb]? = w.heap[vb]?) j u (hu : vs[j]? = some u) => show W.cell? ((⟨vb, 0, none⟩ : Addr).add j) = some u by
    rw [addr_add0, blk_cell (hW.trans hv)]; exact hu)
  go_enter Tryz.func145, Tryz.ntmps145
  go_wp2_with (at_builtin; refine wpList_append_own_at _ rfl (.tmp 23) (.tmp 24) 37 rfl B 3 i0 (Value.int .i64 0) 1 8 Tryz.underlying37 hi0 hz0 hz1 hz2 rfl (by decide) _ 0 [] rfl (World.ownsRow_nil _ _ _ _) ⟨vb, 0, none⟩ 1 1 vs rfl (by omega) (VC.out _ rfl) h1v (by unfold maxLen; omega) (by omega) hB ?_; intro v1 w1 o1 g1 a1 d1)
  all_goals go_ret
  all_goals exact ⟨_, rfl, o1, g1, fun g e => d1.imp (fun h => h.symm.trans e) (fun h => Nat.le_of_eq (Option.some.inj (h.symm.trans e)))⟩
/-- Whatever slice of the call's own. -/
theorem insi_own (v : Value) (n i B vb : Nat) (xs vs : List Value) (T : TypeId) (w : World) (h : w.ownsRow B 3 1 v n xs) (hB : B ≤ w.heap.size) (hi : i ≤ n) (hn : n ≤ 1000) (hvl : vs.length = 1) (hv : w.heap[vb]? = some (.cells vs.toArray T (0, 0))) (hvb : v.ownBlock ≠ some vb) (h1v : ∀ v ∈ vs, v.oneCell' = true) (h1x : ∀ v ∈ xs, v.oneCell' = true) :
    Calls Tryz.prog 145 #[v, .int .i64 i, .slice (some ⟨vb, 0, none⟩) 1 1] w fun e w' => ∃ v', e = .returned v' ∧ w'.ownsRow B 3 1 v' (n + 1) (xs.take (i) ++ vs ++ xs.drop (i)) ∧ w.grownBy w' v.ownBlock ∧ NearBlk v' v.ownBlock w.heap.size := by
  rcases h.2 with ⟨rfl, rfl⟩ | ⟨g, cp, cu, rfl, r⟩
  · obtain rfl : i = 0 := by omega
    have hx : xs = [] := List.eq_nil_of_length_eq_zero (by have := h.1; omega)
    subst hx
    have := insi_nil B vb vs T w hB hvl hv h1v
    refine this.mono ?_
    rintro e w' ⟨v', rfl, h1, h2⟩
    exact ⟨v', rfl, by simpa using h1, h2⟩
  · exact insi_c g n cp i B vb xs vs T w h hi hn hvl hv (fun e => hvb (by rw [e]; rfl)) h1v h1x
end Go.Proofs.YtgodgfnfaiiohaaGreatDoor

/- Bottoms: plain law: the least K of all numbers that came, rising. -/
namespace Go.Proofs.YtgodgfnfaiiohaaGreatDoor
set_option maxRecDepth 20000
/-- Put in its place, unless it is there. -/
def sins : List Int → Int → List Int
  | [], x => [x]
  | y :: l, x => if x < y then x :: y :: l else if x = y then y :: l else y :: sins l x
def Rising (l : List Int) : Prop := l.Pairwise (· < ·)
theorem sins_mem (z x : Int) : ∀ l : List Int, z ∈ sins l x ↔ z = x ∨ z ∈ l
  | [] => by simp [sins]
  | y :: l => by
    have ih := sins_mem z x l
    simp only [sins]
    by_cases h1 : x < y
    · rw [if_pos h1]; simp
    · rw [if_neg h1]
      by_cases h2 : x = y
      · rw [if_pos h2, h2]; simp
      · rw [if_neg h2]
        simp only [List.mem_cons, ih]
        constructor
        · rintro (h | h | h)
          · exact .inr (.inl h)
          · exact .inl h
          · exact .inr (.inr h)
        · rintro (h | h | h)
          · exact .inr (.inl h)
          · exact .inl h
          · exact .inr (.inr h)
theorem sins_rising (x : Int) : ∀ l : List Int, Rising l → Rising (sins l x)
  | [], _ => by simp [sins, Rising]
  | y :: l, h => by
    have h' := List.pairwise_cons.1 h
    have ih := sins_rising x l h'.2
    simp only [sins]
    by_cases h1 : x < y
    · rw [if_pos h1]
      refine List.pairwise_cons.2 ⟨fun z hz => ?_, h⟩
      rcases List.mem_cons.1 hz with rfl | hz
      · exact h1
      · have := h'.1 z hz; omega
    · rw [if_neg h1]
      by_cases h2 : x = y
      · rw [if_pos h2]; exact h
      · rw [if_neg h2]
        refine List.pairwise_cons.2 ⟨fun z hz => ?_, ih⟩
        rcases (sins_mem z x l).1 hz with rfl | hz
        · omega
        · exact h'.1 z hz
theorem sins_in (x : Int) : ∀ l : List Int, Rising l → x ∈ l → sins l x = l
  | [], _, h => by simp at h
  | y :: l, hr, h => by
    have h' := List.pairwise_cons.1 hr
    simp only [sins]
    by_cases h2 : x = y
    · rw [if_neg (by omega), if_pos h2]
    · have hx : x ∈ l := by
        rcases List.mem_cons.1 h with e | e
        · exact absurd e h2
        · exact e
      have := h'.1 x hx
      rw [if_neg (by omega), if_neg h2, sins_in x l h'.2 hx]
theorem countP_none (x : Int) : ∀ l : List Int, (∀ z ∈ l, x ≤ z) → l.countP (· < x) = 0
  | [], _ => rfl
  | y :: l, h => by
    rw [List.countP_cons, countP_none x l (fun z hz => h z (by simp [hz]))]
    have := h y (by simp)
    rw [if_neg (by simp; omega)]
/-- As it is done: at the place that the search tells. -/
theorem sins_out (x : Int) : ∀ l : List Int, Rising l → x ∉ l → sins l x = l.take (l.countP (· < x)) ++ x :: l.drop (l.countP (· < x))
  | [], _, _ => rfl
  | y :: l, hr, h => by
    have h' := List.pairwise_cons.1 hr
    have hxy : x ≠ y := fun e => h (by simp [e])
    have hxl : x ∉ l := fun e => h (by simp [e])
    simp only [sins]
    by_cases h1 : x < y
    · rw [if_pos h1, countP_none x (y :: l) (fun z hz => by
        rcases List.mem_cons.1 hz with rfl | hz
        · omega
        · have := h'.1 z hz; omega)]
      rfl
    · rw [if_neg h1, if_neg hxy, sins_out x l h'.2 hxl, List.countP_cons, if_pos (by simp; omega)]
      simp
/-- One number to a bottom of K. -/
def bot (K : Nat) (l : List Int) (x : Int) : List Int := (sins l x).take K
/-- All numbers to a bottom of K. -/
def bots (K : Nat) (l xs : List Int) : List Int := xs.foldl (bot K) l
theorem rising_take {l : List Int} (h : Rising l) (K : Nat) : Rising (l.take K) := List.Pairwise.sublist (List.take_sublist K l) h
end Go.Proofs.YtgodgfnfaiiohaaGreatDoor

/- Contracts of package bottom at bottoms that may be: Check, Put. -/
namespace Go.Proofs.YtgodgfnfaiiohaaGreatDoor
open Go.ChangeShapes Go.WideShapes Go.ChangeAt Go.RowKit
set_option maxRecDepth 20000
theorem coff {W : World} {b b' i j : Nat} {v u : Value} (h : W.cell? ⟨b, i, none⟩ = some v) (hne : b ≠ b') : (W.setCell ⟨b', j, none⟩ u).cell? ⟨b, i, none⟩ = some v := by
  rw [World.cell?_setCell_far _ _ _ _ (fun e => hne e.symm)]; exact h
theorem con {W : World} {b i j : Nat} {v u : Value} (h : W.cell? ⟨b, i, none⟩ = some v) (hne : i ≠ j) : (W.setCell ⟨b, j, none⟩ u).cell? ⟨b, i, none⟩ = some v := by
  rw [World.cell?_setCell_other _ _ _ _ (fun e => hne (by simp only [Addr.mk.injEq] at e; omega))]; exact h
theorem cset {W : World} {b i : Nat} {v u : Value} (h : W.cell? ⟨b, i, none⟩ = some v) : (W.setCell ⟨b, i, none⟩ u).cell? ⟨b, i, none⟩ = some u := World.cell?_setCell_same _ _ _ h
theorem frs {W : World} {p q : Addr} {u : Value} (h : W.frozen? q = false) : (W.setCell p u).frozen? q = false := by rw [← h]; simp
theorem ltc {W : World} {P i : Nat} {v : Value} (h : W.cell? ⟨P, i, none⟩ = some v) : P < W.heap.size := lt_of_cell h
theorem nec {W : World} {P i : Nat} {v : Value} (h : W.cell? ⟨P, i, none⟩ = some v) : ¬ P = W.heap.size ∧ ¬ W.heap.size = P := by
  have h1 : P < W.heap.size := lt_of_cell h
  omega
theorem owns_below {w w' : World} {base : Nat} {e : TypeId} {size : Nat} {v : Value} {n : Nat} {xs : List Value} (h : w.ownsRow base e size v n xs) (hb : Below w.heap.size w w') : w'.ownsRow base e size v n xs := by
  rcases h.2 with ⟨rfl, h0⟩ | ⟨g, cap, cur, rfl, hg, hh, r⟩
  · exact ⟨h.1, .inl ⟨rfl, h0⟩⟩
  · exact ⟨h.1, .inr ⟨g, cap, cur, rfl, hg, (hb.block g (Array.getElem?_eq_some_iff.1 hh).1).trans hh, r⟩⟩
theorem res2 {W : World} {P : Nat} {u0 u1 : Value} (x0 x1 : Value) (h0 : W.cell? ⟨P, 0, none⟩ = some u0) (h1 : W.cell? ⟨P, 1, none⟩ = some u1) :
    ((W.setCell ⟨P, 0, none⟩ x0).setCell ⟨P, 1, none⟩ x1).cell? ⟨P, 0, none⟩ = some x0 ∧ ((W.setCell ⟨P, 0, none⟩ x0).setCell ⟨P, 1, none⟩ x1).cell? ⟨P, 1, none⟩ = some x1 :=
  ⟨con (cset h0) (by omega), cset (con h1 (by omega))⟩
theorem below_set2 {w W : World} (h : Below w.heap.size w W) (P : Nat) (hP : w.heap.size ≤ P) (x0 x1 : Value) : Below w.heap.size w ((W.setCell ⟨P, 0, none⟩ x0).setCell ⟨P, 1, none⟩ x1) :=
  (h.setCell (p := ⟨P, 0, none⟩) hP _).setCell (p := ⟨P, 1, none⟩) hP _
theorem gk2 {W w1 : World} {row : Option Nat} {b o : Nat} {v : Value} (hg : W.grownBy w1 row) (h : W.cell? ⟨b, o, none⟩ = some v) (hne : row ≠ some b) : w1.cell? ⟨b, o, none⟩ = some v := gk hg h hne
theorem gf2 {W w1 : World} {row : Option Nat} {b o : Nat} {ob : Obj} (hg : (W.alloc ob).grownBy w1 row) (h : W.frozen? ⟨b, o, none⟩ = false) (hlt : b < W.heap.size) (hne : row ≠ some b) : w1.frozen? ⟨b, o, none⟩ = false :=
  gf hg (((bal (Below.refl _ _) ob).frozen (p := ⟨b, o, none⟩) hlt).trans h) (by simp; omega) hne
/-- A bottom that may be. -/
structure BotOk (K : Nat) (xs : List Int) : Prop where
  k1 : 1 ≤ K
  k2 : K ≤ 40
  ln : xs.length ≤ K
  ris : Rising xs
  bd : ∀ x ∈ xs, 0 ≤ x ∧ x < 72057594037927936
theorem rising_at (xs : List Int) (h : Rising xs) (i j : Nat) (hij : i < j) (hj : j < xs.length) : gi xs i < gi xs j := by
  have := List.pairwise_iff_getElem.1 h i j (by omega) hj hij
  have e1 : gi xs i = xs[i] := by unfold gi; rw [List.getD_eq_getElem?_getD, List.getElem?_eq_getElem (by omega)]; rfl
  have e2 : gi xs j = xs[j] := by unfold gi; rw [List.getD_eq_getElem?_getD, List.getElem?_eq_getElem hj]; rfl
  rw [e1, e2]; exact this
theorem BotOk.put {K : Nat} {xs : List Int} (h : BotOk K xs) (x : Int) (hx : 0 ≤ x ∧ x < 72057594037927936) : BotOk K (bot K xs x) :=
  ⟨h.k1, h.k2, by unfold bot; rw [List.length_take]; omega, rising_take (sins_rising x xs h.ris) K, fun y hy => by
    rcases (sins_mem y x xs).1 (List.mem_of_mem_take hy) with rfl | hy
    · exact hx
    · exact h.bd y hy⟩
abbrev botV (K : Nat) (a : Option Addr) (n c : Nat) : Value := .agg #[.int .i64 (K : Nat), .slice a n c]
set_option maxHeartbeats 4000000 in
theorem bocheck_c (K : Nat) (a : Option Addr) (n c : Nat) (xs : List Int) (w : World) (h : IntsAt w a n c xs) (hok : BotOk K xs) :
    Calls Tryz.prog 143 #[botV K a n c] w fun e w' => e = .returned (.int .i64 0) ∧ Below w.heap.size w w' := by
  have hb0 : Below w.heap.size w (w.alloc (.cells #[.int .i64 (K : Nat), .slice a n c] 41)) := bal (Below.refl _ _) _
  have c0 : (w.alloc (.cells #[.int .i64 (K : Nat), .slice a n c] 41)).cell? ⟨w.heap.size, 0, none⟩ = some (.int .i64 (K : Nat)) := by go_simp
  have c1 : (w.alloc (.cells #[.int .i64 (K : Nat), .slice a n c] 41)).cell? ⟨w.heap.size, 1, none⟩ = some (.slice a n c) := by go_simp
  obtain ⟨b, o, hz, hx⟩ := (h.below hb0).split
  have hz' : Hid (n = 0) ∨ a = some ⟨b, o, none⟩ := hz.imp_left hidp
  have HX := hidp hx
  have mm := h.max
  have ee := h.le
  have hl := h.len
  have k1 := hok.k1
  have k2 := hok.k2
  have kn := hok.ln
  have k1' : ¬ (K : Int) < 1 := by omega
  have k2' : ¬ (40 : Int) < (K : Int) := by omega
  have kn' : ¬ (K : Int) < (n : Int) := by omega
  have NC := hidp (fun (x : Int) (hx : 0 ≤ x ∧ x < 72057594037927936) W => show Calls Tryz.prog 91 #[.int .i64 x] W fun e w' => e = .returned (.bool true) ∧ W = w' by
    have := num_c x W
    rw [decide_eq_true hx] at this
    exact this)
  have BD := hidp (fun i (hi : i < n) => hok.bd _ (gi_mem xs i (by omega)))
  have RI := hidp (fun i (hi : 0 < i) (hn : i < n) => rising_at xs hok.ris (i - 1) i (by omega) (by omega))
  have HB := hidp hb0
  unfold botV
  clear hx hz h hok hb0
  go_enter Tryz.func143, Tryz.ntmps143
  go_upto_region 1 with fail
  generalize (w.alloc (.cells #[.int .i64 (K : Nat), .slice a n c] 41)) = w1 at *
  go_wp2_with fail
  go_loopw [22] (fun i wr => ∃ k : Nat, k ≤ n ∧ i = .int .i64 k ∧ wr = w1) (fun i _ => n - (intOf i).toNat)
  case atStart => exact ⟨0, by omega, rfl, rfl⟩
  case round =>
    obtain ⟨k, hk, rfl, rfl⟩ := hrel
    by_cases hlt : k < n
    · obtain rfl : a = some ⟨b, o, none⟩ := hz'.resolve_left (fun e => by have := e.out; omega)
      have q := (HX.out k hlt).2
      have N1 := hidp (NC.out (gi xs k) (BD.out k hlt))
      by_cases h0 : 0 < k
      · have q2 := (HX.out (k - 1) (by omega)).2
        have r := RI.out k h0 hlt
        have e1 : ((k : Int) - 1) = ((k - 1 : Nat) : Int) := by omega
        have h0' : (0 : Int) < (k : Int) := by omega
        go_wp2_with fail
        refine (N1.out _).mono ?_
        rintro e w' ⟨rfl, rfl⟩
        go_wp2_with fail
        go_roundw
        case rel => exact ⟨k + 1, by omega, by go_num, trivial⟩
        case measure => simp [intOf]; omega
      · have h0' : ¬ (0 : Int) < (k : Int) := by omega
        go_wp2_with fail
        refine (N1.out _).mono ?_
        rintro e w' ⟨rfl, rfl⟩
        go_wp2_with fail
        go_roundw
        case rel => exact ⟨k + 1, by omega, by go_num, trivial⟩
        case measure => simp [intOf]; omega
    · obtain rfl : k = n := by omega
      go_wp2_with fail
      go_ret
      exact ⟨rfl, HB.out⟩
theorem zz {W vb : World} {P : Nat} (hP : W.heap.size = P) (hb : Below (W.alloc (.cells #[.int .i64 0, .slice none 0 0] 41)).drew.heap.size (W.alloc (.cells #[.int .i64 0, .slice none 0 0] 41)).drew vb) :
    vb.cell? ⟨P, 0, none⟩ = some (.int .i64 0) ∧ vb.cell? ⟨P, 1, none⟩ = some (.slice none 0 0) ∧ (∀ o, vb.frozen? ⟨P, o, none⟩ = false) ∧ P < vb.heap.size ∧ Below W.heap.size W vb ∧ (∀ Q j u, W.cell? ⟨Q, j, none⟩ = some u → vb.cell? ⟨Q, j, none⟩ = some u) := by
  subst hP
  have h0 : vb.cell? ⟨W.heap.size, 0, none⟩ = some (.int .i64 0) := ck hb (by go_simp)
  have hB : Below W.heap.size W vb := bstep (bal (Below.refl _ _) _).drew hb
  exact ⟨h0, ck hb (by go_simp), fun o => (hb.frozen (p := ⟨W.heap.size, o, none⟩) (by simp)).trans (by go_simp), ltc h0, hB, fun Q j u h => ck hB h⟩
theorem bp_fr0 {W V : World} {R o : Nat} {u : Value} (hb : Below W.heap.size W V) (h : W.cell? ⟨R, 0, none⟩ = some u) (hf : W.frozen? ⟨R, o, none⟩ = false) : V.frozen? ⟨R, o, none⟩ = false := (hb.frozen (p := ⟨R, o, none⟩) (show R < _ from ltc h)).trans hf
theorem bp_fr {W V : World} {R o : Nat} {u : Value} (hb : Below W.heap.size W V) (h : W.cell? ⟨R, 0, none⟩ = some u) (hf : W.frozen? ⟨R, o, none⟩ = false) (ob : Obj) : (V.alloc ob).frozen? ⟨R, o, none⟩ = false := bp_fr0 (bal hb ob) h hf
theorem bp_ne {W V : World} {o : Obj} {e : TypeId} {n : Nat} {v : Value} {xs : List Value} (hv : V.ownsRow (W.alloc o).drew.heap.size e 1 v n xs) (h : v.ownBlock = some W.heap.size) : False := by
  have := (hv.lt _ h).1
  have h2 : (W.alloc o).drew.heap.size = W.heap.size + 1 := by simp
  omega
theorem bp_own {W V : World} {o : Obj} {e : TypeId} {n : Nat} {v x0 x1 : Value} {xs : List Value} (hv : V.ownsRow (W.alloc o).drew.heap.size e 1 v n xs) : ((V.setCell ⟨W.heap.size, 0, none⟩ x0).setCell ⟨W.heap.size, 1, none⟩ x1).ownsRow W.heap.size e 1 v n xs := by
  have h2 : (W.alloc o).drew.heap.size = W.heap.size + 1 := by simp
  exact owns_mono (ownsRow_setCell_below (ownsRow_setCell_below hv (a := ⟨W.heap.size, 0, none⟩) (by show W.heap.size < _; omega) _) (a := ⟨W.heap.size, 1, none⟩) (by show W.heap.size < _; omega) _) (by omega)
theorem rising_le {xs : List Int} (h : Rising xs) : xs.Pairwise (· ≤ ·) := h.imp (fun h => by omega)
theorem bsearch_own (v : Value) (n B : Nat) (xs : List Int) (x : Int) (W : World) (hv : W.ownsRow B 3 1 v n (xs.map (Value.int .i64))) (hx : ∀ x ∈ xs, 0 ≤ x ∧ x < 72057594037927936) (hr : Rising xs) (hn : n ≤ 1000) :
    Calls Tryz.prog 144 #[v, .int .i64 x] W fun e w' => e = .returned (.tuple #[.int .i64 (xs.countP (· < x) : Nat), .bool (xs.contains x)]) ∧ ∃ q, w' = W.drewN q := by
  obtain ⟨a, c, rfl, hI⟩ := owns_ints hv (fun y hy => by have := hx y hy; omega)
  have hl := hI.len
  rcases Nat.eq_zero_or_pos n with h0 | h0
  · subst h0
    have hxs : xs = [] := List.eq_nil_of_length_eq_zero hl
    subst hxs
    refine (Tryz.slices_BinarySearch_int_empty a c x W).mono ?_
    rintro e w' ⟨rfl, rfl⟩
    exact ⟨rfl, 0, rfl⟩
  · obtain ⟨b, o, rfl, _, hc⟩ := hI.addr h0
    refine (Tryz.slices_BinarySearch_int b o n c xs x W (by omega) (by omega) (fun j hj => hc j (by omega)) (by rw [List.take_of_length_le (by omega)]; exact rising_le hr)).mono ?_
    rintro e w' ⟨rfl, q, rfl⟩
    rw [List.take_of_length_le (by omega)]
    exact ⟨rfl, q, rfl⟩
/-- What stands while a bottom is put to. -/
structure BotS (W : World) (P R Q K n : Nat) (a : Option Addr) (c : Nat) (v : Value) : Prop where
  c0 : W.cell? ⟨P, 0, none⟩ = some (.int .i64 (K : Nat))
  c1 : W.cell? ⟨P, 1, none⟩ = some (.slice a n c)
  r0 : ∃ u, W.cell? ⟨R, 0, none⟩ = some u
  r1 : ∃ u, W.cell? ⟨R, 1, none⟩ = some u
  o0 : W.cell? ⟨Q, 0, none⟩ = some (.int .i64 (K : Nat))
  o1 : W.cell? ⟨Q, 1, none⟩ = some v
  fr : ∀ o, W.frozen? ⟨R, o, none⟩ = false
  fo : ∀ o, W.frozen? ⟨Q, o, none⟩ = false
set_option maxHeartbeats 8000000 in
theorem boput_c (K : Nat) (a : Option Addr) (n c : Nat) (xs : List Int) (x : Int) (w : World) (h : IntsAt w a n c xs) (hok : BotOk K xs) (hx : 0 ≤ x ∧ x < 72057594037927936) :
    Calls Tryz.prog 111 #[botV K a n c, .int .i64 x] w fun e w' => ∃ g n' c', e = .returned (.tuple #[botV K g n' c', .int .i64 0]) ∧ w'.ownsRow w.heap.size 3 1 (.slice g n' c') n' ((bot K xs x).map (Value.int .i64)) ∧ Below w.heap.size w w' := by
  have CK := hidp (fun W (hB : Below w.heap.size w W) => bocheck_c K a n c xs W (h.below hB) hok)
  have CC := hidp (fun W (hB : Below w.heap.size w W) => clonei_c a n c xs W (h.below hB) (by have := h.len; have := hok.ln; have := hok.k2; omega))
  have N1 := hidp (fun W => show Calls Tryz.prog 91 #[.int .i64 x] W fun e w' => e = .returned (.bool true) ∧ W = w' by
    have := num_c x W
    rw [decide_eq_true hx] at this
    exact this)
  have mm := h.max
  have ee := h.le
  have OK := hidp hok
  have HLX := hidp h.len
  have HX := hidp hx
  clear h hok hx
  unfold botV at *
  go_enter Tryz.func111, Tryz.ntmps111
  go_wp2_with fail
  have hb1 : Below w.heap.size w ((w.alloc (.cells #[.int .i64 (K : Nat), .slice a n c] 41)).alloc (.cells #[.int .i64 0, .slice none 0 0] 41)) := bal (bal (Below.refl _ _) _) _
  refine (CK.out _ hb1).mono ?_
  rintro e wa ⟨rfl, hba⟩
  have c0 : wa.cell? ⟨w.heap.size, 0, none⟩ = some (.int .i64 (K : Nat)) := ck hba (by go_simp)
  have c1 : wa.cell? ⟨w.heap.size, 1, none⟩ = some (.slice a n c) := ck hba (by go_simp)
  have r0 : wa.cell? ⟨w.heap.size + 1, 0, none⟩ = some (.int .i64 0) := ck hba (by go_simp)
  have r1 : wa.cell? ⟨w.heap.size + 1, 1, none⟩ = some (.slice none 0 0) := ck hba (by go_simp)
  have fr : ∀ o, wa.frozen? ⟨w.heap.size + 1, o, none⟩ = false := fun o => (hba.frozen (p := ⟨w.heap.size + 1, o, none⟩) (by simp)).trans (by go_simp)
  have hwa := bstep hb1 hba
  have hsa : w.heap.size + 2 ≤ wa.heap.size := by have := hba.size; simp at this; omega
  have FR := hidp fr
  clear hb1 hba fr CK
  go_wp2_with fail
  refine (N1.out _).mono ?_
  rintro e w' ⟨rfl, rfl⟩
  go_wp2_with fail
  have n1 := ltc c0
  have n2 : ¬ w.heap.size = wa.heap.size := by omega
  have n3 : ¬ wa.heap.size = w.heap.size := by omega
  have CC2 := hidp (fun W (hB : Below wa.heap.size wa W) => CC.out W (bstep hwa hB))
  go_cut [7] (fun s7 wx => ∃ (Q : Nat) (v : Value), s7 = .pointer (some ⟨Q, 0, none⟩) ∧ wa.heap.size ≤ Q ∧ v.ownBlock ≠ some Q ∧ BotS wx w.heap.size (w.heap.size + 1) Q K n a c v ∧ wx.ownsRow wa.heap.size 3 1 v n (xs.map (Value.int .i64)) ∧ Below wa.heap.size wa wx)
  case first =>
    go_region_with (go_at_call 142; go_loud (refine Calls.mono (CC2.out _ ?_) ?_; (first | exact (Below.refl _ _).drew | exact (bal (Below.refl _ _) _).drew); rintro e wb ⟨v, rfl, hv, hbb⟩; have hf := owns_form hv; obtain ⟨av, cv, rfl, hv1, hv2⟩ := hf; (first | (have z := zz (P := wa.heap.size) rfl hbb; obtain ⟨z0, z1, zf, zl, hbv, zq⟩ := z; have zf0 := zf 0; have zf1 := zf 1; have d0 := zq _ _ _ c0; have d1 := zq _ _ _ c1; have ne := nec d0; obtain ⟨n21, n22⟩ := ne; have n23 := ltc d0) | (have hbv := bstep (Below.refl wa.heap.size wa).drew hbb; have d0 := ck hbv c0; have d1 := ck hbv c1; have ne := nec d0; obtain ⟨n21, n22⟩ := ne; have n23 := ltc d0))))
    all_goals go_wp2
    all_goals go_meet
    all_goals first
      | exact ⟨_, _, rfl, by have := hbv.size; omega, fun e => by have := (hv.lt _ e).2; omega, ⟨ca d0 _, ca d1 _, ⟨_, ca (ck hbv r0) _⟩, ⟨_, ca (ck hbv r1) _⟩, by go_simp, by go_simp, fun o => bp_fr hbv r0 (FR.out o) _, fun o => by go_simp⟩, owns_mono (hv.alloc _) (Nat.le_refl _), bal hbv _⟩
      | exact ⟨_, _, rfl, Nat.le_refl _, fun e => bp_ne hv e, ⟨coff (coff d0 n2) n2, coff (coff d1 n2) n2, ⟨_, coff (coff (ck hbv r0) (by omega)) (by omega)⟩, ⟨_, coff (coff (ck hbv r1) (by omega)) (by omega)⟩, (res2 _ _ z0 z1).1, (res2 _ _ z0 z1).2, fun o => frs (frs (bp_fr0 hbv r0 (FR.out o))), fun o => frs (frs (zf o))⟩, bp_own hv, below_set2 hbv wa.heap.size (Nat.le_refl _) _ _⟩
  case rest =>
    obtain ⟨Q, v, rfl, hQ, hvQ, BS, hv, hb⟩ := hcut
    obtain ⟨av, cv, rfl, hv1, hv2⟩ := owns_form hv
    have hwc := bstep hwa hb
    have BSC := hidp (bsearch_own _ n _ xs x _ hv OK.out.bd OK.out.ris (by have := HLX.out; have := OK.out.ln; have := OK.out.k2; omega))
    have HV := hidp hv
    have HB := hidp hwc
    obtain ⟨c0, c1, ⟨u0, r0⟩, ⟨u1, r1⟩, o0, o1, fr, fo⟩ := BS
    have CP := hidp (show xs.countP (· < x) ≤ n from by rw [← HLX.out]; exact List.countP_le_length)
    have hsz := hb.size
    have SI := hidp (fun (h : xs.contains x = true) => sins_in x xs OK.out.ris (List.contains_iff_mem.1 h))
    have SO := hidp (fun (h : xs.contains x = false) => sins_out x xs OK.out.ris (fun e => by rw [List.contains_iff_mem.2 e] at h; cases h))
    clear hv hwc hb c1 CC2 n1 n2 n3
    go_wp2_with fail
    refine BSC.out.mono ?_
    rintro e wd ⟨rfl, qd, rfl⟩
    have hd : Below wc.heap.size wc (wc.drewN qd) := below_drewN (Below.refl _ _) qd
    replace c0 := ck hd c0
    replace r0 := ck hd r0
    replace r1 := ck hd r1
    replace o0 := ck hd o0
    replace o1 := ck hd o1
    replace fr : ∀ o, (wc.drewN qd).frozen? ⟨w.heap.size + 1, o, none⟩ = false := fr
    replace fo : ∀ o, (wc.drewN qd).frozen? ⟨Q, o, none⟩ = false := fo
    replace HV := hidp (owns_below HV.out hd)
    replace HB := hidp (bstep HB.out hd)
    clear hd BSC
    generalize wc.drewN qd = wd at *
    generalize hI : xs.countP (· < x) = i at *
    cases hct : xs.contains x with
    | true =>
      have HS := hidp (SI.out hct)
      have f0 := fr 0
      have f1 := fr 1
      have hr := hidp (res2 (.int .i64 (K : Nat)) (.slice av n cv) r0 r1)
      have hbw := hidp (below_set2 HB.out (w.heap.size + 1) (by omega) (.int .i64 (K : Nat)) (.slice av n cv))
      have HV2 := hidp (ownsRow_setCell_below (ownsRow_setCell_below HV.out (a := ⟨w.heap.size + 1, 0, none⟩) (by show w.heap.size + 1 < _; omega) (.int .i64 (K : Nat))) (a := ⟨w.heap.size + 1, 1, none⟩) (by show w.heap.size + 1 < _; omega) (.slice av n cv))
      clear hct fr fo SI SO
      go_wp2_with fail
      obtain ⟨t0, t1⟩ := hr.out
      have hbv := hbw.out
      have hvv := HV2.out
      clear hr hbw HV2
      generalize ((wd.setCell ⟨w.heap.size + 1, 0, none⟩ (.int .i64 (K : Nat))).setCell ⟨w.heap.size + 1, 1, none⟩ (.slice av n cv)) = w7 at *
      refine bodyPost_ret (v := .tuple #[.agg #[.int .i64 (K : Nat), .slice av n cv], .int .i64 0]) (by simp [results, Tryz.results111, go_sem, t0, t1]) rfl ⟨av, n, cv, rfl, ?_, hbv⟩
      rw [show bot K xs x = xs from by unfold bot; rw [HS.out, List.take_of_length_le OK.out.ln]]
      exact owns_mono hvv (by omega)
    | false =>
      have HS := hidp (SO.out hct)
      have hlx := HLX.out
      have hnn : n ≤ 1000 := by have := OK.out.ln; have := OK.out.k2; omega
      have hlt := ltc c0
      have HIN := hidp (insi_own (.slice av n cv) n i wa.heap.size wd.heap.size (xs.map (Value.int .i64)) [.int .i64 x] 3 (wd.alloc (.cells #[.int .i64 x] 3)) (HV.out.alloc _) (by simp; have := (ltc o0); omega) CP.out hnn rfl (heap_alloc_new wd _) (fun e => by have := (HV.out.lt _ e).2; omega) (by simp [Value.oneCell']) (by simp [Value.oneCell']))
      clear hct SI SO N1
      go_wp2_with fail
      refine HIN.out.mono ?_
      rintro e we ⟨v2, rfl, hv2', hg, hnb⟩
      have hR : List.take i (xs.map (Value.int .i64)) ++ [.int .i64 x] ++ List.drop i (xs.map (Value.int .i64)) = (sins xs x).map (Value.int .i64) := by rw [HS.out]; simp
      rw [hR] at hv2'
      obtain ⟨a2, c2, rfl, hI2⟩ := owns_ints hv2' (fun y hy => by
        rcases (sins_mem y x xs).1 hy with rfl | hy
        · have := HX.out; omega
        · have := OK.out.bd y hy; omega)
      have hne2 : ∀ b o, a2 = some ⟨b, o, none⟩ → b ≠ Q := fun b o e => by
        have hq := ltc o0
        rcases hnb b (by rw [e]; rfl) with e | e
        · intro e2; rw [e2] at e; exact hvQ e
        · simp at e; omega
      have hvv := HV.out.lt
      have q0 := gk2 hg (ca o0 _) hvQ
      have q1 := gk2 hg (ca o1 _) hvQ
      have hq := ltc q0
      have qf : ∀ o, we.frozen? ⟨Q, o, none⟩ = false := fun o => gf2 hg (fo o) (ltc o0) hvQ
      have p0 := gk2 hg (ca c0 _) (fun e => by have := hvv _ e; omega)
      have rr0 := gk2 hg (ca r0 _) (fun e => by have := hvv _ e; omega)
      have rr1 := gk2 hg (ca r1 _) (fun e => by have := hvv _ e; omega)
      have rf : ∀ o, we.frozen? ⟨w.heap.size + 1, o, none⟩ = false := fun o => gf2 hg (fr o) (ltc r0) (fun e => by have := hvv _ e; omega)
      have hbe : Below w.heap.size w we := (bal HB.out _).grown hg (by simp; omega) (fun g e => by have := hvv _ e; omega)
      have s1 := cset (u := .slice a2 (n + 1) c2) q1
      have s0 := con (u := .slice a2 (n + 1) c2) q0 (show 0 ≠ 1 by omega)
      have sp := coff (b' := Q) (j := 1) (u := .slice a2 (n + 1) c2) p0 (by omega)
      have sr0 := coff (b' := Q) (j := 1) (u := .slice a2 (n + 1) c2) rr0 (by omega)
      have sr1 := coff (b' := Q) (j := 1) (u := .slice a2 (n + 1) c2) rr1 (by omega)
      have sf := hidp (fun o => frs (p := ⟨Q, 1, none⟩) (u := .slice a2 (n + 1) c2) (qf o))
      have srf := hidp (fun o => frs (p := ⟨Q, 1, none⟩) (u := .slice a2 (n + 1) c2) (rf o))
      have hbf := hbe.setCell (p := ⟨Q, 1, none⟩) (by show w.heap.size ≤ Q; omega) (.slice a2 (n + 1) c2)
      have hI3 := hI2.setCell ⟨Q, 1, none⟩ hne2 (.slice a2 (n + 1) c2)
      have qf1 := qf 1
      have hin := ltc q1
      have hc2 := hI3.le
      have hc3 := hI3.max
      clear HIN hg hnb hI2 c0 r0 r1 o0 o1 fr fo p0 rr0 rr1 rf hbe hv2' q0 qf
      go_wp2_with fail
      have hqf : Q < (we.setCell ⟨Q, 1, none⟩ (.slice a2 (n + 1) c2)).heap.size := ltc s1
      clear q1 hq qf1 hin
      generalize (we.setCell ⟨Q, 1, none⟩ (.slice a2 (n + 1) c2)) = wf at *
      have k1 := OK.out.k1
      have k2 := OK.out.k2
      obtain ⟨m, hm⟩ : ∃ m, (min ((n : Int) + 1) (K : Int)).toNat = m := ⟨_, rfl⟩
      have hm2 : m = min (n + 1) K := by omega
      have hI4 := hI3.take m (by omega)
      rw [hm]
      have hBK : List.take m (sins xs x) = bot K xs x := by
        unfold bot
        rw [hm2]
        have := hI3.len
        by_cases hk : n + 1 ≤ K
        · rw [Nat.min_eq_left hk, List.take_of_length_le (by omega), List.take_of_length_le (by omega)]
        · rw [Nat.min_eq_right (by omega)]
      rw [hBK] at hI4
      have hmb : m ≤ n + 1 := by omega
      clear hm2
      refine (clonei_c a2 m c2 _ wf hI4 (by omega)).mono ?_
      rintro e wg ⟨v4, rfl, hv4, hb4⟩
      obtain ⟨a4, c4, rfl, h41, h42⟩ := owns_form hv4
      replace s0 := ck hb4 s0
      replace s1 := ck hb4 s1
      replace sr0 := ck hb4 sr0
      replace sr1 := ck hb4 sr1
      have gf1 := (hb4.frozen (p := ⟨Q, 1, none⟩) hqf).trans (sf.out 1)
      have hRf : w.heap.size + 1 < wf.heap.size := by omega
      have gr : ∀ o, wg.frozen? ⟨w.heap.size + 1, o, none⟩ = false := fun o => (hb4.frozen (p := ⟨w.heap.size + 1, o, none⟩) hRf).trans (srf.out o)
      have hbg := bstep hbf hb4
      have z1 := cset (u := .slice a4 m c4) s1
      have z0 := con (u := .slice a4 m c4) s0 (show 0 ≠ 1 by omega)
      have zr0 := coff (b' := Q) (j := 1) (u := .slice a4 m c4) sr0 (by omega)
      have zr1 := coff (b' := Q) (j := 1) (u := .slice a4 m c4) sr1 (by omega)
      have zf := hidp (fun o => frs (p := ⟨Q, 1, none⟩) (u := .slice a4 m c4) (gr o))
      have hbh := hbg.setCell (p := ⟨Q, 1, none⟩) (by show w.heap.size ≤ Q; omega) (.slice a4 m c4)
      have hv5 := ownsRow_setCell_below hv4 (a := ⟨Q, 1, none⟩) hqf (.slice a4 m c4)
      have wp := ltc s1
      have wp2 := s1
      clear hI3 hI4 sp s0 s1 sr0 sr1 hbf hbg sf srf hm hb4
      have zf0 := zf.out 0
      have zf1 := zf.out 1
      go_wp2_with fail
      obtain ⟨t0, t1⟩ := res2 (.int .i64 (K : Nat)) (.slice a4 m c4) zr0 zr1
      have hbv := below_set2 hbh (w.heap.size + 1) (by omega) (.int .i64 (K : Nat)) (.slice a4 m c4)
      have hvv2 := ownsRow_setCell_below (ownsRow_setCell_below hv5 (a := ⟨w.heap.size + 1, 0, none⟩) hRf (.int .i64 (K : Nat))) (a := ⟨w.heap.size + 1, 1, none⟩) hRf (.slice a4 m c4)
      generalize (((wg.setCell ⟨Q, 1, none⟩ (.slice a4 m c4)).setCell ⟨w.heap.size + 1, 0, none⟩ (.int .i64 (K : Nat))).setCell ⟨w.heap.size + 1, 1, none⟩ (.slice a4 m c4)) = w7 at *
      exact bodyPost_ret (v := .tuple #[.agg #[.int .i64 (K : Nat), .slice a4 m c4], .int .i64 0]) (by simp [results, Tryz.results111, go_sem, t0, t1]) rfl ⟨a4, m, c4, rfl, owns_mono hvv2 (by omega), hbv⟩
end Go.Proofs.YtgodgfnfaiiohaaGreatDoor
