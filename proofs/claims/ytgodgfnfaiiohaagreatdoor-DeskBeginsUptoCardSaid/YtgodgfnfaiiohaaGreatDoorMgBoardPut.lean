/- Merged: InsR, CloneR, BoardPut. -/
import Derived.Test.YtgodgfnfaiiohaaGreatDoorInsKit
import Derived.Test.YtgodgfnfaiiohaaGreatDoorRules
import Derived.ArgAppend
import Derived.WalkSpells
import Derived.Test.YtgodgfnfaiiohaaGreatDoorMgBoardCheck
import Derived.Deep.RegionWith
import Derived.Deep.RegionHeld3
import Derived.OneCell
import Derived.Below
/- Contract of slices.Insert of one element (a rule) into a slice of the call's own. -/
namespace Go.Proofs.YtgodgfnfaiiohaaGreatDoor
open Go.ChangeShapes Go.WideShapes Go.ChangeAt Go.RowKit
set_option maxRecDepth 20000
set_option maxHeartbeats 8000000 in
theorem insr_c (b n c i B vb : Nat) (xs vs : List Value) (T : TypeId) (w : World) (h : w.ownsRow B 146 3 (.slice (some ⟨b, 0, none⟩) n c) n xs) (hi : i ≤ n) (hn : n ≤ 1000) (hvl : vs.length = 3) (hv : w.heap[vb]? = some (.cells vs.toArray T (0, 0))) (hvb : vb ≠ b) (h1v : ∀ v ∈ vs, v.oneCell' = true) (h1x : ∀ v ∈ xs, v.oneCell' = true) :
    Calls Tryz.prog 157 #[.slice (some ⟨b, 0, none⟩) n c, .int .i64 i, .slice (some ⟨vb, 0, none⟩) 1 1] w fun e w' => ∃ v', e = .returned v' ∧ w'.ownsRow B 146 3 v' (n + 1) (xs.take (i * 3) ++ vs ++ xs.drop (i * 3)) ∧ w.grownBy w' (some b) ∧ NearBlk v' (some b) w.heap.size := by
  obtain ⟨i0, hi0, hz0, hz1, hz2⟩ := info_parts info_rule
  have hsz : (Tryz.prog.info? 146).map (·.size) = some 3 := by rw [hi0]; simp [hz1]
  obtain ⟨R, hR⟩ : ∃ R, R = xs.take (i * 3) ++ vs ++ xs.drop (i * 3) := ⟨_, rfl⟩
  rw [← hR]
  have HR := hidp hR
  clear hR
  obtain ⟨hxl0, hrow⟩ := h
  have hxl : xs.length = n * 3 := by first | exact hxl0 | simpa using hxl0
  have H := hidp (show w.ownsRow B 146 3 (.slice (some ⟨b, 0, none⟩) n c) n xs from ⟨hxl0, hrow⟩)
  obtain ⟨cur, hB, hcur, hnc, hcm, hcs, hct⟩ : ∃ cur : List Value, B ≤ b ∧ w.heap[b]? = some (.cells cur.toArray 146 (0, 0)) ∧ n ≤ c ∧ c ≤ maxLen ∧ cur.length = c * 3 ∧ cur.take (n * 3) = xs := by
    rcases hrow with ⟨h0, _⟩ | ⟨g, cp, cu, he, hg, hh, h1, h2, h3, h4⟩
    · cases h0
    · simp only [Value.slice.injEq, Option.some.injEq, Addr.mk.injEq] at he
      obtain ⟨⟨rfl, _, _⟩, _, rfl⟩ := he
      exact ⟨cu.toList, hg, by simpa using hh, h1, h2, by simpa using h3, by first | exact h4 | simpa using h4⟩
  clear hrow
  unfold maxLen at hcm
  have hbs : b < w.heap.size := (Array.getElem?_eq_some_iff.1 hcur).1
  have hvs : vb < w.heap.size := (Array.getElem?_eq_some_iff.1 hv).1
  have VC := hidp (fun (W : World) (hW : W.heap[vb]? = w.heap[vb]?) j u (hu : vs[j]? = some u) => show W.cell? ((⟨vb, 0, none⟩ : Addr).add j) = some u by
    rw [addr_add0, blk_cell (hW.trans hv)]; exact hu)
  have XC := hidp (fun (W : World) (hW : W.heap[b]? = w.heap[b]?) j u (hu : (xs.drop (i * 3))[j]? = some u) => show W.cell? ((⟨b, i * 3, none⟩ : Addr).add j) = some u by
    rw [addr_add, blk_cell (hW.trans hcur)]
    rw [List.getElem?_drop, ← hct, List.getElem?_take] at hu
    split at hu
    · exact hu
    · cases hu)
  have hdl : (xs.drop (i * 3)).length = (n - i) * 3 := by simp only [List.length_drop, hxl] <;> omega
  have D1 := hidp (fun v (hv : v ∈ xs.drop (i * 3)) => h1x v (List.mem_of_mem_drop hv))
  by_cases hin : i = n
  · subst hin
    have hT := hidp (show R = xs ++ vs by rw [HR.out, List.take_of_length_le (by omega), List.drop_of_length_le (by omega), List.append_nil])
    clear hdl hct hcur hcs
    go_enter Tryz.func157, Tryz.ntmps157
    go_wp2_with (at_builtin; refine wpList_append_own_at _ rfl (.tmp 23) (.tmp 24) 42 rfl B 146 i0 (Value.agg #[.string ⟨#[]⟩, .int .i64 0, .int .i64 0]) 3 32 Tryz.underlying42 hi0 hz0 hz1 hz2 rfl (by decide) _ i xs rfl H.out ⟨vb, 0, none⟩ 1 1 vs rfl (by omega) (VC.out _ rfl) h1v (by unfold maxLen; omega) (by omega) (by omega) ?_; intro v1 w1 o1 g1 a1 d1)
    all_goals go_ret
    all_goals exact ⟨_, rfl, by rw [hT.out]; exact o1, g1, fun g e => d1.imp (fun h => h.symm.trans e) (fun h => Nat.le_of_eq (Option.some.inj (h.symm.trans e)))⟩
  · have hlt : i < n := by omega
    have hne : ¬ ((i : Int) = (n : Int)) := by omega
    have hw1 : IntKind.i64.wrap ((i : Int) + 1) = (i : Int) + 1 := by rw [IntKind.wrap_i64]; omega
    have ht1 : ((i : Int) + 1).toNat = i + 1 := by omega
    have hb1 : (0 : Int) ≤ (i : Int) + 1 := by omega
    have hb3 : (i : Int) ≤ (n : Int) := by omega
    by_cases hroom : c < n + 1
    · have hz3 : (c : Int) < (n : Int) + 1 := by omega
      have hkk : (n : Int) + 1 - (i : Int) = ((n + 1 - i : Nat) : Int) := by omega
      have hik : i + (n + 1 - i) = n + 1 := by omega
      have hold : (Builtin.firstCells i0.size i (.slice (some ⟨b, 0, none⟩) i c)).run Tryz.prog w.drew = .ok (xs.take (i * 3)).toArray w.drew := by
        rw [hz1]
        exact run_firstCells_some w.drew 3 i ⟨b, 0, none⟩ i c (xs.take (i * 3)) (by rw [List.length_take]; omega) (fun j v hj => by
          rw [addr_add0]
          show w.cell? ⟨b, j, none⟩ = _
          rw [blk_cell hcur]
          rw [List.getElem?_take] at hj
          split at hj
          · rw [← hct, List.getElem?_take] at hj
            split at hj
            · exact hj
            · cases hj
          · cases hj)
      have hrz : ∀ ty, (Builtin.append_ #[42, 3] ty #[.slice (some ⟨b, 0, none⟩) i c, .int .i64 ((n : Int) + 1 - (i : Int))]).run Tryz.prog w =
          .ok (.slice (some ⟨w.heap.size, 0, none⟩) (n + 1) (grownCap w (n + 1) c 146)) (w.drew.alloc (.cells ((xs.take (i * 3)).toArray ++ Builtin.zeroCells ((Value.agg #[.string ⟨#[]⟩, .int .i64 0, .int .i64 0])).cells (n + 1 - i) ++ Builtin.zeroCells ((Value.agg #[.string ⟨#[]⟩, .int .i64 0, .int .i64 0])).cells (grownCap w (n + 1) c 146 - (n + 1))) 146)) := fun ty => by
        have h := Lib.run_append_grow_zeros w 42 3 ty 146 i0 _ .i64 .i64 Tryz.underlying42 Tryz.underlying3 hi0 hz0 (some ⟨b, 0, none⟩) i c (xs.take (i * 3)) hold (n + 1 - i) (by omega) (by omega) (by omega) (by omega) (by rw [hz2]; omega) (by rw [hz2, hik]; exact growslice_fits hroom (by omega))
        rw [hik] at h
        rw [hkk]
        exact h
      obtain ⟨G, hG⟩ : ∃ G, G = grownCap w (n + 1) c 146 := ⟨_, rfl⟩
      have hGn : n + 1 ≤ G := by rw [hG]; exact grownCap_ge w _ _ _
      have hG63 : G ≤ 9223372036854775807 := by
        have := grownCap_le_maxLen w (n + 1) c 146 (by unfold maxLen; omega)
        rw [← hG] at this
        unfold maxLen at this
        omega
      obtain ⟨Z, hZ⟩ : ∃ Z : List Value, Z = (Builtin.zeroCells ((Value.agg #[.string ⟨#[]⟩, .int .i64 0, .int .i64 0])).cells (n + 1 - i) ++ Builtin.zeroCells ((Value.agg #[.string ⟨#[]⟩, .int .i64 0, .int .i64 0])).cells (G - (n + 1))).toList := ⟨_, rfl⟩
      have hZl : Z.length = (n + 1 - i) * 3 + (G - (n + 1)) * 3 := by
        rw [hZ]; simp [Builtin.zeroCells, Value.cells]
      have hROW : (xs.take (i * 3)).toArray ++ Builtin.zeroCells ((Value.agg #[.string ⟨#[]⟩, .int .i64 0, .int .i64 0])).cells (n + 1 - i) ++ Builtin.zeroCells ((Value.agg #[.string ⟨#[]⟩, .int .i64 0, .int .i64 0])).cells (G - (n + 1)) = (xs.take (i * 3) ++ Z).toArray := by
        rw [hZ]
        simp [Array.append_assoc]
      rw [← hG, hROW] at hrz
      have htl : (xs.take (i * 3)).length = i * 3 := by rw [List.length_take]; omega
      have hrl : (xs.take (i * 3) ++ Z).length = G * 3 := by rw [List.length_append, htl, hZl]; omega
      have SF := hidp (spl_fresh Z xs vs (i * 3) 3 (n * 3) hxl (by omega) hvl (by omega))
      have LN := hidp (fun (D : List Value) (hD : D = xs.drop (i * 3)) => show (spl (spl (xs.take (i * 3) ++ Z) (i * 3) vs) (i * 3 + 3) D).length = G * 3 by
        have e1 := spl_len (xs.take (i * 3) ++ Z) (i * 3) vs (by omega)
        rw [spl_len _ _ _ (by rw [e1, hD, hdl]; omega), e1, hrl])
      have hfin : (spl (xs.take (i * 3) ++ Z) (i * 3) vs).length = G * 3 := by rw [spl_len _ _ _ (by omega), hrl]
      have FL := hidp (show R.length = (n + 1) * (3) by rw [HR.out, List.length_append, List.length_append, htl, hdl]; omega)
      obtain ⟨W1, hW1⟩ : ∃ W1, W1 = w.drew.alloc (.cells (xs.take (i * 3) ++ Z).toArray 146) := ⟨_, rfl⟩
      have n1 : W1.heap[w.heap.size]? = some (.cells (xs.take (i * 3) ++ Z).toArray 146 (0, 0)) := by rw [hW1]; exact heap_alloc_new w.drew _
      have o1 : ∀ k, k < w.heap.size → W1.heap[k]? = w.heap[k]? := fun k hk => by rw [hW1]; exact Below.heap_alloc w.drew _ _ hk
      have b1 : Below B w W1 := by rw [hW1]; exact (Below.refl B w).drew.alloc (by show B ≤ w.heap.size; omega) _
      rw [← hW1] at hrz
      have RZ := hidp hrz
      clear hxl0 hrz hold hkk hik hROW hZ hG hW1 hct hcs hxl H
      have hGi : ¬ (G = i) := by omega
      have hGim : ¬ (G = i + 1) := by omega
      have hci : ¬ (c = i) := by omega
      go_enter Tryz.func157, Tryz.ntmps157
      go_wp2_with (first
        | (at_builtin; refine Lib.wpList_append_run _ rfl _ _ _ _ rfl _ _ rfl rfl _ _ (RZ.out _) ?_)
        | (refine wpList_copy_blk rfl (.tmp 43) (.tmp 44) 42 42 rfl 146 Tryz.underlying42 3 hsz w.heap.size (i * 3) (n + 1 - i) (G - i) ⟨vb, 0, none⟩ 1 1 rfl rfl vs (by rw [hvl]; simp only [Nat.min_def]; split <;> omega) (VC.out _ (o1 vb hvs)) 146 _ n1 (by omega) h1v ?_; intro w2 n2 m2 b2))
      have hs1 : w.heap.size + 1 ≤ W1.heap.size := by have := (Array.getElem?_eq_some_iff.1 n1).1; omega
      have k2 : ∀ k, k < w.heap.size → w2.heap[k]? = w.heap[k]? := fun k hk => (b2.block k hk).trans (o1 k hk)
      go_region_law ((refine step_copy_blk rfl (.tmp 50) (.tmp 53) 42 42 rfl 146 Tryz.underlying42 3 hsz w.heap.size ((i + 1) * 3) (n - i) (G - (i + 1)) ⟨b, i * 3, none⟩ (n - i) (c - i) (by simp [Act.eval, Act.put]) (by simp [Act.eval, Act.put]) (xs.drop (i * 3)) (by rw [hdl]; simp only [Nat.min_def]; split <;> omega) (XC.out _ (k2 b hbs)) 146 _ n2 (by rw [hfin, hdl]; omega) D1.out ?_; intro w3 n3 m3 b3))
      all_goals go_wp2
      all_goals go_ret
      all_goals have e3 : (i + 1) * 3 = i * 3 + 3 := by omega
      all_goals rw [e3] at n3
      all_goals refine ⟨_, rfl, ⟨FL.out, .inr ⟨w.heap.size, G, _, rfl, by omega, n3, hGn, by unfold maxLen; omega, ?_, ?_⟩⟩, grown_of (((b1.trans (b2.mono (by omega))).drew).trans (b3.mono (by omega))) (fun k hk _ => (b3.block k hk).trans (k2 k hk)), fun g e => .inr (Nat.le_of_eq (Option.some.inj e))⟩
      all_goals first
        | (rw [List.size_toArray]; have := LN.out _ rfl; omega)
        | (rw [show (n + 1) * (3) = n * 3 + 3 by omega, HR.out]; exact SF.out)
    · have hov : ∀ lb cb, (callFunc 186 #[.slice (some ⟨vb, 0, none⟩) 1 1, .slice (some ⟨b, (i + 1) * 3, none⟩) lb cb]).run Tryz.prog w = .ok (.value (.bool false)) w := fun lb cb => by
        rw [run_callFunc_extern Tryz.func186 (by kernel_rfl) (by kernel_rfl) (by kernel_rfl) (e := Extern.SlicesOverlaps.overlaps #[42, 42] #[4]) (by kernel_rfl),
          Lib.run_overlaps_apart w 42 4 146 Tryz.underlying42 3 Tryz.sizeOf146 ⟨vb, 0, none⟩ ⟨b, (i + 1) * 3, none⟩ 1 1 lb cb hvb T 146 vs.length cur.length (by unfold World.shape?; rw [hv]; simp) (by unfold World.shape?; rw [hcur]; simp) (by omega) (blk_fro hv 0) (blk_fro hv _)]
        rfl
      have hnr : (n : Int) + 1 ≤ (c : Int) := by omega
      have hnr2 : ¬ ((c : Int) < (n : Int) + 1) := by omega
      have hb2 : ¬ (c = i + 1) := by omega
      have hb4 : ¬ (c = i) := by omega
      have hb5 : (i : Int) ≤ (n : Int) + 1 := by omega
      have SS := hidp (spl_shift cur xs vs (i * 3) 3 (n * 3) hxl (by omega) hvl hct (by omega))
      have l1 : (spl cur (i * 3 + 3) (xs.drop (i * 3))).length = c * 3 := by rw [spl_len _ _ _ (by rw [hdl]; omega)]; exact hcs
      have l2 := hidp (show (spl (spl cur (i * 3 + 3) (xs.drop (i * 3))) (i * 3) vs).length = c * 3 by rw [spl_len _ _ _ (by omega)]; exact l1)
      have FL := hidp (show R.length = (n + 1) * (3) by rw [HR.out, List.length_append, List.length_append, List.length_take, hdl]; omega)
      clear hct H
      go_enter Tryz.func157, Tryz.ntmps157
      go_wp2_with (simp only [hov])
      go_region_law ((refine step_copy_blk rfl (.tmp 73) (.tmp 76) 42 42 rfl 146 Tryz.underlying42 3 hsz b ((i + 1) * 3) (n - i) (c - (i + 1)) ⟨b, i * 3, none⟩ (n + 1 - i) (c - i) (by simp [Act.eval, Act.put]) (by simp [Act.eval, Act.put]) (xs.drop (i * 3)) (by rw [hdl]; simp only [Nat.min_def]; split <;> omega) (XC.out _ rfl) 146 cur hcur (by rw [hdl]; omega) D1.out ?_; intro w3 n3 m3 b3))
      all_goals rw [show (i + 1) * 3 = i * 3 + 3 by omega] at n3
      all_goals go_wp2_with (refine wpList_copy_blk rfl (.tmp 80) (.tmp 81) 42 42 rfl 146 Tryz.underlying42 3 hsz b (i * 3) (n + 1 - i) (c - i) ⟨vb, 0, none⟩ 1 1 rfl rfl vs (by rw [hvl]; simp only [Nat.min_def]; split <;> omega) (VC.out _ (m3 vb hvb)) 146 _ n3 (by omega) h1v ?_; intro w4 n4 m4 b4)
      all_goals go_ret
      all_goals refine ⟨_, rfl, ⟨FL.out, .inr ⟨b, c, _, rfl, hB, n4, by omega, by unfold maxLen; omega, ?_, ?_⟩⟩, grown_of ((((Below.refl B w).drew).trans (b3.mono hB)).trans (b4.mono hB)) (fun k _ hne => (m4 k (fun e => hne (by rw [e]))).trans (m3 k (fun e => hne (by rw [e])))), fun g e => .inl e⟩
      all_goals first
        | (rw [List.size_toArray]; have := l2.out; omega)
        | (rw [show (n + 1) * (3) = n * 3 + 3 by omega, HR.out]; exact SS.out)
set_option maxHeartbeats 2000000 in
theorem insr_nil (B vb : Nat) (vs : List Value) (T : TypeId) (w : World) (hB : B ≤ w.heap.size) (hvl : vs.length = 3) (hv : w.heap[vb]? = some (.cells vs.toArray T (0, 0))) (h1v : ∀ v ∈ vs, v.oneCell' = true) :
    Calls Tryz.prog 157 #[.slice none 0 0, .int .i64 0, .slice (some ⟨vb, 0, none⟩) 1 1] w fun e w' => ∃ v', e = .returned v' ∧ w'.ownsRow B 146 3 v' 1 vs ∧ w.grownBy w' none ∧ NearBlk v' none w.heap.size := by
  obtain ⟨i0, hi0, hz0, hz1, hz2⟩ := info_parts info_rule
  have VC := hidp (fun (W : World) (hW : W.heap[vb]? = w.heap[vb]?) j u (hu : vs[j]? = some u) => show W.cell? ((⟨vb, 0, none⟩ : Addr).add j) = some u by
    rw [addr_add0, blk_cell (hW.trans hv)]; exact hu)
  go_enter Tryz.func157, Tryz.ntmps157
  go_wp2_with (at_builtin; refine wpList_append_own_at _ rfl (.tmp 23) (.tmp 24) 42 rfl B 146 i0 (Value.agg #[.string ⟨#[]⟩, .int .i64 0, .int .i64 0]) 3 32 Tryz.underlying42 hi0 hz0 hz1 hz2 rfl (by decide) _ 0 [] rfl (World.ownsRow_nil _ _ _ _) ⟨vb, 0, none⟩ 1 1 vs rfl (by omega) (VC.out _ rfl) h1v (by unfold maxLen; omega) (by omega) hB ?_; intro v1 w1 o1 g1 a1 d1)
  all_goals go_ret
  all_goals exact ⟨_, rfl, o1, g1, fun g e => d1.imp (fun h => h.symm.trans e) (fun h => Nat.le_of_eq (Option.some.inj (h.symm.trans e)))⟩
/-- Whatever slice of the call's own. -/
theorem insr_own (v : Value) (n i B vb : Nat) (xs vs : List Value) (T : TypeId) (w : World) (h : w.ownsRow B 146 3 v n xs) (hB : B ≤ w.heap.size) (hi : i ≤ n) (hn : n ≤ 1000) (hvl : vs.length = 3) (hv : w.heap[vb]? = some (.cells vs.toArray T (0, 0))) (hvb : v.ownBlock ≠ some vb) (h1v : ∀ v ∈ vs, v.oneCell' = true) (h1x : ∀ v ∈ xs, v.oneCell' = true) :
    Calls Tryz.prog 157 #[v, .int .i64 i, .slice (some ⟨vb, 0, none⟩) 1 1] w fun e w' => ∃ v', e = .returned v' ∧ w'.ownsRow B 146 3 v' (n + 1) (xs.take (i * 3) ++ vs ++ xs.drop (i * 3)) ∧ w.grownBy w' v.ownBlock ∧ NearBlk v' v.ownBlock w.heap.size := by
  rcases h.2 with ⟨rfl, rfl⟩ | ⟨g, cp, cu, rfl, r⟩
  · obtain rfl : i = 0 := by omega
    have hx : xs = [] := List.eq_nil_of_length_eq_zero (by have := h.1; omega)
    subst hx
    have := insr_nil B vb vs T w hB hvl hv h1v
    refine this.mono ?_
    rintro e w' ⟨v', rfl, h1, h2⟩
    exact ⟨v', rfl, by simpa using h1, h2⟩
  · exact insr_c g n cp i B vb xs vs T w h hi hn hvl hv (fun e => hvb (by rw [e]; rfl)) h1v h1x
end Go.Proofs.YtgodgfnfaiiohaaGreatDoor

/- Contracts at rules: slices.Clone. -/
namespace Go.Proofs.YtgodgfnfaiiohaaGreatDoor
open Go.ChangeShapes Go.WideShapes Go.ChangeAt Go.RowKit
set_option maxRecDepth 20000
set_option maxHeartbeats 400000 in
theorem cloner_c (a : Option Addr) (n c : Nat) (L : List Rl) (w : World) (h : RulesAt w a n c L) (hn : n < 1000000) :
    Calls Tryz.prog 154 #[.slice a n c] w fun e w' => ∃ v, e = .returned v ∧ w'.ownsRow w.heap.size 146 3 v n (rsV L) ∧ Below w.heap.size w w' := by
  obtain ⟨i0, hi, hz0, hz1, hz2⟩ := info_parts info_rule
  have m := h.max
  have l := h.le
  have hl := h.len
  have qT : ∀ (w : World) (a : Option Addr) (n c n' c' : Nat), (binOp .eql 42 (.slice a n c) (.slice none n' c')).run Tryz.prog w = .ok (.bool a.isNone) w := fun w a n c n' c' => Lib.run_eql_slice_nil w _ _ a n c n' c' Tryz.underlying42
  cases a with
  | none =>
    have hn0 : n = 0 := by
      rcases Nat.eq_zero_or_pos n with hz | hz
      · exact hz
      · obtain ⟨b, o, hb, _⟩ := h.addr0 hz
        cases hb
    subst hn0
    have hx : L = [] := List.eq_nil_of_length_eq_zero hl
    subst hx
    clear h hl
    go_enter Tryz.func154, Tryz.ntmps154
    go_wp2
    go_ret
    exact ⟨_, rfl, World.ownsRow_nil _ _ _ _, Below.refl _ _⟩
  | some x =>
    have hcells : ∀ o j u, (rsV L)[j]? = some u → (w.alloc o).cell? (x.add j) = some u := by
      intro o j u hu
      exact (h.below ((Below.refl _ _).alloc (Nat.le_refl _) o)).cellsAt x rfl j u hu
    have HC := hidp hcells
    have CV := hidp (rsV_len L)
    have CO := hidp (rsV_one L)
    generalize rsV L = vs at *
    clear hcells h
    go_enter Tryz.func154, Tryz.ntmps154
    go_wp2_with (at_builtin; refine wpList_append_own_at _ rfl (.tmp 5) (.tmp 6) 42 rfl w.heap.size 146 i0 (.agg #[.string ⟨#[]⟩, .int .i64 0, .int .i64 0]) 3 32 Tryz.underlying42 hi hz0 hz1 hz2 rfl (by decide) _ 0 [] rfl (World.ownsRow_lit w #[] 0 (Nat.le_refl _) (by unfold maxLen; omega) rfl) x n c vs rfl (by rw [CV.out, hl]) (HC.out _) CO.out (by unfold maxLen; omega) (by omega) (by simp) ?_; intro v1 w1 h1 h2 h3 h4)
    go_ret
    refine ⟨_, rfl, by simpa using h1, ((Below.refl _ _).alloc (Nat.le_refl _) _).grown h2 (by simp) (fun k hk => by cases hk; exact Nat.le_refl _)⟩
end Go.Proofs.YtgodgfnfaiiohaaGreatDoor

/- Contract of board.Put at boards that may be, whatever the rule. -/
namespace Go.Proofs.YtgodgfnfaiiohaaGreatDoor
open Go.ChangeShapes Go.WideShapes Go.ChangeAt Go.RowKit Go.Lib
set_option maxRecDepth 20000
theorem ltc' {W : World} {P i : Nat} {v : Value} (h : W.cell? ⟨P, i, none⟩ = some v) : P < W.heap.size := lt_of_cell h
theorem owns_belowR {w w' : World} {base : Nat} {e : TypeId} {size : Nat} {v : Value} {n : Nat} {xs : List Value} (h : w.ownsRow base e size v n xs) (hb : Below w.heap.size w w') : w'.ownsRow base e size v n xs := by
  refine ⟨h.1, ?_⟩
  rcases h.2 with h0 | ⟨g, cap, cur, hv, hg, hh, r⟩
  · exact .inl h0
  · exact .inr ⟨g, cap, cur, hv, hg, (hb.block g (Array.getElem?_eq_some_iff.1 hh).1).trans hh, r⟩
theorem set3 (a b c : Value) (xs : List Value) (j : Nat) (u : Value) : (a :: b :: c :: xs).set (j + 3) u = a :: b :: c :: xs.set j u := rfl
theorem rsV_set : ∀ (L : List Rl) (i : Nat) (r : Rl), i < L.length → (((rsV L).set (i * 3) (.string r.1)).set (i * 3 + 1) (.int .i64 r.2.1)).set (i * 3 + 2) (.int .i64 r.2.2) = rsV (L.set i r)
  | [], i, _, h => by simp at h
  | p :: l, 0, r, _ => rfl
  | p :: l, i + 1, r, h => by
    have ih := rsV_set l i r (by simpa using h)
    rw [show (i + 1) * 3 = i * 3 + 3 by omega, show i * 3 + 3 + 1 = i * 3 + 1 + 3 by omega, show i * 3 + 3 + 2 = i * 3 + 2 + 3 by omega]
    show (((Value.string p.1 :: Value.int .i64 p.2.1 :: Value.int .i64 p.2.2 :: rsV l).set _ _).set _ _).set _ _ = Value.string p.1 :: Value.int .i64 p.2.1 :: Value.int .i64 p.2.2 :: rsV (l.set i r)
    rw [set3, set3, set3, ih]
theorem rsV_take : ∀ (L : List Rl) (i : Nat), (rsV L).take (i * 3) = rsV (L.take i)
  | [], i => by simp [rsV]
  | p :: l, 0 => rfl
  | p :: l, i + 1 => by
    rw [show (i + 1) * 3 = i * 3 + 1 + 1 + 1 by omega]
    simp only [rsV, List.take_succ_cons]
    rw [rsV_take l i]
theorem rsV_drop : ∀ (L : List Rl) (i : Nat), (rsV L).drop (i * 3) = rsV (L.drop i)
  | [], i => by simp [rsV]
  | p :: l, 0 => rfl
  | p :: l, i + 1 => by
    rw [show (i + 1) * 3 = i * 3 + 1 + 1 + 1 by omega]
    simp only [rsV, List.drop_succ_cons]
    rw [rsV_drop l i]
theorem rsV_ins (L : List Rl) (i : Nat) (r : Rl) : (rsV L).take (i * 3) ++ rlV r ++ (rsV L).drop (i * 3) = rsV (L.take i ++ r :: L.drop i) := by
  rw [rsV_take, rsV_drop, rsV_append, List.append_assoc]; rfl
/-- What Put tells. -/
def putE (L : List Rl) (r : Rl) : Int :=
  if oneE r ≠ 0 then oneE r else if fhas L r.1 = true then (if newer r.2 (rl L (fpos L r.1), re L (fpos L r.1)) = true then 0 else if r.2 = (rl L (fpos L r.1), re L (fpos L r.1)) then 0 else 8) else if L.length = 16 then 2 else 0
def BPost (w : World) (L : List Rl) (r : Rl) (e : Ending) (w' : World) : Prop :=
  ((putE L r = 0 ∧ ∃ v, e = .returned (.tuple #[v, .int .i64 0]) ∧ w'.ownsRow w.heap.size 146 3 v (bput L r).length (rsV (bput L r))) ∨ (putE L r ≠ 0 ∧ e = .returned (.tuple #[.slice none 0 0, .int .i64 (putE L r)]))) ∧ Below w.heap.size w w'
theorem BPost.bad {w w' : World} {L : List Rl} {r : Rl} (x : Int) (h : putE L r = x) (hx : x ≠ 0) (hb : Below w.heap.size w w') : BPost w L r (.returned (.tuple #[.slice none 0 0, .int .i64 x])) w' :=
  ⟨.inr ⟨by rw [h]; exact hx, by rw [h]⟩, hb⟩
set_option maxHeartbeats 8000000 in
theorem bdput_c (a : Option Addr) (n c : Nat) (L : List Rl) (s : ByteArray) (l e : Int) (w : World) (h : RulesAt w a n c L) (ho : BdOk L) :
    Calls Tryz.prog 119 #[.slice a n c, .agg #[.string s, .int .i64 l, .int .i64 e]] w (BPost w L (s, l, e)) := by
  have hl := h.len
  have hn : n ≤ 16 := by have := ho.len; omega
  have hm := h.max
  have hle := h.le
  have CK := hidp (fun W (hB : Below w.heap.size w W) => bdcheck_c a n c L W (h.below hB) ho)
  have ON := hidp (fun W => one_c s l e W)
  have CL := hidp (fun W (hB : Below w.heap.size w W) => cloner_c a n c L W (h.below hB) (by omega))
  have FI := hidp (fun W (hB : Below w.heap.size w W) => zfind_c a n c L s W (h.below hB) ho.srt (by omega))
  have PE := hidp (show putE L (s, l, e) = if oneE (s, l, e) ≠ 0 then oneE (s, l, e) else if fhas L s = true then (if newer (l, e) (rl L (fpos L s), re L (fpos L s)) = true then 0 else if (l, e) = (rl L (fpos L s), re L (fpos L s)) then 0 else 8) else if L.length = 16 then 2 else 0 from rfl)
  have hb0 : Below w.heap.size w (w.alloc (.cells #[.string s, .int .i64 l, .int .i64 e] 146)) := bal (Below.refl _ _) _
  have c0 : (w.alloc (.cells #[.string s, .int .i64 l, .int .i64 e] 146)).cell? ⟨w.heap.size, 0, none⟩ = some (.string s) := by simp
  have c1 : (w.alloc (.cells #[.string s, .int .i64 l, .int .i64 e] 146)).cell? ⟨w.heap.size, 1, none⟩ = some (.int .i64 l) := by simp
  have c2 : (w.alloc (.cells #[.string s, .int .i64 l, .int .i64 e] 146)).cell? ⟨w.heap.size, 2, none⟩ = some (.int .i64 e) := by simp
  by_cases h1 : oneE (s, l, e) = 0
  case neg =>
    have P1 := hidp (show putE L (s, l, e) = oneE (s, l, e) by rw [PE.out, if_pos h1])
    generalize oneE (s, l, e) = x at *
    have hx : (x != 0) = true := by simpa using h1
    have hx2 : (x == 0) = false := by simpa using h1
    have H1 := hidp h1
    clear h1 FI CL PE
    go_enter Tryz.func119, Tryz.ntmps119
    go_wp2_with fail
    refine (CK.out _ hb0).mono ?_
    rintro ee w1 ⟨rfl, hb1⟩
    have p0 := ck hb1 c0
    have p1 := ck hb1 c1
    have p2 := ck hb1 c2
    have B1 := bstep hb0 hb1
    clear c0 c1 c2 hb0 hb1
    go_wp2_with fail
    refine (ON.out _).mono ?_
    rintro ee w2 ⟨rfl, hb2⟩
    have B2 := bstep B1 hb2
    clear p0 p1 p2 B1 hb2
    go_wp2_with fail
    go_ret2
    exact BPost.bad x P1.out H1.out B2
  case pos =>
    have P1 := hidp (show putE L (s, l, e) = if fhas L s = true then (if newer (l, e) (rl L (fpos L s), re L (fpos L s)) = true then 0 else if (l, e) = (rl L (fpos L s), re L (fpos L s)) then 0 else 8) else if L.length = 16 then 2 else 0 by rw [PE.out, if_neg (by omega)])
    have ON2 := hidp (fun W => by have := ON.out W; rw [h1] at this; exact this)
    have FL := hidp (fpos_le s L)
    have BO := hidp (show fhas L s = true → bput L (s, l, e) = if newer (l, e) (rl L (fpos L s), re L (fpos L s)) = true then L.set (fpos L s) (s, l, e) else L from bput_old (s, l, e) L ho.srt)
    have BN := hidp (show fhas L s = false → bput L (s, l, e) = L.take (fpos L s) ++ (s, l, e) :: L.drop (fpos L s) from bput_new (s, l, e) L ho.srt)
    have NW := hidp (fun s' l' e' W => newer_c s s' l e l' e' W)
    clear h1 PE ON h ho
    go_enter Tryz.func119, Tryz.ntmps119
    go_wp2_with fail
    refine (CK.out _ hb0).mono ?_
    rintro ee w1 ⟨rfl, hb1⟩
    have p0 := ck hb1 c0
    have p1 := ck hb1 c1
    have p2 := ck hb1 c2
    have B1 := bstep hb0 hb1
    clear c0 c1 c2 hb0 hb1
    go_wp2_with fail
    refine (ON2.out _).mono ?_
    rintro ee w2 ⟨rfl, hb2⟩
    have c0 := ck hb2 p0
    have c1 := ck hb2 p1
    have c2 := ck hb2 p2
    have B2 := bstep B1 hb2
    clear p0 p1 p2 B1 hb2
    go_wp2_with fail
    refine (CL.out _ B2).mono ?_
    rintro ee w3 ⟨v, rfl, hv, hb3⟩
    have hf := owns_form hv
    obtain ⟨av, cv, rfl, hv1, hv2⟩ := hf
    have p0 := ck hb3 c0
    have p1 := ck hb3 c1
    have p2 := ck hb3 c2
    have B3 := bstep B2 hb3
    have hH := ltc' c0
    have hz3 := hb3.size
    clear c0 c1 c2 hb3
    go_wp2_with fail
    refine (FI.out _ B3).mono ?_
    rintro ee w4 ⟨rfl, hb4⟩
    have c0 := ck hb4 p0
    have c1 := ck hb4 p1
    have c2 := ck hb4 p2
    have B4 := bstep B3 hb4
    have hv4 := owns_belowR hv hb4
    have hz4 := hb4.size
    have hz34 : w2.heap.size ≤ w4.heap.size := Nat.le_trans hz3 hz4
    clear p0 p1 p2 B3 hb4 hv CK ON2 CL FI
    cases hfh : fhas L s with
    | true =>
      have P2 := hidp (show putE L (s, l, e) = if newer (l, e) (rl L (fpos L s), re L (fpos L s)) = true then 0 else if (l, e) = (rl L (fpos L s), re L (fpos L s)) then 0 else 8 by rw [P1.out, if_pos hfh])
      have hfi : fpos L s < n ∧ rp L (fpos L s) = s := by
        unfold fhas at hfh
        simp only [Bool.and_eq_true, decide_eq_true_eq] at hfh
        exact ⟨by rw [← hl]; exact hfh.1, hfh.2⟩
      have BO2 := hidp (BO.out hfh)
      have RS := hidp (fun (hi : fpos L s < n) => show (((rsV L).set (fpos L s * 3) (.string s)).set (fpos L s * 3 + 1) (.int .i64 l)).set (fpos L s * 3 + 2) (.int .i64 e) = rsV (L.set (fpos L s) (s, l, e)) from rsV_set L (fpos L s) (s, l, e) (by omega))
      have RN := hidp (show (L.set (fpos L s) (s, l, e)).length = n by rw [List.length_set]; exact hl)
      clear FL BO BN P1
      obtain ⟨a', cap', he, hRA⟩ := owns_rules hv4
      have hcs := fun (i : Nat) (hi : i < n) => hRA.split
      obtain ⟨g, cp, he2, _⟩ := owns_addr hv4 (by omega)
      simp only [Value.slice.injEq] at he he2
      obtain ⟨rfl, _, rfl⟩ := he
      obtain ⟨rfl, _, rfl⟩ := he2
      obtain ⟨b, off, hbo, hblt, hc⟩ := hRA.cells (by omega)
      simp only [Option.some.injEq, Addr.mk.injEq] at hbo
      obtain ⟨rfl, rfl, _⟩ := hbo
      obtain ⟨x0, x1, x2⟩ := hc _ hfi.1
      rw [hfi.2, Nat.zero_add] at x0
      rw [Nat.zero_add] at x1 x2
      have RS2 := hidp (RS.out hfi.1)
      have hin := hfi.1
      clear hc hcs RS hfi hRA
      generalize fpos L s = i at *
      generalize rl L i = l2 at *
      generalize re L i = e2 at *
      cases hnw : newer (l, e) (l2, e2) with
      | true =>
        have P3 := hidp (show putE L (s, l, e) = 0 by rw [P2.out, if_pos hnw])
        have B3 := hidp (show bput L (s, l, e) = L.set i (s, l, e) by rw [BO2.out, if_pos hnw])
        have N1 := hidp (fun W => NW.out s l2 e2 W)
        rw [hnw] at N1
        clear P2 BO2 NW hnw hfh
        go_wp2_with fail
        go_region_with (go_at_call 156; go_loud (refine Calls.mono (N1.out _) ?_; rintro ee w5 ⟨rfl, hb5⟩; have hbv := bstep (Below.refl w4.heap.size w4).drew hb5; have d0 := ck hbv c0; have d1 := ck hbv c1; have d2 := ck hbv c2; have y0 := ck hbv x0; have y1 := ck hbv x1; have y2 := ck hbv x2; have B5 := bstep B4 hbv; have hv5 := owns_belowR hv4 hbv; have z0 := hv5.frozenAt (i * 3); have z1 := hv5.frozenAt (i * 3 + 1); have z2 := hv5.frozenAt (i * 3 + 2)))
        all_goals go_wp2_with fail
        all_goals go_ret2
        all_goals have hg2 : w.heap.size ≤ g := Nat.le_trans (Nat.le_of_lt hH) (hv5.lt g rfl).1
        all_goals exact ⟨.inl ⟨P3.out, _, rfl, by rw [B3.out, RN.out, ← RS2.out]; exact owns_mono ((((hv5.stored (i * 3) _).1.stored (i * 3 + 1) _).1.stored (i * 3 + 2) _).1) (Nat.le_of_lt hH)⟩, ((B5.setCell (p := ⟨g, i * 3, none⟩) hg2 _).setCell (p := ⟨g, i * 3 + 1, none⟩) hg2 _).setCell (p := ⟨g, i * 3 + 2, none⟩) hg2 _⟩
      | false =>
        have P3 := hidp (show putE L (s, l, e) = if (l, e) = (l2, e2) then 0 else 8 by rw [P2.out, if_neg (by rw [hnw]; simp)])
        have B3 := hidp (show bput L (s, l, e) = L by rw [BO2.out, if_neg (by rw [hnw]; simp)])
        have N1 := hidp (fun W => NW.out s l2 e2 W)
        rw [hnw] at N1
        clear P2 BO2 NW hnw hfh RS2 RN
        by_cases hle2 : l = l2 ∧ e = e2
        · obtain ⟨rfl, rfl⟩ := hle2
          have P4 := hidp (show putE L (s, l, e) = 0 by rw [P3.out, if_pos rfl])
          clear P3
          go_wp2_with fail
          go_region_with (go_at_call 156; go_loud (refine Calls.mono (N1.out _) ?_; rintro ee w5 ⟨rfl, hb5⟩; have hbv := bstep (Below.refl w4.heap.size w4).drew hb5; have d0 := ck hbv c0; have d1 := ck hbv c1; have d2 := ck hbv c2; have y0 := ck hbv x0; have y1 := ck hbv x1; have y2 := ck hbv x2; have B5 := bstep B4 hbv; have hv5 := owns_belowR hv4 hbv))
          all_goals go_wp2_with fail
          all_goals go_quiet (fail)
          all_goals go_wp2_with fail
          all_goals go_ret2
          all_goals exact ⟨.inl ⟨P4.out, _, rfl, by rw [B3.out, hl]; exact owns_mono (owns_belowR hv5 (below_drewN (Below.refl _ _) _)) (Nat.le_of_lt hH)⟩, below_drewN B5 _⟩
        · have P4 := hidp (show putE L (s, l, e) = 8 by rw [P3.out, if_neg (fun h => hle2 ⟨congrArg Prod.fst h, congrArg Prod.snd h⟩)])
          clear P3
          by_cases h5 : l2 = l
          · subst h5
            have n5 : (e2 == e) = false := by rw [beq_eq_false_iff_ne]; exact fun h => hle2 ⟨rfl, h.symm⟩
            clear hle2
            go_wp2_with fail
            go_region_with (go_at_call 156; go_loud (refine Calls.mono (N1.out _) ?_; rintro ee w5 ⟨rfl, hb5⟩; have hbv := bstep (Below.refl w4.heap.size w4).drew hb5; have d0 := ck hbv c0; have d1 := ck hbv c1; have d2 := ck hbv c2; have y0 := ck hbv x0; have y1 := ck hbv x1; have y2 := ck hbv x2; have B5 := bstep B4 hbv))
            all_goals go_wp2_with fail
            all_goals go_quiet (fail)
            all_goals go_wp2_with fail
            all_goals go_ret2
            all_goals exact BPost.bad 8 P4.out (by omega) (below_drewN B5 _)
          · have n5 : (l2 == l) = false := by rw [beq_eq_false_iff_ne]; exact h5
            clear hle2 h5
            go_wp2_with fail
            go_region_with (go_at_call 156; go_loud (refine Calls.mono (N1.out _) ?_; rintro ee w5 ⟨rfl, hb5⟩; have hbv := bstep (Below.refl w4.heap.size w4).drew hb5; have d0 := ck hbv c0; have d1 := ck hbv c1; have d2 := ck hbv c2; have y0 := ck hbv x0; have y1 := ck hbv x1; have y2 := ck hbv x2; have B5 := bstep B4 hbv))
            all_goals go_wp2_with fail
            all_goals go_quiet (fail)
            all_goals go_wp2_with fail
            all_goals go_ret2
            all_goals exact BPost.bad 8 P4.out (by omega) (below_drewN B5 _)
    | false =>
      have P2 := hidp (show putE L (s, l, e) = if L.length = 16 then 2 else 0 by rw [P1.out, hfh]; rfl)
      have BN2 := hidp (BN.out hfh)
      have hfl := FL.out
      rw [hl] at hfl
      have RI := hidp (rsV_ins L (fpos L s) (s, l, e))
      have RL := hidp (show (bput L (s, l, e)).length = n + 1 by rw [BN2.out, List.length_append, List.length_cons, List.length_take, List.length_drop, hl]; omega)
      clear BO BN P1 FL NW hfh
      generalize fpos L s = i at *
      by_cases h16 : n = 16
      · have P3 := hidp (show putE L (s, l, e) = 2 by rw [P2.out, if_pos (by omega)])
        subst h16
        clear P2
        go_wp2_with fail
        go_quiet (fail)
        go_wp2_with fail
        go_quiet (fail)
        go_wp2_with fail
        all_goals go_ret2
        all_goals exact BPost.bad 2 P3.out (by omega) (below_drewN B4 _)
      · have P3 := hidp (show putE L (s, l, e) = 0 by rw [P2.out, if_neg (by omega)])
        clear P2
        have hn16 : ((n : Int) == 16) = false := by rw [beq_eq_false_iff_ne]; omega
        have IN := hidp (fun (W : World) (hB : Below w4.heap.size w4 W) => insr_own (.slice av n cv) n i w2.heap.size W.heap.size (rsV L) (rlV (s, l, e)) 146 (W.alloc (.cells (rlV (s, l, e)).toArray 146)) (owns_belowR hv4 (bal hB _)) (by
          have h1 := hB.size
          have h2 := hz34
          simp; omega) hfl (by omega) rfl (heap_alloc_new W _) (fun h => by
          have h1 := (owns_belowR hv4 hB).lt _ h
          omega) (one_rlV _) (rsV_one L))
        go_wp2_with fail
        go_quiet (fail)
        go_wp2_with fail
        go_quiet (fail)
        generalize hW5 : (w4.drewN _).drewN _ = W5 at *
        have hb5 : Below w4.heap.size w4 W5 := by rw [← hW5]; exact below_drewN (below_drewN (Below.refl _ _) _) _
        have d0 := ck hb5 c0
        have d1 := ck hb5 c1
        have d2 := ck hb5 c2
        clear hW5 c0 c1 c2
        go_wp2_with fail
        refine (IN.out W5 hb5).mono ?_
        rintro ee w6 ⟨v6, rfl, hv6, hg6, hn6⟩
        have hf6 := owns_form hv6
        obtain ⟨a6, c6, rfl, _, _⟩ := hf6
        go_wp2_with fail
        all_goals go_ret2
        have b6 := bstep B4 hb5
        have b7 : Below w.heap.size w w6 := (bal b6 _).grown hg6 (by simp; have := b6.size; omega) (fun k hk => by
          have := (hv4.lt k hk).1
          omega)
        exact ⟨.inl ⟨P3.out, _, rfl, by rw [RL.out, BN2.out, ← RI.out]; exact owns_mono hv6 (Nat.le_of_lt hH)⟩, b7⟩
end Go.Proofs.YtgodgfnfaiiohaaGreatDoor
