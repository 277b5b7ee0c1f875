/- Contract of slices.Insert of one element (a rule) into a slice of the call's own. -/
import Derived.Test.YtdfghgeccannnaaDoorInsKit
import Derived.Test.YtdfghgeccannnaaDoorRules
namespace Go.Proofs.YtdfghgeccannnaaDoor
open Go.ChangeShapes Go.WideShapes Go.ChangeAt Go.RowKit
set_option maxRecDepth 20000
set_option maxHeartbeats 8000000 in
theorem insr_c (b n c i B vb : Nat) (xs vs : List Value) (T : TypeId) (w : World) (h : w.ownsRow B 39 3 (.slice (some ⟨b, 0, none⟩) n c) n xs) (hi : i ≤ n) (hn : n ≤ 1000) (hvl : vs.length = 3) (hv : w.heap[vb]? = some (.cells vs.toArray T (0, 0))) (hvb : vb ≠ b) (h1v : ∀ v ∈ vs, v.oneCell' = true) (h1x : ∀ v ∈ xs, v.oneCell' = true) :
    Calls Tryd.prog 47 #[.slice (some ⟨b, 0, none⟩) n c, .int .i64 i, .slice (some ⟨vb, 0, none⟩) 1 1] w fun e w' => ∃ v', e = .returned v' ∧ w'.ownsRow B 39 3 v' (n + 1) (xs.take (i * 3) ++ vs ++ xs.drop (i * 3)) ∧ w.grownBy w' (some b) ∧ NearBlk v' (some b) w.heap.size := by
  obtain ⟨i0, hi0, hz0, hz1, hz2⟩ := info_parts info_rule
  have hsz : (Tryd.prog.info? 39).map (·.size) = some 3 := by rw [hi0]; simp [hz1]
  obtain ⟨R, hR⟩ : ∃ R, R = xs.take (i * 3) ++ vs ++ xs.drop (i * 3) := ⟨_, rfl⟩
  rw [← hR]
  have HR := hidp hR
  clear hR
  obtain ⟨hxl0, hrow⟩ := h
  have hxl : xs.length = n * 3 := by first | exact hxl0 | simpa using hxl0
  have H := hidp (show w.ownsRow B 39 3 (.slice (some ⟨b, 0, none⟩) n c) n xs from ⟨hxl0, hrow⟩)
  obtain ⟨cur, hB, hcur, hnc, hcm, hcs, hct⟩ : ∃ cur : List Value, B ≤ b ∧ w.heap[b]? = some (.cells cur.toArray 39 (0, 0)) ∧ n ≤ c ∧ c ≤ maxLen ∧ cur.length = c * 3 ∧ cur.take (n * 3) = xs := by
    rcases hrow with ⟨h0, _⟩ | ⟨g, cp, cu, he, hg, hh, h1, h2, h3, h4⟩
    · cases h0
    · simp only [Value.slice.injEq, Option.some.injEq, Addr.mk.injEq] at he
      obtain ⟨⟨rfl, _, _⟩, _, rfl⟩ := he
      exact ⟨cu.toList, hg, by simpa using hh, h1, h2, by simpa using h3, by first | exact h4 | simpa using h4⟩
  clear hrow
  unfold maxLen at hcm
  have hbs : b < w.heap.size := (Array.getElem?_eq_some_iff.1 hcur).1
  have hvs : vb < w.heap.size := (Array.getElem?_eq_some_iff.1 hv).1
  have VC := hidp (fun (W : World) (hW : W.heap[vb]? = w.heap[vb]?) j u (hu : vs[j]? = some u) => show W.cell? ((⟨vb, 0, none⟩ : Addr).add j) = some u by
    rw [addr_add0, blk_cell (hW.trans hv)]; exact hu)
  have XC := hidp (fun (W : World) (hW : W.heap[b]? = w.heap[b]?) j u (hu : (xs.drop (i * 3))[j]? = some u) => show W.cell? ((⟨b, i * 3, none⟩ : Addr).add j) = some u by
    rw [addr_add, blk_cell (hW.trans hcur)]
    rw [List.getElem?_drop, ← hct, List.getElem?_take] at hu
    split at hu
    · exact hu
    · cases hu)
  have hdl : (xs.drop (i * 3)).length = (n - i) * 3 := by simp only [List.length_drop, hxl] <;> omega
  have D1 := hidp (fun v (hv : v ∈ xs.drop (i * 3)) => h1x v (List.mem_of_mem_drop hv))
  by_cases hin : i = n
  · subst hin
    have hT := hidp (show R = xs ++ vs by rw [HR.out, List.take_of_length_le (by omega), List.drop_of_length_le (by omega), List.append_nil])
    clear hdl hct hcur hcs
    go_enter Tryd.func47, Tryd.ntmps47
    go_wp2_with (at_builtin; refine wpList_append_own_at _ rfl (.tmp 23) (.tmp 24) 24 rfl B 39 i0 (Value.agg #[.string ⟨#[]⟩, .int .i64 0, .int .i64 0]) 3 32 Tryd.underlying24 hi0 hz0 hz1 hz2 rfl (by decide) _ i xs rfl H.out ⟨vb, 0, none⟩ 1 1 vs rfl (by omega) (VC.out _ rfl) h1v (by unfold maxLen; omega) (by omega) (by omega) ?_; intro v1 w1 o1 g1 a1 d1)
    all_goals go_ret
    all_goals exact ⟨_, rfl, by rw [hT.out]; exact o1, g1, fun g e => d1.imp (fun h => h.symm.trans e) (fun h => Nat.le_of_eq (Option.some.inj (h.symm.trans e)))⟩
  · have hlt : i < n := by omega
    have hne : ¬ ((i : Int) = (n : Int)) := by omega
    have hw1 : IntKind.i64.wrap ((i : Int) + 1) = (i : Int) + 1 := by rw [IntKind.wrap_i64]; omega
    have ht1 : ((i : Int) + 1).toNat = i + 1 := by omega
    have hb1 : (0 : Int) ≤ (i : Int) + 1 := by omega
    have hb3 : (i : Int) ≤ (n : Int) := by omega
    by_cases hroom : c < n + 1
    · have hz3 : (c : Int) < (n : Int) + 1 := by omega
      have hkk : (n : Int) + 1 - (i : Int) = ((n + 1 - i : Nat) : Int) := by omega
      have hik : i + (n + 1 - i) = n + 1 := by omega
      have hold : (Builtin.firstCells i0.size i (.slice (some ⟨b, 0, none⟩) i c)).run Tryd.prog w.drew = .ok (xs.take (i * 3)).toArray w.drew := by
        rw [hz1]
        exact run_firstCells_some w.drew 3 i ⟨b, 0, none⟩ i c (xs.take (i * 3)) (by rw [List.length_take]; omega) (fun j v hj => by
          rw [addr_add0]
          show w.cell? ⟨b, j, none⟩ = _
          rw [blk_cell hcur]
          rw [List.getElem?_take] at hj
          split at hj
          · rw [← hct, List.getElem?_take] at hj
            split at hj
            · exact hj
            · cases hj
          · cases hj)
      have hrz : ∀ ty, (Builtin.append_ #[24, 3] ty #[.slice (some ⟨b, 0, none⟩) i c, .int .i64 ((n : Int) + 1 - (i : Int))]).run Tryd.prog w =
          .ok (.slice (some ⟨w.heap.size, 0, none⟩) (n + 1) (grownCap w (n + 1) c 39)) (w.drew.alloc (.cells ((xs.take (i * 3)).toArray ++ Builtin.zeroCells ((Value.agg #[.string ⟨#[]⟩, .int .i64 0, .int .i64 0])).cells (n + 1 - i) ++ Builtin.zeroCells ((Value.agg #[.string ⟨#[]⟩, .int .i64 0, .int .i64 0])).cells (grownCap w (n + 1) c 39 - (n + 1))) 39)) := fun ty => by
        have h := Lib.run_append_grow_zeros w 24 3 ty 39 i0 _ .i64 .i64 Tryd.underlying24 Tryd.underlying3 hi0 hz0 (some ⟨b, 0, none⟩) i c (xs.take (i * 3)) hold (n + 1 - i) (by omega) (by omega) (by omega) (by omega) (by rw [hz2]; omega) (by rw [hz2, hik]; exact growslice_fits hroom (by omega))
        rw [hik] at h
        rw [hkk]
        exact h
      obtain ⟨G, hG⟩ : ∃ G, G = grownCap w (n + 1) c 39 := ⟨_, rfl⟩
      have hGn : n + 1 ≤ G := by rw [hG]; exact grownCap_ge w _ _ _
      have hG63 : G ≤ 9223372036854775807 := by
        have := grownCap_le_maxLen w (n + 1) c 39 (by unfold maxLen; omega)
        rw [← hG] at this
        unfold maxLen at this
        omega
      obtain ⟨Z, hZ⟩ : ∃ Z : List Value, Z = (Builtin.zeroCells ((Value.agg #[.string ⟨#[]⟩, .int .i64 0, .int .i64 0])).cells (n + 1 - i) ++ Builtin.zeroCells ((Value.agg #[.string ⟨#[]⟩, .int .i64 0, .int .i64 0])).cells (G - (n + 1))).toList := ⟨_, rfl⟩
      have hZl : Z.length = (n + 1 - i) * 3 + (G - (n + 1)) * 3 := by
        rw [hZ]; simp [Builtin.zeroCells, Value.cells]
      have hROW : (xs.take (i * 3)).toArray ++ Builtin.zeroCells ((Value.agg #[.string ⟨#[]⟩, .int .i64 0, .int .i64 0])).cells (n + 1 - i) ++ Builtin.zeroCells ((Value.agg #[.string ⟨#[]⟩, .int .i64 0, .int .i64 0])).cells (G - (n + 1)) = (xs.take (i * 3) ++ Z).toArray := by
        rw [hZ]
        simp [Array.append_assoc]
      rw [← hG, hROW] at hrz
      have htl : (xs.take (i * 3)).length = i * 3 := by rw [List.length_take]; omega
      have hrl : (xs.take (i * 3) ++ Z).length = G * 3 := by rw [List.length_append, htl, hZl]; omega
      have SF := hidp (spl_fresh Z xs vs (i * 3) 3 (n * 3) hxl (by omega) hvl (by omega))
      have LN := hidp (fun (D : List Value) (hD : D = xs.drop (i * 3)) => show (spl (spl (xs.take (i * 3) ++ Z) (i * 3) vs) (i * 3 + 3) D).length = G * 3 by
        have e1 := spl_len (xs.take (i * 3) ++ Z) (i * 3) vs (by omega)
        rw [spl_len _ _ _ (by rw [e1, hD, hdl]; omega), e1, hrl])
      have hfin : (spl (xs.take (i * 3) ++ Z) (i * 3) vs).length = G * 3 := by rw [spl_len _ _ _ (by omega), hrl]
      have FL := hidp (show R.length = (n + 1) * (3) by rw [HR.out, List.length_append, List.length_append, htl, hdl]; omega)
      obtain ⟨W1, hW1⟩ : ∃ W1, W1 = w.drew.alloc (.cells (xs.take (i * 3) ++ Z).toArray 39) := ⟨_, rfl⟩
      have n1 : W1.heap[w.heap.size]? = some (.cells (xs.take (i * 3) ++ Z).toArray 39 (0, 0)) := by rw [hW1]; exact heap_alloc_new w.drew _
      have o1 : ∀ k, k < w.heap.size → W1.heap[k]? = w.heap[k]? := fun k hk => by rw [hW1]; exact Below.heap_alloc w.drew _ _ hk
      have b1 : Below B w W1 := by rw [hW1]; exact (Below.refl B w).drew.alloc (by show B ≤ w.heap.size; omega) _
      rw [← hW1] at hrz
      have RZ := hidp hrz
      clear hxl0 hrz hold hkk hik hROW hZ hG hW1 hct hcs hxl H
      have hGi : ¬ (G = i) := by omega
      have hGim : ¬ (G = i + 1) := by omega
      have hci : ¬ (c = i) := by omega
      go_enter Tryd.func47, Tryd.ntmps47
      go_wp2_with (first
        | (at_builtin; refine Lib.wpList_append_run _ rfl _ _ _ _ rfl _ _ rfl rfl _ _ (RZ.out _) ?_)
        | (refine wpList_copy_blk rfl (.tmp 43) (.tmp 44) 24 24 rfl 39 Tryd.underlying24 3 hsz w.heap.size (i * 3) (n + 1 - i) (G - i) ⟨vb, 0, none⟩ 1 1 rfl rfl vs (by rw [hvl]; simp only [Nat.min_def]; split <;> omega) (VC.out _ (o1 vb hvs)) 39 _ n1 (by omega) h1v ?_; intro w2 n2 m2 b2))
      have hs1 : w.heap.size + 1 ≤ W1.heap.size := by have := (Array.getElem?_eq_some_iff.1 n1).1; omega
      have k2 : ∀ k, k < w.heap.size → w2.heap[k]? = w.heap[k]? := fun k hk => (b2.block k hk).trans (o1 k hk)
      go_region_law ((refine step_copy_blk rfl (.tmp 50) (.tmp 53) 24 24 rfl 39 Tryd.underlying24 3 hsz w.heap.size ((i + 1) * 3) (n - i) (G - (i + 1)) ⟨b, i * 3, none⟩ (n - i) (c - i) (by simp [Act.eval, Act.put]) (by simp [Act.eval, Act.put]) (xs.drop (i * 3)) (by rw [hdl]; simp only [Nat.min_def]; split <;> omega) (XC.out _ (k2 b hbs)) 39 _ n2 (by rw [hfin, hdl]; omega) D1.out ?_; intro w3 n3 m3 b3))
      all_goals go_wp2
      all_goals go_ret
      all_goals have e3 : (i + 1) * 3 = i * 3 + 3 := by omega
      all_goals rw [e3] at n3
      all_goals refine ⟨_, rfl, ⟨FL.out, .inr ⟨w.heap.size, G, _, rfl, by omega, n3, hGn, by unfold maxLen; omega, ?_, ?_⟩⟩, grown_of (((b1.trans (b2.mono (by omega))).drew).trans (b3.mono (by omega))) (fun k hk _ => (b3.block k hk).trans (k2 k hk)), fun g e => .inr (Nat.le_of_eq (Option.some.inj e))⟩
      all_goals first
        | (rw [List.size_toArray]; have := LN.out _ rfl; omega)
        | (rw [show (n + 1) * (3) = n * 3 + 3 by omega, HR.out]; exact SF.out)
    · have hov : ∀ lb cb, (callFunc 62 #[.slice (some ⟨vb, 0, none⟩) 1 1, .slice (some ⟨b, (i + 1) * 3, none⟩) lb cb]).run Tryd.prog w = .ok (.value (.bool false)) w := fun lb cb => by
        rw [run_callFunc_extern Tryd.func62 (by kernel_rfl) (by kernel_rfl) (by kernel_rfl) (e := Extern.SlicesOverlaps.overlaps #[24, 24] #[4]) (by kernel_rfl),
          Lib.run_overlaps_apart w 24 4 39 Tryd.underlying24 3 Tryd.sizeOf39 ⟨vb, 0, none⟩ ⟨b, (i + 1) * 3, none⟩ 1 1 lb cb hvb T 39 vs.length cur.length (by unfold World.shape?; rw [hv]; simp) (by unfold World.shape?; rw [hcur]; simp) (by omega) (blk_fro hv 0) (blk_fro hv _)]
        rfl
      have hnr : (n : Int) + 1 ≤ (c : Int) := by omega
      have hnr2 : ¬ ((c : Int) < (n : Int) + 1) := by omega
      have hb2 : ¬ (c = i + 1) := by omega
      have hb4 : ¬ (c = i) := by omega
      have hb5 : (i : Int) ≤ (n : Int) + 1 := by omega
      have SS := hidp (spl_shift cur xs vs (i * 3) 3 (n * 3) hxl (by omega) hvl hct (by omega))
      have l1 : (spl cur (i * 3 + 3) (xs.drop (i * 3))).length = c * 3 := by rw [spl_len _ _ _ (by rw [hdl]; omega)]; exact hcs
      have l2 := hidp (show (spl (spl cur (i * 3 + 3) (xs.drop (i * 3))) (i * 3) vs).length = c * 3 by rw [spl_len _ _ _ (by omega)]; exact l1)
      have FL := hidp (show R.length = (n + 1) * (3) by rw [HR.out, List.length_append, List.length_append, List.length_take, hdl]; omega)
      clear hct H
      go_enter Tryd.func47, Tryd.ntmps47
      go_wp2_with (simp only [hov])
      go_region_law ((refine step_copy_blk rfl (.tmp 73) (.tmp 76) 24 24 rfl 39 Tryd.underlying24 3 hsz b ((i + 1) * 3) (n - i) (c - (i + 1)) ⟨b, i * 3, none⟩ (n + 1 - i) (c - i) (by simp [Act.eval, Act.put]) (by simp [Act.eval, Act.put]) (xs.drop (i * 3)) (by rw [hdl]; simp only [Nat.min_def]; split <;> omega) (XC.out _ rfl) 39 cur hcur (by rw [hdl]; omega) D1.out ?_; intro w3 n3 m3 b3))
      all_goals rw [show (i + 1) * 3 = i * 3 + 3 by omega] at n3
      all_goals go_wp2_with (refine wpList_copy_blk rfl (.tmp 80) (.tmp 81) 24 24 rfl 39 Tryd.underlying24 3 hsz b (i * 3) (n + 1 - i) (c - i) ⟨vb, 0, none⟩ 1 1 rfl rfl vs (by rw [hvl]; simp only [Nat.min_def]; split <;> omega) (VC.out _ (m3 vb hvb)) 39 _ n3 (by omega) h1v ?_; intro w4 n4 m4 b4)
      all_goals go_ret
      all_goals refine ⟨_, rfl, ⟨FL.out, .inr ⟨b, c, _, rfl, hB, n4, by omega, by unfold maxLen; omega, ?_, ?_⟩⟩, grown_of ((((Below.refl B w).drew).trans (b3.mono hB)).trans (b4.mono hB)) (fun k _ hne => (m4 k (fun e => hne (by rw [e]))).trans (m3 k (fun e => hne (by rw [e])))), fun g e => .inl e⟩
      all_goals first
        | (rw [List.size_toArray]; have := l2.out; omega)
        | (rw [show (n + 1) * (3) = n * 3 + 3 by omega, HR.out]; exact SS.out)
set_option maxHeartbeats 2000000 in
theorem insr_nil (B vb : Nat) (vs : List Value) (T : TypeId) (w : World) (hB : B ≤ w.heap.size) (hvl : vs.length = 3) (hv : w.heap[vb]? = some (.cells vs.toArray T (0, 0))) (h1v : ∀ v ∈ vs, v.oneCell' = true) :
    Calls Tryd.prog 47 #[.slice none 0 0, .int .i64 0, .slice (some ⟨vb, 0, none⟩) 1 1] w fun e w' => ∃ v', e = .returned v' ∧ w'.ownsRow B 39 3 v' 1 vs ∧ w.grownBy w' none ∧ NearBlk v' none w.heap.size := by
  obtain ⟨i0, hi0, hz0, hz1, hz2⟩ := info_parts info_rule
  have VC := hidp (fun (W : World) (hW : W.heap[vb]? = w.heap[vb]?) j u (hu : vs[j]? = some u) => show W.cell? ((⟨vb, 0, none⟩ : Addr).add j) = some u by
    rw [addr_add0, blk_cell (hW.trans hv)]; exact hu)
  go_enter Tryd.func47, Tryd.ntmps47
  go_wp2_with (at_builtin; refine wpList_append_own_at _ rfl (.tmp 23) (.tmp 24) 24 rfl B 39 i0 (Value.agg #[.string ⟨#[]⟩, .int .i64 0, .int .i64 0]) 3 32 Tryd.underlying24 hi0 hz0 hz1 hz2 rfl (by decide) _ 0 [] rfl (World.ownsRow_nil _ _ _ _) ⟨vb, 0, none⟩ 1 1 vs rfl (by omega) (VC.out _ rfl) h1v (by unfold maxLen; omega) (by omega) hB ?_; intro v1 w1 o1 g1 a1 d1)
  all_goals go_ret
  all_goals exact ⟨_, rfl, o1, g1, fun g e => d1.imp (fun h => h.symm.trans e) (fun h => Nat.le_of_eq (Option.some.inj (h.symm.trans e)))⟩
/-- Whatever slice of the call's own. -/
theorem insr_own (v : Value) (n i B vb : Nat) (xs vs : List Value) (T : TypeId) (w : World) (h : w.ownsRow B 39 3 v n xs) (hB : B ≤ w.heap.size) (hi : i ≤ n) (hn : n ≤ 1000) (hvl : vs.length = 3) (hv : w.heap[vb]? = some (.cells vs.toArray T (0, 0))) (hvb : v.ownBlock ≠ some vb) (h1v : ∀ v ∈ vs, v.oneCell' = true) (h1x : ∀ v ∈ xs, v.oneCell' = true) :
    Calls Tryd.prog 47 #[v, .int .i64 i, .slice (some ⟨vb, 0, none⟩) 1 1] w fun e w' => ∃ v', e = .returned v' ∧ w'.ownsRow B 39 3 v' (n + 1) (xs.take (i * 3) ++ vs ++ xs.drop (i * 3)) ∧ w.grownBy w' v.ownBlock ∧ NearBlk v' v.ownBlock w.heap.size := by
  rcases h.2 with ⟨rfl, rfl⟩ | ⟨g, cp, cu, rfl, r⟩
  · obtain rfl : i = 0 := by omega
    have hx : xs = [] := List.eq_nil_of_length_eq_zero (by have := h.1; omega)
    subst hx
    have := insr_nil B vb vs T w hB hvl hv h1v
    refine this.mono ?_
    rintro e w' ⟨v', rfl, h1, h2⟩
    exact ⟨v', rfl, by simpa using h1, h2⟩
  · exact insr_c g n cp i B vb xs vs T w h hi hn hvl hv (fun e => hvb (by rw [e]; rfl)) h1v h1x
end Go.Proofs.YtdfghgeccannnaaDoor
