/- Merged: GrowL, ConcatL. -/
import Derived.Shelf.Spec.SlicesGrow
import Derived.Test.YtffocoflmbhknaaMgKit
import Derived.Deep.LoopGhost
import Derived.Laws.AppendOwnNone
/- Contract of slices.Grow at a nil slice of slices of integers. (The laying of the library's contract: as the shelf's plain mode writes it.) -/
namespace Go.Proofs.Ytffocoflmbhknaa
open Go.ChangeShapes Go.WideShapes Go.ChangeAt Go.RowKit
set_option maxRecDepth 20000
open Go.Shelf

def growRenL : Go.Shelf.Ren := ⟨fun | 4 => 43 | n => n, fun | 22 => 25 | 25 => 53 | 3 => 3 | 4 => 4 | 9 => 9 | 20 => 20 | 0 => 0 | n => n, fun | n => n⟩
theorem growLaysL : Go.Proofs.Lays8.n4 Try.prog growRenL := {
  mixed := by kernel_rfl
  f4 := ⟨Try.f43.name, by decide, Try.func43.trans (congrArg some (by kernel_rfl))⟩
  t0 := Try.underlying0
  a0 := Try.isAgg0
  z0 := Try.sizeOf0
  v0 := Try.zeroValue0
  t3 := Try.underlying3
  a3 := Try.isAgg3
  z3 := Try.sizeOf3
  v3 := Try.zeroValue3
  t4 := Try.underlying4
  a4 := Try.isAgg4
  z4 := Try.sizeOf4
  v4 := Try.zeroValue4
  t9 := Try.underlying9
  a9 := Try.isAgg9
  z9 := Try.sizeOf9
  v9 := Try.zeroValue9
  t20 := Try.underlying20
  a20 := Try.isAgg20
  z20 := Try.sizeOf20
  v20 := Try.zeroValue20
  t22 := Try.underlying25
  a22 := Try.isAgg25
  z22 := Try.sizeOf25
  v22 := Try.zeroValue25 }
theorem info_sl : (Try.prog.info? 53).map (fun i => (i.zero, i.size, i.bytes)) = some (some (.slice none 0 0), 1, 24) := by kernel_rfl
theorem growl_c (n : Nat) (hn1 : 1 ≤ n) (hn : n ≤ 100000000) (w : World) :
    Calls Try.prog 43 #[.slice none 0 0, .int .i64 n] w fun e w' => ∃ v, e = .returned v ∧ w'.ownsRow w.heap.size 53 1 v 0 [] ∧ Below w.heap.size w w' := by
  obtain ⟨i0, hi, hz0, hz1, hz2⟩ := info_parts info_sl
  refine (Any8.slices_Grow_grow growLaysL i0 (.slice none 0 0) hi hz0 (by rw [hz1]; omega) none 0 0 n [] w (by omega) (by omega) (by rw [hz2]; omega) (by omega) (by simp) (fun _ => rfl) (fun a h => by cases h)).mono ?_
  rintro e w' ⟨rfl, rfl⟩
  refine ⟨_, rfl, ⟨rfl, .inr ⟨w.heap.size, _, _, rfl, Nat.le_refl _, heap_alloc_new w.drew _, Nat.zero_le _, grownCap_le_maxLen w (0 + n) 0 _ (by unfold maxLen; omega), ?_, ?_⟩⟩, (Below.refl _ _).drew.alloc (by simp) _⟩
  · have hge := grownCap_ge w (0 + n) 0 (growRenL.t 25)
    rw [Nat.zero_add] at hge ⊢
    simp only [Array.size_append, List.size_toArray, size_zeroCells, List.length_nil]
    show 0 + (n - 0) * 1 + (grownCap w n 0 (growRenL.t 25) - n) * 1 = grownCap w n 0 (growRenL.t 25) * 1
    omega
  · simp
theorem growl_zero (w : World) :
    Calls Try.prog 43 #[.slice none 0 0, .int .i64 0] w fun e w' => ∃ v, e = .returned v ∧ w'.ownsRow w.heap.size 53 1 v 0 [] ∧ Below w.heap.size w w' := by
  go_enter Try.func43, Try.ntmps43
  go_wp2
  go_ret
  exact ⟨_, rfl, World.ownsRow_nil _ _ _ _, Below.refl _ _⟩
end Go.Proofs.Ytffocoflmbhknaa

/- Contract of slices.Concat at slices of slices of integers. -/
namespace Go.Proofs.Ytffocoflmbhknaa
open Go.ChangeShapes Go.WideShapes Go.ChangeAt Go.RowKit
set_option maxRecDepth 20000

/-- A slice of values of one cell each. -/
structure VRow (w : World) (a : Option Addr) (n : Nat) (vs : List Value) : Prop where
  len : vs.length = n
  cells : CellsAt w a vs
  one : ∀ u ∈ vs, u.oneCell' = true
theorem VRow.below {w w' : World} {a : Option Addr} {n : Nat} {vs : List Value} (h : VRow w a n vs) (hb : Below w.heap.size w w') : VRow w' a n vs := ⟨h.len, h.cells.below hb, h.one⟩
/-- The rows of a slice of slices: where they lie, how long they are, what they hold. -/
structure RwsL (w : World) (B O K : Nat) (ra : Nat → Option Addr) (rn rc : Nat → Nat) (rx : Nat → List Value) : Prop where
  lt : B < w.heap.size
  cell : ∀ i, i < K → w.cell? ⟨B, O + i, none⟩ = some (.slice (ra i) (rn i) (rc i))
  row : ∀ i, i < K → VRow w (ra i) (rn i) (rx i)
theorem RwsL.below {w w' : World} {B O K : Nat} {ra : Nat → Option Addr} {rn rc : Nat → Nat} {rx : Nat → List Value} (h : RwsL w B O K ra rn rc rx) (hb : Below w.heap.size w w') : RwsL w' B O K ra rn rc rx :=
  ⟨Nat.lt_of_lt_of_le h.lt hb.size, fun i hi => (hb.cell (p := ⟨B, O + i, none⟩) h.lt).trans (h.cell i hi), fun i hi => (h.row i hi).below hb⟩
def catV (rx : Nat → List Value) : Nat → List Value
  | 0 => []
  | k + 1 => catV rx k ++ rx k
def sumL (rn : Nat → Nat) : Nat → Nat
  | 0 => 0
  | k + 1 => sumL rn k + rn k
theorem catV_len (rx : Nat → List Value) (rn : Nat → Nat) : ∀ k, (∀ i, i < k → (rx i).length = rn i) → (catV rx k).length = sumL rn k
  | 0, _ => rfl
  | k + 1, h => by simp only [catV, sumL]; rw [List.length_append, catV_len rx rn k (fun i hi => h i (by omega)), h k (by omega)]
theorem sumL_mono (rn : Nat → Nat) (k : Nat) : ∀ d, sumL rn k ≤ sumL rn (k + d)
  | 0 => Nat.le_refl _
  | d + 1 => Nat.le_trans (sumL_mono rn k d) (by show _ ≤ sumL rn (k + d) + rn (k + d); omega)
theorem sumL_le (rn : Nat → Nat) (k K : Nat) (h : k ≤ K) : sumL rn k ≤ sumL rn K := by
  have := sumL_mono rn k (K - k)
  rwa [show k + (K - k) = K by omega] at this
/-- To append nothing, whatever the nil slice's cap is said to be. -/
theorem append_nothingL {P : Program} {w : World} {ops : Array Oper} {rest : List Oper} {o : Oper} {a : Act} {Q : Exit → Act → World → Prop} (hgd : o.guard = none) (s x : Operand) (t : TypeId)
    (ho : o.op = .call { callee := .builtin .append, args := #[s, x], argTypes := #[t, t] })
    (base : Nat) (e : TypeId) (i : TypeInfo) (size c : Nat) (ht : P.underlying t = some (.slice e)) (hi : P.info? e = some i)
    (v : Value) (n : Nat) (xs : List Value) (hs : a.eval s = v) (hown : w.ownsRow base e size v n xs) (hx : a.eval x = .slice none 0 c)
    (h : wpList P ops Q rest (a.put o.dst v) w) : wpList P ops Q (o :: rest) a w := by
  have hrun : (Builtin.append_ #[t, t] o.type #[v, .slice none 0 c]).run P w = .ok v w := by
    rcases hown.2 with ⟨rfl, rfl⟩ | ⟨g, cap, cur, rfl, _, _, hnc, _⟩
    · simp [Builtin.append_, run_underlying ht, sizeOf, typeInfo, hi, Builtin.lenOf, Builtin.firstCells]
    · simp [Builtin.append_, run_underlying ht, sizeOf, typeInfo, hi, Builtin.lenOf, Builtin.firstCells, hnc, storeCells]
  refine wpList_plain hgd fun K hK => ?_
  unfold Oper.wp
  simp [execOp, ho, resolve, invoke, builtin, hs, hx, hrun, Result.andThen]
  exact hK _ _ h
set_option maxHeartbeats 8000000 in
theorem concatl_c (B O K C : Nat) (ra : Nat → Option Addr) (rn rc : Nat → Nat) (rx : Nat → List Value) (w : World) (h : RwsL w B O K ra rn rc rx) (hK : K ≤ C) (hC : C ≤ 9223372036854775807) (hT : sumL rn K ≤ 50000000) :
    Calls Try.prog 19 #[.slice (some ⟨B, O, none⟩) K C] w fun e w' => ∃ v, e = .returned v ∧ w'.ownsRow w.heap.size 53 1 v (sumL rn K) (catV rx K) ∧ Below w.heap.size w w' := by
  obtain ⟨ib, hib, hz0, hz1, hz2⟩ := info_parts info_sl
  have H := hidp h
  have SL := hidp (sumL_le rn)
  have CL := hidp (fun k (hk : k ≤ K) => catV_len rx rn k (fun i hi => (h.row i (by omega)).len))
  have GC := hidp (show ∀ W : World, Calls Try.prog 43 #[.slice none 0 0, .int .i64 (sumL rn K : Nat)] W fun e w' => ∃ v, e = .returned v ∧ w'.ownsRow W.heap.size 53 1 v 0 [] ∧ Below W.heap.size W w' from fun W => by
    rcases Nat.eq_zero_or_pos (sumL rn K) with e | e
    · rw [e]; exact growl_zero W
    · exact growl_c (sumL rn K) e (by omega) W)
  clear h
  go_enter Try.func19, Try.ntmps19
  go_wp2_with fail
  go_loop [3, 11] (fun s i => ∃ k : Nat, k ≤ K ∧ i = .int .i64 k ∧ s = .int .i64 (sumL rn k : Nat)) (fun _ i => K - (intOf i).toNat)
  case atStart => exact ⟨0, by omega, rfl, rfl⟩
  case round =>
    obtain ⟨k, hk, rfl, rfl⟩ := hrel
    by_cases hlt : k < K
    · have q := H.out.cell k hlt
      have E := hidp (show sumL rn (k + 1) = sumL rn k + rn k from rfl)
      have l1 := SL.out k K hk
      have l2 := SL.out (k + 1) K (by omega)
      rw [E.out] at l2
      generalize sumL rn k = S at *
      generalize rn k = R at *
      go_wp2_with fail
      go_round
      case rel => exact ⟨k + 1, by omega, by go_num, v_int (by rw [E.out]; omega)⟩
      case measure => simp [intOf]; omega
    · obtain rfl : k = K := by omega
      obtain ⟨T, hTe⟩ : ∃ T, T = sumL rn k := ⟨_, rfl⟩
      rw [← hTe] at GC hT
      rw [← hTe]
      have HTE := hidp hTe
      clear hTe
      go_wp2_with fail
      refine (GC.out _).mono ?_
      rintro e wa ⟨v, rfl, hv, hba⟩
      go_wp2_with fail
      go_loopg [6, 27] k (fun gg v i wr => ∃ t : Nat, t ≤ k ∧ k - t ≤ gg ∧ i = .int .i64 t ∧ wr.ownsRow w.heap.size 53 1 v (sumL rn t) (catV rx t) ∧ Below w.heap.size w wr)
      case atStart => exact ⟨0, by omega, by omega, rfl, hv, hba⟩
      case round =>
        obtain ⟨t, ht, hgt, rfl, hu, hbl⟩ := hrel
        by_cases hlt2 : t < k
        · have HR := H.out.below hbl
          have q := HR.cell t hlt2
          have row := HR.row t hlt2
          have l2 := SL.out (t + 1) k (by omega)
          have E := hidp (show sumL rn (t + 1) = sumL rn t + rn t from rfl)
          rw [E.out, ← HTE.out] at l2
          have E2 := hidp (show catV rx (t + 1) = catV rx t ++ rx t from rfl)
          have rl := row.len
          cases hra : ra t with
          | none =>
            have h0 : rn t = 0 := by
              rcases Nat.eq_zero_or_pos (rn t) with e | e
              · exact e
              · obtain ⟨b, o, hb, _⟩ := row.cells (fun e2 => by have := row.len; rw [e2] at this; simp at this; omega)
                rw [hra] at hb; cases hb
            have hx0 : rx t = [] := List.eq_nil_of_length_eq_zero (by rw [rl, h0])
            rw [hra, h0] at q
            rw [h0] at E l2
            rw [hx0] at E2
            clear row hra rl HR h0 hx0
            generalize hS : sumL rn t = S at *
            clear hS
            go_wp2_with (at_builtin; refine append_nothingL rfl (.tmp 31) (.tmp 32) 25 rfl w.heap.size 53 ib 1 _ Try.underlying25 hib _ S _ rfl hu rfl ?_)
            go_roundg (k - (t + 1))
            case measure => omega
            case rel => exact ⟨t + 1, by omega, by omega, by go_num, by rw [E.out, E2.out, List.append_nil]; exact hu, hbl⟩
          | some x =>
            rw [hra] at q
            have CELLS := hidp (fun j u (hu : (rx t)[j]? = some u) => show wr.cell? (x.add j) = some u by
              obtain ⟨b, o, hb, _, hc⟩ := row.cells (fun e2 => by rw [e2] at hu; simp at hu)
              rw [hra] at hb
              obtain rfl := Option.some.inj hb
              rw [addr_add]; exact hc j u hu)
            have ONE := hidp row.one
            have RL := hidp (show (rx t).length = rn t * 1 by rw [rl, Nat.mul_one])
            clear row hra rl HR
            generalize hS : sumL rn t = S at *
            generalize hRr : rn t = R at *
            clear hS hRr
            go_wp2_with (at_builtin; refine wpList_append_own_at _ rfl (.tmp 31) (.tmp 32) 25 rfl w.heap.size 53 ib (.slice none 0 0) 1 24 Try.underlying25 hib hz0 hz1 hz2 rfl (by decide) _ S _ rfl hu x R _ (rx t) rfl RL.out CELLS.out ONE.out (by unfold maxLen; omega) (by omega) hbl.size ?_; intro v1 w1 h1 h2 h3 h4)
            go_roundg (k - (t + 1))
            case measure => omega
            case rel => exact ⟨t + 1, by omega, by omega, by go_num, by rw [E.out, E2.out]; exact h1, append_step hu hbl (Nat.le_refl _) h2⟩
        · obtain rfl : t = k := by omega
          go_wp2
          go_ret
          rw [HTE.out]
          exact ⟨_, rfl, hu, hbl⟩
/-- The values of a slice of rows. -/
theorem rows_values {w : World} {a : Option Addr} {n cap : Nat} {xs : List (List Int)} (h : RowsAt w a n cap xs) : ∃ vs : List Value, VRow w a n vs ∧ ∀ i, i < n → ∃ ai ni ci, vs[i]? = some (.slice ai ni ci) ∧ IntsAt w ai ni ci (gl xs i) := by
  rcases Nat.eq_zero_or_pos n with h0 | h0
  · exact ⟨[], ⟨by simp [h0], fun e => absurd rfl e, fun u hu => by simp at hu⟩, fun i hi => by omega⟩
  · obtain ⟨b, off, rfl, hlt, hc⟩ := h.cells h0
    have hg : ∀ i, i < n → ((List.range n).map (fun i => (w.cell? ⟨b, off + i, none⟩).getD undef))[i]? = some ((w.cell? ⟨b, off + i, none⟩).getD undef) := fun i hi => by
      rw [List.getElem?_map, List.getElem?_range hi]; rfl
    refine ⟨(List.range n).map (fun i => (w.cell? ⟨b, off + i, none⟩).getD undef), ⟨by simp, fun _ => ⟨b, off, rfl, hlt, fun i u hu => ?_⟩, fun u hu => ?_⟩, fun i hi => ?_⟩
    · have hi : i < n := by have := (List.getElem?_eq_some_iff.1 hu).1; simpa using this
      rw [hg i hi] at hu
      obtain ⟨ai, ni, ci, h1, _⟩ := hc i hi
      rw [h1] at hu ⊢
      exact hu
    · obtain ⟨i, hi, rfl⟩ := List.mem_map.1 hu
      obtain ⟨ai, ni, ci, h1, _⟩ := hc i (List.mem_range.1 hi)
      rw [h1]; rfl
    · obtain ⟨ai, ni, ci, h1, h2⟩ := hc i hi
      exact ⟨ai, ni, ci, by rw [hg i hi, h1]; rfl, h2⟩
theorem gl_app (A B : List (List Int)) (i : Nat) : gl (A ++ B) i = if i < A.length then gl A i else gl B (i - A.length) := by
  unfold gl
  simp only [List.getD_eq_getElem?_getD]
  split
  · rw [List.getElem?_append_left (by assumption)]
  · rw [List.getElem?_append_right (by omega)]
/-- Two slices of rows, one behind the other. -/
theorem concatl2_c (aa ab : Option Addr) (LA LB ca cb : Nat) (A B : List (List Int)) (W : World) (hA : RowsAt W aa LA ca A) (hB : RowsAt W ab LB cb B) (hL : LA + LB ≤ 50000000) :
    Calls Try.prog 19 #[.slice (some ⟨W.heap.size, 0, none⟩) 2 2] (W.alloc (.cells #[.slice aa LA ca, .slice ab LB cb] 25)) fun e w' => ∃ a c, e = .returned (.slice a (LA + LB) c) ∧ RowsAt w' a (LA + LB) c (A ++ B) ∧ Below W.heap.size W w' := by
  obtain ⟨va, ha, hva⟩ := rows_values hA
  obtain ⟨vb, hb, hvb⟩ := rows_values hB
  have hR : RwsL (W.alloc (.cells #[.slice aa LA ca, .slice ab LB cb] 25)) W.heap.size 0 2 (fun i => if i = 0 then aa else ab) (fun i => if i = 0 then LA else LB) (fun i => if i = 0 then ca else cb) (fun i => if i = 0 then va else vb) :=
    ⟨by simp, fun i hi => match i, hi with
      | 0, _ => by unfold World.cell?; rw [heap_alloc_new]; rfl
      | 1, _ => by unfold World.cell?; rw [heap_alloc_new]; rfl,
     fun i hi => match i, hi with
      | 0, _ => ha.below ((Below.refl _ _).alloc (Nat.le_refl _) _)
      | 1, _ => hb.below ((Below.refl _ _).alloc (Nat.le_refl _) _)⟩
  have hsum : sumL (fun i => if i = 0 then LA else LB) 2 = LA + LB := by simp [sumL]
  have hcat : catV (fun i => if i = 0 then va else vb) 2 = va ++ vb := by simp [catV]
  have CC := concatl_c W.heap.size 0 2 2 _ _ _ _ _ hR (by omega) (by omega) (by rw [hsum]; omega)
  rw [hsum, hcat] at CC
  refine CC.mono ?_
  rintro e w' ⟨v, rfl, hv, hbl⟩
  have B2 : Below W.heap.size W w' := bstep (bal (Below.refl _ _) _) hbl
  obtain ⟨a, cap, rfl, h1, h2, h3⟩ := owns_cells hv
  refine ⟨a, cap, rfl, ⟨by rw [List.length_append, hA.len, hB.len], h1, h2, fun hn => ?_⟩, B2⟩
  obtain ⟨b, off, ha2, hlt, hc⟩ := h3 (fun e => by have := congrArg List.length e; simp [ha.len, hb.len] at this; omega)
  refine ⟨b, off, ha2, hlt, fun i hi => ?_⟩
  rw [gl_app, hA.len]
  by_cases hi2 : i < LA
  · obtain ⟨ai, ni, ci, q1, q2⟩ := hva i hi2
    rw [if_pos hi2]
    exact ⟨ai, ni, ci, hc i _ (by rw [List.getElem?_append_left (by rw [ha.len]; exact hi2)]; exact q1), q2.below B2⟩
  · obtain ⟨ai, ni, ci, q1, q2⟩ := hvb (i - LA) (by omega)
    rw [if_neg hi2]
    exact ⟨ai, ni, ci, hc i _ (by rw [List.getElem?_append_right (by rw [ha.len]; omega), ha.len]; exact q1), q2.below B2⟩
end Go.Proofs.Ytffocoflmbhknaa
