/- Contract of slices.Concat at slices of integers. -/
import Derived.Test.YtlikpakjjaeblaaGrow
import Derived.Deep.LoopGhost
import Derived.Laws.AppendOwnNone
namespace Go.Proofs.Ytlikpakjjaeblaa
open Go.ChangeShapes Go.WideShapes Go.ChangeAt Go.RowKit
set_option maxRecDepth 20000

/-- The rows of a slice of slices: where they lie, how long they are, what they hold. -/
structure Rws (w : World) (B O K : Nat) (ra : Nat → Option Addr) (rn rc : Nat → Nat) (rx : Nat → List Int) : Prop where
  lt : B < w.heap.size
  cell : ∀ i, i < K → w.cell? ⟨B, O + i, none⟩ = some (.slice (ra i) (rn i) (rc i))
  row : ∀ i, i < K → IntsAt w (ra i) (rn i) (rc i) (rx i)
theorem Rws.below {w w' : World} {B O K : Nat} {ra : Nat → Option Addr} {rn rc : Nat → Nat} {rx : Nat → List Int} (h : Rws w B O K ra rn rc rx) (hb : Below w.heap.size w w') : Rws w' B O K ra rn rc rx :=
  ⟨Nat.lt_of_lt_of_le h.lt hb.size, fun i hi => (hb.cell (p := ⟨B, O + i, none⟩) h.lt).trans (h.cell i hi), fun i hi => (h.row i hi).below hb⟩
def catL (rx : Nat → List Int) : Nat → List Int
  | 0 => []
  | k + 1 => catL rx k ++ rx k
def sumN (rn : Nat → Nat) : Nat → Nat
  | 0 => 0
  | k + 1 => sumN rn k + rn k
theorem catL_len (rx : Nat → List Int) (rn : Nat → Nat) : ∀ k, (∀ i, i < k → (rx i).length = rn i) → (catL rx k).length = sumN rn k
  | 0, _ => rfl
  | k + 1, h => by simp only [catL, sumN]; rw [List.length_append, catL_len rx rn k (fun i hi => h i (by omega)), h k (by omega)]
theorem sumN_mono (rn : Nat → Nat) (k : Nat) : ∀ d, sumN rn k ≤ sumN rn (k + d)
  | 0 => Nat.le_refl _
  | d + 1 => Nat.le_trans (sumN_mono rn k d) (by show _ ≤ sumN rn (k + d) + rn (k + d); omega)
theorem sumN_le (rn : Nat → Nat) (k K : Nat) (h : k ≤ K) : sumN rn k ≤ sumN rn K := by
  have := sumN_mono rn k (K - k)
  rwa [show k + (K - k) = K by omega] at this
/-- To append nothing, whatever the nil slice's cap is said to be. -/
theorem append_nothing {P : Program} {w : World} {ops : Array Oper} {rest : List Oper} {o : Oper} {a : Act} {Q : Exit → Act → World → Prop} (hgd : o.guard = none) (s x : Operand) (t : TypeId)
    (ho : o.op = .call { callee := .builtin .append, args := #[s, x], argTypes := #[t, t] })
    (base : Nat) (e : TypeId) (i : TypeInfo) (size c : Nat) (ht : P.underlying t = some (.slice e)) (hi : P.info? e = some i)
    (v : Value) (n : Nat) (xs : List Value) (hs : a.eval s = v) (hown : w.ownsRow base e size v n xs) (hx : a.eval x = .slice none 0 c)
    (h : wpList P ops Q rest (a.put o.dst v) w) : wpList P ops Q (o :: rest) a w := by
  have hrun : (Builtin.append_ #[t, t] o.type #[v, .slice none 0 c]).run P w = .ok v w := by
    rcases hown.2 with ⟨rfl, rfl⟩ | ⟨g, cap, cur, rfl, _, _, hnc, _⟩
    · simp [Builtin.append_, run_underlying ht, sizeOf, typeInfo, hi, Builtin.lenOf, Builtin.firstCells]
    · simp [Builtin.append_, run_underlying ht, sizeOf, typeInfo, hi, Builtin.lenOf, Builtin.firstCells, hnc, storeCells]
  refine wpList_plain hgd fun K hK => ?_
  unfold Oper.wp
  simp [execOp, ho, resolve, invoke, builtin, hs, hx, hrun, Result.andThen]
  exact hK _ _ h
set_option maxHeartbeats 8000000 in
theorem concat_c (B O K C : Nat) (ra : Nat → Option Addr) (rn rc : Nat → Nat) (rx : Nat → List Int) (w : World) (h : Rws w B O K ra rn rc rx) (hK : K ≤ C) (hC : C ≤ 9223372036854775807) (hT : sumN rn K ≤ 100000) :
    Calls Try.prog 17 #[.slice (some ⟨B, O, none⟩) K C] w fun e w' => ∃ v, e = .returned v ∧ w'.ownsRow w.heap.size 3 1 v (sumN rn K) ((catL rx K).map (Value.int .i64)) ∧ Below w.heap.size w w' := by
  obtain ⟨ib, hib, hz0, hz1, hz2⟩ := info_parts info_int
  have H := hidp h
  have SL := hidp (sumN_le rn)
  have CL := hidp (fun k (hk : k ≤ K) => catL_len rx rn k (fun i hi => (h.row i (by omega)).len))
  have GC := hidp (show ∀ W : World, Calls Try.prog 40 #[.slice none 0 0, .int .i64 (sumN rn K : Nat)] W fun e w' => ∃ v, e = .returned v ∧ w'.ownsRow W.heap.size 3 1 v 0 [] ∧ Below W.heap.size W w' from fun W => by
    rcases Nat.eq_zero_or_pos (sumN rn K) with e | e
    · rw [e]; exact grow_zero W
    · exact grow_c (sumN rn K) e (by omega) W)
  clear h
  go_enter Try.func17, Try.ntmps17
  go_wp2_with fail
  go_loop [3, 11] (fun s i => ∃ k : Nat, k ≤ K ∧ i = .int .i64 k ∧ s = .int .i64 (sumN rn k : Nat)) (fun _ i => K - (intOf i).toNat)
  case atStart => exact ⟨0, by omega, rfl, rfl⟩
  case round =>
    obtain ⟨k, hk, rfl, rfl⟩ := hrel
    by_cases hlt : k < K
    · have q := H.out.cell k hlt
      have E := hidp (show sumN rn (k + 1) = sumN rn k + rn k from rfl)
      have l1 := SL.out k K hk
      have l2 := SL.out (k + 1) K (by omega)
      rw [E.out] at l2
      generalize sumN rn k = S at *
      generalize rn k = R at *
      go_wp2_with fail
      go_round
      case rel => exact ⟨k + 1, by omega, by go_num, v_int (by rw [E.out]; omega)⟩
      case measure => simp [intOf]; omega
    · obtain rfl : k = K := by omega
      obtain ⟨T, hTe⟩ : ∃ T, T = sumN rn k := ⟨_, rfl⟩
      rw [← hTe] at GC hT
      rw [← hTe]
      have HTE := hidp hTe
      clear hTe
      go_wp2_with fail
      refine (GC.out _).mono ?_
      rintro e wa ⟨v, rfl, hv, hba⟩
      go_wp2_with fail
      go_loopg [6, 27] k (fun gg v i wr => ∃ t : Nat, t ≤ k ∧ k - t ≤ gg ∧ i = .int .i64 t ∧ wr.ownsRow w.heap.size 3 1 v (sumN rn t) ((catL rx t).map (Value.int .i64)) ∧ Below w.heap.size w wr)
      case atStart => exact ⟨0, by omega, by omega, rfl, hv, hba⟩
      case round =>
        obtain ⟨t, ht, hgt, rfl, hu, hbl⟩ := hrel
        by_cases hlt2 : t < k
        · have HR := H.out.below hbl
          have q := HR.cell t hlt2
          have row := HR.row t hlt2
          have l2 := SL.out (t + 1) k (by omega)
          have E := hidp (show sumN rn (t + 1) = sumN rn t + rn t from rfl)
          rw [E.out, ← HTE.out] at l2
          have E2 := hidp (show catL rx (t + 1) = catL rx t ++ rx t from rfl)
          have rl := row.len
          cases hra : ra t with
          | none =>
            have h0 : rn t = 0 := by
              rcases Nat.eq_zero_or_pos (rn t) with e | e
              · exact e
              · obtain ⟨b, o, hb, _⟩ := row.addr e
                rw [hra] at hb; cases hb
            have hx0 : rx t = [] := List.eq_nil_of_length_eq_zero (by rw [rl, h0])
            rw [hra, h0] at q
            rw [h0] at E l2
            rw [hx0] at E2
            clear row hra rl HR h0 hx0
            generalize hS : sumN rn t = S at *
            clear hS
            go_wp2_with (at_builtin; refine append_nothing rfl (.tmp 31) (.tmp 32) 22 rfl w.heap.size 3 ib 1 _ Try.underlying22 hib _ S _ rfl hu rfl ?_)
            go_roundg (k - (t + 1))
            case measure => omega
            case rel => exact ⟨t + 1, by omega, by omega, by go_num, by rw [E.out, E2.out, List.append_nil]; exact hu, hbl⟩
          | some x =>
            rw [hra] at q
            have CELLS := hidp (fun j u (hu : ((rx t).map (Value.int .i64))[j]? = some u) => show wr.cell? (x.add j) = some u by
              have hj : j < rn t := by have := (List.getElem?_eq_some_iff.1 hu).1; simp at this; omega
              obtain ⟨b, o, hb, _, hc⟩ := row.addr (show 0 < rn t by omega)
              rw [hra] at hb
              obtain rfl := Option.some.inj hb
              rw [addr_add, hc j hj, ← hu, List.getElem?_map, gi_get _ _ (by omega)]; rfl)
            have ONE := hidp (show ∀ u ∈ (rx t).map (Value.int .i64), u.oneCell' = true from fun u hu => by
              obtain ⟨x, _, rfl⟩ := List.mem_map.1 hu; rfl)
            have RL := hidp (show ((rx t).map (Value.int .i64)).length = rn t * 1 by rw [List.length_map, rl, Nat.mul_one])
            clear row hra rl HR
            generalize hS : sumN rn t = S at *
            generalize hRr : rn t = R at *
            clear hS hRr
            go_wp2_with (at_builtin; refine wpList_append_own_at _ rfl (.tmp 31) (.tmp 32) 22 rfl w.heap.size 3 ib (.int .i64 0) 1 8 Try.underlying22 hib hz0 hz1 hz2 rfl (by decide) _ S _ rfl hu x R _ ((rx t).map (Value.int .i64)) rfl RL.out CELLS.out ONE.out (by unfold maxLen; omega) (by omega) hbl.size ?_; intro v1 w1 h1 h2 h3 h4)
            go_roundg (k - (t + 1))
            case measure => omega
            case rel => exact ⟨t + 1, by omega, by omega, by go_num, by rw [E.out, E2.out, List.map_append]; exact h1, append_step hu hbl (Nat.le_refl _) h2⟩
        · obtain rfl : t = k := by omega
          go_wp2
          go_ret
          rw [HTE.out]
          exact ⟨_, rfl, hu, hbl⟩
end Go.Proofs.Ytlikpakjjaeblaa
