/- Contract of slices.Concat at slices of pairs of texts. -/
import Derived.Test.YtmlkhiffmkkmdaaGrowP
import Derived.Deep.LoopGhost
import Derived.Laws.AppendOwnNone
namespace Go.Proofs.Ytmlkhiffmkkmdaa
open Go.ChangeShapes Go.WideShapes Go.ChangeAt Go.RowKit
set_option maxRecDepth 20000

/-- The rows of a slice of slices: where they lie, how long they are, what they hold. -/
structure RwsP (w : World) (B O K : Nat) (ra : Nat → Option Addr) (rn rc : Nat → Nat) (rx : Nat → List (ByteArray × ByteArray)) : Prop where
  lt : B < w.heap.size
  cell : ∀ i, i < K → w.cell? ⟨B, O + i, none⟩ = some (.slice (ra i) (rn i) (rc i))
  row : ∀ i, i < K → PairsAt w (ra i) (rn i) (rc i) (rx i)
theorem RwsP.below {w w' : World} {B O K : Nat} {ra : Nat → Option Addr} {rn rc : Nat → Nat} {rx : Nat → List (ByteArray × ByteArray)} (h : RwsP w B O K ra rn rc rx) (hb : Below w.heap.size w w') : RwsP w' B O K ra rn rc rx :=
  ⟨Nat.lt_of_lt_of_le h.lt hb.size, fun i hi => (hb.cell (p := ⟨B, O + i, none⟩) h.lt).trans (h.cell i hi), fun i hi => (h.row i hi).below hb⟩
def catLP (rx : Nat → List (ByteArray × ByteArray)) : Nat → List (ByteArray × ByteArray)
  | 0 => []
  | k + 1 => catLP rx k ++ rx k
def sumNP (rn : Nat → Nat) : Nat → Nat
  | 0 => 0
  | k + 1 => sumNP rn k + rn k
theorem catLP_len (rx : Nat → List (ByteArray × ByteArray)) (rn : Nat → Nat) : ∀ k, (∀ i, i < k → (rx i).length = rn i) → (catLP rx k).length = sumNP rn k
  | 0, _ => rfl
  | k + 1, h => by simp only [catLP, sumNP]; rw [List.length_append, catLP_len rx rn k (fun i hi => h i (by omega)), h k (by omega)]
theorem sumNP_mono (rn : Nat → Nat) (k : Nat) : ∀ d, sumNP rn k ≤ sumNP rn (k + d)
  | 0 => Nat.le_refl _
  | d + 1 => Nat.le_trans (sumNP_mono rn k d) (by show _ ≤ sumNP rn (k + d) + rn (k + d); omega)
theorem sumNP_le (rn : Nat → Nat) (k K : Nat) (h : k ≤ K) : sumNP rn k ≤ sumNP rn K := by
  have := sumNP_mono rn k (K - k)
  rwa [show k + (K - k) = K by omega] at this
theorem append_nothingP {P : Program} {w : World} {ops : Array Oper} {rest : List Oper} {o : Oper} {a : Act} {Q : Exit → Act → World → Prop} (hgd : o.guard = none) (s x : Operand) (t : TypeId)
    (ho : o.op = .call { callee := .builtin .append, args := #[s, x], argTypes := #[t, t] })
    (base : Nat) (e : TypeId) (i : TypeInfo) (size c : Nat) (ht : P.underlying t = some (.slice e)) (hi : P.info? e = some i)
    (v : Value) (n : Nat) (xs : List Value) (hs : a.eval s = v) (hown : w.ownsRow base e size v n xs) (hx : a.eval x = .slice none 0 c)
    (h : wpList P ops Q rest (a.put o.dst v) w) : wpList P ops Q (o :: rest) a w := by
  have hrun : (Builtin.append_ #[t, t] o.type #[v, .slice none 0 c]).run P w = .ok v w := by
    rcases hown.2 with ⟨rfl, rfl⟩ | ⟨g, cap, cur, rfl, _, _, hnc, _⟩
    · simp [Builtin.append_, run_underlying ht, sizeOf, typeInfo, hi, Builtin.lenOf, Builtin.firstCells]
    · simp [Builtin.append_, run_underlying ht, sizeOf, typeInfo, hi, Builtin.lenOf, Builtin.firstCells, hnc, storeCells]
  refine wpList_plain hgd fun K hK => ?_
  unfold Oper.wp
  simp [execOp, ho, resolve, invoke, builtin, hs, hx, hrun, Result.andThen]
  exact hK _ _ h
set_option maxHeartbeats 8000000 in
theorem concatp_c (B O K C : Nat) (ra : Nat → Option Addr) (rn rc : Nat → Nat) (rx : Nat → List (ByteArray × ByteArray)) (w : World) (h : RwsP w B O K ra rn rc rx) (hK : K ≤ C) (hC : C ≤ 9223372036854775807) (hT : sumNP rn K ≤ 100000) :
    Calls Try.prog 14 #[.slice (some ⟨B, O, none⟩) K C] w fun e w' => ∃ v, e = .returned v ∧ w'.ownsRow w.heap.size 29 2 v (sumNP rn K) (psV (catLP rx K)) ∧ Below w.heap.size w w' := by
  obtain ⟨ib, hib, hz0, hz1, hz2⟩ := info_parts info_pair
  have H := hidp h
  have SL := hidp (sumNP_le rn)
  have CL := hidp (fun k (hk : k ≤ K) => catLP_len rx rn k (fun i hi => (h.row i (by omega)).len))
  have GC := hidp (show ∀ W : World, Calls Try.prog 33 #[.slice none 0 0, .int .i64 (sumNP rn K : Nat)] W fun e w' => ∃ v, e = .returned v ∧ w'.ownsRow W.heap.size 29 2 v 0 [] ∧ Below W.heap.size W w' from fun W => by
    rcases Nat.eq_zero_or_pos (sumNP rn K) with e | e
    · rw [e]; exact growp_zero W
    · exact growp_c (sumNP rn K) e (by omega) W)
  clear h
  go_enter Try.func14, Try.ntmps14
  go_wp2_with fail
  go_loop [3, 11] (fun s i => ∃ k : Nat, k ≤ K ∧ i = .int .i64 k ∧ s = .int .i64 (sumNP rn k : Nat)) (fun _ i => K - (intOf i).toNat)
  case atStart => exact ⟨0, by omega, rfl, rfl⟩
  case round =>
    obtain ⟨k, hk, rfl, rfl⟩ := hrel
    by_cases hlt : k < K
    · have q := H.out.cell k hlt
      have E := hidp (show sumNP rn (k + 1) = sumNP rn k + rn k from rfl)
      have l1 := SL.out k K hk
      have l2 := SL.out (k + 1) K (by omega)
      rw [E.out] at l2
      generalize sumNP rn k = S at *
      generalize rn k = R at *
      go_wp2_with fail
      go_round
      case rel => exact ⟨k + 1, by omega, by go_num, v_int (by rw [E.out]; omega)⟩
      case measure => simp [intOf]; omega
    · obtain rfl : k = K := by omega
      obtain ⟨T, hTe⟩ : ∃ T, T = sumNP rn k := ⟨_, rfl⟩
      rw [← hTe] at GC hT
      rw [← hTe]
      have HTE := hidp hTe
      clear hTe
      go_wp2_with fail
      refine (GC.out _).mono ?_
      rintro e wa ⟨v, rfl, hv, hba⟩
      go_wp2_with fail
      go_loopg [6, 27] k (fun gg v i wr => ∃ t : Nat, t ≤ k ∧ k - t ≤ gg ∧ i = .int .i64 t ∧ wr.ownsRow w.heap.size 29 2 v (sumNP rn t) (psV (catLP rx t)) ∧ Below w.heap.size w wr)
      case atStart => exact ⟨0, by omega, by omega, rfl, hv, hba⟩
      case round =>
        obtain ⟨t, ht, hgt, rfl, hu, hbl⟩ := hrel
        by_cases hlt2 : t < k
        · have HR := H.out.below hbl
          have q := HR.cell t hlt2
          have row := HR.row t hlt2
          have l2 := SL.out (t + 1) k (by omega)
          have E := hidp (show sumNP rn (t + 1) = sumNP rn t + rn t from rfl)
          rw [E.out, ← HTE.out] at l2
          have E2 := hidp (show catLP rx (t + 1) = catLP rx t ++ rx t from rfl)
          have rl := row.len
          cases hra : ra t with
          | none =>
            have h0 : rn t = 0 := by
              rcases Nat.eq_zero_or_pos (rn t) with e | e
              · exact e
              · obtain ⟨b, o, hb, _⟩ := row.addr0 e
                rw [hra] at hb; cases hb
            have hx0 : rx t = [] := List.eq_nil_of_length_eq_zero (by rw [rl, h0])
            rw [hra, h0] at q
            rw [h0] at E l2
            rw [hx0] at E2
            clear row hra rl HR h0 hx0
            generalize hS : sumNP rn t = S at *
            clear hS
            go_wp2_with (at_builtin; refine append_nothingP rfl (.tmp 31) (.tmp 32) 22 rfl w.heap.size 29 ib 2 _ Try.underlying22 hib _ S _ rfl hu rfl ?_)
            go_roundg (k - (t + 1))
            case measure => omega
            case rel => exact ⟨t + 1, by omega, by omega, by go_num, by rw [E.out, E2.out, List.append_nil]; exact hu, hbl⟩
          | some x =>
            rw [hra] at q
            have CELLS := hidp (fun j u (hu : (psV (rx t))[j]? = some u) => show wr.cell? (x.add j) = some u from row.cellsAt x hra j u hu)
            have ONE := hidp (psV_one (rx t))
            have RL := hidp (show (psV (rx t)).length = rn t * 2 by rw [psV_len, rl])
            clear row hra rl HR
            generalize hS : sumNP rn t = S at *
            generalize hRr : rn t = R at *
            clear hS hRr
            go_wp2_with (at_builtin; refine wpList_append_own_at _ rfl (.tmp 31) (.tmp 32) 22 rfl w.heap.size 29 ib (.agg #[.string ⟨#[]⟩, .string ⟨#[]⟩]) 2 32 Try.underlying22 hib hz0 hz1 hz2 rfl (by decide) _ S _ rfl hu x R _ (psV (rx t)) rfl RL.out CELLS.out ONE.out (by unfold maxLen; omega) (by omega) hbl.size ?_; intro v1 w1 h1 h2 h3 h4)
            go_roundg (k - (t + 1))
            case measure => omega
            case rel => exact ⟨t + 1, by omega, by omega, by go_num, by rw [E.out, E2.out, psV_append]; exact h1, append_step hu hbl (Nat.le_refl _) h2⟩
        · obtain rfl : t = k := by omega
          go_wp2
          go_ret
          rw [HTE.out]
          exact ⟨_, rfl, hu, hbl⟩
def pickP {α : Type} (x y : α) (i : Nat) : α := if i = 0 then x else y
theorem concatp2_c (aa ab : Option Addr) (LA LB ca cb : Nat) (A B : List (ByteArray × ByteArray)) (W : World) (hA : PairsAt W aa LA ca A) (hB : PairsAt W ab LB cb B) (hL : LA + LB ≤ 100000) :
    Calls Try.prog 14 #[.slice (some ⟨W.heap.size, 0, none⟩) 2 2] (W.alloc (.cells #[.slice aa LA ca, .slice ab LB cb] 22)) fun e w' => ∃ a c, e = .returned (.slice a (LA + LB) c) ∧ PairsAt w' a (LA + LB) c (A ++ B) ∧ Below W.heap.size W w' := by
  have hR : RwsP (W.alloc (.cells #[.slice aa LA ca, .slice ab LB cb] 22)) W.heap.size 0 2 (pickP aa ab) (pickP LA LB) (pickP ca cb) (pickP A B) :=
    ⟨by simp, fun i hi => match i, hi with
      | 0, _ => by unfold World.cell?; rw [heap_alloc_new]; rfl
      | 1, _ => by unfold World.cell?; rw [heap_alloc_new]; rfl,
     fun i hi => match i, hi with
      | 0, _ => hA.below ((Below.refl _ _).alloc (Nat.le_refl _) _)
      | 1, _ => hB.below ((Below.refl _ _).alloc (Nat.le_refl _) _)⟩
  have hsum : sumNP (pickP LA LB) 2 = LA + LB := by simp [sumNP, pickP]
  have hcat : catLP (pickP A B) 2 = A ++ B := by simp [catLP, pickP]
  have CC := concatp_c W.heap.size 0 2 2 _ _ _ _ _ hR (by omega) (by omega) (by rw [hsum]; omega)
  rw [hsum, hcat] at CC
  refine CC.mono ?_
  rintro e w' ⟨v, rfl, hv, hb⟩
  obtain ⟨a, c, rfl, hi⟩ := owns_pairs hv (fun p hp => (List.mem_append.1 hp).elim (hA.sz p) (hB.sz p))
  exact ⟨a, c, rfl, hi, bstep (bal (Below.refl _ _) _) hb⟩
end Go.Proofs.Ytmlkhiffmkkmdaa
