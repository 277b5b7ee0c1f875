/- Merged: TabMath, StepCall, Table. -/
import Derived.Test.YtffocoflmbhknaaMem
import Derived.Test.YtffocoflmbhknaaStep
import Derived.Test.YtffocoflmbhknaaClone
import Derived.Test.YtffocoflmbhknaaMix
import Derived.Test.YtffocoflmbhknaaPlc
import Derived.Test.YtffocoflmbhknaaMgKit
import Derived.Deep.QuietTactic
import Derived.BigQuiet
import Derived.WalkSmall
import Derived.Deep.DeepCutAuto
import Derived.Lib.MinMax
/- Tables of counts: plain law. -/
namespace Go.Proofs.Ytffocoflmbhknaa
set_option maxRecDepth 20000
/-- A count that may not be. -/
def cntP (x : Int) : Bool := decide (x < 0) || decide (1000000000000 < x)
theorem cntP_false (x : Int) : cntP x = false ↔ 0 ≤ x ∧ x ≤ 1000000000000 := by
  unfold cntP
  rw [Bool.or_eq_false_iff, decide_eq_false_iff_not, decide_eq_false_iff_not]
  omega
theorem cntP_true (x : Int) : cntP x = true ↔ x < 0 ∨ 1000000000000 < x := by
  unfold cntP
  rw [Bool.or_eq_true, decide_eq_true_eq, decide_eq_true_eq]
/-- The error of a row. -/
def rowE (wd : Int) (r : List Int) : Int := if (r.length : Int) = wd then (if r.any cntP = true then 1 else 0) else 7
/-- The error of the rows. -/
def tabE (wd : Int) : List (List Int) → Int
  | [] => 0
  | r :: l => if rowE wd r = 0 then tabE wd l else rowE wd r
/-- The error that a table's Check gives. -/
def tchk (wd : Int) (n : Nat) (xs : List (List Int)) : Int := if wd < 1 then 1 else if 32 < wd then 1 else if n < 1 then 1 else if 4 < n then 1 else tabE wd xs
theorem rowE_zero (wd : Int) (r : List Int) : rowE wd r = 0 ↔ (r.length : Int) = wd ∧ ∀ x ∈ r, 0 ≤ x ∧ x ≤ 1000000000000 := by
  unfold rowE
  constructor
  · intro h
    split at h
    · rename_i hl
      split at h
      · omega
      · rename_i ha
        refine ⟨hl, fun x hx => (cntP_false x).1 ?_⟩
        cases hc : cntP x with
        | false => rfl
        | true => exact absurd (List.any_eq_true.2 ⟨x, hx, hc⟩) ha
    · omega
  · rintro ⟨h1, h2⟩
    rw [if_pos h1, if_neg]
    intro h
    obtain ⟨x, hx, hc⟩ := List.any_eq_true.1 h
    rw [(cntP_false x).2 (h2 x hx)] at hc
    cases hc
theorem tabE_zero (wd : Int) : ∀ xs : List (List Int), tabE wd xs = 0 ↔ ∀ r ∈ xs, rowE wd r = 0
  | [] => by simp [tabE]
  | r :: l => by
    unfold tabE
    have ih := tabE_zero wd l
    constructor
    · intro h
      by_cases e : rowE wd r = 0
      · rw [if_pos e] at h
        intro q hq
        rcases List.mem_cons.1 hq with rfl | hq
        · exact e
        · exact ih.1 h q hq
      · rw [if_neg e] at h; exact absurd h e
    · intro h
      rw [if_pos (h r (by simp))]
      exact ih.2 (fun q hq => h q (by simp [hq]))
theorem rowE_bd (wd : Int) (r : List Int) : 0 ≤ rowE wd r ∧ rowE wd r ≤ 7 := by unfold rowE; repeat' split <;> omega
theorem tabE_bd (wd : Int) : ∀ xs : List (List Int), 0 ≤ tabE wd xs ∧ tabE wd xs ≤ 7
  | [] => by simp [tabE]
  | r :: l => by
    unfold tabE
    have := tabE_bd wd l
    have := rowE_bd wd r
    split <;> omega
theorem tchk_bd (wd : Int) (n : Nat) (xs : List (List Int)) : 0 ≤ tchk wd n xs ∧ tchk wd n xs ≤ 7 := by
  unfold tchk
  have := tabE_bd wd xs
  repeat' split <;> omega
theorem gl_mem {α : Type} (xs : List (List α)) (i : Nat) (h : i < xs.length) : gl xs i ∈ xs := by
  unfold gl
  rw [List.getD_eq_getElem?_getD, List.getElem?_eq_getElem h]
  exact List.getElem_mem h
theorem mem_gl {α : Type} (xs : List (List α)) (r : List α) (h : r ∈ xs) : ∃ i, i < xs.length ∧ gl xs i = r := by
  obtain ⟨i, hi, he⟩ := List.mem_iff_getElem.1 h
  exact ⟨i, hi, by unfold gl; rw [List.getD_eq_getElem?_getD, List.getElem?_eq_getElem hi]; exact he⟩
theorem drop_gl {α : Type} (xs : List (List α)) (k : Nat) (h : k < xs.length) : xs.drop k = gl xs k :: xs.drop (k + 1) := by
  rw [List.drop_eq_getElem_cons h]
  congr 1
  unfold gl
  rw [List.getD_eq_getElem?_getD, List.getElem?_eq_getElem h]; rfl
theorem drop_gi (xs : List Int) (k : Nat) (h : k < xs.length) : xs.drop k = gi xs k :: xs.drop (k + 1) := by
  rw [List.drop_eq_getElem_cons h]
  congr 1
  unfold gi
  rw [List.getD_eq_getElem?_getD, List.getElem?_eq_getElem h]; rfl
/-- A table that may be: n rows of m counts. -/
structure TabOk (m n : Nat) (xs : List (List Int)) : Prop where
  m1 : 1 ≤ m
  m2 : m ≤ 32
  n1 : 1 ≤ n
  n2 : n ≤ 4
  ln : xs.length = n
  row : ∀ i, i < n → (gl xs i).length = m
  cnt : ∀ i, i < n → ∀ x ∈ gl xs i, 0 ≤ x ∧ x ≤ 1000000000000
theorem tchk_zero (wd : Int) (n : Nat) (xs : List (List Int)) (hn : xs.length = n) (h : tchk wd n xs = 0) : ∃ m : Nat, wd = m ∧ TabOk m n xs := by
  unfold tchk at h
  repeat' split at h
  all_goals try omega
  rename_i h1 h2 h3 h4
  have hr := (tabE_zero wd xs).1 h
  refine ⟨wd.toNat, by omega, by omega, by omega, by omega, by omega, hn, fun i hi => ?_, fun i hi => ?_⟩
  · have := ((rowE_zero _ _).1 (hr _ (gl_mem xs i (by omega)))).1
    omega
  · exact ((rowE_zero _ _).1 (hr _ (gl_mem xs i (by omega)))).2
theorem tchk_ok (m n : Nat) (xs : List (List Int)) (h : TabOk m n xs) : tchk m n xs = 0 := by
  obtain ⟨m1, m2, n1, n2, ln, row, cnt⟩ := h
  unfold tchk
  rw [if_neg (by omega), if_neg (by omega), if_neg (by omega), if_neg (by omega)]
  refine (tabE_zero _ _).2 fun r hr => ?_
  obtain ⟨i, hi, rfl⟩ := mem_gl xs r hr
  exact (rowE_zero _ _).2 ⟨by have := row i (by omega); omega, cnt i (by omega)⟩
/-- A table by its cells. -/
def tabL (T : Nat → Nat → Int) (m n : Nat) : List (List Int) := tab (fun i => tab (T i) m) n
theorem tabL_gl (T : Nat → Nat → Int) (m n i : Nat) (h : i < n) : gl (tabL T m n) i = tab (T i) m := by
  unfold gl tabL
  rw [List.getD_eq_getElem?_getD, tab_get _ _ _ h]; rfl
theorem tabL_of (m n : Nat) (xs : List (List Int)) (hn : xs.length = n) (hr : ∀ i, i < n → (gl xs i).length = m) : xs = tabL (fun i j => gi (gl xs i) j) m n := by
  apply List.ext_getElem?
  intro i
  unfold tabL
  by_cases hi : i < n
  · rw [tab_get _ _ _ hi]
    have e : xs[i]? = some (gl xs i) := by
      unfold gl
      rw [List.getD_eq_getElem?_getD, List.getElem?_eq_getElem (by omega)]; rfl
    rw [e]
    congr 1
    apply List.ext_getElem?
    intro j
    by_cases hj : j < m
    · rw [tab_get _ _ _ hj, gi_get _ _ (by have := hr i hi; omega)]
    · rw [List.getElem?_eq_none (by have := hr i hi; omega), List.getElem?_eq_none (by rw [tab_len]; omega)]
  · rw [List.getElem?_eq_none (by omega), List.getElem?_eq_none (by rw [tab_len]; omega)]
theorem tabL_ok (T : Nat → Nat → Int) (m n : Nat) (m1 : 1 ≤ m) (m2 : m ≤ 32) (n1 : 1 ≤ n) (n2 : n ≤ 4) (h : ∀ i j, i < n → j < m → 0 ≤ T i j ∧ T i j ≤ 1000000000000) : TabOk m n (tabL T m n) := by
  refine ⟨m1, m2, n1, n2, by unfold tabL; rw [tab_len], fun i hi => by rw [tabL_gl _ _ _ _ hi, tab_len], fun i hi x hx => ?_⟩
  rw [tabL_gl _ _ _ _ hi] at hx
  obtain ⟨j, hj, rfl⟩ := tab_mem _ _ _ hx
  exact h i j hi hj
theorem TabOk.cell {m n : Nat} {T : Nat → Nat → Int} (h : TabOk m n (tabL T m n)) (i j : Nat) (hi : i < n) (hj : j < m) : 0 ≤ T i j ∧ T i j ≤ 1000000000000 := by
  refine h.cnt i hi _ ?_
  rw [tabL_gl _ _ _ _ hi]
  exact List.mem_of_getElem? (tab_get (T i) m j hj)
/-- What comes of a put. -/
def tput (T : Nat → Nat → Int) (P : Nat → Nat) (x : Int) (i j : Nat) : Int := if j = P i then T i j + x else T i j
/-- The estimate. -/
def tmin (T : Nat → Nat → Int) (P : Nat → Nat) : Nat → Int
  | 0 => 1000000000000
  | k + 1 => min (tmin T P k) (T k (P k))
theorem tmin_mono (T U : Nat → Nat → Int) (P : Nat → Nat) : ∀ k, (∀ i, i < k → T i (P i) ≤ U i (P i)) → tmin T P k ≤ tmin U P k
  | 0, _ => Int.le_refl _
  | k + 1, h => by
    have := tmin_mono T U P k (fun i hi => h i (by omega))
    have := h k (by omega)
    simp only [tmin]
    omega
theorem tmin_le (T : Nat → Nat → Int) (P : Nat → Nat) : ∀ k i, i < k → tmin T P k ≤ T i (P i)
  | 0, i, h => by omega
  | k + 1, i, h => by
    simp only [tmin]
    by_cases e : i = k
    · subst e; omega
    · have := tmin_le T P k i (by omega); omega
theorem tmin_top (T : Nat → Nat → Int) (P : Nat → Nat) : ∀ k, tmin T P k ≤ 1000000000000
  | 0 => Int.le_refl _
  | k + 1 => by have := tmin_top T P k; simp only [tmin]; omega
theorem tmin_ge (T : Nat → Nat → Int) (P : Nat → Nat) (y : Int) (hy : y ≤ 1000000000000) : ∀ k, (∀ i, i < k → y ≤ T i (P i)) → y ≤ tmin T P k
  | 0, _ => hy
  | k + 1, h => by
    have := tmin_ge T P y hy k (fun i hi => h i (by omega))
    have := h k (by omega)
    simp only [tmin]
    omega
theorem tmin_add (T U : Nat → Nat → Int) (P : Nat → Nat) (x : Int) : ∀ k, (∀ i, i < k → U i (P i) = T i (P i) + x ∧ T i (P i) + x ≤ 1000000000000 ∧ T i (P i) ≤ 1000000000000) → 0 < k → tmin U P k = tmin T P k + x
  | 0, _, h => by omega
  | k + 1, h, _ => by
    obtain ⟨h1, h2, h3⟩ := h k (by omega)
    simp only [tmin]
    rcases Nat.eq_zero_or_pos k with e | e
    · subst e
      simp only [tmin]
      omega
    · have := tmin_add T U P x k (fun i hi => h i (by omega)) e
      omega
theorem tmin_shift (T U : Nat → Nat → Int) (P : Nat → Nat) (x : Int) (hx : 0 ≤ x) : ∀ k, (∀ i, i < k → U i (P i) ≤ T i (P i) + x) → tmin U P k ≤ tmin T P k + x
  | 0, _ => by simp only [tmin]; omega
  | k + 1, h => by
    have := tmin_shift T U P x hx k (fun i hi => h i (by omega))
    have := h k (by omega)
    simp only [tmin]
    omega
theorem tmin_bd (T : Nat → Nat → Int) (P : Nat → Nat) (k : Nat) (h : ∀ i, i < k → 0 ≤ T i (P i)) : 0 ≤ tmin T P k ∧ tmin T P k ≤ 1000000000000 := ⟨tmin_ge T P 0 (by omega) k h, tmin_top T P k⟩
end Go.Proofs.Ytffocoflmbhknaa

/- A call of a Go function by its contract, as one step of a region that draws its order. -/
namespace Go.Proofs.Ytffocoflmbhknaa
open Go.ChangeShapes Go.WideShapes Go.ChangeAt Go.RowKit
set_option maxRecDepth 20000
theorem step_call {P : Program} {ops : Array Oper} {o : Oper} {a : Act} {W : World} {K : Act → World → Prop} {Q : Exit → Act → World → Prop} {E : Prop}
    (hg : o.guard = none) (g : Nat) (xs : Array Operand) (ts : Array TypeId) (hop : o.op = Op.call { callee := Callee.value (Operand.func g), args := xs, argTypes := ts })
    (eg : ∀ args w, (callFunc g args).run P w = .ok (.enter g args) w) (vs : Array Value) (hvs : xs.map a.eval = vs) (R : Ending → World → Prop) (hc : Calls P g vs W R)
    (hK : ∀ e w', R e w' → ∃ v, e = .returned v ∧ K (a.put o.dst v) w') :
    if Region.wanted o (yielded ops a.tmps) = true then Oper.wp P o a W K Q else E := by
  have hw : Region.wanted o (yielded ops a.tmps) = true := by simp [Region.wanted, hg]
  rw [if_pos hw]
  unfold Oper.wp
  have hr : (execOp a.eval o).run P W = .ok (.enter g vs) W := by
    simp [execOp, hop, resolve, invoke, hvs, eg, Act.eval, Deferred.ofValue, Result.andThen]
  rw [hr]
  exact hc.mono (fun e w' h => by
    obtain ⟨v, rfl, hk⟩ := hK e w' h
    exact hk)
end Go.Proofs.Ytffocoflmbhknaa

/- Contracts of package table: Check, place, copied, Put and Ask. -/
namespace Go.Proofs.Ytffocoflmbhknaa
open Go.ChangeShapes Go.WideShapes Go.ChangeAt Go.RowKit
set_option maxRecDepth 20000
open MixMath

abbrev tabV (wd : Int) (a : Option Addr) (n c : Nat) : Value := .agg #[.int .i64 wd, .slice a n c]
set_option maxHeartbeats 4000000 in
theorem tcheck_c (wd : Int) (a : Option Addr) (n c : Nat) (xs : List (List Int)) (w : World) (h : RowsAt w a n c xs) :
    Calls Try.prog 36 #[tabV wd a n c] w fun e w' => e = .returned (.int .i64 (tchk wd n xs)) ∧ Below w.heap.size w w' := by
  have hb0 : Below w.heap.size w (w.alloc (.cells #[.int .i64 wd, .slice a n c] 27)) := bal (Below.refl _ _) _
  have HB0 := hidp hb0
  have H := hidp h
  have mm := h.max
  have ee := h.le
  have ln := h.len
  clear hb0 h
  unfold tabV
  by_cases h1 : wd < 1
  · have E := hidp (show tchk wd n xs = 1 by unfold tchk; rw [if_pos h1])
    go_enter Try.func36, Try.ntmps36
    go_wp2_with fail
    go_ret
    exact ⟨by rw [E.out]; rfl, HB0.out⟩
  by_cases h2 : 32 < wd
  · have E := hidp (show tchk wd n xs = 1 by unfold tchk; rw [if_neg h1, if_pos h2])
    go_enter Try.func36, Try.ntmps36
    go_wp2_with fail
    go_ret
    exact ⟨by rw [E.out]; rfl, HB0.out⟩
  by_cases h3 : (n : Int) < 1
  · have E := hidp (show tchk wd n xs = 1 by unfold tchk; rw [if_neg h1, if_neg h2, if_pos (by omega)])
    go_enter Try.func36, Try.ntmps36
    go_wp2_with fail
    go_ret
    exact ⟨by rw [E.out]; rfl, HB0.out⟩
  by_cases h4 : 4 < (n : Int)
  · have E := hidp (show tchk wd n xs = 1 by unfold tchk; rw [if_neg h1, if_neg h2, if_neg (by omega), if_pos (by omega)])
    go_enter Try.func36, Try.ntmps36
    go_wp2_with fail
    go_ret
    exact ⟨by rw [E.out]; rfl, HB0.out⟩
  have E := hidp (show tchk wd n xs = tabE wd (xs.drop 0) by unfold tchk; rw [if_neg h1, if_neg h2, if_neg (by omega), if_neg (by omega)]; rfl)
  obtain ⟨b, o, rfl, hlt, hc⟩ := H.out.cells (by omega)
  have C := hidp (hc)
  have DG := hidp (fun k (hk : k < n) => drop_gl xs k (by omega))
  have c0 : (w.alloc (.cells #[.int .i64 wd, .slice (some ⟨b, o, none⟩) n c] 27)).cell? ⟨w.heap.size, 0, none⟩ = some (.int .i64 wd) := by go_simp
  have c1 : (w.alloc (.cells #[.int .i64 wd, .slice (some ⟨b, o, none⟩) n c] 27)).cell? ⟨w.heap.size, 1, none⟩ = some (.slice (some ⟨b, o, none⟩) n c) := by go_simp
  have LN := hidp ln
  clear hc H ln
  go_enter Try.func36, Try.ntmps36
  go_upto_region 1 with fail
  have HW := HB0.out
  generalize (w.alloc (.cells #[.int .i64 wd, .slice (some ⟨b, o, none⟩) n c] 27)) = w1 at *
  clear HB0
  go_wp2_with fail
  go_loop [30] (fun i => ∃ k : Nat, k ≤ n ∧ i = .int .i64 k ∧ tchk wd n xs = tabE wd (xs.drop k)) (fun i => n - (intOf i).toNat)
  case atStart => exact ⟨0, by omega, rfl, E.out⟩
  case round =>
    obtain ⟨k, hk, rfl, hE⟩ := hrel
    by_cases hlt2 : k < n
    · obtain ⟨ai, ni, ci, hcell, hI⟩ := C.out k hlt2
      have q := carry_cell ⟨hlt, hcell⟩ HW
      have D := DG.out k hlt2
      have li := hI.len
      have mi := hI.max
      have ei := hI.le
      by_cases hl : (ni : Int) = wd
      · have hb : ((ni : Int) != wd) = false := by rw [hl]; simp
        obtain ⟨bi, oi, rfl, hbi, hci⟩ := hI.addr (by omega)
        have CI := hidp hci
        have DI := hidp (fun j (hj : j < ni) => drop_gi (gl xs k) j (by omega))
        have HE := hidp hE
        have HD := hidp D
        have HL := hidp li
        generalize gl xs k = r at *
        clear hE D li hci hcell hI C DG
        go_wp2_with fail
        go_loop [41] (fun j => ∃ t : Nat, t ≤ ni ∧ j = .int .i64 t ∧ r.any cntP = (r.drop t).any cntP) (fun j => ni - (intOf j).toNat)
        case atStart => exact ⟨0, by omega, rfl, rfl⟩
        case round =>
          obtain ⟨t, ht, rfl, hA⟩ := hrel
          have HA := hidp hA
          clear hA
          by_cases hlt3 : t < ni
          · have q2 := carry_cell ⟨hbi, CI.out t hlt3⟩ HW
            have D2 := hidp (DI.out t hlt3)
            generalize gi r t = x at *
            by_cases p1 : x < 0
            · go_wp2_with fail
              go_ret
              refine ⟨?_, HW⟩
              rw [HE.out, HD.out]
              have e : rowE wd r = 1 := by
                unfold rowE
                rw [if_pos (by rw [HL.out]; exact hl), if_pos]
                rw [HA.out, D2.out, List.any_cons, (cntP_true x).2 (.inl p1)]; rfl
              simp only [tabE, e]
              rfl
            by_cases p2 : 1000000000000 < x
            · go_wp2_with fail
              go_ret
              refine ⟨?_, HW⟩
              rw [HE.out, HD.out]
              have e : rowE wd r = 1 := by
                unfold rowE
                rw [if_pos (by rw [HL.out]; exact hl), if_pos]
                rw [HA.out, D2.out, List.any_cons, (cntP_true x).2 (.inr p2)]; rfl
              simp only [tabE, e]
              rfl
            go_wp2_with fail
            go_round
            case rel => exact ⟨t + 1, by omega, by go_num, by rw [HA.out, D2.out, List.any_cons, (cntP_false x).2 (by omega)]; rfl⟩
            case measure => simp [intOf]; omega
          · obtain rfl : t = ni := by omega
            go_wp2_with fail
            go_round
            case rel =>
              refine ⟨k + 1, by omega, by go_num, ?_⟩
              rw [HE.out, HD.out]
              have e : rowE wd r = 0 := by
                unfold rowE
                rw [if_pos (by rw [HL.out]; exact hl), if_neg]
                rw [HA.out, List.drop_of_length_le (by rw [HL.out]; omega)]
                simp
              simp only [tabE, e]
              rfl
            case measure => simp [intOf]; omega
      · have hb : ((ni : Int) != wd) = true := by simp [hl]
        have HE := hidp hE
        have HD := hidp D
        have HL := hidp li
        clear hE D li
        go_wp2_with fail
        go_ret
        refine ⟨?_, HW⟩
        rw [HE.out, HD.out]
        have e : rowE wd (gl xs k) = 7 := by
          unfold rowE
          rw [if_neg (by rw [HL.out]; exact hl)]
        simp only [tabE, e]
        rfl
    · obtain rfl : k = n := by omega
      go_wp2_with fail
      go_ret
      refine ⟨?_, HW⟩
      rw [List.drop_of_length_le (by rw [LN.out]; omega)]
      rfl

theorem stN_int (k r : Nat) : ((k : Int) + ((r : Int) + 1) * 11400714819323198485) % 18446744073709551616 = ((stN k (r + 1) : Nat) : Int) := by
  unfold stN
  omega
theorem place_e (key : Int) (row : Nat) : IntKind.u64.wrap (IntKind.u64.wrap key + IntKind.u64.wrap (((row : Int) + 1) * 11400714819323198485)) = ((stN (keyN key) (row + 1) : Nat) : Int) := by
  rw [keyN_cast key, IntKind.wrap_u64, IntKind.wrap_u64, Int.add_emod_emod]
  exact stN_int _ _
set_option maxHeartbeats 2000000 in
theorem place_c (m : Nat) (a : Option Addr) (n c : Nat) (row : Nat) (key : Int) (w : World) (h1 : 1 ≤ m) (h2 : m ≤ 32) (hr : row ≤ 100) :
    Calls Try.prog 38 #[tabV m a n c, .int .i64 row, .int .i64 key] w fun e w' => e = .returned (.int .i64 (plc m key row : Nat)) ∧ Below w.heap.size w w' := by
  have hb0 : Below w.heap.size w (w.alloc (.cells #[.int .i64 (m : Nat), .slice a n c] 27)) := bal (Below.refl _ _) _
  have c0 : (w.alloc (.cells #[.int .i64 (m : Nat), .slice a n c] 27)).cell? ⟨w.heap.size, 0, none⟩ = some (.int .i64 (m : Nat)) := by go_simp
  have MC := hidp (fun W => mix_c (stN (keyN key) (row + 1)) (stN_lt _ _) W)
  have XE : plc m key row = mixN (stN (keyN key) (row + 1)) % m := rfl
  have X := mixN_lt (stN (keyN key) (row + 1))
  unfold tabV
  go_enter Try.func38, Try.ntmps38
  go_upto_region 1 with fail
  generalize (w.alloc (.cells #[.int .i64 (m : Nat), .slice a n c] 27)) = w1 at *
  have e1 : IntKind.u64.wrap (IntKind.u64.wrap key + IntKind.u64.wrap (((row : Int) + 1) * 11400714819323198485)) = ((stN (keyN key) (row + 1) : Nat) : Int) := place_e key row
  have E1 := hidp e1
  clear e1
  go_quiet ((go_at_call 48; rw [E1.out]; refine (MC.out _).mono ?_; rintro e w' ⟨rfl, rfl⟩; exact ⟨rfl, _, rfl⟩))
  have WR := hidp (show wrap64 (((mixN (stN (keyN key) (row + 1)) : Nat) : Int) % (m : Int)) = ((plc m key row : Nat) : Int) by
    rw [XE]
    have X2 : mixN (stN (keyN key) (row + 1)) % m < m := Nat.mod_lt _ (by omega)
    generalize mixN (stN (keyN key) (row + 1)) = x at *
    have : ((x : Int) % (m : Int)) = ((x % m : Nat) : Int) := by omega
    rw [this]
    exact IntWalk.wrap64_in _ ⟨by omega, by omega⟩)
  clear XE X E1
  go_wp2
  go_ret
  exact ⟨ret_int WR.out, below_drewN hb0 _⟩

theorem owns_below {w w' : World} {base : Nat} {e : TypeId} {size : Nat} {v : Value} {n : Nat} {xs : List Value} (h : w.ownsRow base e size v n xs) (hb : Below w.heap.size w w') : w'.ownsRow base e size v n xs := by
  rcases h.2 with ⟨rfl, h0⟩ | ⟨g, cap, cur, rfl, hg, hh, r⟩
  · exact ⟨h.1, .inl ⟨rfl, h0⟩⟩
  · exact ⟨h.1, .inr ⟨g, cap, cur, rfl, hg, (hb.block g (Array.getElem?_eq_some_iff.1 hh).1).trans hh, r⟩⟩
theorem nec {W : World} {P i : Nat} {v : Value} (h : W.cell? ⟨P, i, none⟩ = some v) : ¬ P = W.heap.size ∧ ¬ W.heap.size = P := by
  have h1 : P < W.heap.size := lt_of_cell h
  omega
theorem ltc {W : World} {P i : Nat} {v : Value} (h : W.cell? ⟨P, i, none⟩ = some v) : P < W.heap.size := lt_of_cell h
theorem coff {W : World} {b b' i j : Nat} {v u : Value} (h : W.cell? ⟨b, i, none⟩ = some v) (hne : b ≠ b') : (W.setCell ⟨b', j, none⟩ u).cell? ⟨b, i, none⟩ = some v := by
  rw [World.cell?_setCell_far _ _ _ _ (fun e => hne e.symm)]; exact h
theorem con {W : World} {b i j : Nat} {v u : Value} (h : W.cell? ⟨b, i, none⟩ = some v) (hne : i ≠ j) : (W.setCell ⟨b, j, none⟩ u).cell? ⟨b, i, none⟩ = some v := by
  rw [World.cell?_setCell_other _ _ _ _ (fun e => hne (by simp only [Addr.mk.injEq] at e; omega))]; exact h
theorem cset {W : World} {b i : Nat} {v u : Value} (h : W.cell? ⟨b, i, none⟩ = some v) : (W.setCell ⟨b, i, none⟩ u).cell? ⟨b, i, none⟩ = some u := World.cell?_setCell_same _ _ _ h
theorem frs {W : World} {p q : Addr} {u : Value} (h : W.frozen? q = false) : (W.setCell p u).frozen? q = false := by rw [← h]; simp
/-- A table that the call itself has made: the blocks of its rows, their room, what they hold. -/
structure OwnT (W : World) (B g n m : Nat) (G C : Nat → Nat) (T : Nat → Nat → Int) : Prop where
  lt : g < W.heap.size
  hd : ∀ i, i < n → W.cell? ⟨g, i, none⟩ = some (.slice (some ⟨G i, 0, none⟩) m (C i))
  row : ∀ i, i < n → W.ownsRow B 3 1 (.slice (some ⟨G i, 0, none⟩) m (C i)) m (tab (fun j => Value.int .i64 (T i j)) m)
  ne : ∀ i, i < n → G i ≠ g
  inj : ∀ i j, i < n → j < n → G i = G j → i = j
theorem OwnT.heap {W W' : World} {B g n m : Nat} {G C : Nat → Nat} {T : Nat → Nat → Int} (h : OwnT W B g n m G C T) (hs : W.heap.size ≤ W'.heap.size) (hg : W'.heap[g]? = W.heap[g]?) (hr : ∀ i, i < n → W'.heap[G i]? = W.heap[G i]?) : OwnT W' B g n m G C T :=
  ⟨Nat.lt_of_lt_of_le h.lt hs, fun i hi => by
    have := h.hd i hi
    unfold World.cell? at this ⊢
    rw [hg]; exact this, fun i hi => owns_heap (h.row i hi) (hr i hi), h.ne, h.inj⟩
theorem OwnT.ltG {W : World} {B g n m : Nat} {G C : Nat → Nat} {T : Nat → Nat → Int} (h : OwnT W B g n m G C T) (i : Nat) (hi : i < n) : B ≤ G i ∧ G i < W.heap.size := (h.row i hi).lt (G i) rfl
theorem OwnT.below {W W' : World} {B g n m : Nat} {G C : Nat → Nat} {T : Nat → Nat → Int} (h : OwnT W B g n m G C T) (hb : Below W.heap.size W W') : OwnT W' B g n m G C T :=
  h.heap hb.size (hb.block g h.lt) (fun i hi => hb.block _ (h.ltG i hi).2)
theorem OwnT.drew {W : World} {B g n m : Nat} {G C : Nat → Nat} {T : Nat → Nat → Int} (h : OwnT W B g n m G C T) : OwnT W.drew B g n m G C T := h.heap (Nat.le_refl _) rfl (fun _ _ => rfl)
/-- A store elsewhere. -/
theorem OwnT.far {W : World} {B g n m : Nat} {G C : Nat → Nat} {T : Nat → Nat → Int} (h : OwnT W B g n m G C T) (p : Addr) (h1 : p.block ≠ g) (h2 : ∀ i, i < n → p.block ≠ G i) (v : Value) : OwnT (W.setCell p v) B g n m G C T :=
  h.heap (by simp) (Below.heap_setCell _ _ _ _ (fun e => h1 e.symm)) (fun i hi => Below.heap_setCell _ _ _ _ (fun e => h2 i hi e.symm))
/-- A store into a row. -/
theorem OwnT.set {W : World} {B g n m : Nat} {G C : Nat → Nat} {T : Nat → Nat → Int} (h : OwnT W B g n m G C T) (i k : Nat) (hi : i < n) (v : Int) : OwnT (W.setCell ⟨G i, k, none⟩ (.int .i64 v)) B g n m G C (fun a b => if a = i ∧ b = k then v else T a b) := by
  refine ⟨by simpa using h.lt, fun a ha => ?_, fun a ha => ?_, h.ne, h.inj⟩
  · rw [World.cell?_setCell_far _ _ _ _ (fun e => h.ne i hi e)]
    exact h.hd a ha
  · by_cases e : a = i
    · subst e
      have := own_store_tab (h.row a ha) k (.int .i64 v)
      rw [tab_congr _ (fun j => Value.int .i64 (if a = a ∧ j = k then v else T a j)) m (fun j _ => by
        by_cases e : j = k
        · rw [if_pos e, if_pos ⟨rfl, e⟩]
        · rw [if_neg e, if_neg (fun h => e h.2)])] at this
      exact this
    · rw [tab_congr (fun j => Value.int .i64 (if a = i ∧ j = k then v else T a j)) (fun j => Value.int .i64 (T a j)) m (fun j _ => by rw [if_neg (fun h => e h.1)])]
      exact owns_heap (h.row a ha) (Below.heap_setCell _ _ _ _ (fun e2 => e (h.inj a i ha hi e2)))
theorem OwnT.congr {W : World} {B g n m : Nat} {G C : Nat → Nat} {T U : Nat → Nat → Int} (h : OwnT W B g n m G C T) (e : ∀ i j, i < n → j < m → T i j = U i j) : OwnT W B g n m G C U :=
  ⟨h.lt, h.hd, fun i hi => by
    rw [tab_congr (fun j => Value.int .i64 (U i j)) (fun j => Value.int .i64 (T i j)) m (fun j hj => by rw [e i j hi hj])]
    exact h.row i hi, h.ne, h.inj⟩
theorem OwnT.cell {W : World} {B g n m : Nat} {G C : Nat → Nat} {T : Nat → Nat → Int} (h : OwnT W B g n m G C T) (i j : Nat) (hi : i < n) (hj : j < m) : W.cell? ⟨G i, j, none⟩ = some (.int .i64 (T i j)) := by
  have := (h.row i hi).cellAt j (by omega)
  rw [tab_get _ _ _ hj] at this
  exact this
theorem OwnT.fro {W : World} {B g n m : Nat} {G C : Nat → Nat} {T : Nat → Nat → Int} (h : OwnT W B g n m G C T) (i j : Nat) (hi : i < n) : W.frozen? ⟨G i, j, none⟩ = false := (h.row i hi).frozenAt j
/-- It reads as rows. -/
theorem OwnT.rows {W : World} {B g n m cap : Nat} {G C : Nat → Nat} {T : Nat → Nat → Int} (h : OwnT W B g n m G C T) (h1 : n ≤ cap) (h2 : cap ≤ 9223372036854775807) (hT : ∀ i j, i < n → j < m → -9223372036854775808 ≤ T i j ∧ T i j ≤ 9223372036854775807) : RowsAt W (some ⟨g, 0, none⟩) n cap (tabL T m n) := by
  refine ⟨by unfold tabL; rw [tab_len], h1, h2, fun _ => ⟨g, 0, rfl, h.lt, fun i hi => ?_⟩⟩
  have hr := h.row i hi
  rw [← tab_map] at hr
  obtain ⟨a, c, hv, hI⟩ := owns_ints hr (fun x hx => by
    obtain ⟨j, hj, rfl⟩ := tab_mem _ _ _ hx
    exact hT i j hi hj)
  simp only [Value.slice.injEq] at hv
  obtain ⟨rfl, _, rfl⟩ := hv
  refine ⟨_, m, C i, by rw [Nat.zero_add]; exact h.hd i hi, ?_⟩
  rw [tabL_gl _ _ _ _ hi]
  exact hI
end Go.Proofs.Ytffocoflmbhknaa
