/- A region that draws its order, by an invariant: one obligation an operation, whatever the number of orders. -/
import Derived.Test.YtdfghgeccannnaaDoorStep
import Derived.Orders
import Derived.Laws.World
namespace Go.Proofs.YtdfghgeccannnaaDoor
open Go
section
variable {P : Program} {ops : Array Oper} {Q : Exit → Act → World → Prop}
def updV (V : Nat → Value) (i : Nat) (v : Value) : Nat → Value := fun j => if j = i then v else V j
def dstOf (ops : Array Oper) (i : Nat) : Option Tmp := (ops[i]?).bind (·.dst)
/-- What the operations that have come up have left in the temporaries. -/
def putM (ops : Array Oper) (L : Array Bool) (V : Nat → Value) (a : Act) : Nat → Act
  | 0 => a
  | n + 1 => if L.getD n false = true then (putM ops L V a n).put (dstOf ops n) (V n) else putM ops L V a n
/-- No two operations write one temporary. -/
def Dist (ops : Array Oper) : Prop := ∀ i j d, i < ops.size → j < ops.size → dstOf ops i = some d → dstOf ops j = some d → i = j
theorem getD_set_self {L : Array Bool} {i : Nat} (h : i < L.size) (b : Bool) : (L.setIfInBounds i true).getD i b = true := by
  simp [Array.getD, h]
theorem getD_set_other {L : Array Bool} {i j : Nat} (h : i ≠ j) (b : Bool) : (L.setIfInBounds i true).getD j b = L.getD j b := by
  unfold Array.getD
  simp only [Array.size_setIfInBounds]
  split
  · exact Array.getElem_setIfInBounds_ne (by assumption) h
  · rfl
theorem putM_skip (L : Array Bool) (V : Nat → Value) (a : Act) (i : Nat) (v : Value) : ∀ n, n ≤ i → putM ops (L.setIfInBounds i true) (updV V i v) a n = putM ops L V a n
  | 0, _ => rfl
  | n + 1, h => by
    have e1 : (L.setIfInBounds i true).getD n false = L.getD n false := getD_set_other (by omega) _
    have e2 : updV V i v n = V n := by unfold updV; rw [if_neg (by omega)]
    simp only [putM, e1, e2, putM_skip L V a i v n (by omega)]
theorem putM_set (hd : Dist ops) (L : Array Bool) (V : Nat → Value) (a : Act) (i : Nat) (v : Value) (hi : i < L.size) (hL : L.getD i false = false) : ∀ n, i < n → n ≤ ops.size → putM ops (L.setIfInBounds i true) (updV V i v) a n = (putM ops L V a n).put (dstOf ops i) v
  | 0, h, _ => by omega
  | n + 1, h, hn => by
    by_cases e : i = n
    · subst e
      have e1 : (L.setIfInBounds i true).getD i false = true := getD_set_self hi _
      have e2 : updV V i v i = v := by unfold updV; rw [if_pos rfl]
      simp only [putM, e1, e2, hL, if_true, putM_skip L V a i v i (Nat.le_refl _)]
      rfl
    · have e1 : (L.setIfInBounds i true).getD n false = L.getD n false := getD_set_other (by omega) _
      have e2 : updV V i v n = V n := by unfold updV; rw [if_neg (by omega)]
      simp only [putM, e1, e2, putM_set hd L V a i v hi hL n (by omega) (by omega)]
      by_cases hb : L.getD n false = true
      · rw [if_pos hb, if_pos hb]
        exact Act.put_comm _ v (V n) (fun d h1 h2 => e (hd i n d (by omega) (by omega) h1 h2))
      · rw [if_neg hb, if_neg hb]
theorem put_size (a : Act) (x : Option Tmp) (v : Value) : (a.put x v).tmps.size = a.tmps.size := by
  cases x <;> simp [Act.put]
theorem putM_size (L : Array Bool) (V : Nat → Value) (a : Act) : ∀ n, (putM ops L V a n).tmps.size = a.tmps.size
  | 0 => rfl
  | n + 1 => by
    simp only [putM]
    split
    · rw [put_size, putM_size L V a n]
    · exact putM_size L V a n
theorem eval_put_ne (a : Act) (x : Option Tmp) (v : Value) (s : Tmp) (h : x ≠ some s) : (a.put x v).eval (.tmp s) = a.eval (.tmp s) := by
  cases x with
  | none => rfl
  | some d =>
    have hne : d ≠ s := fun e => h (by rw [e])
    simp only [Act.put, Act.eval]
    unfold Array.getD
    simp only [Array.size_setIfInBounds]
    split
    · exact Array.getElem_setIfInBounds_ne (by assumption) hne
    · rfl
theorem eval_put_self (a : Act) (v : Value) (s : Tmp) (h : s < a.tmps.size) : (a.put (some s) v).eval (.tmp s) = v := by
  simp only [Act.put, Act.eval]
  simp [Array.getD, h]
theorem putM_out (L : Array Bool) (V : Nat → Value) (a : Act) (s : Tmp) : ∀ n, (∀ j, j < n → dstOf ops j ≠ some s) → (putM ops L V a n).eval (.tmp s) = a.eval (.tmp s)
  | 0, _ => rfl
  | n + 1, h => by
    simp only [putM]
    split
    · rw [eval_put_ne _ _ _ _ (h n (by omega)), putM_out L V a s n (fun j hj => h j (by omega))]
    · exact putM_out L V a s n (fun j hj => h j (by omega))
theorem putM_in (hd : Dist ops) (L : Array Bool) (V : Nat → Value) (a : Act) (s : Tmp) (j : Nat) (hj : dstOf ops j = some s) (hL : L.getD j false = true) (hs : s < a.tmps.size) : ∀ n, j < n → n ≤ ops.size → (putM ops L V a n).eval (.tmp s) = V j
  | 0, h, _ => by omega
  | n + 1, h, hn => by
    by_cases e : j = n
    · subst e
      simp only [putM, hL, if_true, hj]
      exact eval_put_self _ _ _ (by rw [putM_size]; exact hs)
    · have ih := putM_in hd L V a s j hj hL hs n (by omega) (by omega)
      simp only [putM]
      split
      · rw [eval_put_ne _ _ _ _ (fun h2 => e (hd j n s (by omega) (by omega) hj h2)), ih]
      · exact ih
theorem putM_const (L : Array Bool) (V : Nat → Value) (a : Act) (x : Operand) (hx : ∀ s, x ≠ .tmp s) : ∀ n, (putM ops L V a n).eval x = a.eval x
  | 0 => rfl
  | n + 1 => by
    have hp : ∀ (b : Act) d v, (b.put d v).eval x = b.eval x := fun b d v => by
      cases x with
      | tmp s => exact absurd rfl (hx s)
      | _ => cases d <;> rfl
    simp only [putM]
    split
    · rw [hp, putM_const L V a x hx n]
    · exact putM_const L V a x hx n
theorem putM_all (V : Nat → Value) (a : Act) : ∀ n, n ≤ ops.size → putM ops (Array.replicate ops.size true) V a (n + 1) = if n < ops.size then (putM ops (Array.replicate ops.size true) V a n).put (dstOf ops n) (V n) else putM ops (Array.replicate ops.size true) V a n := fun n _ => by
  simp only [putM, Array.getD]
  by_cases h : n < ops.size
  · simp [h]
  · simp [h]
/-- The operations run in some order; what each needs has run; so the least that has not run may run. -/
theorem ready_nil {md : Region.Mode} {L : Array Bool} (hs : L.size = ops.size) (hac : ∀ (i : Nat) (o : Oper), ops[i]? = some o → ∀ e ∈ o.after, Region.binds md e = true → e.on < i) (h : Region.ready md ops L = []) : ∀ i, i < ops.size → L.getD i false = true := by
  intro i
  induction i using Nat.strongRecOn with
  | ind i ih =>
    intro hi
    by_cases hL : L.getD i false = true
    · exact hL
    · exfalso
      have hL2 : L.getD i true = false := by
        have hi' : i < L.size := by omega
        simp [Array.getD, hi'] at hL ⊢
        exact hL
      have : i ∈ Region.ready md ops L := by
        unfold Region.ready
        rw [List.mem_filter]
        refine ⟨List.mem_range.2 hi, ?_⟩
        rw [hL2, Array.getElem?_eq_getElem hi]
        simp only [Bool.not_false, Bool.true_and, Option.map_some, Option.getD_some]
        rw [Array.all_eq_true']
        intro e he
        by_cases hb : Region.binds md e = true
        · have := hac i _ (Array.getElem?_eq_getElem hi) e he hb
          rw [ih e.on this (by omega)]; simp
        · simp only [Bool.not_eq_true] at hb
          rw [hb]; rfl
      rw [h] at this
      cases this
theorem all_true {L : Array Bool} {n : Nat} (hs : L.size = n) (h : ∀ i, i < n → L.getD i false = true) : L = Array.replicate n true := by
  apply Array.ext
  · simp [hs]
  · intro i h1 h2
    have := h i (by omega)
    simp [Array.getD, h1] at this
    simp [this]
theorem wpAny_inv {md : Region.Mode} {a : Act} (hd : Dist ops) (hg : ∀ (i : Nat) (o : Oper), ops[i]? = some o → o.guard = none) (hac : ∀ (i : Nat) (o : Oper), ops[i]? = some o → ∀ e ∈ o.after, Region.binds md e = true → e.on < i)
    (K : Array Bool → (Nat → Value) → World → Prop)
    (hst : ∀ (i : Nat) (o : Oper), ops[i]? = some o → ∀ L V w, L.size = ops.size → L.getD i false = false → (∀ e ∈ o.after, Region.binds md e = true → L.getD e.on false = true) → K L V w →
      Oper.wp P o (putM ops L V a ops.size) w (fun a' w' => ∃ v, a' = (putM ops L V a ops.size).put o.dst v ∧ K (L.setIfInBounds i true) (updV V i v) w') Q)
    (hfin : ∀ V w, K (Array.replicate ops.size true) V w → Q .normal (putM ops (Array.replicate ops.size true) V a ops.size) w) :
    ∀ (fuel : Nat) (L : Array Bool) (V : Nat → Value) (w : World), L.size = ops.size → L.toList.count false ≤ fuel → K L V w → wpAny P md ops Q fuel L (putM ops L V a ops.size) w := by
  have done : ∀ (L : Array Bool) V w, L.size = ops.size → K L V w → Region.ready md ops L = [] → Q .normal (putM ops L V a ops.size) w := fun L V w hs hK hr => by
    have := all_true hs (ready_nil hs hac hr)
    subst this
    exact hfin V w hK
  intro fuel
  induction fuel with
  | zero =>
    intro L V w hs hc hK
    have hr : Region.ready md ops L = [] := by
      rw [List.eq_nil_iff_forall_not_mem]
      intro i hi
      unfold Region.ready at hi
      have h1 := (List.mem_filter.1 hi)
      have hlt : i < L.size := by rw [hs]; exact List.mem_range.1 h1.1
      have h2 := h1.2
      rw [Bool.and_eq_true] at h2
      have h3 : L[i] = false := by
        have := h2.1
        simp [Array.getD, hlt] at this
        exact this
      have : 0 < L.toList.count false := List.count_pos_iff.2 (by rw [← h3]; exact Array.getElem_mem_toList hlt)
      omega
    exact ⟨hr, done L V w hs hK hr⟩
  | succ fuel ih =>
    intro L V w hs hc hK
    refine ⟨fun hr => done L V w hs hK hr, fun i hi => ?_⟩
    unfold Region.ready at hi
    have h1 := List.mem_filter.1 hi
    have hlt : i < ops.size := List.mem_range.1 h1.1
    have h2 := h1.2
    rw [Bool.and_eq_true] at h2
    have hlL : i < L.size := by omega
    have h3 : L[i] = false := by
      have := h2.1
      simp [Array.getD, hlL] at this
      exact this
    have hL : L.getD i false = false := by simp [Array.getD, hlL, h3]
    have ho : ops[i]? = some ops[i] := Array.getElem?_eq_getElem hlt
    have h4 := h2.2
    rw [ho] at h4
    simp only [Option.map_some, Option.getD_some] at h4
    rw [Array.all_eq_true'] at h4
    have hb : ∀ e ∈ ops[i].after, Region.binds md e = true → L.getD e.on false = true := fun e he hbe => by
      have := h4 e he
      rw [hbe] at this
      simpa using this
    have hw := hst i ops[i] ho L V w hs hL hb hK
    unfold wpOp
    simp only [ho]
    have hwant : Region.wanted ops[i] (yielded ops (putM ops L V a ops.size).tmps) = true := by simp [Region.wanted, hg i _ ho]
    rw [if_pos hwant]
    refine .inl (Oper.wp_mono ?_ hw)
    rintro a' w' ⟨v, rfl, hK'⟩
    have e1 : (putM ops L V a ops.size).put ops[i].dst v = putM ops (L.setIfInBounds i true) (updV V i v) a ops.size := by
      rw [putM_set hd L V a i v hlL hL ops.size hlt (Nat.le_refl _)]
      unfold dstOf; rw [ho]; rfl
    rw [e1]
    refine ih (L.setIfInBounds i true) (updV V i v) w' (by simpa using hs) ?_ hK'
    have hcount : (L.setIfInBounds i true).toList.count false + 1 = L.toList.count false := by
      rw [Array.toList_setIfInBounds, List.count_set (by simpa using hlL)]
      have : 0 < L.toList.count false := List.count_pos_iff.2 (by rw [← h3]; exact Array.getElem_mem_toList hlL)
      rw [if_pos (by simp [h3]), if_neg (by simp)]
      omega
    omega
/-- A region that draws its order, by an invariant. -/
theorem region_inv {id : Nat} {a : Act} {w : World} (hm : P.follows .mixedOrders = true) (hd : Dist ops) (hg : ∀ (i : Nat) (o : Oper), ops[i]? = some o → o.guard = none) (hac : ∀ (i : Nat) (o : Oper), ops[i]? = some o → ∀ e ∈ o.after, Region.binds .any e = true → e.on < i)
    (K : Array Bool → (Nat → Value) → World → Prop) (V0 : Nat → Value) (h0 : K (Array.replicate ops.size false) V0 w.drew)
    (hst : ∀ (i : Nat) (o : Oper), ops[i]? = some o → ∀ L V w, L.size = ops.size → L.getD i false = false → (∀ e ∈ o.after, Region.binds .any e = true → L.getD e.on false = true) → K L V w →
      Oper.wp P o (putM ops L V a ops.size) w (fun a' w' => ∃ v, a' = (putM ops L V a ops.size).put o.dst v ∧ K (L.setIfInBounds i true) (updV V i v) w') Q)
    (hfin : ∀ V w, K (Array.replicate ops.size true) V w → Q .normal (putM ops (Array.replicate ops.size true) V a ops.size) w) : (Code.region id ops true).wp P Q a w := by
  refine wp_region_any hm ?_
  have h1 : putM ops (Array.replicate ops.size false) V0 a ops.size = a := by
    have : ∀ n, putM ops (Array.replicate ops.size false) V0 a n = a := by
      intro n
      induction n with
      | zero => rfl
      | succ n ih =>
        simp only [putM]
        rw [if_neg (by simp [Array.getD])]
        exact ih
    exact this _
  have h2 := wpAny_inv hd hg hac K hst hfin ops.size (Array.replicate ops.size false) V0 w.drew (by simp) (by simp) h0
  rw [h1] at h2
  exact h2
/-- The three facts on a region's operations, as one Bool. -/
def okB (md : Region.Mode) (ops : Array Oper) : Bool :=
  (List.range ops.size).all fun i => match ops[i]? with
    | none => true
    | some o => o.guard.isNone && o.after.all (fun e => !Region.binds md e || decide (e.on < i)) && (List.range i).all (fun j => match dstOf ops j, o.dst with
      | some d, some d' => decide (d ≠ d')
      | _, _ => true)
theorem okB_at {md : Region.Mode} (h : okB md ops = true) (i : Nat) (o : Oper) (ho : ops[i]? = some o) : o.guard = none ∧ (∀ e ∈ o.after, Region.binds md e = true → e.on < i) ∧ ∀ j d, j < i → dstOf ops j = some d → o.dst ≠ some d := by
  have hi : i < ops.size := (Array.getElem?_eq_some_iff.1 ho).1
  have h1 := List.all_eq_true.1 h i (List.mem_range.2 hi)
  rw [ho] at h1
  simp only [Bool.and_eq_true] at h1
  obtain ⟨⟨h2, h3⟩, h4⟩ := h1
  refine ⟨by simpa using h2, fun e he hb => ?_, fun j d hj hd hd' => ?_⟩
  · rw [Array.all_eq_true'] at h3
    have := h3 e he
    rw [hb] at this
    simpa using this
  · have := List.all_eq_true.1 h4 j (List.mem_range.2 hj)
    rw [hd, hd'] at this
    simp at this
theorem okB_dist {md : Region.Mode} (h : okB md ops = true) : Dist ops := by
  intro i j d hi hj h1 h2
  have oi : ops[i]? = some ops[i] := Array.getElem?_eq_getElem hi
  have oj : ops[j]? = some ops[j] := Array.getElem?_eq_getElem hj
  have e1 : ops[i].dst = some d := by unfold dstOf at h1; rw [oi] at h1; exact h1
  have e2 : ops[j].dst = some d := by unfold dstOf at h2; rw [oj] at h2; exact h2
  rcases Nat.lt_trichotomy i j with hlt | heq | hgt
  · exact absurd e2 ((okB_at h j _ oj).2.2 i d hlt h1)
  · exact heq
  · exact absurd e1 ((okB_at h i _ oi).2.2 j d hgt h2)
/-- What an operation sees of the region's temporaries. -/
structure Sees (ops : Array Oper) (L : Array Bool) (V : Nat → Value) (a b : Act) : Prop where
  got : ∀ j s, dstOf ops j = some s → j < ops.size → L.getD j false = true → s < a.tmps.size → b.eval (.tmp s) = V j
  old : ∀ s, (∀ j, j < ops.size → dstOf ops j ≠ some s) → b.eval (.tmp s) = a.eval (.tmp s)
theorem region_law {id : Nat} {a : Act} {w : World} (hm : P.follows .mixedOrders = true) (hB : okB .any ops = true)
    (K : Array Bool → (Nat → Value) → World → Prop) (V0 : Nat → Value) (h0 : K (Array.replicate ops.size false) V0 w.drew)
    (hst : ∀ (i : Nat) (o : Oper), ops[i]? = some o → ∀ L V w b, Sees ops L V a b → L.size = ops.size → L.getD i false = false → (∀ e ∈ o.after, Region.binds .any e = true → L.getD e.on false = true) → K L V w →
      Oper.wp P o b w (fun a' w' => ∃ v, a' = b.put o.dst v ∧ K (L.setIfInBounds i true) (updV V i v) w') Q)
    (hfin : ∀ V w, K (Array.replicate ops.size true) V w → Q .normal (putM ops (Array.replicate ops.size true) V a ops.size) w) : (Code.region id ops true).wp P Q a w :=
  region_inv hm (okB_dist hB) (fun i o ho => (okB_at hB i o ho).1) (fun i o ho => (okB_at hB i o ho).2.1) K V0 h0
    (fun i o ho L V w hs hL hb hK => hst i o ho L V w _ ⟨fun j s hj hlt hLj hsz => putM_in (okB_dist hB) L V a s j hj hLj hsz ops.size hlt (Nat.le_refl _), fun s hn => putM_out L V a s ops.size hn⟩ hs hL hb hK) hfin
/-- One obligation an operation, down the list. -/
def allOps (T : Nat → Oper → Prop) : List Oper → Nat → Prop
  | [], _ => True
  | o :: r, i => T i o ∧ allOps T r (i + 1)
theorem allOps_at {T : Nat → Oper → Prop} : ∀ (l : List Oper) (k : Nat), allOps T l k → ∀ i o, l[i]? = some o → T (k + i) o
  | [], _, _, i, o, ho => by simp at ho
  | x :: r, k, h, 0, o, ho => by
    simp at ho; subst ho; exact h.1
  | x :: r, k, h, i + 1, o, ho => by
    have := allOps_at r (k + 1) h.2 i o (by simpa using ho)
    rw [show k + (i + 1) = k + 1 + i by omega]; exact this
/-- What an operation sees: the values of those that have run (D), the rest as before the region. -/
structure Sees2 (ops : Array Oper) (D : Nat → Bool) (V : Nat → Value) (a b : Act) : Prop where
  got : ∀ j s, D j = true → dstOf ops j = some s → j < ops.size → s < a.tmps.size → b.eval (.tmp s) = V j
  old : ∀ s, (List.range ops.size).all (fun j => dstOf ops j != some s) = true → b.eval (.tmp s) = a.eval (.tmp s)
def updD (D : Nat → Bool) (i : Nat) : Nat → Bool := fun j => if j = i then true else D j
theorem updD_self (D : Nat → Bool) (i : Nat) : updD D i i = true := by simp [updD]
theorem updD_ne (D : Nat → Bool) {i j : Nat} (h : j ≠ i) : updD D i j = D j := by simp [updD, h]
theorem updV_self (V : Nat → Value) (i : Nat) (v : Value) : updV V i v i = v := by simp [updV]
theorem updV_ne (V : Nat → Value) {i j : Nat} (v : Value) (h : j ≠ i) : updV V i v j = V j := by simp [updV, h]
/-- The duty of one operation. -/
def Duty (P : Program) (ops : Array Oper) (a : Act) (K : (Nat → Bool) → (Nat → Value) → World → Prop) (Q : Exit → Act → World → Prop) (i : Nat) (o : Oper) : Prop :=
  ∀ (D : Nat → Bool) (V : Nat → Value) (w : World) (b : Act), Sees2 ops D V a b → D i = false → (∀ (k : Nat) (e : Edge), o.after[k]? = some e → Region.binds .any e = true → D e.on = true) → K D V w →
    Oper.wp P o b w (fun a' w' => ∃ v, a' = b.put o.dst v ∧ K (updD D i) (updV V i v) w') Q
theorem region_duty {id : Nat} {a : Act} {w : World} (hm : P.follows .mixedOrders = true) (hB : okB .any ops = true)
    (K : (Nat → Bool) → (Nat → Value) → World → Prop) (V0 : Nat → Value) (h0 : K (fun _ => false) V0 w.drew)
    (hst : allOps (Duty P ops a K Q) ops.toList 0)
    (hfin : ∀ D V w, (∀ i, i < ops.size → D i = true) → K D V w → Q .normal (putM ops (Array.replicate ops.size true) V a ops.size) w) : (Code.region id ops true).wp P Q a w := by
  refine region_law hm hB (fun L V w => K (fun j => L.getD j false) V w) V0 ?_ (fun i o ho L V w b hs hL hf hb hK => ?_) (fun V w hK => hfin _ V w (fun i hi => by simp [Array.getD, hi]) hK)
  · have : (fun j => (Array.replicate ops.size false).getD j false) = fun _ => false := by
      funext j
      simp [Array.getD]
    rw [this]; exact h0
  · have hi : i < ops.size := (Array.getElem?_eq_some_iff.1 ho).1
    have h1 := allOps_at ops.toList 0 hst i o (by simpa using ho)
    rw [Nat.zero_add] at h1
    have e : (fun j => (L.setIfInBounds i true).getD j false) = updD (fun j => L.getD j false) i := by
      funext j
      unfold updD
      by_cases hj : j = i
      · subst hj
        rw [if_pos rfl, getD_set_self (by omega)]
      · rw [if_neg hj, getD_set_other (fun h => hj h.symm)]
    rw [e]
    refine h1 (fun j => L.getD j false) V w b ⟨fun j s hD hd hlt hsz => hs.got j s hd hlt hD hsz, fun s hn => hs.old s (fun j hj hd => ?_)⟩ hf (fun k e he hbe => hb e (Array.mem_of_getElem? he) hbe) hK
    have := List.all_eq_true.1 hn j (List.mem_range.2 hj)
    rw [hd] at this
    simp at this
theorem op_value {o : Oper} {a : Act} {w w' : World} {K : Act → World → Prop} {v : Value} (hr : (execOp a.eval o).run P w = .ok (.value v) w') (h : K (a.put o.dst v) w') : Oper.wp P o a w K Q := by
  unfold Oper.wp; rw [hr]; exact h
theorem op_skip {o : Oper} {a : Act} {w w' : World} {K : Act → World → Prop} (hr : (execOp a.eval o).run P w = .ok .skip w') (h : K (a.put o.dst undef) w') : Oper.wp P o a w K Q := by
  unfold Oper.wp; rw [hr]; exact h
theorem op_call {o : Oper} {a : Act} {w : World} {K : Act → World → Prop} (g : Nat) (xs : Array Operand) (ts : Array TypeId) (hop : o.op = Op.call { callee := Callee.value (Operand.func g), args := xs, argTypes := ts })
    (eg : ∀ args w, (callFunc g args).run P w = .ok (.enter g args) w) (vs : Array Value) (hvs : xs.map a.eval = vs) (R : Ending → World → Prop) (hc : Calls P g vs w R)
    (hK : ∀ e w', R e w' → ∃ v, e = .returned v ∧ K (a.put o.dst v) w') : Oper.wp P o a w K Q := by
  unfold Oper.wp
  have hr : (execOp a.eval o).run P w = .ok (.enter g vs) w := by
    simp [execOp, hop, resolve, invoke, hvs, eg, Act.eval, Deferred.ofValue]
  rw [hr]
  exact hc.mono (fun e w' h => by
    obtain ⟨v, rfl, hk⟩ := hK e w' h
    exact hk)
end
end Go.Proofs.YtdfghgeccannnaaDoor
