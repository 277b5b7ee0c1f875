/- All ways to deal: each order just once (plain law). -/
import Derived.Test.YtpdigiefldnpaaaPermBack
import Derived.Test.YtpdigiefldnpaaaDeal
import Derived.Test.YtpdigiefldnpaaaEach
import Derived.Test.YtpdigiefldnpaaaMapN
namespace Go.Proofs.Ytpdigiefldnpaaa
open OdoMath
set_option maxRecDepth 20000
/-- So many ways has each place. -/
def bds (n : Nat) : List Int := tab (fun i => (i : Int) + 1) n
theorem bn_bds (n j : Nat) (h : j < n) : bn (bds n) j = j + 1 := by
  unfold bn bds
  rw [tab_gi _ _ _ h]; omega
theorem prd_bds (n : Nat) : ∀ k, k ≤ n → prd (bn (bds n)) k = fct k
  | 0, _ => rfl
  | k + 1, h => by
    simp only [prd, fct]
    rw [prd_bds n k (by omega), bn_bds n k (by omega), Nat.mul_comm]
theorem way_gi (bs : List Int) (n t j : Nat) (h : j < n) : gi (way bs n t) j = (dgt (bn bs) t j : Int) := tab_gi _ _ _ h
theorem way_bd (n t : Nat) : ∀ i, i < n → 0 ≤ gi (way (bds n) n t) i ∧ gi (way (bds n) n t) i ≤ i := by
  intro i hi
  rw [way_gi _ _ _ _ hi]
  have := dgt_lt (bn (bds n)) t i (by rw [bn_bds n i hi]; omega)
  rw [bn_bds n i hi] at this
  omega
/-- Two places change. -/
def trn (i d j : Nat) : Nat := if j = i then d else if j = d then i else j
theorem swp_trn (f : Nat → Int) (i d j : Nat) : swp f i d j = f (trn i d j) := by
  unfold swp trn
  by_cases h1 : j = i
  · rw [if_pos h1, if_pos h1]
  · rw [if_neg h1, if_neg h1]
    by_cases h2 : j = d
    · rw [if_pos h2, if_pos h2]
    · rw [if_neg h2, if_neg h2]
theorem trn_trn (i d j : Nat) : trn i d (trn i d j) = j := by
  unfold trn
  by_cases h1 : j = i
  · rw [if_pos h1]
    by_cases h2 : d = i
    · rw [if_pos h2]; omega
    · rw [if_neg h2, if_pos rfl]; exact h1.symm
  · rw [if_neg h1]
    by_cases h2 : j = d
    · rw [if_pos h2, if_pos rfl]; exact h2.symm
    · rw [if_neg h2, if_neg h1, if_neg h2]
theorem trn_lt (i d j n : Nat) (hi : i < n) (hd : d < n) (hj : j < n) : trn i d j < n := by
  unfold trn
  split
  · exact hd
  · split
    · exact hi
    · exact hj
theorem trn_far (i d j : Nat) (h1 : i < j) (h2 : d ≤ i) : trn i d j = j := by
  unfold trn
  rw [if_neg (by omega), if_neg (by omega)]
theorem deal_perm (n : Nat) (ds : List Int) (hd : ∀ i, i < n → 0 ≤ gi ds i ∧ gi ds i ≤ i) : ∀ k, k ≤ n → (∀ j, j < n → 0 ≤ dealF (idn n) ds k j ∧ dealF (idn n) ds k j < n) ∧ (∀ i j, i < n → j < n → dealF (idn n) ds k i = dealF (idn n) ds k j → i = j) ∧ (∀ j, k ≤ j → j < n → dealF (idn n) ds k j = (j : Int))
  | 0, _ => by
    have e : ∀ j, j < n → dealF (idn n) ds 0 j = (j : Int) := fun j hj => tab_gi _ _ _ hj
    refine ⟨fun j hj => by rw [e j hj]; omega, fun i j hi hj h => by rw [e i hi, e j hj] at h; omega, fun j _ hj => e j hj⟩
  | k + 1, hk => by
    obtain ⟨h1, h2, h3⟩ := deal_perm n ds hd k (by omega)
    have hdk := hd k (by omega)
    have hdn : (gi ds k).toNat < n := by omega
    have hdl : (gi ds k).toNat ≤ k := by omega
    have e : ∀ j, dealF (idn n) ds (k + 1) j = dealF (idn n) ds k (trn k (gi ds k).toNat j) := fun j => swp_trn _ _ _ _
    refine ⟨fun j hj => by rw [e]; exact h1 _ (trn_lt _ _ _ _ (by omega) hdn hj), fun i j hi hj h => ?_, fun j hj hjn => by rw [e, trn_far _ _ _ (by omega) hdl]; exact h3 j (by omega) hjn⟩
    rw [e, e] at h
    have := h2 _ _ (trn_lt _ _ _ _ (by omega) hdn hi) (trn_lt _ _ _ _ (by omega) hdn hj) h
    have h4 := congrArg (trn k (gi ds k).toNat) this
    rw [trn_trn, trn_trn] at h4
    exact h4
theorem deal_inj (n : Nat) (ds es : List Int) (hd : ∀ i, i < n → 0 ≤ gi ds i ∧ gi ds i ≤ i) (he : ∀ i, i < n → 0 ≤ gi es i ∧ gi es i ≤ i) : ∀ k, k ≤ n → (∀ j, j < n → dealF (idn n) ds k j = dealF (idn n) es k j) → ∀ i, i < k → gi ds i = gi es i
  | 0, _, _, i, hi => by omega
  | k + 1, hk, h, i, hi => by
    have hdk := hd k (by omega)
    have hek := he k (by omega)
    obtain ⟨_, _, d3⟩ := deal_perm n ds hd k (by omega)
    obtain ⟨_, e2, e3⟩ := deal_perm n es he k (by omega)
    have ed : ∀ j, dealF (idn n) ds (k + 1) j = dealF (idn n) ds k (trn k (gi ds k).toNat j) := fun j => swp_trn _ _ _ _
    have ee : ∀ j, dealF (idn n) es (k + 1) j = dealF (idn n) es k (trn k (gi es k).toNat j) := fun j => swp_trn _ _ _ _
    have hdn : (gi ds k).toNat < n := by omega
    have hen : (gi es k).toNat < n := by omega
    have t1 : trn k (gi ds k).toNat (gi ds k).toNat = k := by
      unfold trn
      by_cases h1 : (gi ds k).toNat = k
      · rw [if_pos h1]; exact h1
      · rw [if_neg h1, if_pos rfl]
    have q := h (gi ds k).toNat hdn
    rw [ed, ee, t1, d3 k (Nat.le_refl _) (by omega), ← e3 k (Nat.le_refl _) (by omega)] at q
    have q2 := e2 _ _ (by omega) (trn_lt _ _ _ _ (by omega) hen hdn) q
    have q3 := congrArg (trn k (gi es k).toNat) q2
    rw [trn_trn] at q3
    have t2 : trn k (gi es k).toNat k = (gi es k).toNat := by unfold trn; rw [if_pos rfl]
    rw [t2] at q3
    have q4 : gi ds k = gi es k := by omega
    by_cases hik : i = k
    · rw [hik]; exact q4
    · refine deal_inj n ds es hd he k (by omega) (fun j hj => ?_) i (by omega)
      have r := h (trn k (gi ds k).toNat j) (trn_lt _ _ _ _ (by omega) hdn hj)
      rw [ed, ee, trn_trn, ← q4, trn_trn] at r
      exact r
theorem dgt_inj (b : Nat → Nat) (n : Nat) (h1 : ∀ j, j < n → 1 ≤ b j) (t s : Nat) (ht : t < prd b n) (hs : s < prd b n) (h : ∀ j, j < n → dgt b t j = dgt b s j) : t = s := by
  have key : ∀ d, d ≤ n → qv b t (n - d) = qv b s (n - d) := by
    intro d
    induction d with
    | zero => intro _; rw [Nat.sub_zero, (qv_zero b t n h1).2 ht, (qv_zero b s n h1).2 hs]
    | succ d ih =>
      intro hd
      have i1 := ih (by omega)
      obtain ⟨m, hm⟩ : ∃ m, n - d = m + 1 := ⟨n - d - 1, by omega⟩
      rw [hm] at i1
      rw [show n - (d + 1) = m by omega]
      have a := Nat.div_add_mod (qv b t m) (b m)
      have c := Nat.div_add_mod (qv b s m) (b m)
      have e := h m (by omega)
      unfold dgt at e
      simp only [qv] at i1
      rw [← a, ← c, i1, e]
  have := key n (Nat.le_refl _)
  rw [Nat.sub_self] at this
  exact this
/-- The row that way t deals, and its rank. -/
def dealt (n t : Nat) : List Int := tab (dealF (idn n) (way (bds n) n t) n) n
def drk (n t : Nat) : Nat := rkD (dealt n t) n n
theorem dealt_ok (n t : Nat) (hn : n ≤ 12) : PermOk (dealt n t) n := by
  obtain ⟨h1, h2, _⟩ := deal_perm n _ (way_bd n t) n (Nat.le_refl _)
  refine ⟨hn, fun i hi => ?_⟩
  unfold dealt
  rw [tab_gi _ _ _ hi]
  refine ⟨(h1 i hi).1, (h1 i hi).2, fun j hj e => ?_⟩
  rw [tab_gi _ _ _ (by omega)] at e
  have := h2 j i (by omega) hi e
  omega
theorem drk_inj (n t s : Nat) (hn : n ≤ 12) (ht : t < fct n) (hs : s < fct n) (h : drk n t = drk n s) : t = s := by
  have a := (order_rank (dealt n t) n (tab_len _ _) (dealt_ok n t hn)).2
  have b := (order_rank (dealt n s) n (tab_len _ _) (dealt_ok n s hn)).2
  unfold drk at h
  rw [h, b] at a
  have e : ∀ j, j < n → dealF (idn n) (way (bds n) n t) n j = dealF (idn n) (way (bds n) n s) n j := fun j hj => by
    have := congrArg (fun l => gi l j) a
    unfold dealt at this
    rw [tab_gi _ _ _ hj, tab_gi _ _ _ hj] at this
    exact this.symm
  have hi := deal_inj n _ _ (way_bd n t) (way_bd n s) n (Nat.le_refl _) e
  refine dgt_inj (bn (bds n)) n (fun j hj => by rw [bn_bds n j hj]; omega) t s (by rw [prd_bds n n (Nat.le_refl _)]; exact ht) (by rw [prd_bds n n (Nat.le_refl _)]; exact hs) (fun j hj => ?_)
  have := hi j hj
  rw [way_gi _ _ _ _ hj, way_gi _ _ _ _ hj] at this
  omega
theorem drk_lt (n t : Nat) (hn : n ≤ 12) : drk n t < fct n := (order_rank (dealt n t) n (tab_len _ _) (dealt_ok n t hn)).1
/-- The ranks of the first ways. -/
def rks (n t : Nat) : List Int := tab (fun s => (drk n s : Int)) t
theorem rks_new (n t : Nat) (hn : n ≤ 12) (ht : t < fct n) : (drk n t : Int) ∉ rks n t := by
  intro h
  obtain ⟨s, hs, e⟩ := tab_mem _ _ _ h
  have := drk_inj n t s hn ht (by omega) (by omega)
  omega
theorem rks_add (n t : Nat) (hn : n ≤ 12) (ht : t < fct n) : addN (rks n t) (drk n t : Int) = rks n (t + 1) := by
  unfold addN
  rw [if_neg (rks_new n t hn ht)]
  unfold rks
  rw [tab_snoc]
end Go.Proofs.Ytpdigiefldnpaaa
