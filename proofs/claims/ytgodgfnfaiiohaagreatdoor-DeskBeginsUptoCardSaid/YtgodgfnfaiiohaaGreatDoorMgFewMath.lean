/- Merged: MapI, CntMore, FewMath. -/
import Derived.Test.YtgodgfnfaiiohaaGreatDoorMem
import Derived.Maps.OwnOps
import Derived.Maps.OwnSet
import Derived.Maps.Keyed
import Derived.WalkSmall
import Derived.Deep.QuietTactic
import Derived.Test.YtgodgfnfaiiohaaGreatDoorCnt
import Derived.ArgAppend
import Derived.WalkSpells
import Derived.Deep.LoopGhost
import Derived.Deep.DeepCutAuto
/- A map to numbers that a call makes: what it holds, by a function on keys; the laws of a look-up and of a store, over any program. -/
namespace Go.Proofs.YtgodgfnfaiiohaaGreatDoor
open Go.ChangeShapes Go.WideShapes Go.ChangeAt Go.RowKit Go.Maps
set_option maxRecDepth 20000
/-- Block b is a map of at most n keys that tells S of each key. -/
def MapInt (w : World) (P : Program) (k e : TypeId) (q : IntKind) (b n : Nat) (S : Int → Int) : Prop :=
  ∃ D : DataW Unit, w.ownsMap P k (plainElem P e) b n D ∧ ∀ x, D.atKey (.int q x) (.lit (.int .i64 0)) = .lit (.int .i64 (S x))
theorem MapInt.made (w : World) (P : Program) (k e : TypeId) (q : IntKind) : MapInt (w.alloc (.map #[] 0)) P k e q w.heap.size 0 (fun _ => 0) :=
  ⟨_, World.ownsMap_made w P k _, fun _ => rfl⟩
theorem MapInt.alloc {w : World} {P : Program} {k e : TypeId} {b n : Nat} {S : Int → Int} {q : IntKind} (h : MapInt w P k e q b n S) (o : Obj) : MapInt (w.alloc o) P k e q b n S := by
  obtain ⟨D, h1, h2⟩ := h
  exact ⟨D, h1.alloc o, h2⟩
theorem MapInt.below {w w' : World} {P : Program} {k e : TypeId} {b n : Nat} {S : Int → Int} {q : IntKind} (h : MapInt w P k e q b n S) (hb : Below w.heap.size w w') : MapInt w' P k e q b n S := by
  obtain ⟨D, ⟨es, clock, hh, F, hs, hD⟩, h2⟩ := h
  exact ⟨D, ⟨es, clock, (hb.block b (Array.getElem?_eq_some_iff.1 hh).1).trans hh, F, hs, hD⟩, h2⟩
theorem MapInt.lt {w : World} {P : Program} {k e : TypeId} {b n : Nat} {S : Int → Int} {q : IntKind} (h : MapInt w P k e q b n S) : b < w.heap.size := by
  obtain ⟨D, ⟨es, clock, hh, _⟩, _⟩ := h
  exact (Array.getElem?_eq_some_iff.1 hh).1
theorem MapInt.congr {w : World} {P : Program} {k e : TypeId} {b n : Nat} {S T : Int → Int} {q : IntKind} (h : MapInt w P k e q b n S) (hST : ∀ x, S x = T x) : MapInt w P k e q b n T := by
  obtain ⟨D, h1, h2⟩ := h
  exact ⟨D, h1, fun x => by rw [h2, hST]⟩
/-- 'm[k]', as an equation laid ahead of the walk. -/
theorem MapInt.run {P : Program} {w : World} {k e : TypeId} {q : IntKind} {b n : Nat} {S : Int → Int} (h : MapInt w P k e q b n S) {t : TypeId} (K : Keyed P k) (ht : P.underlying t = some (.map k e)) (he : P.underlying e = some (.int .i64)) (hz : (zeroValue e).run P w = .ok (.int .i64 0) w) (y : Int) (hkey : keyOf P k (.int q y) = some (.int q y)) :
    (Instr.lookup t (.map (some b)) (.int q y) false).run P w = .ok (.int .i64 (S y)) w := by
  obtain ⟨D, h1, h2⟩ := h
  obtain ⟨v, ps, hrun, hv⟩ := h1.lookup K ht hz (plainElem_int (H := Unit) he (by rfl)) hkey
  obtain ⟨c, rfl, hc⟩ := plainElem_int_inv he hv
  have hc1 := (Prod.mk.inj hc.1).1
  have hcS : c = S y := by
    have := (h2 y).symm.trans hc1
    simpa using this.symm
  rw [hrun, hcS]
end Go.Proofs.YtgodgfnfaiiohaaGreatDoor

/- Contracts on counters: slices.Clone, culref.Counts. -/
namespace Go.Proofs.YtgodgfnfaiiohaaGreatDoor
open Go.ChangeShapes Go.WideShapes Go.ChangeAt Go.RowKit
set_option maxRecDepth 20000
theorem CntAt.addr {w : World} {a : Option Addr} {n cap : Nat} {L : List (Int × Int)} (h : CntAt w a n cap L) (hn : 0 < n) : ∃ b off, a = some ⟨b, off, none⟩ ∧ b < w.heap.size := by
  obtain ⟨b, off, ha, hb, _⟩ := h.cells hn
  exact ⟨b, off, ha, hb⟩
set_option maxHeartbeats 400000 in
theorem clonec_c (a : Option Addr) (n c : Nat) (L : List (Int × Int)) (w : World) (h : CntAt w a n c L) (hn : n < 1000000) :
    Calls Tryz.prog 177 #[.slice a n c] w fun e w' => ∃ v, e = .returned v ∧ w'.ownsRow w.heap.size 169 2 v n (cntV L) ∧ Below w.heap.size w w' := by
  obtain ⟨i0, hi, hz0, hz1, hz2⟩ := info_parts info_cnt
  have m := h.max
  have l := h.le
  have hl := h.len
  have qT : ∀ (w : World) (a : Option Addr) (n c n' c' : Nat), (binOp .eql 34 (.slice a n c) (.slice none n' c')).run Tryz.prog w = .ok (.bool a.isNone) w := fun w a n c n' c' => Lib.run_eql_slice_nil w _ _ a n c n' c' Tryz.underlying34
  cases a with
  | none =>
    have hn0 : n = 0 := by
      rcases Nat.eq_zero_or_pos n with hz | hz
      · exact hz
      · obtain ⟨b, o, hb, _⟩ := h.addr hz
        cases hb
    subst hn0
    have hx : L = [] := List.eq_nil_of_length_eq_zero hl
    subst hx
    clear h hl
    go_enter Tryz.func177, Tryz.ntmps177
    go_wp2
    go_ret
    exact ⟨_, rfl, World.ownsRow_nil _ _ _ _, Below.refl _ _⟩
  | some x =>
    have hcells : ∀ o j u, (cntV L)[j]? = some u → (w.alloc o).cell? (x.add j) = some u := by
      intro o j u hu
      exact (h.below ((Below.refl _ _).alloc (Nat.le_refl _) o)).cellsAt x rfl j u hu
    have HC := hidp hcells
    have CV := hidp (cntV_len L)
    have CO := hidp (cntV_one L)
    generalize cntV L = vs at *
    clear hcells h
    go_enter Tryz.func177, Tryz.ntmps177
    go_wp2_with (at_builtin; refine wpList_append_own_at _ rfl (.tmp 5) (.tmp 6) 34 rfl w.heap.size 169 i0 (.agg #[.int .i64 0, .int .i64 0]) 2 16 Tryz.underlying34 hi hz0 hz1 hz2 rfl (by decide) _ 0 [] rfl (World.ownsRow_lit w #[] 0 (Nat.le_refl _) (by unfold maxLen; omega) rfl) x n c vs rfl (by rw [CV.out, hl]) (HC.out _) CO.out (by unfold maxLen; omega) (by omega) (by simp) ?_; intro v1 w1 h1 h2 h3 h4)
    go_ret
    refine ⟨_, rfl, by simpa using h1, ((Below.refl _ _).alloc (Nat.le_refl _) _).grown h2 (by simp) (fun k hk => by cases hk; exact Nat.le_refl _)⟩
/-- How often a key came. -/
def occ : List (Int × Int) → Int → Int
  | [], _ => 0
  | p :: l, k => (if k = p.1 then p.2 else 0) + occ l k
theorem occ_bd (k : Int) : ∀ l : List (Int × Int), (∀ p ∈ l, 0 ≤ p.2) → 0 ≤ occ l k ∧ occ l k ≤ csum l
  | [], _ => by simp [occ, csum]
  | p :: l, h => by
    have h1 := occ_bd k l (fun q hq => h q (by simp [hq]))
    have h2 := h p (by simp)
    simp only [occ, csum]
    split <;> omega
end Go.Proofs.YtgodgfnfaiiohaaGreatDoor

/- Few counters (Misra, Gries): plain law. -/
namespace Go.Proofs.YtgodgfnfaiiohaaGreatDoor
set_option maxRecDepth 20000
/-- The keys rise. -/
def KRise (L : List (Int × Int)) : Prop := L.Pairwise (fun p q => p.1 < q.1)
/-- So much more to a key. -/
def kadd : List (Int × Int) → Int → Int → List (Int × Int)
  | [], k, n => [(k, n)]
  | p :: l, k, n => if k < p.1 then (k, n) :: p :: l else if k = p.1 then (p.1, p.2 + n) :: l else p :: kadd l k n
theorem kadd_pos (k n : Int) (hn : 1 ≤ n) : ∀ L, (∀ p ∈ L, 1 ≤ p.2) → ∀ p ∈ kadd L k n, 1 ≤ p.2
  | [], _, p, hp => by simp [kadd] at hp; rw [hp]; exact hn
  | q :: l, h, p, hp => by
    have ih := kadd_pos k n hn l (fun p hp => h p (by simp [hp])) p
    have hq := h q (by simp)
    simp only [kadd] at hp
    split at hp
    · simp only [List.mem_cons] at hp
      rcases hp with rfl | rfl | hp
      · exact hn
      · exact hq
      · exact h p (by simp [hp])
    · split at hp
      · simp only [List.mem_cons] at hp
        rcases hp with rfl | hp
        · show 1 ≤ q.2 + n; omega
        · exact h p (by simp [hp])
      · simp only [List.mem_cons] at hp
        rcases hp with rfl | hp
        · exact hq
        · exact ih hp
theorem kadd_big (k n B : Int) : ∀ L : List (Int × Int), (∀ p ∈ L, p.2 ≤ B) → ∀ p ∈ kadd L k n, (0 ≤ n ∧ n ≤ B ∧ 0 ≤ B) → p.2 ≤ B + B
  | [], _, p, hp, hn => by simp [kadd] at hp; rw [hp]; show n ≤ _; omega
  | q :: l, h, p, hp, hn => by
    have ih := kadd_big k n B l (fun p hp => h p (by simp [hp])) p
    have hq := h q (by simp)
    simp only [kadd] at hp
    split at hp
    · simp only [List.mem_cons] at hp
      rcases hp with rfl | rfl | hp
      · show n ≤ _; omega
      · omega
      · have := h p (by simp [hp]); omega
    · split at hp
      · simp only [List.mem_cons] at hp
        rcases hp with rfl | hp
        · show q.2 + n ≤ _; omega
        · have := h p (by simp [hp]); omega
      · simp only [List.mem_cons] at hp
        rcases hp with rfl | hp
        · omega
        · exact ih hp hn
theorem kadd_len (k n : Int) : ∀ L, L.length ≤ (kadd L k n).length ∧ (kadd L k n).length ≤ L.length + 1 ∧ 1 ≤ (kadd L k n).length
  | [] => by simp [kadd]
  | p :: l => by
    have := kadd_len k n l
    simp only [kadd]
    split
    · simp
    · split
      · simp
      · simp only [List.length_cons]; omega
/-- The place of a key. -/
def kpos (L : List (Int × Int)) (k : Int) : Nat := L.countP (fun p => decide (p.1 < k))
def khas (L : List (Int × Int)) (k : Int) : Bool := decide (kpos L k < L.length) && decide (ckey L (kpos L k) = k)
theorem kpos_le (L : List (Int × Int)) (k : Int) : kpos L k ≤ L.length := List.countP_le_length
theorem kpos_none (k : Int) (L : List (Int × Int)) (h : ∀ p ∈ L, k ≤ p.1) : kpos L k = 0 := by
  unfold kpos
  rw [List.countP_eq_zero]
  intro p hp
  have := h p hp
  simp; omega
theorem kpos_cons (p : Int × Int) (l : List (Int × Int)) (k : Int) (h : p.1 < k) : kpos (p :: l) k = kpos l k + 1 := by
  unfold kpos
  rw [List.countP_cons, if_pos (by simpa using h)]
theorem khas_cons (p : Int × Int) (l : List (Int × Int)) (k : Int) (h : p.1 < k) : khas (p :: l) k = khas l k := by
  unfold khas
  rw [kpos_cons p l k h]
  simp [ckey]
theorem kadd_has (k n : Int) : ∀ L, KRise L → khas L k = true → kadd L k n = L.set (kpos L k) (k, cnum L (kpos L k) + n)
  | [], _, h => by simp [khas] at h
  | p :: l, hr, h => by
    have h' := List.pairwise_cons.1 hr
    by_cases h1 : p.1 < k
    · rw [khas_cons p l k h1] at h
      have ih := kadd_has k n l h'.2 h
      rw [kpos_cons p l k h1]
      simp only [kadd]
      rw [if_neg (by omega), if_neg (by omega), ih]
      simp [cnum]
    · have hz : kpos (p :: l) k = 0 := kpos_none k _ (fun q hq => by
        rcases List.mem_cons.1 hq with rfl | hq
        · omega
        · have := h'.1 q hq; omega)
      unfold khas at h
      rw [hz] at h ⊢
      simp [ckey] at h
      simp only [kadd]
      rw [if_neg (by omega), if_pos h.symm]
      simp [cnum, h]
theorem kadd_not (k n : Int) : ∀ L, KRise L → khas L k = false → kadd L k n = L.take (kpos L k) ++ (k, n) :: L.drop (kpos L k)
  | [], _, h => by simp [kadd]
  | p :: l, hr, h => by
    have h' := List.pairwise_cons.1 hr
    by_cases h1 : p.1 < k
    · rw [khas_cons p l k h1] at h
      have ih := kadd_not k n l h'.2 h
      rw [kpos_cons p l k h1]
      simp only [kadd]
      rw [if_neg (by omega), if_neg (by omega), ih]
      simp
    · have hz : kpos (p :: l) k = 0 := kpos_none k _ (fun q hq => by
        rcases List.mem_cons.1 hq with rfl | hq
        · omega
        · have := h'.1 q hq; omega)
      unfold khas at h
      rw [hz] at h ⊢
      simp [ckey] at h
      simp only [kadd]
      rw [if_pos (by omega)]
      simp
theorem krise_zero (p : Int × Int) (l : List (Int × Int)) (h : KRise (p :: l)) : ∀ z, z ≤ p.1 → occ l z = 0 := by
  intro z hz
  have h' := (List.pairwise_cons.1 h).1
  have : ∀ m : List (Int × Int), (∀ q ∈ m, p.1 < q.1) → occ m z = 0 := by
    intro m
    induction m with
    | nil => intro _; rfl
    | cons q m ih =>
      intro hm
      have := hm q (by simp)
      simp only [occ]
      rw [if_neg (by omega), ih (fun r hr => hm r (by simp [hr]))]; rfl
  exact this l h'
/-- What is asked of a key. -/
theorem ask_occ (k : Int) : ∀ L, KRise L → (if khas L k = true then cnum L (kpos L k) else 0) = occ L k
  | [], _ => by simp [khas, occ]
  | p :: l, hr => by
    have h' := List.pairwise_cons.1 hr
    by_cases h1 : p.1 < k
    · rw [khas_cons p l k h1, kpos_cons p l k h1]
      have ih := ask_occ k l h'.2
      simp only [occ]
      rw [if_neg (show ¬ k = p.1 by omega), ← ih]
      simp [cnum]
    · have hz : kpos (p :: l) k = 0 := kpos_none k _ (fun q hq => by
        rcases List.mem_cons.1 hq with rfl | hq
        · omega
        · have := h'.1 q hq; omega)
      unfold khas
      rw [hz]
      simp only [occ]
      rw [krise_zero p l hr k (by omega)]
      by_cases e : k = p.1
      · subst e; simp [ckey, cnum]
      · have e2 : ¬ p.1 = k := fun h => e h.symm
        simp [ckey, e, e2]
/-- Each with so much less; those that have no more are out. -/
def kless (d : Int) : List (Int × Int) → List (Int × Int)
  | [] => []
  | p :: l => if d < p.2 then (p.1, p.2 - d) :: kless d l else kless d l
theorem kless_append (d : Int) (m : List (Int × Int)) : ∀ L, kless d (L ++ m) = kless d L ++ kless d m
  | [] => rfl
  | p :: l => by
    have ih := kless_append d m l
    simp only [kless, List.cons_append]
    split
    · rw [ih]; rfl
    · exact ih
theorem kless_len (d : Int) : ∀ L, (kless d L).length = L.countP (fun p => decide (d < p.2))
  | [] => rfl
  | p :: l => by
    have ih := kless_len d l
    simp only [kless]
    rw [List.countP_cons]
    split
    · rename_i h; rw [if_pos (by simpa using h), List.length_cons, ih]
    · rename_i h; rw [if_neg (by simpa using h), ih]; rfl
/-- The least number of counters. -/
def kmn : List (Int × Int) → Int
  | [] => 0
  | [p] => p.2
  | p :: q :: l => min p.2 (kmn (q :: l))
/-- One to a few of K. -/
def fput (K : Nat) (s : Int × List (Int × Int)) (k n : Int) : Int × List (Int × Int) :=
  if K < (kadd s.2 k n).length then (s.1 + kmn (kadd s.2 k n), kless (kmn (kadd s.2 k n)) (kadd s.2 k n)) else (s.1, kadd s.2 k n)
/-- A few that may be. -/
structure FewOk (K : Nat) (s : Int × List (Int × Int)) : Prop where
  k1 : 1 ≤ K
  k2 : K ≤ 16
  l0 : 0 ≤ s.1
  l1 : s.1 ≤ 1000000000000
  ln : s.2.length ≤ K
  ris : KRise s.2
  pos : ∀ p ∈ s.2, 1 ≤ p.2
  big : ∀ p ∈ s.2, p.2 ≤ 1000000000000
structure FewIs (K : Nat) (D : List (Int × Int)) (s : Int × List (Int × Int)) : Prop where
  l0 : 0 ≤ s.1
  ln : s.2.length ≤ K
  ris : KRise s.2
  pos : ∀ p ∈ s.2, 1 ≤ p.2
  all : s.1 * ((K : Int) + 1) + csum s.2 ≤ csum D
  near : ∀ z, occ s.2 z ≤ occ D z ∧ occ D z ≤ occ s.2 z + s.1
theorem snoc_ind {α : Type} {P : List α → Prop} (h0 : P []) (h1 : ∀ l a, P l → P (l ++ [a])) : ∀ l, P l := by
  intro l
  have : ∀ n, ∀ l : List α, l.length = n → P l := by
    intro n
    induction n with
    | zero => intro l hl; rw [List.eq_nil_of_length_eq_zero hl]; exact h0
    | succ n ih =>
      intro l hl
      have hne : l ≠ [] := fun e => by rw [e] at hl; simp at hl
      rw [← List.dropLast_concat_getLast hne]
      exact h1 _ _ (ih _ (by rw [List.length_dropLast]; omega))
  exact this l.length l rfl
theorem mem_csum : ∀ (L : List (Int × Int)), (∀ p ∈ L, 0 ≤ p.2) → ∀ p ∈ L, p.2 ≤ csum L
  | [], _, p, h => by simp at h
  | q :: l, h, p, hp => by
    have h1 := h q (by simp)
    have h2 := csum_take l (fun r hr => h r (by simp [hr])) 0
    have h3 := csum_take l (fun r hr => h r (by simp [hr])) l.length
    rw [List.take_length] at h3
    simp only [csum]
    rcases List.mem_cons.1 hp with rfl | hp
    · omega
    · have := mem_csum l (fun r hr => h r (by simp [hr])) p hp; omega
theorem csum_nn (L : List (Int × Int)) (h : ∀ p ∈ L, 0 ≤ p.2) : 0 ≤ csum L := by
  have := csum_take L h L.length
  rw [List.take_length] at this; exact this.2
theorem FewIs.lost {K : Nat} {D : List (Int × Int)} {s : Int × List (Int × Int)} (h : FewIs K D s) : s.1 ≤ csum D := by
  have a := h.all
  have b := csum_nn s.2 (fun p hp => by have := h.pos p hp; omega)
  have c := h.l0
  have : s.1 * 1 ≤ s.1 * ((K : Int) + 1) := Int.mul_le_mul_of_nonneg_left (by omega) c
  omega
theorem FewIs.ok {K : Nat} {D : List (Int × Int)} {s : Int × List (Int × Int)} (h : FewIs K D s) (k1 : 1 ≤ K) (k2 : K ≤ 16) (hs : csum D ≤ 1000000000000) : FewOk K s :=
  ⟨k1, k2, h.l0, by have := h.lost; omega, h.ln, h.ris, h.pos, fun p hp => by
    have a := mem_csum s.2 (fun p hp => by have := h.pos p hp; omega) p hp
    have b := h.all
    have c := h.l0
    have : 0 ≤ s.1 * ((K : Int) + 1) := Int.mul_nonneg c (by omega)
    omega⟩
end Go.Proofs.YtgodgfnfaiiohaaGreatDoor
