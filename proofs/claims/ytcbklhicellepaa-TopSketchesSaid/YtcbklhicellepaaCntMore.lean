/- Contracts on counters: slices.Clone, culref.Counts. -/
import Derived.Test.YtcbklhicellepaaCnt
import Derived.Test.YtcbklhicellepaaMapI
import Derived.ArgAppend
import Derived.WalkSpells
import Derived.Deep.LoopGhost
import Derived.Deep.DeepCutAuto
namespace Go.Proofs.Ytcbklhicellepaa
open Go.ChangeShapes Go.WideShapes Go.ChangeAt Go.RowKit
set_option maxRecDepth 20000
theorem CntAt.addr {w : World} {a : Option Addr} {n cap : Nat} {L : List (Int × Int)} (h : CntAt w a n cap L) (hn : 0 < n) : ∃ b off, a = some ⟨b, off, none⟩ ∧ b < w.heap.size := by
  obtain ⟨b, off, ha, hb, _⟩ := h.cells hn
  exact ⟨b, off, ha, hb⟩
set_option maxHeartbeats 400000 in
theorem clonec_c (a : Option Addr) (n c : Nat) (L : List (Int × Int)) (w : World) (h : CntAt w a n c L) (hn : n < 1000000) :
    Calls Try.prog 49 #[.slice a n c] w fun e w' => ∃ v, e = .returned v ∧ w'.ownsRow w.heap.size 95 2 v n (cntV L) ∧ Below w.heap.size w w' := by
  obtain ⟨i0, hi, hz0, hz1, hz2⟩ := info_parts info_cnt
  have m := h.max
  have l := h.le
  have hl := h.len
  have qT : ∀ (w : World) (a : Option Addr) (n c n' c' : Nat), (binOp .eql 37 (.slice a n c) (.slice none n' c')).run Try.prog w = .ok (.bool a.isNone) w := fun w a n c n' c' => Lib.run_eql_slice_nil w _ _ a n c n' c' Try.underlying37
  cases a with
  | none =>
    have hn0 : n = 0 := by
      rcases Nat.eq_zero_or_pos n with hz | hz
      · exact hz
      · obtain ⟨b, o, hb, _⟩ := h.addr hz
        cases hb
    subst hn0
    have hx : L = [] := List.eq_nil_of_length_eq_zero hl
    subst hx
    clear h hl
    go_enter Try.func49, Try.ntmps49
    go_wp2
    go_ret
    exact ⟨_, rfl, World.ownsRow_nil _ _ _ _, Below.refl _ _⟩
  | some x =>
    have hcells : ∀ o j u, (cntV L)[j]? = some u → (w.alloc o).cell? (x.add j) = some u := by
      intro o j u hu
      exact (h.below ((Below.refl _ _).alloc (Nat.le_refl _) o)).cellsAt x rfl j u hu
    have HC := hidp hcells
    have CV := hidp (cntV_len L)
    have CO := hidp (cntV_one L)
    generalize cntV L = vs at *
    clear hcells h
    go_enter Try.func49, Try.ntmps49
    go_wp2_with (at_builtin; refine wpList_append_own_at _ rfl (.tmp 5) (.tmp 6) 37 rfl w.heap.size 95 i0 (.agg #[.int .i64 0, .int .i64 0]) 2 16 Try.underlying37 hi hz0 hz1 hz2 rfl (by decide) _ 0 [] rfl (World.ownsRow_lit w #[] 0 (Nat.le_refl _) (by unfold maxLen; omega) rfl) x n c vs rfl (by rw [CV.out, hl]) (HC.out _) CO.out (by unfold maxLen; omega) (by omega) (by simp) ?_; intro v1 w1 h1 h2 h3 h4)
    go_ret
    refine ⟨_, rfl, by simpa using h1, ((Below.refl _ _).alloc (Nat.le_refl _) _).grown h2 (by simp) (fun k hk => by cases hk; exact Nat.le_refl _)⟩
/-- How often a key came. -/
def occ : List (Int × Int) → Int → Int
  | [], _ => 0
  | p :: l, k => (if k = p.1 then p.2 else 0) + occ l k
theorem occ_append (l : List (Int × Int)) (k : Int) : ∀ m, occ (m ++ l) k = occ m k + occ l k
  | [] => by simp [occ]
  | p :: m => by simp only [List.cons_append, occ]; rw [occ_append l k m]; omega
theorem occ_bd (k : Int) : ∀ l : List (Int × Int), (∀ p ∈ l, 0 ≤ p.2) → 0 ≤ occ l k ∧ occ l k ≤ csum l
  | [], _ => by simp [occ, csum]
  | p :: l, h => by
    have h1 := occ_bd k l (fun q hq => h q (by simp [hq]))
    have h2 := h p (by simp)
    simp only [occ, csum]
    split <;> omega
theorem occ_step (L : List (Int × Int)) (k : Nat) (hk : k < L.length) (z : Int) : (if z = ckey L k then occ (L.take k) (ckey L k) + cnum L k else occ (L.take k) z) = occ (L.take (k + 1)) z := by
  rw [ctake L k hk, occ_append]
  simp only [occ]
  by_cases e : z = ckey L k
  · rw [if_pos e, if_pos e, e]; omega
  · rw [if_neg e, if_neg e]; omega
end Go.Proofs.Ytcbklhicellepaa
