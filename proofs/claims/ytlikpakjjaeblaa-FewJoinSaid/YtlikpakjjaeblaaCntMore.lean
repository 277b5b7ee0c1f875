/- Contracts on counters: slices.Clone, culref.Counts. -/
import Derived.Test.YtlikpakjjaeblaaCnt
import Derived.Test.YtlikpakjjaeblaaMapI
import Derived.ArgAppend
import Derived.WalkSpells
import Derived.Deep.LoopGhost
import Derived.Deep.DeepCutAuto
namespace Go.Proofs.Ytlikpakjjaeblaa
open Go.ChangeShapes Go.WideShapes Go.ChangeAt Go.RowKit
set_option maxRecDepth 20000
theorem CntAt.addr {w : World} {a : Option Addr} {n cap : Nat} {L : List (Int × Int)} (h : CntAt w a n cap L) (hn : 0 < n) : ∃ b off, a = some ⟨b, off, none⟩ ∧ b < w.heap.size := by
  obtain ⟨b, off, ha, hb, _⟩ := h.cells hn
  exact ⟨b, off, ha, hb⟩
set_option maxHeartbeats 400000 in
theorem clonec_c (a : Option Addr) (n c : Nat) (L : List (Int × Int)) (w : World) (h : CntAt w a n c L) (hn : n < 1000000) :
    Calls Try.prog 30 #[.slice a n c] w fun e w' => ∃ v, e = .returned v ∧ w'.ownsRow w.heap.size 51 2 v n (cntV L) ∧ Below w.heap.size w w' := by
  obtain ⟨i0, hi, hz0, hz1, hz2⟩ := info_parts info_cnt
  have m := h.max
  have l := h.le
  have hl := h.len
  have qT : ∀ (w : World) (a : Option Addr) (n c n' c' : Nat), (binOp .eql 43 (.slice a n c) (.slice none n' c')).run Try.prog w = .ok (.bool a.isNone) w := fun w a n c n' c' => Lib.run_eql_slice_nil w _ _ a n c n' c' Try.underlying43
  cases a with
  | none =>
    have hn0 : n = 0 := by
      rcases Nat.eq_zero_or_pos n with hz | hz
      · exact hz
      · obtain ⟨b, o, hb, _⟩ := h.addr hz
        cases hb
    subst hn0
    have hx : L = [] := List.eq_nil_of_length_eq_zero hl
    subst hx
    clear h hl
    go_enter Try.func30, Try.ntmps30
    go_wp2
    go_ret
    exact ⟨_, rfl, World.ownsRow_nil _ _ _ _, Below.refl _ _⟩
  | some x =>
    have hcells : ∀ o j u, (cntV L)[j]? = some u → (w.alloc o).cell? (x.add j) = some u := by
      intro o j u hu
      exact (h.below ((Below.refl _ _).alloc (Nat.le_refl _) o)).cellsAt x rfl j u hu
    have HC := hidp hcells
    have CV := hidp (cntV_len L)
    have CO := hidp (cntV_one L)
    generalize cntV L = vs at *
    clear hcells h
    go_enter Try.func30, Try.ntmps30
    go_wp2_with (at_builtin; refine wpList_append_own_at _ rfl (.tmp 5) (.tmp 6) 43 rfl w.heap.size 51 i0 (.agg #[.int .i64 0, .int .i64 0]) 2 16 Try.underlying43 hi hz0 hz1 hz2 rfl (by decide) _ 0 [] rfl (World.ownsRow_lit w #[] 0 (Nat.le_refl _) (by unfold maxLen; omega) rfl) x n c vs rfl (by rw [CV.out, hl]) (HC.out _) CO.out (by unfold maxLen; omega) (by omega) (by simp) ?_; intro v1 w1 h1 h2 h3 h4)
    go_ret
    refine ⟨_, rfl, by simpa using h1, ((Below.refl _ _).alloc (Nat.le_refl _) _).grown h2 (by simp) (fun k hk => by cases hk; exact Nat.le_refl _)⟩
/-- How often a key came. -/
def occ : List (Int × Int) → Int → Int
  | [], _ => 0
  | p :: l, k => (if k = p.1 then p.2 else 0) + occ l k
theorem occ_append (l : List (Int × Int)) (k : Int) : ∀ m, occ (m ++ l) k = occ m k + occ l k
  | [] => by simp [occ]
  | p :: m => by simp only [List.cons_append, occ]; rw [occ_append l k m]; omega
theorem occ_bd (k : Int) : ∀ l : List (Int × Int), (∀ p ∈ l, 0 ≤ p.2) → 0 ≤ occ l k ∧ occ l k ≤ csum l
  | [], _ => by simp [occ, csum]
  | p :: l, h => by
    have h1 := occ_bd k l (fun q hq => h q (by simp [hq]))
    have h2 := h p (by simp)
    simp only [occ, csum]
    split <;> omega
theorem occ_step (L : List (Int × Int)) (k : Nat) (hk : k < L.length) (z : Int) : (if z = ckey L k then occ (L.take k) (ckey L k) + cnum L k else occ (L.take k) z) = occ (L.take (k + 1)) z := by
  rw [ctake L k hk, occ_append]
  simp only [occ]
  by_cases e : z = ckey L k
  · rw [if_pos e, if_pos e, e]; omega
  · rw [if_neg e, if_neg e]; omega
theorem zeroInt (w : World) : (zeroValue 3).run Try.prog w = .ok (.int .i64 0) w := by kernel_rfl
theorem key_any (n : Int) (h0 : -9223372036854775808 ≤ n) (h1 : n ≤ 9223372036854775807) : keyOf Try.prog 3 (.int .i64 n) = some (.int .i64 n) := Maps.keyOf_int_mk Try.underlying3 (WalkArith.wf_i64 (by omega))
set_option maxHeartbeats 4000000 in
theorem counts_c (al : Option Addr) (nl cl : Nat) (L : List (Int × Int)) (w : World) (h : CntAt w al nl cl L) (hn : nl ≤ 1000) (hN : ∀ p ∈ L, 0 ≤ p.2) (hS : csum L ≤ 4611686018427387904) (hK : ∀ p ∈ L, -9223372036854775808 ≤ p.1 ∧ p.1 ≤ 9223372036854775807) :
    Calls Try.prog 24 #[.slice al nl cl] w fun e w' => ∃ r, e = .returned (.map (some r)) ∧ MapInt w' Try.prog 3 3 .i64 r nl (occ L) ∧ Below w.heap.size w w' := by
  obtain ⟨b, o, hz, hx⟩ := h.split
  have hz' : Hid (nl = 0) ∨ al = some ⟨b, o, none⟩ := hz.imp_left hidp
  have HX := hidp hx
  have mm := h.max
  have ee := h.le
  have LN := hidp h.len
  have HN := hidp hN
  have HK := hidp hK
  have hmm := @run_makeMap Try.prog
  have SS := hidp (fun (k : Nat) => csum_take L hN k)
  have HS := hidp hS
  clear hx hz h hN hK hS
  go_enter Try.func24, Try.ntmps24
  go_wp2_with fail
  go_loopg [9] nl (fun gg i wr => ∃ k : Nat, k ≤ nl ∧ nl - k ≤ gg ∧ i = .int .i64 k ∧ MapInt wr Try.prog 3 3 .i64 w.heap.size k (occ (L.take k)) ∧ Below w.heap.size w wr)
  case atStart => exact ⟨0, by omega, by omega, rfl, (MapInt.made _ _ _ _ _).congr (fun x => by simp [occ]), bal (Below.refl _ _) _⟩
  case round =>
    obtain ⟨k, hk, hgg, rfl, hM, hbl⟩ := hrel
    by_cases hlt : k < nl
    · obtain rfl : al = some ⟨b, o, none⟩ := hz'.resolve_left (fun e => by have := e.out; omega)
      obtain ⟨hbs, hc1, hc2⟩ := HX.out k hlt
      have q0 := carry_cell ⟨hbs, hc1⟩ hbl
      have q1 := carry_cell ⟨hbs, hc2⟩ hbl
      have hlen : k < L.length := by rw [LN.out]; exact hlt
      have hmem := cmem L k hlen
      have kb := HK.out _ hmem
      have nb := HN.out _ hmem
      have ob := occ_bd (ckey L k) (L.take k) (fun p hp => HN.out p (List.mem_of_mem_take hp))
      have sb := (SS.out (k + 1)).1
      rw [ctake L k hlen, csum_snoc] at sb
      have hs := HS.out
      have STP := hidp (occ_step L k hlen)
      have HM2 := hM.alloc (.cells #[.int .i64 (ckey L k), .int .i64 (cnum L k)] 51)
      have hR := HM2.run (t := 54) (Maps.int_keyed Try.underlying3) Try.underlying54 Try.underlying3 (zeroInt _) (ckey L k) (key_any _ kb.1 kb.2)
      have KB := hidp kb
      have hvb : 0 ≤ occ (L.take k) (ckey L k) + cnum L k ∧ occ (L.take k) (ckey L k) + cnum L k ≤ 4611686018427387904 := by
        show 0 ≤ occ (L.take k) (ckey L k) + (ckey L k, cnum L k).2 ∧ _
        exact ⟨by omega, by show occ (L.take k) (ckey L k) + (ckey L k, cnum L k).2 ≤ _; have : (ckey L k, cnum L k).2 = cnum L k := rfl; omega⟩
      have hlw := hM.lt
      clear hc1 hc2 hmem kb nb ob sb hs hM hlen
      generalize ckey L k = ky at *
      generalize cnum L k = nu at *
      have hbx : Below w.heap.size w (wr.alloc (.cells #[.int .i64 ky, .int .i64 nu] 51)) := bal hbl _
      go_upto_region 5 with fail
      have x0 : (wr.alloc (.cells #[.int .i64 ky, .int .i64 nu] 51)).cell? ⟨wr.heap.size, 0, none⟩ = some (.int .i64 ky) := by go_simp
      have x1 : (wr.alloc (.cells #[.int .i64 ky, .int .i64 nu] 51)).cell? ⟨wr.heap.size, 1, none⟩ = some (.int .i64 nu) := by go_simp
      generalize (wr.alloc (.cells #[.int .i64 ky, .int .i64 nu] 51)) = w2 at *
      generalize wr.heap.size = XB at *
      clear q0 q1 hbl
      generalize occ (L.take k) ky = oc at *
      go_wp2_with (at_mapUpdate; refine wpList_mapUpdate_int rfl (.tmp 13) (.tmp 15) (.tmp 19) 54 rfl 3 3 (Maps.int_keyed Try.underlying3) Try.underlying54 Try.underlying3 w.heap.size k _ .i64 rfl HM2 (by omega) _ _ rfl rfl (key_any _ KB.out.1 KB.out.2) (WalkArith.wf_i64 (by omega)) ?_; intro w3 hm3 hg3)
      go_roundg (nl - (k + 1))
      case measure => omega
      case rel => exact ⟨k + 1, by omega, by omega, by go_num, hm3.congr (fun z => STP.out z), hbx.grown hg3 hbx.size (fun j hj => by cases hj; exact Nat.le_refl _)⟩
    · obtain rfl : k = nl := by omega
      go_wp2
      go_ret
      exact ⟨_, rfl, hM.congr (fun x => by rw [← LN.out, List.take_length]), hbl⟩
end Go.Proofs.Ytlikpakjjaeblaa
