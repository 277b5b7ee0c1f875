/- Contract of few.Check at whatever few. -/
import Derived.Test.YtcbklhicellepaaFewLess
namespace Go.Proofs.Ytcbklhicellepaa
open Go.ChangeShapes Go.WideShapes Go.ChangeAt Go.RowKit
set_option maxRecDepth 20000
/-- A few that may be, of whatever K. -/
structure FewOkZ (K lost : Int) (L : List (Int × Int)) : Prop where
  k1 : 1 ≤ K
  k2 : K ≤ 16
  l0 : 0 ≤ lost
  l1 : lost ≤ 1000000000000
  ln : (L.length : Int) ≤ K
  ris : KRise L
  nb : ∀ p ∈ L, 1 ≤ p.2 ∧ p.2 ≤ 1000000000000
theorem FewOkZ.ok {K : Nat} {s : Int × List (Int × Int)} (h : FewOkZ K s.1 s.2) : FewOk K s :=
  ⟨by have := h.k1; omega, by have := h.k2; omega, h.l0, h.l1, by have := h.ln; omega, h.ris, fun p hp => (h.nb p hp).1, fun p hp => (h.nb p hp).2⟩
theorem FewOk.okZ {K : Nat} {s : Int × List (Int × Int)} (h : FewOk K s) : FewOkZ K s.1 s.2 :=
  ⟨by have := h.k1; omega, by have := h.k2; omega, h.l0, h.l1, by have := h.ln; omega, h.ris, fun p hp => ⟨h.pos p hp, h.big p hp⟩⟩
theorem krise_step (L : List (Int × Int)) (k : Nat) (hk : k < L.length) (h : KRise (L.take k)) (h1 : 0 < k → ckey L (k - 1) < ckey L k) : KRise (L.take (k + 1)) := by
  rw [ctake L k hk]
  refine List.pairwise_append.2 ⟨h, List.pairwise_singleton _ _, fun p hp q hq => ?_⟩
  simp at hq
  subst hq
  obtain ⟨i, hi, e⟩ := List.getElem_of_mem hp
  have hi2 : i < k := by rw [List.length_take] at hi; omega
  have hc := ckey_rise (L.take k) h i (k - 1) (by omega) (by rw [List.length_take]; omega)
  have e1 : ckey (L.take k) i = p.1 := by unfold ckey; rw [List.getD_eq_getElem?_getD, List.getElem?_eq_getElem hi, e]; rfl
  have e2 : ckey (L.take k) (k - 1) = ckey L (k - 1) := by
    unfold ckey
    rw [List.getD_eq_getElem?_getD, List.getD_eq_getElem?_getD, List.getElem?_take, if_pos (by omega)]
  have := h1 (by omega)
  show p.1 < ckey L k
  omega
theorem krise_at (L : List (Int × Int)) (h : KRise L) (i j : Nat) (hij : i < j) (hj : j < L.length) : ckey L i < ckey L j := by
  have := List.pairwise_iff_getElem.1 h i j (by omega) hj hij
  have e1 : ckey L i = L[i].1 := by unfold ckey; rw [List.getD_eq_getElem?_getD, List.getElem?_eq_getElem (by omega)]; rfl
  have e2 : ckey L j = L[j].1 := by unfold ckey; rw [List.getD_eq_getElem?_getD, List.getElem?_eq_getElem hj]; rfl
  rw [e1, e2]; exact this
abbrev fewV (K lost : Int) (a : Option Addr) (n c : Nat) : Value := .agg #[.int .i64 K, .int .i64 lost, .slice a n c]
theorem ret_er {w' w : World} {er : Int} {Q : Prop} (hb : Below w.heap.size w w') (h : er = 0 ↔ Q) : ∃ r : Int, Ending.returned (.int .i64 er) = .returned (.int .i64 r) ∧ Below w.heap.size w w' ∧ (r = 0 ↔ Q) := ⟨er, rfl, hb, h⟩
set_option maxHeartbeats 8000000 in
theorem fcheck_g (K lost : Int) (a : Option Addr) (n c : Nat) (L : List (Int × Int)) (w : World) (h : CntAt w a n c L) :
    Calls Try.prog 44 #[fewV K lost a n c] w fun e w' => ∃ er : Int, e = .returned (.int .i64 er) ∧ Below w.heap.size w w' ∧ (er = 0 ↔ FewOkZ K lost L) := by
  have hb0 : Below w.heap.size w (w.alloc (.cells #[.int .i64 K, .int .i64 lost, .slice a n c] 39)) := bal (Below.refl _ _) _
  have c0 : (w.alloc (.cells #[.int .i64 K, .int .i64 lost, .slice a n c] 39)).cell? ⟨w.heap.size, 0, none⟩ = some (.int .i64 K) := by go_simp
  have c1 : (w.alloc (.cells #[.int .i64 K, .int .i64 lost, .slice a n c] 39)).cell? ⟨w.heap.size, 1, none⟩ = some (.int .i64 lost) := by go_simp
  have c2 : (w.alloc (.cells #[.int .i64 K, .int .i64 lost, .slice a n c] 39)).cell? ⟨w.heap.size, 2, none⟩ = some (.slice a n c) := by go_simp
  obtain ⟨b, o, hz, hx⟩ := (h.below hb0).split
  have hz' : Hid (n = 0) ∨ a = some ⟨b, o, none⟩ := hz.imp_left hidp
  have HX := hidp hx
  have mm := h.max
  have ee := h.le
  have LN := hidp h.len
  have HB := hidp hb0
  unfold fewV
  clear hx hz h hb0
  go_enter Try.func44, Try.ntmps44
  go_upto_region 1 with fail
  generalize (w.alloc (.cells #[.int .i64 K, .int .i64 lost, .slice a n c] 39)) = w1 at *
  by_cases g1 : K < 1
  · go_wp2_with fail
    go_ret
    exact ret_er HB.out ⟨fun e => by omega, fun e => by have := e.k1; omega⟩
  by_cases g2 : (16 : Int) < K
  · go_wp2_with fail
    go_ret
    exact ret_er HB.out ⟨fun e => by omega, fun e => by have := e.k2; omega⟩
  by_cases g3 : lost < 0
  · go_wp2_with fail
    go_ret
    exact ret_er HB.out ⟨fun e => by omega, fun e => by have := e.l0; omega⟩
  by_cases g4 : (1000000000000 : Int) < lost
  · go_wp2_with fail
    go_ret
    exact ret_er HB.out ⟨fun e => by omega, fun e => by have := e.l1; omega⟩
  by_cases g5 : K < (n : Int)
  · go_wp2_with fail
    go_ret
    exact ret_er HB.out ⟨fun e => by omega, fun e => by have := e.ln; rw [LN.out] at this; omega⟩
  go_wp2_with fail
  go_loopg [32] n (fun gg i wr => ∃ k : Nat, k ≤ n ∧ n - k ≤ gg ∧ i = .int .i64 k ∧ Below w1.heap.size w1 wr ∧ Hid (KRise (L.take k) ∧ ∀ p ∈ L.take k, 1 ≤ p.2 ∧ p.2 ≤ 1000000000000))
  case atStart => exact ⟨0, by omega, by omega, rfl, Below.refl _ _, hidp ⟨by simp [KRise], by simp⟩⟩
  case round =>
    obtain ⟨k, hk, hgg, rfl, hbl, I⟩ := hrel
    by_cases hlt : k < n
    · obtain rfl : a = some ⟨b, o, none⟩ := hz'.resolve_left (fun e => by have := e.out; omega)
      obtain ⟨hbs, hc1, hc2⟩ := HX.out k hlt
      have q0 := carry_cell ⟨hbs, hc1⟩ hbl
      have q1 := carry_cell ⟨hbs, hc2⟩ hbl
      have d0 := ck hbl c0
      have d2 := ck hbl c2
      have BB := hidp (bstep HB.out hbl)
      have MEM := hidp (cmem L k (by rw [LN.out]; exact hlt))
      clear hc1 hc2
      by_cases h1 : cnum L k < 1
      · clear d0 d2
        go_wp2_with fail
        go_ret
        exact ret_er (bal BB.out _) ⟨fun e => by omega, fun e => by have := (e.nb _ MEM.out).1; have t : 1 ≤ cnum L k := this; omega⟩
      by_cases h2 : (1000000000000 : Int) < cnum L k
      · clear d0 d2
        go_wp2_with fail
        go_ret
        exact ret_er (bal BB.out _) ⟨fun e => by omega, fun e => by have := (e.nb _ MEM.out).2; have t : cnum L k ≤ 1000000000000 := this; omega⟩
      have hbx := bal hbl (.cells #[.int .i64 (ckey L k), .int .i64 (cnum L k)] 95)
      have x0 : (wr.alloc (.cells #[.int .i64 (ckey L k), .int .i64 (cnum L k)] 95)).cell? ⟨wr.heap.size, 0, none⟩ = some (.int .i64 (ckey L k)) := by go_simp
      have x1 : (wr.alloc (.cells #[.int .i64 (ckey L k), .int .i64 (cnum L k)] 95)).cell? ⟨wr.heap.size, 1, none⟩ = some (.int .i64 (cnum L k)) := by go_simp
      have e2 := ck hbx c2
      go_upto_region 10 with fail
      by_cases h0 : 0 < k
      · obtain ⟨hbs', hd1, _⟩ := HX.out (k - 1) (by omega)
        have q2 := carry_cell ⟨hbs', hd1⟩ hbx
        have e1 : ((k : Int) - 1) = ((k - 1 : Nat) : Int) := by omega
        have h0' : (0 : Int) < (k : Int) := by omega
        clear hd1 q0 q1 d0 d2
        generalize (wr.alloc (.cells #[.int .i64 (ckey L k), .int .i64 (cnum L k)] 95)) = wx at *
        generalize wr.heap.size = XB at *
        by_cases h3 : ckey L k ≤ ckey L (k - 1)
        · have h3' : ¬ ckey L (k - 1) < ckey L k := by omega
          go_quiet (fail)
          go_wp2
          go_ret
          exact ret_er (below_drewN (bstep HB.out hbx) _) ⟨fun e => by omega, fun e => by have := krise_at L e.ris (k - 1) k (by omega) (by rw [LN.out]; exact hlt); omega⟩
        · go_quiet (fail)
          go_wp2
          go_roundg (n - (k + 1))
          case measure => omega
          case rel =>
            exact ⟨k + 1, by omega, by omega, by go_num, below_drewN hbx _, hidp ⟨krise_step L k (by rw [LN.out]; exact hlt) I.out.1 (fun _ => by omega), fun p hp => by
              rw [ctake L k (by rw [LN.out]; exact hlt)] at hp
              rcases List.mem_append.1 hp with hp | hp
              · exact I.out.2 p hp
              · simp at hp; rw [hp]; exact ⟨by show 1 ≤ cnum L k; omega, by show cnum L k ≤ _; omega⟩⟩⟩
      · have h0' : ¬ (0 : Int) < (k : Int) := by omega
        generalize (wr.alloc (.cells #[.int .i64 (ckey L k), .int .i64 (cnum L k)] 95)) = wx at *
        generalize wr.heap.size = XB at *
        clear q0 q1 d0 d2
        go_quiet (fail)
        go_wp2
        go_roundg (n - (k + 1))
        case measure => omega
        case rel =>
          exact ⟨k + 1, by omega, by omega, by go_num, below_drewN hbx _, hidp ⟨krise_step L k (by rw [LN.out]; exact hlt) I.out.1 (fun h => absurd h h0), fun p hp => by
            rw [ctake L k (by rw [LN.out]; exact hlt)] at hp
            rcases List.mem_append.1 hp with hp | hp
            · exact I.out.2 p hp
            · simp at hp; rw [hp]; exact ⟨by show 1 ≤ cnum L k; omega, by show cnum L k ≤ _; omega⟩⟩⟩
    · obtain rfl : k = n := by omega
      have TK : L.take k = L := by rw [← LN.out, List.take_length]
      rw [TK] at I
      have hok := hidp (show FewOkZ K lost L from ⟨by omega, by omega, by omega, by omega, by rw [LN.out]; omega, I.out.1, I.out.2⟩)
      clear TK
      go_wp2_with fail
      go_ret
      exact ret_er (bstep HB.out hbl) ⟨fun _ => hok.out, fun _ => rfl⟩
/-- At a few that may be. -/
theorem fcheck_ok (K : Nat) (s : Int × List (Int × Int)) (a : Option Addr) (n c : Nat) (w : World) (h : CntAt w a n c s.2) (hok : FewOk K s) :
    Calls Try.prog 44 #[fewV K s.1 a n c] w fun e w' => e = .returned (.int .i64 0) ∧ Below w.heap.size w w' := by
  refine (fcheck_g K s.1 a n c s.2 w h).mono ?_
  rintro e w' ⟨er, rfl, hb, hi⟩
  exact ⟨by rw [hi.2 hok.okZ], hb⟩
end Go.Proofs.Ytcbklhicellepaa
