/- Contract of board.Check at boards that may be. -/
import Derived.Test.YtmlkhiffmkkmdaaBoardFind
import Derived.WalkLawsBesides
namespace Go.Proofs.Ytmlkhiffmkkmdaa
open Go.ChangeShapes Go.WideShapes Go.ChangeAt Go.RowKit Go.Lib
set_option maxRecDepth 20000
/-- A board that may be. -/
structure BdOk (L : List Rl) : Prop where
  srt : Srt L
  len : L.length ≤ 16
  one : ∀ r ∈ L, oneE r = 0
set_option maxHeartbeats 4000000 in
theorem bdcheck_c (a : Option Addr) (n c : Nat) (L : List Rl) (w : World) (h : RulesAt w a n c L) (ho : BdOk L) :
    Calls Try.prog 41 #[.slice a n c] w fun e w' => e = .returned (.int .i64 0) ∧ Below w.heap.size w w' := by
  have mm := h.max
  have ee := h.le
  have hn : n ≤ 16 := by have := ho.len; rw [h.len] at this; exact this
  have h16 : ¬ (16 : Int) < (n : Int) := by omega
  obtain ⟨b, o, hz, hx⟩ := h.split
  have hz' : Hid (n = 0) ∨ a = some ⟨b, o, none⟩ := hz.imp_left hidp
  have HX := hidp hx
  have ON := hidp (fun k (hk : k < n) => show oneE (rp L k, rl L k, re L k) = 0 from ho.one _ (rmem L k (by rw [h.len]; exact hk)))
  have LT := hidp (fun k (hk : k + 1 < n) => show Op.bytesLess (rp L k).toList (rp L (k + 1)).toList = true from by
    have h1 := h.len
    have := List.pairwise_iff_getElem.1 ho.srt k (k + 1) (by omega) (by omega) (by omega)
    have e1 : rp L k = L[k].1 := by unfold rp; rw [List.getD_eq_getElem?_getD, List.getElem?_eq_getElem (by omega)]; rfl
    have e2 : rp L (k + 1) = L[k + 1].1 := by unfold rp; rw [List.getD_eq_getElem?_getD, List.getElem?_eq_getElem (by omega)]; rfl
    rw [e1, e2]; exact this)
  have OC := hidp one_c
  clear h hz hx ho
  go_enter Try.func41, Try.ntmps41
  go_wp2_with fail
  go_loopg [11] n (fun gg i wr => ∃ k : Nat, k ≤ n ∧ n - k ≤ gg ∧ i = .int .i64 k ∧ Below w.heap.size w wr)
  case atStart => exact ⟨0, by omega, by omega, rfl, Below.refl _ _⟩
  case round =>
    obtain ⟨k, hk, hgg, rfl, hbl⟩ := hrel
    by_cases hlt : k < n
    · obtain rfl : a = some ⟨b, o, none⟩ := hz'.resolve_left (fun e => by have := e.out; omega)
      obtain ⟨hbs, x0, x1, x2⟩ := HX.out k hlt
      have q0 := carry_cell ⟨hbs, x0⟩ hbl
      have q1 := carry_cell ⟨hbs, x1⟩ hbl
      have q2 := carry_cell ⟨hbs, x2⟩ hbl
      have O1 := hidp (ON.out k hlt)
      have K1 := hidp (OC.out (rp L k) (rl L k) (re L k))
      rw [O1.out] at K1
      clear x0 x1 x2
      rcases Nat.eq_zero_or_pos k with rfl | hpos
      · simp only [Nat.zero_mul, Nat.add_zero] at q0 q1 q2
        generalize rp L 0 = s at *
        generalize rl L 0 = l at *
        generalize re L 0 = e at *
        have hb2 : Below w.heap.size w (wr.alloc (.cells #[.string s, .int .i64 l, .int .i64 e] 51)) := bal hbl _
        have r0 : (wr.alloc (.cells #[.string s, .int .i64 l, .int .i64 e] 51)).cell? ⟨wr.heap.size, 0, none⟩ = some (.string s) := by simp
        go_wp2_with fail
        refine (K1.out _).mono ?_
        rintro ee w' ⟨rfl, hb1⟩
        have hb3 := bstep hb2 hb1
        have r2 := ck hb1 r0
        clear hb1 hb2 r0
        go_wp2_with fail
        go_quiet (fail)
        go_wp2_with fail
        go_roundg (n - 1)
        case measure => omega
        case rel => exact ⟨1, by omega, by omega, by go_num, below_drewN hb3 _⟩
      · obtain ⟨j, rfl⟩ : ∃ j, k = j + 1 := ⟨k - 1, by omega⟩
        obtain ⟨_, x0, _, _⟩ := HX.out j (by omega)
        have p0 := carry_cell ⟨hbs, x0⟩ hbl
        have L1 := hidp (LT.out j hlt)
        clear x0
        generalize rp L (j + 1) = s at *
        generalize rl L (j + 1) = l at *
        generalize re L (j + 1) = e at *
        generalize rp L j = s0 at *
        have hb2 : Below w.heap.size w (wr.alloc (.cells #[.string s, .int .i64 l, .int .i64 e] 51)) := bal hbl _
        have p1 := ca p0 (.cells #[.string s, .int .i64 l, .int .i64 e] 51)
        have r0 : (wr.alloc (.cells #[.string s, .int .i64 l, .int .i64 e] 51)).cell? ⟨wr.heap.size, 0, none⟩ = some (.string s) := by simp
        go_wp2_with fail
        refine (K1.out _).mono ?_
        rintro ee w' ⟨rfl, hb1⟩
        have hb3 := bstep hb2 hb1
        have p2 := ck hb1 p1
        have r2 := ck hb1 r0
        have hj : (0 : Int) < (j : Int) + 1 := by omega
        have L2 := L1.out
        clear hb1 hb2 p0 p1 r0 q0 q1 q2
        go_wp2_with fail
        go_quiet (fail)
        go_wp2_with fail
        go_roundg (n - (j + 2))
        case measure => omega
        case rel => exact ⟨j + 2, by omega, by omega, by go_num, below_drewN hb3 _⟩
    · go_wp2_with fail
      go_ret
      exact ⟨rfl, hbl⟩
end Go.Proofs.Ytmlkhiffmkkmdaa
