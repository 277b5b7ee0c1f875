/- Contract of board.Ask at boards that may be. -/
import Derived.Test.YtmlkhiffmkkmdaaBoardCheck
namespace Go.Proofs.Ytmlkhiffmkkmdaa
open Go.ChangeShapes Go.WideShapes Go.ChangeAt Go.RowKit Go.Lib
set_option maxRecDepth 20000
theorem hasPrefix_c (s p : ByteArray) (w : World) :
    Calls Try.prog 42 #[.string s, .string p] w fun e w' => e = .returned (.bool (begins s p)) ∧ w' = w := Try.strings_HasPrefix s p w
/-- The best rule among the first k: its place and 1, or 0. -/
def askI (L : List Rl) (s : ByteArray) : Nat → Nat
  | 0 => 0
  | k + 1 => if begins s (rp L k) = true ∧ (askI L s k = 0 ∨ (rp L (askI L s k - 1)).size < (rp L k).size) then k + 1 else askI L s k
theorem askI_le (L : List Rl) (s : ByteArray) : ∀ k, askI L s k ≤ k
  | 0 => Nat.le_refl _
  | k + 1 => by
    unfold askI
    split
    · omega
    · have := askI_le L s k; omega
/-- What Ask says. -/
def askL (L : List Rl) (s : ByteArray) : Int := if askI L s L.length = 0 then 0 else rl L (askI L s L.length - 1)
def askE (L : List Rl) (s : ByteArray) : Int := if askI L s L.length = 0 then 4 else 0
set_option maxHeartbeats 4000000 in
theorem ask_c (a : Option Addr) (n c : Nat) (L : List Rl) (s : ByteArray) (w : World) (h : RulesAt w a n c L) (ho : BdOk L) (hs : s.size ≤ 200) :
    Calls Try.prog 23 #[.slice a n c, .string s] w fun e w' => e = .returned (.tuple #[.int .i64 (askL L s), .int .i64 (askE L s)]) ∧ Below w.heap.size w w' := by
  have CK := hidp (bdcheck_c a n c L w h ho)
  have mm := h.max
  have ee := h.le
  have LN := hidp h.len
  have hn : n ≤ 16 := by have := ho.len; rw [h.len] at this; exact this
  obtain ⟨b, o, hz, hx⟩ := h.split
  have hz' : Hid (n = 0) ∨ a = some ⟨b, o, none⟩ := hz.imp_left hidp
  have HX := hidp hx
  have HP := hidp (hasPrefix_c s)
  have AL := hidp (fun k => askI_le L s k)
  have AS := hidp (fun k => show askI L s (k + 1) = if begins s (rp L k) = true ∧ (askI L s k = 0 ∨ (rp L (askI L s k - 1)).size < (rp L k).size) then k + 1 else askI L s k from rfl)
  have RL := hidp (show askL L s = if askI L s n = 0 then 0 else rl L (askI L s n - 1) by rw [← LN.out]; rfl)
  have RE := hidp (show askE L s = if askI L s n = 0 then 4 else 0 by rw [← LN.out]; rfl)
  have hs2 : ¬ (200 : Int) < (s.size : Int) := by omega
  clear h hz hx ho
  go_enter Try.func23, Try.ntmps23
  go_wp2_with fail
  refine CK.out.mono ?_
  rintro e w' ⟨rfl, hb0⟩
  go_wp2_with fail
  go_loopg [7, 20] n (fun gg s7 i wr => ∃ k : Nat, k ≤ n ∧ n - k ≤ gg ∧ i = .int .i64 k ∧ s7 = .int .i64 ((askI L s k : Int) - 1) ∧ Below w.heap.size w wr)
  case atStart => exact ⟨0, by omega, by omega, rfl, rfl, hb0⟩
  case round =>
    clear hb0
    obtain ⟨k, hk, hgg, rfl, rfl, hbl⟩ := hrel
    have A1 := AL.out k
    by_cases hlt : k < n
    · obtain rfl : a = some ⟨b, o, none⟩ := hz'.resolve_left (fun e => by have := e.out; omega)
      obtain ⟨hbs, x0, x1, x2⟩ := HX.out k hlt
      have q0 := carry_cell ⟨hbs, x0⟩ hbl
      have q1 := carry_cell ⟨hbs, x1⟩ hbl
      have q2 := carry_cell ⟨hbs, x2⟩ hbl
      have S1 := hidp (AS.out k)
      clear x0 x1 x2
      rcases Nat.eq_zero_or_pos (askI L s k) with h0 | hpos
      · rw [h0]
        have S2 := hidp (show askI L s (k + 1) = if begins s (rp L k) = true then k + 1 else 0 by
          rw [S1.out, h0]
          by_cases hh : begins s (rp L k) = true
          · rw [if_pos ⟨hh, .inl rfl⟩, if_pos hh]
          · rw [if_neg (fun e => hh e.1), if_neg hh])
        clear h0 S1
        generalize rp L k = p at *
        generalize rl L k = l at *
        generalize re L k = e at *
        have hb2 : Below w.heap.size w (wr.alloc (.cells #[.string p, .int .i64 l, .int .i64 e] 51)) := bal hbl _
        have r0 : (wr.alloc (.cells #[.string p, .int .i64 l, .int .i64 e] 51)).cell? ⟨wr.heap.size, 0, none⟩ = some (.string p) := by simp
        have H1 := hidp (fun W => HP.out p W)
        cases hbg : begins s p with
        | false =>
          have S3 := hidp (show askI L s (k + 1) = 0 by rw [S2.out, hbg]; rfl)
          rw [hbg] at H1
          clear hbg
          go_wp2_with fail
          go_quiet ((go_at_call 42; exact Calls.quiet_of_same (H1.out _)))
          go_wp2_with fail
          go_roundg (n - (k + 1))
          case measure => omega
          case rel => exact ⟨k + 1, by omega, by omega, by go_num, by rw [S3.out]; rfl, below_drewN hb2 _⟩
        | true =>
          have S3 := hidp (show askI L s (k + 1) = k + 1 by rw [S2.out, hbg]; rfl)
          rw [hbg] at H1
          clear hbg
          go_wp2_with fail
          go_quiet ((go_at_call 42; exact Calls.quiet_of_same (H1.out _)))
          go_wp2_with fail
          go_roundg (n - (k + 1))
          case measure => omega
          case rel => exact ⟨k + 1, by omega, by omega, by go_num, by rw [S3.out]; go_num, below_drewN hb2 _⟩
      · obtain ⟨j, hj⟩ : ∃ j, askI L s k = j + 1 := ⟨askI L s k - 1, by omega⟩
        have hj' : j < n := by omega
        obtain ⟨_, y0, _, _⟩ := HX.out j hj'
        have p0 := carry_cell ⟨hbs, y0⟩ hbl
        have S2 := hidp (show askI L s (k + 1) = if begins s (rp L k) = true ∧ (rp L j).size < (rp L k).size then k + 1 else j + 1 by
          rw [S1.out, hj]
          show (if begins s (rp L k) = true ∧ (j + 1 = 0 ∨ (rp L j).size < (rp L k).size) then k + 1 else j + 1) = _
          by_cases hh : begins s (rp L k) = true ∧ (rp L j).size < (rp L k).size
          · rw [if_pos hh, if_pos ⟨hh.1, .inr hh.2⟩]
          · rw [if_neg hh, if_neg (fun e => hh ⟨e.1, e.2.resolve_left (by omega)⟩)])
        rw [hj, show (((j + 1 : Nat) : Int) - 1) = (j : Int) by omega]
        clear S1 hj hpos y0 A1
        generalize rp L k = p at *
        generalize rl L k = l at *
        generalize re L k = e at *
        generalize rp L j = pj at *
        have hb2 : Below w.heap.size w (wr.alloc (.cells #[.string p, .int .i64 l, .int .i64 e] 51)) := bal hbl _
        have r0 : (wr.alloc (.cells #[.string p, .int .i64 l, .int .i64 e] 51)).cell? ⟨wr.heap.size, 0, none⟩ = some (.string p) := by simp
        have p1 := ca p0 (.cells #[.string p, .int .i64 l, .int .i64 e] 51)
        have H1 := hidp (fun W => HP.out p W)
        have hj0 : ¬ (j : Int) < 0 := by omega
        cases hbg : begins s p with
        | false =>
          have S3 := hidp (show askI L s (k + 1) = j + 1 by rw [S2.out, hbg, if_neg (fun e => by cases e.1)])
          rw [hbg] at H1
          clear hbg
          go_wp2_with fail
          go_quiet ((go_at_call 42; exact Calls.quiet_of_same (H1.out _)))
          go_wp2_with fail
          go_roundg (n - (k + 1))
          case measure => omega
          case rel => exact ⟨k + 1, by omega, by omega, by go_num, by rw [S3.out]; go_num, below_drewN hb2 _⟩
        | true =>
          rw [hbg] at H1
          by_cases hsz : pj.size < p.size
          · have S3 := hidp (show askI L s (k + 1) = k + 1 by rw [S2.out, if_pos ⟨hbg, hsz⟩])
            have hsz' : (pj.size : Int) < (p.size : Int) := by omega
            clear hbg hsz
            go_wp2_with fail
            go_quiet ((go_at_call 42; exact Calls.quiet_of_same (H1.out _)))
            go_wp2_with fail
            go_roundg (n - (k + 1))
            case measure => omega
            case rel => exact ⟨k + 1, by omega, by omega, by go_num, by rw [S3.out]; go_num, below_drewN hb2 _⟩
          · have S3 := hidp (show askI L s (k + 1) = j + 1 by rw [S2.out, if_neg (fun e => hsz e.2)])
            have hsz' : ¬ (pj.size : Int) < (p.size : Int) := by omega
            clear hbg hsz
            go_wp2_with fail
            go_quiet ((go_at_call 42; exact Calls.quiet_of_same (H1.out _)))
            go_wp2_with fail
            go_roundg (n - (k + 1))
            case measure => omega
            case rel => exact ⟨k + 1, by omega, by omega, by go_num, by rw [S3.out]; go_num, below_drewN hb2 _⟩
    · obtain rfl : k = n := by omega
      rcases Nat.eq_zero_or_pos (askI L s k) with h0 | hpos
      · have T1 := hidp (show askL L s = 0 by rw [RL.out, if_pos h0])
        have T2 := hidp (show askE L s = 4 by rw [RE.out, if_pos h0])
        rw [h0]
        clear h0
        go_wp2_with fail
        go_ret2
        exact ⟨by rw [T1.out, T2.out]; rfl, hbl⟩
      · obtain ⟨j, hj⟩ : ∃ j, askI L s k = j + 1 := ⟨askI L s k - 1, by omega⟩
        have hj' : j < k := by omega
        have T1 := hidp (show askL L s = rl L j by rw [RL.out, if_neg (by omega), hj]; rfl)
        have T2 := hidp (show askE L s = 0 by rw [RE.out, if_neg (by omega)])
        obtain rfl : a = some ⟨b, o, none⟩ := hz'.resolve_left (fun e => by have := e.out; omega)
        obtain ⟨hbs, x0, x1, x2⟩ := HX.out j hj'
        have q1 := carry_cell ⟨hbs, x1⟩ hbl
        rw [hj, show (((j + 1 : Nat) : Int) - 1) = (j : Int) by omega]
        have hj0 : ¬ (j : Int) < 0 := by omega
        clear hj hpos A1 x0 x1 x2
        generalize rl L j = l at *
        go_wp2_with fail
        go_ret2
        exact ⟨by rw [T1.out, T2.out]; rfl, hbl⟩
end Go.Proofs.Ytmlkhiffmkkmdaa
