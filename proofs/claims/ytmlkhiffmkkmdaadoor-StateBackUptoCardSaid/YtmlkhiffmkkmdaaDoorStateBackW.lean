/- The walk of culkeep.StateBack. -/
import Derived.Test.YtmlkhiffmkkmdaaDoorRead
import Derived.Test.YtmlkhiffmkkmdaaDoorEqP
namespace Go.Proofs.YtmlkhiffmkkmdaaDoor
open Go.ChangeShapes Go.WideShapes Go.ChangeAt Go.RowKit Go.Maps
set_option maxRecDepth 20000
theorem chkF_at (L : List (ByteArray × ByteArray)) : ∀ n k, k < n → chkF L n = 0 → chk1 L k = 0
  | 0, k, hk, _ => by omega
  | n + 1, k, hk, h => by
    simp only [chkF] at h
    by_cases h0 : chkF L n = 0
    · rw [if_pos h0] at h
      by_cases e : k = n
      · rw [e]; exact h
      · exact chkF_at L n k (by omega) h0
    · rw [if_neg h0] at h; exact absurd h h0
theorem byt_mem {s : ByteArray} {c : UInt8} (h : c ∈ s.data.toList) : ∃ i, i < s.size ∧ byt s i = c.toNat := by
  obtain ⟨i, hi, e⟩ := List.mem_iff_getElem.1 h
  refine ⟨i, by rw [Array.length_toList] at hi; exact hi, ?_⟩
  unfold byt
  rw [List.getD_eq_getElem?_getD, List.getElem?_eq_getElem hi, e]; rfl
theorem key_no {s : ByteArray} (h : keyB s = true) (c : UInt8) (hc : kcOk c.toNat = false) : c ∉ s.data.toList := fun hm => by
  obtain ⟨i, hi, e⟩ := byt_mem hm
  unfold keyB at h
  rw [Bool.and_eq_true] at h
  have := kPre_at s s.size i hi h.2
  rw [e, hc] at this; cases this
theorem val_no {s : ByteArray} (h : valB s = true) (c : UInt8) (hc : vcOk c.toNat = false) : c ∉ s.data.toList := fun hm => by
  obtain ⟨i, hi, e⟩ := byt_mem hm
  unfold valB at h
  rw [Bool.and_eq_true] at h
  have := vPre_at s s.size i hi h.2
  rw [e, hc] at this; cases this
theorem chkE_ok (L : List (ByteArray × ByteArray)) (h : chkE L = 0) : ∀ p ∈ L, (61 : UInt8) ∉ p.1.data.toList ∧ (44 : UInt8) ∉ p.1.data.toList ∧ (44 : UInt8) ∉ p.2.data.toList := by
  intro p hp
  unfold chkE at h
  by_cases h40 : 40 < L.length
  · rw [if_pos h40] at h; cases h
  rw [if_neg h40] at h
  obtain ⟨i, hi, rfl⟩ := List.mem_iff_getElem.1 hp
  have h1 := chkF_at L L.length i hi h
  have e : L[i] = (pk L i, pv L i) := by
    have := pget L i hi
    rw [List.getElem?_eq_getElem hi] at this
    exact Option.some.inj this
  rw [e]
  unfold chk1 at h1
  by_cases hk : (keyB (pk L i) && valB (pv L i)) = true
  · rw [Bool.and_eq_true] at hk
    exact ⟨key_no hk.1 61 (by decide), key_no hk.1 44 (by decide), val_no hk.2 44 (by decide)⟩
  · rw [if_neg hk] at h1; cases h1
/-- What was written is read again. -/
theorem back1 (L : List (ByteArray × ByteArray)) (h : wE L = 0) : wT L = txt L ∧ rE (txt L) = 0 ∧ rL (txt L) = L := by
  have hc : chkE L = 0 := by
    unfold wE at h
    by_cases h0 : chkE L = 0
    · exact h0
    · rw [if_neg h0] at h; exact absurd h h0
  have hs : ¬ 200 < (txt L).size := by
    unfold wE at h
    rw [if_pos hc] at h
    by_cases h2 : 200 < (txt L).size
    · rw [if_pos h2] at h; cases h
    · exact h2
  refine ⟨by unfold wT; rw [if_pos h], ?_⟩
  cases hL : L with
  | nil => exact ⟨by decide +kernel, by decide +kernel⟩
  | cons p l =>
    rw [← hL]
    have hne : L ≠ [] := by rw [hL]; simp
    have h1 := txt_ne L hne
    have h2 := read_txt L hne (chkE_ok L hc)
    have h3 : (L.map wdL).map rdP = L := by
      rw [List.map_map]
      exact (List.map_congr_left (f := rdP ∘ wdL) (g := id) (fun q hq => (rd_wd q (chkE_ok L hc q hq).1).1)).trans (List.map_id _)
    have h4 : rL (txt L) = L := by unfold rL; rw [if_neg (by omega), h2, h3]
    refine ⟨?_, h4⟩
    unfold rE
    rw [if_neg hs, if_neg (by omega), h2, if_pos (List.all_eq_true.2 (fun w hw => by
      obtain ⟨q, hq, rfl⟩ := List.mem_map.1 hw
      exact (rd_wd q (chkE_ok L hc q hq).1).2)), h4]
    exact hc
/-- What was read is written again. -/
theorem back2 (s : ByteArray) (h : rE s = 0) : wE (rL s) = 0 ∧ wT (rL s) = s := by
  unfold rE at h
  by_cases h2 : 200 < s.size
  · rw [if_pos h2] at h; cases h
  rw [if_neg h2] at h
  by_cases h0 : s.size = 0
  · have e : s = ⟨#[]⟩ := ByteArray.ext (Array.eq_empty_of_size_eq_zero h0)
    have e2 : rL s = [] := by unfold rL; rw [if_pos h0]
    rw [e2, e]
    exact ⟨by decide +kernel, by decide +kernel⟩
  rw [if_neg h0] at h
  by_cases ha : (pcs s).all rdOk = true
  · rw [if_pos ha] at h
    have e : txt (rL s) = s := by
      have := write_read s (fun w hw => List.all_eq_true.1 ha w hw)
      unfold rL
      rw [if_neg h0]; exact this
    have hw : wE (rL s) = 0 := by unfold wE; rw [if_pos h, e, if_neg h2]
    exact ⟨hw, by unfold wT; rw [if_pos hw, e]⟩
  · rw [if_neg ha] at h; cases h
theorem rL_size (s : ByteArray) (h : rE s = 0) : ∀ p ∈ rL s, p.1.size ≤ 2097152 ∧ p.2.size ≤ 2097152 := fun p hp => by
  have h2 : ¬ 200 < s.size := fun e => by unfold rE at h; rw [if_pos e] at h; cases h
  unfold rL at hp
  by_cases h0 : s.size = 0
  · rw [if_pos h0] at hp; cases hp
  · rw [if_neg h0] at hp
    have := rdP_size s p hp
    omega
def sb2 : List (ByteArray × ByteArray) := [(⟨#[97]⟩, ⟨#[49]⟩), (⟨#[98]⟩, ⟨#[50]⟩)]
theorem sb2_w : wT sb2 = ⟨#[97, 61, 49, 44, 98, 61, 50]⟩ ∧ wE sb2 = 0 := by decide +kernel
theorem sb2_at (w : World) (T : TypeId) : PairsAt (w.alloc (.cells #[.string ⟨#[97]⟩, .string ⟨#[49]⟩, .string ⟨#[98]⟩, .string ⟨#[50]⟩] T)) (some ⟨w.heap.size, 0, none⟩) 2 2 sb2 := by
  refine ⟨rfl, Nat.le_refl _, by omega, fun _ => ⟨_, _, rfl, by simp, fun i hi => ?_⟩, fun p hp => ?_⟩
  · rcases (by omega : i = 0 ∨ i = 1) with rfl | rfl <;> (refine ⟨?_, ?_⟩ <;> (go_simp; try rfl))
  · rcases List.mem_cons.1 hp with rfl | hp
    · decide
    · rcases List.mem_cons.1 hp with rfl | hp
      · decide
      · cases hp
theorem sbw_c (w : World) (T : TypeId) : Calls Tryd.prog 4 #[.slice (some ⟨w.heap.size, 0, none⟩) 2 2] (w.alloc (.cells #[.string ⟨#[97]⟩, .string ⟨#[49]⟩, .string ⟨#[98]⟩, .string ⟨#[50]⟩] T)) fun e w' => e = .returned (.tuple #[.string ⟨#[97, 61, 49, 44, 98, 61, 50]⟩, .int .i64 0]) ∧ Below w.heap.size w w' := by
  have := write_c _ 2 2 sb2 _ (sb2_at w T) (fun p hp => by
    rcases List.mem_cons.1 hp with rfl | hp
    · decide
    · rcases List.mem_cons.1 hp with rfl | hp
      · decide
      · cases hp)
  rw [sb2_w.1, sb2_w.2] at this
  exact this.mono (fun e w' h => ⟨h.1, bstep (bal (Below.refl _ _) _) h.2⟩)
set_option maxHeartbeats 8000000 in
theorem stateBack.walk (a0 : Option Addr) (len0 cap0 : Nat) (z0 : List (ByteArray × ByteArray)) (s : ByteArray) (m : Int) (w : World)
    (w0 : PairsAt w a0 len0 cap0 z0) (hB : ∀ p ∈ z0, p.1.size ≤ 2097152 ∧ p.2.size ≤ 2097152) (hm : w.cell? ⟨0, 0, none⟩ = some (.int .i64 m)) :
    Calls Tryd.prog 3 #[.slice a0 len0 cap0, .string s] w fun e w' => e = .returned (.bool true) ∧ Below w.heap.size w w' := by
  have LN := hidp w0.len
  have H0 := hidp w0
  have W0 := hidp sbw_c
  have W1 := hidp (fun W (hb : Below w.heap.size w W) => write_c a0 len0 cap0 z0 W (w0.below hb) hB)
  have RD := hidp (fun (t : ByteArray) W (h : W.cell? ⟨0, 0, none⟩ = some (.int .i64 m)) => read_c t m W h)
  have K1 := hidp (back1 z0)
  have K2 := hidp (back2 s)
  have KS := hidp (rL_size s)
  have EQ := hidp (fun W a c (hb : Below w.heap.size w W) (h : PairsAt W a z0.length c z0) => eqp_c a a0 len0 c cap0 z0 W (by rw [← LN.out]; exact h) (w0.below hb))
  clear w0 hB
  go_enter Tryd.func3, Tryd.ntmps3
  go_wp2_with fail
  refine (W0.out _ _).mono ?_
  rintro e w1 ⟨rfl, B1⟩
  replace hm := ck B1 hm
  go_wp2_with fail
  refine (W1.out _ B1).mono ?_
  rintro e w2 ⟨rfl, hb⟩
  have B2 := bstep B1 hb
  replace hm := ck hb hm
  clear hb B1 W0 W1
  by_cases hw : wE z0 = 0
  · obtain ⟨k1, k2, k3⟩ := K1.out hw
    rw [hw, k1]
    have R1 := RD.out (txt z0) w2 hm
    rw [k2, k3] at R1
    have R2 := hidp R1
    clear R1 k1 k2 k3 K1 hw
    generalize txt z0 = t at *
    go_wp2_with fail
    refine R2.out.mono ?_
    rintro e w3 ⟨hpost, hb⟩
    rcases hpost with ⟨_, a3, c3, rfl, hP⟩ | ⟨h00, _⟩
    case inr => exact absurd rfl h00
    have B3 := bstep B2 hb
    replace hm := ck hb hm
    have E1 := hidp (EQ.out w3 a3 c3 B3 hP)
    rw [LN.out]
    clear hP hb B2 R2
    go_wp2_with fail
    refine E1.out.mono ?_
    rintro e w4 ⟨rfl, hb⟩
    have B4 := bstep B3 hb
    replace hm := ck hb hm
    clear hb B3 E1
    go_wp2_with fail
    refine (RD.out s _ hm).mono ?_
    rintro e w5 ⟨hpost, hb⟩
    have B5 := bstep B4 hb
    clear hb B4 hm RD EQ
    rcases hpost with ⟨hE, a5, c5, rfl, hP⟩ | ⟨_, x, hx, rfl⟩
    · obtain ⟨k1, k2⟩ := K2.out hE
      have W3 := hidp (write_c a5 _ c5 (rL s) w5 hP (KS.out hE))
      rw [k1, k2] at W3
      clear hP hE k1 k2
      go_wp2_with fail
      refine W3.out.mono ?_
      rintro e w6 ⟨rfl, hb⟩
      have B6 := bstep B5 hb
      clear hb W3 B5
      go_wp2_with fail
      go_ret
      exact ⟨rfl, B6⟩
    · go_wp2_with fail
      go_ret
      exact ⟨rfl, B5⟩
  · have hx : (wE z0 == 0) = false := by simpa using hw
    have B4 := B2
    clear hw K1 B2
    generalize wE z0 = x0 at *
    generalize wT z0 = t0 at *
    go_wp2_with fail
    refine (RD.out s _ hm).mono ?_
    rintro e w5 ⟨hpost, hb⟩
    have B5 := bstep B4 hb
    clear hb B4 hm RD EQ
    rcases hpost with ⟨hE, a5, c5, rfl, hP⟩ | ⟨_, x, hx, rfl⟩
    · obtain ⟨k1, k2⟩ := K2.out hE
      have W3 := hidp (write_c a5 _ c5 (rL s) w5 hP (KS.out hE))
      rw [k1, k2] at W3
      clear hP hE k1 k2
      go_wp2_with fail
      refine W3.out.mono ?_
      rintro e w6 ⟨rfl, hb⟩
      have B6 := bstep B5 hb
      clear hb W3 B5
      go_wp2_with fail
      go_ret
      exact ⟨rfl, B6⟩
    · go_wp2_with fail
      go_ret
      exact ⟨rfl, B5⟩
end Go.Proofs.YtmlkhiffmkkmdaaDoor
