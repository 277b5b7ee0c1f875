/- Contract of state.Read. -/
import Derived.Test.YtdfghgeccannnaaDoorWrite
namespace Go.Proofs.YtdfghgeccannnaaDoor
open Go.ChangeShapes Go.WideShapes Go.ChangeAt Go.RowKit Go.Maps
set_option maxRecDepth 20000
def rE (s : ByteArray) : Int := if 200 < s.size then 2 else if s.size = 0 then 0 else if (pcs s).all rdOk = true then chkE (rL s) else 3
theorem sp_c (s : ByteArray) (m : Int) (w : World) (hs : s.size ≤ 200) (hm : w.cell? ⟨0, 0, none⟩ = some (.int .i64 m)) :
    Calls Tryd.prog 35 #[.string s, .string ⟨#[44]⟩] w fun e w' => e = .returned (.slice (some ⟨w.heap.size, 0, none⟩) (pcs s).length (pcs s).length) ∧ Below w.heap.size w w' ∧ ∀ k, k < (pcs s).length → w'.cell? ⟨w.heap.size, k, none⟩ = some (.string (mkB (pc (pcs s) k))) := by
  have SC := Tryd.strings_Split s ⟨#[44]⟩ m w (by omega) hm (by decide)
  rw [(split_pcs s).1, (split_pcs s).2] at SC
  refine SC.mono ?_
  rintro e w' ⟨rfl, rfl⟩
  refine ⟨rfl, bal (Below.refl _ _) _, fun k hk => ?_⟩
  unfold World.cell?
  rw [heap_alloc_new]
  have : (((pcs s).map mkB).map Value.string)[k]? = some (.string (mkB (pc (pcs s) k))) := by
    rw [List.getElem?_map, List.getElem?_map, pc_get _ _ hk]; rfl
  simpa using this
theorem ct_c (l : List UInt8) (m : Int) (w : World) (hs : l.length ≤ 200) (hm : w.cell? ⟨0, 0, none⟩ = some (.int .i64 m)) :
    Calls Tryd.prog 36 #[.string (mkB l), .string ⟨#[61]⟩] w fun e w' => e = .returned (.tuple #[.string (rdP l).1, .string (rdP l).2, .bool (rdOk l)]) ∧ ∃ n, w' = w.drewN n :=
  Tryd.strings_Cut (mkB l) ⟨#[61]⟩ m w (by show l.toArray.size < _; rw [List.size_toArray]; omega) hm
theorem all_at {P : List (List UInt8)} (h : P.all rdOk = true) (k : Nat) (hk : k < P.length) : rdOk (pc P k) = true :=
  List.all_eq_true.1 h _ (List.mem_of_getElem? (pc_get P k hk))
theorem all_of {P : List (List UInt8)} (h : ∀ k, k < P.length → rdOk (pc P k) = true) : P.all rdOk = true :=
  List.all_eq_true.2 (fun x hx => by
    obtain ⟨k, hk, rfl⟩ := List.mem_iff_getElem.1 hx
    have := h k hk
    unfold pc at this
    rwa [List.getD_eq_getElem?_getD, List.getElem?_eq_getElem hk] at this)
set_option maxHeartbeats 4000000 in
theorem read_c (s : ByteArray) (m : Int) (w : World) (hm : w.cell? ⟨0, 0, none⟩ = some (.int .i64 m)) :
    Calls Tryd.prog 4 #[.string s] w fun e w' => ((rE s = 0 ∧ ∃ a c, e = .returned (.tuple #[.slice a (rL s).length c, .int .i64 0]) ∧ PairsAt w' a (rL s).length c (rL s)) ∨ (rE s ≠ 0 ∧ ∃ x : Int, (x != 0) = true ∧ e = .returned (.tuple #[.slice none 0 0, .int .i64 x]))) ∧ Below w.heap.size w w' := by
  by_cases h200 : 200 < s.size
  · have h2 := hidp (show rE s = 2 by unfold rE; rw [if_pos h200])
    have h200' : (200 : Int) < (s.size : Int) := by omega
    go_enter Tryd.func4, Tryd.ntmps4
    go_wp2_with fail
    go_ret2
    exact ⟨.inr ⟨by rw [h2.out]; decide, 2, rfl, rfl⟩, Below.refl _ _⟩
  have h200' : ¬ (200 : Int) < (s.size : Int) := by omega
  by_cases h0 : s.size = 0
  · have h2 := hidp (show rE s = 0 by unfold rE; rw [if_neg h200, if_pos h0])
    have h3 := hidp (show rL s = [] by unfold rL; rw [if_pos h0])
    obtain ⟨e0, e1⟩ := eq_empty1 s h0
    go_enter Tryd.func4, Tryd.ntmps4
    go_wp2_with fail
    go_ret2
    exact ⟨.inl ⟨h2.out, none, 0, by rw [h3.out]; rfl, by rw [h3.out]; exact ⟨rfl, Nat.le_refl _, by omega, fun h => by simp at h, fun p hp => by simp at hp⟩⟩, Below.refl _ _⟩
  obtain ⟨e0, e1⟩ := eq_empty0 s h0
  have RE := hidp (show rE s = if (pcs s).all rdOk = true then chkE (rL s) else 3 by unfold rE; rw [if_neg h200, if_neg h0])
  have RL := hidp (show rL s = (pcs s).map rdP by unfold rL; rw [if_neg h0])
  have SP := hidp (sp_c s m w (by omega) hm)
  have PZ := hidp (fun (x : List UInt8) hx => Nat.le_trans (pcs_size s x hx) (show s.size ≤ 200 by omega))
  have LB := hidp (fun p hp => (rdP_size s p hp))
  have NB : (pcs s).length ≤ 201 := by
    rw [pcs_len]
    have := List.count_le_length (a := 44) (l := s.data.toList)
    rw [Array.length_toList] at this
    show _ + 1 ≤ _
    have e : s.data.size = s.size := rfl
    omega
  have ms : s.size ≤ 200 := by omega
  generalize hP : pcs s = P at *
  obtain ⟨N, hN⟩ : ∃ N, N = P.length := ⟨_, rfl⟩
  have HN := hidp hN
  rw [← hN] at SP NB
  have PT := hidp (fun k (hk : k < N) => pc_take P k (by omega))
  have PL := hidp (fun k (hk : k < N) => PZ.out (pc P k) (List.mem_of_getElem? (pc_get P k (by omega))))
  have AL := hidp (fun (h : ∀ k, k < N → rdOk (pc P k) = true) => all_of (P := P) (fun k hk => h k (by omega)))
  have AN := hidp (fun (h : P.all rdOk = true) k (hk : k < N) => all_at h k (by omega))
  have TN := hidp (show P.take N = P by rw [hN, List.take_length])
  clear hN hP h0 h200 PZ
  go_enter Tryd.func4, Tryd.ntmps4
  go_wp2_with fail
  refine SP.out.mono ?_
  rintro e w2 ⟨rfl, hb2, hcell⟩
  have HC := hidp hcell
  have hm2 := ck hb2 hm
  clear hcell SP
  go_wp2_with fail
  go_loopg [4, 19] N (fun gg v i wr => ∃ k : Nat, k ≤ N ∧ N - k ≤ gg ∧ i = .int .i64 k ∧ Hid (wr.ownsRow w2.heap.size 32 2 v k (psV ((P.take k).map rdP))) ∧ Hid (∀ j, j < k → rdOk (pc P j) = true) ∧ Below w2.heap.size w2 wr)
  case atStart => exact ⟨0, by omega, by omega, rfl, hidp (World.ownsRow_nil _ _ _ _), hidp (fun j hj => by omega), Below.refl _ _⟩
  case round =>
    obtain ⟨k, hk, hgg, rfl, hv, hok, hbl⟩ := hrel
    by_cases hlt : k < N
    · have q0 := ck hbl (HC.out k hlt)
      have hmr := ck hbl hm2
      have CC := hidp (fun W h => ct_c (pc P k) m W (PL.out k hlt) h)
      have T1 := hidp (PT.out k hlt)
      have ANk := hidp (fun h => AN.out h k hlt)
      have OK2 := hidp (fun (h : rdOk (pc P k) = true) j (hj : j < k + 1) => show rdOk (pc P j) = true from by
        rcases Nat.lt_or_ge j k with h1 | h1
        · exact hok.out j h1
        · obtain rfl : j = k := by omega
          exact h)
      clear HC PT PL hok
      generalize hx : mkB (pc P k) = x at *
      clear hx
      generalize pc P k = l at *
      go_wp2_with fail
      refine (CC.out _ hmr).mono ?_
      rintro e w5 ⟨rfl, nq, hw5⟩
      have hv5 : Hid (w5.ownsRow w2.heap.size 32 2 u4 k (psV ((P.take k).map rdP))) := hidp (by rw [hw5]; exact hv.out)
      have hb5 : Below w2.heap.size w2 w5 := by rw [hw5]; exact below_drewN hbl nq
      clear hw5 hv hbl CC hmr q0
      cases hrd : rdOk l with
      | false =>
        have h3 := hidp (show rE s = 3 by
          rw [RE.out, if_neg]
          intro h
          have := ANk.out h
          rw [hrd] at this; cases this)
        have B5 := bstep hb2 hb5
        clear hrd OK2 ANk hv5
        go_wp2_with fail
        go_ret2
        exact ⟨.inr ⟨by rw [h3.out]; decide, 3, rfl, rfl⟩, B5⟩
      | true =>
        have OK3 := hidp (OK2.out hrd)
        have hP1 := hidp (show rdP l = ((rdP l).1, (rdP l).2) from rfl)
        clear hrd OK2 ANk
        generalize (rdP l).1 = x1 at *
        generalize (rdP l).2 = x2 at *
        have hv6 := hv5.out
        go_wp2_with (at_builtin; refine wpList_append_new rfl (.tmp 31) (.tmp 35) 22 rfl w2.heap.size 32 _ 2 32 info_pair rfl (by decide) Tryd.underlying22 _ k _ rfl hv5.out rfl (one_twoS _ _) rfl rfl (by omega) (by decide) hb5.size ?_; intro v0 x0 nv g0 d0; have bl0 := append_step hv5.out hb5 (Nat.le_refl _) g0; clear g0 d0)
        have NV := hidp nv
        clear nv hv6
        go_roundg (N - (k + 1))
        case measure => omega
        case rel => exact ⟨k + 1, by omega, by omega, by go_num, hidp (by rw [T1.out, List.map_append, psV_append, show psV (List.map rdP [l]) = [Value.string x1, Value.string x2] from by show psV [rdP l] = _; rw [hP1.out]; rfl]; exact NV.out), OK3, bl0⟩
    · obtain rfl : k = N := by omega
      have hv2 := hv.out
      rw [TN.out, ← RL.out] at hv2
      have hlen := hidp (show k = (rL s).length by rw [RL.out, List.length_map]; exact HN.out)
      have hsz : ∀ p ∈ rL s, p.1.size ≤ 9223372036854775807 ∧ p.2.size ≤ 9223372036854775807 := fun p hp => by
        rw [RL.out] at hp
        have := LB.out p hp
        omega
      have hall := AL.out hok.out
      have RE2 := hidp (show rE s = chkE (rL s) by rw [RE.out, if_pos hall])
      clear RE RL LB AL AN PT PL TN HN hok hv HC hall
      obtain ⟨L, hL⟩ : ∃ L, L = rL s := ⟨_, rfl⟩
      rw [← hL] at hv2 hlen hsz RE2
      have HL := hidp hL
      clear hL
      obtain ⟨av, cv, rfl, hP⟩ := owns_pairs hv2 hsz
      have CK := hidp (stcheck_c av k cv L wr hP)
      have HP := hidp hP
      have B3 := bstep hb2 hbl
      clear hv2 hP hsz hbl hb2
      go_wp2_with fail
      refine CK.out.mono ?_
      rintro e w6 ⟨rfl, hb6⟩
      have B6 := bstep B3 hb6
      have HP6 := hidp (HP.out.below hb6)
      clear CK HP hb6 B3
      by_cases hc : chkE L = 0
      · have hc2 := hidp hc
        rw [hc]
        have RE3 := hidp (RE2.out.trans hc)
        clear hc RE2
        go_wp2_with fail
        go_ret2
        exact ⟨.inl ⟨RE3.out, av, cv, by rw [← HL.out, ← hlen.out]; rfl, by rw [← HL.out, ← hlen.out]; exact HP6.out⟩, B6⟩
      · have hx : (chkE L != 0) = true := by simpa using hc
        have RE3 := hidp (show rE s ≠ 0 by rw [RE2.out]; exact hc)
        have hc2 := hidp hc
        clear hc RE2
        generalize chkE L = x at *
        go_wp2_with fail
        go_ret2
        exact ⟨.inr ⟨RE3.out, x, hx, rfl⟩, B6⟩
end Go.Proofs.YtdfghgeccannnaaDoor
