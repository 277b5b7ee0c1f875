/- The walk of DigitTurned: the law returns true at all inputs, and no old memory changes. -/
import Derived.Test.YtpdigiefldnpaaaDRank
namespace Go.Proofs.Ytpdigiefldnpaaa.digitTurned
open Go.ChangeShapes Go.WideShapes Go.ChangeAt Go.RowKit
open Go.Proofs.Ytpdigiefldnpaaa
set_option maxRecDepth 20000

theorem ok210 : PermOk [2, 1, 0] 3 := ⟨by omega, fun i hi => match i, hi with
  | 0, _ => ⟨by decide, by decide, fun j hj => by omega⟩
  | 1, _ => ⟨by decide, by decide, fun j hj => by obtain rfl : j = 0 := by omega
                                                  decide⟩
  | 2, _ => ⟨by decide, by decide, fun j hj => match j, hj with
    | 0, _ => by decide
    | 1, _ => by decide⟩⟩
theorem ex1 : rkD [2, 1, 0] 3 3 = 5 := by decide +kernel

set_option linter.unusedVariables false
set_option maxHeartbeats 4000000 in
theorem walk (a0 : Int) (a1 : Int) (w : World) (w0 : (Lit.int .i64 a0).wf = true) (w1 : (Lit.int .i64 a1).wf = true) :
    Calls Try.prog 7 #[.int .i64 a0, .int .i64 a1] w fun e w' => e = .returned (.bool true) ∧ Below w.heap.size w w' := by
  obtain ⟨n, hn⟩ : ∃ n, n = wn a0 13 := ⟨_, rfl⟩
  have hn1 := wn_lt a0 13 (by omega)
  have cn := withinN_c a0 13 (by omega) (by omega)
  rw [← hn] at hn1 cn
  have hn12 : n ≤ 12 := by omega
  have CN := hidp cn
  have hf := fct_tab n (by omega)
  have CF := hidp (fun W => rfact_n n hn12 W)
  obtain ⟨F, hF⟩ : ∃ F, F = fct n := ⟨_, rfl⟩
  rw [← hF] at hf CF
  obtain ⟨i, hi⟩ : ∃ i, i = wn a1 F := ⟨_, rfl⟩
  have hi1 := wn_lt a1 F (by omega)
  have ci := withinN_c a1 F (by omega) (by omega)
  rw [← hi] at hi1 ci
  have CI := hidp ci
  have hiF : i < fct n := by omega
  have CO := hidp (fun W => order_c n i n i rfl rfl hn12 hiF W)
  have POK := hidp (ord_ok n i hn12 hiF)
  have hl := ordL_len n i (idn n)
  have TK := hidp (turn_ok _ n POK.out)
  have TU := hidp (turned _ n POK.out)
  rw [← hF] at TU
  obtain ⟨hf1, hf2⟩ := hf
  clear hn hn1 cn hF hi hi1 ci hiF w0 w1
  generalize ordL n i (idn n) = X at *
  have HL := hidp hl
  have RB := hidp (rkD_le X n hn12 n (Nat.le_refl _))
  have RT := hidp (rkD_le (turn X n) n hn12 n (Nat.le_refl _))
  clear hl
  go_enter Try.func7, Try.ntmps7
  go_wp2_with fail
  refine (drank_ok _ 3 _ [2, 1, 0] _ ?s0 ok210).mono ?_
  case s0 => exact ints_lit [2, 1, 0] (by simp) (by rfl) (by rfl) (by simp) (by omega)
  rintro e wa ⟨rfl, hba⟩
  rw [ex1]
  have hwa : Below w.heap.size w wa := bstep (bal (Below.refl _ _) _) hba
  clear hba
  go_wp2_with fail
  refine (CN.out _).mono ?_; rintro e w' ⟨rfl, rfl⟩
  go_wp2_with fail
  refine (CF.out _).mono ?_; rintro e w' ⟨rfl, rfl⟩
  go_wp2_with fail
  refine (CI.out _).mono ?_; rintro e w' ⟨rfl, rfl⟩
  go_wp2_with fail
  refine (CO.out _).mono ?_
  rintro e wb ⟨v, rfl, hv, hbb⟩
  obtain ⟨ax, cx, hve, hax⟩ := owns_ints hv (fun x hx => by
    obtain ⟨j, hj, hx⟩ := List.getElem_of_mem hx
    have hl := HL.out
    have := POK.out.2 j (by omega)
    have e1 : gi X j = x := by unfold gi; rw [List.getD_eq_getElem?_getD, List.getElem?_eq_getElem hj, hx]; rfl
    omega)
  subst hve
  have hwb := bstep hwa hbb
  obtain ⟨b, o, hz, hx⟩ := hax.split
  have hz' : Hid (n = 0) ∨ ax = some ⟨b, o, none⟩ := hz.imp_left hidp
  have HX := hidp hx
  have HAX := hidp hax
  have mx := hax.max
  have lx := hax.le
  have PB := hidp (fun k (hk : k < n) => POK.out.2 k hk)
  clear hv hbb hwa hax hz hx CN CF CI CO
  go_wp2_with fail
  go_loopw [10, 44] (fun v i wr => ∃ k : Nat, k ≤ n ∧ i = .int .i64 k ∧ wr.ownsRow wb.heap.size 3 1 v k ((tab (fun j => (n : Int) - 1 - gi X j) k).map (Value.int .i64)) ∧ Below wb.heap.size wb wr) (fun _ i _ => n - (intOf i).toNat)
  case atStart => exact ⟨0, by omega, rfl, World.ownsRow_nil _ _ _ _, Below.refl _ _⟩
  case round =>
    obtain ⟨k, hk, rfl, hv, hbl⟩ := hrel
    by_cases hlt : k < n
    · obtain rfl : ax = some ⟨b, o, none⟩ := hz'.resolve_left (fun e => by have := e.out; omega)
      have q := carry_cell (HX.out k hlt) hbl
      obtain ⟨p1, p2, _⟩ := PB.out k hlt
      go_wp2_with (at_builtin; refine wpList_append_new rfl (.tmp 48) (.tmp 53) 22 rfl wb.heap.size 3 _ 1 8 info_int rfl (by decide) Try.underlying22 _ k _ rfl hv rfl (one_int _ _) rfl rfl (by omega) (by decide) hbl.size ?_; intro v0 x0 nv g0 d0; have bl0 := append_step hv hbl (Nat.le_refl _) g0; clear g0 d0 hv hbl)
      go_roundw
      case rel => exact ⟨k + 1, by omega, by go_num, by rw [tab_snoc, List.map_append]; exact nv, bl0⟩
      case measure => simp [intOf]; omega
    · obtain rfl : k = n := by omega
      obtain ⟨ay, cy, hve, hay⟩ := owns_ints hv (fun x hx => by
        obtain ⟨j, hj, rfl⟩ := tab_mem _ _ _ hx
        have := PB.out j hj
        omega)
      subst hve
      have hT : tab (fun j => (k : Int) - 1 - gi X j) k = turn X k := rfl
      rw [hT] at hay
      clear hv hT
      have hwr := bstep hwb hbl
      go_wp2_with fail
      refine (drank_ok _ _ _ _ _ (HAX.out.below hbl) POK.out).mono ?_
      rintro e wc ⟨rfl, hbc⟩
      have hay := hay.below hbc
      have hwc := bstep hwr hbc
      go_wp2_with fail
      refine (drank_ok _ _ _ _ _ hay TK.out).mono ?_
      rintro e wd ⟨rfl, hbd⟩
      have hwd := bstep hwc hbd
      have t := TU.out
      have r1 := RB.out
      have r2 := RT.out
      clear hbc hbd hwc hwr hay hbl hwb
      generalize rkD X k k = A at *
      generalize rkD (turn X k) k k = B at *
      have hAB : (A : Int) + (B : Int) = (F : Int) - 1 := by omega
      go_wp2_with fail
      go_ret
      exact ⟨ret_bool (by simp), hwd⟩
end Go.Proofs.Ytpdigiefldnpaaa.digitTurned
