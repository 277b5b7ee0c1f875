/- Merged: DeskBegLaw, DeskBeginsW. -/
import Derived.Test.YtgodgfnfaiiohaaGreatDoorMgDeskLaid
/- The law of DeskBegins, plain: a script's first lines answer the first answers. -/
namespace Go.Proofs.YtgodgfnfaiiohaaGreatDoor
open Go.ChangeShapes Go.WideShapes Go.ChangeAt Go.RowKit
open Lib
set_option maxRecDepth 20000
set_option linter.unusedVariables false
theorem dwi_lo (k n : Int) (h : 1 ≤ n) : 0 ≤ wi k n := Int.emod_nonneg _ (by omega)
theorem dwi_hi (k n : Int) (h : 1 ≤ n) : wi k n < n := Int.emod_lt_of_pos _ (by omega)

theorem dwithin_c (k n : Int) (h1 : 1 ≤ n) (h2 : n ≤ 9223372036854775807) (w : World) :
    Calls Tryz.prog 7 #[.int .i64 k, .int .i64 n] w fun e w' => e = .returned (.int .i64 (wi k n)) ∧ w = w' := by
  go_enter Tryz.func7, Tryz.ntmps7
  go_wp2
  go_ret
  have e : wrap64 ((IntKind.u64.wrap k).tmod n) = wi k n := by
    rw [IntKind.wrap_u64, Int.tmod_eq_emod_of_nonneg (by omega)]
    have := dwi_lo k n h1
    have := dwi_hi k n h1
    exact IntWalk.wrap64_in _ ⟨by show -_ ≤ wi k n; omega, by show wi k n ≤ _; omega⟩
  exact ⟨ret_int e, rfl⟩

/-- Within as a natural number. -/
def dwn (k n : Int) : Nat := (wi k n).toNat
theorem dwn_cast (k n : Int) (h : 1 ≤ n) : ((dwn k n : Nat) : Int) = wi k n := Int.toNat_of_nonneg (dwi_lo k n h)
theorem dwn_lt (k n : Int) (h : 1 ≤ n) : ((dwn k n : Nat) : Int) < n := by rw [dwn_cast k n h]; exact dwi_hi k n h
theorem dwithinN_c (k n : Int) (h1 : 1 ≤ n) (h2 : n ≤ 9223372036854775807) (w : World) :
    Calls Tryz.prog 7 #[.int .i64 k, .int .i64 n] w fun e w' => e = .returned (.int .i64 (dwn k n : Nat)) ∧ w = w' := by
  rw [dwn_cast k n h1]; exact dwithin_c k n h1 h2 w
theorem pre_lines : ∀ (k : Nat) (s : List UInt8), k ≤ s.count 10 → linesL ((splitK [10] 1 (s.count 10) s).take k).flatten = (linesL s).take k ∧ ((splitK [10] 1 (s.count 10) s).take k).flatten.length ≤ s.length ∧ k ≤ (linesL s).length
  | 0, s, _ => ⟨by rw [List.take_zero, List.take_zero]; exact linesL_nil, by rw [List.take_zero]; exact Nat.zero_le _, Nat.zero_le _⟩
  | k + 1, s, h => by
    have hm : (10 : UInt8) ∈ s := List.count_pos_iff.1 (by omega)
    obtain ⟨x, y, rfl, hx⟩ := ix_part 10 s hm
    have hc : (x ++ 10 :: y).count 10 = y.count 10 + 1 := by rw [List.count_append, List.count_eq_zero.2 hx, List.count_cons_self]; omega
    rw [hc] at h
    obtain ⟨h1, h2, h3⟩ := pre_lines k y (by omega)
    rw [hc, split1_cons 10 x y hx, List.take_succ_cons, List.flatten_cons]
    have e : ∀ z : List UInt8, linesL (x ++ 10 :: z) = x :: linesL z := fun z => by
      unfold linesL
      rw [spL_at 10 x z hx, trim_cons _ _ (show spL 10 z ≠ [] from split_ne 10 _ _)]
    have e2 : ∀ z : List UInt8, x ++ [10] ++ z = x ++ 10 :: z := fun z => by simp
    rw [e2, e, e, h1]
    refine ⟨rfl, ?_, ?_⟩
    · simp only [List.length_append, List.length_cons]; omega
    · rw [List.length_cons]; omega
theorem fold_pre : ∀ (l : List ByteArray) (q : DeskSt × List UInt8), ∃ t, (l.foldl stepF q).2 = q.2 ++ t
  | [], q => ⟨[], by simp⟩
  | x :: l, q => by
    obtain ⟨t, ht⟩ := fold_pre l (stepF q x)
    have h1 : ∃ u, (stepF q x).2 = q.2 ++ u := by
      unfold stepF
      split
      · exact ⟨[], by simp⟩
      · exact ⟨_, List.append_assoc _ _ _⟩
    obtain ⟨u, hu⟩ := h1
    exact ⟨u ++ t, by rw [List.foldl_cons, ht, hu, List.append_assoc]⟩
theorem runQ_pre (l : List ByteArray) (k : Nat) : ∃ t, (runQ l).2 = (runQ (l.take k)).2 ++ t := by
  obtain ⟨t, ht⟩ := fold_pre (l.drop k) (runQ (l.take k))
  refine ⟨t, ?_⟩
  rw [← ht]
  unfold runQ
  rw [← List.foldl_append, List.take_append_drop]
theorem map_data_inj : ∀ (a b : List ByteArray), a.map (fun x => x.data.toList) = b.map (fun x => x.data.toList) → a = b
  | [], [], _ => rfl
  | [], _ :: _, h => by cases h
  | _ :: _, [], h => by cases h
  | x :: a, y :: b, h => by
    rw [List.map_cons, List.map_cons] at h
    have h1 := (List.cons.inj h).1
    have h2 := map_data_inj a b (List.cons.inj h).2
    rw [h2, ByteArray.ext (Array.toList_inj.1 h1)]
theorem join_flat : ∀ l : List (List UInt8), Lib.join l [] = l.flatten := fun l => by
  unfold Lib.join
  induction l with
  | nil => rfl
  | cons x l ih =>
    cases l with
    | nil => simp [List.intercalate]
    | cons y m => simp_all [List.intercalate]
/-- What strings.Join makes of the first k pieces. -/
def begP (s : ByteArray) (k : Nat) : ByteArray := ⟨(Lib.join (((afB s).take k).map (fun x => x.data.toList)) []).toArray⟩
theorem begP_data (s : ByteArray) (k : Nat) : (begP s k).data.toList = ((splitK [10] 1 (s.data.toList.count 10) s.data.toList).take k).flatten := by
  show (Lib.join (((afB s).take k).map (fun x => x.data.toList)) []).toArray.toList = _
  rw [join_flat, List.map_take, afB_data]
theorem begP_lines (s : ByteArray) (k : Nat) (hk : k < (afB s).length) : linesOf (begP s k) = (linesOf s).take k ∧ (begP s k).size ≤ s.size := by
  rw [afB_len] at hk
  obtain ⟨h1, h2, h3⟩ := pre_lines k s.data.toList (by omega)
  have hd := begP_data s k
  refine ⟨map_data_inj _ _ ?_, ?_⟩
  · rw [linesOf_data, hd, h1, List.map_take, linesOf_data]
  · have z1 : (begP s k).size = (begP s k).data.toList.length := by rw [Array.length_toList]; rfl
    have z2 : s.size = s.data.toList.length := by rw [Array.length_toList]; rfl
    rw [z1, z2, hd]
    exact h2
/-- The law. -/
theorem begins_law (s : ByteArray) (h1 : s.size ≤ 65536) (h2 : (linesOf s).length ≤ 200) (k : Nat) (hk : k < (afB s).length) : Lib.hasPrefix (runQ (linesOf s)).2 (runO (begP s k)) = true := by
  obtain ⟨e1, e2⟩ := begP_lines s k hk
  have e3 : runO (begP s k) = (runQ ((linesOf s).take k)).2 := by
    unfold runO
    rw [e1, if_neg (by rw [List.length_take]; omega)]
  rw [e3]
  obtain ⟨t, ht⟩ := runQ_pre (linesOf s) k
  unfold Lib.hasPrefix
  rw [List.isPrefixOf_iff_prefix]
  exact ⟨t, ht.symm⟩
def litB : ByteArray := ⟨#[116, 104, 32, 51, 54, 48, 50, 56, 55, 57, 55, 48, 49, 56, 57, 54, 51, 57, 54, 56, 10, 116, 104, 32, 45, 49, 10]⟩
def lx1 : ByteArray := ⟨#[116, 104, 32, 51, 54, 48, 50, 56, 55, 57, 55, 48, 49, 56, 57, 54, 51, 57, 54, 56]⟩
def lx2 : ByteArray := ⟨#[116, 104, 32, 45, 49]⟩
def lw2 : List ByteArray := [⟨#[116, 104]⟩, ⟨#[51, 54, 48, 50, 56, 55, 57, 55, 48, 49, 56, 57, 54, 51, 57, 54, 56]⟩]
def lw3 : List ByteArray := [⟨#[116, 104]⟩, ⟨#[45, 49]⟩]
theorem litB_lines : linesOf litB = [lx1, lx2] := by decide +kernel
theorem litB_w1 : wordsOf lx1 = lw2 := by decide +kernel
theorem litB_w2 : wordsOf lx2 = lw3 := by decide +kernel
theorem litB_c1 : lineC lw2 2 = some (.th 36028797018963968, 2) := by kernel_rfl
theorem litB_c2 : lineC lw3 2 = none := by kernel_rfl
theorem litB_r1 (D : DeskSt) : lineR D lw2 2 = (textR (qthS 36028797018963968) (qthE 36028797018963968), D) := by
  unfold lineR
  rw [litB_c1]
  show (if (2 : Nat) = 2 then opF D (.th 36028797018963968) else _) = _
  rw [if_pos rfl]
  rfl
theorem litB_r2 (D : DeskSt) : lineR D lw3 2 = (.error 9, D) := by
  unfold lineR
  rw [litB_c2]
theorem litB_out : runO litB = [111, 107, 32, 56, 10, 101, 114, 114, 111, 114, 32, 57, 10] := by
  unfold runO
  rw [litB_lines, if_neg (by decide +kernel)]
  show (stepF (stepF (desk0, []) lx1) lx2).2 = _
  have s1 : stepF (desk0, []) lx1 = (desk0, [111, 107, 32, 56, 10]) := by
    unfold stepF
    rw [litB_w1, if_neg (by decide +kernel)]
    rw [show lw2.length = 2 from rfl, litB_r1]
    have e : (ansS (textR (qthS 36028797018963968) (qthE 36028797018963968))).data.toList = [111, 107, 32, 56] := by decide +kernel
    rw [e]
    rfl
  rw [s1]
  unfold stepF
  rw [litB_w2, if_neg (by decide +kernel)]
  rw [show lw3.length = 2 from rfl, litB_r2]
  have e : (ansS (.error 9)).data.toList = [101, 114, 114, 111, 114, 32, 57] := by decide +kernel
  rw [e]
  rfl
end Go.Proofs.YtgodgfnfaiiohaaGreatDoor
/- The walk of culkeep.DeskBegins. -/
namespace Go.Proofs.YtgodgfnfaiiohaaGreatDoor
open Go.ChangeShapes Go.WideShapes Go.ChangeAt Go.RowKit
open Lib
set_option maxRecDepth 20000
set_option linter.unusedVariables false
set_option maxHeartbeats 16000000 in
theorem deskBegins_w (s : ByteArray) (k0 : Int) (hs : s.size ≤ 100000000) (w : World) (hT : Tabs w) :
    Calls Tryz.prog 3 #[.string s, .int .i64 k0] w fun e w' => e = .returned (.bool true) ∧ Below w.heap.size w w' := by
  have HT := hidp hT
  have R1 := hidp (show Calls Tryz.prog 5 #[.string ⟨#[116, 104, 32, 51, 54, 48, 50, 56, 55, 57, 55, 48, 49, 56, 57, 54, 51, 57, 54, 56, 10, 116, 104, 32, 45, 49, 10]⟩] w fun e w' => e = .returned (.string ⟨#[111, 107, 32, 56, 10, 101, 114, 114, 111, 114, 32, 57, 10]⟩) ∧ Below w.heap.size w w' by
    have := run_c litB (by decide) w hT opsOk
    rw [litB_out] at this
    exact this)
  have RR := hidp (fun t (ht : t.size ≤ 4294967280) W (hb : Below w.heap.size w W) => run_c t ht W (hT.on hb) opsOk)
  have LO := hidp (@linesOf_ok s)
  have BL := hidp (begins_law s)
  have BP := hidp (fun k hk => (begP_lines s k hk).2)
  have AL := hidp (show 1 ≤ (afB s).length ∧ (afB s).length ≤ s.size + 1 by
    rw [afB_len]
    have h1 : s.data.toList.count 10 ≤ s.data.toList.length := List.count_le_length
    have h2 : s.data.toList.length = s.size := by rw [Array.length_toList]; rfl
    omega)
  have AF := hidp (fun W (hb : Below w.heap.size w W) => after_c s W (by omega) (hT.on hb))
  clear hT
  go_enter Tryz.func3, Tryz.ntmps3
  go_wp2_with fail
  refine R1.out.mono ?_
  rintro e w1 ⟨rfl, B1⟩
  have B01 := hidp B1
  clear R1 B1
  go_wp2_with fail
  refine (AF.out w1 B01.out).mono ?_
  rintro e w2 ⟨rfl, B2, C2⟩
  have B02 := hidp (bstep B01.out B2)
  have CC := hidp C2
  obtain ⟨a1, a2⟩ := AL.out
  have hz2 : w1.heap.size < w2.heap.size := lt_of_cell (C2 0 (by omega))
  clear AF B2 C2 AL B01
  generalize hbk : w1.heap.size = bk at *
  generalize hA : afB s = A at *
  generalize hn : A.length = n at *
  have WI := hidp (fun W => dwithinN_c k0 (n : Int) (by omega) (by omega) W)
  have hk := dwn_lt k0 (n : Int) (by omega)
  generalize dwn k0 (n : Int) = k at *
  go_wp2_with fail
  refine (WI.out w2).mono ?_
  rintro e w3 ⟨rfl, rfl⟩
  clear WI
  go_wp2_with fail
  refine (RR.out s (by omega) w2 B02.out).mono ?_
  rintro e w3 ⟨rfl, B3⟩
  have B03 := hidp (bstep B02.out B3)
  have hz3 : bk < w3.heap.size := Nat.lt_of_lt_of_le hz2 B3.size
  have JN := hidp (fun W (hb : Below w3.heap.size w3 W) => show Calls Tryz.prog 9 #[.slice (some ⟨bk, 0, none⟩) k n, .string ⟨#[]⟩] W fun e w' => e = .returned (.string (begP s k)) ∧ Below W.heap.size W w' by
    have hl : (A.take k).length = k := by rw [List.length_take]; omega
    have hB : Below w2.heap.size w2 W := bstep B3 hb
    have c := Tryz.strings_Join bk 0 n (A.take k) ⟨#[]⟩ W (fun j x hx => by
      have hj : j < k := by rw [← hl]; exact (List.getElem?_eq_some_iff.1 hx).1
      rw [List.getElem?_take_of_lt hj, wg_get A j (by omega)] at hx
      rw [← Option.some.inj hx, Nat.zero_add]
      exact (hB.cell (p := ⟨bk, j, none⟩) hz2).trans (CC.out j (by omega))) (Nat.lt_of_lt_of_le hz2 hB.size) (by omega) (by omega) (by
        have h1 := (BP.out k (by omega))
        have h2 : (begP s k).size = (Lib.join ((A.take k).map (·.data.toList)) []).length := by rw [← hA]; exact List.size_toArray
        show (Lib.join ((A.take k).map (·.data.toList)) []).length ≤ _
        omega)
    rw [hl] at c
    rw [← hA] at c
    exact c)
  have BPz := BP.out k (by omega)
  have RP := hidp (fun W (hb : Below w.heap.size w W) => RR.out (begP s k) (by omega) W hb)
  have BLk := hidp (fun h1 h2 => BL.out h1 h2 k (by omega))
  clear RR BP BL CC B02 B3
  generalize begP s k = p at *
  generalize runO p = rp at *
  generalize runO s = ro at *
  by_cases he : ro = [101, 114, 114, 111, 114, 32, 50, 10]
  · subst he
    go_wp2_with fail
    go_ret
    exact ⟨rfl, B03.out⟩
  · obtain ⟨hz, hl, hro⟩ := LO.out he
    have HL := BLk.out hz hl
    rw [← hro] at HL
    have HP := hidp (fun W => show Calls Tryz.prog 8 #[.string ⟨ro.toArray⟩, .string ⟨rp.toArray⟩] W fun e w' => e = .returned (.bool true) ∧ w' = W by
      have := Tryz.strings_HasPrefix ⟨ro.toArray⟩ ⟨rp.toArray⟩ W
      rw [show Lib.hasPrefix (⟨ro.toArray⟩ : ByteArray).data.toList (⟨rp.toArray⟩ : ByteArray).data.toList = true from HL] at this
      exact this)
    generalize hg : (⟨ro.toArray⟩ : ByteArray) = g at *
    have e2 : (g.toList == [101, 114, 114, 111, 114, 32, 50, 10]) = false := eqFl (t := ⟨#[101, 114, 114, 111, 114, 32, 50, 10]⟩) (by decide +kernel) (fun e => he (by rw [← hg] at e; have := congrArg (fun x => x.data.toList) e; simpa using this))
    clear LO BLk HL he hro hg hl
    go_wp2_with fail
    refine (JN.out w3 (Below.refl _ _)).mono ?_
    rintro e w4 ⟨rfl, B4⟩
    have B04 := hidp (bstep B03.out B4)
    go_wp2_with fail
    refine (RP.out w4 B04.out).mono ?_
    rintro e w5 ⟨rfl, B5⟩
    have B05 := hidp (bstep B04.out B5)
    go_wp2_with fail
    refine (HP.out w5).mono ?_
    rintro e w6 ⟨rfl, rfl⟩
    go_wp2_with fail
    go_ret
    exact ⟨rfl, B05.out⟩
end Go.Proofs.YtgodgfnfaiiohaaGreatDoor
