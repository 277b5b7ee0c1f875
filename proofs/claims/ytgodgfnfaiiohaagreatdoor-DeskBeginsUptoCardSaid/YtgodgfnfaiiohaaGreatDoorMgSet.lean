/- Merged: StateMath, Set. -/
import Derived.Test.YtgodgfnfaiiohaaGreatDoorMark
import Derived.Test.YtgodgfnfaiiohaaGreatDoorNum
import Derived.Deep.LoopGhost
import Derived.Deep.DeepCutAuto
/- The plain law of marks: what Check and Mark tell does not hang on where a pair stands. -/
namespace Go.Proofs.YtgodgfnfaiiohaaGreatDoor
/-- Pairs that may be. -/
def POk (L : List (ByteArray × ByteArray)) : Prop := L.length ≤ 40 ∧ (∀ p ∈ L, keyB p.1 = true ∧ valB p.2 = true) ∧ (L.map Prod.fst).Nodup
theorem pkey_get (L : List (ByteArray × ByteArray)) (k : Nat) (h : k < L.length) : (L.map Prod.fst)[k]'(by simpa using h) = pk L k := by
  rw [List.getElem_map]
  unfold pk
  rw [List.getD_eq_getElem?_getD, List.getElem?_eq_getElem h]; rfl
theorem keyS_iff (L : List (ByteArray × ByteArray)) (z : ByteArray) : ∀ k, keyS L k z.data.toList = true ↔ ∃ i, i < k ∧ pk L i = z
  | 0 => ⟨fun h => (by cases h), fun ⟨i, hi, _⟩ => absurd hi (Nat.not_lt_zero _)⟩
  | k + 1 => by
    simp only [keyS]
    by_cases e : z.data.toList = (pk L k).data.toList
    · rw [if_pos e]
      exact ⟨fun _ => ⟨k, by omega, (data_inj e).symm⟩, fun _ => rfl⟩
    · rw [if_neg e, keyS_iff L z k]
      refine ⟨fun ⟨i, hi, h⟩ => ⟨i, by omega, h⟩, fun ⟨i, hi, h⟩ => ?_⟩
      rcases Nat.lt_or_ge i k with h2 | h2
      · exact ⟨i, h2, h⟩
      · exact absurd (by rw [show i = k by omega] at h; rw [h]) e
theorem chk1_zero (L : List (ByteArray × ByteArray)) (k : Nat) : chk1 L k = 0 ↔ keyB (pk L k) = true ∧ valB (pv L k) = true ∧ ∀ i, i < k → pk L i ≠ pk L k := by
  unfold chk1
  cases h1 : keyB (pk L k) <;> cases h2 : valB (pv L k) <;> simp
  cases h3 : keyS L k (pk L k).data.toList with
  | true =>
    obtain ⟨i, hi, e⟩ := (keyS_iff L (pk L k) k).1 h3
    simp
    exact ⟨i, hi, e⟩
  | false =>
    simp
    intro i hi e
    have := (keyS_iff L (pk L k) k).2 ⟨i, hi, e⟩
    rw [h3] at this; cases this
theorem chkF_zero (L : List (ByteArray × ByteArray)) : ∀ n, chkF L n = 0 ↔ ∀ k, k < n → chk1 L k = 0
  | 0 => ⟨fun _ k hk => absurd hk (Nat.not_lt_zero _), fun _ => rfl⟩
  | n + 1 => by
    simp only [chkF]
    by_cases e : chkF L n = 0
    · rw [if_pos e]
      have ih := (chkF_zero L n).1 e
      refine ⟨fun h k hk => ?_, fun h => h n (by omega)⟩
      rcases Nat.lt_or_ge k n with h2 | h2
      · exact ih k h2
      · rw [show k = n by omega]; exact h
    · rw [if_neg e]
      refine ⟨fun h => absurd h e, fun h => absurd ((chkF_zero L n).2 (fun k hk => h k (by omega))) e⟩
theorem chkE_zero (L : List (ByteArray × ByteArray)) : chkE L = 0 ↔ POk L := by
  unfold chkE POk
  by_cases h40 : 40 < L.length
  · rw [if_pos h40]
    exact ⟨fun h => by omega, fun h => by omega⟩
  · rw [if_neg h40, chkF_zero]
    constructor
    · intro h
      refine ⟨by omega, fun p hp => ?_, ?_⟩
      · obtain ⟨i, hi, e⟩ := List.getElem_of_mem hp
        obtain ⟨h1, h2, _⟩ := (chk1_zero L i).1 (h i hi)
        have e2 := pget L i hi
        rw [List.getElem?_eq_getElem hi, e] at e2
        rw [Option.some.inj e2]
        exact ⟨h1, h2⟩
      · rw [List.nodup_iff_pairwise_ne, List.pairwise_iff_getElem]
        intro i j hi hj hij
        have hi' : i < L.length := by simpa using hi
        have hj' : j < L.length := by simpa using hj
        rw [pkey_get L i hi', pkey_get L j hj']
        exact ((chk1_zero L j).1 (h j hj')).2.2 i hij
    · rintro ⟨_, h2, h3⟩ k hk
      refine (chk1_zero L k).2 ⟨(h2 _ (pmem L k hk)).1, (h2 _ (pmem L k hk)).2, fun i hi => ?_⟩
      rw [List.nodup_iff_pairwise_ne, List.pairwise_iff_getElem] at h3
      have := h3 i k (by simp; omega) (by simpa using hk) hi
      rwa [pkey_get L i (by omega), pkey_get L k hk] at this
theorem mE_cases (L : List (ByteArray × ByteArray)) (k : Nat) : mE L k = 0 ∨ mE L k = 3 := by
  unfold mE thE rvE
  split
  · split <;> simp
  · split
    · split <;> simp
    · simp
theorem mkE_all (L : List (ByteArray × ByteArray)) : ∀ n, (mkE L n = 0 ∧ ∀ k, k < n → mE L k = 0) ∨ (mkE L n = 3 ∧ ∃ k, k < n ∧ mE L k = 3)
  | 0 => .inl ⟨rfl, fun k hk => absurd hk (Nat.not_lt_zero _)⟩
  | n + 1 => by
    simp only [mkE]
    rcases mkE_all L n with ⟨h1, h2⟩ | ⟨h1, k, hk, h2⟩
    · rw [if_pos h1]
      rcases mE_cases L n with h3 | h3
      · exact .inl ⟨h3, fun k hk => by
          rcases Nat.lt_or_ge k n with h | h
          · exact h2 k h
          · rw [show k = n by omega]; exact h3⟩
      · exact .inr ⟨h3, n, by omega, h3⟩
    · rw [if_neg (by omega)]
      exact .inr ⟨h1, k, by omega, h2⟩
end Go.Proofs.YtgodgfnfaiiohaaGreatDoor

/- Contract of state.Set at every list of pairs and every mark. -/
namespace Go.Proofs.YtgodgfnfaiiohaaGreatDoor
open Go.ChangeShapes Go.WideShapes Go.ChangeAt Go.RowKit Go.Maps
set_option maxRecDepth 20000
def isNum (n : Int) : Bool := decide (0 ≤ n ∧ n < 72057594037927936)
/-- What is set ahead of the others. -/
def preM (th rv : Int) (ht hr : Bool) : List (ByteArray × ByteArray) := (if ht = true then [(txtTh, thTxt th.toNat)] else []) ++ (if hr = true then [(txtRv, hexB rv.toNat 14)] else [])
/-- Is a pair none of the marks? -/
def isOth (p : ByteArray × ByteArray) : Bool := !decide (p.1 = txtTh) && !decide (p.1 = txtRv)
def setL (L : List (ByteArray × ByteArray)) (th rv : Int) (ht hr : Bool) : List (ByteArray × ByteArray) := preM th rv ht hr ++ L.filter isOth
def setE (L : List (ByteArray × ByteArray)) (th rv : Int) (ht hr : Bool) : Int :=
  if chkE L = 0 then (if (isNum th && isNum rv) = true then (if 40 < (setL L th rv ht hr).length then 2 else 0) else 1) else chkE L
abbrev markV (th rv : Int) (ht hr : Bool) : Value := .agg #[.int .i64 th, .int .i64 rv, .bool ht, .bool hr]
theorem thN {s : ByteArray} (h : ¬ s = txtTh) : (s.toList != [116, 104]) = true := by rw [bne, thF h]; rfl
theorem rvN {s : ByteArray} (h : ¬ s = txtRv) : (s.toList != [114, 118]) = true := by rw [bne, rvF h]; rfl
theorem preM_len (th rv : Int) (ht hr : Bool) : (preM th rv ht hr).length ≤ 2 := by
  unfold preM
  cases ht <;> cases hr <;> simp
theorem filt_step (L : List (ByteArray × ByteArray)) (k : Nat) (h : k < L.length) : (L.take (k + 1)).filter isOth = (L.take k).filter isOth ++ (if isOth (pk L k, pv L k) = true then [(pk L k, pv L k)] else []) := by
  rw [ptake L k h, List.filter_append, List.filter_cons, List.filter_nil]
theorem thTxt_sz (n : Nat) : (thTxt n).size ≤ 14 := by unfold thTxt; rw [hexB_size]; exact (thTxt_ok n).2.1
theorem setL_sz (L : List (ByteArray × ByteArray)) (th rv : Int) (ht hr : Bool) (h : ∀ p ∈ L, p.1.size ≤ 9223372036854775807 ∧ p.2.size ≤ 9223372036854775807) : ∀ p ∈ setL L th rv ht hr, p.1.size ≤ 9223372036854775807 ∧ p.2.size ≤ 9223372036854775807 := by
  intro p hp
  unfold setL preM at hp
  rcases List.mem_append.1 hp with hp | hp
  · rcases List.mem_append.1 hp with hp | hp
    · split at hp
      · simp at hp; subst hp
        have := thTxt_sz th.toNat
        exact ⟨by show txtTh.size ≤ _; decide, by show (thTxt th.toNat).size ≤ _; omega⟩
      · simp at hp
    · split at hp
      · simp at hp; subst hp
        have := hexB_size rv.toNat 14
        exact ⟨by show txtRv.size ≤ _; decide, by show (hexB rv.toNat 14).size ≤ _; omega⟩
      · simp at hp
  · exact h p (List.mem_filter.1 hp).1
set_option maxHeartbeats 8000000 in
theorem set_bad (a : Option Addr) (n c : Nat) (L : List (ByteArray × ByteArray)) (th rv : Int) (ht hr : Bool) (w : World) (h : PairsAt w a n c L) (hE : ¬ (chkE L = 0 ∧ (isNum th && isNum rv) = true)) :
    Calls Tryz.prog 61 #[.slice a n c, markV th rv ht hr] w fun e w' => e = .returned (.tuple #[.slice none 0 0, .int .i64 (setE L th rv ht hr)]) ∧ Below w.heap.size w w' := by
  have mm := h.max
  have ee := h.le
  have CK := hidp (fun W hb => stcheck_c a n c L W (h.below (w' := W) hb))
  have hb0 := bal (Below.refl w.heap.size w) (.cells #[.int .i64 th, .int .i64 rv, .bool ht, .bool hr] 102)
  have S0 := hidp (MS.new w th rv ht hr)
  clear h
  cases hc : decide (chkE L = 0) with
  | false =>
    have hne : ¬ chkE L = 0 := of_decide_eq_false hc
    have hne1 : (chkE L != 0) = true := by simpa using hne
    have R := hidp (show setE L th rv ht hr = chkE L by unfold setE; rw [if_neg hne])
    clear hc hne hE
    go_enter Tryz.func61, Tryz.ntmps61
    go_wp2_with fail
    refine (CK.out _ hb0).mono ?_
    rintro e wa ⟨rfl, hba⟩
    have hfin := bstep hb0 hba
    clear hba
    go_wp2_with fail
    go_ret2
    exact ⟨by rw [R.out] <;> rfl, hfin⟩
  | true =>
    have hz0 : chkE L = 0 := of_decide_eq_true hc
    have hnn : (isNum th && isNum rv) = false := by
      cases hx : (isNum th && isNum rv) with
      | false => rfl
      | true => exact absurd ⟨hz0, hx⟩ hE
    have R := hidp (show setE L th rv ht hr = 1 by unfold setE; rw [if_pos hz0, hnn]; rfl)
    have CK2 := hidp (fun W hb => show Calls Tryz.prog 95 #[.slice a n c] W fun e w' => e = .returned (.int .i64 0) ∧ Below W.heap.size W w' from by rw [← hz0]; exact CK.out W hb)
    have N1 := hidp (fun W => num_c th W)
    have N2 := hidp (fun W => num_c rv W)
    rw [show decide (0 ≤ th ∧ th < 72057594037927936) = isNum th from rfl] at N1
    rw [show decide (0 ≤ rv ∧ rv < 72057594037927936) = isNum rv from rfl] at N2
    clear hc hz0 hE CK
    cases h1 : isNum th with
    | false =>
      rw [h1] at N1
      clear hnn h1
      go_enter Tryz.func61, Tryz.ntmps61
      go_wp2_with fail
      refine (CK2.out _ hb0).mono ?_
      rintro e wa ⟨rfl, hba⟩
      obtain ⟨q0, q1, q2, q3, _⟩ := S0.out.below hba
      have hfin := bstep hb0 hba
      clear hba
      go_wp2_with fail
      refine (N1.out _).mono ?_
      rintro e w' ⟨rfl, rfl⟩
      go_wp2_with fail
      go_ret2
      exact ⟨by rw [R.out] <;> rfl, hfin⟩
    | true =>
      rw [h1, Bool.true_and] at hnn
      rw [h1] at N1
      rw [hnn] at N2
      clear hnn h1
      go_enter Tryz.func61, Tryz.ntmps61
      go_wp2_with fail
      refine (CK2.out _ hb0).mono ?_
      rintro e wa ⟨rfl, hba⟩
      obtain ⟨q0, q1, q2, q3, _⟩ := S0.out.below hba
      have hfin := bstep hb0 hba
      clear hba
      go_wp2_with fail
      refine (N1.out _).mono ?_
      rintro e w' ⟨rfl, rfl⟩
      go_wp2_with fail
      refine (N2.out _).mono ?_
      rintro e w' ⟨rfl, rfl⟩
      go_wp2_with fail
      go_ret2
      exact ⟨by rw [R.out] <;> rfl, hfin⟩
set_option maxHeartbeats 16000000 in
theorem set_ok (a : Option Addr) (n c : Nat) (L : List (ByteArray × ByteArray)) (th rv : Int) (ht hr : Bool) (w : World) (h : PairsAt w a n c L) (hz0 : chkE L = 0) (hnn : (isNum th && isNum rv) = true) :
    Calls Tryz.prog 61 #[.slice a n c, markV th rv ht hr] w fun e w' => ∃ v, e = .returned (.tuple #[v, .int .i64 (setE L th rv ht hr)]) ∧ ((setE L th rv ht hr = 0 ∧ w'.ownsRow w.heap.size 128 2 v (setL L th rv ht hr).length (psV (setL L th rv ht hr))) ∨ (setE L th rv ht hr = 2 ∧ v = .slice none 0 0)) ∧ Below w.heap.size w w' := by
  have mm := h.max
  have ee := h.le
  have LN := hidp h.len
  have h40 : n ≤ 40 := by rw [← h.len]; exact ((chkE_zero L).1 hz0).1
  have CK2 := hidp (fun W (hb : Below w.heap.size w W) => show Calls Tryz.prog 95 #[.slice a n c] W fun e w' => e = .returned (.int .i64 0) ∧ Below W.heap.size W w' from by rw [← hz0]; exact stcheck_c a n c L W (h.below hb))
  have hb0 := bal (Below.refl w.heap.size w) (.cells #[.int .i64 th, .int .i64 rv, .bool ht, .bool hr] 102)
  have S0 := hidp (MS.new w th rv ht hr)
  have N1 := hidp (fun W => num_c th W)
  have N2 := hidp (fun W => num_c rv W)
  rw [Bool.and_eq_true] at hnn
  rw [show decide (0 ≤ th ∧ th < 72057594037927936) = true from hnn.1] at N1
  rw [show decide (0 ≤ rv ∧ rv < 72057594037927936) = true from hnn.2] at N2
  have b1 := of_decide_eq_true hnn.1
  have b2 := of_decide_eq_true hnn.2
  obtain ⟨t, rfl⟩ : ∃ t : Nat, th = (t : Int) := ⟨th.toNat, by omega⟩
  obtain ⟨r, rfl⟩ : ∃ r : Nat, rv = (r : Int) := ⟨rv.toNat, by omega⟩
  have CT := hidp (fun W => tht_c t (by omega) W)
  have CR := hidp (fun W => rv_c r (by omega) W)
  have RE := hidp (show setE L t r ht hr = if 40 < (setL L t r ht hr).length then 2 else 0 by unfold setE; rw [if_pos hz0, hnn.1, hnn.2]; rfl)
  have RL := hidp (show setL L t r ht hr = preM t r ht hr ++ (L.take n).filter isOth by unfold setL; rw [List.take_of_length_le (by rw [LN.out]; omega)])
  have PL := preM_len (t : Int) (r : Int) ht hr
  have PE := hidp (show preM (t : Int) (r : Int) ht hr = (if ht = true then [(txtTh, thTxt t)] else []) ++ (if hr = true then [(txtRv, hexB r 14)] else []) from rfl)
  have FS := hidp (fun k (hk : k < n) => filt_step L k (by rw [LN.out]; exact hk))
  have FL := hidp (fun k => show ((L.take k).filter isOth).length ≤ k from Nat.le_trans (List.length_filter_le _ _) (List.length_take_le _ _))
  obtain ⟨b, o, hz, hx⟩ := h.split
  have hz' : Hid (n = 0) ∨ a = some ⟨b, o, none⟩ := hz.imp_left hidp
  have HX := hidp hx
  obtain ⟨E, hE⟩ : ∃ E, E = setE L t r ht hr := ⟨_, rfl⟩
  obtain ⟨SL, hSL⟩ : ∃ SL, SL = setL L t r ht hr := ⟨_, rfl⟩
  rw [← hE, ← hSL] at RE
  rw [← hSL] at RL
  rw [← hE, ← hSL]
  obtain ⟨P, hP⟩ : ∃ P, P = preM (t : Int) (r : Int) ht hr := ⟨_, rfl⟩
  rw [← hP] at RL PL PE
  clear h hz hx hE hSL hP hz0 hnn b1 b2
  cases ht <;> cases hr
  all_goals go_enter Tryz.func61, Tryz.ntmps61
  all_goals go_wp2_with fail
  all_goals refine (CK2.out _ hb0).mono ?_
  all_goals rintro e wa ⟨rfl, hba⟩
  all_goals obtain ⟨q0, q1, q2, q3, qf⟩ := S0.out.below hba
  all_goals have SF := hidp qf
  all_goals clear qf
  all_goals have hba2 := bstep hb0 hba
  all_goals clear hba S0 hb0 CK2
  all_goals go_wp2_with fail
  all_goals refine (N1.out _).mono ?_
  all_goals rintro e w' ⟨rfl, rfl⟩
  all_goals go_wp2_with fail
  all_goals refine (N2.out _).mono ?_
  all_goals rintro e w' ⟨rfl, rfl⟩
  all_goals go_wp2_with fail
  -- THE FOUR CASES
  · have HP := hidp (show P = [] by rw [PE.out]; rfl)
    have HV := hidp (show wa.ownsRow w.heap.size 128 2 (.slice none 0 0) P.length (psV P) by rw [HP.out]; exact World.ownsRow_nil _ _ _ _)
    have hbz := hba2
    clear hba2 CT CR PE HP q0 q1 q2 q3
    go_loopg [7, 57] n (fun gg v i wr => ∃ k : Nat, k ≤ n ∧ n - k ≤ gg ∧ i = .int .i64 k ∧ wr.ownsRow w.heap.size 128 2 v (P ++ (L.take k).filter isOth).length (psV (P ++ (L.take k).filter isOth)) ∧ Below w.heap.size w wr)
    case atStart => exact ⟨0, by omega, by omega, rfl, by rw [List.take_zero, List.filter_nil, List.append_nil]; exact HV.out, hbz⟩
    case round =>
      clear HV hbz
      obtain ⟨k, hk, hgg, rfl, hv, hbl⟩ := hrel
      by_cases hlt : k < n
      · obtain rfl : a = some ⟨b, o, none⟩ := hz'.resolve_left (fun e => by have := e.out; omega)
        obtain ⟨hbs, x1, x2⟩ := HX.out k hlt
        have q0 := carry_cell ⟨hbs, x1⟩ hbl
        have q1 := carry_cell ⟨hbs, x2⟩ hbl
        have F1 := hidp (FS.out k hlt)
        have f1 := FL.out k
        have s0 : (wr.alloc (.cells #[.string (pk L k), .string (pv L k)] 128)).cell? ⟨wr.heap.size, 0, none⟩ = some (.string (pk L k)) := by go_simp
        have s1 : (wr.alloc (.cells #[.string (pk L k), .string (pv L k)] 128)).cell? ⟨wr.heap.size, 1, none⟩ = some (.string (pv L k)) := by go_simp
        have hv4 := hidp (hv.alloc (.cells #[.string (pk L k), .string (pv L k)] 128))
        have hb4 : Below w.heap.size w (wr.alloc (.cells #[.string (pk L k), .string (pv L k)] 128)) := bal hbl _
        clear x1 x2 hv hbl
        go_upto_region 16 with fail
        generalize (wr.alloc (.cells #[.string (pk L k), .string (pv L k)] 128)) = w4 at *
        generalize wr.heap.size = X at *
        by_cases ht : pk L k = txtTh
        · have F2 := hidp (show (L.take (k + 1)).filter isOth = (L.take k).filter isOth by rw [F1.out, if_neg (by unfold isOth; simp [ht]), List.append_nil])
          rw [ht] at s0
          clear ht F1
          go_wp2_with fail
          go_roundg (n - (k + 1))
          case measure => omega
          case rel => exact ⟨k + 1, by omega, by omega, by go_num, by rw [F2.out]; exact hv4.out, hb4⟩
        · by_cases hr : pk L k = txtRv
          · have F2 := hidp (show (L.take (k + 1)).filter isOth = (L.take k).filter isOth by rw [F1.out, if_neg (by unfold isOth; simp [hr]), List.append_nil])
            rw [hr] at s0
            clear ht hr F1
            go_wp2_with fail
            go_roundg (n - (k + 1))
            case measure => omega
            case rel => exact ⟨k + 1, by omega, by omega, by go_num, by rw [F2.out]; exact hv4.out, hb4⟩
          · have F2 := hidp (show P ++ (L.take (k + 1)).filter isOth = (P ++ (L.take k).filter isOth) ++ [(pk L k, pv L k)] by rw [F1.out, if_pos (by unfold isOth; simp [ht, hr]), List.append_assoc])
            have g1 := thN ht
            have g2 := rvN hr
            have g3 := thF ht
            have g4 := rvF hr
            have FLL : (P ++ (L.take k).filter isOth).length = P.length + ((L.take k).filter isOth).length := List.length_append
            clear ht hr F1
            generalize P ++ (L.take k).filter isOth = R at *
            generalize ((L.take k).filter isOth).length = fl at *
            generalize pk L k = s at *
            generalize pv L k = v at *
            have hR : R.length ≤ 42 := by omega
            clear FLL
            have hgs := hb4.size
            go_wp2_with (at_builtin; refine wpList_append_new rfl (.tmp 69) (.tmp 71) 98 rfl w.heap.size 128 _ 2 32 info_pair rfl (by decide) Tryz.underlying98 _ R.length _ rfl hv4.out rfl (one_twoS _ _) rfl rfl (by omega) (by decide) hgs ?_; intro v0 x0 nw gr0 dd0)
            go_roundg (n - (k + 1))
            case measure => omega
            case rel => exact ⟨k + 1, by omega, by omega, by go_num, by rw [F2.out, psV_snoc, List.length_append]; exact nw, append_step hv4.out hb4 (Nat.le_refl _) gr0⟩
      · obtain rfl : k = n := by omega
        rw [← RL.out] at hv
        obtain ⟨av, cv, hve, h1, h2⟩ := owns_form hv
        subst hve
        have HV2 := hidp hv
        by_cases hbig : 40 < SL.length
        · have R2 := hidp (show E = 2 by rw [RE.out, if_pos hbig])
          have hbig' : (40 : Int) < (SL.length : Int) := by omega
          clear hv hbig
          go_wp2_with fail
          go_ret2
          exact ⟨_, by rw [R2.out] <;> rfl, .inr ⟨R2.out, rfl⟩, hbl⟩
        · have R2 := hidp (show E = 0 by rw [RE.out, if_neg hbig])
          have hbig' : ¬ (40 : Int) < (SL.length : Int) := by omega
          clear hv hbig
          go_wp2_with fail
          go_ret2
          exact ⟨_, by rw [R2.out] <;> rfl, .inl ⟨R2.out, HV2.out⟩, hbl⟩

  · have HP := hidp (show P = [(txtRv, hexB r 14)] by rw [PE.out]; rfl)
    have hq := q0
    refine (CR.out _).mono ?_
    rintro e w1 ⟨rfl, hb1⟩
    have hbw1 := bstep hba2 hb1
    have hgs1 := hbw1.size
    have n0 := World.ownsRow_nil w1 w.heap.size 128 2
    have Q1 := (MS.below (W := wa) ⟨q0, q1, q2, q3, SF.out⟩ hb1)
    go_wp2_with (at_builtin; refine wpList_append_new rfl (.tmp 50) (.tmp 53) 98 rfl w.heap.size 128 _ 2 32 info_pair rfl (by decide) Tryz.underlying98 _ 0 _ rfl n0 rfl (one_twoS _ _) rfl rfl (by omega) (by decide) hgs1 ?_; intro v0 x0 nw gr0 dd0; have hgg := gr0; have y0 := gk hgg Q1.q0 (by show (none : Option Nat) ≠ some w.heap.size; simp); have y1 := gk hgg Q1.q1 (by show (none : Option Nat) ≠ some w.heap.size; simp); have y2 := gk hgg Q1.q2 (by show (none : Option Nat) ≠ some w.heap.size; simp); have y3 := gk hgg Q1.q3 (by show (none : Option Nat) ≠ some w.heap.size; simp))
    have HV := hidp (show x0.ownsRow w.heap.size 128 2 v0 P.length (psV P) by rw [HP.out]; exact nw)
    have hbz := append_step n0 hbw1 (Nat.le_refl _) gr0
    clear hba2 CT CR PE HP q0 q1 q2 q3 hq nw gr0 dd0 n0 hbw1 hb1 hgg y0 y1 y2 y3 Q1
    go_loopg [7, 57] n (fun gg v i wr => ∃ k : Nat, k ≤ n ∧ n - k ≤ gg ∧ i = .int .i64 k ∧ wr.ownsRow w.heap.size 128 2 v (P ++ (L.take k).filter isOth).length (psV (P ++ (L.take k).filter isOth)) ∧ Below w.heap.size w wr)
    case atStart => exact ⟨0, by omega, by omega, rfl, by rw [List.take_zero, List.filter_nil, List.append_nil]; exact HV.out, hbz⟩
    case round =>
      clear HV hbz
      obtain ⟨k, hk, hgg, rfl, hv, hbl⟩ := hrel
      by_cases hlt : k < n
      · obtain rfl : a = some ⟨b, o, none⟩ := hz'.resolve_left (fun e => by have := e.out; omega)
        obtain ⟨hbs, x1, x2⟩ := HX.out k hlt
        have q0 := carry_cell ⟨hbs, x1⟩ hbl
        have q1 := carry_cell ⟨hbs, x2⟩ hbl
        have F1 := hidp (FS.out k hlt)
        have f1 := FL.out k
        have s0 : (wr.alloc (.cells #[.string (pk L k), .string (pv L k)] 128)).cell? ⟨wr.heap.size, 0, none⟩ = some (.string (pk L k)) := by go_simp
        have s1 : (wr.alloc (.cells #[.string (pk L k), .string (pv L k)] 128)).cell? ⟨wr.heap.size, 1, none⟩ = some (.string (pv L k)) := by go_simp
        have hv4 := hidp (hv.alloc (.cells #[.string (pk L k), .string (pv L k)] 128))
        have hb4 : Below w.heap.size w (wr.alloc (.cells #[.string (pk L k), .string (pv L k)] 128)) := bal hbl _
        clear x1 x2 hv hbl
        go_upto_region 16 with fail
        generalize (wr.alloc (.cells #[.string (pk L k), .string (pv L k)] 128)) = w4 at *
        generalize wr.heap.size = X at *
        by_cases ht : pk L k = txtTh
        · have F2 := hidp (show (L.take (k + 1)).filter isOth = (L.take k).filter isOth by rw [F1.out, if_neg (by unfold isOth; simp [ht]), List.append_nil])
          rw [ht] at s0
          clear ht F1
          go_wp2_with fail
          go_roundg (n - (k + 1))
          case measure => omega
          case rel => exact ⟨k + 1, by omega, by omega, by go_num, by rw [F2.out]; exact hv4.out, hb4⟩
        · by_cases hr : pk L k = txtRv
          · have F2 := hidp (show (L.take (k + 1)).filter isOth = (L.take k).filter isOth by rw [F1.out, if_neg (by unfold isOth; simp [hr]), List.append_nil])
            rw [hr] at s0
            clear ht hr F1
            go_wp2_with fail
            go_roundg (n - (k + 1))
            case measure => omega
            case rel => exact ⟨k + 1, by omega, by omega, by go_num, by rw [F2.out]; exact hv4.out, hb4⟩
          · have F2 := hidp (show P ++ (L.take (k + 1)).filter isOth = (P ++ (L.take k).filter isOth) ++ [(pk L k, pv L k)] by rw [F1.out, if_pos (by unfold isOth; simp [ht, hr]), List.append_assoc])
            have g1 := thN ht
            have g2 := rvN hr
            have g3 := thF ht
            have g4 := rvF hr
            have FLL : (P ++ (L.take k).filter isOth).length = P.length + ((L.take k).filter isOth).length := List.length_append
            clear ht hr F1
            generalize P ++ (L.take k).filter isOth = R at *
            generalize ((L.take k).filter isOth).length = fl at *
            generalize pk L k = s at *
            generalize pv L k = v at *
            have hR : R.length ≤ 42 := by omega
            clear FLL
            have hgs := hb4.size
            go_wp2_with (at_builtin; refine wpList_append_new rfl (.tmp 69) (.tmp 71) 98 rfl w.heap.size 128 _ 2 32 info_pair rfl (by decide) Tryz.underlying98 _ R.length _ rfl hv4.out rfl (one_twoS _ _) rfl rfl (by omega) (by decide) hgs ?_; intro v0 x0 nw gr0 dd0)
            go_roundg (n - (k + 1))
            case measure => omega
            case rel => exact ⟨k + 1, by omega, by omega, by go_num, by rw [F2.out, psV_snoc, List.length_append]; exact nw, append_step hv4.out hb4 (Nat.le_refl _) gr0⟩
      · obtain rfl : k = n := by omega
        rw [← RL.out] at hv
        obtain ⟨av, cv, hve, h1, h2⟩ := owns_form hv
        subst hve
        have HV2 := hidp hv
        by_cases hbig : 40 < SL.length
        · have R2 := hidp (show E = 2 by rw [RE.out, if_pos hbig])
          have hbig' : (40 : Int) < (SL.length : Int) := by omega
          clear hv hbig
          go_wp2_with fail
          go_ret2
          exact ⟨_, by rw [R2.out] <;> rfl, .inr ⟨R2.out, rfl⟩, hbl⟩
        · have R2 := hidp (show E = 0 by rw [RE.out, if_neg hbig])
          have hbig' : ¬ (40 : Int) < (SL.length : Int) := by omega
          clear hv hbig
          go_wp2_with fail
          go_ret2
          exact ⟨_, by rw [R2.out] <;> rfl, .inl ⟨R2.out, HV2.out⟩, hbl⟩

  · have HP := hidp (show P = [(txtTh, thTxt t)] by rw [PE.out]; rfl)
    have hq := q0
    refine (CT.out _).mono ?_
    rintro e w1 ⟨rfl, hb1⟩
    have hbw1 := bstep hba2 hb1
    have hgs1 := hbw1.size
    have n0 := World.ownsRow_nil w1 w.heap.size 128 2
    have Q1 := (MS.below (W := wa) ⟨q0, q1, q2, q3, SF.out⟩ hb1)
    go_wp2_with (at_builtin; refine wpList_append_new rfl (.tmp 37) (.tmp 40) 98 rfl w.heap.size 128 _ 2 32 info_pair rfl (by decide) Tryz.underlying98 _ 0 _ rfl n0 rfl (one_twoS _ _) rfl rfl (by omega) (by decide) hgs1 ?_; intro v0 x0 nw gr0 dd0; have hgg := gr0; have y0 := gk hgg Q1.q0 (by show (none : Option Nat) ≠ some w.heap.size; simp); have y1 := gk hgg Q1.q1 (by show (none : Option Nat) ≠ some w.heap.size; simp); have y2 := gk hgg Q1.q2 (by show (none : Option Nat) ≠ some w.heap.size; simp); have y3 := gk hgg Q1.q3 (by show (none : Option Nat) ≠ some w.heap.size; simp))
    have HV := hidp (show x0.ownsRow w.heap.size 128 2 v0 P.length (psV P) by rw [HP.out]; exact nw)
    have hbz := append_step n0 hbw1 (Nat.le_refl _) gr0
    clear hba2 CT CR PE HP q0 q1 q2 q3 hq nw gr0 dd0 n0 hbw1 hb1 hgg y0 y1 y2 y3 Q1
    go_loopg [7, 57] n (fun gg v i wr => ∃ k : Nat, k ≤ n ∧ n - k ≤ gg ∧ i = .int .i64 k ∧ wr.ownsRow w.heap.size 128 2 v (P ++ (L.take k).filter isOth).length (psV (P ++ (L.take k).filter isOth)) ∧ Below w.heap.size w wr)
    case atStart => exact ⟨0, by omega, by omega, rfl, by rw [List.take_zero, List.filter_nil, List.append_nil]; exact HV.out, hbz⟩
    case round =>
      clear HV hbz
      obtain ⟨k, hk, hgg, rfl, hv, hbl⟩ := hrel
      by_cases hlt : k < n
      · obtain rfl : a = some ⟨b, o, none⟩ := hz'.resolve_left (fun e => by have := e.out; omega)
        obtain ⟨hbs, x1, x2⟩ := HX.out k hlt
        have q0 := carry_cell ⟨hbs, x1⟩ hbl
        have q1 := carry_cell ⟨hbs, x2⟩ hbl
        have F1 := hidp (FS.out k hlt)
        have f1 := FL.out k
        have s0 : (wr.alloc (.cells #[.string (pk L k), .string (pv L k)] 128)).cell? ⟨wr.heap.size, 0, none⟩ = some (.string (pk L k)) := by go_simp
        have s1 : (wr.alloc (.cells #[.string (pk L k), .string (pv L k)] 128)).cell? ⟨wr.heap.size, 1, none⟩ = some (.string (pv L k)) := by go_simp
        have hv4 := hidp (hv.alloc (.cells #[.string (pk L k), .string (pv L k)] 128))
        have hb4 : Below w.heap.size w (wr.alloc (.cells #[.string (pk L k), .string (pv L k)] 128)) := bal hbl _
        clear x1 x2 hv hbl
        go_upto_region 16 with fail
        generalize (wr.alloc (.cells #[.string (pk L k), .string (pv L k)] 128)) = w4 at *
        generalize wr.heap.size = X at *
        by_cases ht : pk L k = txtTh
        · have F2 := hidp (show (L.take (k + 1)).filter isOth = (L.take k).filter isOth by rw [F1.out, if_neg (by unfold isOth; simp [ht]), List.append_nil])
          rw [ht] at s0
          clear ht F1
          go_wp2_with fail
          go_roundg (n - (k + 1))
          case measure => omega
          case rel => exact ⟨k + 1, by omega, by omega, by go_num, by rw [F2.out]; exact hv4.out, hb4⟩
        · by_cases hr : pk L k = txtRv
          · have F2 := hidp (show (L.take (k + 1)).filter isOth = (L.take k).filter isOth by rw [F1.out, if_neg (by unfold isOth; simp [hr]), List.append_nil])
            rw [hr] at s0
            clear ht hr F1
            go_wp2_with fail
            go_roundg (n - (k + 1))
            case measure => omega
            case rel => exact ⟨k + 1, by omega, by omega, by go_num, by rw [F2.out]; exact hv4.out, hb4⟩
          · have F2 := hidp (show P ++ (L.take (k + 1)).filter isOth = (P ++ (L.take k).filter isOth) ++ [(pk L k, pv L k)] by rw [F1.out, if_pos (by unfold isOth; simp [ht, hr]), List.append_assoc])
            have g1 := thN ht
            have g2 := rvN hr
            have g3 := thF ht
            have g4 := rvF hr
            have FLL : (P ++ (L.take k).filter isOth).length = P.length + ((L.take k).filter isOth).length := List.length_append
            clear ht hr F1
            generalize P ++ (L.take k).filter isOth = R at *
            generalize ((L.take k).filter isOth).length = fl at *
            generalize pk L k = s at *
            generalize pv L k = v at *
            have hR : R.length ≤ 42 := by omega
            clear FLL
            have hgs := hb4.size
            go_wp2_with (at_builtin; refine wpList_append_new rfl (.tmp 69) (.tmp 71) 98 rfl w.heap.size 128 _ 2 32 info_pair rfl (by decide) Tryz.underlying98 _ R.length _ rfl hv4.out rfl (one_twoS _ _) rfl rfl (by omega) (by decide) hgs ?_; intro v0 x0 nw gr0 dd0)
            go_roundg (n - (k + 1))
            case measure => omega
            case rel => exact ⟨k + 1, by omega, by omega, by go_num, by rw [F2.out, psV_snoc, List.length_append]; exact nw, append_step hv4.out hb4 (Nat.le_refl _) gr0⟩
      · obtain rfl : k = n := by omega
        rw [← RL.out] at hv
        obtain ⟨av, cv, hve, h1, h2⟩ := owns_form hv
        subst hve
        have HV2 := hidp hv
        by_cases hbig : 40 < SL.length
        · have R2 := hidp (show E = 2 by rw [RE.out, if_pos hbig])
          have hbig' : (40 : Int) < (SL.length : Int) := by omega
          clear hv hbig
          go_wp2_with fail
          go_ret2
          exact ⟨_, by rw [R2.out] <;> rfl, .inr ⟨R2.out, rfl⟩, hbl⟩
        · have R2 := hidp (show E = 0 by rw [RE.out, if_neg hbig])
          have hbig' : ¬ (40 : Int) < (SL.length : Int) := by omega
          clear hv hbig
          go_wp2_with fail
          go_ret2
          exact ⟨_, by rw [R2.out] <;> rfl, .inl ⟨R2.out, HV2.out⟩, hbl⟩

  · have HP := hidp (show P = [(txtTh, thTxt t), (txtRv, hexB r 14)] by rw [PE.out]; rfl)
    refine (CT.out _).mono ?_
    rintro e w1 ⟨rfl, hb1⟩
    have hbw1 := bstep hba2 hb1
    have hgs1 := hbw1.size
    have n0 := World.ownsRow_nil w1 w.heap.size 128 2
    have Q1 := (MS.below (W := wa) ⟨q0, q1, q2, q3, SF.out⟩ hb1)
    go_wp2_with (at_builtin; refine wpList_append_new rfl (.tmp 37) (.tmp 40) 98 rfl w.heap.size 128 _ 2 32 info_pair rfl (by decide) Tryz.underlying98 _ 0 _ rfl n0 rfl (one_twoS _ _) rfl rfl (by omega) (by decide) hgs1 ?_; intro v0 x0 nw gr0 dd0; have hgg := gr0; have y0 := gk hgg Q1.q0 (by show (none : Option Nat) ≠ some w.heap.size; simp); have y1 := gk hgg Q1.q1 (by show (none : Option Nat) ≠ some w.heap.size; simp); have y2 := gk hgg Q1.q2 (by show (none : Option Nat) ≠ some w.heap.size; simp); have y3 := gk hgg Q1.q3 (by show (none : Option Nat) ≠ some w.heap.size; simp))
    have hbx := append_step n0 hbw1 (Nat.le_refl _) gr0
    refine (CR.out _).mono ?_
    rintro e w2 ⟨rfl, hb2⟩
    have hbw2 := bstep hbx hb2
    have hgs2 := hbw2.size
    have n1 : w2.ownsRow w.heap.size 128 2 v0 1 (psV [(txtTh, thTxt t)]) := World.ownsRow.kept (row := none) nw ⟨hb2.os, hb2.tape, hb2.output, hb2.size, fun k hk _ => hb2.block k hk⟩ (by cases hq : v0.ownBlock with | none => exact .inl rfl | some z => exact .inr (by simp))
    go_wp2_with (at_builtin; refine wpList_append_new rfl (.tmp 50) (.tmp 53) 98 rfl w.heap.size 128 _ 2 32 info_pair rfl (by decide) Tryz.underlying98 _ 1 _ rfl n1 rfl (one_twoS _ _) rfl rfl (by omega) (by decide) hgs2 ?_; intro v3 x3 nw3 gr3 dd3)
    have HV := hidp (show x3.ownsRow w.heap.size 128 2 v3 P.length (psV P) by rw [HP.out]; exact nw3)
    have hbz := append_step n1 hbw2 (Nat.le_refl _) gr3
    clear hba2 CT CR PE HP q0 q1 q2 q3 nw gr0 dd0 n0 hbw1 hb1 hgg y0 y1 y2 y3 hbx hb2 hbw2 n1 nw3 gr3 dd3 Q1
    go_loopg [7, 57] n (fun gg v i wr => ∃ k : Nat, k ≤ n ∧ n - k ≤ gg ∧ i = .int .i64 k ∧ wr.ownsRow w.heap.size 128 2 v (P ++ (L.take k).filter isOth).length (psV (P ++ (L.take k).filter isOth)) ∧ Below w.heap.size w wr)
    case atStart => exact ⟨0, by omega, by omega, rfl, by rw [List.take_zero, List.filter_nil, List.append_nil]; exact HV.out, hbz⟩
    case round =>
      clear HV hbz
      obtain ⟨k, hk, hgg, rfl, hv, hbl⟩ := hrel
      by_cases hlt : k < n
      · obtain rfl : a = some ⟨b, o, none⟩ := hz'.resolve_left (fun e => by have := e.out; omega)
        obtain ⟨hbs, x1, x2⟩ := HX.out k hlt
        have q0 := carry_cell ⟨hbs, x1⟩ hbl
        have q1 := carry_cell ⟨hbs, x2⟩ hbl
        have F1 := hidp (FS.out k hlt)
        have f1 := FL.out k
        have s0 : (wr.alloc (.cells #[.string (pk L k), .string (pv L k)] 128)).cell? ⟨wr.heap.size, 0, none⟩ = some (.string (pk L k)) := by go_simp
        have s1 : (wr.alloc (.cells #[.string (pk L k), .string (pv L k)] 128)).cell? ⟨wr.heap.size, 1, none⟩ = some (.string (pv L k)) := by go_simp
        have hv4 := hidp (hv.alloc (.cells #[.string (pk L k), .string (pv L k)] 128))
        have hb4 : Below w.heap.size w (wr.alloc (.cells #[.string (pk L k), .string (pv L k)] 128)) := bal hbl _
        clear x1 x2 hv hbl
        go_upto_region 16 with fail
        generalize (wr.alloc (.cells #[.string (pk L k), .string (pv L k)] 128)) = w4 at *
        generalize wr.heap.size = X at *
        by_cases ht : pk L k = txtTh
        · have F2 := hidp (show (L.take (k + 1)).filter isOth = (L.take k).filter isOth by rw [F1.out, if_neg (by unfold isOth; simp [ht]), List.append_nil])
          rw [ht] at s0
          clear ht F1
          go_wp2_with fail
          go_roundg (n - (k + 1))
          case measure => omega
          case rel => exact ⟨k + 1, by omega, by omega, by go_num, by rw [F2.out]; exact hv4.out, hb4⟩
        · by_cases hr : pk L k = txtRv
          · have F2 := hidp (show (L.take (k + 1)).filter isOth = (L.take k).filter isOth by rw [F1.out, if_neg (by unfold isOth; simp [hr]), List.append_nil])
            rw [hr] at s0
            clear ht hr F1
            go_wp2_with fail
            go_roundg (n - (k + 1))
            case measure => omega
            case rel => exact ⟨k + 1, by omega, by omega, by go_num, by rw [F2.out]; exact hv4.out, hb4⟩
          · have F2 := hidp (show P ++ (L.take (k + 1)).filter isOth = (P ++ (L.take k).filter isOth) ++ [(pk L k, pv L k)] by rw [F1.out, if_pos (by unfold isOth; simp [ht, hr]), List.append_assoc])
            have g1 := thN ht
            have g2 := rvN hr
            have g3 := thF ht
            have g4 := rvF hr
            have FLL : (P ++ (L.take k).filter isOth).length = P.length + ((L.take k).filter isOth).length := List.length_append
            clear ht hr F1
            generalize P ++ (L.take k).filter isOth = R at *
            generalize ((L.take k).filter isOth).length = fl at *
            generalize pk L k = s at *
            generalize pv L k = v at *
            have hR : R.length ≤ 42 := by omega
            clear FLL
            have hgs := hb4.size
            go_wp2_with (at_builtin; refine wpList_append_new rfl (.tmp 69) (.tmp 71) 98 rfl w.heap.size 128 _ 2 32 info_pair rfl (by decide) Tryz.underlying98 _ R.length _ rfl hv4.out rfl (one_twoS _ _) rfl rfl (by omega) (by decide) hgs ?_; intro v0 x0 nw gr0 dd0)
            go_roundg (n - (k + 1))
            case measure => omega
            case rel => exact ⟨k + 1, by omega, by omega, by go_num, by rw [F2.out, psV_snoc, List.length_append]; exact nw, append_step hv4.out hb4 (Nat.le_refl _) gr0⟩
      · obtain rfl : k = n := by omega
        rw [← RL.out] at hv
        obtain ⟨av, cv, hve, h1, h2⟩ := owns_form hv
        subst hve
        have HV2 := hidp hv
        by_cases hbig : 40 < SL.length
        · have R2 := hidp (show E = 2 by rw [RE.out, if_pos hbig])
          have hbig' : (40 : Int) < (SL.length : Int) := by omega
          clear hv hbig
          go_wp2_with fail
          go_ret2
          exact ⟨_, by rw [R2.out] <;> rfl, .inr ⟨R2.out, rfl⟩, hbl⟩
        · have R2 := hidp (show E = 0 by rw [RE.out, if_neg hbig])
          have hbig' : ¬ (40 : Int) < (SL.length : Int) := by omega
          clear hv hbig
          go_wp2_with fail
          go_ret2
          exact ⟨_, by rw [R2.out] <;> rfl, .inl ⟨R2.out, HV2.out⟩, hbl⟩

end Go.Proofs.YtgodgfnfaiiohaaGreatDoor
