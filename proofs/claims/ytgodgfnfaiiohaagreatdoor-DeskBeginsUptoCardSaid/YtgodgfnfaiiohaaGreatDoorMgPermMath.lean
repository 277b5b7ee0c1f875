/- Merged: Del, Fact, Order, PermMath. -/
import Derived.Ground.Names2Prog
import Derived.Shelf.Slices.Delete
import Derived.Lib.OwnBridge
import Derived.Test.YtgodgfnfaiiohaaGreatDoorTake
import Derived.Test.YtgodgfnfaiiohaaGreatDoorBase
/- Contract of slices.Delete of one element, at a slice of the call's own. (The laying of the library's contract: as the shelf's plain mode writes it.) -/
namespace Go.Proofs.YtgodgfnfaiiohaaGreatDoor
open Go.ChangeShapes Go.WideShapes Go.ChangeAt Go.RowKit
set_option maxRecDepth 20000
open Go.Shelf

def delRen : Go.Shelf.Ren := ⟨fun | 23 => 100 | n => n, fun | 22 => 37 | 3 => 3 | 4 => 4 | 0 => 0 | n => n, fun | n => n⟩
theorem delLays : Go.Proofs.Lays2.n23 Tryz.prog delRen := {
  mixed := by kernel_rfl
  f23 := Tryz.func100.trans (congrArg some (by kernel_rfl))
  t0 := Tryz.underlying0
  a0 := Tryz.isAgg0
  z0 := Tryz.sizeOf0
  v0 := Tryz.zeroValue0
  t3 := Tryz.underlying3
  a3 := Tryz.isAgg3
  z3 := Tryz.sizeOf3
  v3 := Tryz.zeroValue3
  t4 := Tryz.underlying4
  a4 := Tryz.isAgg4
  z4 := Tryz.sizeOf4
  v4 := Tryz.zeroValue4
  t22 := Tryz.underlying37
  a22 := Tryz.isAgg37
  z22 := Tryz.sizeOf37
  v22 := Tryz.zeroValue37
  i3 := by kernel_rfl }

theorem grown_putRow {w : World} {g q : Nat} {d : Array Int} : w.grownBy (Go.Sort.putRow (Value.int .i64) (Go.Sort.ahead w q) g 0 d) (some g) :=
  ⟨rfl, rfl, rfl, by simp [Go.Sort.putRow, Go.Sort.mapBlock, Go.Sort.ahead], fun k _ hne => by
    have : g ≠ k := fun e => hne (by rw [e])
    simp [Go.Sort.putRow, Go.Sort.mapBlock, Go.Sort.ahead, Array.getElem?_modify, this]⟩
theorem del_c (B g n cap i : Nat) (I J : Int) (hI : I = i) (hJ : J = i + 1) (zs : List Int) (w : World) (h : w.ownsRow B 3 1 (.slice (some ⟨g, 0, none⟩) n cap) n (zs.map (Value.int .i64))) (hi : i < n) :
    Calls Tryz.prog 100 #[.slice (some ⟨g, 0, none⟩) n cap, .int .i64 I, .int .i64 J] w fun e w' => e = .returned (.slice (some ⟨g, 0, none⟩) (n - 1) cap) ∧ w'.ownsRow B 3 1 (.slice (some ⟨g, 0, none⟩) (n - 1) cap) (n - 1) ((zs.eraseIdx i).map (Value.int .i64)) ∧ w.grownBy w' (some g) := by
  subst hI hJ
  obtain ⟨g', cap', hv, hB, hlt, hn, hm, hl, hH⟩ := Go.Lib.holds_of_ownsRow h (by simp)
  simp only [Value.slice.injEq, Option.some.injEq, Addr.mk.injEq] at hv
  obtain ⟨⟨rfl, _, _⟩, _, rfl⟩ := hv
  subst hl
  have hd := Any.slices_Delete_int delLays g 0 cap i (i + 1) zs w hH hn hm (by omega) (by omega)
  rw [show i + 1 - i = 1 by omega] at hd
  refine hd.mono ?_
  rintro e w' ⟨rfl, q, rfl⟩
  refine ⟨rfl, ?_, grown_putRow⟩
  have e1 : (zs.eraseIdx i) = (List.take i zs ++ List.drop (i + 1) zs ++ List.replicate 1 0).take (zs.length - 1) := by
    have hlen : (List.take i zs ++ List.drop (i + 1) zs).length = zs.length - 1 := by simp; omega
    rw [List.eraseIdx_eq_take_drop_succ, ← hlen, List.take_left]
  rw [e1]
  exact Go.Lib.ownsRow_putRow h (by simp; omega) (by omega)
end Go.Proofs.YtgodgfnfaiiohaaGreatDoor

/- Contracts of the two functions that reckon a factorial. -/
namespace Go.Proofs.YtgodgfnfaiiohaaGreatDoor
open Go.ChangeShapes Go.WideShapes Go.ChangeAt Go.RowKit
set_option maxRecDepth 20000

def fct : Nat → Nat
  | 0 => 1
  | n + 1 => (n + 1) * fct n
theorem fct_tab : ∀ n, n < 13 → 1 ≤ fct n ∧ fct n ≤ 479001600 := by decide +kernel

theorem dfact_n (n : Nat) (h : n ≤ 12) (w : World) : Calls Tryz.prog 99 #[.int .i64 n] w fun e w' => e = .returned (.int .i64 (fct n : Nat)) ∧ w = w' := by
  go_enter Tryz.func99, Tryz.ntmps99
  go_wp2_with fail
  go_loop [3, 4] (fun o i => ∃ j : Nat, j < max n 1 + 1 ∧ 1 ≤ j ∧ i = .int .i64 ((j : Int) + 1) ∧ o = .int .i64 (fct j : Nat)) (fun _ i => n + 2 - (intOf i).toNat)
  case atStart => exact ⟨1, by omega, by omega, rfl, rfl⟩
  case round =>
    obtain ⟨j, hj, hj1, rfl, rfl⟩ := hrel
    have hf := (fct_tab j (by omega)).2
    by_cases hlt : j < n
    · have hlt' : (j : Int) + 1 ≤ (n : Int) := by omega
      have hm : (fct j : Nat) * ((j : Int) + 1) ≤ 6227020800 := by
        have := mul_le_cast (a := fct j) (b := j + 1) (A := 479001600) (B := 13) hf (by omega)
        rw [Int.natCast_add] at this
        exact this
      have hm0 : 0 ≤ (fct j : Nat) * ((j : Int) + 1) := Int.mul_nonneg (by omega) (by omega)
      have E := hidp (show ((fct (j + 1) : Nat) : Int) = (fct j : Nat) * ((j : Int) + 1) by rw [fct, Int.natCast_mul, Int.mul_comm]; rfl)
      go_wp2_with fail
      go_round
      case rel => exact ⟨j + 1, by omega, by omega, by go_num, v_int E.out.symm⟩
      case measure => simp [intOf]; omega
    · have hlt' : ¬ (j : Int) + 1 ≤ (n : Int) := by omega
      have E := hidp (show fct j = fct n by
        rcases Nat.eq_zero_or_pos n with h0 | h0
        · subst h0; rw [show j = 1 by omega]; rfl
        · rw [show j = n by omega])
      go_wp2_with fail
      go_ret
      exact ⟨ret_int (by rw [E.out]), rfl⟩
end Go.Proofs.YtgodgfnfaiiohaaGreatDoor

/- Contract of digit.Order within its bounds: the order of a rank. -/
namespace Go.Proofs.YtgodgfnfaiiohaaGreatDoor
open Go.ChangeShapes Go.WideShapes Go.ChangeAt Go.RowKit
set_option maxRecDepth 20000

/-- The order of a rank, of what is left. -/
def ordL : Nat → Nat → List Int → List Int
  | 0, _, _ => []
  | i + 1, r, left => gi left (r / fct i) :: ordL i (r % fct i) (left.eraseIdx (r / fct i))
theorem ordL_len : ∀ i r left, (ordL i r left).length = i
  | 0, _, _ => rfl
  | i + 1, r, left => by simp [ordL, ordL_len i]
theorem fct_pos : ∀ i, 0 < fct i
  | 0 => by simp [fct]
  | i + 1 => by simp only [fct]; exact Nat.mul_pos (by omega) (fct_pos i)
theorem quo_lt (i r : Nat) (h : r < fct (i + 1)) : r / fct i < i + 1 := by
  rw [Nat.div_lt_iff_lt_mul (fct_pos i)]
  exact h
theorem rem_lt (i r : Nat) : r % fct i < fct i := Nat.mod_lt _ (fct_pos i)
theorem erase_mem {x : Int} {xs : List Int} {i : Nat} (h : x ∈ xs.eraseIdx i) : x ∈ xs := List.mem_of_mem_eraseIdx h
def idn (n : Nat) : List Int := tab (fun i => (i : Int)) n

set_option maxHeartbeats 4000000 in
theorem order_c (n r : Nat) (N R : Int) (hN : N = n) (hR : R = r) (hn : n ≤ 12) (hr : r < fct n) (w : World) :
    Calls Tryz.prog 67 #[.int .i64 N, .int .i64 R] w fun e w' => ∃ v, e = .returned (.tuple #[v, .int .i64 0]) ∧ w'.ownsRow w.heap.size 3 1 v n ((ordL n r (idn n)).map (Value.int .i64)) ∧ Below w.heap.size w w' := by
  subst hN hR
  have hf12 := (fct_tab n (by omega)).2
  have FN := hidp (dfact_n n hn)
  have HR := hidp hr
  have hr' : (r : Int) < (fct n : Nat) := by omega
  clear hr
  obtain ⟨F, hF⟩ : ∃ F, F = fct n := ⟨_, rfl⟩
  rw [← hF] at FN hr' hf12
  have HF := hidp hF
  clear hF
  have d1 : decide ((n : Int) < 0) = false := decide_eq_false (by omega)
  have d2 : decide ((12 : Int) < (n : Int)) = false := decide_eq_false (by omega)
  have d3 : decide ((r : Int) < 0) = false := decide_eq_false (by omega)
  have d4 : decide (F ≤ r) = false := decide_eq_false (by omega)
  go_enter Tryz.func67, Tryz.ntmps67
  go_wp2_with fail
  refine (FN.out _).mono ?_; rintro e w' ⟨rfl, rfl⟩
  go_wp2_with fail
  go_loopw [6, 26] (fun v i wr => ∃ k : Nat, k ≤ n ∧ i = .int .i64 k ∧ wr.ownsRow w.heap.size 3 1 v k ((idn k).map (Value.int .i64)) ∧ Below w.heap.size w wr) (fun _ i _ => n - (intOf i).toNat)
  case atStart => exact ⟨0, by omega, rfl, World.ownsRow_nil _ _ _ _, Below.refl _ _⟩
  case round =>
    obtain ⟨k, hk, rfl, hv, hbl⟩ := hrel
    by_cases hlt : k < n
    · go_wp2_with (at_builtin; refine wpList_append_new rfl (.tmp 29) (.tmp 31) 37 rfl w.heap.size 3 _ 1 8 info_int rfl (by decide) Tryz.underlying37 _ k _ rfl hv rfl (one_int _ _) rfl rfl (by omega) (by decide) hbl.size ?_; intro v0 x0 nv g0 d0; have bl0 := append_step hv hbl (Nat.le_refl _) g0; clear g0 d0 hv hbl)
      go_roundw
      case rel => exact ⟨k + 1, by omega, by go_num, by unfold idn at *; rw [tab_snoc, List.map_append]; exact nv, bl0⟩
      case measure => simp [intOf]; omega
    · obtain rfl : k = n := by omega
      clear hr'
      go_wp2_with fail
      go_loopw [1, 6, 7, 9] (fun rr l o i wr => ∃ (t m rn : Nat) (xs ys : List Int), t + m = k ∧ i = .int .i64 ((m : Int) - 1) ∧ rr = .int .i64 rn ∧ Hid (rn < fct m) ∧ Hid (xs.length = t) ∧ Hid (ys.length = m) ∧ Hid (∀ y ∈ ys, 0 ≤ y ∧ y < 1000) ∧
        Hid (xs ++ ordL m rn ys = ordL k r (idn k)) ∧ wr.ownsRow w.heap.size 3 1 o t (xs.map (Value.int .i64)) ∧ wr.ownsRow w.heap.size 3 1 l m (ys.map (Value.int .i64)) ∧ Apart o l ∧ Below w.heap.size w wr) (fun _ _ _ i _ => (intOf i + 1).toNat)
      case atStart => exact ⟨0, k, r, [], idn k, by omega, rfl, rfl, hidp HR.out, rfl, hidp (by unfold idn; exact tab_len _ _), hidp (fun y hy => by obtain ⟨i, hi, rfl⟩ := tab_mem _ _ _ hy; omega), rfl, World.ownsRow_nil _ _ _ _, hv, .inl rfl, hbl⟩
      case round =>
        obtain ⟨t, m, rn, xs, ys, htm, rfl, rfl, hrn, hxl, hyl, hyb, hW, ho, hl, hap, hbx⟩ := hrel
        rcases Nat.eq_zero_or_pos m with hm0 | hm0
        · subst hm0
          obtain rfl : t = k := by omega
          have hc0 : ¬ (0 : Int) ≤ ((0 : Nat) : Int) - 1 := by omega
          have E := hidp (show xs = ordL t r (idn t) by have := hW.out; simpa [ordL] using this)
          go_wp2_with fail
          go_ret2
          exact ⟨_, rfl, by rw [← E.out]; exact ho, hbx⟩
        · obtain ⟨m, rfl⟩ : ∃ m', m = m' + 1 := ⟨m - 1, by omega⟩
          have hi : ((m + 1 : Nat) : Int) - 1 = m := by omega
          rw [hi]
          have hq := quo_lt m rn hrn.out
          have hpos := fct_pos m
          have hfm := (fct_tab m (by omega)).2
          have FM := hidp (dfact_n m (by omega))
          have RL := hidp (rem_lt m rn)
          have ED := hidp (show ((rn : Int) / (fct m : Nat)) = ((rn / fct m : Nat) : Int) from rfl)
          have EM := hidp (show ((rn : Int) % (fct m : Nat)) = ((rn % fct m : Nat) : Int) from rfl)
          have OS := hidp (show ordL (m + 1) rn ys = gi ys (rn / fct m) :: ordL m (rn % fct m) (ys.eraseIdx (rn / fct m)) from rfl)
          obtain ⟨gg, cl, hle, hgB, hgl, hgn, hgc⟩ := owns_addr hl (by omega)
          subst hle
          have hmem := hyb.out (gi ys (rn / fct m)) (gi_mem ys _ (by rw [hyl.out]; exact hq))
          obtain ⟨hmem1, hmem2⟩ := hmem
          have q0 : wr.cell? ⟨gg, rn / fct m, none⟩ = some (.int .i64 (gi ys (rn / fct m))) := by
            rw [hl.cellAt _ (by omega), map_tab ys (m + 1) hyl.out, tab_get _ _ _ hq]
          clear hi
          generalize hFM : fct m = fm at *
          have HFM := hidp hFM
          clear hFM
          generalize hQ : rn / fm = q at *
          have HQ := hidp hQ
          have hQ' : (rn : Int) / (fm : Int) = (q : Int) := by rw [← hQ]; rfl
          clear hQ
          go_wp2_with fail
          refine (FM.out _).mono ?_; rintro e w' ⟨rfl, rfl⟩
          go_wp2_with fail
          refine (FM.out _).mono ?_; rintro e w' ⟨rfl, rfl⟩
          go_wp2_with (at_builtin; refine wpList_append_new rfl (.tmp 48) (.tmp 53) 37 rfl w.heap.size 3 _ 1 8 info_int rfl (by decide) Tryz.underlying37 u7 t _ rfl ho rfl (one_int _ _) rfl rfl (by omega) (by decide) hbx.size ?_; intro v0 x0 no g0 d0; have hl1 := hl.kept g0 hap.symm; have ap1 := hap.grown hl d0; have bl0 := append_step ho hbx (Nat.le_refl _) g0; clear g0 d0 ho hbx hap hl)
          refine (del_c w.heap.size gg (m + 1) cl q _ _ (by omega) (by omega) ys _ hl1 hq).mono ?_
          rintro e w3 ⟨rfl, hl2, g2⟩
          have no2 := no.kept g2 (by
            rcases ap1 with h | h
            · exact .inl h
            · exact .inr h)
          have bl2 : Below w.heap.size w w3 := bl0.grown g2 bl0.size (fun k hk => by cases hk; exact hgB)
          rw [show m + 1 - 1 = m by omega] at hl2
          clear hl1 no bl0 g2
          go_wp2_with fail
          go_roundw
          case rel => exact ⟨t + 1, m, rn % fm, xs ++ [gi ys q], ys.eraseIdx q, by omega, by go_num, rfl, hidp (by rw [HFM.out]; exact RL.out), hidp (by simp [hxl.out]), hidp (by rw [List.length_eraseIdx_of_lt (by rw [hyl.out]; exact hq), hyl.out]; rfl), hidp (fun y hy => hyb.out y (erase_mem hy)), hidp (by rw [← hW.out, OS.out]; simp), by rw [List.map_append]; exact no2, hl2, ap1, bl2⟩
          case measure => simp [intOf]
end Go.Proofs.YtgodgfnfaiiohaaGreatDoor

/- Orders of a row, and their ranks (plain Lean). -/
namespace Go.Proofs.YtgodgfnfaiiohaaGreatDoor

/-- May it be an order of so many? -/
def PermOk (xs : List Int) (n : Nat) : Prop := n ≤ 12 ∧ ∀ i, i < n → 0 ≤ gi xs i ∧ gi xs i < n ∧ ∀ j, j < i → gi xs j ≠ gi xs i
/-- Did v come among the first k? -/
def seenF (xs : List Int) : Nat → Nat → Bool
  | 0, _ => false
  | k + 1, v => seenF xs k v || decide (gi xs k = (v : Int))
theorem seenF_iff (xs : List Int) (v : Nat) : ∀ k, seenF xs k v = true ↔ ∃ j, j < k ∧ gi xs j = (v : Int)
  | 0 => by simp [seenF]
  | k + 1 => by
    simp only [seenF, Bool.or_eq_true, decide_eq_true_eq]
    rw [seenF_iff xs v k]
    constructor
    · rintro (⟨j, h1, h2⟩ | h)
      · exact ⟨j, by omega, h2⟩
      · exact ⟨k, by omega, h⟩
    · rintro ⟨j, h1, h2⟩
      by_cases e : j = k
      · subst e; exact .inr h2
      · exact .inl ⟨j, by omega, h2⟩
/-- How many of the m behind place k are less. -/
def lessM (xs : List Int) (k : Nat) : Nat → Nat
  | 0 => 0
  | m + 1 => lessM xs k m + if gi xs (k + 1 + m) < gi xs k then 1 else 0
theorem lessM_le (xs : List Int) (k : Nat) : ∀ m, lessM xs k m ≤ m
  | 0 => Nat.le_refl _
  | m + 1 => by have := lessM_le xs k m; simp only [lessM]; split <;> omega
/-- The rank that the first k tell. -/
def rkD (xs : List Int) (n : Nat) : Nat → Nat
  | 0 => 0
  | k + 1 => rkD xs n k * (n - k) + lessM xs k (n - 1 - k)
theorem rkD_bd (xs : List Int) (n : Nat) (hn : n ≤ 12) : ∀ k, k ≤ n → rkD xs n k + 1 ≤ 13 ^ k
  | 0, _ => by simp [rkD]
  | k + 1, hk => by
    have a := rkD_bd xs n hn k (by omega)
    have b := lessM_le xs k (n - 1 - k)
    have c : rkD xs n k * (n - k) ≤ rkD xs n k * 12 := Nat.mul_le_mul_left _ (by omega)
    simp only [rkD]
    rw [Nat.pow_succ]
    omega
theorem rkD_le (xs : List Int) (n : Nat) (hn : n ≤ 12) (k : Nat) (hk : k ≤ n) : rkD xs n k ≤ 100000000000000 := by
  have a := rkD_bd xs n hn k hk
  have b : 13 ^ k ≤ 13 ^ 12 := Nat.pow_le_pow_right (by omega) (by omega)
  have c : (13 : Nat) ^ 12 = 23298085122481 := by decide
  omega
theorem cons_erase_perm : ∀ (l : List Int) (i : Nat) (h : i < l.length), (l[i] :: l.eraseIdx i).Perm l
  | [], i, h => by simp at h
  | a :: l, 0, _ => List.Perm.refl _
  | a :: l, i + 1, h => (List.Perm.swap a _ _).trans (List.Perm.cons a (cons_erase_perm l i (by simpa using h)))
/-- An order is an order of what is left. -/
theorem ordL_perm : ∀ i r left, left.length = i → r < fct i → (ordL i r left).Perm left
  | 0, _, left, hl, _ => by
    have : left = [] := List.eq_nil_of_length_eq_zero hl
    subst this; exact List.Perm.refl _
  | i + 1, r, left, hl, hr => by
    have hq := quo_lt i r hr
    have ih := ordL_perm i (r % fct i) (left.eraseIdx (r / fct i)) (by rw [List.length_eraseIdx, if_pos (by omega)]; omega) (rem_lt i r)
    have e : gi left (r / fct i) = left[r / fct i]'(by omega) := by
      unfold gi; rw [List.getD_eq_getElem?_getD, List.getElem?_eq_getElem (by omega)]; rfl
    simp only [ordL]
    rw [e]
    exact (List.Perm.cons _ ih).trans (cons_erase_perm left _ (by omega))
end Go.Proofs.YtgodgfnfaiiohaaGreatDoor
