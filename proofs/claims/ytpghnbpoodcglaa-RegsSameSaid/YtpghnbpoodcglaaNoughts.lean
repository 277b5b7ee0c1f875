/- Contract of the laws' own noughts: registers to which draws were put. -/
import Derived.Test.YtpghnbpoodcglaaRegs
import Derived.Lib.MinMax
import Derived.Deep.OwnRows
import Derived.Deep.DeepCutAuto
namespace Go.Proofs.Ytpghnbpoodcglaa
open Go.ChangeShapes Go.WideShapes Go.ChangeAt Go.RowKit
set_option maxRecDepth 20000

def dN (x : Int) : Nat := (drw x).toNat
theorem dN_lt (x : Int) : dN x < 72057594037927936 := by have := drw_hi x; have := drw_lo x; unfold dN; omega
theorem dN_cast (x : Int) : drw x = (dN x : Nat) := by have := drw_lo x; unfold dN; omega
/-- What one draw makes of register i. -/
def gR (n : Nat) (x : Int) (i : Nat) : Int := if i = dN x % n then rpx n (dN x) else 0
theorem gR_bd (n : Nat) (x : Int) (i : Nat) : 0 ≤ gR n x i ∧ gR n x i ≤ 57 := by
  have := rpx_bd n (dN x) (dN_lt x)
  unfold gR; split <;> omega
/-- What a list of draws makes of register i. -/
def nF (n : Nat) : List Int → Nat → Int
  | [], _ => 0
  | x :: l, i => max (gR n x i) (nF n l i)
theorem nF_bd (n : Nat) : ∀ l i, 0 ≤ nF n l i ∧ nF n l i ≤ 57
  | [], _ => by simp [nF]
  | x :: l, i => by have := nF_bd n l i; have := gR_bd n x i; simp only [nF]; omega
theorem nF_append (n : Nat) (m : List Int) (i : Nat) : ∀ l, nF n (l ++ m) i = max (nF n l i) (nF n m i)
  | [] => by have := nF_bd n m i; simp only [List.nil_append, nF]; omega
  | x :: l => by simp only [List.cons_append, nF]; rw [nF_append n m i l]; omega
theorem nF_step (n : Nat) (xs : List Int) (k i : Nat) (hk : k < xs.length) (hi : i < n) : rputF (tab (nF n (xs.take k)) n) n (dN (gi xs k)) i = nF n (xs.take (k + 1)) i := by
  have e : xs.take (k + 1) = xs.take k ++ [gi xs k] := by
    rw [List.take_add_one, gi_get xs k hk]; rfl
  have b := nF_bd n (xs.take k) i
  have r := rpx_bd n (dN (gi xs k)) (dN_lt _)
  rw [e, nF_append]
  simp only [nF, gR]
  unfold rputF
  rw [tab_gi _ _ _ hi]
  split <;> omega
theorem nF_ok (n : Nat) (hn : rgN n) (l : List Int) : RegOk (tab (nF n l) n) n := ⟨hn, fun i hi => by rw [tab_gi _ _ _ hi]; exact nF_bd n l i⟩
/-- How many registers there are. -/
def nsz (n : Int) : Nat := 2 ^ (wn n 5)
theorem nsz_ok (n : Int) : rgN (nsz n) := by
  have h := wn_lt n 5 (by omega)
  unfold nsz rgN
  generalize wn n 5 = w at *
  have : w = 0 ∨ w = 1 ∨ w = 2 ∨ w = 3 ∨ w = 4 := by omega
  rcases this with rfl | rfl | rfl | rfl | rfl <;> simp

theorem own_row0 (w : World) (n : Nat) (hn : n ≤ 1000) : (w.alloc (.cells (madeCells #[.int .i64 0] n) 3)).ownsRow w.heap.size 3 1 (.slice (some ⟨w.heap.size, 0, none⟩) n n) n ((tab (fun _ => (0 : Int)) n).map (Value.int .i64)) := by
  have h := made_tab (.int .i64 0) n
  rw [Nat.mul_one] at h
  refine ⟨by rw [List.length_map, tab_len, Nat.mul_one], .inr ⟨w.heap.size, n, madeCells #[.int .i64 0] n, rfl, Nat.le_refl _, heap_alloc_new w _, Nat.le_refl _, by unfold maxLen; omega, by rw [size_madeCells]; simp, ?_⟩⟩
  rw [h, tab_map, List.take_of_length_le (by rw [tab_len]; omega)]
set_option maxHeartbeats 4000000 in
theorem noughts_c (nn : Int) (al : Option Addr) (m cl : Nat) (xs : List Int) (w : World) (h : IntsAt w al m cl xs) (hm : m ≤ 200) :
    Calls Try.prog 38 #[.int .i64 nn, .slice al m cl] w fun e w' => ∃ a c, e = .returned (.tuple #[.slice a (nsz nn) c, .bool true]) ∧ IntsAt w' a (nsz nn) c (tab (nF (nsz nn) xs) (nsz nn)) ∧ Below w.heap.size w w' := by
  have C1 := hidp (fun W => withinN_c nn 5 (by omega) (by omega) W)
  have hw := wn_lt nn 5 (by omega)
  have hok := nsz_ok nn
  have CD := hidp (fun x W => by have := draw_c x W; rw [dN_cast] at this; exact this)
  have CP := hidp (fun a c ys k W h hx hk => rput_c a (nsz nn) c ys k W h hx hk)
  have HOK := hidp (fun l => nF_ok (nsz nn) hok l)
  have DL := hidp dN_lt
  have hl := h.len
  have ST := hidp (fun k i hk hi => nF_step (nsz nn) xs k i hk hi)
  obtain ⟨b, o, hz, hx'⟩ := h.split
  have hz' : Hid (m = 0) ∨ al = some ⟨b, o, none⟩ := hz.imp_left hidp
  have HX := hidp hx'
  have mm := h.max
  have ee := h.le
  have hmin : min (m : Int) 200 = (m : Int) := by omega
  have hs : 1 ≤ nsz nn ∧ nsz nn ≤ 16 := by unfold rgN at hok; omega
  have HN := hidp (show nsz nn = 2 ^ (wn nn 5) from rfl)
  have HT := hidp (show xs.take m = xs by rw [← hl, List.take_length])
  have ZERO := hidp (show ∀ z : Nat, tab (nF z (xs.take 0)) z = tab (fun _ => 0) z from fun z => tab_congr _ _ _ (fun i _ => by simp [nF]))
  clear h hx' hz hok
  generalize wn nn 5 = s at *
  generalize nsz nn = z at *
  have hmk : ∀ W : World, (Instr.makeSlice 22 (.int .i64 (z : Int)) (.int .i64 (z : Int))).run Try.prog W = .ok (.slice (some ⟨W.heap.size, 0, none⟩) z z) (W.alloc (.cells (madeCells #[.int .i64 0] z) 3)) := fun W => run_make_row' 22 3 _ _ Try.underlying22 info_int rfl _ _ z (by omega) (by omega) W
  go_enter Try.func38, Try.ntmps38
  go_wp2_with fail
  refine (C1.out _).mono ?_
  rintro e w' ⟨rfl, rfl⟩
  have WE : wrap64 ((2 : Int) ^ s) = (z : Int) := by
    have : ((2 : Int) ^ s) = (z : Int) := by rw [HN.out]; simp
    rw [this]
    exact IntWalk.wrap64_in _ ⟨by omega, by omega⟩
  have hv0 := own_row0 w z (by omega)
  obtain ⟨_, _, hve, hi0⟩ := owns_ints hv0 (fun x hx => by obtain ⟨i, hi, rfl⟩ := tab_mem _ _ _ hx; omega)
  simp only [Value.slice.injEq] at hve
  obtain ⟨rfl, _, rfl⟩ := hve
  rw [← ZERO.out] at hi0
  have HI0 := hidp hi0
  have HB0 := hidp (show Below w.heap.size w (w.alloc (.cells (madeCells #[.int .i64 0] z) 3)) from bal (Below.refl _ _) _)
  clear hv0 hi0 C1
  go_wp2_with fail
  generalize w.alloc (.cells (madeCells #[.int .i64 0] z) 3) = w1 at *
  rw [WE]
  go_loopw [6, 21] (fun v i wr => ∃ (k : Nat) (a : Option Addr) (c : Nat), k ≤ m ∧ i = .int .i64 k ∧ v = .slice a z c ∧ Hid (IntsAt wr a z c (tab (nF z (xs.take k)) z)) ∧ Below w.heap.size w wr) (fun _ i _ => m - (intOf i).toNat)
  case atStart => exact ⟨0, _, _, by omega, rfl, rfl, HI0, HB0.out⟩
  case round =>
    obtain ⟨k, a, c, hk, rfl, rfl, HI, hbl⟩ := hrel
    by_cases hlt : k < m
    · obtain rfl : al = some ⟨b, o, none⟩ := hz'.resolve_left (fun e => by have := e.out; omega)
      have q := carry_cell (HX.out k hlt) hbl
      have mI := HI.out.max
      have lI := HI.out.le
      go_wp2_with fail
      refine (CD.out _ _).mono ?_
      rintro e w' ⟨rfl, rfl⟩
      go_wp2_with fail
      refine (CP.out _ _ _ _ _ HI.out (HOK.out _) (DL.out _)).mono ?_
      rintro e wx ⟨v, rfl, hv, hbx⟩
      rw [show tab (rputF (tab (nF z (xs.take k)) z) z (dN (gi xs k))) z = tab (nF z (xs.take (k + 1))) z from tab_congr _ _ _ (fun i hi => ST.out k i (by omega) hi)] at hv
      obtain ⟨a', c', rfl, hi'⟩ := owns_regs hv (HOK.out _)
      have HI' := hidp hi'
      have hbl' := bstep hbl hbx
      clear hv hbx hbl hi'
      go_wp2_with fail
      go_roundw
      case measure => simp [intOf]; omega
      case rel =>
        exact ⟨k + 1, a', c', by omega, by go_num, rfl, HI', hbl'⟩
    · obtain rfl : k = m := by omega
      have mI := HI.out.max
      have lI := HI.out.le
      go_wp2_with fail
      go_ret2
      rw [HT.out] at HI
      exact ⟨a, c, rfl, HI.out, hbl⟩
end Go.Proofs.Ytpghnbpoodcglaa
