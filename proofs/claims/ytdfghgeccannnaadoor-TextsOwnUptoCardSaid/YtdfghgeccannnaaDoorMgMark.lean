/- Merged: HexUse, Mark. -/
import Derived.Test.YtdfghgeccannnaaDoorParseTh
import Derived.Test.YtdfghgeccannnaaDoorState
import Derived.Deep.DeepCutAuto
/- The texts of thresholds and draws, read again (plain), and hexa.Th by a function of the number. -/
namespace Go.Proofs.YtdfghgeccannnaaDoor
open Go.ChangeShapes Go.WideShapes Go.ChangeAt Go.RowKit
set_option maxRecDepth 20000
theorem hex_last (n m : Nat) (h1 : 1 ≤ m) : byt (hexB n m) (m - 1) = (hd n (m - 1)).toNat := byt_hex n m (m - 1) (by omega)
theorem read_th (n m : Nat) (hn : n < 72057594037927936) (h1 : 1 ≤ m) (h2 : m ≤ 14) (hz : ∀ j, m ≤ j → j < 14 → hd n j = 48) (ht : m = 1 ∨ hd n (m - 1) ≠ 48) : thV (hexB n m) = n ∧ thE (hexB n m) = 0 := by
  have hk : thOk (hexB n m) = true := by
    unfold thOk
    rw [hex_ok, hexB_size, decide_eq_true]
    · rfl
    · refine ⟨h1, h2, ht.imp id (fun h => ?_)⟩
      rw [hex_last n m h1]
      intro e
      apply h
      exact UInt8.toNat_inj.1 (by rw [e]; rfl)
  unfold thV thE
  rw [if_pos hk, if_pos hk]
  exact ⟨by unfold pvI; rw [hex_read n m hn hz], rfl⟩
theorem read_rv (n : Nat) (hn : n < 72057594037927936) : rvV (hexB n 14) = n ∧ rvE (hexB n 14) = 0 := by
  have hk : rvOk (hexB n 14) = true := by
    unfold rvOk
    rw [hex_ok, hexB_size]; rfl
  unfold rvV rvE
  rw [if_pos hk, if_pos hk]
  exact ⟨by unfold pvI; rw [hex_read n 14 hn (fun j h1 h2 => by omega)], rfl⟩
/-- How many digits the text of a threshold has. -/
def trm (n : Nat) : Nat → Nat
  | 0 => 1
  | 1 => 1
  | m + 2 => if hd n (m + 1) = 48 then trm n (m + 1) else m + 2
theorem trm_ok (n : Nat) : ∀ m, 1 ≤ m → m ≤ 14 → (∀ j, m ≤ j → j < 14 → hd n j = 48) → 1 ≤ trm n m ∧ trm n m ≤ 14 ∧ (∀ j, trm n m ≤ j → j < 14 → hd n j = 48) ∧ (trm n m = 1 ∨ hd n (trm n m - 1) ≠ 48)
  | 0, h, _, _ => by omega
  | 1, _, h, hz => ⟨by simp [trm], by simp [trm], by simpa [trm] using hz, .inl rfl⟩
  | m + 2, _, h, hz => by
    by_cases e : hd n (m + 1) = 48
    · have hs : trm n (m + 2) = trm n (m + 1) := by simp only [trm]; rw [if_pos e]
      rw [hs]
      exact trm_ok n (m + 1) (by omega) (by omega) (fun j h1 h2 => by
        by_cases ej : j = m + 1
        · rw [ej]; exact e
        · exact hz j (by omega) h2)
    · have hs : trm n (m + 2) = m + 2 := by simp only [trm]; rw [if_neg e]
      rw [hs]
      exact ⟨by omega, h, hz, .inr e⟩
def thTxt (n : Nat) : ByteArray := hexB n (trm n 14)
theorem thTxt_ok (n : Nat) : 1 ≤ trm n 14 ∧ trm n 14 ≤ 14 ∧ (∀ j, trm n 14 ≤ j → j < 14 → hd n j = 48) ∧ (trm n 14 = 1 ∨ hd n (trm n 14 - 1) ≠ 48) := trm_ok n 14 (by omega) (by omega) (fun j h1 h2 => by omega)
theorem thTxt_read (n : Nat) (hn : n < 72057594037927936) : thV (thTxt n) = n ∧ thE (thTxt n) = 0 := by
  obtain ⟨a, b, c, d⟩ := thTxt_ok n
  exact read_th n _ hn a b c d
theorem tht_c (n : Nat) (hlt : n < 72057594037927936) (w : World) :
    Calls Tryd.prog 39 #[.int .i64 n] w fun e w' => e = .returned (.tuple #[.string (thTxt n), .int .i64 0]) ∧ Below w.heap.size w w' := by
  refine (th_c n hlt w).mono ?_
  rintro e w' ⟨m, h1, h2, rfl, hH, hb⟩
  obtain ⟨a, b, c, d⟩ := thTxt_ok n
  rw [trim_same n m (trm n 14) h1 a h2 b hH.out.1 c hH.out.2 d]
  exact ⟨rfl, hb⟩
end Go.Proofs.YtdfghgeccannnaaDoor

/- Contract of state.Mark at every list of pairs. -/
namespace Go.Proofs.YtdfghgeccannnaaDoor
open Go.ChangeShapes Go.WideShapes Go.ChangeAt Go.RowKit Go.Maps
set_option maxRecDepth 20000
abbrev txtTh : ByteArray := ⟨#[116, 104]⟩
abbrev txtRv : ByteArray := ⟨#[114, 118]⟩
theorem txtTh_l : txtTh.toList = [116, 104] := by decide +kernel
theorem txtRv_l : txtRv.toList = [114, 118] := by decide +kernel
theorem thF {s : ByteArray} (h : ¬ s = txtTh) : (s.toList == [116, 104]) = false := by rw [← txtTh_l]; exact eqF h
theorem rvF {s : ByteArray} (h : ¬ s = txtRv) : (s.toList == [114, 118]) = false := by rw [← txtRv_l]; exact eqF h
/-- What goes wrong at pair k. -/
def mE (L : List (ByteArray × ByteArray)) (k : Nat) : Int := if pk L k = txtTh then thE (pv L k) else if pk L k = txtRv then rvE (pv L k) else 0
def mkE (L : List (ByteArray × ByteArray)) : Nat → Int
  | 0 => 0
  | k + 1 => if mkE L k = 0 then mE L k else mkE L k
def gTh (L : List (ByteArray × ByteArray)) : Nat → Int
  | 0 => 0
  | k + 1 => if pk L k = txtTh then thV (pv L k) else gTh L k
def hTh (L : List (ByteArray × ByteArray)) : Nat → Bool
  | 0 => false
  | k + 1 => if pk L k = txtTh then true else hTh L k
def gRv (L : List (ByteArray × ByteArray)) : Nat → Int
  | 0 => 0
  | k + 1 => if pk L k = txtRv then rvV (pv L k) else gRv L k
def hRv (L : List (ByteArray × ByteArray)) : Nat → Bool
  | 0 => false
  | k + 1 => if pk L k = txtRv then true else hRv L k
def mErr (L : List (ByteArray × ByteArray)) : Int := if chkE L = 0 then mkE L L.length else chkE L
def mTh (L : List (ByteArray × ByteArray)) : Int := if mErr L = 0 then gTh L L.length else 0
def mRv (L : List (ByteArray × ByteArray)) : Int := if mErr L = 0 then gRv L L.length else 0
def mHT (L : List (ByteArray × ByteArray)) : Bool := if mErr L = 0 then hTh L L.length else false
def mHR (L : List (ByteArray × ByteArray)) : Bool := if mErr L = 0 then hRv L L.length else false
theorem mkE_stop (L : List (ByteArray × ByteArray)) (k : Nat) (e : Int) (h0 : mkE L k = 0) (he : mE L k = e) (hne : e ≠ 0) : ∀ d, mkE L (k + 1 + d) = e
  | 0 => by simp only [Nat.add_zero, mkE]; rw [if_pos h0, he]
  | d + 1 => by
    rw [show k + 1 + (d + 1) = (k + 1 + d) + 1 by omega]
    simp only [mkE]
    rw [mkE_stop L k e h0 he hne d, if_neg hne]
/-- A mark in memory. -/
structure MS (W : World) (Q : Nat) (t r : Int) (ht hr : Bool) : Prop where
  q0 : W.cell? ⟨Q, 0, none⟩ = some (.int .i64 t)
  q1 : W.cell? ⟨Q, 1, none⟩ = some (.int .i64 r)
  q2 : W.cell? ⟨Q, 2, none⟩ = some (.bool ht)
  q3 : W.cell? ⟨Q, 3, none⟩ = some (.bool hr)
  fq : ∀ o, W.frozen? ⟨Q, o, none⟩ = false
theorem MS.below {W W' : World} {Q : Nat} {t r : Int} {ht hr : Bool} (h : MS W Q t r ht hr) (hb : Below W.heap.size W W') : MS W' Q t r ht hr :=
  ⟨ck hb h.q0, ck hb h.q1, ck hb h.q2, ck hb h.q3, fun o => (hb.frozen (p := ⟨Q, o, none⟩) (show Q < _ from lt_of_cell h.q0)).trans (h.fq o)⟩
theorem MS.far {W : World} {Q : Nat} {t r : Int} {ht hr : Bool} (h : MS W Q t r ht hr) (p : Addr) (hne : p.block ≠ Q) (u : Value) : MS (W.setCell p u) Q t r ht hr := by
  have f : ∀ i x, W.cell? ⟨Q, i, none⟩ = some x → (W.setCell p u).cell? ⟨Q, i, none⟩ = some x := fun i x hx => by
    rw [World.cell?_setCell_far _ _ _ _ (show p.block ≠ Q from hne)]; exact hx
  exact ⟨f _ _ h.q0, f _ _ h.q1, f _ _ h.q2, f _ _ h.q3, fun o => by rw [World.frozen?_setCell]; exact h.fq o⟩
theorem MS.set0 {W : World} {Q : Nat} {t r : Int} {ht hr : Bool} (h : MS W Q t r ht hr) (t2 : Int) : MS (W.setCell ⟨Q, 0, none⟩ (.int .i64 t2)) Q t2 r ht hr := by
  obtain ⟨h0, h1, h3, h4, hf⟩ := h
  exact ⟨by go_simp, by go_simp, by go_simp, by go_simp, fun o => by have := hf o; go_simp⟩
theorem MS.set1 {W : World} {Q : Nat} {t r : Int} {ht hr : Bool} (h : MS W Q t r ht hr) (t2 : Int) : MS (W.setCell ⟨Q, 1, none⟩ (.int .i64 t2)) Q t t2 ht hr := by
  obtain ⟨h0, h1, h3, h4, hf⟩ := h
  exact ⟨by go_simp, by go_simp, by go_simp, by go_simp, fun o => by have := hf o; go_simp⟩
theorem MS.set2 {W : World} {Q : Nat} {t r : Int} {ht hr : Bool} (h : MS W Q t r ht hr) (b2 : Bool) : MS (W.setCell ⟨Q, 2, none⟩ (.bool b2)) Q t r b2 hr := by
  obtain ⟨h0, h1, h3, h4, hf⟩ := h
  exact ⟨by go_simp, by go_simp, by go_simp, by go_simp, fun o => by have := hf o; go_simp⟩
theorem MS.set3 {W : World} {Q : Nat} {t r : Int} {ht hr : Bool} (h : MS W Q t r ht hr) (b2 : Bool) : MS (W.setCell ⟨Q, 3, none⟩ (.bool b2)) Q t r ht b2 := by
  obtain ⟨h0, h1, h3, h4, hf⟩ := h
  exact ⟨by go_simp, by go_simp, by go_simp, by go_simp, fun o => by have := hf o; go_simp⟩
theorem MS.put {W : World} {Q : Nat} {t r : Int} {ht hr : Bool} (h : MS W Q t r ht hr) (t2 r2 : Int) (a2 b2 : Bool) : MS ((((W.setCell ⟨Q, 0, none⟩ (.int .i64 t2)).setCell ⟨Q, 1, none⟩ (.int .i64 r2)).setCell ⟨Q, 2, none⟩ (.bool a2)).setCell ⟨Q, 3, none⟩ (.bool b2)) Q t2 r2 a2 b2 :=
  (((h.set0 t2).set1 r2).set2 a2).set3 b2
theorem below_set4 {B : Nat} {w W : World} (h : Below B w W) (Q : Nat) (hQ : B ≤ Q) (x0 x1 x2 x3 : Value) : Below B w ((((W.setCell ⟨Q, 0, none⟩ x0).setCell ⟨Q, 1, none⟩ x1).setCell ⟨Q, 2, none⟩ x2).setCell ⟨Q, 3, none⟩ x3) :=
  (((h.setCell (p := ⟨Q, 0, none⟩) hQ x0).setCell (p := ⟨Q, 1, none⟩) hQ x1).setCell (p := ⟨Q, 2, none⟩) hQ x2).setCell (p := ⟨Q, 3, none⟩) hQ x3
theorem MS.new (W : World) (t r : Int) (ht hr : Bool) : MS (W.alloc (.cells #[.int .i64 t, .int .i64 r, .bool ht, .bool hr] 26)) W.heap.size t r ht hr :=
  ⟨by go_simp, by go_simp, by go_simp, by go_simp, fun o => by go_simp⟩
end Go.Proofs.YtdfghgeccannnaaDoor
