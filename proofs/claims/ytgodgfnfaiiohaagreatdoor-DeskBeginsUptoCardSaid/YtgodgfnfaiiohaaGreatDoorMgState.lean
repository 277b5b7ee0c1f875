/- Merged: MapS, State. -/
import Derived.Test.YtgodgfnfaiiohaaGreatDoorMem
import Derived.Maps.OwnOps
import Derived.Maps.OwnSet
import Derived.Maps.Keyed
import Derived.WalkSmall
import Derived.Deep.QuietTactic
import Derived.Test.YtgodgfnfaiiohaaGreatDoorPairs
import Derived.Test.YtgodgfnfaiiohaaGreatDoorParseTh
import Derived.StringKeys
import Derived.Deep.LoopGhost
/- A map from texts to truth values that a call makes: what it holds, by a function on keys; the laws of a look-up and of a store, over any program. -/
namespace Go.Proofs.YtgodgfnfaiiohaaGreatDoor
open Go.ChangeShapes Go.WideShapes Go.ChangeAt Go.RowKit Go.Maps
set_option maxRecDepth 20000

/-- Block b is a map of at most n keys that tells S of each key. -/
def MapSB (w : World) (P : Program) (k e : TypeId) (b n : Nat) (S : List UInt8 → Bool) : Prop :=
  ∃ D : DataW Unit, w.ownsMap P k (plainElem P e) b n D ∧ ∀ x, D.atKey (.string x) (.lit (.bool false)) = .lit (.bool (S x))

theorem MapSB.made (w : World) (P : Program) (k e : TypeId) : MapSB (w.alloc (.map #[] 0)) P k e w.heap.size 0 (fun _ => false) :=
  ⟨_, World.ownsMap_made w P k _, fun _ => rfl⟩
theorem MapSB.alloc {w : World} {P : Program} {k e : TypeId} {b n : Nat} {S : List UInt8 → Bool} (h : MapSB w P k e b n S) (o : Obj) : MapSB (w.alloc o) P k e b n S := by
  obtain ⟨D, h1, h2⟩ := h
  exact ⟨D, h1.alloc o, h2⟩
theorem MapSB.kept {w w' : World} {P : Program} {k e : TypeId} {b n : Nat} {S : List UInt8 → Bool} (h : MapSB w P k e b n S) {row : Option Nat} (hg : w.grownBy w' row) (hne : some b ≠ row) : MapSB w' P k e b n S := by
  obtain ⟨D, h1, h2⟩ := h
  exact ⟨D, h1.kept hg hne, h2⟩
theorem MapSB.below {w w' : World} {P : Program} {k e : TypeId} {b n : Nat} {S : List UInt8 → Bool} (h : MapSB w P k e b n S) (hb : Below w.heap.size w w') : MapSB w' P k e b n S := by
  obtain ⟨D, ⟨es, clock, hh, F, hs, hD⟩, h2⟩ := h
  exact ⟨D, ⟨es, clock, (hb.block b (Array.getElem?_eq_some_iff.1 hh).1).trans hh, F, hs, hD⟩, h2⟩
theorem MapSB.drewN {w : World} {P : Program} {k e : TypeId} {b n : Nat} {S : List UInt8 → Bool} (h : MapSB w P k e b n S) (m : Nat) : MapSB (w.drewN m) P k e b n S := h
theorem MapSB.lt {w : World} {P : Program} {k e : TypeId} {b n : Nat} {S : List UInt8 → Bool} (h : MapSB w P k e b n S) : b < w.heap.size := by
  obtain ⟨D, ⟨es, clock, hh, _⟩, _⟩ := h
  exact (Array.getElem?_eq_some_iff.1 hh).1

theorem plainElem_boolS_inv {P : Program} {e : TypeId} (he : P.underlying e = some .bool) {v : Value} {z : DataW Unit × List MemPlace} (h : plainElem P e v = some z) : ∃ a, v = .bool a ∧ z = (.lit (.bool a), []) := by
  unfold plainElem at h
  rw [he] at h
  cases v <;> simp at h
  exact ⟨_, rfl, h.symm⟩

/-- 'm[k]', as an equation laid ahead of the walk. -/
theorem MapSB.run {P : Program} {w : World} {k e : TypeId} {b n : Nat} {S : List UInt8 → Bool} (h : MapSB w P k e b n S) {t : TypeId} (K : Keyed P k) (ht : P.underlying t = some (.map k e)) (he : P.underlying e = some .bool) (hz : (zeroValue e).run P w = .ok (.bool false) w) (y : ByteArray) (hkey : keyOf P k (.string y) = some (.string y.data.toList)) :
    (Instr.lookup t (.map (some b)) (.string y) false).run P w = .ok (.bool (S y.data.toList)) w := by
  obtain ⟨D, h1, h2⟩ := h
  obtain ⟨v, ps, hrun, hv⟩ := h1.lookup K ht hz (plainElem_bool he false) hkey
  obtain ⟨c, rfl, hc⟩ := plainElem_boolS_inv he hv
  simp only [Prod.mk.injEq] at hc
  have hcS : c = S y.data.toList := by
    have := (h2 y.data.toList).symm.trans hc.1
    simpa using this.symm
  rw [hrun, hcS]
/-- 'm[k] = c'. -/
theorem wpList_mapUpdate_boolS {P : Program} {w : World} {ops : Array Oper} {rest : List Oper} {o : Oper} {a : Act} {Q : Exit → Act → World → Prop}
    (hg : o.guard = none) (m x v : Operand) (t : TypeId) (hop : o.op = Op.mapUpdate t m x v)
    (k e : TypeId) (K : Keyed P k) (ht : P.underlying t = some (.map k e)) (he : P.underlying e = some .bool) (b n : Nat) (S : List UInt8 → Bool)
    (hm : a.eval m = .map (some b)) (hown : MapSB w P k e b n S) (hn : n < 1000000) (y : ByteArray) (c : Bool) (hx : a.eval x = .string y) (hv : a.eval v = .bool c) (hkey : keyOf P k (.string y) = some (.string y.data.toList))
    (hK : ∀ w', MapSB w' P k e b (n + 1) (fun z => if z = y.data.toList then c else S z) → w.grownBy w' (some b) → wpList P ops Q rest (a.put o.dst undef) w') : wpList P ops Q (o :: rest) a w := by
  obtain ⟨D, h1, h2⟩ := hown
  refine wpList_mapUpdate_own w hg m x v t hop k e K ht _ b n D hm h1 (by unfold maxLen; omega) _ _ _ hx hv hkey (.lit (.bool c)) [] (plainElem_bool he c) fun w' r1 r2 => hK w' ⟨_, r1, fun z => ?_⟩ r2
  by_cases hzk : z = y.data.toList
  · show _ = DataW.lit (Lit.bool (if z = y.data.toList then c else S z))
    rw [if_pos hzk, hzk]
    exact atKey_put_same h1.isMap (by simp [WideAt.IsKeyLit]) _ _
  · show _ = DataW.lit (Lit.bool (if z = y.data.toList then c else S z))
    rw [if_neg hzk, atKey_put_other (by simp; exact hzk)]
    exact h2 z
end Go.Proofs.YtgodgfnfaiiohaaGreatDoor

/- Contracts of package state: Key, value, Check. -/
namespace Go.Proofs.YtgodgfnfaiiohaaGreatDoor
open Go.ChangeShapes Go.WideShapes Go.ChangeAt Go.RowKit Go.Maps
set_option maxRecDepth 20000
/-- A byte of a key. -/
def kcOk (c : Nat) : Bool := decide ((97 ≤ c ∧ c ≤ 122) ∨ (48 ≤ c ∧ c ≤ 57))
def kPre (s : ByteArray) : Nat → Bool
  | 0 => true
  | k + 1 => kPre s k && kcOk (byt s k)
def keyB (s : ByteArray) : Bool := decide (1 ≤ s.size ∧ s.size ≤ 16) && kPre s s.size
/-- A byte of a value. -/
def vcOk (c : Nat) : Bool := decide (33 ≤ c ∧ c ≤ 126 ∧ c ≠ 44 ∧ c ≠ 61 ∧ c ≠ 59)
def vPre (s : ByteArray) : Nat → Bool
  | 0 => true
  | k + 1 => vPre s k && vcOk (byt s k)
def valB (s : ByteArray) : Bool := decide (1 ≤ s.size) && vPre s s.size
theorem kPre_at (s : ByteArray) : ∀ n k, k < n → kPre s n = true → kcOk (byt s k) = true
  | 0, k, hk, _ => by omega
  | n + 1, k, hk, h => by
    simp only [kPre, Bool.and_eq_true] at h
    by_cases e : k = n
    · rw [e]; exact h.2
    · exact kPre_at s n k (by omega) h.1
theorem vPre_at (s : ByteArray) : ∀ n k, k < n → vPre s n = true → vcOk (byt s k) = true
  | 0, k, hk, _ => by omega
  | n + 1, k, hk, h => by
    simp only [vPre, Bool.and_eq_true] at h
    by_cases e : k = n
    · rw [e]; exact h.2
    · exact vPre_at s n k (by omega) h.1
set_option maxHeartbeats 2000000 in
theorem key_c (s : ByteArray) (w : World) :
    Calls Tryz.prog 135 #[.string s] w fun e w' => e = .returned (.bool (keyB s)) ∧ w = w' := by
  have KB := hidp (show keyB s = (decide (1 ≤ s.size ∧ s.size ≤ 16) && kPre s s.size) from rfl)
  by_cases h0 : s.size = 0
  · have R := hidp (show keyB s = false by rw [KB.out, decide_eq_false (by omega)]; rfl)
    obtain ⟨e0, e1⟩ := eq_empty1 s h0
    go_enter Tryz.func135, Tryz.ntmps135
    go_wp2_with fail
    go_ret
    exact ⟨ret_bool R.out.symm, rfl⟩
  · obtain ⟨e0, e1⟩ := eq_empty0 s h0
    by_cases h16 : 16 < s.size
    · have R := hidp (show keyB s = false by rw [KB.out, decide_eq_false (by omega)]; rfl)
      have h16' : (16 : Int) < (s.size : Int) := by omega
      clear h0 h16
      go_enter Tryz.func135, Tryz.ntmps135
      go_wp2_with fail
      go_ret
      exact ⟨ret_bool R.out.symm, rfl⟩
    · have h16' : ¬ (16 : Int) < (s.size : Int) := by omega
      have R := hidp (show keyB s = kPre s s.size by rw [KB.out, decide_eq_true (by omega)]; rfl)
      have IX := hidp (index_byt s)
      have ST := hidp (fun k => show kPre s (k + 1) = (kPre s k && kcOk (byt s k)) from rfl)
      have AT := hidp (fun k (hk : k < s.size) (h : kcOk (byt s k) = false) => show kPre s s.size = false by
        cases hp : kPre s s.size with
        | false => rfl
        | true => rw [kPre_at s s.size k hk hp] at h; cases h)
      have hsz : s.size ≤ 16 := by omega
      clear h0 h16
      go_enter Tryz.func135, Tryz.ntmps135
      go_wp2_with fail
      go_loop [14] (fun i => ∃ k : Nat, k ≤ s.size ∧ i = .int .i64 k ∧ Hid (kPre s k = true)) (fun i => s.size - (intOf i).toNat)
      case atStart => exact ⟨0, by omega, rfl, rfl⟩
      case round =>
        obtain ⟨k, hk, rfl, ok⟩ := hrel
        by_cases hks : k < s.size
        · have q := IX.out k hks
          have S1 := hidp (ST.out k)
          have A1 := hidp (AT.out k hks)
          have hb := byt_lt s k
          generalize byt s k = c at *
          by_cases h1 : 97 ≤ c ∧ c ≤ 122
          · have S2 := hidp (show kPre s (k + 1) = true by rw [S1.out, ok.out, show kcOk c = true from decide_eq_true (.inl h1)]; rfl)
            obtain ⟨h1, h2⟩ := h1
            go_wp2_with fail
            go_round
            case rel => exact ⟨k + 1, by omega, by go_num, S2⟩
            case measure => simp [intOf]; omega
          · by_cases h2 : 48 ≤ c ∧ c ≤ 57
            · have S2 := hidp (show kPre s (k + 1) = true by rw [S1.out, ok.out, show kcOk c = true from decide_eq_true (.inr h2)]; rfl)
              obtain ⟨h2, h3⟩ := h2
              have g1 : ¬ (97 : Int) ≤ (c : Int) := by omega
              have g5 : decide ((c : Int) ≤ 57) = true := decide_eq_true (by omega)
              clear h1
              go_wp2_with fail
              go_round
              case rel => exact ⟨k + 1, by omega, by go_num, S2⟩
              case measure => simp [intOf]; omega
            · have S2 := hidp (show keyB s = false by rw [R.out]; exact A1.out (decide_eq_false (fun h => h.elim h1 h2)))
              by_cases g1 : 97 ≤ c
              · have g2 : ¬ (c : Int) ≤ 122 := by omega
                have g3 : 48 ≤ c := by omega
                have g4 : ¬ (c : Int) ≤ 57 := by omega
                clear h1 h2
                go_wp2_with fail
                go_ret
                exact ⟨ret_bool S2.out.symm, rfl⟩
              · have g1' : ¬ (97 : Int) ≤ (c : Int) := by omega
                by_cases g3 : 48 ≤ c
                · have g4 : ¬ (c : Int) ≤ 57 := by omega
                  clear h1 h2 g1
                  go_wp2_with fail
                  go_ret
                  exact ⟨ret_bool S2.out.symm, rfl⟩
                · have g3' : ¬ (48 : Int) ≤ (c : Int) := by omega
                  clear h1 h2 g1 g3
                  go_wp2_with fail
                  go_ret
                  exact ⟨ret_bool S2.out.symm, rfl⟩
        · obtain rfl : k = s.size := by omega
          go_wp2_with fail
          go_ret
          exact ⟨ret_bool (by rw [R.out, ok.out]), rfl⟩
set_option maxHeartbeats 2000000 in
theorem value_c (s : ByteArray) (w : World) (hm : s.size ≤ 9223372036854775807) :
    Calls Tryz.prog 136 #[.string s] w fun e w' => e = .returned (.bool (valB s)) ∧ w = w' := by
  have VB := hidp (show valB s = (decide (1 ≤ s.size) && vPre s s.size) from rfl)
  have IX := hidp (index_byt s)
  have ST := hidp (fun k => show vPre s (k + 1) = (vPre s k && vcOk (byt s k)) from rfl)
  have AT := hidp (fun k (hk : k < s.size) (h : vcOk (byt s k) = false) => show valB s = false by
    rw [VB.out]
    cases hp : vPre s s.size with
    | false => simp
    | true => rw [vPre_at s s.size k hk hp] at h; cases h)
  have EM := hidp (eq_empty0 s)
  have EN := hidp (eq_empty1 s)
  go_enter Tryz.func136, Tryz.ntmps136
  go_wp2_with fail
  go_loop [7] (fun i => ∃ k : Nat, k ≤ s.size ∧ i = .int .i64 k ∧ Hid (vPre s k = true)) (fun i => s.size - (intOf i).toNat)
  case atStart => exact ⟨0, by omega, rfl, rfl⟩
  case round =>
    obtain ⟨k, hk, rfl, ok⟩ := hrel
    by_cases hks : k < s.size
    · have q := IX.out k hks
      have S1 := hidp (ST.out k)
      have A1 := hidp (AT.out k hks)
      have hb := byt_lt s k
      generalize byt s k = c at *
      have go : vcOk c = true → Hid (vPre s (k + 1) = true) := fun h => hidp (by rw [S1.out, ok.out, h]; rfl)
      have no : vcOk c = false → Hid (valB s = false) := fun h => hidp (A1.out h)
      by_cases h1 : c < 33
      · have S2 := no (decide_eq_false (by omega))
        clear go no
        go_wp2_with fail
        go_ret
        exact ⟨ret_bool S2.out.symm, rfl⟩
      · have g1 : ¬ (c : Int) < 33 := by omega
        by_cases h2 : 126 < c
        · have S2 := no (decide_eq_false (by omega))
          clear go no h1
          go_wp2_with fail
          go_ret
          exact ⟨ret_bool S2.out.symm, rfl⟩
        · have g2 : ¬ (126 : Int) < (c : Int) := by omega
          by_cases h3 : c = 44
          · have S2 := no (decide_eq_false (by omega))
            have e3 : ((c : Int) == 44) = true := by rw [h3]; rfl
            clear go no h1 h2 h3
            go_wp2_with fail
            go_ret
            exact ⟨ret_bool S2.out.symm, rfl⟩
          · have e3 : ((c : Int) == 44) = false := by rw [beq_eq_false_iff_ne]; omega
            by_cases h4 : c = 61
            · have S2 := no (decide_eq_false (by omega))
              have e4 : ((c : Int) == 61) = true := by rw [h4]; rfl
              clear go no h1 h2 h3 h4
              go_wp2_with fail
              go_ret
              exact ⟨ret_bool S2.out.symm, rfl⟩
            · have e4 : ((c : Int) == 61) = false := by rw [beq_eq_false_iff_ne]; omega
              by_cases h5 : c = 59
              · have S2 := no (decide_eq_false (by omega))
                have e5 : ((c : Int) == 59) = true := by rw [h5]; rfl
                clear go no h1 h2 h3 h4 h5
                go_wp2_with fail
                go_ret
                exact ⟨ret_bool S2.out.symm, rfl⟩
              · have e5 : ((c : Int) == 59) = false := by rw [beq_eq_false_iff_ne]; omega
                have S2 := go (decide_eq_true (by omega))
                clear go no h1 h2 h3 h4 h5
                go_wp2_with fail
                go_round
                case rel => exact ⟨k + 1, by omega, by go_num, S2⟩
                case measure => simp [intOf]; omega
    · obtain rfl : k = s.size := by omega
      by_cases h0 : s.size = 0
      · obtain ⟨e0, e1⟩ := EN.out h0
        have R := hidp (show valB s = false by rw [VB.out, decide_eq_false (by omega)]; rfl)
        clear h0
        go_wp2_with fail
        go_ret
        exact ⟨ret_bool R.out.symm, rfl⟩
      · obtain ⟨e0, e1⟩ := EM.out h0
        have R := hidp (show valB s = true by rw [VB.out, decide_eq_true (by omega), ok.out]; rfl)
        clear h0
        go_wp2_with fail
        go_ret
        exact ⟨ret_bool R.out.symm, rfl⟩
/-- Is it among the keys of the first k? -/
def keyS (L : List (ByteArray × ByteArray)) : Nat → List UInt8 → Bool
  | 0, _ => false
  | k + 1, z => if z = (pk L k).data.toList then true else keyS L k z
def chk1 (L : List (ByteArray × ByteArray)) (k : Nat) : Int := if (keyB (pk L k) && valB (pv L k)) = true then (if keyS L k (pk L k).data.toList = true then 5 else 0) else 3
def chkF (L : List (ByteArray × ByteArray)) : Nat → Int
  | 0 => 0
  | k + 1 => if chkF L k = 0 then chk1 L k else chkF L k
/-- What Check tells. -/
def chkE (L : List (ByteArray × ByteArray)) : Int := if 40 < L.length then 2 else chkF L L.length
theorem chkF_stop (L : List (ByteArray × ByteArray)) (k : Nat) (e : Int) (h0 : chkF L k = 0) (he : chk1 L k = e) (hne : e ≠ 0) : ∀ d, chkF L (k + 1 + d) = e
  | 0 => by simp only [Nat.add_zero, chkF]; rw [if_pos h0, he]
  | d + 1 => by
    rw [show k + 1 + (d + 1) = (k + 1 + d) + 1 by omega]
    simp only [chkF]
    rw [chkF_stop L k e h0 he hne d, if_neg hne]
theorem chkE_stop (L : List (ByteArray × ByteArray)) (n k : Nat) (hn : L.length = n) (h40 : n ≤ 40) (hk : k < n) (e : Int) (h0 : chkF L k = 0) (he : chk1 L k = e) (hne : e ≠ 0) : chkE L = e := by
  unfold chkE
  rw [if_neg (by omega)]
  have := chkF_stop L k e h0 he hne (n - (k + 1))
  rw [show k + 1 + (n - (k + 1)) = n by omega] at this
  rw [hn]; exact this
theorem run_zeroB (w : World) : (zeroValue 4).run Tryz.prog w = .ok (.bool false) w := by kernel_rfl
theorem keyS_key (s : ByteArray) (h : s.size ≤ 9223372036854775807) : keyOf Tryz.prog 9 (.string s) = some (.string s.data.toList) := Go.WideMaps.keyOf_string_mk Tryz.underlying9 (by unfold maxLen; exact h)
set_option maxHeartbeats 4000000 in
theorem stcheck_c (a : Option Addr) (n c : Nat) (L : List (ByteArray × ByteArray)) (w : World) (h : PairsAt w a n c L) :
    Calls Tryz.prog 95 #[.slice a n c] w fun e w' => e = .returned (.int .i64 (chkE L)) ∧ Below w.heap.size w w' := by
  have mm := h.max
  have ee := h.le
  have LN := hidp h.len
  by_cases h40 : 40 < n
  · have R := hidp (show chkE L = 2 by unfold chkE; rw [if_pos (by rw [LN.out]; exact h40)])
    have h40' : (40 : Int) < (n : Int) := by omega
    clear h h40
    go_enter Tryz.func95, Tryz.ntmps95
    go_wp2_with fail
    go_ret
    exact ⟨ret_int R.out.symm, Below.refl _ _⟩
  · have h40' : ¬ (40 : Int) < (n : Int) := by omega
    have hn : n ≤ 40 := by omega
    obtain ⟨b, o, hz, hx⟩ := h.split
    have hz' : Hid (n = 0) ∨ a = some ⟨b, o, none⟩ := hz.imp_left hidp
    have HX := hidp hx
    have SZ := hidp (fun k (hk : k < n) => h.sz _ (pmem L k (by rw [LN.out]; exact hk)))
    have STOP := hidp (fun k (hk : k < n) => chkE_stop L n k LN.out hn hk)
    have FIN := hidp (fun (e : chkF L n = 0) => show chkE L = 0 by unfold chkE; rw [LN.out, if_neg (by omega)]; exact e)
    have KEYC := hidp key_c
    have VALC := hidp value_c
    have C1 := hidp (fun k => show chk1 L k = if (keyB (pk L k) && valB (pv L k)) = true then (if keyS L k (pk L k).data.toList = true then 5 else 0) else 3 from rfl)
    have CS := hidp (fun k (h : chkF L k = 0) => show chkF L (k + 1) = chk1 L k by simp only [chkF]; rw [if_pos h])
    have KS := hidp (fun k => show (fun z => if z = (pk L k).data.toList then true else keyS L k z) = keyS L (k + 1) from rfl)
    have hmm := @run_makeMap Tryz.prog
    have M0 := hidp (show MapSB (w.alloc (.map #[] 0)) Tryz.prog 9 4 w.heap.size 0 (keyS L 0) from MapSB.made w Tryz.prog 9 4)
    clear h hz hx h40
    go_enter Tryz.func95, Tryz.ntmps95
    go_wp2_with fail
    go_loopg [12] n (fun gg i wr => ∃ k : Nat, k ≤ n ∧ n - k ≤ gg ∧ i = .int .i64 k ∧ Hid (chkF L k = 0) ∧ Hid (MapSB wr Tryz.prog 9 4 w.heap.size k (keyS L k)) ∧ Below w.heap.size w wr)
    case atStart => exact ⟨0, by omega, by omega, rfl, rfl, M0, bal (Below.refl _ _) _⟩
    case round =>
      clear M0
      obtain ⟨k, hk, hgg, rfl, c0, MP, hbl⟩ := hrel
      by_cases hlt : k < n
      · obtain rfl : a = some ⟨b, o, none⟩ := hz'.resolve_left (fun e => by have := e.out; omega)
        obtain ⟨hbs, x1, x2⟩ := HX.out k hlt
        have q0 := carry_cell ⟨hbs, x1⟩ hbl
        have q1 := carry_cell ⟨hbs, x2⟩ hbl
        obtain ⟨z1, z2⟩ := SZ.out k hlt
        have ST := hidp (STOP.out k hlt)
        have E1 := hidp (C1.out k)
        have E2 := hidp (CS.out k c0.out)
        have E3 := hidp (KS.out k)
        have HBL := hidp hbl
        generalize pk L k = s at *
        generalize pv L k = v at *
        have hb2 : Below w.heap.size w (wr.alloc (.cells #[.string s, .string v] 128)) := bal hbl _
        clear x1 x2
        cases hks : keyB s with
        | false =>
          have K1 := hidp (KEYC.out s)
          rw [hks] at K1
          have R := hidp (ST.out 3 c0.out (by rw [E1.out, hks]; rfl) (by omega))
          clear hks
          go_wp2_with fail
          refine (K1.out _).mono ?_
          rintro e w' ⟨rfl, rfl⟩
          go_wp2_with fail
          go_ret
          exact ⟨ret_int R.out.symm, hb2⟩
        | true =>
          have K1 := hidp (KEYC.out s)
          rw [hks] at K1
          cases hvs : valB v with
          | false =>
            have K2 := hidp (fun W => VALC.out v W z2)
            rw [hvs] at K2
            have R := hidp (ST.out 3 c0.out (by rw [E1.out, hks, hvs]; rfl) (by omega))
            clear hks hvs
            go_wp2_with fail
            refine (K1.out _).mono ?_
            rintro e w' ⟨rfl, rfl⟩
            go_wp2_with fail
            refine (K2.out _).mono ?_
            rintro e w' ⟨rfl, rfl⟩
            go_wp2_with fail
            go_ret
            exact ⟨ret_int R.out.symm, hb2⟩
          | true =>
            have K2 := hidp (fun W => VALC.out v W z2)
            rw [hvs] at K2
            have hM := (MP.out.alloc (.cells #[.string s, .string v] 128)).run (t := 157) (string_keyed Tryz.underlying9) Tryz.underlying157 Tryz.underlying4 (run_zeroB _) s (keyS_key s z1)
            have MA := hidp (MP.out.alloc (.cells #[.string s, .string v] 128))
            have rM : w.heap.size < wr.heap.size := MP.out.lt
            have n1 : ¬ w.heap.size = wr.heap.size := by omega
            cases hkk : keyS L k s.data.toList with
            | true =>
              rw [hkk] at hM
              have R := hidp (ST.out 5 c0.out (by rw [E1.out, hks, hvs, hkk]; rfl) (by omega))
              clear hks hvs hkk
              go_wp2_with fail
              refine (K1.out _).mono ?_
              rintro e w' ⟨rfl, rfl⟩
              go_wp2_with fail
              refine (K2.out _).mono ?_
              rintro e w' ⟨rfl, rfl⟩
              go_wp2_with fail
              go_ret
              exact ⟨ret_int R.out.symm, hb2⟩
            | false =>
              rw [hkk] at hM
              have R := hidp (show chkF L (k + 1) = 0 by rw [E2.out, E1.out, hks, hvs, hkk]; rfl)
              clear hks hvs hkk
              go_wp2_with fail
              refine (K1.out _).mono ?_
              rintro e w' ⟨rfl, rfl⟩
              go_wp2_with fail
              refine (K2.out _).mono ?_
              rintro e w' ⟨rfl, rfl⟩
              go_wp2_with (at_mapUpdate; refine wpList_mapUpdate_boolS rfl (.tmp 30) (.tmp 32) (.const (.bool true)) 157 rfl 9 4 (string_keyed Tryz.underlying9) Tryz.underlying157 Tryz.underlying4 w.heap.size k (keyS L k) rfl MA.out (by omega) s true rfl rfl (keyS_key s z1) ?_; intro w1 hm1 hg1)
              rw [E3.out] at hm1
              have hb3 : Below w.heap.size w w1 := hb2.grown hg1 hb2.size (fun g e => by cases e; exact Nat.le_refl _)
              go_roundg (n - (k + 1))
              case measure => omega
              case rel => exact ⟨k + 1, by omega, by omega, by go_num, R, hidp hm1, hb3⟩
      · obtain rfl : k = n := by omega
        have R := hidp (FIN.out c0.out)
        go_wp2_with fail
        go_ret
        exact ⟨ret_int R.out.symm, hbl⟩
end Go.Proofs.YtgodgfnfaiiohaaGreatDoor
