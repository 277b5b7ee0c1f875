/- Merged: Step, Signs. -/
import Derived.Test.YtfhmckmglkjbeaaMem
import Derived.Deep.RegionLaw
import Derived.Test.YtfhmckmglkjbeaaMgFirst
/- 'append' of one new element to a slice of the call's own, as one step of a region that draws its order. -/
namespace Go.Proofs.Ytfhmckmglkjbeaa
open Go.ChangeShapes Go.WideShapes Go.ChangeAt Go.RowKit
set_option maxRecDepth 20000

theorem step_append_new {P : Program} {ops : Array Oper} {o : Oper} {a : Act} {W : World} {K : Act → World → Prop} {Q : Exit → Act → World → Prop} {E : Prop}
    (w : World) {news : List Value} {T : TypeId} (hW : W.heap = (w.alloc (.cells news.toArray T)).heap ∧ W.os = w.os ∧ W.tape = w.tape ∧ W.output = w.output)
    (hg : o.guard = none) (s x : Operand) (t : TypeId) (hop : o.op = Op.call { callee := Callee.builtin Builtin.append, args := #[s, x], argTypes := #[t, t] })
    (base : Nat) (e : TypeId) (z : Value) (size bytes : Nat) (hinfo : (P.info? e).map (fun i => (i.zero, i.size, i.bytes)) = some (some z, size, bytes)) (hzs : z.cells.size = size) (hsz : 0 < size) (ht : P.underlying t = some (.slice e))
    (v : Value) (n : Nat) (xs : List Value) (hs : a.eval s = v) (hown : w.ownsRow base e size v n xs) (hl : news.length = size) (h1 : ∀ u ∈ news, u.oneCell' = true)
    (hx : a.eval x = .slice (some ⟨w.heap.size, 0, none⟩) 1 1) (hn : n < 1000000000) (hby : bytes ≤ 100000) (hbase : base ≤ w.heap.size)
    (hK : ∀ v' w', w'.ownsRow base e size v' (n + 1) (xs ++ news) → w.grownBy w' v.ownBlock → (v'.ownBlock = v.ownBlock ∨ ∃ k, v'.ownBlock = some k ∧ w.heap.size ≤ k) → K (a.put o.dst v') w') :
    if Region.wanted o (yielded ops a.tmps) = true then Oper.wp P o a W K Q else E := by
  have hw : Region.wanted o (yielded ops a.tmps) = true := by simp [Region.wanted, hg]
  rw [if_pos hw]
  obtain ⟨i, hi, hz, hsize, hbytes⟩ := info_parts hinfo
  have hb2 : (n + 1) * bytes ≤ 140737488355328 := Nat.le_trans (Nat.mul_le_mul (show n + 1 ≤ 1000000000 by omega) hby) (by omega)
  obtain ⟨hWh, hWo, hWt, hWu⟩ := hW
  have hsz2 : W.heap.size = w.heap.size + 1 := by rw [hWh]; simp
  have hownA := hown.alloc (.cells news.toArray T)
  have hownW : W.ownsRow base e size v n xs := by
    unfold World.ownsRow at hownA ⊢
    rw [hWh]; exact hownA
  obtain ⟨v', w', hr, h2, h3, h4, h5⟩ := run_append_own_at (P := P) W base t o.type e i z size bytes ht hi hz hsize hbytes hzs hsz v n xs hownW ⟨w.heap.size, 0, none⟩ 1 1 news (by simpa using hl) (by
    intro j u hu
    have hj : j < news.length := (List.getElem?_eq_some_iff.1 hu).1
    have hh : W.heap[w.heap.size]? = some (.cells news.toArray T) := by rw [hWh]; exact heap_alloc_new w _
    rw [addr_add0]
    unfold World.cell?
    rw [hh]
    simpa using hu) h1 (by unfold maxLen; omega) hb2 (by omega)
  unfold Oper.wp
  simp only [execOp, hop, resolve, invoke, builtin, Sem.run_bind, Sem.run_pure, Result.andThen_ok, List.map_toArray, List.map_cons, List.map_nil, hs, hx, hr]
  refine hK _ _ h2 ⟨h3.os.trans hWo, h3.tape.trans hWt, h3.output.trans hWu, ?_, fun k hk hne => ?_⟩ ?_
  · have := h3.size
    omega
  · have e1 := h3.block k (by omega) hne
    rw [e1, hWh]
    exact Below.heap_alloc w _ _ hk
  · rcases h5 with h5 | h5
    · exact .inl h5
    · exact .inr ⟨_, h5, by omega⟩
end Go.Proofs.Ytfhmckmglkjbeaa

/- Contracts of alike.Sign and alike.Same. -/
namespace Go.Proofs.Ytfhmckmglkjbeaa
open Go.ChangeShapes Go.WideShapes Go.ChangeAt Go.RowKit
set_option maxRecDepth 20000
/-- Orders in memory. -/
structure OrdsAt (W : World) (a : Option Addr) (k cap n : Nat) (O : Nat → List Int) : Prop where
  le : k ≤ cap
  max : cap ≤ 9223372036854775807
  cells : 0 < k → ∃ b off, a = some ⟨b, off, none⟩ ∧ b < W.heap.size ∧ ∀ i, i < k → ∃ ai ci, W.cell? ⟨b, off + i, none⟩ = some (.slice ai n ci) ∧ IntsAt W ai n ci (O i)
theorem OrdsAt.below {W W' : World} {a : Option Addr} {k cap n : Nat} {O : Nat → List Int} (h : OrdsAt W a k cap n O) (hb : Below W.heap.size W W') : OrdsAt W' a k cap n O := by
  refine ⟨h.le, h.max, fun hn => ?_⟩
  obtain ⟨b, off, rfl, hlt, hc⟩ := h.cells hn
  refine ⟨b, off, rfl, Nat.lt_of_lt_of_le hlt hb.size, fun i hi => ?_⟩
  obtain ⟨ai, ci, h1, h2⟩ := hc i hi
  exact ⟨ai, ci, (hb.cell (p := ⟨b, off + i, none⟩) hlt).trans h1, h2.below hb⟩
set_option maxHeartbeats 4000000 in
theorem sign_c (a : Option Addr) (k cap n : Nat) (O : Nat → List Int) (a' : Option Addr) (L c' : Nat) (ys : List Int) (w : World) (h : OrdsAt w a k cap n O) (h' : IntsAt w a' L c' ys) (hk : k ≤ 40) (hO : ∀ i, i < k → PermOk (O i) n) (hy : SetOk ys L n) (hL : 1 ≤ L) (hn : n ≤ 12) :
    Calls Try.prog 15 #[.slice a k cap, .slice a' L c'] w fun e w' => ∃ v R, e = .returned (.tuple #[v, .int .i64 0]) ∧ R.length = k ∧ Hid (∀ i, i < k → IsFirst (O i) ys L (gi R i)) ∧ w'.ownsRow w.heap.size 3 1 v k (R.map (Value.int .i64)) ∧ Below w.heap.size w w' := by
  obtain ⟨b, o, hz, hx⟩ : ∃ b o, (k = 0 ∨ a = some ⟨b, o, none⟩) ∧ ∀ i, i < k → b < w.heap.size ∧ ∃ ai ci, w.cell? ⟨b, o + i, none⟩ = some (.slice ai n ci) ∧ IntsAt w ai n ci (O i) := by
    rcases Nat.eq_zero_or_pos k with h0 | h0
    · exact ⟨0, 0, .inl h0, fun i hi => by omega⟩
    · obtain ⟨b, off, ha, hb, hc⟩ := h.cells h0
      exact ⟨b, off, .inr ha, fun i hi => ⟨hb, hc i hi⟩⟩
  have hz' : Hid (k = 0) ∨ a = some ⟨b, o, none⟩ := hz.imp_left hidp
  have HX := hidp hx
  have mm := h.max
  have ee := h.le
  have HY := hidp h'
  have FC := hidp (fun (ai : Option Addr) ci (xs : List Int) W (hI : IntsAt W ai n ci xs) (hA : IntsAt W a' L c' ys) (hp : PermOk xs n) => first_c ai a' n ci L c' xs ys W hI hA hp hy hL)
  have OK := hidp hO
  have YB := hidp (fun i (hi : i < L) => hy.2 i hi)
  clear hx hz h h' hO hy
  go_enter Try.func15, Try.ntmps15
  go_wp2_with fail
  go_loopw [6, 16] (fun v i wr => ∃ (t : Nat) (R : List Int), t ≤ k ∧ i = .int .i64 t ∧ Hid (R.length = t) ∧ Hid (∀ j, j < t → IsFirst (O j) ys L (gi R j)) ∧ wr.ownsRow w.heap.size 3 1 v t (R.map (Value.int .i64)) ∧ Below w.heap.size w wr) (fun _ i _ => k - (intOf i).toNat)
  case atStart => exact ⟨0, [], by omega, rfl, hidp rfl, hidp (fun j hj => by omega), World.ownsRow_nil _ _ _ _, Below.refl _ _⟩
  case round =>
    obtain ⟨t, R, ht, rfl, RL, RF, hv, hbl⟩ := hrel
    by_cases hlt : t < k
    · obtain rfl : a = some ⟨b, o, none⟩ := hz'.resolve_left (fun e => by have := e.out; omega)
      obtain ⟨hbs, ai, ci, hcell, hI⟩ := HX.out t hlt
      have q := carry_cell ⟨hbs, hcell⟩ hbl
      have F1 := hidp (FC.out ai ci (O t) wr (hI.below hbl) (HY.out.below hbl) (OK.out t hlt))
      clear hcell hI
      go_wp2_with fail
      refine F1.out.mono ?_
      rintro e w1 ⟨B, rfl, hB, hb1⟩
      have hv1 : w1.ownsRow w.heap.size 3 1 u6 t (R.map (Value.int .i64)) := by
        rcases hv.2 with ⟨hn0, h0⟩ | ⟨g, cp, cur, he, hg, hh, r⟩
        · exact ⟨hv.1, .inl ⟨hn0, h0⟩⟩
        · exact ⟨hv.1, .inr ⟨g, cp, cur, he, hg, (hb1.block g (Array.getElem?_eq_some_iff.1 hh).1).trans hh, r⟩⟩
      have bl1 := bstep hbl hb1
      have RL2 := hidp (show (R ++ [B]).length = t + 1 by rw [List.length_append, RL.out]; rfl)
      have RF2 := hidp (fun j (hj : j < t + 1) => show IsFirst (O j) ys L (gi (R ++ [B]) j) by
        by_cases e : j = t
        · subst e
          have : gi (R ++ [B]) j = B := by
            unfold gi
            rw [List.getD_eq_getElem?_getD, List.getElem?_append_right (by rw [RL.out]; omega), RL.out, Nat.sub_self]; rfl
          rw [this]
          exact hB.out
        · have : gi (R ++ [B]) j = gi R j := by
            unfold gi
            rw [List.getD_eq_getElem?_getD, List.getD_eq_getElem?_getD, List.getElem?_append_left (by rw [RL.out]; omega)]
          rw [this]
          exact RF.out j (by omega))
      have hgs := bl1.size
      clear hb1 hv hbl q F1
      go_wp2_with (at_builtin; refine wpList_append_new rfl (.tmp 29) (.tmp 31) 22 rfl w.heap.size 3 _ 1 8 info_int rfl (by decide) Try.underlying22 u6 t _ rfl hv1 rfl (one_int _ _) rfl rfl (by omega) (by decide) hgs ?_; intro v2 w2 nv g2 d2)
      go_roundw
      case measure => simp [intOf]; omega
      case rel => exact ⟨t + 1, R ++ [B], by omega, by go_num, RL2, RF2, by rw [List.map_append]; exact nv, append_step hv1 bl1 (Nat.le_refl _) g2⟩
    · obtain rfl : t = k := by omega
      go_wp2_with fail
      go_ret2
      exact ⟨_, R, rfl, RL.out, RF, hv, hbl⟩
/-- How many places are the same. -/
def cntE (xs ys : List Int) : Nat → Nat
  | 0 => 0
  | k + 1 => if gi xs k = gi ys k then cntE xs ys k + 1 else cntE xs ys k
theorem cntE_le (xs ys : List Int) : ∀ k, cntE xs ys k ≤ k
  | 0 => Nat.le_refl _
  | k + 1 => by have := cntE_le xs ys k; simp only [cntE]; split <;> omega
theorem cntE_self (xs : List Int) : ∀ k, cntE xs xs k = k
  | 0 => rfl
  | k + 1 => by simp only [cntE]; rw [cntE_self xs k]; simp
theorem cntE_comm (xs ys : List Int) : ∀ k, cntE ys xs k = cntE xs ys k
  | 0 => rfl
  | k + 1 => by
    simp only [cntE]
    rw [cntE_comm xs ys k]
    by_cases e : gi xs k = gi ys k
    · rw [if_pos e, if_pos e.symm]
    · rw [if_neg e, if_neg (fun h => e h.symm)]
theorem cntE_zero (xs ys : List Int) : ∀ k, (∀ i, i < k → gi xs i ≠ gi ys i) → cntE xs ys k = 0
  | 0, _ => rfl
  | k + 1, h => by simp only [cntE]; rw [if_neg (h k (by omega)), cntE_zero xs ys k (fun i hi => h i (by omega))]
end Go.Proofs.Ytfhmckmglkjbeaa
