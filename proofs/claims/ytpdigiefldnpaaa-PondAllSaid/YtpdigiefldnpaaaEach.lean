/- Contract of the laws' own each: what holds step by step for the function that is handed in holds behind all ways. -/
import Derived.Test.YtpdigiefldnpaaaKit
import Derived.Test.YtpdigiefldnpaaaOdoMath
import Derived.Deep.LoopGhost
import Derived.Shelf.Abstract
import Derived.Deep.QuietTactic
import Derived.BigQuiet
import Derived.IntWalk
namespace Go.Proofs.Ytpdigiefldnpaaa
open Go.ChangeShapes Go.WideShapes Go.ChangeAt Go.RowKit
set_option maxRecDepth 20000
open OdoMath

/-- The bounds as natural numbers. -/
def bn (bs : List Int) (j : Nat) : Nat := (gi bs j).toNat
/-- The row of a way. -/
def way (bs : List Int) (n t : Nat) : List Int := tab (fun j => (dgt (bn bs) t j : Int)) n
/-- On the road to the next way: the first i wheels stand at 0. -/
def onway (bs : List Int) (t i j : Nat) : Int := if j < i then 0 else (dgt (bn bs) t j : Int)

set_option maxRecDepth 100000 in
set_option maxHeartbeats 8000000 in
theorem each_c (G : Nat) (lb : Array Value) (eg : ∀ args w, (callFunc G args).run Try.prog w = .ok (.enter G args) w) (a : Option Addr) (n c : Nat) (bs : List Int) (w : World) (Inv : Nat → World → Prop)
    (hw : IntsAt w a n c bs) (hn : n ≤ 1000) (hb : ∀ j, j < n → 1 ≤ gi bs j ∧ gi bs j ≤ 1000)
    (hset : ∀ t W i v, Inv t W → Inv t (W.setCell ⟨w.heap.size, i, none⟩ v)) (hdrew : ∀ t W q, Inv t W → Inv t (W.drewN q)) (h0 : ∀ W, w.grownBy W none → Inv 0 W) (hbs : ∀ t W, Inv t W → IntsAt W a n c bs)
    (hstep : ∀ t W, t < prd (bn bs) n → Inv t W → w.heap.size < W.heap.size → IntsAt W (some ⟨w.heap.size, 0, none⟩) n n (way bs n t) →
      Calls Try.prog G (#[.slice (some ⟨w.heap.size, 0, none⟩) n n] ++ lb) W fun e W' => e = .returned (.bool true) ∧ Inv (t + 1) W' ∧ W'.heap[w.heap.size]? = W.heap[w.heap.size]? ∧ W.heap.size ≤ W'.heap.size) :
    Calls Try.prog 18 #[.slice a n c, .func (.func G) #[] lb] w fun e w' => e = .returned (.bool true) ∧ Inv (prd (bn bs) n) w' := by
  obtain ⟨ib, hib, hz0, hz1, hz2⟩ := info_parts info_int
  obtain ⟨b, o, hz, _⟩ := hw.split
  have hz' : Hid (n = 0) ∨ a = some ⟨b, o, none⟩ := hz.imp_left hidp
  have HB := hidp hb
  have mm := hw.max
  have ee := hw.le
  have hb1 : ∀ j, j < n → 1 ≤ bn bs j := fun j hj => by have := hb j hj; unfold bn; omega
  have hbc : ∀ j, j < n → ((bn bs j : Nat) : Int) = gi bs j := fun j hj => by have := hb j hj; unfold bn; omega
  have HB1 := hidp hb1
  have HBC := hidp hbc
  have HSET := hidp hset
  have HDREW := hidp hdrew
  have H0 := hidp h0
  have HBS := hidp hbs
  have HSTEP := hidp hstep
  have hpos := prd_pos (bn bs) n hb1
  clear hz hw hb hb1 hbc hset hdrew h0 hbs hstep
  go_enter Try.func18, Try.ntmps18
  go_wp2_with (at_make; refine wpList_make_full w rfl _ _ 22 rfl w.heap.size 3 ib (.int .i64 0) 1 Try.underlying22 hib hz0 hz1 .i64 .i64 n n n rfl rfl rfl rfl (by rw [hz2]; omega) (by unfold maxLen; omega) (Nat.le_refl _) ?_; intro wb how hgr)
  have I0 := hidp (H0.out wb hgr)
  have hgl : w.heap.size < wb.heap.size := (how.lt w.heap.size rfl).2
  have how0 : wb.ownsRow w.heap.size 3 1 (.slice (some ⟨w.heap.size, 0, none⟩) n n) n ((way bs n 0).map (Value.int .i64)) := by
    have e : (madeCells (Value.int .i64 0).cells (n * 1)).toList = (way bs n 0).map (Value.int .i64) := by
      show (madeCells #[Value.int .i64 0] (n * 1)).toList = _
      unfold way
      rw [made_tab, tab_map]
      exact tab_congr _ _ _ (fun i _ => by rw [dgt_zero]; rfl)
    rw [← e]; exact how
  clear how hgr H0
  generalize hgg : w.heap.size = g at *
  have HG := hidp hgg
  clear hgg
  generalize hPP : prd (bn bs) n = P at *
  have HP := hidp hPP
  clear hPP
  go_loopg [6] P (fun gg s6 wr => ∃ t : Nat, t < P ∧ P - t ≤ gg ∧ Hid (Inv t wr) ∧ wr.ownsRow g 3 1 (.slice (some ⟨g, 0, none⟩) n n) n ((way bs n t).map (Value.int .i64)) ∧ g < wr.heap.size)
  case atStart => exact ⟨0, hpos, by omega, I0, how0, hgl⟩
  case round =>
    obtain ⟨t, ht, hgg, HI, how, hgw⟩ := hrel
    obtain ⟨aw, cw, hve, hI⟩ := owns_ints how (fun x hx => by
      obtain ⟨i, hi, rfl⟩ := tab_mem _ _ _ hx
      have := dgt_lt (bn bs) t i (HB1.out i hi)
      have := (HB.out i hi).2
      have := HBC.out i hi
      omega)
    simp only [Value.slice.injEq] at hve
    obtain ⟨rfl, _, rfl⟩ := hve
    have hcall := HSTEP.out t wr ht HI.out hgw hI
    clear hI
    go_wp2_with (go_at_fn G; refine hcall.mono ?_; rintro e wc ⟨rfl, HI1, hheap, hsz⟩)
    have how1 := owns_heap how hheap
    have HI1 := hidp HI1
    have hgc : g < wc.heap.size := by omega
    have how2 : wc.ownsRow g 3 1 (.slice (some ⟨g, 0, none⟩) n n) n (tab (fun j => Value.int .i64 (onway bs t 0 j)) n) := by
      rw [tab_congr _ (fun j => Value.int .i64 (dgt (bn bs) t j : Int)) n (fun i _ => by unfold onway; rw [if_neg (by omega)])]
      unfold way at how1
      rw [tab_map] at how1
      exact how1
    clear how how1 hcall HI hheap hsz
    go_loopg [6] n (fun gg s6 wx => ∃ i : Nat, i ≤ n ∧ n - i ≤ gg ∧ s6 = .int .i64 i ∧ Hid (∀ j, j < i → dgt (bn bs) t j = bn bs j - 1) ∧ Hid (Inv (t + 1) wx) ∧ wx.ownsRow g 3 1 (.slice (some ⟨g, 0, none⟩) n n) n (tab (fun j => Value.int .i64 (onway bs t i j)) n) ∧ g < wx.heap.size)
    case atStart => exact ⟨0, by omega, by omega, rfl, hidp (fun j hj => by omega), HI1, how2, hgc⟩
    case round =>
      obtain ⟨i, hi, hgi, rfl, HA, HI2, hox, hgx⟩ := hrel
      by_cases hlt : i < n
      · obtain rfl : a = some ⟨b, o, none⟩ := hz'.resolve_left (fun e => by have := e.out; omega)
        have q1 := hox.cellAt i (by omega)
        rw [tab_get _ _ _ hlt, show onway bs t i i = (dgt (bn bs) t i : Int) by unfold onway; rw [if_neg (by omega)]] at q1
        have q2 := ints_cell (HBS.out _ _ HI2.out) i hlt
        have q3 := hox.frozenAt i
        have q4 := dgt_lt (bn bs) t i (HB1.out i hlt)
        have q5 := HBC.out i hlt
        have q6 := (HB.out i hlt).1
        have q7 := (HB.out i hlt).2
        have q8 : (dgt (bn bs) t i : Int) ≤ 1000 := by omega
        have hwr : IntKind.i64.wrap (gi bs i - 1) = gi bs i - 1 := IntWalk.i64_in _ (by omega)
        by_cases he : dgt (bn bs) t i = bn bs i - 1
        · have hB : ((dgt (bn bs) t i : Int) == gi bs i - 1) = true := by rw [beq_iff_eq]; omega
          have HE := hidp he
          have Q5 := hidp q5
          clear he q5
          go_wp2_with fail
          go_quiet (fail)
          go_wp2
          go_roundg (n - (i + 1))
          case measure => omega
          case rel =>
            refine ⟨i + 1, by omega, by omega, by go_num, hidp (fun j hj => ?_), hidp (HSET.out _ _ _ _ (HDREW.out _ _ _ HI2.out)), ?_, by simpa using hgx⟩
            · by_cases e : j = i
              · rw [e]; exact HE.out
              · exact HA.out j (by omega)
            · rw [tab_congr _ (fun j => if j = i then Value.int .i64 0 else Value.int .i64 (onway bs t i j)) n (fun j _ => by
                unfold onway
                by_cases e : j = i
                · rw [if_pos e, if_pos (by omega)]
                · rw [if_neg e]
                  by_cases e2 : j < i
                  · rw [if_pos e2, if_pos (by omega)]
                  · rw [if_neg e2, if_neg (by omega)])]
              exact own_store_tab hox i (.int .i64 0)
        · have hB : ((dgt (bn bs) t i : Int) == gi bs i - 1) = false := by rw [beq_eq_false_iff_ne]; omega
          have hne : ((i : Int) == (n : Int)) = false := by rw [beq_eq_false_iff_ne]; omega
          have HE := hidp he
          have Q5 := hidp q5
          clear he q5
          go_wp2_with fail
          go_quiet (fail)
          go_wp2
          go_roundg (P - (t + 1))
          case measure => omega
          case rel =>
            have hm := more (bn bs) t n i HB1.out hlt HA.out HE.out (by rw [HP.out]; exact ht)
            rw [HP.out] at hm
            refine ⟨t + 1, hm, by omega, hidp (HSET.out _ _ _ _ (HDREW.out _ _ _ HI2.out)), ?_, by simpa using hgx⟩
            unfold way
            rw [tab_map, tab_congr _ (fun j => if j = i then Value.int .i64 ((dgt (bn bs) t i : Int) + 1) else Value.int .i64 (onway bs t i j)) n (fun j hj => by
              by_cases e : j = i
              · subst e
                rw [if_pos rfl, dgt_stop (bn bs) t j (fun k hk => HB1.out k (by omega)) HA.out HE.out]; rfl
              · rw [if_neg e]
                unfold onway
                by_cases e2 : j < i
                · rw [if_pos e2, dgt_carry (bn bs) t i (fun k hk => HB1.out k (by omega)) HA.out j e2]; rfl
                · rw [if_neg e2, dgt_above (bn bs) t i (fun k hk => HB1.out k (by omega)) HA.out HE.out j (by omega)])]
            exact own_store_tab hox i (.int .i64 ((dgt (bn bs) t i : Int) + 1))
      · obtain rfl : i = n := by omega
        have hne : ((i : Int) == (i : Int)) = true := by simp
        have hL := last (bn bs) t i HB1.out HA.out (by rw [HP.out]; exact ht)
        rw [HP.out] at hL
        have HL := hidp hL
        clear hL
        go_wp2_with fail
        go_quiet (fail)
        go_wp2
        go_ret
        exact ⟨rfl, by rw [HP.out, ← HL.out]; exact HDREW.out _ _ _ HI2.out⟩
end Go.Proofs.Ytpdigiefldnpaaa
