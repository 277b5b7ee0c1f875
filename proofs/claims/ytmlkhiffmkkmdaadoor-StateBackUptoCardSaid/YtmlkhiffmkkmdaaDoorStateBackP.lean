/- StateBack, the second form's card: where what comes in is of bulk at most 1048576 the law returns true, and each argument reads behind the call as it read before. Conditions: that bulk (of greater texts joined no machine bears the sum); the row's two listed tables are tied to the program's text by the given tie. -/
import Derived.Test.YtmlkhiffmkkmdaaDoorStateBackW
import Derived.Test.YtmlkhiffmkkmdaaDoorCards
import Derived.Test.YtmlkhiffmkkmdaaDoorTie
import Derived.WalkKit
import Derived.ProofKit
import Derived.OpenShut
import Derived.ShutString
import Derived.ChangeOld
import Derived.Below
import Derived.Deep.DeepHandedRow
import Derived.Lib.LaidTab
namespace Go.Proofs.YtmlkhiffmkkmdaaDoor.stateBack
open Go.ChangeShapes Go.WideShapes Go.ChangeAt Go.RowKit
open Go.ChangeMaps (open_string shut_string)
open Go.Proofs.YtmlkhiffmkkmdaaDoor
set_option linter.unusedVariables false
theorem owned : ownKnob Tryd.prog.godebug = none := by kernel_rfl
theorem laidOut : laidOutB Tryd.prog = true := by kernel_rfl
theorem part_le {H : Type} {d : DataW H} {l : List (DataW H)} (h : d ∈ l) : Rows.uptoBulk d ≤ Rows.uptoBulkAll l := by
  induction l with
  | nil => cases h
  | cons x r ih =>
    simp only [Rows.uptoBulkAll]
    cases List.mem_cons.1 h with
    | inl e => subst e; omega
    | inr e => have := ih e; omega
section
variable {H : Type} {enc : TypeId × Value → H} {w : World} {base : Nat} {spare : Nat → Bool} {held : Bool}
/-- A slice of pairs, opened, with the bound on its texts. -/
theorem pairs_bulk {a : Option Addr} {len cap : Nat} {d : DataW H} {p : List MemPlace} {L : List (ByteArray × ByteArray)} (hP : PairsAt w a len cap L)
    (h : DataW.Trod enc Tryd.prog w base spare held 22 (.slice a len cap) d p) : ∀ q ∈ L, q.1.size ≤ Rows.uptoBulk d ∧ q.2.size ≤ Rows.uptoBulk d := by
  intro q hq
  have hn : 0 < len := by rw [← hP.len]; exact List.length_pos_of_mem hq
  obtain ⟨i, hi, e⟩ := List.getElem_of_mem hq
  have hil : i < len := by rw [← hP.len]; exact hi
  obtain ⟨b, off, ha, _, hc⟩ := hP.cells hn
  have hq2 : q = (pk L i, pv L i) := by
    have := pget L i hi
    rw [List.getElem?_eq_getElem hi, e] at this
    exact Option.some.inj this
  obtain ⟨fuel, hf⟩ := h
  rcases Go.Deep.open_slice_pairs Tryd.underlying22 Tryd.underlying27 (by kernel_rfl) rfl rfl (by kernel_rfl) (by kernel_rfl) hf with ⟨hcs, _⟩ | ⟨x, l, c, m, n, V0, V1, D0, D1, P0, P1, hcs, _, hl, hm, hmm, hxx, hx⟩
  · simp [Value.cells] at hcs
    omega
  · simp [Value.cells] at hcs
    obtain ⟨h1, rfl, rfl⟩ := hcs
    rw [ha] at h1
    obtain rfl := Option.some.inj h1
    have hml : len ≤ m := by rw [hmm]; split <;> omega
    obtain ⟨g0, g1, t0, t1⟩ := hx i (by omega)
    obtain ⟨s, e0, x0, _⟩ := DataW.trod_string Tryd.underlying9 (x := (D0 i, P0 i)) t0
    obtain ⟨t, e1, x1, _⟩ := DataW.trod_string Tryd.underlying9 (x := (D1 i, P1 i)) t1
    have f0 : V0 i = .string s := by simpa using e0
    have f1 : V1 i = .string t := by simpa using e1
    have k0 := (hc i hil).1
    have k1 := (hc i hil).2
    rw [addr_add, f0] at g0
    rw [addr_add, f1, ← Nat.add_assoc] at g1
    have y0 : pk L i = s := Value.string.inj (Option.some.inj (k0.symm.trans g0))
    have y1 : pv L i = t := Value.string.inj (Option.some.inj (k1.symm.trans g1))
    have d0 : D0 i = .lit (.string s.data.toList) := by simpa using congrArg Prod.fst x0
    have d1 : D1 i = .lit (.string t.data.toList) := by simpa using congrArg Prod.fst x1
    have hd : d = .slice ((List.range len).map fun i => .agg [D0 i, D1 i]) ((List.range (m - len)).map fun j => .agg [D0 (len + j), D1 (len + j)]) := by simpa using congrArg Prod.fst hxx
    have hmem : (DataW.agg [D0 i, D1 i] : DataW H) ∈ (List.range len).map fun i => DataW.agg [D0 i, D1 i] := List.mem_map.2 ⟨i, List.mem_range.2 hil, rfl⟩
    have hb := part_le hmem
    rw [d0, d1] at hb
    simp only [Rows.uptoBulk, Rows.uptoBulkAll, Array.length_toList] at hb
    rw [hq2, y0, y1, hd]
    simp only [Rows.uptoBulk]
    have z0 : s.data.size = s.size := rfl
    have z1 : t.data.size = t.size := rfl
    constructor <;> (show _ ≤ _; omega)
end
theorem contract (H : Type) (enc : TypeId × Value → H) (W : World) (base : Nat) (args : Array Value) (ds gs : List (DataW H)) (before : List MemPlace)
    (hval : ∀ (j : Nat) t v, Tryd.f3.params[j]? = some t → args[j]? = some v → Value.okWide Tryd.prog W .any base t v)
    (hW : DataW.Whole enc Tryd.prog Tryd.f3.params.toList Rows.stateBackSpec.vars false W args.toList ds gs before)
    (hk : Rows.uptoSmall H (ds ++ gs) = true) (hS : W.ShapedOpen Tryd.prog) :
    Calls Tryd.prog 3 args W fun e W' => ∃ v, e = .returned v ∧ Rows.stateBackSpec.post enc Tryd.prog Tryd.f3 false true false false W args v W' := by
  have hW' := hW
  obtain ⟨p, q, hA0, hV, rfl, hfz, hnd⟩ := hW
  have hA : DataW.TrodAll enc Tryd.prog W 0 (fun _ => true) true Tryd.f3.params.toList args.toList ds p := hA0
  rw [Tryd.params3] at hA hval
  obtain ⟨v0, vs0, d0, ds0, p0, q0, hargs, rfl, rfl, h0, r0⟩ := trodAll_cons hA
  obtain ⟨v1, vs1, d1, ds1, p1, q1, rfl, rfl, rfl, h1, r1⟩ := trodAll_cons r0
  obtain ⟨rfl, rfl, rfl⟩ := trodAll_nil r1
  obtain rfl : args = #[v0, v1] := by cases args; simp_all
  obtain ⟨rfl, rfl⟩ := trodVars_none hV
  obtain ⟨a0, len0, cap0, rfl⟩ := okWide_slice Tryd.underlying22 (hval 0 22 v0 rfl rfl)
  have k0 := h0
  have lt0 : ∀ x ∈ p0, x.block < W.heap.size := by obtain ⟨m, hm⟩ := k0; exact DataW.trod_lt m _ _ _ hm
  obtain ⟨z0, w0⟩ := pairs_open Tryd.underlying22 (by kernel_rfl) h0
  have hbk := pairs_bulk w0 h0
  obtain ⟨a1, rfl, rfl, rfl, w1⟩ := open_string Tryd.underlying9 (hval 1 9 v1 rfl rfl) h1
  obtain ⟨m, hm⟩ := Tryd.laysM145.s1_3 W hS
  have hkb := of_decide_eq_true hk
  have hb2 : Rows.uptoBulk d0 ≤ 1048576 := by
    simp only [List.cons_append, List.nil_append, Rows.uptoBulkAll] at hkb
    omega
  clear hA0
  refine (walk a0 len0 cap0 z0 a1 m W w0 (fun q hq => by have := hbk q hq; omega) hm).mono fun e W' ⟨he, bel⟩ => ?_
  subst he
  exact ⟨_, rfl, _, _, _, [], _, [], hW', trodAll_mk1 (shut_bool Tryd.underlying4 _), (trodAll_cons_mk (Below.trod laidOut (by kernel_rfl) (of_decide_eq_true (by kernel_rfl)) k0 bel lt0) (trodAll_cons_mk (shut_string Tryd.underlying9 w1) trodAll_mk0)), rfl, bel.frame _, fun h => by cases h⟩
/-- A world for the witness: the settled one, the two tables holding what their initialisers lay. -/
noncomputable def layFirst : Obj → Obj
  | .cells _ t frozen => .cells (Go.Pinned.utf8FirstZ.map (fun (n : Nat) => Value.int .u8 (n : Int))).toArray t frozen
  | o => o
noncomputable def layAccept : Obj → Obj
  | .cells _ t frozen => .cells #[.int .u8 128, .int .u8 191, .int .u8 160, .int .u8 191, .int .u8 128, .int .u8 159, .int .u8 144, .int .u8 191, .int .u8 128, .int .u8 143, .int .u8 0, .int .u8 0, .int .u8 0, .int .u8 0, .int .u8 0, .int .u8 0, .int .u8 0, .int .u8 0, .int .u8 0, .int .u8 0, .int .u8 0, .int .u8 0, .int .u8 0, .int .u8 0, .int .u8 0, .int .u8 0, .int .u8 0, .int .u8 0, .int .u8 0, .int .u8 0, .int .u8 0, .int .u8 0] t frozen
  | o => o
noncomputable def laidWorld (os : Os) : World :=
  { World.holding Tryd.prog os ⟨#[], #[], []⟩ with heap := ((World.holding Tryd.prog os ⟨#[], #[], []⟩).heap.modify 1 layFirst).modify 2 layAccept }
theorem laid_met (os : Os) : laidMet Tryd.prog Rows.stateBackUptoRow.laid ((laidWorld os).forCall (fun _ _ => 0) ⟨#[], #[.slice none 0 0, .string ⟨#[]⟩], []⟩).memory :=
  laidMet_of_run' 8 (by kernel_rfl) (by kernel_rfl)
theorem reads (os : Os) {H : Type} (enc : TypeId × Value → H) : ∃ places, DataW.whole enc Tryd.prog ((laidWorld os).forCall (fun _ _ => 0) ⟨#[], #[.slice none 0 0, .string ⟨#[]⟩], []⟩).memory Tryd.f3.params.toList Rows.stateBackSpec.vars false #[Value.slice none 0 0, Value.string ⟨#[]⟩].toList 8 = some ([.nil, .lit (.string [])], [], places) :=
  ⟨[], by kernel_rfl⟩
set_option maxRecDepth 100000 in
theorem lifted (os : Os) (started : os.Started) (H : Type) (enc : TypeId × Value → H) (F : Stop.Interp) :
    ReturnsInHanded {} Tryd.checked os 3 .any ((Rows.OpenSpec.upto Rows.stateBackSpec).preRow enc Tryd.prog Tryd.f3 Rows.stateBackUptoRow.domain false Rows.stateBackUptoRow.laid) (((Rows.OpenSpec.upto Rows.stateBackSpec).at F).post enc Tryd.prog Tryd.f3 false true false false) := by
  obtain ⟨places, hx⟩ := reads os enc
  refine returnsInHanded_of_row (C := Tryd.checked) (s := Rows.OpenSpec.upto Rows.stateBackSpec) owned started (by kernel_rfl) Tryd.func3
    (witness_row_at (enc := enc) (C := Tryd.checked) false (laidWorld os) #[.slice none 0 0, .string ⟨#[]⟩] rfl (by kernel_rfl) (by kernel_rfl) (by kernel_rfl)
      (OpenSpec.preRow_of_cond 8 hx (by kernel_rfl) (fun k hk => by cases hk; kernel_rfl) (by kernel_rfl) (laid_met os))) ?_
  intro W base args ds gs before hval hW _ hcond _ hL hS _
  exact contract H enc W base args ds gs before hval hW (hcond _ rfl) hS
theorem saidUpto : Rows.StateBackUptoSaid :=
  OpenClaim.holds_of_cond 3 Tryd.f3 rfl rfl rfl rfl rfl rfl rfl ⟨rfl, rfl, rfl, rfl, rfl⟩ rfl rfl rfl rfl rfl (by kernel_rfl) Tryd.func3 (by kernel_rfl)
    (of_decide_eq_true (by kernel_rfl)) (by unfold Func.isWrapper; first | (rw [if_pos (by decide +kernel)]; kernel_rfl) | (rw [if_neg (by decide +kernel)]; exact ⟨rfl, rfl⟩))
    (fun os started H enc _ F => by rw [OpenClaim.pre_eq_preRow]; exact lifted os started H enc F)
theorem plain (f : FuncId) (fn : Func) (hf : Tryd.pinned.checked.prog.funcNamed "cullender/culkeep.StateBack" = some f) (hfn : Tryd.pinned.checked.prog.funcs[f]? = some fn) :
    false = Tryd.pinned.checked.prog.looks [] ∧ ∀ (j : Nat) t, fn.params[j]? = some t → Tryd.pinned.checked.prog.wantsStandIn t = false := by
  obtain rfl : f = 3 := Option.some.inj ((show Tryd.prog.funcNamed "cullender/culkeep.StateBack" = some 3 by kernel_rfl).symm.trans hf) |>.symm
  obtain rfl : fn = Tryd.f3 := (Option.some.inj (Tryd.func3.symm.trans hfn)).symm
  refine ⟨by kernel_rfl, fun j t ht => ?_⟩
  rw [Tryd.params3] at ht
  have h3 : t = 22 ∨ t = 9 := by simpa using Array.mem_of_getElem? ht
  rcases h3 with rfl | rfl
  · exact (show Tryd.prog.wantsStandIn 22 = false by kernel_rfl)
  · exact (show Tryd.prog.wantsStandIn 9 = false by kernel_rfl)
/-- The second form's card. -/
theorem proved : Rows.StateBackUptoCardSaid :=
  Claim7.holds_tied_plain_at .later [] _ _ _ _ saidUpto (fun _ h => by cases h) (by kernel_rfl) (fun _ h => by cases h) stateBackUpto_row_tie rfl ⟨rfl, rfl⟩ (by kernel_rfl) rfl plain (by kernel_rfl)
#print axioms proved
end Go.Proofs.YtmlkhiffmkkmdaaDoor.stateBack
