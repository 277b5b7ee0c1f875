/- A call of a Go function by its contract, as one step of a region that draws its order. -/
import Derived.Test.YtcbklhicellepaaStep
namespace Go.Proofs.Ytcbklhicellepaa
open Go.ChangeShapes Go.WideShapes Go.ChangeAt Go.RowKit
set_option maxRecDepth 20000
theorem step_call {P : Program} {ops : Array Oper} {o : Oper} {a : Act} {W : World} {K : Act → World → Prop} {Q : Exit → Act → World → Prop} {E : Prop}
    (hg : o.guard = none) (g : Nat) (xs : Array Operand) (ts : Array TypeId) (hop : o.op = Op.call { callee := Callee.value (Operand.func g), args := xs, argTypes := ts })
    (eg : ∀ args w, (callFunc g args).run P w = .ok (.enter g args) w) (vs : Array Value) (hvs : xs.map a.eval = vs) (R : Ending → World → Prop) (hc : Calls P g vs W R)
    (hK : ∀ e w', R e w' → ∃ v, e = .returned v ∧ K (a.put o.dst v) w') :
    if Region.wanted o (yielded ops a.tmps) = true then Oper.wp P o a W K Q else E := by
  have hw : Region.wanted o (yielded ops a.tmps) = true := by simp [Region.wanted, hg]
  rw [if_pos hw]
  unfold Oper.wp
  have hr : (execOp a.eval o).run P W = .ok (.enter g vs) W := by
    simp [execOp, hop, resolve, invoke, hvs, eg, Act.eval, Deferred.ofValue, Result.andThen]
  rw [hr]
  exact hc.mono (fun e w' h => by
    obtain ⟨v, rfl, hk⟩ := hK e w' h
    exact hk)
end Go.Proofs.Ytcbklhicellepaa
