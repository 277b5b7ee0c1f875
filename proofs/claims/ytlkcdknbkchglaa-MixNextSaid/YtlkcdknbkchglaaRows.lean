/-
  No cell of these rows narrows 'for every input' (looked for: loops, veiled, ifaces, maps, wideKeys, modest, calm, conditions, laid).
  DERIVED. THE GIVEN ROWS OF THIS SEAT. 12 by the template 'for every input the law returns true; each argument reads behind the call as it read before'; 0 by the template 'total and deterministic' (their statements: YtlkcdknbkchglaaTotals.lean).
  GIVEN WITH THE SEED: the statements are not yours to turn. If you find one false, say at which input.
  Laid BY PROGRAM, IN A SANDBOX (cutbox-rows.mjs): the forced cells as the released guide's own fill.sh prints them over the translation bf67c9ac2341e31e… (all of the seat's roots in one cut). By AI agents, Wed Nov 11 2026. No macro, syntax, notation, axiom, sorry.
-/
import Derived.Test.YtlkcdknbkchglaaChecked
import GoSem.Claim
import GoSem.ClaimJoined
import GoSem.ClaimMapViews
import Derived.JoinedTies
import Derived.KernelRfl
namespace Go.Proofs.Ytlkcdknbkchglaa
/- THE CELL 'sum', in the pinned program and in every row, IS THE sha256 OF THE DUMP (.gsa) THAT YtlkcdknbkchglaaProg.lean LOADS. Nothing in Lean hashes anything: it is a label: what it is worth is what the hold of that sum in a sandbox is worth. -/
noncomputable def Try.pinned : Pinned := { name := "ytlkcdknbkchglaa", sum := "bf67c9ac2341e31e1c72d448fac1a3853163ab0e0162a411288c9b2559555905", checked := Try.checked }
namespace Rows
def none {H : Type} : Left H := { results := [], args := [] }

/-- 'culkeep.GateNested': WHATEVER THE INPUT: true; the input reads as it did. -/
def gateNestedSpec : ChangeSpec := { name := "gateNested", fn := fun _ => fun
  | [d1, d2, d3, d4] => { results := [.lit (.bool true)], args := [d1, d2, d3, d4] }
  | _ => none }
def gateNestedRow : OpenClaim := { program := "ytlkcdknbkchglaa", sum := "bf67c9ac2341e31e1c72d448fac1a3853163ab0e0162a411288c9b2559555905", func := "cullender/culkeep.GateNested", spec := "gateNested", apart := false }
def GateNestedSaid : Prop := gateNestedRow.holds Try.pinned (OpenSpec.ofChange gateNestedSpec)

/-- ITS FALSE NEIGHBOUR: 'it returns false'. Refute it at one input. -/
def gateNestedWrong : ChangeSpec := { name := "gateNested", fn := fun _ => fun
  | [d1, d2, d3, d4] => { results := [.lit (.bool false)], args := [d1, d2, d3, d4] }
  | _ => none }
def GateNestedWrongFalsely : Prop := gateNestedRow.holds Try.pinned (OpenSpec.ofChange gateNestedWrong)

/-- 'culkeep.GateMost': WHATEVER THE INPUT: true; the input reads as it did. -/
def gateMostSpec : ChangeSpec := { name := "gateMost", fn := fun _ => fun
  | [d1, d2, d3] => { results := [.lit (.bool true)], args := [d1, d2, d3] }
  | _ => none }
def gateMostRow : OpenClaim := { program := "ytlkcdknbkchglaa", sum := "bf67c9ac2341e31e1c72d448fac1a3853163ab0e0162a411288c9b2559555905", func := "cullender/culkeep.GateMost", spec := "gateMost", apart := false }
def GateMostSaid : Prop := gateMostRow.holds Try.pinned (OpenSpec.ofChange gateMostSpec)

/-- ITS FALSE NEIGHBOUR: 'it returns false'. Refute it at one input. -/
def gateMostWrong : ChangeSpec := { name := "gateMost", fn := fun _ => fun
  | [d1, d2, d3] => { results := [.lit (.bool false)], args := [d1, d2, d3] }
  | _ => none }
def GateMostWrongFalsely : Prop := gateMostRow.holds Try.pinned (OpenSpec.ofChange gateMostWrong)

/-- 'culkeep.MixNext': WHATEVER THE INPUT: true; the input reads as it did. -/
def mixNextSpec : ChangeSpec := { name := "mixNext", fn := fun _ => fun
  | [d1, d2] => { results := [.lit (.bool true)], args := [d1, d2] }
  | _ => none }
def mixNextRow : OpenClaim := { program := "ytlkcdknbkchglaa", sum := "bf67c9ac2341e31e1c72d448fac1a3853163ab0e0162a411288c9b2559555905", func := "cullender/culkeep.MixNext", spec := "mixNext", apart := false }
def MixNextSaid : Prop := mixNextRow.holds Try.pinned (OpenSpec.ofChange mixNextSpec)

/-- ITS FALSE NEIGHBOUR: 'it returns false'. Refute it at one input. -/
def mixNextWrong : ChangeSpec := { name := "mixNext", fn := fun _ => fun
  | [d1, d2] => { results := [.lit (.bool false)], args := [d1, d2] }
  | _ => none }
def MixNextWrongFalsely : Prop := mixNextRow.holds Try.pinned (OpenSpec.ofChange mixNextWrong)

/-- 'culkeep.CombPascal': WHATEVER THE INPUT: true; the input reads as it did. -/
def combPascalSpec : ChangeSpec := { name := "combPascal", fn := fun _ => fun
  | [d1, d2, d3] => { results := [.lit (.bool true)], args := [d1, d2, d3] }
  | _ => none }
def combPascalRow : OpenClaim := { program := "ytlkcdknbkchglaa", sum := "bf67c9ac2341e31e1c72d448fac1a3853163ab0e0162a411288c9b2559555905", func := "cullender/culkeep.CombPascal", spec := "combPascal", unfollowed := true, recurses := true, apart := false }
def CombPascalSaid : Prop := combPascalRow.holds Try.pinned (OpenSpec.ofChange combPascalSpec)

/-- ITS FALSE NEIGHBOUR: 'it returns false'. Refute it at one input. -/
def combPascalWrong : ChangeSpec := { name := "combPascal", fn := fun _ => fun
  | [d1, d2, d3] => { results := [.lit (.bool false)], args := [d1, d2, d3] }
  | _ => none }
def CombPascalWrongFalsely : Prop := combPascalRow.holds Try.pinned (OpenSpec.ofChange combPascalWrong)

/-- 'culkeep.CombHockey': WHATEVER THE INPUT: true; the input reads as it did. -/
def combHockeySpec : ChangeSpec := { name := "combHockey", fn := fun _ => fun
  | [d1, d2] => { results := [.lit (.bool true)], args := [d1, d2] }
  | _ => none }
def combHockeyRow : OpenClaim := { program := "ytlkcdknbkchglaa", sum := "bf67c9ac2341e31e1c72d448fac1a3853163ab0e0162a411288c9b2559555905", func := "cullender/culkeep.CombHockey", spec := "combHockey", apart := false }
def CombHockeySaid : Prop := combHockeyRow.holds Try.pinned (OpenSpec.ofChange combHockeySpec)

/-- ITS FALSE NEIGHBOUR: 'it returns false'. Refute it at one input. -/
def combHockeyWrong : ChangeSpec := { name := "combHockey", fn := fun _ => fun
  | [d1, d2] => { results := [.lit (.bool false)], args := [d1, d2] }
  | _ => none }
def CombHockeyWrongFalsely : Prop := combHockeyRow.holds Try.pinned (OpenSpec.ofChange combHockeyWrong)

/-- 'culkeep.GateLevels': WHATEVER THE INPUT: true; the input reads as it did. -/
def gateLevelsSpec : ChangeSpec := { name := "gateLevels", fn := fun _ => fun
  | [d1, d2] => { results := [.lit (.bool true)], args := [d1, d2] }
  | _ => none }
def gateLevelsRow : OpenClaim := { program := "ytlkcdknbkchglaa", sum := "bf67c9ac2341e31e1c72d448fac1a3853163ab0e0162a411288c9b2559555905", func := "cullender/culkeep.GateLevels", spec := "gateLevels", apart := false }
def GateLevelsSaid : Prop := gateLevelsRow.holds Try.pinned (OpenSpec.ofChange gateLevelsSpec)

/-- ITS FALSE NEIGHBOUR: 'it returns false'. Refute it at one input. -/
def gateLevelsWrong : ChangeSpec := { name := "gateLevels", fn := fun _ => fun
  | [d1, d2] => { results := [.lit (.bool false)], args := [d1, d2] }
  | _ => none }
def GateLevelsWrongFalsely : Prop := gateLevelsRow.holds Try.pinned (OpenSpec.ofChange gateLevelsWrong)

/-- 'culkeep.MixText': WHATEVER THE INPUT: true; the input reads as it did. -/
def mixTextSpec : ChangeSpec := { name := "mixText", fn := fun _ => fun
  | [d1, d2] => { results := [.lit (.bool true)], args := [d1, d2] }
  | _ => none }
def mixTextRow : OpenClaim := { program := "ytlkcdknbkchglaa", sum := "bf67c9ac2341e31e1c72d448fac1a3853163ab0e0162a411288c9b2559555905", func := "cullender/culkeep.MixText", spec := "mixText", apart := false }
def MixTextSaid : Prop := mixTextRow.holds Try.pinned (OpenSpec.ofChange mixTextSpec)

/-- ITS FALSE NEIGHBOUR: 'it returns false'. Refute it at one input. -/
def mixTextWrong : ChangeSpec := { name := "mixText", fn := fun _ => fun
  | [d1, d2] => { results := [.lit (.bool false)], args := [d1, d2] }
  | _ => none }
def MixTextWrongFalsely : Prop := mixTextRow.holds Try.pinned (OpenSpec.ofChange mixTextWrong)

/-- 'culkeep.HexaShort': WHATEVER THE INPUT: true; the input reads as it did. -/
def hexaShortSpec : ChangeSpec := { name := "hexaShort", fn := fun _ => fun
  | [d1, d2] => { results := [.lit (.bool true)], args := [d1, d2] }
  | _ => none }
def hexaShortRow : OpenClaim := { program := "ytlkcdknbkchglaa", sum := "bf67c9ac2341e31e1c72d448fac1a3853163ab0e0162a411288c9b2559555905", func := "cullender/culkeep.HexaShort", spec := "hexaShort", apart := false }
def HexaShortSaid : Prop := hexaShortRow.holds Try.pinned (OpenSpec.ofChange hexaShortSpec)

/-- ITS FALSE NEIGHBOUR: 'it returns false'. Refute it at one input. -/
def hexaShortWrong : ChangeSpec := { name := "hexaShort", fn := fun _ => fun
  | [d1, d2] => { results := [.lit (.bool false)], args := [d1, d2] }
  | _ => none }
def HexaShortWrongFalsely : Prop := hexaShortRow.holds Try.pinned (OpenSpec.ofChange hexaShortWrong)

/-- 'culkeep.SpanWhole': WHATEVER THE INPUT: true; the input reads as it did. -/
def spanWholeSpec : ChangeSpec := { name := "spanWhole", fn := fun _ => fun
  | [d1, d2, d3] => { results := [.lit (.bool true)], args := [d1, d2, d3] }
  | _ => none }
def spanWholeRow : OpenClaim := { program := "ytlkcdknbkchglaa", sum := "bf67c9ac2341e31e1c72d448fac1a3853163ab0e0162a411288c9b2559555905", func := "cullender/culkeep.SpanWhole", spec := "spanWhole", apart := false }
def SpanWholeSaid : Prop := spanWholeRow.holds Try.pinned (OpenSpec.ofChange spanWholeSpec)

/-- ITS FALSE NEIGHBOUR: 'it returns false'. Refute it at one input. -/
def spanWholeWrong : ChangeSpec := { name := "spanWhole", fn := fun _ => fun
  | [d1, d2, d3] => { results := [.lit (.bool false)], args := [d1, d2, d3] }
  | _ => none }
def SpanWholeWrongFalsely : Prop := spanWholeRow.holds Try.pinned (OpenSpec.ofChange spanWholeWrong)

/-- 'culkeep.EstAdds': WHATEVER THE INPUT: true; the input reads as it did. -/
def estAddsSpec : ChangeSpec := { name := "estAdds", fn := fun _ => fun
  | [d1, d2, d3, d4] => { results := [.lit (.bool true)], args := [d1, d2, d3, d4] }
  | _ => none }
def estAddsRow : OpenClaim := { program := "ytlkcdknbkchglaa", sum := "bf67c9ac2341e31e1c72d448fac1a3853163ab0e0162a411288c9b2559555905", func := "cullender/culkeep.EstAdds", spec := "estAdds", apart := false }
def EstAddsSaid : Prop := estAddsRow.holds Try.pinned (OpenSpec.ofChange estAddsSpec)

/-- ITS FALSE NEIGHBOUR: 'it returns false'. Refute it at one input. -/
def estAddsWrong : ChangeSpec := { name := "estAdds", fn := fun _ => fun
  | [d1, d2, d3, d4] => { results := [.lit (.bool false)], args := [d1, d2, d3, d4] }
  | _ => none }
def EstAddsWrongFalsely : Prop := estAddsRow.holds Try.pinned (OpenSpec.ofChange estAddsWrong)

/-- 'culkeep.EstAll': WHATEVER THE INPUT: true; the input reads as it did. -/
def estAllSpec : ChangeSpec := { name := "estAll", fn := fun _ => fun
  | [d1, d2] => { results := [.lit (.bool true)], args := [d1, d2] }
  | _ => none }
def estAllRow : OpenClaim := { program := "ytlkcdknbkchglaa", sum := "bf67c9ac2341e31e1c72d448fac1a3853163ab0e0162a411288c9b2559555905", func := "cullender/culkeep.EstAll", spec := "estAll", apart := false }
def EstAllSaid : Prop := estAllRow.holds Try.pinned (OpenSpec.ofChange estAllSpec)

/-- ITS FALSE NEIGHBOUR: 'it returns false'. Refute it at one input. -/
def estAllWrong : ChangeSpec := { name := "estAll", fn := fun _ => fun
  | [d1, d2] => { results := [.lit (.bool false)], args := [d1, d2] }
  | _ => none }
def EstAllWrongFalsely : Prop := estAllRow.holds Try.pinned (OpenSpec.ofChange estAllWrong)

/-- 'culkeep.SpanNested': WHATEVER THE INPUT: true; the input reads as it did. -/
def spanNestedSpec : ChangeSpec := { name := "spanNested", fn := fun _ => fun
  | [d1, d2, d3] => { results := [.lit (.bool true)], args := [d1, d2, d3] }
  | _ => none }
def spanNestedRow : OpenClaim := { program := "ytlkcdknbkchglaa", sum := "bf67c9ac2341e31e1c72d448fac1a3853163ab0e0162a411288c9b2559555905", func := "cullender/culkeep.SpanNested", spec := "spanNested", apart := false }
def SpanNestedSaid : Prop := spanNestedRow.holds Try.pinned (OpenSpec.ofChange spanNestedSpec)

/-- ITS FALSE NEIGHBOUR: 'it returns false'. Refute it at one input. -/
def spanNestedWrong : ChangeSpec := { name := "spanNested", fn := fun _ => fun
  | [d1, d2, d3] => { results := [.lit (.bool false)], args := [d1, d2, d3] }
  | _ => none }
def SpanNestedWrongFalsely : Prop := spanNestedRow.holds Try.pinned (OpenSpec.ofChange spanNestedWrong)

/- THE SECOND FORM. 'bulk': how many values and letters a reading holds, each counted each time it is reached (what is shared counts as often as it is met; a slice's spare places count too). A statement '..UptoSaid' is the law's where the arguments, and the package variables that the reading takes, are together of bulk at most 1048576: NARROWER than '..Said'. Prove '..Said' where nothing that the law and all that it calls make is longer than what came in: it says more and counts as full. Else prove '..UptoSaid'. A law counts once. -/
mutual
def uptoBulk {H : Type} : DataW H → Nat
  | .lit (.string bytes) => bytes.length + 1
  | .lit _ => 1
  | .nil => 1
  | .ptr d => uptoBulk d + 1
  | .slice elems spare => uptoBulkAll elems + uptoBulkAll spare + 1
  | .agg parts => uptoBulkAll parts + 1
  | .iface _ d => uptoBulk d + 1
  | .map entries => uptoBulkEntries entries + 1
  | .held _ => 1
def uptoBulkAll {H : Type} : List (DataW H) → Nat
  | [] => 0
  | d :: r => uptoBulk d + uptoBulkAll r
def uptoBulkEntries {H : Type} : List (Lit × DataW H) → Nat
  | [] => 0
  | x :: r => uptoBulkEntry x + uptoBulkEntries r
def uptoBulkEntry {H : Type} : Lit × DataW H → Nat
  | (.string bytes, d) => bytes.length + uptoBulk d + 1
  | (_, d) => uptoBulk d + 1
 end
def uptoSmall : (H : Type) → List (DataW H) → Bool := fun _ ds => decide (uptoBulkAll ds ≤ 1048576)
def OpenSpec.upto (s : _root_.Go.ChangeSpec) : _root_.Go.OpenSpec := { _root_.Go.OpenSpec.ofChange s with cond := some uptoSmall }

/-- 'culkeep.GateNested', WHERE WHAT IT READS IS OF BULK AT MOST 1048576: true; the input reads as it did. -/
def gateNestedUptoRow : OpenClaim := { program := "ytlkcdknbkchglaa", sum := "bf67c9ac2341e31e1c72d448fac1a3853163ab0e0162a411288c9b2559555905", func := "cullender/culkeep.GateNested", spec := "gateNested", apart := false, narrowed := true }
def GateNestedUptoSaid : Prop := gateNestedUptoRow.holds Try.pinned (OpenSpec.upto gateNestedSpec)

/-- 'culkeep.GateMost', WHERE WHAT IT READS IS OF BULK AT MOST 1048576: true; the input reads as it did. -/
def gateMostUptoRow : OpenClaim := { program := "ytlkcdknbkchglaa", sum := "bf67c9ac2341e31e1c72d448fac1a3853163ab0e0162a411288c9b2559555905", func := "cullender/culkeep.GateMost", spec := "gateMost", apart := false, narrowed := true }
def GateMostUptoSaid : Prop := gateMostUptoRow.holds Try.pinned (OpenSpec.upto gateMostSpec)

/-- 'culkeep.MixNext', WHERE WHAT IT READS IS OF BULK AT MOST 1048576: true; the input reads as it did. -/
def mixNextUptoRow : OpenClaim := { program := "ytlkcdknbkchglaa", sum := "bf67c9ac2341e31e1c72d448fac1a3853163ab0e0162a411288c9b2559555905", func := "cullender/culkeep.MixNext", spec := "mixNext", apart := false, narrowed := true }
def MixNextUptoSaid : Prop := mixNextUptoRow.holds Try.pinned (OpenSpec.upto mixNextSpec)

/-- 'culkeep.CombPascal', WHERE WHAT IT READS IS OF BULK AT MOST 1048576: true; the input reads as it did. -/
def combPascalUptoRow : OpenClaim := { program := "ytlkcdknbkchglaa", sum := "bf67c9ac2341e31e1c72d448fac1a3853163ab0e0162a411288c9b2559555905", func := "cullender/culkeep.CombPascal", spec := "combPascal", unfollowed := true, recurses := true, apart := false, narrowed := true }
def CombPascalUptoSaid : Prop := combPascalUptoRow.holds Try.pinned (OpenSpec.upto combPascalSpec)

/-- 'culkeep.CombHockey', WHERE WHAT IT READS IS OF BULK AT MOST 1048576: true; the input reads as it did. -/
def combHockeyUptoRow : OpenClaim := { program := "ytlkcdknbkchglaa", sum := "bf67c9ac2341e31e1c72d448fac1a3853163ab0e0162a411288c9b2559555905", func := "cullender/culkeep.CombHockey", spec := "combHockey", apart := false, narrowed := true }
def CombHockeyUptoSaid : Prop := combHockeyUptoRow.holds Try.pinned (OpenSpec.upto combHockeySpec)

/-- 'culkeep.GateLevels', WHERE WHAT IT READS IS OF BULK AT MOST 1048576: true; the input reads as it did. -/
def gateLevelsUptoRow : OpenClaim := { program := "ytlkcdknbkchglaa", sum := "bf67c9ac2341e31e1c72d448fac1a3853163ab0e0162a411288c9b2559555905", func := "cullender/culkeep.GateLevels", spec := "gateLevels", apart := false, narrowed := true }
def GateLevelsUptoSaid : Prop := gateLevelsUptoRow.holds Try.pinned (OpenSpec.upto gateLevelsSpec)

/-- 'culkeep.MixText', WHERE WHAT IT READS IS OF BULK AT MOST 1048576: true; the input reads as it did. -/
def mixTextUptoRow : OpenClaim := { program := "ytlkcdknbkchglaa", sum := "bf67c9ac2341e31e1c72d448fac1a3853163ab0e0162a411288c9b2559555905", func := "cullender/culkeep.MixText", spec := "mixText", apart := false, narrowed := true }
def MixTextUptoSaid : Prop := mixTextUptoRow.holds Try.pinned (OpenSpec.upto mixTextSpec)

/-- 'culkeep.HexaShort', WHERE WHAT IT READS IS OF BULK AT MOST 1048576: true; the input reads as it did. -/
def hexaShortUptoRow : OpenClaim := { program := "ytlkcdknbkchglaa", sum := "bf67c9ac2341e31e1c72d448fac1a3853163ab0e0162a411288c9b2559555905", func := "cullender/culkeep.HexaShort", spec := "hexaShort", apart := false, narrowed := true }
def HexaShortUptoSaid : Prop := hexaShortUptoRow.holds Try.pinned (OpenSpec.upto hexaShortSpec)

/-- 'culkeep.SpanWhole', WHERE WHAT IT READS IS OF BULK AT MOST 1048576: true; the input reads as it did. -/
def spanWholeUptoRow : OpenClaim := { program := "ytlkcdknbkchglaa", sum := "bf67c9ac2341e31e1c72d448fac1a3853163ab0e0162a411288c9b2559555905", func := "cullender/culkeep.SpanWhole", spec := "spanWhole", apart := false, narrowed := true }
def SpanWholeUptoSaid : Prop := spanWholeUptoRow.holds Try.pinned (OpenSpec.upto spanWholeSpec)

/-- 'culkeep.EstAdds', WHERE WHAT IT READS IS OF BULK AT MOST 1048576: true; the input reads as it did. -/
def estAddsUptoRow : OpenClaim := { program := "ytlkcdknbkchglaa", sum := "bf67c9ac2341e31e1c72d448fac1a3853163ab0e0162a411288c9b2559555905", func := "cullender/culkeep.EstAdds", spec := "estAdds", apart := false, narrowed := true }
def EstAddsUptoSaid : Prop := estAddsUptoRow.holds Try.pinned (OpenSpec.upto estAddsSpec)

/-- 'culkeep.EstAll', WHERE WHAT IT READS IS OF BULK AT MOST 1048576: true; the input reads as it did. -/
def estAllUptoRow : OpenClaim := { program := "ytlkcdknbkchglaa", sum := "bf67c9ac2341e31e1c72d448fac1a3853163ab0e0162a411288c9b2559555905", func := "cullender/culkeep.EstAll", spec := "estAll", apart := false, narrowed := true }
def EstAllUptoSaid : Prop := estAllUptoRow.holds Try.pinned (OpenSpec.upto estAllSpec)

/-- 'culkeep.SpanNested', WHERE WHAT IT READS IS OF BULK AT MOST 1048576: true; the input reads as it did. -/
def spanNestedUptoRow : OpenClaim := { program := "ytlkcdknbkchglaa", sum := "bf67c9ac2341e31e1c72d448fac1a3853163ab0e0162a411288c9b2559555905", func := "cullender/culkeep.SpanNested", spec := "spanNested", apart := false, narrowed := true }
def SpanNestedUptoSaid : Prop := spanNestedUptoRow.holds Try.pinned (OpenSpec.upto spanNestedSpec)

end Rows
end Go.Proofs.Ytlkcdknbkchglaa
