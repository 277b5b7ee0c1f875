/-
  No cell of these rows narrows 'for every input' (looked for: loops, veiled, ifaces, maps, wideKeys, modest, calm, conditions, laid).
  DERIVED. THE GIVEN ROWS OF THIS SEAT. 12 by the template 'for every input the law returns true; each argument reads behind the call as it read before'; 0 by the template 'total and deterministic' (their statements: YtpdigiefldnpaaaTotals.lean).
  GIVEN WITH THE SEED: the statements are not yours to turn. If you find one false, say at which input.
  Laid BY PROGRAM, IN A SANDBOX (cutbox-rows.mjs): the forced cells as the released guide's own fill.sh prints them over the translation f5fcc1ecd529c66d… (all of the seat's roots in one cut). By AI agents, Wed Nov 11 2026. No macro, syntax, notation, axiom, sorry.
-/
import Derived.Test.YtpdigiefldnpaaaChecked
import GoSem.Claim
import GoSem.ClaimJoined
import GoSem.ClaimMapViews
import Derived.JoinedTies
import Derived.KernelRfl
namespace Go.Proofs.Ytpdigiefldnpaaa
/- THE CELL 'sum', in the pinned program and in every row, IS THE sha256 OF THE DUMP (.gsa) THAT YtpdigiefldnpaaaProg.lean LOADS. Nothing in Lean hashes anything: it is a label: what it is worth is what the hold of that sum in a sandbox is worth. -/
noncomputable def Try.pinned : Pinned := { name := "ytpdigiefldnpaaa", sum := "f5fcc1ecd529c66d425449ba35d512f6b1f6090e070e2e9c8ef5fe754153e209", checked := Try.checked }
namespace Rows
def none {H : Type} : Left H := { results := [], args := [] }

/-- 'culkeep.PondAll': WHATEVER THE INPUT: true; the input reads as it did. -/
def pondAllSpec : ChangeSpec := { name := "pondAll", fn := fun _ => fun
  | [d1, d2] => { results := [.lit (.bool true)], args := [d1, d2] }
  | _ => none }
def pondAllRow : OpenClaim := { program := "ytpdigiefldnpaaa", sum := "f5fcc1ecd529c66d425449ba35d512f6b1f6090e070e2e9c8ef5fe754153e209", func := "cullender/culkeep.PondAll", spec := "pondAll", unfollowed := true, recurses := true, apart := false }
def PondAllSaid : Prop := pondAllRow.holds Try.pinned (OpenSpec.ofChange pondAllSpec)

/-- ITS FALSE NEIGHBOUR: 'it returns false'. Refute it at one input. -/
def pondAllWrong : ChangeSpec := { name := "pondAll", fn := fun _ => fun
  | [d1, d2] => { results := [.lit (.bool false)], args := [d1, d2] }
  | _ => none }
def PondAllWrongFalsely : Prop := pondAllRow.holds Try.pinned (OpenSpec.ofChange pondAllWrong)

/-- 'culkeep.SpanMends': WHATEVER THE INPUT: true; the input reads as it did. -/
def spanMendsSpec : ChangeSpec := { name := "spanMends", fn := fun _ => fun
  | [d1, d2] => { results := [.lit (.bool true)], args := [d1, d2] }
  | _ => none }
def spanMendsRow : OpenClaim := { program := "ytpdigiefldnpaaa", sum := "f5fcc1ecd529c66d425449ba35d512f6b1f6090e070e2e9c8ef5fe754153e209", func := "cullender/culkeep.SpanMends", spec := "spanMends", apart := false }
def SpanMendsSaid : Prop := spanMendsRow.holds Try.pinned (OpenSpec.ofChange spanMendsSpec)

/-- ITS FALSE NEIGHBOUR: 'it returns false'. Refute it at one input. -/
def spanMendsWrong : ChangeSpec := { name := "spanMends", fn := fun _ => fun
  | [d1, d2] => { results := [.lit (.bool false)], args := [d1, d2] }
  | _ => none }
def SpanMendsWrongFalsely : Prop := spanMendsRow.holds Try.pinned (OpenSpec.ofChange spanMendsWrong)

/-- 'culkeep.CombBack': WHATEVER THE INPUT: true; the input reads as it did. -/
def combBackSpec : ChangeSpec := { name := "combBack", fn := fun _ => fun
  | [d1, d2, d3] => { results := [.lit (.bool true)], args := [d1, d2, d3] }
  | _ => none }
def combBackRow : OpenClaim := { program := "ytpdigiefldnpaaa", sum := "f5fcc1ecd529c66d425449ba35d512f6b1f6090e070e2e9c8ef5fe754153e209", func := "cullender/culkeep.CombBack", spec := "combBack", apart := false }
def CombBackSaid : Prop := combBackRow.holds Try.pinned (OpenSpec.ofChange combBackSpec)

/-- ITS FALSE NEIGHBOUR: 'it returns false'. Refute it at one input. -/
def combBackWrong : ChangeSpec := { name := "combBack", fn := fun _ => fun
  | [d1, d2, d3] => { results := [.lit (.bool false)], args := [d1, d2, d3] }
  | _ => none }
def CombBackWrongFalsely : Prop := combBackRow.holds Try.pinned (OpenSpec.ofChange combBackWrong)

/-- 'culkeep.DealAll': WHATEVER THE INPUT: true; the input reads as it did. -/
def dealAllSpec : ChangeSpec := { name := "dealAll", fn := fun _ => fun
  | [d] => { results := [.lit (.bool true)], args := [d] }
  | _ => none }
def dealAllRow : OpenClaim := { program := "ytpdigiefldnpaaa", sum := "f5fcc1ecd529c66d425449ba35d512f6b1f6090e070e2e9c8ef5fe754153e209", func := "cullender/culkeep.DealAll", spec := "dealAll", unfollowed := true, recurses := true, apart := false }
def DealAllSaid : Prop := dealAllRow.holds Try.pinned (OpenSpec.ofChange dealAllSpec)

/-- ITS FALSE NEIGHBOUR: 'it returns false'. Refute it at one input. -/
def dealAllWrong : ChangeSpec := { name := "dealAll", fn := fun _ => fun
  | [d] => { results := [.lit (.bool false)], args := [d] }
  | _ => none }
def DealAllWrongFalsely : Prop := dealAllRow.holds Try.pinned (OpenSpec.ofChange dealAllWrong)

/-- 'culkeep.DigitTurned': WHATEVER THE INPUT: true; the input reads as it did. -/
def digitTurnedSpec : ChangeSpec := { name := "digitTurned", fn := fun _ => fun
  | [d1, d2] => { results := [.lit (.bool true)], args := [d1, d2] }
  | _ => none }
def digitTurnedRow : OpenClaim := { program := "ytpdigiefldnpaaa", sum := "f5fcc1ecd529c66d425449ba35d512f6b1f6090e070e2e9c8ef5fe754153e209", func := "cullender/culkeep.DigitTurned", spec := "digitTurned", recurses := true, apart := false }
def DigitTurnedSaid : Prop := digitTurnedRow.holds Try.pinned (OpenSpec.ofChange digitTurnedSpec)

/-- ITS FALSE NEIGHBOUR: 'it returns false'. Refute it at one input. -/
def digitTurnedWrong : ChangeSpec := { name := "digitTurned", fn := fun _ => fun
  | [d1, d2] => { results := [.lit (.bool false)], args := [d1, d2] }
  | _ => none }
def DigitTurnedWrongFalsely : Prop := digitTurnedRow.holds Try.pinned (OpenSpec.ofChange digitTurnedWrong)

/-- 'cultop.TopPond': WHATEVER THE INPUT: true; the input reads as it did. -/
def topPondSpec : ChangeSpec := { name := "topPond", fn := fun _ => fun
  | [d1, d2] => { results := [.lit (.bool true)], args := [d1, d2] }
  | _ => none }
def topPondRow : OpenClaim := { program := "ytpdigiefldnpaaa", sum := "f5fcc1ecd529c66d425449ba35d512f6b1f6090e070e2e9c8ef5fe754153e209", func := "cullender/cultop.TopPond", spec := "topPond", unfollowed := true, recurses := true, apart := false }
def TopPondSaid : Prop := topPondRow.holds Try.pinned (OpenSpec.ofChange topPondSpec)

/-- ITS FALSE NEIGHBOUR: 'it returns false'. Refute it at one input. -/
def topPondWrong : ChangeSpec := { name := "topPond", fn := fun _ => fun
  | [d1, d2] => { results := [.lit (.bool false)], args := [d1, d2] }
  | _ => none }
def TopPondWrongFalsely : Prop := topPondRow.holds Try.pinned (OpenSpec.ofChange topPondWrong)

/-- 'culkeep.EstMean': WHATEVER THE INPUT: true; the input reads as it did. -/
def estMeanSpec : ChangeSpec := { name := "estMean", fn := fun _ => fun
  | [d1, d2, d3] => { results := [.lit (.bool true)], args := [d1, d2, d3] }
  | _ => none }
def estMeanRow : OpenClaim := { program := "ytpdigiefldnpaaa", sum := "f5fcc1ecd529c66d425449ba35d512f6b1f6090e070e2e9c8ef5fe754153e209", func := "cullender/culkeep.EstMean", spec := "estMean", apart := false }
def EstMeanSaid : Prop := estMeanRow.holds Try.pinned (OpenSpec.ofChange estMeanSpec)

/-- ITS FALSE NEIGHBOUR: 'it returns false'. Refute it at one input. -/
def estMeanWrong : ChangeSpec := { name := "estMean", fn := fun _ => fun
  | [d1, d2, d3] => { results := [.lit (.bool false)], args := [d1, d2, d3] }
  | _ => none }
def EstMeanWrongFalsely : Prop := estMeanRow.holds Try.pinned (OpenSpec.ofChange estMeanWrong)

/-- 'culkeep.GatePart': WHATEVER THE INPUT: true; the input reads as it did. -/
def gatePartSpec : ChangeSpec := { name := "gatePart", fn := fun _ => fun
  | [d1, d2, d3] => { results := [.lit (.bool true)], args := [d1, d2, d3] }
  | _ => none }
def gatePartRow : OpenClaim := { program := "ytpdigiefldnpaaa", sum := "f5fcc1ecd529c66d425449ba35d512f6b1f6090e070e2e9c8ef5fe754153e209", func := "cullender/culkeep.GatePart", spec := "gatePart", named := ["math/bits.divideError", "math/bits.overflowError"], apart := false }
def GatePartSaid : Prop := gatePartRow.holds Try.pinned (OpenSpec.ofChange gatePartSpec)

/-- ITS FALSE NEIGHBOUR: 'it returns false'. Refute it at one input. -/
def gatePartWrong : ChangeSpec := { name := "gatePart", fn := fun _ => fun
  | [d1, d2, d3] => { results := [.lit (.bool false)], args := [d1, d2, d3] }
  | _ => none }
def GatePartWrongFalsely : Prop := gatePartRow.holds Try.pinned (OpenSpec.ofChange gatePartWrong)

/-- 'culkeep.GateHalf': WHATEVER THE INPUT: true; the input reads as it did. -/
def gateHalfSpec : ChangeSpec := { name := "gateHalf", fn := fun _ => fun
  | [d1, d2] => { results := [.lit (.bool true)], args := [d1, d2] }
  | _ => none }
def gateHalfRow : OpenClaim := { program := "ytpdigiefldnpaaa", sum := "f5fcc1ecd529c66d425449ba35d512f6b1f6090e070e2e9c8ef5fe754153e209", func := "cullender/culkeep.GateHalf", spec := "gateHalf", named := ["math/bits.divideError", "math/bits.overflowError"], apart := false }
def GateHalfSaid : Prop := gateHalfRow.holds Try.pinned (OpenSpec.ofChange gateHalfSpec)

/-- ITS FALSE NEIGHBOUR: 'it returns false'. Refute it at one input. -/
def gateHalfWrong : ChangeSpec := { name := "gateHalf", fn := fun _ => fun
  | [d1, d2] => { results := [.lit (.bool false)], args := [d1, d2] }
  | _ => none }
def GateHalfWrongFalsely : Prop := gateHalfRow.holds Try.pinned (OpenSpec.ofChange gateHalfWrong)

/-- 'culkeep.GateCount': WHATEVER THE INPUT: true; the input reads as it did. -/
def gateCountSpec : ChangeSpec := { name := "gateCount", fn := fun _ => fun
  | [d1, d2, d3, d4] => { results := [.lit (.bool true)], args := [d1, d2, d3, d4] }
  | _ => none }
def gateCountRow : OpenClaim := { program := "ytpdigiefldnpaaa", sum := "f5fcc1ecd529c66d425449ba35d512f6b1f6090e070e2e9c8ef5fe754153e209", func := "cullender/culkeep.GateCount", spec := "gateCount", named := ["math/bits.divideError", "math/bits.overflowError"], apart := false }
def GateCountSaid : Prop := gateCountRow.holds Try.pinned (OpenSpec.ofChange gateCountSpec)

/-- ITS FALSE NEIGHBOUR: 'it returns false'. Refute it at one input. -/
def gateCountWrong : ChangeSpec := { name := "gateCount", fn := fun _ => fun
  | [d1, d2, d3, d4] => { results := [.lit (.bool false)], args := [d1, d2, d3, d4] }
  | _ => none }
def GateCountWrongFalsely : Prop := gateCountRow.holds Try.pinned (OpenSpec.ofChange gateCountWrong)

/-- 'culkeep.DigitBack': WHATEVER THE INPUT: true; the input reads as it did. -/
def digitBackSpec : ChangeSpec := { name := "digitBack", fn := fun _ => fun
  | [d1, d2, d3, d4] => { results := [.lit (.bool true)], args := [d1, d2, d3, d4] }
  | _ => none }
def digitBackRow : OpenClaim := { program := "ytpdigiefldnpaaa", sum := "f5fcc1ecd529c66d425449ba35d512f6b1f6090e070e2e9c8ef5fe754153e209", func := "cullender/culkeep.DigitBack", spec := "digitBack", recurses := true, apart := false }
def DigitBackSaid : Prop := digitBackRow.holds Try.pinned (OpenSpec.ofChange digitBackSpec)

/-- ITS FALSE NEIGHBOUR: 'it returns false'. Refute it at one input. -/
def digitBackWrong : ChangeSpec := { name := "digitBack", fn := fun _ => fun
  | [d1, d2, d3, d4] => { results := [.lit (.bool false)], args := [d1, d2, d3, d4] }
  | _ => none }
def DigitBackWrongFalsely : Prop := digitBackRow.holds Try.pinned (OpenSpec.ofChange digitBackWrong)

/-- 'culkeep.AlikeAll': WHATEVER THE INPUT: true; the input reads as it did. -/
def alikeAllSpec : ChangeSpec := { name := "alikeAll", fn := fun _ => fun
  | [d1, d2, d3] => { results := [.lit (.bool true)], args := [d1, d2, d3] }
  | _ => none }
def alikeAllRow : OpenClaim := { program := "ytpdigiefldnpaaa", sum := "f5fcc1ecd529c66d425449ba35d512f6b1f6090e070e2e9c8ef5fe754153e209", func := "cullender/culkeep.AlikeAll", spec := "alikeAll", recurses := true, apart := false }
def AlikeAllSaid : Prop := alikeAllRow.holds Try.pinned (OpenSpec.ofChange alikeAllSpec)

/-- ITS FALSE NEIGHBOUR: 'it returns false'. Refute it at one input. -/
def alikeAllWrong : ChangeSpec := { name := "alikeAll", fn := fun _ => fun
  | [d1, d2, d3] => { results := [.lit (.bool false)], args := [d1, d2, d3] }
  | _ => none }
def AlikeAllWrongFalsely : Prop := alikeAllRow.holds Try.pinned (OpenSpec.ofChange alikeAllWrong)

/- THE SECOND FORM. 'bulk': how many values and letters a reading holds, each counted each time it is reached (what is shared counts as often as it is met; a slice's spare places count too). A statement '..UptoSaid' is the law's where the arguments, and the package variables that the reading takes, are together of bulk at most 1048576: NARROWER than '..Said'. Prove '..Said' where nothing that the law and all that it calls make is longer than what came in: it says more and counts as full. Else prove '..UptoSaid'. A law counts once. -/
mutual
def uptoBulk {H : Type} : DataW H → Nat
  | .lit (.string bytes) => bytes.length + 1
  | .lit _ => 1
  | .nil => 1
  | .ptr d => uptoBulk d + 1
  | .slice elems spare => uptoBulkAll elems + uptoBulkAll spare + 1
  | .agg parts => uptoBulkAll parts + 1
  | .iface _ d => uptoBulk d + 1
  | .map entries => uptoBulkEntries entries + 1
  | .held _ => 1
def uptoBulkAll {H : Type} : List (DataW H) → Nat
  | [] => 0
  | d :: r => uptoBulk d + uptoBulkAll r
def uptoBulkEntries {H : Type} : List (Lit × DataW H) → Nat
  | [] => 0
  | x :: r => uptoBulkEntry x + uptoBulkEntries r
def uptoBulkEntry {H : Type} : Lit × DataW H → Nat
  | (.string bytes, d) => bytes.length + uptoBulk d + 1
  | (_, d) => uptoBulk d + 1
 end
def uptoSmall : (H : Type) → List (DataW H) → Bool := fun _ ds => decide (uptoBulkAll ds ≤ 1048576)
def OpenSpec.upto (s : _root_.Go.ChangeSpec) : _root_.Go.OpenSpec := { _root_.Go.OpenSpec.ofChange s with cond := some uptoSmall }

/-- 'culkeep.PondAll', WHERE WHAT IT READS IS OF BULK AT MOST 1048576: true; the input reads as it did. -/
def pondAllUptoRow : OpenClaim := { program := "ytpdigiefldnpaaa", sum := "f5fcc1ecd529c66d425449ba35d512f6b1f6090e070e2e9c8ef5fe754153e209", func := "cullender/culkeep.PondAll", spec := "pondAll", unfollowed := true, recurses := true, apart := false, narrowed := true }
def PondAllUptoSaid : Prop := pondAllUptoRow.holds Try.pinned (OpenSpec.upto pondAllSpec)

/-- 'culkeep.SpanMends', WHERE WHAT IT READS IS OF BULK AT MOST 1048576: true; the input reads as it did. -/
def spanMendsUptoRow : OpenClaim := { program := "ytpdigiefldnpaaa", sum := "f5fcc1ecd529c66d425449ba35d512f6b1f6090e070e2e9c8ef5fe754153e209", func := "cullender/culkeep.SpanMends", spec := "spanMends", apart := false, narrowed := true }
def SpanMendsUptoSaid : Prop := spanMendsUptoRow.holds Try.pinned (OpenSpec.upto spanMendsSpec)

/-- 'culkeep.CombBack', WHERE WHAT IT READS IS OF BULK AT MOST 1048576: true; the input reads as it did. -/
def combBackUptoRow : OpenClaim := { program := "ytpdigiefldnpaaa", sum := "f5fcc1ecd529c66d425449ba35d512f6b1f6090e070e2e9c8ef5fe754153e209", func := "cullender/culkeep.CombBack", spec := "combBack", apart := false, narrowed := true }
def CombBackUptoSaid : Prop := combBackUptoRow.holds Try.pinned (OpenSpec.upto combBackSpec)

/-- 'culkeep.DealAll', WHERE WHAT IT READS IS OF BULK AT MOST 1048576: true; the input reads as it did. -/
def dealAllUptoRow : OpenClaim := { program := "ytpdigiefldnpaaa", sum := "f5fcc1ecd529c66d425449ba35d512f6b1f6090e070e2e9c8ef5fe754153e209", func := "cullender/culkeep.DealAll", spec := "dealAll", unfollowed := true, recurses := true, apart := false, narrowed := true }
def DealAllUptoSaid : Prop := dealAllUptoRow.holds Try.pinned (OpenSpec.upto dealAllSpec)

/-- 'culkeep.DigitTurned', WHERE WHAT IT READS IS OF BULK AT MOST 1048576: true; the input reads as it did. -/
def digitTurnedUptoRow : OpenClaim := { program := "ytpdigiefldnpaaa", sum := "f5fcc1ecd529c66d425449ba35d512f6b1f6090e070e2e9c8ef5fe754153e209", func := "cullender/culkeep.DigitTurned", spec := "digitTurned", recurses := true, apart := false, narrowed := true }
def DigitTurnedUptoSaid : Prop := digitTurnedUptoRow.holds Try.pinned (OpenSpec.upto digitTurnedSpec)

/-- 'cultop.TopPond', WHERE WHAT IT READS IS OF BULK AT MOST 1048576: true; the input reads as it did. -/
def topPondUptoRow : OpenClaim := { program := "ytpdigiefldnpaaa", sum := "f5fcc1ecd529c66d425449ba35d512f6b1f6090e070e2e9c8ef5fe754153e209", func := "cullender/cultop.TopPond", spec := "topPond", unfollowed := true, recurses := true, apart := false, narrowed := true }
def TopPondUptoSaid : Prop := topPondUptoRow.holds Try.pinned (OpenSpec.upto topPondSpec)

/-- 'culkeep.EstMean', WHERE WHAT IT READS IS OF BULK AT MOST 1048576: true; the input reads as it did. -/
def estMeanUptoRow : OpenClaim := { program := "ytpdigiefldnpaaa", sum := "f5fcc1ecd529c66d425449ba35d512f6b1f6090e070e2e9c8ef5fe754153e209", func := "cullender/culkeep.EstMean", spec := "estMean", apart := false, narrowed := true }
def EstMeanUptoSaid : Prop := estMeanUptoRow.holds Try.pinned (OpenSpec.upto estMeanSpec)

/-- 'culkeep.GatePart', WHERE WHAT IT READS IS OF BULK AT MOST 1048576: true; the input reads as it did. -/
def gatePartUptoRow : OpenClaim := { program := "ytpdigiefldnpaaa", sum := "f5fcc1ecd529c66d425449ba35d512f6b1f6090e070e2e9c8ef5fe754153e209", func := "cullender/culkeep.GatePart", spec := "gatePart", named := ["math/bits.divideError", "math/bits.overflowError"], apart := false, narrowed := true }
def GatePartUptoSaid : Prop := gatePartUptoRow.holds Try.pinned (OpenSpec.upto gatePartSpec)

/-- 'culkeep.GateHalf', WHERE WHAT IT READS IS OF BULK AT MOST 1048576: true; the input reads as it did. -/
def gateHalfUptoRow : OpenClaim := { program := "ytpdigiefldnpaaa", sum := "f5fcc1ecd529c66d425449ba35d512f6b1f6090e070e2e9c8ef5fe754153e209", func := "cullender/culkeep.GateHalf", spec := "gateHalf", named := ["math/bits.divideError", "math/bits.overflowError"], apart := false, narrowed := true }
def GateHalfUptoSaid : Prop := gateHalfUptoRow.holds Try.pinned (OpenSpec.upto gateHalfSpec)

/-- 'culkeep.GateCount', WHERE WHAT IT READS IS OF BULK AT MOST 1048576: true; the input reads as it did. -/
def gateCountUptoRow : OpenClaim := { program := "ytpdigiefldnpaaa", sum := "f5fcc1ecd529c66d425449ba35d512f6b1f6090e070e2e9c8ef5fe754153e209", func := "cullender/culkeep.GateCount", spec := "gateCount", named := ["math/bits.divideError", "math/bits.overflowError"], apart := false, narrowed := true }
def GateCountUptoSaid : Prop := gateCountUptoRow.holds Try.pinned (OpenSpec.upto gateCountSpec)

/-- 'culkeep.DigitBack', WHERE WHAT IT READS IS OF BULK AT MOST 1048576: true; the input reads as it did. -/
def digitBackUptoRow : OpenClaim := { program := "ytpdigiefldnpaaa", sum := "f5fcc1ecd529c66d425449ba35d512f6b1f6090e070e2e9c8ef5fe754153e209", func := "cullender/culkeep.DigitBack", spec := "digitBack", recurses := true, apart := false, narrowed := true }
def DigitBackUptoSaid : Prop := digitBackUptoRow.holds Try.pinned (OpenSpec.upto digitBackSpec)

/-- 'culkeep.AlikeAll', WHERE WHAT IT READS IS OF BULK AT MOST 1048576: true; the input reads as it did. -/
def alikeAllUptoRow : OpenClaim := { program := "ytpdigiefldnpaaa", sum := "f5fcc1ecd529c66d425449ba35d512f6b1f6090e070e2e9c8ef5fe754153e209", func := "cullender/culkeep.AlikeAll", spec := "alikeAll", recurses := true, apart := false, narrowed := true }
def AlikeAllUptoSaid : Prop := alikeAllUptoRow.holds Try.pinned (OpenSpec.upto alikeAllSpec)

end Rows
end Go.Proofs.Ytpdigiefldnpaaa
