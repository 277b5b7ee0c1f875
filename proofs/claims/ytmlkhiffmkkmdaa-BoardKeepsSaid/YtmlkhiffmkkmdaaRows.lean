/-
  No cell of these rows narrows 'for every input' (looked for: loops, veiled, ifaces, maps, wideKeys, modest, calm, conditions, laid).
  DERIVED. THE GIVEN ROWS OF THIS SEAT. 8 by the template 'for every input the law returns true; each argument reads behind the call as it read before'; 0 by the template 'total and deterministic' (their statements: YtmlkhiffmkkmdaaTotals.lean).
  GIVEN WITH THE SEED: the statements are not yours to turn. If you find one false, say at which input.
  Laid BY PROGRAM, IN A SANDBOX (cutbox-rows.mjs): the forced cells as the released guide's own fill.sh prints them over the translation a5a74719154f5498… (all of the seat's roots in one cut). By AI agents, Wed Nov 11 2026. No macro, syntax, notation, axiom, sorry.
-/
import Derived.Test.YtmlkhiffmkkmdaaChecked
import GoSem.Claim
import GoSem.ClaimJoined
import GoSem.ClaimMapViews
import Derived.JoinedTies
import Derived.KernelRfl
namespace Go.Proofs.Ytmlkhiffmkkmdaa
/- THE CELL 'sum', in the pinned program and in every row, IS THE sha256 OF THE DUMP (.gsa) THAT YtmlkhiffmkkmdaaProg.lean LOADS. Nothing in Lean hashes anything: it is a label: what it is worth is what the hold of that sum in a sandbox is worth. -/
noncomputable def Try.pinned : Pinned := { name := "ytmlkhiffmkkmdaa", sum := "a5a74719154f5498ba639b834495cb27f2c1aadf3fcf0d812d73b4a3aa5d2bad", checked := Try.checked }
namespace Rows
def none {H : Type} : Left H := { results := [], args := [] }

/-- 'culkeep.StateOrder': WHATEVER THE INPUT: true; the input reads as it did. -/
def stateOrderSpec : ChangeSpec := { name := "stateOrder", fn := fun _ => fun
  | [d1, d2] => { results := [.lit (.bool true)], args := [d1, d2] }
  | _ => none }
def stateOrderRow : OpenClaim := { program := "ytmlkhiffmkkmdaa", sum := "a5a74719154f5498ba639b834495cb27f2c1aadf3fcf0d812d73b4a3aa5d2bad", func := "cullender/culkeep.StateOrder", spec := "stateOrder", apart := false }
def StateOrderSaid : Prop := stateOrderRow.holds Try.pinned (OpenSpec.ofChange stateOrderSpec)

/-- ITS FALSE NEIGHBOUR: 'it returns false'. Refute it at one input. -/
def stateOrderWrong : ChangeSpec := { name := "stateOrder", fn := fun _ => fun
  | [d1, d2] => { results := [.lit (.bool false)], args := [d1, d2] }
  | _ => none }
def StateOrderWrongFalsely : Prop := stateOrderRow.holds Try.pinned (OpenSpec.ofChange stateOrderWrong)

/-- 'culkeep.StateSet': WHATEVER THE INPUT: true; the input reads as it did. -/
def stateSetSpec : ChangeSpec := { name := "stateSet", fn := fun _ => fun
  | [d1, d2] => { results := [.lit (.bool true)], args := [d1, d2] }
  | _ => none }
def stateSetRow : OpenClaim := { program := "ytmlkhiffmkkmdaa", sum := "a5a74719154f5498ba639b834495cb27f2c1aadf3fcf0d812d73b4a3aa5d2bad", func := "cullender/culkeep.StateSet", spec := "stateSet", apart := false }
def StateSetSaid : Prop := stateSetRow.holds Try.pinned (OpenSpec.ofChange stateSetSpec)

/-- ITS FALSE NEIGHBOUR: 'it returns false'. Refute it at one input. -/
def stateSetWrong : ChangeSpec := { name := "stateSet", fn := fun _ => fun
  | [d1, d2] => { results := [.lit (.bool false)], args := [d1, d2] }
  | _ => none }
def StateSetWrongFalsely : Prop := stateSetRow.holds Try.pinned (OpenSpec.ofChange stateSetWrong)

/-- 'culkeep.FairAll': WHATEVER THE INPUT: true; the input reads as it did. -/
def fairAllSpec : ChangeSpec := { name := "fairAll", fn := fun _ => fun
  | [d1, d2] => { results := [.lit (.bool true)], args := [d1, d2] }
  | _ => none }
def fairAllRow : OpenClaim := { program := "ytmlkhiffmkkmdaa", sum := "a5a74719154f5498ba639b834495cb27f2c1aadf3fcf0d812d73b4a3aa5d2bad", func := "cullender/culkeep.FairAll", spec := "fairAll", unfollowed := true, recurses := true, apart := false }
def FairAllSaid : Prop := fairAllRow.holds Try.pinned (OpenSpec.ofChange fairAllSpec)

/-- ITS FALSE NEIGHBOUR: 'it returns false'. Refute it at one input. -/
def fairAllWrong : ChangeSpec := { name := "fairAll", fn := fun _ => fun
  | [d1, d2] => { results := [.lit (.bool false)], args := [d1, d2] }
  | _ => none }
def FairAllWrongFalsely : Prop := fairAllRow.holds Try.pinned (OpenSpec.ofChange fairAllWrong)

/-- 'culkeep.FairMost': WHATEVER THE INPUT: true; the input reads as it did. -/
def fairMostSpec : ChangeSpec := { name := "fairMost", fn := fun _ => fun
  | [d1, d2, d3] => { results := [.lit (.bool true)], args := [d1, d2, d3] }
  | _ => none }
def fairMostRow : OpenClaim := { program := "ytmlkhiffmkkmdaa", sum := "a5a74719154f5498ba639b834495cb27f2c1aadf3fcf0d812d73b4a3aa5d2bad", func := "cullender/culkeep.FairMost", spec := "fairMost", unfollowed := true, recurses := true, apart := false }
def FairMostSaid : Prop := fairMostRow.holds Try.pinned (OpenSpec.ofChange fairMostSpec)

/-- ITS FALSE NEIGHBOUR: 'it returns false'. Refute it at one input. -/
def fairMostWrong : ChangeSpec := { name := "fairMost", fn := fun _ => fun
  | [d1, d2, d3] => { results := [.lit (.bool false)], args := [d1, d2, d3] }
  | _ => none }
def FairMostWrongFalsely : Prop := fairMostRow.holds Try.pinned (OpenSpec.ofChange fairMostWrong)

/-- 'culkeep.FairSame': WHATEVER THE INPUT: true; the input reads as it did. -/
def fairSameSpec : ChangeSpec := { name := "fairSame", fn := fun _ => fun
  | [d1, d2, d3, d4] => { results := [.lit (.bool true)], args := [d1, d2, d3, d4] }
  | _ => none }
def fairSameRow : OpenClaim := { program := "ytmlkhiffmkkmdaa", sum := "a5a74719154f5498ba639b834495cb27f2c1aadf3fcf0d812d73b4a3aa5d2bad", func := "cullender/culkeep.FairSame", spec := "fairSame", unfollowed := true, recurses := true, apart := false }
def FairSameSaid : Prop := fairSameRow.holds Try.pinned (OpenSpec.ofChange fairSameSpec)

/-- ITS FALSE NEIGHBOUR: 'it returns false'. Refute it at one input. -/
def fairSameWrong : ChangeSpec := { name := "fairSame", fn := fun _ => fun
  | [d1, d2, d3, d4] => { results := [.lit (.bool false)], args := [d1, d2, d3, d4] }
  | _ => none }
def FairSameWrongFalsely : Prop := fairSameRow.holds Try.pinned (OpenSpec.ofChange fairSameWrong)

/-- 'culkeep.BoardAsks': WHATEVER THE INPUT: true; the input reads as it did. -/
def boardAsksSpec : ChangeSpec := { name := "boardAsks", fn := fun _ => fun
  | [d1, d2, d3] => { results := [.lit (.bool true)], args := [d1, d2, d3] }
  | _ => none }
def boardAsksRow : OpenClaim := { program := "ytmlkhiffmkkmdaa", sum := "a5a74719154f5498ba639b834495cb27f2c1aadf3fcf0d812d73b4a3aa5d2bad", func := "cullender/culkeep.BoardAsks", spec := "boardAsks", inPlace := ["internal/bytealg.abigen_runtime_cmpstring", "slices.overlaps[cullender/api.Rule]"], unfollowed := true, recurses := true, apart := false }
def BoardAsksSaid : Prop := boardAsksRow.holds Try.pinned (OpenSpec.ofChange boardAsksSpec)

/-- ITS FALSE NEIGHBOUR: 'it returns false'. Refute it at one input. -/
def boardAsksWrong : ChangeSpec := { name := "boardAsks", fn := fun _ => fun
  | [d1, d2, d3] => { results := [.lit (.bool false)], args := [d1, d2, d3] }
  | _ => none }
def BoardAsksWrongFalsely : Prop := boardAsksRow.holds Try.pinned (OpenSpec.ofChange boardAsksWrong)

/-- 'culkeep.BoardKeeps': WHATEVER THE INPUT: true; the input reads as it did. -/
def boardKeepsSpec : ChangeSpec := { name := "boardKeeps", fn := fun _ => fun
  | [d1, d2, d3] => { results := [.lit (.bool true)], args := [d1, d2, d3] }
  | _ => none }
def boardKeepsRow : OpenClaim := { program := "ytmlkhiffmkkmdaa", sum := "a5a74719154f5498ba639b834495cb27f2c1aadf3fcf0d812d73b4a3aa5d2bad", func := "cullender/culkeep.BoardKeeps", spec := "boardKeeps", inPlace := ["internal/bytealg.abigen_runtime_cmpstring", "slices.overlaps[cullender/api.Rule]"], unfollowed := true, recurses := true, apart := false }
def BoardKeepsSaid : Prop := boardKeepsRow.holds Try.pinned (OpenSpec.ofChange boardKeepsSpec)

/-- ITS FALSE NEIGHBOUR: 'it returns false'. Refute it at one input. -/
def boardKeepsWrong : ChangeSpec := { name := "boardKeeps", fn := fun _ => fun
  | [d1, d2, d3] => { results := [.lit (.bool false)], args := [d1, d2, d3] }
  | _ => none }
def BoardKeepsWrongFalsely : Prop := boardKeepsRow.holds Try.pinned (OpenSpec.ofChange boardKeepsWrong)

/-- 'culkeep.BoardJoins': WHATEVER THE INPUT: true; the input reads as it did. -/
def boardJoinsSpec : ChangeSpec := { name := "boardJoins", fn := fun _ => fun
  | [d1, d2, d3] => { results := [.lit (.bool true)], args := [d1, d2, d3] }
  | _ => none }
def boardJoinsRow : OpenClaim := { program := "ytmlkhiffmkkmdaa", sum := "a5a74719154f5498ba639b834495cb27f2c1aadf3fcf0d812d73b4a3aa5d2bad", func := "cullender/culkeep.BoardJoins", spec := "boardJoins", inPlace := ["internal/bytealg.abigen_runtime_cmpstring", "slices.overlaps[cullender/api.Rule]"], unfollowed := true, recurses := true, apart := false }
def BoardJoinsSaid : Prop := boardJoinsRow.holds Try.pinned (OpenSpec.ofChange boardJoinsSpec)

/-- ITS FALSE NEIGHBOUR: 'it returns false'. Refute it at one input. -/
def boardJoinsWrong : ChangeSpec := { name := "boardJoins", fn := fun _ => fun
  | [d1, d2, d3] => { results := [.lit (.bool false)], args := [d1, d2, d3] }
  | _ => none }
def BoardJoinsWrongFalsely : Prop := boardJoinsRow.holds Try.pinned (OpenSpec.ofChange boardJoinsWrong)

/- THE SECOND FORM. 'bulk': how many values and letters a reading holds, each counted each time it is reached (what is shared counts as often as it is met; a slice's spare places count too). A statement '..UptoSaid' is the law's where the arguments, and the package variables that the reading takes, are together of bulk at most 1048576: NARROWER than '..Said'. Prove '..Said' where nothing that the law and all that it calls make is longer than what came in: it says more and counts as full. Else prove '..UptoSaid'. A law counts once. -/
mutual
def uptoBulk {H : Type} : DataW H → Nat
  | .lit (.string bytes) => bytes.length + 1
  | .lit _ => 1
  | .nil => 1
  | .ptr d => uptoBulk d + 1
  | .slice elems spare => uptoBulkAll elems + uptoBulkAll spare + 1
  | .agg parts => uptoBulkAll parts + 1
  | .iface _ d => uptoBulk d + 1
  | .map entries => uptoBulkEntries entries + 1
  | .held _ => 1
def uptoBulkAll {H : Type} : List (DataW H) → Nat
  | [] => 0
  | d :: r => uptoBulk d + uptoBulkAll r
def uptoBulkEntries {H : Type} : List (Lit × DataW H) → Nat
  | [] => 0
  | x :: r => uptoBulkEntry x + uptoBulkEntries r
def uptoBulkEntry {H : Type} : Lit × DataW H → Nat
  | (.string bytes, d) => bytes.length + uptoBulk d + 1
  | (_, d) => uptoBulk d + 1
 end
def uptoSmall : (H : Type) → List (DataW H) → Bool := fun _ ds => decide (uptoBulkAll ds ≤ 1048576)
def OpenSpec.upto (s : _root_.Go.ChangeSpec) : _root_.Go.OpenSpec := { _root_.Go.OpenSpec.ofChange s with cond := some uptoSmall }

/-- 'culkeep.StateOrder', WHERE WHAT IT READS IS OF BULK AT MOST 1048576: true; the input reads as it did. -/
def stateOrderUptoRow : OpenClaim := { program := "ytmlkhiffmkkmdaa", sum := "a5a74719154f5498ba639b834495cb27f2c1aadf3fcf0d812d73b4a3aa5d2bad", func := "cullender/culkeep.StateOrder", spec := "stateOrder", apart := false, narrowed := true }
def StateOrderUptoSaid : Prop := stateOrderUptoRow.holds Try.pinned (OpenSpec.upto stateOrderSpec)

/-- 'culkeep.StateSet', WHERE WHAT IT READS IS OF BULK AT MOST 1048576: true; the input reads as it did. -/
def stateSetUptoRow : OpenClaim := { program := "ytmlkhiffmkkmdaa", sum := "a5a74719154f5498ba639b834495cb27f2c1aadf3fcf0d812d73b4a3aa5d2bad", func := "cullender/culkeep.StateSet", spec := "stateSet", apart := false, narrowed := true }
def StateSetUptoSaid : Prop := stateSetUptoRow.holds Try.pinned (OpenSpec.upto stateSetSpec)

/-- 'culkeep.FairAll', WHERE WHAT IT READS IS OF BULK AT MOST 1048576: true; the input reads as it did. -/
def fairAllUptoRow : OpenClaim := { program := "ytmlkhiffmkkmdaa", sum := "a5a74719154f5498ba639b834495cb27f2c1aadf3fcf0d812d73b4a3aa5d2bad", func := "cullender/culkeep.FairAll", spec := "fairAll", unfollowed := true, recurses := true, apart := false, narrowed := true }
def FairAllUptoSaid : Prop := fairAllUptoRow.holds Try.pinned (OpenSpec.upto fairAllSpec)

/-- 'culkeep.FairMost', WHERE WHAT IT READS IS OF BULK AT MOST 1048576: true; the input reads as it did. -/
def fairMostUptoRow : OpenClaim := { program := "ytmlkhiffmkkmdaa", sum := "a5a74719154f5498ba639b834495cb27f2c1aadf3fcf0d812d73b4a3aa5d2bad", func := "cullender/culkeep.FairMost", spec := "fairMost", unfollowed := true, recurses := true, apart := false, narrowed := true }
def FairMostUptoSaid : Prop := fairMostUptoRow.holds Try.pinned (OpenSpec.upto fairMostSpec)

/-- 'culkeep.FairSame', WHERE WHAT IT READS IS OF BULK AT MOST 1048576: true; the input reads as it did. -/
def fairSameUptoRow : OpenClaim := { program := "ytmlkhiffmkkmdaa", sum := "a5a74719154f5498ba639b834495cb27f2c1aadf3fcf0d812d73b4a3aa5d2bad", func := "cullender/culkeep.FairSame", spec := "fairSame", unfollowed := true, recurses := true, apart := false, narrowed := true }
def FairSameUptoSaid : Prop := fairSameUptoRow.holds Try.pinned (OpenSpec.upto fairSameSpec)

/-- 'culkeep.BoardAsks', WHERE WHAT IT READS IS OF BULK AT MOST 1048576: true; the input reads as it did. -/
def boardAsksUptoRow : OpenClaim := { program := "ytmlkhiffmkkmdaa", sum := "a5a74719154f5498ba639b834495cb27f2c1aadf3fcf0d812d73b4a3aa5d2bad", func := "cullender/culkeep.BoardAsks", spec := "boardAsks", inPlace := ["internal/bytealg.abigen_runtime_cmpstring", "slices.overlaps[cullender/api.Rule]"], unfollowed := true, recurses := true, apart := false, narrowed := true }
def BoardAsksUptoSaid : Prop := boardAsksUptoRow.holds Try.pinned (OpenSpec.upto boardAsksSpec)

/-- 'culkeep.BoardKeeps', WHERE WHAT IT READS IS OF BULK AT MOST 1048576: true; the input reads as it did. -/
def boardKeepsUptoRow : OpenClaim := { program := "ytmlkhiffmkkmdaa", sum := "a5a74719154f5498ba639b834495cb27f2c1aadf3fcf0d812d73b4a3aa5d2bad", func := "cullender/culkeep.BoardKeeps", spec := "boardKeeps", inPlace := ["internal/bytealg.abigen_runtime_cmpstring", "slices.overlaps[cullender/api.Rule]"], unfollowed := true, recurses := true, apart := false, narrowed := true }
def BoardKeepsUptoSaid : Prop := boardKeepsUptoRow.holds Try.pinned (OpenSpec.upto boardKeepsSpec)

/-- 'culkeep.BoardJoins', WHERE WHAT IT READS IS OF BULK AT MOST 1048576: true; the input reads as it did. -/
def boardJoinsUptoRow : OpenClaim := { program := "ytmlkhiffmkkmdaa", sum := "a5a74719154f5498ba639b834495cb27f2c1aadf3fcf0d812d73b4a3aa5d2bad", func := "cullender/culkeep.BoardJoins", spec := "boardJoins", inPlace := ["internal/bytealg.abigen_runtime_cmpstring", "slices.overlaps[cullender/api.Rule]"], unfollowed := true, recurses := true, apart := false, narrowed := true }
def BoardJoinsUptoSaid : Prop := boardJoinsUptoRow.holds Try.pinned (OpenSpec.upto boardJoinsSpec)

end Rows
end Go.Proofs.Ytmlkhiffmkkmdaa
