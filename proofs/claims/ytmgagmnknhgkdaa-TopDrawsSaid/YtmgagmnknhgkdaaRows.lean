/-
  No cell of these rows narrows 'for every input' (looked for: loops, veiled, ifaces, maps, wideKeys, modest, calm, conditions, laid).
  DERIVED. THE GIVEN ROWS OF THIS SEAT. 12 by the template 'for every input the law returns true; each argument reads behind the call as it read before'; 0 by the template 'total and deterministic' (their statements: YtmgagmnknhgkdaaTotals.lean).
  GIVEN WITH THE SEED: the statements are not yours to turn. If you find one false, say at which input.
  Laid BY PROGRAM, IN A SANDBOX (cutbox-rows.mjs): the forced cells as the released guide's own fill.sh prints them over the translation db9bcb208e91ae38… (all of the seat's roots in one cut). By AI agents, Wed Nov 11 2026. No macro, syntax, notation, axiom, sorry.
-/
import Derived.Test.YtmgagmnknhgkdaaChecked
import GoSem.Claim
import GoSem.ClaimJoined
import GoSem.ClaimMapViews
import Derived.JoinedTies
import Derived.KernelRfl
namespace Go.Proofs.Ytmgagmnknhgkdaa
/- THE CELL 'sum', in the pinned program and in every row, IS THE sha256 OF THE DUMP (.gsa) THAT YtmgagmnknhgkdaaProg.lean LOADS. Nothing in Lean hashes anything: it is a label: what it is worth is what the hold of that sum in a sandbox is worth. -/
noncomputable def Try.pinned : Pinned := { name := "ytmgagmnknhgkdaa", sum := "db9bcb208e91ae38ab2220b29db1223df27e34d153ac2ac666c6d618a0748a5a", checked := Try.checked }
namespace Rows
def none {H : Type} : Left H := { results := [], args := [] }

/-- 'culkeep.AliasFull': WHATEVER THE INPUT: true; the input reads as it did. -/
def aliasFullSpec : ChangeSpec := { name := "aliasFull", fn := fun _ => fun
  | [d] => { results := [.lit (.bool true)], args := [d] }
  | _ => none }
def aliasFullRow : OpenClaim := { program := "ytmgagmnknhgkdaa", sum := "db9bcb208e91ae38ab2220b29db1223df27e34d153ac2ac666c6d618a0748a5a", func := "cullender/culkeep.AliasFull", spec := "aliasFull", apart := false }
def AliasFullSaid : Prop := aliasFullRow.holds Try.pinned (OpenSpec.ofChange aliasFullSpec)

/-- ITS FALSE NEIGHBOUR: 'it returns false'. Refute it at one input. -/
def aliasFullWrong : ChangeSpec := { name := "aliasFull", fn := fun _ => fun
  | [d] => { results := [.lit (.bool false)], args := [d] }
  | _ => none }
def AliasFullWrongFalsely : Prop := aliasFullRow.holds Try.pinned (OpenSpec.ofChange aliasFullWrong)

/-- 'culkeep.MixBack': WHATEVER THE INPUT: true; the input reads as it did. -/
def mixBackSpec : ChangeSpec := { name := "mixBack", fn := fun _ => fun
  | [d1, d2] => { results := [.lit (.bool true)], args := [d1, d2] }
  | _ => none }
def mixBackRow : OpenClaim := { program := "ytmgagmnknhgkdaa", sum := "db9bcb208e91ae38ab2220b29db1223df27e34d153ac2ac666c6d618a0748a5a", func := "cullender/culkeep.MixBack", spec := "mixBack", apart := false }
def MixBackSaid : Prop := mixBackRow.holds Try.pinned (OpenSpec.ofChange mixBackSpec)

/-- ITS FALSE NEIGHBOUR: 'it returns false'. Refute it at one input. -/
def mixBackWrong : ChangeSpec := { name := "mixBack", fn := fun _ => fun
  | [d1, d2] => { results := [.lit (.bool false)], args := [d1, d2] }
  | _ => none }
def MixBackWrongFalsely : Prop := mixBackRow.holds Try.pinned (OpenSpec.ofChange mixBackWrong)

/-- 'culkeep.HexaBack': WHATEVER THE INPUT: true; the input reads as it did. -/
def hexaBackSpec : ChangeSpec := { name := "hexaBack", fn := fun _ => fun
  | [d1, d2, d3] => { results := [.lit (.bool true)], args := [d1, d2, d3] }
  | _ => none }
def hexaBackRow : OpenClaim := { program := "ytmgagmnknhgkdaa", sum := "db9bcb208e91ae38ab2220b29db1223df27e34d153ac2ac666c6d618a0748a5a", func := "cullender/culkeep.HexaBack", spec := "hexaBack", apart := false }
def HexaBackSaid : Prop := hexaBackRow.holds Try.pinned (OpenSpec.ofChange hexaBackSpec)

/-- ITS FALSE NEIGHBOUR: 'it returns false'. Refute it at one input. -/
def hexaBackWrong : ChangeSpec := { name := "hexaBack", fn := fun _ => fun
  | [d1, d2, d3] => { results := [.lit (.bool false)], args := [d1, d2, d3] }
  | _ => none }
def HexaBackWrongFalsely : Prop := hexaBackRow.holds Try.pinned (OpenSpec.ofChange hexaBackWrong)

/-- 'culkeep.EvenQuota': WHATEVER THE INPUT: true; the input reads as it did. -/
def evenQuotaSpec : ChangeSpec := { name := "evenQuota", fn := fun _ => fun
  | [d1, d2, d3] => { results := [.lit (.bool true)], args := [d1, d2, d3] }
  | _ => none }
def evenQuotaRow : OpenClaim := { program := "ytmgagmnknhgkdaa", sum := "db9bcb208e91ae38ab2220b29db1223df27e34d153ac2ac666c6d618a0748a5a", func := "cullender/culkeep.EvenQuota", spec := "evenQuota", apart := false }
def EvenQuotaSaid : Prop := evenQuotaRow.holds Try.pinned (OpenSpec.ofChange evenQuotaSpec)

/-- ITS FALSE NEIGHBOUR: 'it returns false'. Refute it at one input. -/
def evenQuotaWrong : ChangeSpec := { name := "evenQuota", fn := fun _ => fun
  | [d1, d2, d3] => { results := [.lit (.bool false)], args := [d1, d2, d3] }
  | _ => none }
def EvenQuotaWrongFalsely : Prop := evenQuotaRow.holds Try.pinned (OpenSpec.ofChange evenQuotaWrong)

/-- 'culkeep.EvenAll': WHATEVER THE INPUT: true; the input reads as it did. -/
def evenAllSpec : ChangeSpec := { name := "evenAll", fn := fun _ => fun
  | [d1, d2] => { results := [.lit (.bool true)], args := [d1, d2] }
  | _ => none }
def evenAllRow : OpenClaim := { program := "ytmgagmnknhgkdaa", sum := "db9bcb208e91ae38ab2220b29db1223df27e34d153ac2ac666c6d618a0748a5a", func := "cullender/culkeep.EvenAll", spec := "evenAll", apart := false }
def EvenAllSaid : Prop := evenAllRow.holds Try.pinned (OpenSpec.ofChange evenAllSpec)

/-- ITS FALSE NEIGHBOUR: 'it returns false'. Refute it at one input. -/
def evenAllWrong : ChangeSpec := { name := "evenAll", fn := fun _ => fun
  | [d1, d2] => { results := [.lit (.bool false)], args := [d1, d2] }
  | _ => none }
def EvenAllWrongFalsely : Prop := evenAllRow.holds Try.pinned (OpenSpec.ofChange evenAllWrong)

/-- 'culkeep.EvenMore': WHATEVER THE INPUT: true; the input reads as it did. -/
def evenMoreSpec : ChangeSpec := { name := "evenMore", fn := fun _ => fun
  | [d1, d2, d3] => { results := [.lit (.bool true)], args := [d1, d2, d3] }
  | _ => none }
def evenMoreRow : OpenClaim := { program := "ytmgagmnknhgkdaa", sum := "db9bcb208e91ae38ab2220b29db1223df27e34d153ac2ac666c6d618a0748a5a", func := "cullender/culkeep.EvenMore", spec := "evenMore", apart := false }
def EvenMoreSaid : Prop := evenMoreRow.holds Try.pinned (OpenSpec.ofChange evenMoreSpec)

/-- ITS FALSE NEIGHBOUR: 'it returns false'. Refute it at one input. -/
def evenMoreWrong : ChangeSpec := { name := "evenMore", fn := fun _ => fun
  | [d1, d2, d3] => { results := [.lit (.bool false)], args := [d1, d2, d3] }
  | _ => none }
def EvenMoreWrongFalsely : Prop := evenMoreRow.holds Try.pinned (OpenSpec.ofChange evenMoreWrong)

/-- 'cultop.TopDraws': WHATEVER THE INPUT: true; the input reads as it did. -/
def topDrawsSpec : ChangeSpec := { name := "topDraws", fn := fun _ => fun
  | [d1, d2] => { results := [.lit (.bool true)], args := [d1, d2] }
  | _ => none }
def topDrawsRow : OpenClaim := { program := "ytmgagmnknhgkdaa", sum := "db9bcb208e91ae38ab2220b29db1223df27e34d153ac2ac666c6d618a0748a5a", func := "cullender/cultop.TopDraws", spec := "topDraws", unfollowed := true, recurses := true, apart := false }
def TopDrawsSaid : Prop := topDrawsRow.holds Try.pinned (OpenSpec.ofChange topDrawsSpec)

/-- ITS FALSE NEIGHBOUR: 'it returns false'. Refute it at one input. -/
def topDrawsWrong : ChangeSpec := { name := "topDraws", fn := fun _ => fun
  | [d1, d2] => { results := [.lit (.bool false)], args := [d1, d2] }
  | _ => none }
def TopDrawsWrongFalsely : Prop := topDrawsRow.holds Try.pinned (OpenSpec.ofChange topDrawsWrong)

/-- 'culkeep.CumOrder': WHATEVER THE INPUT: true; the input reads as it did. -/
def cumOrderSpec : ChangeSpec := { name := "cumOrder", fn := fun _ => fun
  | [d1, d2, d3, d4] => { results := [.lit (.bool true)], args := [d1, d2, d3, d4] }
  | _ => none }
def cumOrderRow : OpenClaim := { program := "ytmgagmnknhgkdaa", sum := "db9bcb208e91ae38ab2220b29db1223df27e34d153ac2ac666c6d618a0748a5a", func := "cullender/culkeep.CumOrder", spec := "cumOrder", unfollowed := true, recurses := true, apart := false }
def CumOrderSaid : Prop := cumOrderRow.holds Try.pinned (OpenSpec.ofChange cumOrderSpec)

/-- ITS FALSE NEIGHBOUR: 'it returns false'. Refute it at one input. -/
def cumOrderWrong : ChangeSpec := { name := "cumOrder", fn := fun _ => fun
  | [d1, d2, d3, d4] => { results := [.lit (.bool false)], args := [d1, d2, d3, d4] }
  | _ => none }
def CumOrderWrongFalsely : Prop := cumOrderRow.holds Try.pinned (OpenSpec.ofChange cumOrderWrong)

/-- 'culkeep.CumPicks': WHATEVER THE INPUT: true; the input reads as it did. -/
def cumPicksSpec : ChangeSpec := { name := "cumPicks", fn := fun _ => fun
  | [d] => { results := [.lit (.bool true)], args := [d] }
  | _ => none }
def cumPicksRow : OpenClaim := { program := "ytmgagmnknhgkdaa", sum := "db9bcb208e91ae38ab2220b29db1223df27e34d153ac2ac666c6d618a0748a5a", func := "cullender/culkeep.CumPicks", spec := "cumPicks", unfollowed := true, recurses := true, apart := false }
def CumPicksSaid : Prop := cumPicksRow.holds Try.pinned (OpenSpec.ofChange cumPicksSpec)

/-- ITS FALSE NEIGHBOUR: 'it returns false'. Refute it at one input. -/
def cumPicksWrong : ChangeSpec := { name := "cumPicks", fn := fun _ => fun
  | [d] => { results := [.lit (.bool false)], args := [d] }
  | _ => none }
def CumPicksWrongFalsely : Prop := cumPicksRow.holds Try.pinned (OpenSpec.ofChange cumPicksWrong)

/-- 'culkeep.AliasShares': WHATEVER THE INPUT: true; the input reads as it did. -/
def aliasSharesSpec : ChangeSpec := { name := "aliasShares", fn := fun _ => fun
  | [d] => { results := [.lit (.bool true)], args := [d] }
  | _ => none }
def aliasSharesRow : OpenClaim := { program := "ytmgagmnknhgkdaa", sum := "db9bcb208e91ae38ab2220b29db1223df27e34d153ac2ac666c6d618a0748a5a", func := "cullender/culkeep.AliasShares", spec := "aliasShares", apart := false }
def AliasSharesSaid : Prop := aliasSharesRow.holds Try.pinned (OpenSpec.ofChange aliasSharesSpec)

/-- ITS FALSE NEIGHBOUR: 'it returns false'. Refute it at one input. -/
def aliasSharesWrong : ChangeSpec := { name := "aliasShares", fn := fun _ => fun
  | [d] => { results := [.lit (.bool false)], args := [d] }
  | _ => none }
def AliasSharesWrongFalsely : Prop := aliasSharesRow.holds Try.pinned (OpenSpec.ofChange aliasSharesWrong)

/-- 'culkeep.AliasPicks': WHATEVER THE INPUT: true; the input reads as it did. -/
def aliasPicksSpec : ChangeSpec := { name := "aliasPicks", fn := fun _ => fun
  | [d] => { results := [.lit (.bool true)], args := [d] }
  | _ => none }
def aliasPicksRow : OpenClaim := { program := "ytmgagmnknhgkdaa", sum := "db9bcb208e91ae38ab2220b29db1223df27e34d153ac2ac666c6d618a0748a5a", func := "cullender/culkeep.AliasPicks", spec := "aliasPicks", apart := false }
def AliasPicksSaid : Prop := aliasPicksRow.holds Try.pinned (OpenSpec.ofChange aliasPicksSpec)

/-- ITS FALSE NEIGHBOUR: 'it returns false'. Refute it at one input. -/
def aliasPicksWrong : ChangeSpec := { name := "aliasPicks", fn := fun _ => fun
  | [d] => { results := [.lit (.bool false)], args := [d] }
  | _ => none }
def AliasPicksWrongFalsely : Prop := aliasPicksRow.holds Try.pinned (OpenSpec.ofChange aliasPicksWrong)

/-- 'cultop.TopTraces': WHATEVER THE INPUT: true; the input reads as it did. -/
def topTracesSpec : ChangeSpec := { name := "topTraces", fn := fun _ => fun
  | [d1, d2] => { results := [.lit (.bool true)], args := [d1, d2] }
  | _ => none }
def topTracesRow : OpenClaim := { program := "ytmgagmnknhgkdaa", sum := "db9bcb208e91ae38ab2220b29db1223df27e34d153ac2ac666c6d618a0748a5a", func := "cullender/cultop.TopTraces", spec := "topTraces", apart := false }
def TopTracesSaid : Prop := topTracesRow.holds Try.pinned (OpenSpec.ofChange topTracesSpec)

/-- ITS FALSE NEIGHBOUR: 'it returns false'. Refute it at one input. -/
def topTracesWrong : ChangeSpec := { name := "topTraces", fn := fun _ => fun
  | [d1, d2] => { results := [.lit (.bool false)], args := [d1, d2] }
  | _ => none }
def TopTracesWrongFalsely : Prop := topTracesRow.holds Try.pinned (OpenSpec.ofChange topTracesWrong)

/- THE SECOND FORM. 'bulk': how many values and letters a reading holds, each counted each time it is reached (what is shared counts as often as it is met; a slice's spare places count too). A statement '..UptoSaid' is the law's where the arguments, and the package variables that the reading takes, are together of bulk at most 1048576: NARROWER than '..Said'. Prove '..Said' where nothing that the law and all that it calls make is longer than what came in: it says more and counts as full. Else prove '..UptoSaid'. A law counts once. -/
mutual
def uptoBulk {H : Type} : DataW H → Nat
  | .lit (.string bytes) => bytes.length + 1
  | .lit _ => 1
  | .nil => 1
  | .ptr d => uptoBulk d + 1
  | .slice elems spare => uptoBulkAll elems + uptoBulkAll spare + 1
  | .agg parts => uptoBulkAll parts + 1
  | .iface _ d => uptoBulk d + 1
  | .map entries => uptoBulkEntries entries + 1
  | .held _ => 1
def uptoBulkAll {H : Type} : List (DataW H) → Nat
  | [] => 0
  | d :: r => uptoBulk d + uptoBulkAll r
def uptoBulkEntries {H : Type} : List (Lit × DataW H) → Nat
  | [] => 0
  | x :: r => uptoBulkEntry x + uptoBulkEntries r
def uptoBulkEntry {H : Type} : Lit × DataW H → Nat
  | (.string bytes, d) => bytes.length + uptoBulk d + 1
  | (_, d) => uptoBulk d + 1
 end
def uptoSmall : (H : Type) → List (DataW H) → Bool := fun _ ds => decide (uptoBulkAll ds ≤ 1048576)
def OpenSpec.upto (s : _root_.Go.ChangeSpec) : _root_.Go.OpenSpec := { _root_.Go.OpenSpec.ofChange s with cond := some uptoSmall }

/-- 'culkeep.AliasFull', WHERE WHAT IT READS IS OF BULK AT MOST 1048576: true; the input reads as it did. -/
def aliasFullUptoRow : OpenClaim := { program := "ytmgagmnknhgkdaa", sum := "db9bcb208e91ae38ab2220b29db1223df27e34d153ac2ac666c6d618a0748a5a", func := "cullender/culkeep.AliasFull", spec := "aliasFull", apart := false, narrowed := true }
def AliasFullUptoSaid : Prop := aliasFullUptoRow.holds Try.pinned (OpenSpec.upto aliasFullSpec)

/-- 'culkeep.MixBack', WHERE WHAT IT READS IS OF BULK AT MOST 1048576: true; the input reads as it did. -/
def mixBackUptoRow : OpenClaim := { program := "ytmgagmnknhgkdaa", sum := "db9bcb208e91ae38ab2220b29db1223df27e34d153ac2ac666c6d618a0748a5a", func := "cullender/culkeep.MixBack", spec := "mixBack", apart := false, narrowed := true }
def MixBackUptoSaid : Prop := mixBackUptoRow.holds Try.pinned (OpenSpec.upto mixBackSpec)

/-- 'culkeep.HexaBack', WHERE WHAT IT READS IS OF BULK AT MOST 1048576: true; the input reads as it did. -/
def hexaBackUptoRow : OpenClaim := { program := "ytmgagmnknhgkdaa", sum := "db9bcb208e91ae38ab2220b29db1223df27e34d153ac2ac666c6d618a0748a5a", func := "cullender/culkeep.HexaBack", spec := "hexaBack", apart := false, narrowed := true }
def HexaBackUptoSaid : Prop := hexaBackUptoRow.holds Try.pinned (OpenSpec.upto hexaBackSpec)

/-- 'culkeep.EvenQuota', WHERE WHAT IT READS IS OF BULK AT MOST 1048576: true; the input reads as it did. -/
def evenQuotaUptoRow : OpenClaim := { program := "ytmgagmnknhgkdaa", sum := "db9bcb208e91ae38ab2220b29db1223df27e34d153ac2ac666c6d618a0748a5a", func := "cullender/culkeep.EvenQuota", spec := "evenQuota", apart := false, narrowed := true }
def EvenQuotaUptoSaid : Prop := evenQuotaUptoRow.holds Try.pinned (OpenSpec.upto evenQuotaSpec)

/-- 'culkeep.EvenAll', WHERE WHAT IT READS IS OF BULK AT MOST 1048576: true; the input reads as it did. -/
def evenAllUptoRow : OpenClaim := { program := "ytmgagmnknhgkdaa", sum := "db9bcb208e91ae38ab2220b29db1223df27e34d153ac2ac666c6d618a0748a5a", func := "cullender/culkeep.EvenAll", spec := "evenAll", apart := false, narrowed := true }
def EvenAllUptoSaid : Prop := evenAllUptoRow.holds Try.pinned (OpenSpec.upto evenAllSpec)

/-- 'culkeep.EvenMore', WHERE WHAT IT READS IS OF BULK AT MOST 1048576: true; the input reads as it did. -/
def evenMoreUptoRow : OpenClaim := { program := "ytmgagmnknhgkdaa", sum := "db9bcb208e91ae38ab2220b29db1223df27e34d153ac2ac666c6d618a0748a5a", func := "cullender/culkeep.EvenMore", spec := "evenMore", apart := false, narrowed := true }
def EvenMoreUptoSaid : Prop := evenMoreUptoRow.holds Try.pinned (OpenSpec.upto evenMoreSpec)

/-- 'cultop.TopDraws', WHERE WHAT IT READS IS OF BULK AT MOST 1048576: true; the input reads as it did. -/
def topDrawsUptoRow : OpenClaim := { program := "ytmgagmnknhgkdaa", sum := "db9bcb208e91ae38ab2220b29db1223df27e34d153ac2ac666c6d618a0748a5a", func := "cullender/cultop.TopDraws", spec := "topDraws", unfollowed := true, recurses := true, apart := false, narrowed := true }
def TopDrawsUptoSaid : Prop := topDrawsUptoRow.holds Try.pinned (OpenSpec.upto topDrawsSpec)

/-- 'culkeep.CumOrder', WHERE WHAT IT READS IS OF BULK AT MOST 1048576: true; the input reads as it did. -/
def cumOrderUptoRow : OpenClaim := { program := "ytmgagmnknhgkdaa", sum := "db9bcb208e91ae38ab2220b29db1223df27e34d153ac2ac666c6d618a0748a5a", func := "cullender/culkeep.CumOrder", spec := "cumOrder", unfollowed := true, recurses := true, apart := false, narrowed := true }
def CumOrderUptoSaid : Prop := cumOrderUptoRow.holds Try.pinned (OpenSpec.upto cumOrderSpec)

/-- 'culkeep.CumPicks', WHERE WHAT IT READS IS OF BULK AT MOST 1048576: true; the input reads as it did. -/
def cumPicksUptoRow : OpenClaim := { program := "ytmgagmnknhgkdaa", sum := "db9bcb208e91ae38ab2220b29db1223df27e34d153ac2ac666c6d618a0748a5a", func := "cullender/culkeep.CumPicks", spec := "cumPicks", unfollowed := true, recurses := true, apart := false, narrowed := true }
def CumPicksUptoSaid : Prop := cumPicksUptoRow.holds Try.pinned (OpenSpec.upto cumPicksSpec)

/-- 'culkeep.AliasShares', WHERE WHAT IT READS IS OF BULK AT MOST 1048576: true; the input reads as it did. -/
def aliasSharesUptoRow : OpenClaim := { program := "ytmgagmnknhgkdaa", sum := "db9bcb208e91ae38ab2220b29db1223df27e34d153ac2ac666c6d618a0748a5a", func := "cullender/culkeep.AliasShares", spec := "aliasShares", apart := false, narrowed := true }
def AliasSharesUptoSaid : Prop := aliasSharesUptoRow.holds Try.pinned (OpenSpec.upto aliasSharesSpec)

/-- 'culkeep.AliasPicks', WHERE WHAT IT READS IS OF BULK AT MOST 1048576: true; the input reads as it did. -/
def aliasPicksUptoRow : OpenClaim := { program := "ytmgagmnknhgkdaa", sum := "db9bcb208e91ae38ab2220b29db1223df27e34d153ac2ac666c6d618a0748a5a", func := "cullender/culkeep.AliasPicks", spec := "aliasPicks", apart := false, narrowed := true }
def AliasPicksUptoSaid : Prop := aliasPicksUptoRow.holds Try.pinned (OpenSpec.upto aliasPicksSpec)

/-- 'cultop.TopTraces', WHERE WHAT IT READS IS OF BULK AT MOST 1048576: true; the input reads as it did. -/
def topTracesUptoRow : OpenClaim := { program := "ytmgagmnknhgkdaa", sum := "db9bcb208e91ae38ab2220b29db1223df27e34d153ac2ac666c6d618a0748a5a", func := "cullender/cultop.TopTraces", spec := "topTraces", apart := false, narrowed := true }
def TopTracesUptoSaid : Prop := topTracesUptoRow.holds Try.pinned (OpenSpec.upto topTracesSpec)

end Rows
end Go.Proofs.Ytmgagmnknhgkdaa
