/-
  No cell of these rows narrows 'for every input' (looked for: loops, veiled, ifaces, maps, wideKeys, modest, calm, conditions, laid).
  DERIVED. THE GIVEN ROWS OF THIS SEAT. 12 by the template 'for every input the law returns true; each argument reads behind the call as it read before'; 0 by the template 'total and deterministic' (their statements: YtpghnbpoodcglaaTotals.lean).
  GIVEN WITH THE SEED: the statements are not yours to turn. If you find one false, say at which input.
  Laid BY PROGRAM, IN A SANDBOX (cutbox-rows.mjs): the forced cells as the released guide's own fill.sh prints them over the translation 69064fdb89c0220b… (all of the seat's roots in one cut). By AI agents, Wed Nov 11 2026. No macro, syntax, notation, axiom, sorry.
-/
import Derived.Test.YtpghnbpoodcglaaChecked
import GoSem.Claim
import GoSem.ClaimJoined
import GoSem.ClaimMapViews
import Derived.JoinedTies
import Derived.KernelRfl
namespace Go.Proofs.Ytpghnbpoodcglaa
/- THE CELL 'sum', in the pinned program and in every row, IS THE sha256 OF THE DUMP (.gsa) THAT YtpghnbpoodcglaaProg.lean LOADS. Nothing in Lean hashes anything: it is a label: what it is worth is what the hold of that sum in a sandbox is worth. -/
noncomputable def Try.pinned : Pinned := { name := "ytpghnbpoodcglaa", sum := "69064fdb89c0220bd9ab64b137466aff94a1fd4f4b6575102061271820ce0e23", checked := Try.checked }
namespace Rows
def none {H : Type} : Left H := { results := [], args := [] }

/-- 'culkeep.RegsOrder': WHATEVER THE INPUT: true; the input reads as it did. -/
def regsOrderSpec : ChangeSpec := { name := "regsOrder", fn := fun _ => fun
  | [d1, d2, d3, d4] => { results := [.lit (.bool true)], args := [d1, d2, d3, d4] }
  | _ => none }
def regsOrderRow : OpenClaim := { program := "ytpghnbpoodcglaa", sum := "69064fdb89c0220bd9ab64b137466aff94a1fd4f4b6575102061271820ce0e23", func := "cullender/culkeep.RegsOrder", spec := "regsOrder", unfollowed := true, recurses := true, apart := false }
def RegsOrderSaid : Prop := regsOrderRow.holds Try.pinned (OpenSpec.ofChange regsOrderSpec)

/-- ITS FALSE NEIGHBOUR: 'it returns false'. Refute it at one input. -/
def regsOrderWrong : ChangeSpec := { name := "regsOrder", fn := fun _ => fun
  | [d1, d2, d3, d4] => { results := [.lit (.bool false)], args := [d1, d2, d3, d4] }
  | _ => none }
def RegsOrderWrongFalsely : Prop := regsOrderRow.holds Try.pinned (OpenSpec.ofChange regsOrderWrong)

/-- 'culkeep.BloomNever': WHATEVER THE INPUT: true; the input reads as it did. -/
def bloomNeverSpec : ChangeSpec := { name := "bloomNever", fn := fun _ => fun
  | [d1, d2, d3, d4] => { results := [.lit (.bool true)], args := [d1, d2, d3, d4] }
  | _ => none }
def bloomNeverRow : OpenClaim := { program := "ytpghnbpoodcglaa", sum := "69064fdb89c0220bd9ab64b137466aff94a1fd4f4b6575102061271820ce0e23", func := "cullender/culkeep.BloomNever", spec := "bloomNever", unfollowed := true, recurses := true, apart := false }
def BloomNeverSaid : Prop := bloomNeverRow.holds Try.pinned (OpenSpec.ofChange bloomNeverSpec)

/-- ITS FALSE NEIGHBOUR: 'it returns false'. Refute it at one input. -/
def bloomNeverWrong : ChangeSpec := { name := "bloomNever", fn := fun _ => fun
  | [d1, d2, d3, d4] => { results := [.lit (.bool false)], args := [d1, d2, d3, d4] }
  | _ => none }
def BloomNeverWrongFalsely : Prop := bloomNeverRow.holds Try.pinned (OpenSpec.ofChange bloomNeverWrong)

/-- 'culkeep.TableMore': WHATEVER THE INPUT: true; the input reads as it did. -/
def tableMoreSpec : ChangeSpec := { name := "tableMore", fn := fun _ => fun
  | [d1, d2, d3, d4] => { results := [.lit (.bool true)], args := [d1, d2, d3, d4] }
  | _ => none }
def tableMoreRow : OpenClaim := { program := "ytpghnbpoodcglaa", sum := "69064fdb89c0220bd9ab64b137466aff94a1fd4f4b6575102061271820ce0e23", func := "cullender/culkeep.TableMore", spec := "tableMore", apart := false }
def TableMoreSaid : Prop := tableMoreRow.holds Try.pinned (OpenSpec.ofChange tableMoreSpec)

/-- ITS FALSE NEIGHBOUR: 'it returns false'. Refute it at one input. -/
def tableMoreWrong : ChangeSpec := { name := "tableMore", fn := fun _ => fun
  | [d1, d2, d3, d4] => { results := [.lit (.bool false)], args := [d1, d2, d3, d4] }
  | _ => none }
def TableMoreWrongFalsely : Prop := tableMoreRow.holds Try.pinned (OpenSpec.ofChange tableMoreWrong)

/-- 'culkeep.BloomGrows': WHATEVER THE INPUT: true; the input reads as it did. -/
def bloomGrowsSpec : ChangeSpec := { name := "bloomGrows", fn := fun _ => fun
  | [d1, d2, d3, d4] => { results := [.lit (.bool true)], args := [d1, d2, d3, d4] }
  | _ => none }
def bloomGrowsRow : OpenClaim := { program := "ytpghnbpoodcglaa", sum := "69064fdb89c0220bd9ab64b137466aff94a1fd4f4b6575102061271820ce0e23", func := "cullender/culkeep.BloomGrows", spec := "bloomGrows", unfollowed := true, recurses := true, apart := false }
def BloomGrowsSaid : Prop := bloomGrowsRow.holds Try.pinned (OpenSpec.ofChange bloomGrowsSpec)

/-- ITS FALSE NEIGHBOUR: 'it returns false'. Refute it at one input. -/
def bloomGrowsWrong : ChangeSpec := { name := "bloomGrows", fn := fun _ => fun
  | [d1, d2, d3, d4] => { results := [.lit (.bool false)], args := [d1, d2, d3, d4] }
  | _ => none }
def BloomGrowsWrongFalsely : Prop := bloomGrowsRow.holds Try.pinned (OpenSpec.ofChange bloomGrowsWrong)

/-- 'culkeep.TableLow': WHATEVER THE INPUT: true; the input reads as it did. -/
def tableLowSpec : ChangeSpec := { name := "tableLow", fn := fun _ => fun
  | [d1, d2, d3, d4] => { results := [.lit (.bool true)], args := [d1, d2, d3, d4] }
  | _ => none }
def tableLowRow : OpenClaim := { program := "ytpghnbpoodcglaa", sum := "69064fdb89c0220bd9ab64b137466aff94a1fd4f4b6575102061271820ce0e23", func := "cullender/culkeep.TableLow", spec := "tableLow", unfollowed := true, recurses := true, apart := false }
def TableLowSaid : Prop := tableLowRow.holds Try.pinned (OpenSpec.ofChange tableLowSpec)

/-- ITS FALSE NEIGHBOUR: 'it returns false'. Refute it at one input. -/
def tableLowWrong : ChangeSpec := { name := "tableLow", fn := fun _ => fun
  | [d1, d2, d3, d4] => { results := [.lit (.bool false)], args := [d1, d2, d3, d4] }
  | _ => none }
def TableLowWrongFalsely : Prop := tableLowRow.holds Try.pinned (OpenSpec.ofChange tableLowWrong)

/-- 'culkeep.TableWide': WHATEVER THE INPUT: true; the input reads as it did. -/
def tableWideSpec : ChangeSpec := { name := "tableWide", fn := fun _ => fun
  | [d1, d2, d3] => { results := [.lit (.bool true)], args := [d1, d2, d3] }
  | _ => none }
def tableWideRow : OpenClaim := { program := "ytpghnbpoodcglaa", sum := "69064fdb89c0220bd9ab64b137466aff94a1fd4f4b6575102061271820ce0e23", func := "cullender/culkeep.TableWide", spec := "tableWide", unfollowed := true, recurses := true, apart := false }
def TableWideSaid : Prop := tableWideRow.holds Try.pinned (OpenSpec.ofChange tableWideSpec)

/-- ITS FALSE NEIGHBOUR: 'it returns false'. Refute it at one input. -/
def tableWideWrong : ChangeSpec := { name := "tableWide", fn := fun _ => fun
  | [d1, d2, d3] => { results := [.lit (.bool false)], args := [d1, d2, d3] }
  | _ => none }
def TableWideWrongFalsely : Prop := tableWideRow.holds Try.pinned (OpenSpec.ofChange tableWideWrong)

/-- 'culkeep.BloomJoins': WHATEVER THE INPUT: true; the input reads as it did. -/
def bloomJoinsSpec : ChangeSpec := { name := "bloomJoins", fn := fun _ => fun
  | [d1, d2, d3, d4] => { results := [.lit (.bool true)], args := [d1, d2, d3, d4] }
  | _ => none }
def bloomJoinsRow : OpenClaim := { program := "ytpghnbpoodcglaa", sum := "69064fdb89c0220bd9ab64b137466aff94a1fd4f4b6575102061271820ce0e23", func := "cullender/culkeep.BloomJoins", spec := "bloomJoins", apart := false }
def BloomJoinsSaid : Prop := bloomJoinsRow.holds Try.pinned (OpenSpec.ofChange bloomJoinsSpec)

/-- ITS FALSE NEIGHBOUR: 'it returns false'. Refute it at one input. -/
def bloomJoinsWrong : ChangeSpec := { name := "bloomJoins", fn := fun _ => fun
  | [d1, d2, d3, d4] => { results := [.lit (.bool false)], args := [d1, d2, d3, d4] }
  | _ => none }
def BloomJoinsWrongFalsely : Prop := bloomJoinsRow.holds Try.pinned (OpenSpec.ofChange bloomJoinsWrong)

/-- 'culkeep.RegsGrows': WHATEVER THE INPUT: true; the input reads as it did. -/
def regsGrowsSpec : ChangeSpec := { name := "regsGrows", fn := fun _ => fun
  | [d1, d2] => { results := [.lit (.bool true)], args := [d1, d2] }
  | _ => none }
def regsGrowsRow : OpenClaim := { program := "ytpghnbpoodcglaa", sum := "69064fdb89c0220bd9ab64b137466aff94a1fd4f4b6575102061271820ce0e23", func := "cullender/culkeep.RegsGrows", spec := "regsGrows", unfollowed := true, recurses := true, apart := false }
def RegsGrowsSaid : Prop := regsGrowsRow.holds Try.pinned (OpenSpec.ofChange regsGrowsSpec)

/-- ITS FALSE NEIGHBOUR: 'it returns false'. Refute it at one input. -/
def regsGrowsWrong : ChangeSpec := { name := "regsGrows", fn := fun _ => fun
  | [d1, d2] => { results := [.lit (.bool false)], args := [d1, d2] }
  | _ => none }
def RegsGrowsWrongFalsely : Prop := regsGrowsRow.holds Try.pinned (OpenSpec.ofChange regsGrowsWrong)

/-- 'culkeep.RegsSame': WHATEVER THE INPUT: true; the input reads as it did. -/
def regsSameSpec : ChangeSpec := { name := "regsSame", fn := fun _ => fun
  | [d1, d2, d3, d4] => { results := [.lit (.bool true)], args := [d1, d2, d3, d4] }
  | _ => none }
def regsSameRow : OpenClaim := { program := "ytpghnbpoodcglaa", sum := "69064fdb89c0220bd9ab64b137466aff94a1fd4f4b6575102061271820ce0e23", func := "cullender/culkeep.RegsSame", spec := "regsSame", unfollowed := true, recurses := true, apart := false }
def RegsSameSaid : Prop := regsSameRow.holds Try.pinned (OpenSpec.ofChange regsSameSpec)

/-- ITS FALSE NEIGHBOUR: 'it returns false'. Refute it at one input. -/
def regsSameWrong : ChangeSpec := { name := "regsSame", fn := fun _ => fun
  | [d1, d2, d3, d4] => { results := [.lit (.bool false)], args := [d1, d2, d3, d4] }
  | _ => none }
def RegsSameWrongFalsely : Prop := regsSameRow.holds Try.pinned (OpenSpec.ofChange regsSameWrong)

/-- 'culkeep.TableJoins': WHATEVER THE INPUT: true; the input reads as it did. -/
def tableJoinsSpec : ChangeSpec := { name := "tableJoins", fn := fun _ => fun
  | [d1, d2, d3, d4] => { results := [.lit (.bool true)], args := [d1, d2, d3, d4] }
  | _ => none }
def tableJoinsRow : OpenClaim := { program := "ytpghnbpoodcglaa", sum := "69064fdb89c0220bd9ab64b137466aff94a1fd4f4b6575102061271820ce0e23", func := "cullender/culkeep.TableJoins", spec := "tableJoins", unfollowed := true, recurses := true, apart := false }
def TableJoinsSaid : Prop := tableJoinsRow.holds Try.pinned (OpenSpec.ofChange tableJoinsSpec)

/-- ITS FALSE NEIGHBOUR: 'it returns false'. Refute it at one input. -/
def tableJoinsWrong : ChangeSpec := { name := "tableJoins", fn := fun _ => fun
  | [d1, d2, d3, d4] => { results := [.lit (.bool false)], args := [d1, d2, d3, d4] }
  | _ => none }
def TableJoinsWrongFalsely : Prop := tableJoinsRow.holds Try.pinned (OpenSpec.ofChange tableJoinsWrong)

/-- 'culkeep.AlikeJoin': WHATEVER THE INPUT: true; the input reads as it did. -/
def alikeJoinSpec : ChangeSpec := { name := "alikeJoin", fn := fun _ => fun
  | [d1, d2, d3, d4] => { results := [.lit (.bool true)], args := [d1, d2, d3, d4] }
  | _ => none }
def alikeJoinRow : OpenClaim := { program := "ytpghnbpoodcglaa", sum := "69064fdb89c0220bd9ab64b137466aff94a1fd4f4b6575102061271820ce0e23", func := "cullender/culkeep.AlikeJoin", spec := "alikeJoin", recurses := true, apart := false }
def AlikeJoinSaid : Prop := alikeJoinRow.holds Try.pinned (OpenSpec.ofChange alikeJoinSpec)

/-- ITS FALSE NEIGHBOUR: 'it returns false'. Refute it at one input. -/
def alikeJoinWrong : ChangeSpec := { name := "alikeJoin", fn := fun _ => fun
  | [d1, d2, d3, d4] => { results := [.lit (.bool false)], args := [d1, d2, d3, d4] }
  | _ => none }
def AlikeJoinWrongFalsely : Prop := alikeJoinRow.holds Try.pinned (OpenSpec.ofChange alikeJoinWrong)

/-- 'culkeep.AlikeSigns': WHATEVER THE INPUT: true; the input reads as it did. -/
def alikeSignsSpec : ChangeSpec := { name := "alikeSigns", fn := fun _ => fun
  | [d1, d2, d3, d4] => { results := [.lit (.bool true)], args := [d1, d2, d3, d4] }
  | _ => none }
def alikeSignsRow : OpenClaim := { program := "ytpghnbpoodcglaa", sum := "69064fdb89c0220bd9ab64b137466aff94a1fd4f4b6575102061271820ce0e23", func := "cullender/culkeep.AlikeSigns", spec := "alikeSigns", unfollowed := true, recurses := true, apart := false }
def AlikeSignsSaid : Prop := alikeSignsRow.holds Try.pinned (OpenSpec.ofChange alikeSignsSpec)

/-- ITS FALSE NEIGHBOUR: 'it returns false'. Refute it at one input. -/
def alikeSignsWrong : ChangeSpec := { name := "alikeSigns", fn := fun _ => fun
  | [d1, d2, d3, d4] => { results := [.lit (.bool false)], args := [d1, d2, d3, d4] }
  | _ => none }
def AlikeSignsWrongFalsely : Prop := alikeSignsRow.holds Try.pinned (OpenSpec.ofChange alikeSignsWrong)

/- THE SECOND FORM. 'bulk': how many values and letters a reading holds, each counted each time it is reached (what is shared counts as often as it is met; a slice's spare places count too). A statement '..UptoSaid' is the law's where the arguments, and the package variables that the reading takes, are together of bulk at most 1048576: NARROWER than '..Said'. Prove '..Said' where nothing that the law and all that it calls make is longer than what came in: it says more and counts as full. Else prove '..UptoSaid'. A law counts once. -/
mutual
def uptoBulk {H : Type} : DataW H → Nat
  | .lit (.string bytes) => bytes.length + 1
  | .lit _ => 1
  | .nil => 1
  | .ptr d => uptoBulk d + 1
  | .slice elems spare => uptoBulkAll elems + uptoBulkAll spare + 1
  | .agg parts => uptoBulkAll parts + 1
  | .iface _ d => uptoBulk d + 1
  | .map entries => uptoBulkEntries entries + 1
  | .held _ => 1
def uptoBulkAll {H : Type} : List (DataW H) → Nat
  | [] => 0
  | d :: r => uptoBulk d + uptoBulkAll r
def uptoBulkEntries {H : Type} : List (Lit × DataW H) → Nat
  | [] => 0
  | x :: r => uptoBulkEntry x + uptoBulkEntries r
def uptoBulkEntry {H : Type} : Lit × DataW H → Nat
  | (.string bytes, d) => bytes.length + uptoBulk d + 1
  | (_, d) => uptoBulk d + 1
 end
def uptoSmall : (H : Type) → List (DataW H) → Bool := fun _ ds => decide (uptoBulkAll ds ≤ 1048576)
def OpenSpec.upto (s : _root_.Go.ChangeSpec) : _root_.Go.OpenSpec := { _root_.Go.OpenSpec.ofChange s with cond := some uptoSmall }

/-- 'culkeep.RegsOrder', WHERE WHAT IT READS IS OF BULK AT MOST 1048576: true; the input reads as it did. -/
def regsOrderUptoRow : OpenClaim := { program := "ytpghnbpoodcglaa", sum := "69064fdb89c0220bd9ab64b137466aff94a1fd4f4b6575102061271820ce0e23", func := "cullender/culkeep.RegsOrder", spec := "regsOrder", unfollowed := true, recurses := true, apart := false, narrowed := true }
def RegsOrderUptoSaid : Prop := regsOrderUptoRow.holds Try.pinned (OpenSpec.upto regsOrderSpec)

/-- 'culkeep.BloomNever', WHERE WHAT IT READS IS OF BULK AT MOST 1048576: true; the input reads as it did. -/
def bloomNeverUptoRow : OpenClaim := { program := "ytpghnbpoodcglaa", sum := "69064fdb89c0220bd9ab64b137466aff94a1fd4f4b6575102061271820ce0e23", func := "cullender/culkeep.BloomNever", spec := "bloomNever", unfollowed := true, recurses := true, apart := false, narrowed := true }
def BloomNeverUptoSaid : Prop := bloomNeverUptoRow.holds Try.pinned (OpenSpec.upto bloomNeverSpec)

/-- 'culkeep.TableMore', WHERE WHAT IT READS IS OF BULK AT MOST 1048576: true; the input reads as it did. -/
def tableMoreUptoRow : OpenClaim := { program := "ytpghnbpoodcglaa", sum := "69064fdb89c0220bd9ab64b137466aff94a1fd4f4b6575102061271820ce0e23", func := "cullender/culkeep.TableMore", spec := "tableMore", apart := false, narrowed := true }
def TableMoreUptoSaid : Prop := tableMoreUptoRow.holds Try.pinned (OpenSpec.upto tableMoreSpec)

/-- 'culkeep.BloomGrows', WHERE WHAT IT READS IS OF BULK AT MOST 1048576: true; the input reads as it did. -/
def bloomGrowsUptoRow : OpenClaim := { program := "ytpghnbpoodcglaa", sum := "69064fdb89c0220bd9ab64b137466aff94a1fd4f4b6575102061271820ce0e23", func := "cullender/culkeep.BloomGrows", spec := "bloomGrows", unfollowed := true, recurses := true, apart := false, narrowed := true }
def BloomGrowsUptoSaid : Prop := bloomGrowsUptoRow.holds Try.pinned (OpenSpec.upto bloomGrowsSpec)

/-- 'culkeep.TableLow', WHERE WHAT IT READS IS OF BULK AT MOST 1048576: true; the input reads as it did. -/
def tableLowUptoRow : OpenClaim := { program := "ytpghnbpoodcglaa", sum := "69064fdb89c0220bd9ab64b137466aff94a1fd4f4b6575102061271820ce0e23", func := "cullender/culkeep.TableLow", spec := "tableLow", unfollowed := true, recurses := true, apart := false, narrowed := true }
def TableLowUptoSaid : Prop := tableLowUptoRow.holds Try.pinned (OpenSpec.upto tableLowSpec)

/-- 'culkeep.TableWide', WHERE WHAT IT READS IS OF BULK AT MOST 1048576: true; the input reads as it did. -/
def tableWideUptoRow : OpenClaim := { program := "ytpghnbpoodcglaa", sum := "69064fdb89c0220bd9ab64b137466aff94a1fd4f4b6575102061271820ce0e23", func := "cullender/culkeep.TableWide", spec := "tableWide", unfollowed := true, recurses := true, apart := false, narrowed := true }
def TableWideUptoSaid : Prop := tableWideUptoRow.holds Try.pinned (OpenSpec.upto tableWideSpec)

/-- 'culkeep.BloomJoins', WHERE WHAT IT READS IS OF BULK AT MOST 1048576: true; the input reads as it did. -/
def bloomJoinsUptoRow : OpenClaim := { program := "ytpghnbpoodcglaa", sum := "69064fdb89c0220bd9ab64b137466aff94a1fd4f4b6575102061271820ce0e23", func := "cullender/culkeep.BloomJoins", spec := "bloomJoins", apart := false, narrowed := true }
def BloomJoinsUptoSaid : Prop := bloomJoinsUptoRow.holds Try.pinned (OpenSpec.upto bloomJoinsSpec)

/-- 'culkeep.RegsGrows', WHERE WHAT IT READS IS OF BULK AT MOST 1048576: true; the input reads as it did. -/
def regsGrowsUptoRow : OpenClaim := { program := "ytpghnbpoodcglaa", sum := "69064fdb89c0220bd9ab64b137466aff94a1fd4f4b6575102061271820ce0e23", func := "cullender/culkeep.RegsGrows", spec := "regsGrows", unfollowed := true, recurses := true, apart := false, narrowed := true }
def RegsGrowsUptoSaid : Prop := regsGrowsUptoRow.holds Try.pinned (OpenSpec.upto regsGrowsSpec)

/-- 'culkeep.RegsSame', WHERE WHAT IT READS IS OF BULK AT MOST 1048576: true; the input reads as it did. -/
def regsSameUptoRow : OpenClaim := { program := "ytpghnbpoodcglaa", sum := "69064fdb89c0220bd9ab64b137466aff94a1fd4f4b6575102061271820ce0e23", func := "cullender/culkeep.RegsSame", spec := "regsSame", unfollowed := true, recurses := true, apart := false, narrowed := true }
def RegsSameUptoSaid : Prop := regsSameUptoRow.holds Try.pinned (OpenSpec.upto regsSameSpec)

/-- 'culkeep.TableJoins', WHERE WHAT IT READS IS OF BULK AT MOST 1048576: true; the input reads as it did. -/
def tableJoinsUptoRow : OpenClaim := { program := "ytpghnbpoodcglaa", sum := "69064fdb89c0220bd9ab64b137466aff94a1fd4f4b6575102061271820ce0e23", func := "cullender/culkeep.TableJoins", spec := "tableJoins", unfollowed := true, recurses := true, apart := false, narrowed := true }
def TableJoinsUptoSaid : Prop := tableJoinsUptoRow.holds Try.pinned (OpenSpec.upto tableJoinsSpec)

/-- 'culkeep.AlikeJoin', WHERE WHAT IT READS IS OF BULK AT MOST 1048576: true; the input reads as it did. -/
def alikeJoinUptoRow : OpenClaim := { program := "ytpghnbpoodcglaa", sum := "69064fdb89c0220bd9ab64b137466aff94a1fd4f4b6575102061271820ce0e23", func := "cullender/culkeep.AlikeJoin", spec := "alikeJoin", recurses := true, apart := false, narrowed := true }
def AlikeJoinUptoSaid : Prop := alikeJoinUptoRow.holds Try.pinned (OpenSpec.upto alikeJoinSpec)

/-- 'culkeep.AlikeSigns', WHERE WHAT IT READS IS OF BULK AT MOST 1048576: true; the input reads as it did. -/
def alikeSignsUptoRow : OpenClaim := { program := "ytpghnbpoodcglaa", sum := "69064fdb89c0220bd9ab64b137466aff94a1fd4f4b6575102061271820ce0e23", func := "cullender/culkeep.AlikeSigns", spec := "alikeSigns", unfollowed := true, recurses := true, apart := false, narrowed := true }
def AlikeSignsUptoSaid : Prop := alikeSignsUptoRow.holds Try.pinned (OpenSpec.upto alikeSignsSpec)

end Rows
end Go.Proofs.Ytpghnbpoodcglaa
