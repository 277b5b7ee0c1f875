/-
  DERIVED. GIVEN WITH THE SEED: THE CARDS: each row of YtmlkhiffmkkmdaaDoorRows.lean that lists a variable, with what it lists TIED to the program's text (the seventh form; the later family's looks); each row that meets fmt, with fmt's text TOLD by the authors' own Lean function (tested against real Go, not proved from fmt's source: count such statements apart). THE CARD IS WHAT COUNTS. Prove the row's statement (the work); the ties are given (YtmlkhiffmkkmdaaDoorTie.lean); close each card by the builder's one call (the guide's Derived/Test/ToyasCard.lean, 'card_holds'). Laid BY PROGRAM, IN A SANDBOX (cutbox-door.mjs). By AI agents, Wed Nov 11 2026. No macro, syntax, notation, axiom, sorry.
-/
import Derived.Test.YtmlkhiffmkkmdaaDoorRows
import GoSem.ClaimSeven
namespace Go.Proofs.YtmlkhiffmkkmdaaDoor
namespace Rows

/-- THE TIED CARD OF 'culkeep.StateBack'. -/
def stateBackCard : Claim7 := { stood := { row := stateBackRow, standIns := [], harness := (true, "a89aba4894112630552f9a123412f9b220c18f2d9a528b0b9a6aaa53c7e29871"), looks := false }, kinds := [], alts := [], laidByText := true, laidKinds := [.data, .pinned], laidTests := true, laidLooks := .later }
def StateBackCardSaid : Prop := Claim7.holds Tryd.pinned (.plain (OpenSpec.ofChange stateBackSpec)) stateBackCard

/-- THE SECOND FORM's CARD OF 'culkeep.StateBack'. -/
def stateBackUptoCard : Claim7 := { stood := { row := stateBackUptoRow, standIns := [], harness := (true, "a89aba4894112630552f9a123412f9b220c18f2d9a528b0b9a6aaa53c7e29871"), looks := false }, kinds := [], alts := [], laidByText := true, laidKinds := [.data, .pinned], laidTests := true, laidLooks := .later }
def StateBackUptoCardSaid : Prop := Claim7.holds Tryd.pinned (.plain (OpenSpec.upto stateBackSpec)) stateBackUptoCard
end Rows
end Go.Proofs.YtmlkhiffmkkmdaaDoor
