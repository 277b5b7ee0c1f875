/- Contract of slices.Equal at integers: whether two lists are the same. -/
import Derived.Test.YtgodgfnfaiiohaaGreatDoorMem
import Derived.Deep.QuietTactic
import Derived.BigQuiet
import Derived.WalkSmall
namespace Go.Proofs.YtgodgfnfaiiohaaGreatDoor
open Go.ChangeShapes Go.WideShapes Go.ChangeAt Go.RowKit
set_option maxRecDepth 20000

end Go.Proofs.YtgodgfnfaiiohaaGreatDoor
