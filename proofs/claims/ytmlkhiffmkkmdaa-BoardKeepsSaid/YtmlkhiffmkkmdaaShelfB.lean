/- More contracts of Go's library at this program: one application of the library's theorem each (as the shelf's plain mode writes them). -/
import Derived.Shelf.Small.Strs
import Derived.Shelf.GgClosure.StringsIndexFunc
import Derived.Ground.GgwProg
import Derived.Shelf.GgClosure.StringsIndexFuncTop
import Derived.Shelf.Strings.Prefix
import Derived.Test.YtmlkhiffmkkmdaaProg
import Derived.Test.YtmlkhiffmkkmdaaShelf
namespace Go.Proofs
open Go.Shelf
end Go.Proofs
