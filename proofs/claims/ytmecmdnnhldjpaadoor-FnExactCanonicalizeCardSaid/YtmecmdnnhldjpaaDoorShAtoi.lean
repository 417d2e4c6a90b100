/- The library's function strconv.Atoi, as the shelf names it. Conditions: none. -/
import Derived.Shelf.Strconv.ErrVarAll
import Derived.Shelf.LaysM
import Derived.Shelf.LaysC
import Derived.Test.YtmecmdnnhldjpaaDoorChecked
namespace Go.Proofs.YtmecmdnnhldjpaaDoor
open Go.Shelf Go.Proofs
end Go.Proofs.YtmecmdnnhldjpaaDoor
