/- Bindings among a law's arguments, opened. Conditions: none. -/
import Derived.Test.YtmecmdnnhldjpaaDoorLawU
import Derived.Test.YtmecmdnnhldjpaaDoorBdA
namespace Go.Proofs.YtmecmdnnhldjpaaDoor
open Go.ChangeShapes Go.WideShapes Go.ChangeAt Go.RowKit

end Go.Proofs.YtmecmdnnhldjpaaDoor
