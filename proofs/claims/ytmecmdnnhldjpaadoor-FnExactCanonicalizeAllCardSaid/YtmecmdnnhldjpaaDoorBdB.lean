/- Contracts: EqualBindings; copies of Types; Lookup. Conditions: none. -/
import Derived.Test.YtmecmdnnhldjpaaDoorBdA
import Derived.Test.YtmecmdnnhldjpaaDoorGrow
namespace Go.Proofs.YtmecmdnnhldjpaaDoor
open Go.RowKit


end Go.Proofs.YtmecmdnnhldjpaaDoor
