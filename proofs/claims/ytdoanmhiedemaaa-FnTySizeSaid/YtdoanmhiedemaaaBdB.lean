/- Contracts: EqualBindings; copies of Types; Lookup. Conditions: none. -/
import Derived.Test.YtdoanmhiedemaaaBdA
import Derived.Test.YtdoanmhiedemaaaGrow
namespace Go.Proofs.Ytdoanmhiedemaaa
open Go.RowKit


end Go.Proofs.Ytdoanmhiedemaaa
