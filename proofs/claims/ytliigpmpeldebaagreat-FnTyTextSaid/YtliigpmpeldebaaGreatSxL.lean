/- Draws: an SExpr that may be long, and its text. Conditions: none. -/
import Derived.Test.YtliigpmpeldebaaGreatSxG
namespace Go.Proofs.YtliigpmpeldebaaGreat
open Go.RowKit

end Go.Proofs.YtliigpmpeldebaaGreat
