/- Draws: an SExpr, bent. Conditions: none. -/
import Derived.Test.YtliigpmpeldebaaSxF
namespace Go.Proofs.Ytliigpmpeldebaa
open Go.RowKit

end Go.Proofs.Ytliigpmpeldebaa
