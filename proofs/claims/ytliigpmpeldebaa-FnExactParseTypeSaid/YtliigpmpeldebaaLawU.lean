/- Types among a law's arguments, opened. Conditions: none. -/
import Derived.Test.YtliigpmpeldebaaLawT
import Derived.Test.YtliigpmpeldebaaTyA
namespace Go.Proofs.Ytliigpmpeldebaa
open Go.ChangeShapes Go.WideShapes Go.ChangeAt Go.RowKit

end Go.Proofs.Ytliigpmpeldebaa
