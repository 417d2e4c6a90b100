/- Types among a law's arguments, opened. Conditions: none. -/
import Derived.Test.YtapfcmlkcekfmaaLawT
import Derived.Test.YtapfcmlkcekfmaaTyA
namespace Go.Proofs.Ytapfcmlkcekfmaa
open Go.ChangeShapes Go.WideShapes Go.ChangeAt Go.RowKit

end Go.Proofs.Ytapfcmlkcekfmaa
