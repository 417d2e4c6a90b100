/- Contracts: strings.Builder, by the library's own. Conditions: none. -/
import Derived.Test.YtliigpmpeldebaaStrG
import Derived.Shelf.Strings.BuilderK
namespace Go.Proofs.Ytliigpmpeldebaa
open Go.Shelf

end Go.Proofs.Ytliigpmpeldebaa
