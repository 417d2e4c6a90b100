/- The kinds of this translation's types, as the engine asks them. Conditions: none. -/
import Derived.Test.YtmaklbdlijcopaaDoorChecked
import Derived.Test.YtmaklbdlijcopaaDoorOwn
namespace Go.Proofs.YtmaklbdlijcopaaDoor
def tt : TT := [
  (9, .str), (4, .boo)
  , (30, .slc 9)
  ]
theorem ttOk : TOk Tryd.prog tt := ttB_ok (by kernel_rfl)

theorem tiBool : TyI Tryd.prog 4 (.bool false) 1 1 := TyI.of (by kernel_rfl)
theorem tiStr : TyI Tryd.prog 9 (.string ⟨#[]⟩) 1 16 := TyI.of (by kernel_rfl)
end Go.Proofs.YtmaklbdlijcopaaDoor
