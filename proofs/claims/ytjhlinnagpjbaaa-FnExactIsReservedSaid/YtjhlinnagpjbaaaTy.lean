/- The kinds of this translation's types, as the engine asks them. Conditions: none. -/
import Derived.Test.YtjhlinnagpjbaaaChecked
import Derived.Test.YtjhlinnagpjbaaaOwn
namespace Go.Proofs.Ytjhlinnagpjbaaa
def tt : TT := [
  (9, .str), (4, .boo)
  , (24, .slc 9)
  ]
theorem ttOk : TOk Try.prog tt := ttB_ok (by kernel_rfl)

theorem tiBool : TyI Try.prog 4 (.bool false) 1 1 := TyI.of (by kernel_rfl)
theorem tiStr : TyI Try.prog 9 (.string ⟨#[]⟩) 1 16 := TyI.of (by kernel_rfl)
end Go.Proofs.Ytjhlinnagpjbaaa
