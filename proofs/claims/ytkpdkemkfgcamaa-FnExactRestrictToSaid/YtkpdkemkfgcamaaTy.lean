/- The kinds of this translation's types, as the engine asks them. Conditions: none. -/
import Derived.Test.YtkpdkemkfgcamaaChecked
import Derived.Test.YtkpdkemkfgcamaaOwn
namespace Go.Proofs.Ytkpdkemkfgcamaa
def tt : TT := [
  (9, .str), (4, .boo)
  , (55, .slc 9)
  , (26, .slc 40)
  , (23, .slc 37)
  ]
theorem ttOk : TOk Try.prog tt := ttB_ok (by kernel_rfl)

theorem tiTy : TyI Try.prog 40 (.agg #[.int .i64 0, .string ⟨#[]⟩, .slice none 0 0]) 3 48 := TyI.of (by kernel_rfl)
theorem tiBool : TyI Try.prog 4 (.bool false) 1 1 := TyI.of (by kernel_rfl)
theorem tiStr : TyI Try.prog 9 (.string ⟨#[]⟩) 1 16 := TyI.of (by kernel_rfl)
end Go.Proofs.Ytkpdkemkfgcamaa
