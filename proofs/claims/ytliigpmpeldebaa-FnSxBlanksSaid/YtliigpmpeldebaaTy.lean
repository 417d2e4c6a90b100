/- The kinds of this translation's types, as the engine asks them. Conditions: none. -/
import Derived.Test.YtliigpmpeldebaaChecked
import Derived.Test.YtliigpmpeldebaaOwn
namespace Go.Proofs.Ytliigpmpeldebaa
def tt : TT := [
  (9, .str), (4, .boo)
  , (45, .slc 9)
  , (25, .slc 27)
  , (32, .slc 34)
  ]
theorem ttOk : TOk Try.prog tt := ttB_ok (by kernel_rfl)

theorem tiSx : TyI Try.prog 27 (.agg #[.string ⟨#[]⟩, .slice none 0 0]) 2 40 := TyI.of (by kernel_rfl)
theorem tiTy : TyI Try.prog 34 (.agg #[.int .i64 0, .string ⟨#[]⟩, .slice none 0 0]) 3 48 := TyI.of (by kernel_rfl)
theorem tiBool : TyI Try.prog 4 (.bool false) 1 1 := TyI.of (by kernel_rfl)
theorem tiStr : TyI Try.prog 9 (.string ⟨#[]⟩) 1 16 := TyI.of (by kernel_rfl)
end Go.Proofs.Ytliigpmpeldebaa
