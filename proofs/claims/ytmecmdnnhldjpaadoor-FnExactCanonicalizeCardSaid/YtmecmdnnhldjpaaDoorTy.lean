/- The kinds of this translation's types, as the engine asks them. Conditions: none. -/
import Derived.Test.YtmecmdnnhldjpaaDoorChecked
import Derived.Test.YtmecmdnnhldjpaaDoorOwn
namespace Go.Proofs.YtmecmdnnhldjpaaDoor
def tt : TT := [
  (9, .str), (4, .boo)
  , (49, .slc 9)
  , (26, .slc 38)
  , (22, .slc 34)
  ]
theorem ttOk : TOk Tryd.prog tt := ttB_ok (by kernel_rfl)

theorem tiTy : TyI Tryd.prog 38 (.agg #[.int .i64 0, .string ⟨#[]⟩, .slice none 0 0]) 3 48 := TyI.of (by kernel_rfl)
theorem tiBool : TyI Tryd.prog 4 (.bool false) 1 1 := TyI.of (by kernel_rfl)
theorem tiStr : TyI Tryd.prog 9 (.string ⟨#[]⟩) 1 16 := TyI.of (by kernel_rfl)
end Go.Proofs.YtmecmdnnhldjpaaDoor
