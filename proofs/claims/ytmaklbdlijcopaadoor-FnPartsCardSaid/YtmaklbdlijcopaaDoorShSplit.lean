/- The library's function strings.Split, as the shelf names it. Conditions: none. -/
import Derived.Shelf.Strings.SplitShaped
import Derived.Shelf.LaysM
import Derived.Shelf.LaysC
import Derived.Test.YtmaklbdlijcopaaDoorChecked
namespace Go.Proofs.YtmaklbdlijcopaaDoor
open Go.Shelf Go.Proofs
def sh_laysM146_ren : Go.Shelf.Ren := ⟨fun | 146 => 33 | 221 => 40 | 268 => 48 | 138 => 49 | 143 => 50 | 195 => 62 | 197 => 63 | 218 => 64 | 219 => 65 | 260 => 76 | 217 => 77 | 225 => 78 | 224 => 79 | 267 => 80 | 266 => 85 | 314 => 86 | n => n, fun | 9 => 9 | 31 => 30 | 3 => 3 | 4 => 4 | 0 => 0 | 105 => 81 | 21 => 21 | 5 => 5 | 46 => 67 | 119 => 104 | 139 => 107 | 138 => 106 | 146 => 108 | 51 => 90 | n => n, fun | 1 => 3 | 3 => 4 | 4 => 5 | n => n⟩
theorem sh_laysM146 : Go.Proofs.LaysM.n146 Tryd.prog sh_laysM146_ren := {
  mixed := by kernel_rfl
  f138 := Tryd.func49.trans (congrArg some (by kernel_rfl))
  f143 := Tryd.func50.trans (congrArg some (by kernel_rfl))
  f146 := Tryd.func33.trans (congrArg some (by kernel_rfl))
  f195 := Tryd.func62.trans (congrArg some (by kernel_rfl))
  f197 := Tryd.func63.trans (congrArg some (by kernel_rfl))
  f217 := Tryd.func77.trans (congrArg some (by kernel_rfl))
  f218 := Tryd.func64.trans (congrArg some (by kernel_rfl))
  f219 := Tryd.func65.trans (congrArg some (by kernel_rfl))
  f221 := Tryd.func40.trans (congrArg some (by kernel_rfl))
  f224 := Tryd.func79.trans (congrArg some (by kernel_rfl))
  f225 := Tryd.func78.trans (congrArg some (by kernel_rfl))
  f260 := Tryd.func76.trans (congrArg some (by kernel_rfl))
  f266 := Tryd.func85.trans (congrArg some (by kernel_rfl))
  f267 := Tryd.func80.trans (congrArg some (by kernel_rfl))
  f268 := Tryd.func48.trans (congrArg some (by kernel_rfl))
  f314 := Tryd.func86.trans (congrArg some (by kernel_rfl))
  t0 := Tryd.underlying0
  a0 := Tryd.isAgg0
  z0 := Tryd.sizeOf0
  v0 := Tryd.zeroValue0
  t3 := Tryd.underlying3
  a3 := Tryd.isAgg3
  z3 := Tryd.sizeOf3
  v3 := Tryd.zeroValue3
  t4 := Tryd.underlying4
  a4 := Tryd.isAgg4
  z4 := Tryd.sizeOf4
  v4 := Tryd.zeroValue4
  t5 := Tryd.underlying5
  a5 := Tryd.isAgg5
  z5 := Tryd.sizeOf5
  v5 := Tryd.zeroValue5
  t9 := Tryd.underlying9
  a9 := Tryd.isAgg9
  z9 := Tryd.sizeOf9
  v9 := Tryd.zeroValue9
  t21 := Tryd.underlying21
  a21 := Tryd.isAgg21
  z21 := Tryd.sizeOf21
  v21 := Tryd.zeroValue21
  t31 := Tryd.underlying30
  a31 := Tryd.isAgg30
  z31 := Tryd.sizeOf30
  v31 := Tryd.zeroValue30
  t46 := Tryd.underlying67
  a46 := Tryd.isAgg67
  z46 := Tryd.sizeOf67
  v46 := Tryd.zeroValue67
  t51 := Tryd.underlying90
  a51 := Tryd.isAgg90
  z51 := Tryd.sizeOf90
  v51 := Tryd.zeroValue90
  t105 := Tryd.underlying81
  a105 := Tryd.isAgg81
  z105 := Tryd.sizeOf81
  v105 := Tryd.zeroValue81
  t119 := Tryd.underlying104
  a119 := Tryd.isAgg104
  z119 := Tryd.sizeOf104
  t138 := Tryd.underlying106
  a138 := Tryd.isAgg106
  z138 := Tryd.sizeOf106
  v138 := Tryd.zeroValue106
  t139 := Tryd.underlying107
  a139 := Tryd.isAgg107
  z139 := Tryd.sizeOf107
  v139 := Tryd.zeroValue107
  t146 := Tryd.underlying108
  a146 := Tryd.isAgg108
  z146 := Tryd.sizeOf108
  v146 := Tryd.zeroValue108
  g1 := by kernel_rfl
  g3 := by kernel_rfl
  g4 := by kernel_rfl
  i0 := by kernel_rfl
  i3 := by kernel_rfl
  i4 := by kernel_rfl
  i5 := by kernel_rfl
  i9 := by kernel_rfl
  i21 := by kernel_rfl
  i31 := by kernel_rfl
  i46 := by kernel_rfl
  i51 := by kernel_rfl
  i105 := by kernel_rfl
  i138 := by kernel_rfl
  i139 := by kernel_rfl
  i146 := by kernel_rfl
  m1 := by kernel_rfl
  s1_3 := fun w h => Go.Proofs.cell_of_shapedOpen_int (zero := #[.int .i64 0]) (t := 3) h (of_decide_eq_true (by kernel_rfl)) (by kernel_rfl) rfl (by kernel_rfl) (by kernel_rfl) Tryd.underlying3
  m3 := by kernel_rfl
  m4 := by kernel_rfl }
end Go.Proofs.YtmaklbdlijcopaaDoor
