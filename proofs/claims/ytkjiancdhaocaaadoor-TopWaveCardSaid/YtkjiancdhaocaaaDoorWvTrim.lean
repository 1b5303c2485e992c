/- The shelf's contract of strings.Trim, laid at this translation (its plain form was printed by the shelf's own tool). -/
import Derived.Test.YtkjiancdhaocaaaDoorProg
import Derived.WalkKit
import Derived.Ground.NamesProg
import Derived.Shelf.Strings.SlTrimAscii
namespace Go.Proofs
set_option linter.unusedVariables false
open Go.Shelf
def Tryd.lays160_ren : Go.Shelf.Ren := ⟨fun | 160 => 54 | 232 => 65 | 231 => 64 | 227 => 66 | 234 => 68 | 233 => 67 | 236 => 70 | 235 => 69 | 228 => 76 | 271 => 79 | 151 => 78 | 197 => 77 | 120 => 82 | 152 => 81 | 260 => 80 | 137 => 83 | 119 => 84 | 224 => 85 | 225 => 86 | 217 => 87 | 266 => 88 | n => n, fun | 9 => 9 | 4 => 4 | 3 => 3 | 5 => 5 | 117 => 105 | 116 => 104 | 0 => 0 | 124 => 108 | 21 => 21 | 105 => 112 | 46 => 63 | 119 => 116 | 139 => 119 | 138 => 118 | n => n, fun | 3 => 0 | 4 => 1 | n => n⟩
theorem Tryd.lays160 : Go.Proofs.Lays.n160 Tryd.prog Tryd.lays160_ren := {
  mixed := by kernel_rfl
  f119 := Tryd.func84.trans (congrArg some (by kernel_rfl))
  f120 := Tryd.func82.trans (congrArg some (by kernel_rfl))
  f137 := Tryd.func83.trans (congrArg some (by kernel_rfl))
  f151 := Tryd.func78.trans (congrArg some (by kernel_rfl))
  f152 := Tryd.func81.trans (congrArg some (by kernel_rfl))
  f160 := Tryd.func54.trans (congrArg some (by kernel_rfl))
  f197 := Tryd.func77.trans (congrArg some (by kernel_rfl))
  f217 := Tryd.func87.trans (congrArg some (by kernel_rfl))
  f224 := Tryd.func85.trans (congrArg some (by kernel_rfl))
  f225 := Tryd.func86.trans (congrArg some (by kernel_rfl))
  f227 := Tryd.func66.trans (congrArg some (by kernel_rfl))
  f228 := Tryd.func76.trans (congrArg some (by kernel_rfl))
  f231 := Tryd.func64.trans (congrArg some (by kernel_rfl))
  f232 := Tryd.func65.trans (congrArg some (by kernel_rfl))
  f233 := Tryd.func67.trans (congrArg some (by kernel_rfl))
  f234 := Tryd.func68.trans (congrArg some (by kernel_rfl))
  f235 := Tryd.func69.trans (congrArg some (by kernel_rfl))
  f236 := Tryd.func70.trans (congrArg some (by kernel_rfl))
  f260 := Tryd.func80.trans (congrArg some (by kernel_rfl))
  f266 := Tryd.func88.trans (congrArg some (by kernel_rfl))
  f271 := Tryd.func79.trans (congrArg some (by kernel_rfl))
  t0 := Tryd.underlying0
  a0 := Tryd.isAgg0
  z0 := Tryd.sizeOf0
  v0 := Tryd.zeroValue0
  t3 := Tryd.underlying3
  a3 := Tryd.isAgg3
  z3 := Tryd.sizeOf3
  v3 := Tryd.zeroValue3
  t4 := Tryd.underlying4
  a4 := Tryd.isAgg4
  z4 := Tryd.sizeOf4
  v4 := Tryd.zeroValue4
  t5 := Tryd.underlying5
  a5 := Tryd.isAgg5
  z5 := Tryd.sizeOf5
  v5 := Tryd.zeroValue5
  t9 := Tryd.underlying9
  a9 := Tryd.isAgg9
  z9 := Tryd.sizeOf9
  v9 := Tryd.zeroValue9
  t21 := Tryd.underlying21
  a21 := Tryd.isAgg21
  z21 := Tryd.sizeOf21
  v21 := Tryd.zeroValue21
  t46 := Tryd.underlying63
  a46 := Tryd.isAgg63
  z46 := Tryd.sizeOf63
  v46 := Tryd.zeroValue63
  t105 := Tryd.underlying112
  a105 := Tryd.isAgg112
  z105 := Tryd.sizeOf112
  v105 := Tryd.zeroValue112
  t116 := Tryd.underlying104
  a116 := Tryd.isAgg104
  z116 := Tryd.sizeOf104
  t117 := Tryd.underlying105
  a117 := Tryd.isAgg105
  z117 := Tryd.sizeOf105
  v117 := Tryd.zeroValue105
  t119 := Tryd.underlying116
  a119 := Tryd.isAgg116
  z119 := Tryd.sizeOf116
  t124 := Tryd.underlying108
  a124 := Tryd.isAgg108
  z124 := Tryd.sizeOf108
  v124 := Tryd.zeroValue108
  t138 := Tryd.underlying118
  a138 := Tryd.isAgg118
  z138 := Tryd.sizeOf118
  v138 := Tryd.zeroValue118
  t139 := Tryd.underlying119
  a139 := Tryd.isAgg119
  z139 := Tryd.sizeOf119
  v139 := Tryd.zeroValue119
  g3 := by kernel_rfl
  g4 := by kernel_rfl }
end Go.Proofs
