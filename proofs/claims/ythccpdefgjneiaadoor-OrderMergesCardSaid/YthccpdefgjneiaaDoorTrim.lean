/- What strings.Trim returns: the contract of the shelf, at this program (written by lay-plain.mjs). -/
import Derived.Test.YthccpdefgjneiaaDoorProg
import Derived.WalkKit
import Derived.Ground.NamesProg
import Derived.Shelf.Strings.SlTrimAscii
namespace Go.Proofs
open Go.Shelf
def Tryd.lays160_ren : Go.Shelf.Ren := ⟨fun | 160 => 77 | 232 => 83 | 231 => 82 | 227 => 84 | 234 => 86 | 233 => 85 | 236 => 88 | 235 => 87 | 228 => 89 | 271 => 92 | 151 => 91 | 197 => 90 | 120 => 95 | 152 => 94 | 260 => 93 | 137 => 96 | 119 => 97 | 224 => 98 | 225 => 99 | 217 => 100 | 266 => 101 | n => n, fun | 9 => 9 | 4 => 4 | 3 => 3 | 5 => 5 | 117 => 112 | 116 => 111 | 0 => 0 | 124 => 115 | 21 => 21 | 105 => 117 | 46 => 122 | 119 => 121 | 139 => 125 | 138 => 124 | n => n, fun | 3 => 0 | 4 => 1 | n => n⟩
theorem Tryd.lays160 : Go.Proofs.Lays.n160 Tryd.prog Tryd.lays160_ren := {
  mixed := by kernel_rfl
  f119 := Tryd.func97.trans (congrArg some (by kernel_rfl))
  f120 := Tryd.func95.trans (congrArg some (by kernel_rfl))
  f137 := Tryd.func96.trans (congrArg some (by kernel_rfl))
  f151 := Tryd.func91.trans (congrArg some (by kernel_rfl))
  f152 := Tryd.func94.trans (congrArg some (by kernel_rfl))
  f160 := Tryd.func77.trans (congrArg some (by kernel_rfl))
  f197 := Tryd.func90.trans (congrArg some (by kernel_rfl))
  f217 := Tryd.func100.trans (congrArg some (by kernel_rfl))
  f224 := Tryd.func98.trans (congrArg some (by kernel_rfl))
  f225 := Tryd.func99.trans (congrArg some (by kernel_rfl))
  f227 := Tryd.func84.trans (congrArg some (by kernel_rfl))
  f228 := Tryd.func89.trans (congrArg some (by kernel_rfl))
  f231 := Tryd.func82.trans (congrArg some (by kernel_rfl))
  f232 := Tryd.func83.trans (congrArg some (by kernel_rfl))
  f233 := Tryd.func85.trans (congrArg some (by kernel_rfl))
  f234 := Tryd.func86.trans (congrArg some (by kernel_rfl))
  f235 := Tryd.func87.trans (congrArg some (by kernel_rfl))
  f236 := Tryd.func88.trans (congrArg some (by kernel_rfl))
  f260 := Tryd.func93.trans (congrArg some (by kernel_rfl))
  f266 := Tryd.func101.trans (congrArg some (by kernel_rfl))
  f271 := Tryd.func92.trans (congrArg some (by kernel_rfl))
  t0 := Tryd.underlying0
  a0 := Tryd.isAgg0
  z0 := Tryd.sizeOf0
  v0 := Tryd.zeroValue0
  t3 := Tryd.underlying3
  a3 := Tryd.isAgg3
  z3 := Tryd.sizeOf3
  v3 := Tryd.zeroValue3
  t4 := Tryd.underlying4
  a4 := Tryd.isAgg4
  z4 := Tryd.sizeOf4
  v4 := Tryd.zeroValue4
  t5 := Tryd.underlying5
  a5 := Tryd.isAgg5
  z5 := Tryd.sizeOf5
  v5 := Tryd.zeroValue5
  t9 := Tryd.underlying9
  a9 := Tryd.isAgg9
  z9 := Tryd.sizeOf9
  v9 := Tryd.zeroValue9
  t21 := Tryd.underlying21
  a21 := Tryd.isAgg21
  z21 := Tryd.sizeOf21
  v21 := Tryd.zeroValue21
  t46 := Tryd.underlying122
  a46 := Tryd.isAgg122
  z46 := Tryd.sizeOf122
  v46 := Tryd.zeroValue122
  t105 := Tryd.underlying117
  a105 := Tryd.isAgg117
  z105 := Tryd.sizeOf117
  v105 := Tryd.zeroValue117
  t116 := Tryd.underlying111
  a116 := Tryd.isAgg111
  z116 := Tryd.sizeOf111
  t117 := Tryd.underlying112
  a117 := Tryd.isAgg112
  z117 := Tryd.sizeOf112
  v117 := Tryd.zeroValue112
  t119 := Tryd.underlying121
  a119 := Tryd.isAgg121
  z119 := Tryd.sizeOf121
  t124 := Tryd.underlying115
  a124 := Tryd.isAgg115
  z124 := Tryd.sizeOf115
  v124 := Tryd.zeroValue115
  t138 := Tryd.underlying124
  a138 := Tryd.isAgg124
  z138 := Tryd.sizeOf124
  v138 := Tryd.zeroValue124
  t139 := Tryd.underlying125
  a139 := Tryd.isAgg125
  z139 := Tryd.sizeOf125
  v139 := Tryd.zeroValue125
  g3 := by kernel_rfl
  g4 := by kernel_rfl }
end Go.Proofs
