/- What sort.Search returns: the contract of the shelf, at this program (written by lay-plain.mjs). -/
import Derived.Test.YtbcnkcndhgihaaaDoorProg
import Derived.WalkKit
import Derived.Ground.SlsoProg
import Derived.Shelf.SlSorted.Search
namespace Go.Proofs
open Go.Shelf
def Tryd.search16_ren : Go.Shelf.Ren := ⟨fun | 16 => 77 | n => n, fun | 3 => 3 | 35 => 98 | 4 => 4 | 38 => 110 | n => n, fun | n => n⟩
theorem Tryd.search16 : Go.Proofs.SlLaysO.n16 Tryd.prog Tryd.search16_ren := {
  mixed := by kernel_rfl
  f16 := Tryd.func77.trans (congrArg some (by kernel_rfl))
  t3 := Tryd.underlying3
  a3 := Tryd.isAgg3
  z3 := Tryd.sizeOf3
  v3 := Tryd.zeroValue3
  t4 := Tryd.underlying4
  a4 := Tryd.isAgg4
  z4 := Tryd.sizeOf4
  v4 := Tryd.zeroValue4
  t35 := Tryd.underlying98
  a35 := Tryd.isAgg98
  z35 := Tryd.sizeOf98
  v35 := Tryd.zeroValue98
  t38 := Tryd.underlying110
  a38 := Tryd.isAgg110
  z38 := Tryd.sizeOf110
  v38 := Tryd.zeroValue110 }
end Go.Proofs
