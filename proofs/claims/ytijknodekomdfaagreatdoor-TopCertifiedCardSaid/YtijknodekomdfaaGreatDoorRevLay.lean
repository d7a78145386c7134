/- The kit's contract of slices.Reverse, laid at this translation: plain declarations, printed by program (wip/bin/layplain.sh). -/
import Derived.Shelf.SlicesE.Reverse
import Derived.Test.YtijknodekomdfaaGreatDoorProg
namespace Go.Proofs.YtijknodekomdfaaGreatDoor
open Go.Shelf
def revS_ren : Go.Shelf.Ren := ⟨fun | 35 => 218 | n => n, fun | 22 => 25 | 23 => 31 | 3 => 3 | 4 => 4 | 0 => 0 | n => n, fun | n => n⟩
theorem revS : Go.Proofs.SlLaysE.n35 Tryz.prog revS_ren := {
  mixed := by kernel_rfl,
  f35 := ⟨Tryz.f218.name, by decide, Tryz.func218.trans (congrArg some (by kernel_rfl))⟩,
  t0 := Tryz.underlying0,
  a0 := Tryz.isAgg0,
  z0 := Tryz.sizeOf0,
  v0 := Tryz.zeroValue0,
  t3 := Tryz.underlying3,
  a3 := Tryz.isAgg3,
  z3 := Tryz.sizeOf3,
  v3 := Tryz.zeroValue3,
  t4 := Tryz.underlying4,
  a4 := Tryz.isAgg4,
  z4 := Tryz.sizeOf4,
  v4 := Tryz.zeroValue4,
  t22 := Tryz.underlying25,
  a22 := Tryz.isAgg25,
  z22 := Tryz.sizeOf25,
  v22 := Tryz.zeroValue25,
  a23 := Tryz.isAgg31,
  z23 := Tryz.sizeOf31 }
end Go.Proofs.YtijknodekomdfaaGreatDoor
