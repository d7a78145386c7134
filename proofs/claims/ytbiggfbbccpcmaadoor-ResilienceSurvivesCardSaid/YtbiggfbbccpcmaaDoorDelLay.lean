/- The kit's contract of slices.DeleteFunc, laid at this translation: plain declarations, printed by program (wip/bin/layplain.sh). -/
import Derived.Shelf.SlicesE.DeleteFunc
import Derived.Test.YtbiggfbbccpcmaaDoorProg
namespace Go.Proofs.YtbiggfbbccpcmaaDoor
open Go.Shelf
def delS_ren : Go.Shelf.Ren := ⟨fun | 10 => 54 | 6 => 74 | n => n, fun | 22 => 23 | 23 => 31 | 25 => 67 | 3 => 3 | 4 => 4 | 0 => 0 | n => n, fun | n => n⟩
theorem delS : Go.Proofs.SlLaysH.n10 Tryd.prog delS_ren := {
  mixed := by kernel_rfl,
  f6 := ⟨Tryd.f74.name, by decide, Tryd.func74.trans (congrArg some (by kernel_rfl))⟩,
  f10 := ⟨Tryd.f54.name, by decide, Tryd.func54.trans (congrArg some (by kernel_rfl))⟩,
  t0 := Tryd.underlying0,
  a0 := Tryd.isAgg0,
  z0 := Tryd.sizeOf0,
  v0 := Tryd.zeroValue0,
  t3 := Tryd.underlying3,
  a3 := Tryd.isAgg3,
  z3 := Tryd.sizeOf3,
  v3 := Tryd.zeroValue3,
  t4 := Tryd.underlying4,
  a4 := Tryd.isAgg4,
  z4 := Tryd.sizeOf4,
  v4 := Tryd.zeroValue4,
  t22 := Tryd.underlying23,
  a22 := Tryd.isAgg23,
  z22 := Tryd.sizeOf23,
  v22 := Tryd.zeroValue23,
  a23 := Tryd.isAgg31,
  z23 := Tryd.sizeOf31,
  t25 := Tryd.underlying67,
  a25 := Tryd.isAgg67,
  z25 := Tryd.sizeOf67,
  v25 := Tryd.zeroValue67 }
end Go.Proofs.YtbiggfbbccpcmaaDoor
