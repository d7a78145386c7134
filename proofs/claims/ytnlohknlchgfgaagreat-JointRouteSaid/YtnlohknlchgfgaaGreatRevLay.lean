/- The kit's contract of slices.Reverse, laid at this translation: plain declarations, printed by program (wip/bin/layplain.sh). -/
import Derived.Shelf.SlicesE.Reverse
import Derived.Test.YtnlohknlchgfgaaGreatProg
namespace Go.Proofs.YtnlohknlchgfgaaGreat
open Go.Shelf
def revS_ren : Go.Shelf.Ren := ⟨fun | 35 => 177 | n => n, fun | 22 => 30 | 23 => 29 | 3 => 3 | 4 => 4 | 0 => 0 | n => n, fun | n => n⟩
theorem revS : Go.Proofs.SlLaysE.n35 Tryz.prog revS_ren := {
  mixed := by kernel_rfl,
  f35 := ⟨Tryz.f177.name, by decide, Tryz.func177.trans (congrArg some (by kernel_rfl))⟩,
  t0 := Tryz.underlying0,
  a0 := Tryz.isAgg0,
  z0 := Tryz.sizeOf0,
  v0 := Tryz.zeroValue0,
  t3 := Tryz.underlying3,
  a3 := Tryz.isAgg3,
  z3 := Tryz.sizeOf3,
  v3 := Tryz.zeroValue3,
  t4 := Tryz.underlying4,
  a4 := Tryz.isAgg4,
  z4 := Tryz.sizeOf4,
  v4 := Tryz.zeroValue4,
  t22 := Tryz.underlying30,
  a22 := Tryz.isAgg30,
  z22 := Tryz.sizeOf30,
  v22 := Tryz.zeroValue30,
  a23 := Tryz.isAgg29,
  z23 := Tryz.sizeOf29 }
end Go.Proofs.YtnlohknlchgfgaaGreat
