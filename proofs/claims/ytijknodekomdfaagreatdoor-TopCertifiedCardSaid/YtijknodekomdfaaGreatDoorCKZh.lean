/- Texts joined into one, what is needed of them (a program of ours). -/
import Derived.Test.YtijknodekomdfaaGreatDoorCKZe
import Derived.BigQuiet
import Derived.Test.YtijknodekomdfaaGreatDoorCKZg
import Derived.Deep.RegionHeld3
import Derived.Deep.RegionLaw
import Derived.Lib.QuietBelow
namespace Go.Proofs.YtijknodekomdfaaGreatDoor
open Go.RowKit Go.Lib Go.Shelf

def mvL (k : Nat) (l : List S) : List S := l.map fun (x : S) => (x <<< k : S)
@[go_sem] theorem sv_and4095 (x : S) : bits .and .u16 (sv x) 4095 = sv (x &&& 4095#16) := by
  have : (4095 : Int) = sv 4095#16 := rfl
  rw [this, sv_and]
end Go.Proofs.YtijknodekomdfaaGreatDoor
