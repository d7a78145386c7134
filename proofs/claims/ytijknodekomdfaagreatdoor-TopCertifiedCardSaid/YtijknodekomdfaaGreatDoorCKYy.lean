/- Texts joined into one, what is needed of them (a program of ours). -/
import Derived.Test.YtijknodekomdfaaGreatDoorCKYw
import Derived.Lib.QuietBelow
import Derived.Test.YtijknodekomdfaaGreatDoorCKC
import Derived.Test.YtijknodekomdfaaGreatDoorCKF
import Derived.Test.YtijknodekomdfaaGreatDoorCKYv
import Derived.Lib.SlicesCompact
import Derived.Deep.LoopGhost
import Derived.Lib.SliceRun
namespace Go.Proofs.YtijknodekomdfaaGreatDoor
open Go.RowKit Go.Lib Go.Shelf Go.Sort

/-- the models' error: too many faults -/
def limE (l : List F2) : Int := if 100 < l.length then 3 else 0
end Go.Proofs.YtijknodekomdfaaGreatDoor
