/- Texts joined into one (wip/bin/pack.py): RJ29c, Eq29. -/
import Derived.Test.YtijknodekomdfaaGreatDoorKZe
import Derived.BigQuiet
/- The reference's Of (layer 29); printed by gen/rof29.py. -/
namespace Go.Proofs.YtijknodekomdfaaGreatDoor
open Go.RowKit Go.Lib Go.Shelf

end Go.Proofs.YtijknodekomdfaaGreatDoor
/- The reference's Same and Equal at equal arguments (layer 29). -/
namespace Go.Proofs.YtijknodekomdfaaGreatDoor
open Go.RowKit Go.Lib Go.Shelf

end Go.Proofs.YtijknodekomdfaaGreatDoor
