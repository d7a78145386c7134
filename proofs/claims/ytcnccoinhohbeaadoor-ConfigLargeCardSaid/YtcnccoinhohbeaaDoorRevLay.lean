/- Nothing: slices.Reverse does not occur in this seat. -/
import Derived.Test.YtcnccoinhohbeaaDoorProg
namespace Go.Proofs.YtcnccoinhohbeaaDoor
end Go.Proofs.YtcnccoinhohbeaaDoor
