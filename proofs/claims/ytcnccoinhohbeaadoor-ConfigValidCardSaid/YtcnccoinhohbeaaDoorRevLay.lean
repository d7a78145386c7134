/- slices.Reverse does not occur at this translation: nothing is laid here. -/
import Derived.Test.YtcnccoinhohbeaaDoorProg
namespace Go.Proofs.YtcnccoinhohbeaaDoor
end Go.Proofs.YtcnccoinhohbeaaDoor
