/- slices.Reverse does not occur at this translation: nothing is laid here. -/
import Derived.Test.YtcnccoinhohbeaaGreatDoorProg
namespace Go.Proofs.YtcnccoinhohbeaaGreatDoor
end Go.Proofs.YtcnccoinhohbeaaGreatDoor
