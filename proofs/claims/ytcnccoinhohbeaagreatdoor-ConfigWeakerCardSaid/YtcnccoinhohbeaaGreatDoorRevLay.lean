/- Nothing is laid here: slices.Reverse does not occur. -/
import Derived.Test.YtcnccoinhohbeaaGreatDoorProg
namespace Go.Proofs.YtcnccoinhohbeaaGreatDoor
end Go.Proofs.YtcnccoinhohbeaaGreatDoor
