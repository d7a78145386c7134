/- No sorting function occurs in this cut: only the kit's law files are imported here. -/
import Derived.Shelf.SlicesE.Compact
import Derived.Test.YtbcfkgolhklkaaaDoorProg
namespace Go.Proofs.YtbcfkgolhklkaaaDoor
end Go.Proofs.YtbcfkgolhklkaaaDoor
