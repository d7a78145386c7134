/- Texts joined into one, what is needed of them (a program of ours). -/
import Derived.Test.YtbcfkgolhklkaaaDoorSKA
import Derived.Test.YtbcfkgolhklkaaaDoorProg
import Derived.Test.YtbcfkgolhklkaaaDoorSKP
namespace Go.Proofs.YtbcfkgolhklkaaaDoor
open Go.RowKit Go.Lib

end Go.Proofs.YtbcfkgolhklkaaaDoor
namespace Go.Proofs.YtbcfkgolhklkaaaDoor
open Go.RowKit Go.Lib

def ml (x y p : S) : List S → Option S
  | [] => none
  | z :: zs => if x &&& y &&& ~~~(p ||| z) == 0#16 then some z else ml x y p zs
def mk (x y : S) : List S → Option (S × S)
  | [] => none
  | p :: ps => match ml x y p (p :: ps) with | some z => some (p, z) | none => mk x y ps
end Go.Proofs.YtbcfkgolhklkaaaDoor
namespace Go.Proofs.YtbcfkgolhklkaaaDoor
open Go.RowKit Go.Lib Go.Shelf

end Go.Proofs.YtbcfkgolhklkaaaDoor
namespace Go.Proofs.YtbcfkgolhklkaaaDoor
open Go.RowKit Go.Lib

end Go.Proofs.YtbcfkgolhklkaaaDoor
namespace Go.Proofs.YtbcfkgolhklkaaaDoor
open Go.RowKit Go.Lib Go.Shelf

end Go.Proofs.YtbcfkgolhklkaaaDoor
namespace Go.Proofs.YtbcfkgolhklkaaaDoor
open Go.RowKit Go.Lib Go.Shelf

end Go.Proofs.YtbcfkgolhklkaaaDoor
