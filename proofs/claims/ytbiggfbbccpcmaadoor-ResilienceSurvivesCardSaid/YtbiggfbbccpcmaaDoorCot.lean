/- transversal.IsDual, Cross, Disjoint, Coterie, coterie, Dominated. -/
import Derived.Test.YtbiggfbbccpcmaaDoorCross
import Derived.Test.YtbiggfbbccpcmaaDoorMinimal
namespace Go.Proofs.YtbiggfbbccpcmaaDoor
open Go.RowKit Go.Lib Go.Shelf

/-- each set of f meets each set of g -/
def crossS (f g : List S) : Bool := !(f.any fun x => !hitS g x)

end Go.Proofs.YtbiggfbbccpcmaaDoor
