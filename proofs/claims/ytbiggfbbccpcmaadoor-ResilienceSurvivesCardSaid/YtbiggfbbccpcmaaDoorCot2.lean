/- transversal.Disjoint, Coterie, coterie, Dominated. -/
import Derived.Test.YtbiggfbbccpcmaaDoorCot
namespace Go.Proofs.YtbiggfbbccpcmaaDoor
open Go.RowKit Go.Lib Go.Shelf

/-- a list is a coterie, as the program finds it -/
def cotS (l : List S) : Bool := validS l == 0 && l.length != 0 && !l.contains 0#16 && crossS l l && ((minimalS l).2 == 0 && (minimalS l).1.length == l.length)

/-- the error of a list that should be a coterie -/
def cotErr (l : List S) : Int := if validS l = 0 then (if cotS l = true then 0 else 1) else validS l
/-- whether a coterie is dominated, and the error -/
def domErr (l : List S) : Bool × Int := if cotErr l = 0 then (if (dualErr l).2 = 0 then (!eqS (dualErr l).1 l, 0) else (false, (dualErr l).2)) else (false, cotErr l)
/-- the first disjoint pair -/
def disIn (x : S) : List S → Option S
  | [] => none
  | y :: ys => if x &&& y == 0#16 then some y else disIn x ys
def disR : List S → List S → S × S × Int
  | [], _ => (0#16, 0#16, 13)
  | x :: xs, g => match disIn x g with
    | some y => (x, y, 0)
    | none => disR xs g
end Go.Proofs.YtbiggfbbccpcmaaDoor
