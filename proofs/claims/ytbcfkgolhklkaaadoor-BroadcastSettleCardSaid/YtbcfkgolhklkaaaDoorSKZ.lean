/- Texts joined into one, what is needed of them (a program of ours). -/
import Derived.Test.YtbcfkgolhklkaaaDoorSKY
namespace Go.Proofs.YtbcfkgolhklkaaaDoor
open Go.RowKit Go.Lib Go.Shelf

theorem st5_other {W : World} {B C : Nat} {T : TypeId} {cs : Array Value} (h : Blk W B T cs) (hn : B ≠ C) (u0 u1 u2 u3 u4 : Value) : Blk (st5 W C u0 u1 u2 u3 u4) B T cs :=
  ((((h.setOther hn 0 u0).setOther hn 1 u1).setOther hn 2 u2).setOther hn 3 u3).setOther hn 4 u4
end Go.Proofs.YtbcfkgolhklkaaaDoor
