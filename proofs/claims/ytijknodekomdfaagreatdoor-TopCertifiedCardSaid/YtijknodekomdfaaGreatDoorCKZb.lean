/- Texts joined into one, what is needed of them (a program of ours). -/
import Derived.Test.YtijknodekomdfaaGreatDoorCKZa
import Derived.Test.YtijknodekomdfaaGreatDoorCKJ
import Derived.Test.YtijknodekomdfaaGreatDoorCKF
import Derived.Test.YtijknodekomdfaaGreatDoorCKM
import Derived.Lib.QuietBelow
namespace Go.Proofs.YtijknodekomdfaaGreatDoor
open Go.RowKit Go.Lib Go.Shelf

/-- a configuration with where its lists lie -/
structure CA where
  c : Cf
  ar : Option Addr
  cr : Nat
  aw : Option Addr
  cw : Nat
  af : Option Addr
  cf : Nat
def eG (x : CA) : List Value := [.string x.c.nm, .int .i64 x.c.kd, .int .u16 (sv x.c.M), .slice x.ar x.c.R.length x.cr, .slice x.aw x.c.Q.length x.cw, .slice x.af x.c.F.length x.cf]
def gl (l : List CA) : List Value := fle eG l
theorem eG_len (x : CA) : (eG x).length = 6 := rfl
@[simp] theorem gl_len (l : List CA) : (gl l).length = l.length * 6 := fle_len eG 6 eG_len l
/-- the lists of a configuration read -/
def RdG (w : World) (x : CA) : Prop := RdC w x.ar x.cr x.c.R x.aw x.cw x.c.Q x.af x.cf x.c.F
/-- they are rows -/
def RoG (w : World) (x : CA) : Prop := RowC w x.ar x.cr x.c.R x.aw x.cw x.c.Q x.af x.cf x.c.F
theorem RdG.keep {w w' : World} {x : CA} (h : RdG w x) (k : Keeps w w') : RdG w' x := RdC.keep h k
theorem RoG.keep {w w' : World} {x : CA} (h : RoG w x) (k : Keeps w w') : RoG w' x := RowC.keep h k
theorem RoG.rd {w : World} {x : CA} (h : RoG w x) : RdG w x := RowC.rd h
def RdL (w : World) (l : List CA) : Prop := ∀ x ∈ l, RdG w x
def RoL (w : World) (l : List CA) : Prop := ∀ x ∈ l, RoG w x
theorem RdL.keep {w w' : World} {l : List CA} (h : RdL w l) (k : Keeps w w') : RdL w' l := fun x hx => (h x hx).keep k
theorem RoL.keep {w w' : World} {l : List CA} (h : RoL w l) (k : Keeps w w') : RoL w' l := fun x hx => (h x hx).keep k
theorem RoL.rd {w : World} {l : List CA} (h : RoL w l) : RdL w l := fun x hx => (h x hx).rd
end Go.Proofs.YtijknodekomdfaaGreatDoor
namespace Go.Proofs.YtijknodekomdfaaGreatDoor
open Go.RowKit Go.Lib Go.Shelf

end Go.Proofs.YtijknodekomdfaaGreatDoor
