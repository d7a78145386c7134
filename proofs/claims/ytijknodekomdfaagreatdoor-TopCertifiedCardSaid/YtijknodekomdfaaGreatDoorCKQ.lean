/- Texts joined into one, what is needed of them (a program of ours). -/
import Derived.Test.YtijknodekomdfaaGreatDoorCKO
import Derived.Test.YtijknodekomdfaaGreatDoorCKF
import Derived.Lib.QuietBelow
import Derived.Test.YtijknodekomdfaaGreatDoorCKJ
import Derived.Deep.RegionHeld3
namespace Go.Proofs.YtijknodekomdfaaGreatDoor
open Go.RowKit Go.Lib Go.Shelf

end Go.Proofs.YtijknodekomdfaaGreatDoor
namespace Go.Proofs.YtijknodekomdfaaGreatDoor
open Go.RowKit Go.Lib Go.Shelf

theorem cf_sub {l : List S} {M : S} (h : cfS l M = 0) : ∀ r ∈ l, sub r M = true := fun r hr =>
  sub_trans (sub_sup hr) (by have := (cf_parts h).2.2.2; show (supS l &&& ~~~M == 0#16) = true; rw [this]; rfl)
end Go.Proofs.YtijknodekomdfaaGreatDoor
