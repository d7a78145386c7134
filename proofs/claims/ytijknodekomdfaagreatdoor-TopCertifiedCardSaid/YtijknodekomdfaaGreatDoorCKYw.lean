/- Texts joined into one, what is needed of them (a program of ours). -/
import Derived.Test.YtijknodekomdfaaGreatDoorCKC
import Derived.Test.YtijknodekomdfaaGreatDoorCKA
import Derived.Test.YtijknodekomdfaaGreatDoorCKB
import Derived.Test.YtijknodekomdfaaGreatDoorCKO
import Derived.Test.YtijknodekomdfaaGreatDoorSortLayF
namespace Go.Proofs.YtijknodekomdfaaGreatDoor
open Go.RowKit Go.Lib Go.Shelf

/-- some draws, some new blocks -/
def Grn (w w' : World) : Prop := ∃ q os, w' = Sort.grow (w.drewN q) os
theorem Grn.refl (w : World) : Grn w w := ⟨0, #[], by rw [Sort.grow_empty]; rfl⟩
theorem Grn.trans {x y z : World} (h : Grn x y) (k : Grn y z) : Grn x z := by
  obtain ⟨q, os, rfl⟩ := h
  obtain ⟨q2, os2, rfl⟩ := k
  exact ⟨q + q2, os ++ os2, by show Sort.grow (Sort.grow ((x.drewN q).drewN q2) os) os2 = _; rw [Sort.grow_grow, World.drewN_drewN]⟩
theorem Grn.alloc {x y : World} (h : Grn x y) (o : Obj) : Grn x (y.alloc o) := h.trans ⟨0, #[o], by rw [show y.drewN 0 = y from rfl]; exact Sort.alloc_eq_grow _ _⟩
theorem Grn.drew {x y : World} (h : Grn x y) : Grn x y.drew := h.trans ⟨1, #[], by rw [Sort.grow_empty]; rfl⟩
theorem Grn.keeps {x y : World} (h : Grn x y) : Keeps x y := by
  obtain ⟨q, os, rfl⟩ := h
  exact ((Keeps.refl x).drewN q).grow os
end Go.Proofs.YtijknodekomdfaaGreatDoor
namespace Go.Proofs.YtijknodekomdfaaGreatDoor
open Go.RowKit Go.Lib Go.Shelf Go.Sort

end Go.Proofs.YtijknodekomdfaaGreatDoor
