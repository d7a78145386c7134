/- Texts joined into one (wip/bin/pack.py): R28d. -/
import Derived.Lib.QuietBelow
import Derived.Test.YtijknodekomdfaaGreatDoorKK
import Derived.Test.YtijknodekomdfaaGreatDoorKF
/- The reference's Tolerates, Stronger, Covers, inside, checked, Minimal, Maximal. -/
namespace Go.Proofs.YtijknodekomdfaaGreatDoor
open Go.RowKit Go.Lib Go.Shelf

/-- the subsets of a set among the first numbers -/
def inTo (M : S) : Nat → List S
  | 0 => []
  | x + 1 => inTo M x ++ (if (BitVec.ofNat 16 x &&& ~~~M == 0#16) then [BitVec.ofNat 16 x] else [])
theorem inTo_len (M : S) : ∀ x, (inTo M x).length ≤ x
  | 0 => Nat.le_refl _
  | x + 1 => by
    have := inTo_len M x
    rw [inTo, List.length_append]
    split <;> simp <;> omega
def insM (M : S) : List S := inTo M 4096
theorem insM_eq (M : S) : ∀ x, x = 4096 → inTo M x = insM M := fun x h => by rw [h, insM]
def chkR (l out : List S) : List S × Int := if l.any outS then ([], 7) else if 400 < out.length then ([], 3) else (out, 0)
end Go.Proofs.YtijknodekomdfaaGreatDoor
