/- Texts joined into one (wip/bin/pack.py): R28c. -/
import Derived.Test.YtijknodekomdfaaGreatDoorKJ
import Derived.Deep.RegionHeld3
/- The reference's rules and Clash. -/
namespace Go.Proofs.YtijknodekomdfaaGreatDoor
open Go.RowKit Go.Lib Go.Shelf


def clRes : Option CL → CL × Int
  | some x => (x, 0)
  | none => (cl0, 13)
theorem f_some {α : Type} {f : S → Option α} {l : List S} {i : Nat} {b : α} (h : i < l.length) (hf : f (at_ l i) = some b) : (l.drop i).findSome? f = some b := by rw [f_step f l i h, hf]
theorem f_none {α : Type} {f : S → Option α} {l : List S} {i : Nat} (h : i < l.length) (hf : f (at_ l i) = none) : (l.drop i).findSome? f = (l.drop (i + 1)).findSome? f := by rw [f_step f l i h, hf]
theorem bool_hid {a b : Bool} (h : a = b) : Hid (a = b) := h
end Go.Proofs.YtijknodekomdfaaGreatDoor
