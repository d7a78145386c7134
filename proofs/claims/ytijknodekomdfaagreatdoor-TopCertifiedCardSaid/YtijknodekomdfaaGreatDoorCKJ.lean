/- Texts joined into one, what is needed of them (a program of ours). -/
import Derived.Test.YtijknodekomdfaaGreatDoorCKI
namespace Go.Proofs.YtijknodekomdfaaGreatDoor
open Go.RowKit Go.Lib Go.Shelf

end Go.Proofs.YtijknodekomdfaaGreatDoor
namespace Go.Proofs.YtijknodekomdfaaGreatDoor
open Go.RowKit Go.Lib Go.Shelf

end Go.Proofs.YtijknodekomdfaaGreatDoor
namespace Go.Proofs.YtijknodekomdfaaGreatDoor
open Go.RowKit Go.Lib Go.Shelf

def rulesR (wt : S) (byz R Q : List S) : Option CL :=
  match R.findSome? (f1 wt byz Q) with
  | some x => some x
  | none => Q.findSome? (f2 byz Q)
theorem cv_kind {kd : Int} {M : S} {R Q : List S} {F : List F2} (h : cvS kd M R Q F = 0) : kd = 1 ∨ kd = 2 := by
  unfold cvS at h
  by_cases h1 : (kd != 1 && kd != 2) = true
  · rw [if_pos h1] at h; exact absurd h (by decide)
  · by_cases h2 : kd = 1
    · exact .inl h2
    · refine .inr ?_
      simp [h2] at h1; exact h1
end Go.Proofs.YtijknodekomdfaaGreatDoor
