/- Texts joined into one, what is needed of them (a program of ours). -/
import Derived.Test.YtijknodekomdfaaGreatDoorCKYe
import Derived.Test.YtijknodekomdfaaGreatDoorCKM
namespace Go.Proofs.YtijknodekomdfaaGreatDoor
open Go.RowKit Go.Lib Go.Shelf

theorem safe_of {kd : Int} {wt M : S} {R Q : List S} {F : List F2} (hc : cvS kd M R Q F = 0) (h1 : ∀ r ∈ R, ∀ q ∈ Q, ∀ b ∈ byz27 kd M F, p1 r q wt b = false) (h2 : ∀ p ∈ Q, ∀ q ∈ Q, ∀ b ∈ byz27 kd M F, p2 p q b = false) : safe27 kd wt M R Q F = true := by
  have hf : rulesR wt (byz27 kd M F) R Q = none := by
    cases hr : rulesR wt (byz27 kd M F) R Q with
    | none => rfl
    | some x =>
      obtain ⟨hb, hq, h⟩ := rulesR_some hr
      rcases h with ⟨_, ha, hp⟩ | ⟨_, ha, hp⟩
      · rw [h1 _ ha _ hq _ hb] at hp; cases hp
      · rw [h2 _ ha _ hq _ hb] at hp; cases hp
  unfold safe27 clash27
  rw [if_neg (by simp [hc]), first_eq, hf]; rfl
end Go.Proofs.YtijknodekomdfaaGreatDoor
namespace Go.Proofs.YtijknodekomdfaaGreatDoor
open Go.RowKit Go.Lib

/-- a new block is not the row's -/
theorem own_fresh {e : TypeId} {sz : Nat} {w0 w : World} {v : Value} {n : Nat} {xs : List Value} (h : Own e sz w0 w v n xs) : some w.heap.size ≠ v.ownBlock := fun he => by
  have := (h.1.lt _ he.symm).2
  omega
theorem blk_grown {w w' : World} {row : Option Nat} {B : Nat} {T : TypeId} {cs : Array Value} (h : Blk w B T cs) (hg : w.grownBy w' row) (hne : some B ≠ row) : Blk w' B T cs := (hg.block B h.lt hne).trans h
end Go.Proofs.YtijknodekomdfaaGreatDoor
