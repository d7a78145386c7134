/- Texts joined into one (wip/bin/pack.py): Same08, Awake29. -/
import Derived.Test.YtijknodekomdfaaGreatDoorKH
import Derived.BigQuiet
import Derived.Test.YtijknodekomdfaaGreatDoorKZh
/- The reference's Same of lists of sets. -/
namespace Go.Proofs.YtijknodekomdfaaGreatDoor
open Go.RowKit Go.Lib Go.Shelf

theorem eqFrom_cons8 (x y : S) (xs ys : List S) : eqFrom (x :: xs) (y :: ys) = ((x == y) && eqFrom xs ys) := by
  rw [eqFrom]; cases h : x == y <;> simp [bne, h]
end Go.Proofs.YtijknodekomdfaaGreatDoor
/- The statements' own example (layer 29). -/
namespace Go.Proofs.YtijknodekomdfaaGreatDoor
open Go.RowKit Go.Lib Go.Shelf

theorem rd_lit {e : TypeId} {sz : Nat} {w : World} {cs : List Value} {n m : Nat} (h : w.heap.size = m) (hn : n ≤ maxLen) (hs : cs.length = n * sz) : Rd (w.alloc (.cells cs.toArray e)) (some ⟨m, 0, none⟩) n n sz cs := by
  subst h; exact rd_new e sz w cs n hn hs
def exA : Cf := ⟨⟨#[97]⟩, 1, 1#16, [1#16], [1#16], [(0#16, 0#16)]⟩
def exB : Cf := ⟨⟨#[98]⟩, 1, 7#16, [3#16, 5#16, 6#16], [3#16, 5#16, 6#16], [(0#16, 1#16), (0#16, 2#16), (0#16, 4#16)]⟩
def exJ : Cf := ⟨jNm, 1, 7#16, [3#16, 5#16], [3#16, 5#16], [(0#16, 2#16), (0#16, 4#16)]⟩
theorem exAv : cvf exA = 0 := by decide +kernel
theorem exBv : cvf exB = 0 := by decide +kernel
theorem exAnd : andS [1#16] [3#16, 5#16, 6#16] = ([3#16, 5#16], 0) := by
  unfold andS
  rw [if_neg (by decide +kernel), if_neg (by decide +kernel), least_same]
  decide +kernel
theorem exN : nmzE (jnL exA exB) = 0 := by decide +kernel
theorem exL : nmzL (jnL exA exB) = [(0#16, 2#16), (0#16, 4#16)] := by decide +kernel
theorem exOf : ofE exA exB = 0 ∧ ofC exA exB = exJ := by
  have e : ofE exA exB = 0 := by
    unfold ofE
    rw [if_neg (by simp [exAv]), if_neg (by simp [exBv]), show andS exA.R exB.R = ([3#16, 5#16], 0) from exAnd, show andS exA.Q exB.Q = ([3#16, 5#16], 0) from exAnd, exN]
    rfl
  refine ⟨e, ?_⟩
  unfold ofC
  rw [if_neg (by simp [e]), show andS exA.R exB.R = ([3#16, 5#16], 0) from exAnd, show andS exA.Q exB.Q = ([3#16, 5#16], 0) from exAnd, exL]
  rfl
end Go.Proofs.YtijknodekomdfaaGreatDoor
