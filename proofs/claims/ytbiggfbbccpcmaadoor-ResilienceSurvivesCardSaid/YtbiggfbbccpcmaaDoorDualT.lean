/- transversal.Dual. -/
import Derived.Maps.AppendAt
import Derived.Test.YtbiggfbbccpcmaaDoorLeastT
namespace Go.Proofs.YtbiggfbbccpcmaaDoor
open Go.RowKit Go.Lib Go.Shelf
attribute [local go_sem] Oper.semAt_some

/-- one step of Dual's loop -/
def dualStep (f : List S) (acc : List S) (s : S) : List S := if !accS acc s && hitS f s then acc ++ [s] else acc
def dualP (f : List S) (l : List S) : List S := l.foldl (dualStep f) []
theorem dualP_snoc (f l : List S) (x : S) : dualP f (l ++ [x]) = dualStep f (dualP f l) x := by simp [dualP]
theorem dualStep_len (f acc : List S) (x : S) : acc.length ≤ (dualStep f acc x).length ∧ (dualStep f acc x).length ≤ acc.length + 1 := by
  unfold dualStep; split <;> simp
theorem dualFold_len (f : List S) (l acc : List S) : acc.length ≤ (l.foldl (dualStep f) acc).length := by
  induction l generalizing acc with
  | nil => exact Nat.le_refl _
  | cons x xs ih => exact Nat.le_trans (dualStep_len f acc x).1 (ih _)
theorem dualP_prefix (f : List S) {p l : List S} (h : p <+: l) : (dualP f p).length ≤ (dualP f l).length := by
  obtain ⟨r, rfl⟩ := h
  unfold dualP
  rw [List.foldl_append]
  exact dualFold_len f r _
/-- the dual, as the program finds it, and the error -/
def dualErr (l : List S) : List S × Int :=
  if validS l ≠ 0 then ([], validS l) else if 400 < (dualP l (subsetsL (supS l))).length then ([], 3) else (dualP l (subsetsL (supS l)), 0)

theorem kpApp {W w1 : World} {n₀ Bo Bs b : Nat} {v v0 v' : Value} {k : Nat} {xs : List Value} {tmp : Obj} (hv : Boxed W Bo 23 v0) (hrow : W.ownsRow b 31 1 v k xs) (hb : Bs < b) (hne : Bs ≠ Bo)
    (hgrow : (W.alloc tmp).grownBy w1 v.ownBlock) (hbel : Below n₀ W (w1.setCell ⟨Bo, 0, none⟩ v')) : KpS n₀ Bs W (w1.setCell ⟨Bo, 0, none⟩ v') := by
  have same : ∀ i o, W.heap[i]? = some o → i ≠ Bo → some i ≠ v.ownBlock → (w1.setCell ⟨Bo, 0, none⟩ v').heap[i]? = W.heap[i]? := fun i o ho h1 h2 => by
    have hi := (Array.getElem?_eq_some_iff.1 ho).1
    rw [Below.heap_setCell _ _ _ _ h1, hgrow.block i (by simp; omega) h2, Below.heap_alloc _ _ _ hi]
  refine ⟨hbel, fun i cs hi => same i _ hi ?_ ?_, fun o ho => (same Bs o ho hne ?_).trans ho⟩
  · rintro rfl
    rw [show W.heap[i]? = _ from hv] at hi; cases hi
  · rcases hrow.2 with ⟨rfl, _⟩ | ⟨g, cap, cur, rfl, _, hgb, _⟩
    · simp [Value.ownBlock]
    · intro e'
      obtain rfl : i = g := by simpa [Value.ownBlock] using e'
      rw [hgb] at hi; cases hi
  · rcases hrow.2 with ⟨rfl, _⟩ | ⟨g, cap, cur, rfl, hg, hgb, _⟩
    · simp [Value.ownBlock]
    · intro e'
      obtain rfl : Bs = g := by simpa [Value.ownBlock] using e'
      omega
theorem ownWeak {W : World} {b b' : Nat} {e : TypeId} {sz k : Nat} {v : Value} {xs : List Value} (h : W.ownsRow b e sz v k xs) (hb : b' ≤ b) : W.ownsRow b' e sz v k xs :=
  ⟨h.1, h.2.elim .inl (fun ⟨g, cap, cur, e1, e2, e3⟩ => .inr ⟨g, cap, cur, e1, Nat.le_trans hb e2, e3⟩)⟩
end Go.Proofs.YtbiggfbbccpcmaaDoor
