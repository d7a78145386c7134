/- What the reference's Sorted and Least compute. -/
import Derived.Test.YtbiggfbbccpcmaaDoorSort
namespace Go.Proofs.YtbiggfbbccpcmaaDoor
open Go.RowKit Go.Lib Go.Shelf

/-- how many sets at the front come before x -/
def posS : List S → S → Nat
  | [], _ => 0
  | y :: ys, x => if ltS y x = true then posS ys x + 1 else 0
def insAt (l : List S) (k : Nat) (y : S) : List S := l.take k ++ y :: l.drop k
/-- insertion, unless it is there -/
def insU (l : List S) (x : S) : List S := if posS l x < l.length ∧ at_ l (posS l x) = x then l else insAt l (posS l x) x
/-- what Sorted gathers -/
def sortR : List S → List S → List S
  | acc, [] => acc
  | acc, x :: xs => sortR (insU acc x) xs
theorem insAt_length (l : List S) (k : Nat) (y : S) (h : k ≤ l.length) : (insAt l k y).length = l.length + 1 := by simp [insAt]; omega
theorem insAt_set (l : List S) (k : Nat) (y x : S) (h : k ≤ l.length) : (insAt l k y).set k x = insAt l k x := by
  unfold insAt
  rw [List.set_append_right _ _ (by simp; omega)]
  simp [Nat.min_eq_left h]
theorem insAt_shift (l : List S) (k : Nat) (y : S) (h : k + 1 ≤ l.length) : (insAt l (k + 1) y).set (k + 1) (at_ l k) = insAt l k (at_ l k) := by
  rw [insAt_set _ _ _ _ h]
  unfold insAt
  rw [take_at l k (by omega), drop_at l k (by omega)]
  simp
theorem at_insAt (l : List S) (k : Nat) (y : S) (h : k + 1 ≤ l.length) : at_ (insAt l (k + 1) y) k = at_ l k := by
  unfold insAt at_
  rw [List.getD_eq_getElem?_getD, List.getElem?_append_left (by simp; omega)]
  simp [List.getD_eq_getElem?_getD]
theorem insAt_shift' (l : List S) (k : Nat) (y : S) (h1 : 1 ≤ k) (h : k ≤ l.length) : (insAt l k y).set k (at_ l (k - 1)) = insAt l (k - 1) (at_ l (k - 1)) := by
  obtain ⟨q, rfl⟩ : ∃ q, k = q + 1 := ⟨k - 1, by omega⟩
  exact insAt_shift l q y h
theorem at_insAt' (l : List S) (k : Nat) (y : S) (h1 : 1 ≤ k) (h : k ≤ l.length) : at_ (insAt l k y) (k - 1) = at_ l (k - 1) := by
  obtain ⟨q, rfl⟩ : ∃ q, k = q + 1 := ⟨k - 1, by omega⟩
  exact at_insAt l q y h
theorem insAt_end (l : List S) (y : S) : insAt l l.length y = l ++ [y] := by simp [insAt]

/-- is no other set of s inside x? the sets from place k on; x stands at place i -/
def loneR (x : S) (i : Nat) : List S → Nat → Bool → Bool
  | [], _, r => r
  | y :: ys, k, r => loneR x i ys (k + 1) (r && !(decide (i ≠ k) && y &&& ~~~x == 0#16))
/-- what Least gathers -/
def minR (s : List S) : List S → Nat → List S → List S
  | [], _, acc => acc
  | x :: xs, i, acc => minR s xs (i + 1) (if loneR x i s 0 true = true then acc ++ [x] else acc)
def refLeast (l : List S) : List S := minR (sortR [] l) (sortR [] l) 0 []
theorem insU_length (l : List S) (x : S) : (insU l x).length ≤ l.length + 1 := by
  unfold insU insAt
  split
  · omega
  · simp; omega
theorem sortR_length (acc l : List S) : (sortR acc l).length ≤ acc.length + l.length := by
  induction l generalizing acc with
  | nil => simp [sortR]
  | cons x xs ih => have := ih (insU acc x); have := insU_length acc x; simp only [sortR, List.length_cons]; omega

end Go.Proofs.YtbiggfbbccpcmaaDoor
