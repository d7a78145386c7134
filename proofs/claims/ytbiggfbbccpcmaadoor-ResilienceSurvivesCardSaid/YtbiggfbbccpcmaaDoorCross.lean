/- slices.Equal, Index, Contains at lists of sets; transversal.IsDual, Cross, Disjoint. -/
import Derived.Test.YtbiggfbbccpcmaaDoorDualT
namespace Go.Proofs.YtbiggfbbccpcmaaDoor
open Go.RowKit Go.Lib Go.Shelf

def eqFrom : List S → List S → Bool
  | x :: xs, y :: ys => if x != y then false else eqFrom xs ys
  | _, _ => true
def eqS (l m : List S) : Bool := if l.length != m.length then false else eqFrom l m
theorem eqFrom_iff : ∀ l m : List S, l.length = m.length → (eqFrom l m = true ↔ l = m)
  | [], [], _ => by simp [eqFrom]
  | x :: xs, y :: ys, h => by
    have ih := eqFrom_iff xs ys (by simpa using h)
    unfold eqFrom
    by_cases hxy : x = y
    · subst hxy; simpa using ih
    · simp [hxy]
  | [], _ :: _, h => by simp at h
  | _ :: _, [], h => by simp at h
theorem eqS_iff (l m : List S) : eqS l m = decide (l = m) := by
  unfold eqS
  by_cases h : l.length = m.length
  · rw [if_neg (by simpa using h), Bool.eq_iff_iff, eqFrom_iff l m h, decide_eq_true_eq]
  · rw [if_pos (by simpa using h)]
    have : l ≠ m := fun e => h (by rw [e])
    simp [this]

def idxOf (s : S) : List S → Nat → Int
  | [], _ => -1
  | x :: xs, k => if s == x then (k : Int) else idxOf s xs (k + 1)
theorem idxOf_mem (s : S) (l : List S) (k : Nat) : decide (0 ≤ idxOf s l k) = l.contains s := by
  induction l generalizing k with
  | nil => simp [idxOf]
  | cons x xs ih =>
    unfold idxOf
    by_cases h : s = x
    · simp [h]
    · have := ih (k + 1)
      simp only [List.contains_eq_mem] at this ⊢
      simp [h, this]

theorem index_any (a : Option Addr) (n c : Nat) (l : List S) (s : S) (w : World) (h : Rd w a n c 1 (sl l)) :
    Calls Tryd.prog 82 #[.slice a n c, .int .u16 (sv s)] w fun e w' => e = .returned (.int .i64 (idxOf s l 0)) ∧ w = w' := by
  have L := Lib.hid h.lenS
  have s1 := h.small
  go_enter Tryd.func82, Tryd.ntmps82
  go_wp2
  go_loopw [8] (fun v wr => ∃ (k : Nat), k ≤ n ∧ v = .int .i64 k ∧ w = wr ∧ Hid (idxOf s l 0 = idxOf s (l.drop k) k)) (fun v _ => n - (intOf v).toNat)
  case atStart => exact ⟨0, Nat.zero_le _, rfl, rfl, rfl⟩
  case round =>
    obtain ⟨k, hk, rfl, rfl, HI⟩ := hrel
    by_cases hlt : k < n
    · have hc := h.at hlt
      have hs := h.isSome (by omega)
      have hst := HI.out
      rw [dropH L hlt] at hst
      by_cases hxy : (s == at_ l k) = true
      · have HJ : Hid (idxOf s l 0 = k) := by show _ = _; rw [hst]; unfold idxOf; rw [if_pos hxy]
        clear hst HI
        go_wp2
        go_ret
        rw [HJ.out]
        exact ⟨rfl, rfl⟩
      · have HJ : Hid (idxOf s l 0 = idxOf s (l.drop (k + 1)) (k + 1)) := by
          show _ = _; rw [hst]; conv => lhs; unfold idxOf
          rw [if_neg hxy]
        have hxy' : (s == at_ l k) = false := by simpa using hxy
        clear hst HI hxy
        go_wp2
        go_roundw
        case rel => exact ⟨k + 1, by omega, rfl, trivial, HJ⟩
        case measure => simp [intOf]; omega
    · have HJ : Hid (idxOf s l 0 = -1) := by show _ = _; rw [HI.out, dropN L hlt]; rfl
      clear HI
      go_wp2
      go_ret
      rw [HJ.out]
      exact ⟨rfl, rfl⟩

theorem contains_s_any (a : Option Addr) (n c : Nat) (l : List S) (s : S) (w : World) (h : Rd w a n c 1 (sl l)) :
    Calls Tryd.prog 72 #[.slice a n c, .int .u16 (sv s)] w fun e w' => e = .returned (.bool (l.contains s)) ∧ w = w' := by
  have hi := index_any a n c l s w h
  have hm := idxOf_mem s l 0
  generalize idxOf s l 0 = i at *
  generalize l.contains s = b at *
  subst hm
  have HI := Lib.hid hi; clear hi h
  go_enter Tryd.func72, Tryd.ntmps72
  go_wp2_with (go_at_call 82; refine HI.out.mono ?_; rintro e w' ⟨rfl, rfl⟩)
  go_ret
  exact ⟨rfl, rfl⟩
end Go.Proofs.YtbiggfbbccpcmaaDoor
