/- Texts joined into one (wip/bin/pack.py): R28a, R28b, Clash28M. -/
import Derived.Test.YtijknodekomdfaaGreatDoorKI
/- The reference's errors of families, configurations and clients; its Byzantine sets and Accepts. -/
namespace Go.Proofs.YtijknodekomdfaaGreatDoor
open Go.RowKit Go.Lib Go.Shelf

/-- the last step of the reference's check of a family -/
def rngR (M : S) : List S → Int
  | [] => 0
  | x :: xs => if (x &&& ~~~M == 0#16) = true then rngR M xs else 7
theorem rngR_any (M : S) : ∀ l : List S, rngR M l = if (l.any fun x => x &&& ~~~M != 0#16) = true then 7 else 0
  | [] => rfl
  | x :: xs => by
    rw [rngR, List.any_cons, rngR_any M xs]
    cases h : (x &&& ~~~M == 0#16) with
    | true => simp [bne, h]
    | false => simp [bne, h]
theorem cfS_ref (l : List S) (M : S) : cfS l M = if rvalS l ≠ 0 then rvalS l else if l.length = 0 ∨ at_ l 0 = 0#16 then 9 else rngR M l := by
  unfold cfS
  rw [rval_eq, rngR_any, sup_all]
end Go.Proofs.YtijknodekomdfaaGreatDoor
/- The reference's Byzantine sets and Accepts. -/
namespace Go.Proofs.YtijknodekomdfaaGreatDoor
open Go.RowKit Go.Lib Go.Shelf

/-- what the reference's Accepts answers -/
def raccS (kd : Int) (wt M : S) (R Q : List S) (F m : List F2) (s : S) : Bool := tvS kd M R Q F m == 0 && accT s wt (refGreatest (mskF M m)) R
theorem fv_len {m : List F2} (h : fvS m = 0) : m.length ≤ 100 := by
  unfold fvS at h
  by_cases h0 : m.length = 0
  · omega
  · rw [if_neg h0] at h
    by_cases h1 : 100 < m.length
    · rw [if_pos h1] at h; exact absurd h (by decide)
    · omega
theorem byz_ref {kd : Int} {M : S} {R Q : List S} {F m : List F2} (h : tvS kd M R Q F m = 0) : byzS M m = refGreatest (mskF M m) :=
  byz_same (cv_small (tv_cv h).1) (by have := fv_len (tv_cv h).2; omega)
theorem racc_eq (kd : Int) (wt M : S) (R Q : List S) (F m : List F2) (s : S) : raccS kd wt M R Q F m s = accS28 kd wt M R Q F m s := by
  unfold raccS accS28
  by_cases h : tvS kd M R Q F m = 0
  · rw [byz_ref h]
  · have hb : (tvS kd M R Q F m == 0) = false := by simpa using h
    rw [hb, Bool.false_and, Bool.false_and]
end Go.Proofs.YtijknodekomdfaaGreatDoor
/- The reference's clashes are the program's: plain law. -/
namespace Go.Proofs.YtijknodekomdfaaGreatDoor
open Go.RowKit Go.Lib Go.Shelf

def rulesR (wt : S) (byz R Q : List S) : Option CL :=
  match R.findSome? (f1 wt byz Q) with
  | some x => some x
  | none => Q.findSome? (f2 byz Q)
def rclashC (kd : Int) (wt : S) (byz R Q : List S) : Option CL :=
  match (if kd = 1 then crash1 byz else none) with
  | some b => some (3, 0#16, 0#16, b)
  | none => rulesR wt byz R Q
def rclashS (kd : Int) (wt M : S) (R Q : List S) (F m : List F2) : CL × Int :=
  if tvS kd M R Q F m ≠ 0 then (cl0, tvS kd M R Q F m) else match rclashC kd wt (refGreatest (mskF M m)) R Q with | some x => (x, 0) | none => (cl0, 13)
theorem crash_zero {byz : List S} (h : crash1 byz = none) : ∀ b ∈ byz, b = 0#16 := fun b hb => by
  have := List.find?_eq_none.1 h b hb
  simpa using this
theorem f2_none {byz : List S} (h : crash1 byz = none) (Q : List S) (p : S) : f2 byz Q p = none := by
  unfold f2
  rw [List.findSome?_eq_none_iff]
  intro q _
  unfold g2
  rw [Option.map_eq_none_iff, List.find?_eq_none]
  intro b hb
  rw [crash_zero h b hb]; simp [p2]
theorem rules_same {kd : Int} (wt : S) {byz R Q : List S} (h : kd = 2 ∨ crash1 byz = none) : rulesR wt byz R Q = rulesS kd wt byz R Q := by
  unfold rulesR rulesS
  cases hr : R.findSome? (f1 wt byz Q) with
  | some x => rfl
  | none =>
    rcases h with h | h
    · simp [h]
    · have : Q.findSome? (f2 byz Q) = none := by rw [List.findSome?_eq_none_iff]; intro q _; exact f2_none h Q q
      simp [this]
theorem cv_kind {kd : Int} {M : S} {R Q : List S} {F : List F2} (h : cvS kd M R Q F = 0) : kd = 1 ∨ kd = 2 := by
  unfold cvS at h
  by_cases h1 : (kd != 1 && kd != 2) = true
  · rw [if_pos h1] at h; exact absurd h (by decide)
  · by_cases h2 : kd = 1
    · exact .inl h2
    · refine .inr ?_
      simp [h2] at h1; exact h1
theorem rclashC_same {kd : Int} (wt M : S) {R Q : List S} {m : List F2} (hk : kd = 1 ∨ kd = 2) (hb : byzS M m = refGreatest (mskF M m)) : rclashC kd wt (refGreatest (mskF M m)) R Q = clashC kd wt M R Q m := by
  unfold rclashC clashC
  rw [← hb]
  rcases hk with rfl | rfl
  · simp only [if_true]
    cases hc : crash1 (byzS M m) with
    | some b => rfl
    | none => exact rules_same wt (.inr hc)
  · simp only [show ¬ ((2 : Int) = 1) by decide, if_false]
    exact rules_same wt (.inl rfl)
theorem rclash_eq (kd : Int) (wt M : S) (R Q : List S) (F m : List F2) : rclashS kd wt M R Q F m = clashS kd wt M R Q F m := by
  unfold rclashS clashS
  by_cases h : tvS kd M R Q F m = 0
  · rw [if_neg (by simp [h]), if_neg (by simp [h]), rclashC_same wt M (cv_kind (tv_cv h).1) (byz_ref h)]
    cases clashC kd wt M R Q m <;> rfl
  · rw [if_pos h, if_pos h]
end Go.Proofs.YtijknodekomdfaaGreatDoor
