/- The plain laws of resilience: Of, Worst and After are the reference's; a family's resilience. -/
import Derived.Test.YtbiggfbbccpcmaaDoorR17f
import Derived.Test.YtbiggfbbccpcmaaDoorExtM
namespace Go.Proofs.YtbiggfbbccpcmaaDoor
open Go.RowKit Go.Lib Go.Shelf

/-! ### the first set that hits -/
theorem asc_cnt {x y : S} (h : ltS x y = true) : cnt x ≤ cnt y := by
  rcases (ltS_iff x y).1 h with h | h <;> omega
theorem asc_cons {x : S} {l : List S} (h : Asc (x :: l)) : (∀ y ∈ l, cnt x ≤ cnt y) ∧ Asc l :=
  ⟨fun y hy => asc_cnt ((List.pairwise_cons.1 h).1 y hy), (List.pairwise_cons.1 h).2⟩
theorem find_least {p : S → Bool} : ∀ {l : List S} {t : S}, Asc l → l.find? p = some t → p t = true ∧ t ∈ l ∧ ∀ x ∈ l, p x = true → cnt t ≤ cnt x
  | [], t, _, h => by simp at h
  | x :: xs, t, ha, h => by
    cases hp : p x with
    | true =>
      rw [List.find?_cons_of_pos hp] at h
      injection h with h; subst h
      refine ⟨hp, List.mem_cons_self, fun y hy _ => ?_⟩
      rcases List.mem_cons.1 hy with rfl | hy
      · exact Nat.le_refl _
      · exact (asc_cons ha).1 y hy
    | false =>
      rw [List.find?_cons_of_neg (by simp [hp])] at h
      obtain ⟨h1, h2, h3⟩ := find_least (asc_cons ha).2 h
      refine ⟨h1, List.mem_cons_of_mem _ h2, fun y hy hy2 => ?_⟩
      rcases List.mem_cons.1 hy with rfl | hy
      · rw [hp] at hy2; cases hy2
      · exact h3 y hy hy2
/-- what is left of the set of servers has a set of the family, where the failed ones do not hit it -/
theorem acc_rest {l : List S} {s : S} (h : ∀ x ∈ l, sub x s = true) (x : S) : accS l (s &&& ~~~x) = !hitS l x := by
  have key : accS l (s &&& ~~~x) = true ↔ ¬ hitS l x = true := by
    rw [accS_iff, hitS_iff]
    constructor
    · rintro ⟨y, hy, h1⟩ h2
      obtain ⟨i, hi, h3, h4⟩ := (and_ne _ _).1 (h2 y hy)
      have := (sub_iff _ _).1 h1 i hi h3
      rw [BitVec.getLsbD_and, BitVec.getLsbD_not, h4] at this
      simp at this
    · intro h1
      refine Classical.byContradiction fun h2 => h1 fun y hy => ?_
      intro h3
      refine h2 ⟨y, hy, (sub_iff _ _).2 fun i hi h4 => ?_⟩
      have h5 := (sub_iff _ _).1 (h y hy) i hi h4
      rw [BitVec.getLsbD_and, BitVec.getLsbD_not, h5]
      cases hx : x.getLsbD i with
      | false => simp [hi]
      | true => exact absurd h3 ((and_ne _ _).2 ⟨i, hi, h4, hx⟩)
  cases h1 : hitS l x <;> cases h2 : accS l (s &&& ~~~x) <;> simp_all
theorem acc_sup (l : List S) (x : S) : accS l (supS l &&& ~~~x) = !hitS l x := acc_rest (fun _ h => sub_sup h) x
theorem low12 {l : List S} (h : ∀ x ∈ l, small x) : ∀ x ∈ l, sub x 4095#16 = true := fun x hx => by
  rw [sub_iff]; intro i hi hb
  have := small_bit (h x hx) hb
  have e : ∀ j : Fin 12, (4095#16).getLsbD j.val = true := by decide
  exact e ⟨i, this⟩
theorem acc_4095 {l : List S} (h : ∀ x ∈ l, small x) (x : S) : accS l (4095#16 &&& ~~~x) = !hitS l x := acc_rest (low12 h) x

/-- in a valid family the first set is empty, or the support hits every set -/
theorem zero_first {l : List S} (h : Asc l) (h0 : 0#16 ∈ l) : at_ l 0 = 0#16 := by
  cases l with
  | nil => cases h0
  | cons x xs =>
    rcases List.mem_cons.1 h0 with rfl | h1
    · rfl
    · have := (List.pairwise_cons.1 h).1 _ h1
      rw [ltS_iff, show cnt 0#16 = 0 from by decide, sv_zero] at this
      have h2 := (sv_bound x).1
      omega
theorem no_hit {l : List S} (hf : Fam l) : (subsetsL (supS l)).find? (hitS l) = none ↔ 0 < l.length ∧ at_ l 0 = 0#16 := by
  constructor
  · intro h
    have h1 := List.find?_eq_none.1 h (supS l) ((mem_subsets (small_sup hf.low) _).2 (sub_refl _))
    have h0 : 0#16 ∈ l := by
      refine Classical.byContradiction fun hn => h1 ((hitS_iff _ _).2 fun x hx hc => ?_)
      have h2 : x = 0#16 := by
        refine Classical.byContradiction fun h3 => ?_
        obtain ⟨i, hi, hb⟩ := (ne0_iff x).1 h3
        exact absurd hc ((and_ne _ _).2 ⟨i, hi, hb, (sub_iff _ _).1 (sub_sup hx) i hi hb⟩)
      exact hn (h2 ▸ hx)
    exact ⟨List.length_pos_of_mem h0, zero_first hf.asc h0⟩
  · rintro ⟨h1, h2⟩
    refine List.find?_eq_none.2 fun x _ hx => ?_
    have h0 : 0#16 ∈ l := by
      cases l with
      | nil => simp at h1
      | cons y ys => simp [at_] at h2; simp [h2]
    exact (hitS_iff _ _).1 hx _ h0 (by simp)
/-- the error of Least, and its set -/
theorem least_cases (l : List S) : (validS l ≠ 0 ∧ leastErr l = (0#16, validS l)) ∨ (Fam l ∧ 0 < l.length ∧ at_ l 0 = 0#16 ∧ leastErr l = (0#16, 4)) ∨
    (Fam l ∧ ¬ (0 < l.length ∧ at_ l 0 = 0#16) ∧ ∃ t, leastErr l = (t, 0) ∧ (subsetsL (supS l)).find? (hitS l) = some t ∧ hitS l t = true ∧ sub t (supS l) = true ∧ ∀ x, hitS l x = true → cnt t ≤ cnt x) := by
  by_cases hv : validS l = 0
  · right
    have hf := (valid_iff l).1 hv
    have hs := small_sup hf.low
    have e : leastErr l = match (subsetsL (supS l)).find? (hitS l) with | some s => (s, 0) | none => (0#16, 4) := by unfold leastErr; rw [if_neg (fun h : validS l ≠ 0 => h hv)]; rfl
    cases hq : (subsetsL (supS l)).find? (hitS l) with
    | none =>
      left
      rw [hq] at e
      exact ⟨hf, ((no_hit hf).1 hq).1, ((no_hit hf).1 hq).2, e⟩
    | some t =>
      right
      rw [hq] at e
      obtain ⟨h1, h2, h3⟩ := find_least (subsets_asc hs) hq
      refine ⟨hf, fun hn => ?_, t, e, rfl, h1, (mem_subsets hs t).1 h2, fun x hx => ?_⟩
      · rw [(no_hit hf).2 hn] at hq; cases hq
      · exact Nat.le_trans (h3 _ ((mem_subsets hs _).2 (and_sub_right x (supS l))) (hit_within hx)) (cnt_sub (and_sub_left x (supS l)))
  · left
    exact ⟨hv, by unfold leastErr; rw [if_pos hv]⟩

/-! ### Of -/
theorem survR_const (f : List S) (s : S) : ∀ (l : List S) (b : Int), (∀ x ∈ l, b ≤ (cnt x : Int) - 1) → survR f s l b = b
  | [], b, _ => rfl
  | x :: xs, b, h => by
    have := h x List.mem_cons_self
    rw [survR, if_neg (by omega)]
    exact survR_const f s xs b fun y hy => h y (List.mem_cons_of_mem _ hy)
theorem survR_first (f : List S) : ∀ (l : List S) (b : Int) (t : S), Asc l → l.find? (hitS f) = some t → (cnt t : Int) - 1 < b → survR f (supS f) l b = (cnt t : Int) - 1
  | [], b, t, _, h, _ => by simp at h
  | x :: xs, b, t, ha, h, hb => by
    rw [survR, acc_sup]
    cases hp : hitS f x with
    | true =>
      rw [List.find?_cons_of_pos hp] at h
      injection h with h; subst h
      rw [if_pos ⟨rfl, hb⟩]
      exact survR_const _ _ xs _ fun y hy => by have := (asc_cons ha).1 y hy; omega
    | false =>
      rw [List.find?_cons_of_neg (by simp [hp])] at h
      rw [if_neg (by simp)]
      exact survR_first f xs b t (asc_cons ha).2 h hb
theorem rof_eq (l : List S) : rofErr l = ofErr l := by
  unfold rofErr ofErr
  rw [rval_eq]
  rcases least_cases l with ⟨hv, _⟩ | ⟨hf, h1, h2, h3⟩ | ⟨hf, h1, t, h3, hq, h4, h5, h6⟩
  · rw [if_pos hv, if_pos hv]
  · have hv := (valid_iff l).2 hf
    rw [if_neg (fun h : validS l ≠ 0 => h hv), if_neg (fun h : validS l ≠ 0 => h hv), if_neg (by omega), if_pos h2, if_neg (by omega), h3]
    rfl
  · have hv := (valid_iff l).2 hf
    rw [if_neg (fun h : validS l ≠ 0 => h hv), if_neg (fun h : validS l ≠ 0 => h hv)]
    by_cases h0 : l.length = 0
    · rw [if_pos h0, if_pos h0]
    · rw [if_neg h0, if_neg h0, if_neg (fun h => h1 ⟨by omega, h⟩), h3]
      have hs := small_sup hf.low
      have := cnt_sub h5
      simp only [ne_eq, not_true_eq_false, if_false, survS]
      rw [refSubs_eq hs, survR_first l _ _ t (subsets_asc hs) hq (by omega)]
theorem rafter_eq (l : List S) (fs : S) : rafterErr l fs = afterErr l fs := by
  unfold rafterErr afterErr; rw [rval_eq, rof_eq]

/-! ### Worst -/
theorem rwR_ne (l : List S) : ∀ (m acc : List S) (t : S) (r : List S), acc = t :: r → rwR l acc m = acc ++ m.filter fun x => hitS l x && decide (cnt t = cnt x)
  | [], acc, t, r, h => by simp [rwR]
  | x :: xs, acc, t, r, h => by
    have e : rwKeep l acc x = (hitS l x && decide (cnt t = cnt x)) := by subst h; simp [rwKeep, at_]
    rw [rwR, e, List.filter_cons]
    split
    · rw [rwR_ne l xs (acc ++ [x]) t (r ++ [x]) (by subst h; rfl), List.append_assoc]; rfl
    · exact rwR_ne l xs acc t r h
theorem rwR_nil (l : List S) : ∀ (m : List S), Asc m → rwR l [] m = match m.find? (hitS l) with | none => [] | some t => m.filter fun x => hitS l x && decide (cnt t = cnt x)
  | [], _ => rfl
  | x :: xs, ha => by
    have e : rwKeep l [] x = hitS l x := by simp [rwKeep]
    rw [rwR, e]
    cases hp : hitS l x with
    | true =>
      rw [List.find?_cons_of_pos hp]
      rw [if_pos rfl, List.nil_append, rwR_ne l xs [x] x [] rfl]
      simp [hp]
    | false =>
      rw [List.find?_cons_of_neg (by simp [hp]), if_neg (by simp), rwR_nil l xs (asc_cons ha).2]
      cases xs.find? (hitS l) with
      | none => rfl
      | some t => simp [hp]
theorem worstL_asc {l : List S} (hs : small (supS l)) {k : Nat} (hk : k ≤ cnt (supS l)) : Asc (worstL l k) ∧ ∀ x, x ∈ worstL l k ↔ sub x (supS l) = true ∧ cnt x = k ∧ hitS l x = true := by
  have hk' : k ≤ (members (supS l)).length := by rw [members_cnt hs]; exact hk
  refine ⟨List.Pairwise.filter _ (chooseL_asc hs k hk'), fun x => ?_⟩
  unfold worstL
  rw [List.mem_filter, mem_chooseL hs k hk', and_assoc]
theorem rworst_eq (l : List S) : rworstErr l = worstErr l := by
  unfold rworstErr worstErr
  rw [rval_eq]
  rcases least_cases l with ⟨hv, h3⟩ | ⟨hf, h1, h2, h3⟩ | ⟨hf, h1, t, h3, hq, h4, h5, h6⟩
  · rw [if_pos hv, h3, if_pos hv]
  · have hv := (valid_iff l).2 hf
    rw [if_neg (by simp [hv]), if_pos ⟨h1, h2⟩, h3, if_pos (by decide)]
  · have hv := (valid_iff l).2 hf
    have hs := small_sup hf.low
    rw [if_neg (by simp [hv]), if_neg h1, h3]
    have e : rwR l [] (refSubs (supS l)) = worstL l (cnt t) := by
      rw [refSubs_eq hs, rwR_nil l _ (subsets_asc hs), hq]
      have hw := worstL_asc hs (cnt_sub h5)
      refine asc_ext (List.Pairwise.filter _ (subsets_asc hs)) hw.1 fun x => ?_
      rw [hw.2, List.mem_filter, mem_subsets hs, Bool.and_eq_true, decide_eq_true_eq]
      constructor
      · rintro ⟨a, b, c⟩; exact ⟨a, c.symm, b⟩
      · rintro ⟨a, b, c⟩; exact ⟨a, c, b.symm⟩
    rw [e]
    rfl

/-! ### facts of the statements -/
theorem low_worst {l : List S} (h : Low6 l) {k : Nat} (hk : k ≤ cnt (supS l)) : (worstL l k).length ≤ 64 := by
  have hs := small_sup h.small
  have hw := worstL_asc hs hk
  exact low_len (fun x hx => low_sub (sub_trans ((hw.2 x).1 hx).1 (low_sup h))) hw.1
/-- what Survives says of the families of six servers -/
theorem survives_ok {l : List S} (hf : Fam l) (hl : Low6 l) (fs : S) :
    ((ofErr l).2 ≠ 0 ∨ (worstErr l).2 ≠ 0) ∧ (l.length = 0 ∨ at_ l 0 = 0#16) ∨
    ((ofErr l).2 = 0 ∧ (worstErr l).2 = 0) ∧ (∀ s ∈ (worstErr l).1, accS l (4095#16 &&& ~~~s) = false ∧ (cnt s : Int) = (ofErr l).1 + 1) ∧ ((ofErr l).1 < (cnt fs : Int) ∨ accS l (4095#16 &&& ~~~fs) = true) := by
  have hv := (valid_iff l).2 hf
  have eo : ofErr l = if l.length = 0 then (0, 9) else if (leastErr l).2 ≠ 0 then (0, (leastErr l).2) else ((cnt (leastErr l).1 : Int) - 1, 0) := by unfold ofErr; rw [if_neg (by simp [hv])]
  by_cases h0 : l.length = 0
  · left
    rw [eo, if_pos h0]
    exact ⟨.inl (by decide), .inl h0⟩
  rw [if_neg h0] at eo
  rcases least_cases l with ⟨h, _⟩ | ⟨_, h1, h2, h3⟩ | ⟨_, h1, t, h3, hq, h4, h5, h6⟩
  · exact absurd hv h
  · left
    rw [eo, h3]
    exact ⟨.inl (by decide), .inr h2⟩
  · right
    rw [h3] at eo
    have eo' : ofErr l = ((cnt t : Int) - 1, 0) := eo
    have ew : worstErr l = (worstL l (cnt t), 0) := by
      unfold worstErr
      rw [h3, if_neg (by simp), if_neg (show ¬ 400 < (worstL l (cnt t)).length by have := low_worst hl (cnt_sub h5); omega)]
    rw [eo', ew]
    refine ⟨⟨rfl, rfl⟩, fun s hs => ?_, ?_⟩
    · obtain ⟨_, h7, h8⟩ := ((worstL_asc (small_sup hf.low) (cnt_sub h5)).2 s).1 hs
      refine ⟨?_, by rw [h7]; show (cnt t : Int) = (cnt t : Int) - 1 + 1; omega⟩
      rw [acc_4095 hf.low, h8]; rfl
    · rw [acc_4095 hf.low]
      cases hh : hitS l fs with
      | false => right; rfl
      | true => left; have := h6 fs hh; show (cnt t : Int) - 1 < _; omega
theorem cnt_or_le (x y : S) : cnt (x ||| y) ≤ cnt x + cnt y := by
  have e : x ||| y = x ||| (y &&& ~~~x) := by
    apply BitVec.eq_of_getLsbD_eq; intro i hi
    simp only [BitVec.getLsbD_or, BitVec.getLsbD_and, BitVec.getLsbD_not, hi, decide_true, Bool.true_and]
    cases x.getLsbD i <;> cases y.getLsbD i <;> rfl
  have d : x &&& (y &&& ~~~x) = 0#16 := by
    apply BitVec.eq_of_getLsbD_eq; intro i hi
    simp only [BitVec.getLsbD_and, BitVec.getLsbD_not, hi, decide_true, Bool.true_and, BitVec.getLsbD_zero]
    cases x.getLsbD i <;> cases y.getLsbD i <;> rfl
  rw [e, cnt_or d]
  have := cnt_sub (and_sub_left y (~~~x))
  omega
theorem left_mem (l : List S) (fs x : S) : x ∈ leftS l fs ↔ x ∈ l ∧ x &&& fs = 0#16 := by unfold leftS; rw [List.mem_filter]; simp
/-- what After says of any family -/
theorem after_ok (l : List S) (fs : S) (h : (afterErr l fs).2 = 0) :
    (ofErr l).2 = 4 ∨ (ofErr l).2 = 0 ∧ (max (-1) ((ofErr l).1 - (cnt fs : Int)) ≤ (afterErr l fs).1 ∧ (afterErr l fs).1 ≤ (ofErr l).1) := by
  by_cases hv : validS l = 0
  · have hf := (valid_iff l).1 hv
    have eo : ofErr l = if l.length = 0 then (0, 9) else if (leastErr l).2 ≠ 0 then (0, (leastErr l).2) else ((cnt (leastErr l).1 : Int) - 1, 0) := by unfold ofErr; rw [if_neg (by simp [hv])]
    have ea : afterErr l fs = if l.length = 0 then (0, 9) else if (leftS l fs).length = 0 then (-1, 0) else ofErr (leftS l fs) := by unfold afterErr; rw [if_neg (by simp [hv])]
    by_cases h0 : l.length = 0
    · rw [ea, if_pos h0] at h; exact absurd h (by decide)
    rw [if_neg h0] at eo ea
    rcases least_cases l with ⟨h, _⟩ | ⟨_, h1, h2, h3⟩ | ⟨_, h1, t, h3, hq, h4, h5, h6⟩
    · exact absurd hv h
    · left; rw [eo, h3]; rfl
    · right
      rw [h3] at eo
      have eo' : ofErr l = ((cnt t : Int) - 1, 0) := eo
      rw [eo']
      refine ⟨rfl, ?_⟩
      show max (-1) ((cnt t : Int) - 1 - (cnt fs : Int)) ≤ (afterErr l fs).1 ∧ (afterErr l fs).1 ≤ (cnt t : Int) - 1
      by_cases h7 : (leftS l fs).length = 0
      · rw [ea, if_pos h7]
        have h8 : hitS l fs = true := (hitS_iff _ _).2 fun x hx hc => by
          have : x ∈ leftS l fs := (left_mem l fs x).2 ⟨hx, hc⟩
          rw [List.eq_nil_of_length_eq_zero h7] at this; cases this
        have := h6 fs h8
        show max (-1) ((cnt t : Int) - 1 - (cnt fs : Int)) ≤ -1 ∧ (-1 : Int) ≤ (cnt t : Int) - 1
        omega
      · rw [ea, if_neg h7] at h ⊢
        rcases least_cases (leftS l fs) with ⟨k1, _⟩ | ⟨k0, k1, k2, k3⟩ | ⟨k0, k1, t', k3, _, k4, k5, k6⟩
        · unfold ofErr at h; rw [if_pos k1] at h; exact absurd h k1
        · unfold ofErr at h; rw [if_neg (by simp [(valid_iff _).2 k0]), if_neg h7, k3] at h; exact absurd h (by decide)
        · have e2 : ofErr (leftS l fs) = ((cnt t' : Int) - 1, 0) := by
            unfold ofErr; rw [if_neg (by simp [(valid_iff _).2 k0]), if_neg h7, k3]; rfl
          rw [e2]
          have a1 : hitS l (t' ||| fs) = true := (hitS_iff _ _).2 fun x hx => by
            by_cases hc : x &&& fs = 0#16
            · obtain ⟨i, hi, b1, b2⟩ := (and_ne _ _).1 ((hitS_iff _ _).1 k4 x ((left_mem l fs x).2 ⟨hx, hc⟩))
              exact (and_ne _ _).2 ⟨i, hi, b1, by rw [BitVec.getLsbD_or, b2]; rfl⟩
            · obtain ⟨i, hi, b1, b2⟩ := (and_ne _ _).1 hc
              exact (and_ne _ _).2 ⟨i, hi, b1, by rw [BitVec.getLsbD_or, b2]; simp⟩
          have a2 : hitS (leftS l fs) t = true := (hitS_iff _ _).2 fun x hx => (hitS_iff _ _).1 h4 x ((left_mem l fs x).1 hx).1
          have := h6 _ a1
          have := k6 _ a2
          have := cnt_or_le t' fs
          show max (-1) ((cnt t : Int) - 1 - (cnt fs : Int)) ≤ (cnt t' : Int) - 1 ∧ (cnt t' : Int) - 1 ≤ (cnt t : Int) - 1
          omega
  · unfold afterErr at h; rw [if_pos hv] at h; exact absurd h hv
end Go.Proofs.YtbiggfbbccpcmaaDoor
