/- Texts joined into one (wip/bin/pack.py): OwnM. -/
import Derived.Test.YtkoohobpbopnnaaGreatDoorKT
import Derived.Test.YtkoohobpbopnnaaGreatDoorKO
/- A safe configuration and a client with its own model (plain laws). -/
namespace Go.Proofs.YtkoohobpbopnnaaGreatDoor
open Go.RowKit Go.Lib Go.Shelf

/-! ### sizes -/
theorem flatMap_le {α β : Type} (l : List α) (f : α → List β) (K : Nat) (h : ∀ x ∈ l, (f x).length ≤ K) : (l.flatMap f).length ≤ l.length * K := by
  induction l with
  | nil => simp
  | cons x xs ih =>
    rw [List.flatMap_cons, List.length_append, List.length_cons, Nat.add_mul, Nat.one_mul]
    have h1 := h x (List.mem_cons_self ..)
    have h2 := ih (fun y hy => h y (List.mem_cons_of_mem _ hy))
    omega
theorem rowA_len (byz : List S) (r q : S) : (rowA byz r q).length = byz.length := by simp [rowA]
theorem rowC_len (byz : List S) (r q : S) : (rowC byz r q).length ≤ byz.length := by unfold rowC; rw [List.length_map]; exact List.length_filter_le _ _
theorem rows1_len (byz Q R : List S) : (rows1 byz Q R).length ≤ R.length * (Q.length * byz.length) :=
  flatMap_le R _ _ (fun r _ => flatMap_le Q _ _ (fun q _ => by rw [rowA_len]; exact Nat.le_refl _))
theorem rows2_len (byz : List S) (K : Nat) : ∀ Q : List S, Q.length ≤ K → (rows2 byz Q).length ≤ Q.length * (K * byz.length)
  | [], _ => by simp [rows2]
  | p :: ps, h => by
    rw [rows2, List.length_append, List.length_cons, Nat.add_mul, Nat.one_mul]
    have h1 := flatMap_le (p :: ps) (rowC byz p) byz.length (fun q _ => rowC_len byz p q)
    have h2 := rows2_len byz K ps (by simp at h; omega)
    have h3 : (p :: ps).length * byz.length ≤ K * byz.length := Nat.mul_le_mul_right _ h
    omega
theorem rowsR_len (byz R Q : List S) : (rowsR byz R Q).length ≤ R.length * (Q.length * byz.length) + Q.length * (Q.length * byz.length) := by
  unfold rowsR
  rw [List.length_append]
  have h1 := rows1_len byz Q R
  have h2 := rows2_len byz Q.length Q (Nat.le_refl _)
  omega
theorem rowsR_small {byz R Q : List S} (hR : R.length ≤ 32) (hQ : Q.length ≤ 32) (hb : byz.length ≤ 1000) : (rowsR byz R Q).length ≤ 9000000 := by
  have h := rowsR_len byz R Q
  have h1 : Q.length * byz.length ≤ 32 * 1000 := Nat.mul_le_mul hQ hb
  have h2 : R.length * (Q.length * byz.length) ≤ 32 * (32 * 1000) := Nat.mul_le_mul hR h1
  have h3 : Q.length * (Q.length * byz.length) ≤ 32 * (32 * 1000) := Nat.mul_le_mul hQ h1
  omega
theorem chTo32 {s : S} (hs : s.toNat < 32) (k : Nat) : ∀ n, 32 + n ≤ 65536 → chTo s k (32 + n) = chTo s k 32
  | 0, _ => rfl
  | n + 1, h => by
    have hx : (BitVec.ofNat 16 (32 + n) &&& ~~~s == 0#16) = false := by
      rw [Bool.eq_false_iff]
      intro e
      have := sub_le (show sub (BitVec.ofNat 16 (32 + n)) s = true from e)
      rw [BitVec.toNat_ofNat, Nat.mod_eq_of_lt (by omega)] at this
      omega
    rw [show 32 + (n + 1) = (32 + n) + 1 from rfl, chTo, hx, chTo32 hs k n (by omega)]
    simp
theorem chooseA_len {s : S} (hs : s.toNat < 32) (k : Nat) : (chooseA s k).length ≤ 32 := by
  rw [← chooseA_eq s k (32 + 65504) rfl, chTo32 hs k 65504 (by omega)]
  exact chTo_len s k 32
theorem full32 : ∀ n : Fin 6, (fullS n.val).toNat < 32 := by decide
theorem refLeast_len (l : List S) : (refLeast l).length ≤ l.length := by
  rw [refLeast_filter]
  refine Nat.le_trans (List.length_filter_le _ _) ?_
  exact Nat.le_trans (compactL_le _) (by show (msort l).length ≤ _; unfold msort; rw [List.length_mergeSort]; exact Nat.le_refl _)
theorem setsR_len (md : Int) (l : List S) (n : Nat) (h5 : n ≤ 5) : (setsR md l n).length ≤ 32 := by
  unfold setsR
  split
  · exact chooseA_len (full32 ⟨n, by omega⟩) _
  · refine Nat.le_trans (refLeast_len _) ?_
    have h1 := cutN_le (fullS n) (l.take 6)
    have h2 := List.length_take_le 6 l
    unfold orAll
    split
    · simp
    · omega
theorem nOf_le (N : Int) : nOf N ≤ 5 := by unfold nOf; omega
/-! ### no error is ErrSafe -/
theorem val1_ne : ∀ (l : List S) (p : Option S), val1 p l ≠ 13
  | [], p => by simp [val1]
  | s :: rest, p => by
    have := val1_ne rest (some s)
    unfold val1
    repeat' split
    all_goals first | exact this | decide
theorem val2_ne (l pre : List S) : val2 pre l ≠ 13 := by rcases val2_01 l pre with h | h <;> rw [h] <;> decide
theorem valid_ne (l : List S) : validS l ≠ 13 := by
  unfold validS
  split
  · decide
  · split
    · exact val2_ne _ _
    · exact val1_ne _ _
theorem cf_ne (l : List S) (M : S) : cfS l M ≠ 13 := by
  unfold cfS
  repeat' split
  all_goals first | exact valid_ne l | decide
theorem chk_ne (a : F2) : chkF a ≠ 13 := by
  unfold chkF
  repeat' split
  all_goals decide
theorem fvI_ne (m : List F2) : ∀ c i, fvI m c i ≠ 13
  | 0, _ => by simp [fvI]
  | c + 1, i => by
    have := fvI_ne m c (i + 1)
    rw [fvI]
    repeat' split
    all_goals first | exact chk_ne _ | exact this | decide
theorem fv_ne (m : List F2) : fvS m ≠ 13 := by
  unfold fvS
  repeat' split
  all_goals first | exact fvI_ne _ _ _ | decide
theorem cv_ne (kd : Int) (M : S) (R Q : List S) (F : List F2) : cvS kd M R Q F ≠ 13 := by
  unfold cvS
  repeat' split
  all_goals first | exact cf_ne _ _ | exact fv_ne _ | decide
/-! ### a safe configuration -/
theorem mem_rowA {byz : List S} {r q : S} {x : CL} : x ∈ rowA byz r q ↔ ∃ b ∈ byz, x = (1, r, q, b) := by
  unfold rowA; rw [List.mem_map]; exact ⟨fun ⟨b, h, e⟩ => ⟨b, h, e.symm⟩, fun ⟨b, h, e⟩ => ⟨b, h, e.symm⟩⟩
theorem mem_rowC {byz : List S} {r q : S} {x : CL} : x ∈ rowC byz r q ↔ ∃ b ∈ byz, b ≠ 0#16 ∧ x = (2, r, q, b) := by
  unfold rowC; rw [List.mem_map]
  constructor
  · rintro ⟨b, h, rfl⟩
    obtain ⟨h1, h2⟩ := List.mem_filter.1 h
    exact ⟨b, h1, by simpa using h2, rfl⟩
  · rintro ⟨b, h1, h2, rfl⟩
    exact ⟨b, List.mem_filter.2 ⟨h1, by simpa using h2⟩, rfl⟩
theorem rows2_mem {byz : List S} : ∀ {Q : List S} {p q b : S}, p ∈ Q → q ∈ Q → b ∈ byz → b ≠ 0#16 → (2, p, q, b) ∈ rows2 byz Q ∨ (2, q, p, b) ∈ rows2 byz Q
  | [], p, q, b, h, _, _, _ => by simp at h
  | x :: xs, p, q, b, hp, hq, hb, h0 => by
    rw [rows2]
    rcases List.mem_cons.1 hp with rfl | hp'
    · exact .inl (List.mem_append_left _ (List.mem_flatMap.2 ⟨q, hq, mem_rowC.2 ⟨b, hb, h0, rfl⟩⟩))
    · rcases List.mem_cons.1 hq with rfl | hq'
      · exact .inr (List.mem_append_left _ (List.mem_flatMap.2 ⟨p, hp, mem_rowC.2 ⟨b, hb, h0, rfl⟩⟩))
      · rcases rows2_mem hp' hq' hb h0 with h | h
        · exact .inl (List.mem_append_right _ h)
        · exact .inr (List.mem_append_right _ h)
theorem safe_cv {kd : Int} {wt M : S} {R Q : List S} {F : List F2} (h : safe27 kd wt M R Q F = true) : cvS kd M R Q F = 0 ∧ firstR wt (byz27 kd M F) R Q = none := by
  unfold safe27 clash27 at h
  by_cases hc : cvS kd M R Q F = 0
  · rw [if_neg (by simp [hc])] at h
    cases hf : firstR wt (byz27 kd M F) R Q with
    | none => exact ⟨hc, rfl⟩
    | some x => rw [hf] at h; simp at h
  · rw [if_pos hc] at h
    have := cv_ne kd M R Q F
    simp at h
    exact absurd h this
theorem safe_rules {kd : Int} {wt M : S} {R Q : List S} {F : List F2} (h : safe27 kd wt M R Q F = true) :
    (∀ r ∈ R, ∀ q ∈ Q, ∀ b ∈ byz27 kd M F, p1 r q wt b = false) ∧ (∀ p ∈ Q, ∀ q ∈ Q, ∀ b ∈ byz27 kd M F, p2 p q b = false) := by
  have hf := (safe_cv h).2
  unfold firstR at hf
  rw [List.find?_eq_none] at hf
  constructor
  · intro r hr q hq b hb
    have := hf (1, r, q, b) (List.mem_append_left _ (List.mem_flatMap.2 ⟨r, hr, List.mem_flatMap.2 ⟨q, hq, mem_rowA.2 ⟨b, hb, rfl⟩⟩⟩))
    unfold p1
    simpa [violC, badC] using this
  · intro p hp q hq b hb
    unfold p2
    by_cases h0 : b = 0#16
    · simp [h0]
    · have hp0 : (b != 0#16) = true := by simpa using h0
      rw [hp0, Bool.true_and]
      rcases rows2_mem hp hq hb h0 with g | g
      · have := hf _ (List.mem_append_right _ g)
        simpa [violC, badC] using this
      · have := hf _ (List.mem_append_right _ g)
        rw [BitVec.and_comm p q]
        simpa [violC, badC] using this
theorem mask_chk {M : S} {F : List F2} (hM : small M) : ∀ x ∈ maskF M F, chkF x = 0 := fun x hx => by
  unfold maskF at hx
  obtain ⟨y, _, rfl⟩ := List.mem_map.1 hx
  refine chk_of ?_ (by simp)
  have := small_of_sub (show sub (y.1 &&& M) M = true by rw [sub_iff]; intro i _ h; rw [BitVec.getLsbD_and, Bool.and_eq_true] at h; exact h.2) hM
  have h1 : outS (y.1 &&& M) = false := by
    unfold outS
    rw [Bool.eq_false_iff]
    intro e
    have e1 : (y.1 &&& M) &&& 61440#16 ≠ 0#16 := by simpa using e
    apply e1
    apply BitVec.eq_of_getLsbD_eq
    intro i hi
    rw [BitVec.getLsbD_and, BitVec.getLsbD_zero]
    cases g : (y.1 &&& M).getLsbD i with
    | false => rfl
    | true =>
      have := (small_iff _).1 this i hi g
      have h12 : ∀ j : Fin 12, (61440#16 : S).getLsbD j.val = false := by decide
      rw [h12 ⟨i, this⟩]; rfl
  unfold facF
  simpa [outS] using h1
/-- the Byzantine sets of both layers have the same members -/
theorem restr_mem {M : S} {F : List F2} (hM : small M) (hF : F.length ≤ 400) (b : S) : b ∈ restrL M F ↔ b ∈ byzS M F := by
  rw [byz_mem M F hM hF]
  unfold restrL byz19 fstL
  rw [List.mem_map]
  have hb0 : b0L (maskF M F) = maskF M F := by unfold b0L maskF; rw [List.map_map]; rfl
  rw [hb0]
  have hcov : ∀ x y : S, covF (x, 0#16) (y, 0#16) = sub y x := fun x y => by
    show ((y &&& ~~~x == 0#16) && ((y ||| 0#16) &&& ~~~(x ||| 0#16) == 0#16)) = (y &&& ~~~x == 0#16)
    rw [BitVec.or_zero, BitVec.or_zero, Bool.and_self]
  have hmk : ∀ z : F2, z ∈ maskF M F ↔ z.2 = 0#16 ∧ z.1 ∈ mskF M F := fun z => by
    unfold maskF mskF
    rw [List.mem_map, List.mem_map]
    constructor
    · rintro ⟨y, hy, rfl⟩; exact ⟨rfl, y, hy, rfl⟩
    · rintro ⟨h2, y, hy, h1⟩; exact ⟨y, hy, Prod.ext h1 h2.symm⟩
  constructor
  · rintro ⟨z, hz, rfl⟩
    obtain ⟨h1, h2⟩ := (normF_mem _ z).1 hz
    obtain ⟨e2, e1⟩ := (hmk z).1 h1
    refine ⟨e1, fun c hc hs => ?_⟩
    have := h2 (c, 0#16) ((hmk _).2 ⟨rfl, hc⟩) (by rw [show z = (z.1, 0#16) from Prod.ext rfl e2, hcov]; exact hs)
    rw [← this]
  · rintro ⟨h1, h2⟩
    refine ⟨(b, 0#16), (normF_mem _ _).2 ⟨(hmk _).2 ⟨rfl, h1⟩, fun y hy hc => ?_⟩, rfl⟩
    obtain ⟨e2, e1⟩ := (hmk y).1 hy
    rw [show y = (y.1, 0#16) from Prod.ext rfl e2, hcov] at hc
    have := h2 y.1 e1 hc
    exact Prod.ext this e2
/-- what the statement TrustOwn asks -/
theorem own_facts {kd : Int} {wt M : S} {R Q : List S} {F : List F2} (h : safe27 kd wt M R Q F = true) :
    (kd = 1 → (refGreatest (mskF M F)).any (fun b => b != 0#16) = true → soundS kd wt M R Q F F = false) ∧
    (¬ (kd = 1 ∧ (refGreatest (mskF M F)).any (fun b => b != 0#16) = true) → soundS kd wt M R Q F F = true ∧ ∀ s ∈ Q, accS28 kd wt M R Q F F s = true) := by
  have hcv := (safe_cv h).1
  have hM := cv_small hcv
  obtain ⟨hk, _, _, _, hfv⟩ := cv_parts hcv
  have hlen := fv_len hfv
  have htv : tvS kd M R Q F F = 0 := by unfold tvS; rw [if_neg (by simp [hcv])]; exact hfv
  rw [← byz_ref htv]
  obtain ⟨r1, r2⟩ := safe_rules h
  constructor
  · intro hk1 hany
    cases hs : soundS kd wt M R Q F F with
    | false => rfl
    | true =>
      have := ((sound_iff htv).1 hs).1 hk1
      rw [List.any_eq_true] at hany
      obtain ⟨b, hb, h0⟩ := hany
      rw [this b hb] at h0
      exact absurd h0 (by decide)
  · intro hno
    have hz : kd = 1 → ∀ b ∈ byzS M F, b = 0#16 := fun hk1 b hb => by
      by_cases h0 : b = 0#16
      · exact h0
      · exact absurd ⟨hk1, List.any_eq_true.2 ⟨b, hb, by simpa using h0⟩⟩ hno
    have hin : ∀ b ∈ byzS M F, b ∈ byz27 kd M F := fun b hb => by
      unfold byz27
      by_cases hk1 : kd = 1
      · rw [if_pos hk1, hz hk1 b hb]; exact List.mem_singleton.2 rfl
      · rw [if_neg hk1]; exact (restr_mem hM (by omega) b).2 hb
    refine ⟨(sound_iff htv).2 ⟨hz, fun r hr q hq b hb => r1 r hr q hq b (hin b hb), fun _ p hp q hq b hb => r2 p hp q hq b (hin b hb)⟩, fun s hs => ?_⟩
    unfold accS28
    rw [htv]
    simp only [beq_self_eq_true, Bool.true_and]
    rw [accT_iff]
    intro r hr b hb
    have := r1 r hr s hs b (hin b hb)
    unfold p1 at this
    rw [BitVec.and_comm s r]; exact this
end Go.Proofs.YtkoohobpbopnnaaGreatDoor
