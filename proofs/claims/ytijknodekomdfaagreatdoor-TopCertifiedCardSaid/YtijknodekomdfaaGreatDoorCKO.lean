/- Texts joined into one, what is needed of them (a program of ours). -/
import Derived.Test.YtijknodekomdfaaGreatDoorCKJ
import Derived.Test.YtijknodekomdfaaGreatDoorCKL
namespace Go.Proofs.YtijknodekomdfaaGreatDoor
open Go.RowKit Go.Lib Go.Shelf

theorem cv_parts {kd : Int} {M : S} {R Q : List S} {F : List F2} (h : cvS kd M R Q F = 0) : (kd = 1 ∨ kd = 2) ∧ M ≠ 0#16 ∧ cfS R M = 0 ∧ cfS Q M = 0 ∧ fvS F = 0 := by
  refine ⟨cv_kind h, ?_⟩
  unfold cvS at h
  by_cases h1 : (kd != 1 && kd != 2) = true
  · rw [if_pos h1] at h; exact absurd h (by decide)
  · rw [if_neg h1] at h
    by_cases h2 : (sv M / 4096 != 0) = true
    · rw [if_pos h2] at h; exact absurd h (by decide)
    · rw [if_neg h2] at h
      by_cases h3 : (M == 0#16) = true
      · rw [if_pos h3] at h; exact absurd h (by decide)
      · rw [if_neg h3] at h
        by_cases h4 : cfS R M = 0
        · rw [if_neg (by simp [h4])] at h
          by_cases h5 : cfS Q M = 0
          · rw [if_neg (by simp [h5])] at h
            exact ⟨by simpa using h3, h4, h5, h⟩
          · rw [if_pos h5] at h; exact absurd h h5
        · rw [if_pos h4] at h; exact absurd h h4
theorem cf_parts {l : List S} {M : S} (h : cfS l M = 0) : validS l = 0 ∧ l.length ≠ 0 ∧ at_ l 0 ≠ 0#16 ∧ supS l &&& ~~~M = 0#16 := by
  unfold cfS at h
  by_cases h1 : validS l = 0
  · rw [if_neg (by simp [h1])] at h
    by_cases h2 : l.length = 0 ∨ at_ l 0 = 0#16
    · rw [if_pos h2] at h; exact absurd h (by decide)
    · rw [if_neg h2] at h
      by_cases h3 : (supS l &&& ~~~M != 0#16) = true
      · rw [if_pos h3] at h; exact absurd h (by decide)
      · exact ⟨h1, fun e => h2 (.inl e), fun e => h2 (.inr e), by simpa using h3⟩
  · rw [if_pos h1] at h; exact absurd h h1
theorem fv_pos {m : List F2} (h : fvS m = 0) : 0 < m.length := by
  unfold fvS at h
  by_cases h0 : m.length = 0
  · rw [if_pos h0] at h; exact absurd h (by decide)
  · omega
end Go.Proofs.YtijknodekomdfaaGreatDoor
namespace Go.Proofs.YtijknodekomdfaaGreatDoor
open Go.RowKit Go.Lib Go.Shelf

theorem cmpS_zero (a b : S) : cmpS a b = 0 ↔ a = b := by
  rw [cmpS_ref]
  by_cases h : a = b
  · simp [h]
  · rw [if_neg h]
    split <;> simp [h]
theorem cmpS_lt (a b : S) : cmpS a b < 0 ↔ ltS a b = true := by unfold ltS; simp
def ltF (a b : F2) : Prop := cmpF a b < 0
theorem ltF_iff (a b : F2) : ltF a b ↔ ltS a.1 b.1 = true ∨ a.1 = b.1 ∧ ltS a.2 b.2 = true := by
  unfold ltF cmpF orF
  by_cases h : cmpS a.1 b.1 = 0
  · rw [if_neg (by simpa using h), cmpS_lt]
    have e := (cmpS_zero _ _).1 h
    constructor
    · intro g; exact .inr ⟨e, g⟩
    · rintro (g | g)
      · rw [e, ltS_irrefl] at g; cases g
      · exact g.2
  · rw [if_pos h, cmpS_lt]
    constructor
    · intro g; exact .inl g
    · rintro (g | g)
      · exact g
      · exact absurd ((cmpS_zero _ _).2 g.1) h
theorem ltF_irrefl (a : F2) : ¬ ltF a a := by rw [ltF_iff]; simp [ltS_irrefl]
theorem ltF_trans {a b c : F2} (h1 : ltF a b) (h2 : ltF b c) : ltF a c := by
  rw [ltF_iff] at *
  rcases h1 with h1 | ⟨e1, h1⟩ <;> rcases h2 with h2 | ⟨e2, h2⟩
  · exact .inl (ltS_trans h1 h2)
  · exact .inl (e2 ▸ h1)
  · exact .inl (e1 ▸ h2)
  · exact .inr ⟨e1.trans e2, ltS_trans h1 h2⟩
theorem ltF_total (a b : F2) : ltF a b ∨ a = b ∨ ltF b a := by
  rw [ltF_iff, ltF_iff]
  rcases ltS_total a.1 b.1 with h | h | h
  · exact .inl (.inl h)
  · rcases ltS_total a.2 b.2 with g | g | g
    · exact .inl (.inr ⟨h, g⟩)
    · exact .inr (.inl (Prod.ext h g))
    · exact .inr (.inr (.inr ⟨h.symm, g⟩))
  · exact .inr (.inr (.inl h))
def AscF (l : List F2) : Prop := l.Pairwise ltF
theorem insF_lt {x y : F2} {ys : List F2} (h : cmpF y x < 0) : insF x (y :: ys) = y :: insF x ys := by
  unfold insF; rw [posF, if_pos h, List.take_succ_cons, List.drop_succ_cons]; rfl
theorem insF_ge {x y : F2} {ys : List F2} (h : ¬ cmpF y x < 0) : insF x (y :: ys) = x :: y :: ys := by
  unfold insF; rw [posF, if_neg h]; rfl
theorem insF_mem (x z : F2) : ∀ l : List F2, z ∈ insF x l ↔ z = x ∨ z ∈ l
  | [] => by simp [insF, posF]
  | y :: ys => by
    by_cases h : cmpF y x < 0
    · rw [insF_lt h, List.mem_cons, insF_mem x z ys, List.mem_cons]
      constructor
      · rintro (a | a | a)
        · exact .inr (.inl a)
        · exact .inl a
        · exact .inr (.inr a)
      · rintro (a | a | a)
        · exact .inr (.inl a)
        · exact .inl a
        · exact .inr (.inr a)
    · rw [insF_ge h, List.mem_cons]
theorem insF_asc (x : F2) : ∀ {l : List F2}, AscF l → x ∉ l → AscF (insF x l)
  | [], _, _ => by show List.Pairwise _ _; simp [insF, posF]
  | y :: ys, ha, hx => by
    obtain ⟨h1, h2⟩ := List.pairwise_cons.1 ha
    by_cases h : cmpF y x < 0
    · rw [insF_lt h]
      refine List.pairwise_cons.2 ⟨fun z hz => ?_, insF_asc x h2 (fun g => hx (List.mem_cons_of_mem _ g))⟩
      rcases (insF_mem x z ys).1 hz with rfl | hz
      · exact h
      · exact h1 z hz
    · rw [insF_ge h]
      have hxy : ltF x y := by
        rcases ltF_total x y with g | g | g
        · exact g
        · exact absurd (g ▸ List.mem_cons_self ..) hx
        · exact absurd g h
      refine List.pairwise_cons.2 ⟨fun z hz => ?_, ha⟩
      rcases List.mem_cons.1 hz with rfl | hz
      · exact hxy
      · exact ltF_trans hxy (h1 z hz)
theorem covF_refl (x : F2) : covF x x = true := by unfold covF; simp
/-- the element with an index is kept -/
def KeptF (l : List F2) (i : Nat) : Prop := ∀ k, k < l.length → covF (fa l k) (fa l i) = true → fa l k = fa l i ∧ ¬ k < i
theorem keepR_iff (x : F2) (i : Nat) : ∀ (l : List F2) (k : Nat) (r : Bool), keepR x i l k r = true ↔ r = true ∧ ∀ j, j < l.length → covF (fa l j) x = true → fa l j = x ∧ ¬ k + j < i
  | [], k, r => by simp [keepR]
  | y :: ys, k, r => by
    rw [keepR, keepR_iff x i ys (k + 1)]
    constructor
    · rintro ⟨h1, h2⟩
      rw [Bool.and_eq_true] at h1
      refine ⟨h1.1, fun j hj hc => ?_⟩
      cases j with
      | zero =>
        rw [fa_cons_zero] at hc ⊢
        have := h1.2
        rw [hc] at this
        simp at this
        exact ⟨Prod.ext this.1.1 this.1.2, by omega⟩
      | succ j =>
        rw [fa_cons_succ] at hc ⊢
        have := h2 j (by simpa using hj) hc
        exact ⟨this.1, by omega⟩
    · rintro ⟨h1, h2⟩
      refine ⟨?_, fun j hj hc => ?_⟩
      · rw [h1, Bool.true_and]
        cases hc : covF y x with
        | false => rfl
        | true =>
          have := h2 0 (by simp) (by rw [fa_cons_zero]; exact hc)
          rw [fa_cons_zero] at this
          have e := this.1
          subst e
          have : ¬ k < i := by omega
          simp [this]
      · have := h2 (j + 1) (by simpa using hj) (by rw [fa_cons_succ]; exact hc)
        rw [fa_cons_succ] at this
        exact ⟨this.1, by omega⟩
theorem keep_iff (l : List F2) (i : Nat) : keepR (fa l i) i l 0 true = true ↔ KeptF l i := by
  rw [keepR_iff]
  unfold KeptF
  simp
theorem normR_inv (l : List F2) : ∀ (c i : Nat) (out : List F2), c + i = l.length → AscF out → (∀ z, z ∈ out ↔ ∃ j, j < i ∧ z = fa l j ∧ KeptF l j) →
    AscF (normR l c i out) ∧ ∀ z, z ∈ normR l c i out ↔ ∃ j, j < l.length ∧ z = fa l j ∧ KeptF l j
  | 0, i, out, hc, ha, hm => by
    rw [normR]
    obtain rfl : i = l.length := by omega
    exact ⟨ha, hm⟩
  | c + 1, i, out, hc, ha, hm => by
    rw [normR]
    by_cases hk : keepR (fa l i) i l 0 true = true
    · rw [if_pos hk]
      have hK := (keep_iff l i).1 hk
      have hx : fa l i ∉ out := by
        intro g
        obtain ⟨j, hj, he, _⟩ := (hm _).1 g
        exact (hK j (by omega) (by rw [← he]; exact covF_refl _)).2 hj
      refine normR_inv l c (i + 1) _ (by omega) (insF_asc _ ha hx) (fun z => ?_)
      rw [insF_mem, hm]
      constructor
      · rintro (rfl | ⟨j, hj, he, hk'⟩)
        · exact ⟨i, by omega, rfl, hK⟩
        · exact ⟨j, by omega, he, hk'⟩
      · rintro ⟨j, hj, he, hk'⟩
        by_cases hji : j = i
        · subst hji; exact .inl he
        · exact .inr ⟨j, by omega, he, hk'⟩
    · rw [if_neg hk]
      refine normR_inv l c (i + 1) _ (by omega) ha (fun z => ?_)
      rw [hm]
      constructor
      · rintro ⟨j, hj, he, hk'⟩; exact ⟨j, by omega, he, hk'⟩
      · rintro ⟨j, hj, he, hk'⟩
        by_cases hji : j = i
        · subst hji; exact absurd ((keep_iff l j).2 hk') hk
        · exact ⟨j, by omega, he, hk'⟩
theorem normF_spec (l : List F2) : AscF (normF l) ∧ ∀ z, z ∈ normF l ↔ ∃ j, j < l.length ∧ z = fa l j ∧ KeptF l j :=
  normR_inv l l.length 0 [] rfl List.Pairwise.nil (fun z => by simp)
theorem mem_fa {l : List F2} {x : F2} (h : x ∈ l) : ∃ i, i < l.length ∧ fa l i = x := by
  obtain ⟨i, hi, he⟩ := List.getElem_of_mem h
  exact ⟨i, hi, by simp [fa, List.getD, hi, he]⟩
theorem least_of {P : Nat → Prop} (h : ∃ i, P i) : ∃ i, P i ∧ ∀ k, k < i → ¬ P k := by
  obtain ⟨n, hn⟩ := h
  induction n using Nat.strongRecOn with
  | ind n ih =>
    by_cases g : ∃ k, k < n ∧ P k
    · obtain ⟨k, hk, hp⟩ := g
      exact ih k hk hp
    · exact ⟨n, hn, fun k hk hp => g ⟨k, hk, hp⟩⟩
/-- the members of Normal are the faults that no other one covers -/
theorem normF_mem (l : List F2) (z : F2) : z ∈ normF l ↔ z ∈ l ∧ ∀ y ∈ l, covF y z = true → y = z := by
  rw [(normF_spec l).2]
  constructor
  · rintro ⟨j, hj, rfl, hk⟩
    refine ⟨fa_mem hj, fun y hy hc => ?_⟩
    obtain ⟨k, hk1, rfl⟩ := mem_fa hy
    exact (hk k hk1 hc).1
  · rintro ⟨hz, hm⟩
    -- the first place of z
    obtain ⟨i, ⟨hi, he⟩, hmin⟩ := least_of (P := fun i => i < l.length ∧ fa l i = z) (mem_fa hz)
    refine ⟨i, hi, he.symm, fun k hk hc => ?_⟩
    rw [he] at hc
    have e := hm _ (fa_mem hk) hc
    exact ⟨e.trans he.symm, fun hlt => hmin k hlt ⟨hk, e⟩⟩
theorem covF_sub {b a : F2} (h : covF b a = true) : sub a.1 b.1 = true ∧ sub (facF a) (facF b) = true := by
  unfold covF at h
  rw [Bool.and_eq_true] at h
  exact h
theorem covF_of {b a : F2} (h1 : sub a.1 b.1 = true) (h2 : sub (facF a) (facF b) = true) : covF b a = true := by
  unfold covF; rw [Bool.and_eq_true]; exact ⟨h1, h2⟩
theorem covF_trans {a b c : F2} (h1 : covF a b = true) (h2 : covF b c = true) : covF a c = true :=
  covF_of (sub_trans (covF_sub h2).1 (covF_sub h1).1) (sub_trans (covF_sub h2).2 (covF_sub h1).2)
theorem chk_zero {a : F2} (h : chkF a = 0) : facF a &&& 61440#16 = 0#16 ∧ a.1 &&& a.2 = 0#16 := by
  unfold chkF at h
  by_cases h1 : (facF a &&& 61440#16 != 0#16) = true
  · rw [if_pos h1] at h; exact absurd h (by decide)
  · rw [if_neg h1] at h
    by_cases h2 : (a.1 &&& a.2 != 0#16) = true
    · rw [if_pos h2] at h; exact absurd h (by decide)
    · exact ⟨by simpa using h1, by simpa using h2⟩
theorem chk_of {a : F2} (h1 : facF a &&& 61440#16 = 0#16) (h2 : a.1 &&& a.2 = 0#16) : chkF a = 0 := by
  unfold chkF
  rw [if_neg (by simp [h1]), if_neg (by simp [h2])]
theorem crash_eq {a b : F2} (ha : a.1 &&& a.2 = 0#16) (hb : b.1 &&& b.2 = 0#16) (h1 : a.1 = b.1) (h2 : facF a = facF b) : a = b := by
  refine Prod.ext h1 ?_
  apply BitVec.eq_of_getLsbD_eq
  intro i hi
  have e1 := congrArg (fun x : S => x.getLsbD i) ha
  have e2 := congrArg (fun x : S => x.getLsbD i) hb
  have e3 := congrArg (fun x : S => x.getLsbD i) h2
  have e4 := congrArg (fun x : S => x.getLsbD i) h1
  simp only [facF, BitVec.getLsbD_and, BitVec.getLsbD_or, BitVec.getLsbD_zero] at e1 e2 e3 e4
  rw [e4] at e1 e3
  cases h : b.1.getLsbD i <;> simp_all
/-- over every fault lies one that no other one covers -/
theorem above_normF (l : List F2) (hl : ∀ x ∈ l, chkF x = 0) : ∀ (n : Nat) (x : F2), 32 - (cnt x.1 + cnt (facF x)) = n → x ∈ l → ∃ z ∈ normF l, covF z x = true := by
  intro n
  induction n using Nat.strongRecOn with
  | ind n ih =>
    intro x hn hx
    by_cases h : ∀ y ∈ l, covF y x = true → y = x
    · exact ⟨x, (normF_mem l x).2 ⟨hx, h⟩, covF_refl x⟩
    · simp only [Classical.not_forall] at h
      obtain ⟨y, hy, hc, hne⟩ := h
      have s1 := cnt_sub (covF_sub hc).1
      have s2 := cnt_sub (covF_sub hc).2
      have b1 := cnt_le y.1
      have b2 := cnt_le (facF y)
      have hlt : cnt x.1 + cnt (facF x) < cnt y.1 + cnt (facF y) := by
        by_cases e1 : x.1 = y.1
        · by_cases e2 : facF x = facF y
          · exact absurd (crash_eq (chk_zero (hl x hx)).2 (chk_zero (hl y hy)).2 e1 e2).symm hne
          · have := cnt_lt (covF_sub hc).2 e2
            omega
        · have := cnt_lt (covF_sub hc).1 e1
          omega
      obtain ⟨z, hz, hcz⟩ := ih (32 - (cnt y.1 + cnt (facF y))) (by omega) y rfl hy
      exact ⟨z, hz, covF_trans hcz hc⟩
theorem exF_false (x : F2) : ∀ l : List F2, (∀ y ∈ l, covF x y = false ∧ covF y x = false) → exF x l = false
  | [], _ => rfl
  | y :: ys, h => by
    have hy := h y (List.mem_cons_self ..)
    rw [exF, hy.1, hy.2, if_neg (by simp), if_neg (by simp)]
    exact exF_false x ys (fun z hz => h z (List.mem_cons_of_mem _ hz))
theorem asc_fa {m : List F2} (h : AscF m) {i j : Nat} (hi : i < j) (hj : j < m.length) : ltF (fa m i) (fa m j) := by
  have := List.pairwise_iff_getElem.1 h i j (by omega) hj hi
  simpa [fa, List.getD, hj, show i < m.length by omega] using this
theorem take_mem {m : List F2} {i : Nat} (hi : i < m.length) {y : F2} (h : y ∈ m.take i) : ∃ k, k < i ∧ fa m k = y := by
  obtain ⟨k, hk, he⟩ := List.getElem_of_mem h
  rw [List.length_take] at hk
  rw [List.getElem_take] at he
  exact ⟨k, by omega, by simp [fa, List.getD, show k < m.length by omega, he]⟩
theorem fvI_zero (m : List F2) (ha : AscF m) (hc : ∀ x ∈ m, chkF x = 0) (hv : ∀ x ∈ m, ∀ y ∈ m, covF y x = true → y = x) : ∀ c i, c + i = m.length → fvI m c i = 0
  | 0, _, _ => rfl
  | c + 1, i, h => by
    have hi : i < m.length := by omega
    have e1 := hc _ (fa_mem hi)
    have e2 : exF (fa m i) (m.take i) = false := by
      refine exF_false _ _ (fun y hy => ?_)
      obtain ⟨k, hk, rfl⟩ := take_mem hi hy
      have hne : fa m k ≠ fa m i := fun e => ltF_irrefl (fa m i) (by have := asc_fa ha hk hi; rw [e] at this; exact this)
      have hkm := fa_mem (l := m) (i := k) (by omega)
      have him := fa_mem hi
      constructor
      · cases g : covF (fa m i) (fa m k) with
        | false => rfl
        | true => exact absurd (hv _ hkm _ him g).symm hne
      · cases g : covF (fa m k) (fa m i) with
        | false => rfl
        | true => exact absurd (hv _ him _ hkm g) hne
    have e3 : ¬ (0 < i ∧ 0 ≤ cmpF (fa m (i - 1)) (fa m i)) := by
      rintro ⟨g1, g2⟩
      have : cmpF (fa m (i - 1)) (fa m i) < 0 := asc_fa ha (by omega) hi
      omega
    rw [fvI, if_neg (by simp [e1]), if_neg (by simp [e2]), if_neg e3]
    exact fvI_zero m ha hc hv c (i + 1) (by omega)
theorem fv_norm {l : List F2} (h0 : 0 < l.length) (h100 : l.length ≤ 100) (hc : ∀ x ∈ l, chkF x = 0) : fvS (normF l) = 0 := by
  obtain ⟨z, hz, _⟩ := above_normF l hc _ (fa l 0) rfl (fa_mem h0)
  have hp : (normF l).length ≠ 0 := by have := List.length_pos_of_mem hz; omega
  have hle := normF_le l
  unfold fvS
  rw [if_neg hp, if_neg (by omega)]
  refine fvI_zero (normF l) (normF_spec l).1 (fun x hx => hc x ((normF_mem l x).1 hx).1) (fun x hx y hy g => ?_) _ _ rfl
  exact ((normF_mem l x).1 hx).2 y ((normF_mem l y).1 hy).1 g
theorem full_small : ∀ n : Fin 13, fullS n.val &&& 61440#16 = 0#16 := by decide
theorem chk_cut (n : Nat) (h : n ≤ 12) (x : F2) : chkF (cutF (fullS n) x) = 0 := by
  have hf := full_small ⟨n, by omega⟩
  simp only at hf
  have hb : ∀ i, i < 16 → ((fullS n).getLsbD i && (61440#16 : S).getLsbD i) = false := fun i _ => by
    have := congrArg (fun x : S => x.getLsbD i) hf
    simpa only [BitVec.getLsbD_and, BitVec.getLsbD_zero] using this
  refine chk_of ?_ ?_
  · apply BitVec.eq_of_getLsbD_eq
    intro i hi
    have := hb i hi
    simp only [cutF, facF, BitVec.getLsbD_and, BitVec.getLsbD_or, BitVec.getLsbD_not, BitVec.getLsbD_zero]
    cases h1 : (fullS n).getLsbD i <;> cases h2 : (61440#16 : S).getLsbD i <;> simp_all
  · apply BitVec.eq_of_getLsbD_eq
    intro i hi
    simp only [cutF, BitVec.getLsbD_and, BitVec.getLsbD_not, BitVec.getLsbD_zero, hi, decide_true, Bool.true_and]
    cases x.1.getLsbD i <;> simp
theorem made_chk (n : Nat) (h : n ≤ 12) (l : List F2) : ∀ x ∈ madeIn (fullS n) l, chkF x = 0 := fun x hx => by
  unfold madeIn at hx
  rcases List.mem_cons.1 hx with rfl | hx
  · decide
  · obtain ⟨y, _, rfl⟩ := List.mem_map.1 hx
    exact chk_cut n h y
theorem fv_made (n : Nat) (h : n ≤ 12) (l : List F2) : fvS (madeF n l) = 0 := by
  unfold madeF
  have hl := madeIn_len (fullS n) (l.take 6)
  have ht : (l.take 6).length ≤ 6 := by rw [List.length_take]; omega
  exact fv_norm (by omega) (by omega) (made_chk n h _)
end Go.Proofs.YtijknodekomdfaaGreatDoor
