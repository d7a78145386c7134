/- The plain laws of transversals: the dual lists the minimal transversals; the dual of the dual; valid families. -/
import Derived.Test.YtbiggfbbccpcmaaDoorR09c
namespace Go.Proofs.YtbiggfbbccpcmaaDoor
open Go.RowKit Go.Lib Go.Shelf

/-! ### supports and hitting -/
theorem ne0_iff (x : S) : x ≠ 0#16 ↔ ∃ i, i < 16 ∧ x.getLsbD i = true := by
  constructor
  · intro h
    refine Classical.byContradiction fun hn => h ?_
    apply BitVec.eq_of_getLsbD_eq
    intro i hi
    rw [BitVec.getLsbD_zero]
    cases hx : x.getLsbD i with
    | false => rfl
    | true => exact absurd ⟨i, hi, hx⟩ hn
  · rintro ⟨i, _, h2⟩ rfl
    simp at h2
theorem and_ne (x y : S) : x &&& y ≠ 0#16 ↔ ∃ i, i < 16 ∧ x.getLsbD i = true ∧ y.getLsbD i = true := by
  rw [ne0_iff]; simp [BitVec.getLsbD_and]
theorem supR_bit (i : Nat) : ∀ (l : List S) (acc : S), (supR acc l).getLsbD i = (acc.getLsbD i || l.any fun x => x.getLsbD i)
  | [], acc => by simp [supR]
  | x :: xs, acc => by rw [supR, supR_bit i xs, BitVec.getLsbD_or, List.any_cons, Bool.or_assoc]
theorem supS_bit (l : List S) (i : Nat) : (supS l).getLsbD i = true ↔ ∃ x ∈ l, x.getLsbD i = true := by
  unfold supS; rw [supR_bit]; simp
theorem sub_sup {f : List S} {x : S} (h : x ∈ f) : sub x (supS f) = true := (sub_iff _ _).2 fun i _ hb => (supS_bit f i).2 ⟨x, h, hb⟩
theorem small_of_sub {x y : S} (h : sub x y = true) (hy : small y) : small x := Nat.lt_of_le_of_lt (sub_le h) hy
theorem small_iff (x : S) : small x ↔ ∀ i, i < 16 → x.getLsbD i = true → i < 12 := by
  constructor
  · intro h i _ hb; exact small_bit h hb
  · intro h
    refine Nat.lt_pow_two_of_testBit (n := 12) _ fun i hi => ?_
    cases hx : x.toNat.testBit i with
    | false => rfl
    | true =>
      rcases Nat.lt_or_ge i 16 with h1 | h1
      · have := h i h1 hx; omega
      · rw [Nat.testBit_lt_two_pow (Nat.lt_of_lt_of_le x.isLt (Nat.pow_le_pow_right (n := 2) (by decide) h1))] at hx; cases hx
theorem small_sup {f : List S} (h : ∀ x ∈ f, small x) : small (supS f) := by
  rw [small_iff]
  intro i hi hb
  obtain ⟨x, hx, hxb⟩ := (supS_bit f i).1 hb
  exact small_bit (h x hx) hxb
theorem hitS_iff (f : List S) (s : S) : hitS f s = true ↔ ∀ x ∈ f, x &&& s ≠ 0#16 := by
  unfold hitS; simp
theorem hit_mono {f : List S} {s t : S} (h : sub s t = true) (hs : hitS f s = true) : hitS f t = true := by
  rw [hitS_iff] at *
  intro x hx
  obtain ⟨i, hi, h1, h2⟩ := (and_ne _ _).1 (hs x hx)
  exact (and_ne _ _).2 ⟨i, hi, h1, (sub_iff _ _).1 h i hi h2⟩
theorem and_sub_left (x y : S) : sub (x &&& y) x = true := (sub_iff _ _).2 fun i _ h => by rw [BitVec.getLsbD_and, Bool.and_eq_true] at h; exact h.1
theorem and_sub_right (x y : S) : sub (x &&& y) y = true := (sub_iff _ _).2 fun i _ h => by rw [BitVec.getLsbD_and, Bool.and_eq_true] at h; exact h.2
theorem hit_within {f : List S} {s : S} (hs : hitS f s = true) : hitS f (s &&& supS f) = true := by
  rw [hitS_iff] at *
  intro x hx
  obtain ⟨i, hi, h1, h2⟩ := (and_ne _ _).1 (hs x hx)
  exact (and_ne _ _).2 ⟨i, hi, h1, by rw [BitVec.getLsbD_and, h2, (sub_iff _ _).1 (sub_sup hx) i hi h1]; rfl⟩

/-! ### the dual -/
def D (f : List S) : List S := dualP f (subsetsL (supS f))
theorem dualFold_least (f : List S) : ∀ (l acc : List S), l.foldl (dualStep f) acc = leastR acc (l.filter (hitS f))
  | [], acc => by simp [leastR]
  | x :: xs, acc => by
    rw [List.foldl_cons, dualFold_least f xs, List.filter_cons, dualStep]
    cases hh : hitS f x with
    | false => simp
    | true => cases ha : accS acc x <;> simp [leastR, ha]
theorem rdual_fold (f : List S) : ∀ (l acc : List S), rdualR f acc l = l.foldl (dualStep f) acc
  | [], acc => rfl
  | x :: xs, acc => by
    rw [rdualR, rdual_fold f xs, List.foldl_cons, dualStep, Bool.and_comm]
theorem D_filter {f : List S} (hs : small (supS f)) : D f = ((subsetsL (supS f)).filter (hitS f)).filter (lone ((subsetsL (supS f)).filter (hitS f))) := by
  unfold D dualP
  rw [dualFold_least]
  exact leastR_filter _ (List.Pairwise.filter _ (subsets_asc hs)) _ [] [] rfl rfl
theorem rdualS_eq {f : List S} (hs : small (supS f)) : rdualS f = D f := by
  unfold rdualS D dualP; rw [refSubs_eq hs, rdual_fold]
theorem D_asc {f : List S} (hs : small (supS f)) : Asc (D f) := by
  rw [D_filter hs]; exact List.Pairwise.filter _ (List.Pairwise.filter _ (subsets_asc hs))
/-- a minimal transversal -/
def IsMinT (f : List S) (x : S) : Prop := hitS f x = true ∧ ∀ y, sub y x = true → hitS f y = true → y = x
theorem mem_D {f : List S} (hs : small (supS f)) (x : S) : x ∈ D f ↔ IsMinT f x := by
  rw [D_filter hs, List.mem_filter, List.mem_filter, lone_iff, mem_subsets hs]
  constructor
  · rintro ⟨⟨h1, h2⟩, h3⟩
    refine ⟨h2, fun y hy hh => h3 y ?_ hy⟩
    rw [List.mem_filter, mem_subsets hs]
    exact ⟨sub_trans hy h1, hh⟩
  · rintro ⟨h1, h2⟩
    have e := h2 _ (and_sub_left x (supS f)) (hit_within h1)
    refine ⟨⟨by rw [← e]; exact and_sub_right _ _, h1⟩, fun y hy hh => h2 y hh ?_⟩
    exact (List.mem_filter.1 hy).2
theorem minT_exists (f : List S) : ∀ (n : Nat) (s : S), cnt s = n → hitS f s = true → ∃ t, IsMinT f t ∧ sub t s = true := by
  intro n
  induction n using Nat.strongRecOn with
  | _ n ih =>
    intro s hn hs
    by_cases hm : ∀ y, sub y s = true → hitS f y = true → y = s
    · exact ⟨s, ⟨hs, hm⟩, sub_refl s⟩
    · simp only [Classical.not_forall] at hm
      obtain ⟨y, hy, hh, hne⟩ := hm
      obtain ⟨t, ht, hts⟩ := ih (cnt y) (by have := cnt_lt hy hne; omega) y rfl hh
      exact ⟨t, ht, sub_trans hts hy⟩
theorem sub_disj (x s : S) : sub x s = true ↔ ∀ i, i < 16 → ¬ (x.getLsbD i = true ∧ s.getLsbD i = false) := by
  rw [sub_iff]
  constructor
  · rintro h i hi ⟨h1, h2⟩; rw [h i hi h1] at h2; cases h2
  · intro h i hi h1
    cases h2 : s.getLsbD i with
    | true => rfl
    | false => exact absurd ⟨h1, h2⟩ (h i hi)
/-- A set hits the dual exactly if it contains a set of the family. -/
theorem hit_D {f : List S} (hs : small (supS f)) (s : S) : hitS (D f) s = accS f s := by
  rw [Bool.eq_iff_iff, accS_iff, hitS_iff]
  constructor
  · intro h
    refine Classical.byContradiction fun hn => ?_
    have hh : hitS f (~~~s) = true := by
      rw [hitS_iff]
      intro x hx
      have hx2 : sub x s ≠ true := fun e => hn ⟨x, hx, e⟩
      unfold sub at hx2
      simpa using hx2
    obtain ⟨t, ht, hts⟩ := minT_exists f _ (~~~s) rfl hh
    obtain ⟨i, hi, h1, h2⟩ := (and_ne _ _).1 (h t ((mem_D hs t).2 ht))
    have h3 := (sub_iff _ _).1 hts i hi h1
    rw [BitVec.getLsbD_not, h2] at h3
    simp at h3
  · rintro ⟨x, hx, hxs⟩ t ht
    obtain ⟨i, hi, h1, h2⟩ := (and_ne _ _).1 ((hitS_iff _ _).1 ((mem_D hs t).1 ht).1 x hx)
    exact (and_ne _ _).2 ⟨i, hi, h2, (sub_iff _ _).1 hxs i hi h1⟩
/-- A set is a transversal exactly if it contains a set of the dual. -/
theorem acc_D {f : List S} (hs : small (supS f)) (s : S) : accS (D f) s = hitS f s := by
  rw [Bool.eq_iff_iff, accS_iff]
  constructor
  · rintro ⟨t, ht, hts⟩; exact hit_mono hts ((mem_D hs t).1 ht).1
  · intro h
    obtain ⟨t, ht, hts⟩ := minT_exists f _ s rfl h
    exact ⟨t, (mem_D hs t).2 ht, hts⟩
theorem D_sub {f : List S} (hs : small (supS f)) : ∀ x ∈ D f, sub x (supS f) = true := fun x hx => by
  rw [D_filter hs] at hx
  exact (mem_subsets hs x).1 (List.mem_filter.1 (List.mem_filter.1 hx).1).1
theorem D_small {f : List S} (hs : small (supS f)) : small (supS (D f)) := small_sup fun x hx => small_of_sub (D_sub hs x hx) hs

/-! ### families -/
def Anti (f : List S) : Prop := ∀ x ∈ f, ∀ y ∈ f, sub x y = true → x = y
structure Fam (f : List S) : Prop where
  len : f.length ≤ 400
  low : ∀ x ∈ f, small x
  asc : Asc f
  anti : Anti f
theorem D_anti {f : List S} (hs : small (supS f)) : Anti (D f) := fun x hx y hy h => ((mem_D hs y).1 hy).2 x h ((mem_D hs x).1 hx).1
/-- The dual of the dual is the family. -/
theorem DD {f : List S} (hf : Fam f) : D (D f) = f := by
  have hs := small_sup hf.low
  refine asc_ext (D_asc (D_small hs)) hf.asc fun x => ?_
  rw [mem_D (D_small hs)]
  unfold IsMinT
  simp only [hit_D hs]
  constructor
  · rintro ⟨h1, h2⟩
    obtain ⟨y, hy, hyx⟩ := (accS_iff _ _).1 h1
    have := h2 y hyx ((accS_iff _ _).2 ⟨y, hy, sub_refl y⟩)
    rw [← this]; exact hy
  · intro hx
    refine ⟨(accS_iff _ _).2 ⟨x, hx, sub_refl x⟩, fun y hyx hy => ?_⟩
    obtain ⟨z, hz, hzy⟩ := (accS_iff _ _).1 hy
    have := hf.anti z hz x hx (sub_trans hzy hyx)
    subst this
    exact sub_antisymm hyx hzy

theorem val1_cons (q s : S) (rest : List S) : val1 (some q) (s :: rest) = if (s &&& 61440#16 != 0#16) = true then 7 else if decide (0 ≤ cmpS q s) = true then 1 else val1 (some s) rest := by rw [val1]
theorem val1_head (s : S) (rest : List S) : val1 none (s :: rest) = if (s &&& 61440#16 != 0#16) = true then 7 else val1 (some s) rest := by rw [val1]; simp
theorem val1_zero : ∀ (l : List S) (q : S), val1 (some q) l = 0 ↔ (∀ x ∈ l, small x) ∧ Asc (q :: l)
  | [], q => by simp [val1, Asc]
  | s :: rest, q => by
    have ih := val1_zero rest s
    rw [val1_cons]
    have ho := out_small s
    by_cases hs : small s
    · have h0 : ¬ (s &&& 61440#16 != 0#16) = true := by rw [ho.2 hs]; simp
      rw [if_neg h0, cmp_lt]
      cases hq : ltS q s with
      | false =>
        simp only [Bool.not_false, if_true]
        constructor
        · intro h; exact absurd h (by decide)
        · rintro ⟨-, h⟩
          have := (List.pairwise_cons.1 h).1 s (by simp)
          rw [hq] at this; cases this
      | true =>
        simp only [Bool.not_true, Bool.false_eq_true, if_false]
        rw [ih]
        constructor
        · rintro ⟨h1, h2⟩
          refine ⟨fun x hx => ?_, List.pairwise_cons.2 ⟨fun y hy => ?_, h2⟩⟩
          · rcases List.mem_cons.1 hx with rfl | hx
            · exact hs
            · exact h1 x hx
          · rcases List.mem_cons.1 hy with rfl | hy
            · exact hq
            · exact ltS_trans hq ((List.pairwise_cons.1 h2).1 y hy)
        · rintro ⟨h1, h2⟩
          exact ⟨fun x hx => h1 x (List.mem_cons_of_mem _ hx), (List.pairwise_cons.1 h2).2⟩
    · have h0 : (s &&& 61440#16 != 0#16) = true := by rw [bne_iff_ne]; exact fun e => hs (ho.1 e)
      rw [if_pos h0]
      constructor
      · intro h; exact absurd h (by decide)
      · rintro ⟨h, -⟩; exact absurd (h s (by simp)) hs
theorem val1_none (l : List S) : val1 none l = 0 ↔ (∀ x ∈ l, small x) ∧ Asc l := by
  cases l with
  | nil => simp [val1, Asc]
  | cons s rest =>
    rw [val1_head]
    have ho := out_small s
    by_cases hs : small s
    · have h0 : ¬ (s &&& 61440#16 != 0#16) = true := by rw [ho.2 hs]; simp
      rw [if_neg h0, val1_zero]
      constructor
      · rintro ⟨h1, h2⟩
        refine ⟨fun x hx => ?_, h2⟩
        rcases List.mem_cons.1 hx with rfl | hx
        · exact hs
        · exact h1 x hx
      · rintro ⟨h1, h2⟩
        exact ⟨fun x hx => h1 x (List.mem_cons_of_mem _ hx), h2⟩
    · have h0 : (s &&& 61440#16 != 0#16) = true := by rw [bne_iff_ne]; exact fun e => hs (ho.1 e)
      rw [if_pos h0]
      constructor
      · intro h; exact absurd h (by decide)
      · rintro ⟨h, -⟩; exact absurd (h s (by simp)) hs
theorem val2_zero : ∀ (l pre : List S), Asc (pre ++ l) → (val2 pre l = 0 ↔ ∀ y ∈ l, ∀ x ∈ pre ++ l, sub x y = true → x = y)
  | [], pre, _ => by simp [val2]
  | s :: rest, pre, h => by
    have e : pre ++ s :: rest = (pre ++ [s]) ++ rest := by simp
    have ih := val2_zero rest (pre ++ [s]) (by rw [← e]; exact h)
    obtain ⟨-, hr, hpr⟩ := List.pairwise_append.1 h
    have key : accS pre s = false ↔ ∀ x ∈ pre ++ s :: rest, sub x s = true → x = s := by
      rw [← Bool.not_eq_true, accS_iff]
      constructor
      · intro hn x hx hsub
        rw [List.mem_append, List.mem_cons] at hx
        rcases hx with hx | rfl | hx
        · exact absurd ⟨x, hx, hsub⟩ hn
        · rfl
        · refine Classical.byContradiction fun hne => ?_
          have h1 := sub_lt hsub hne
          have h2 := (List.pairwise_cons.1 hr).1 x hx
          rw [ltS_asymm h1] at h2; cases h2
      · rintro hall ⟨x, hx, hsub⟩
        have := hall x (by simp [hx]) hsub
        subst this
        have h2 := hpr x hx x (by simp)
        rw [ltS_irrefl] at h2; cases h2
    unfold val2
    cases ha : accS pre s with
    | true =>
      simp only [if_true]
      constructor
      · intro h; exact absurd h (by decide)
      · intro hall
        have := key.2 (hall s (by simp))
        rw [ha] at this; cases this
    | false =>
      simp only [Bool.false_eq_true, if_false]
      rw [ih, ← e]
      constructor
      · intro hall y hy
        rcases List.mem_cons.1 hy with rfl | hy
        · exact key.1 ha
        · exact hall y hy
      · intro hall y hy; exact hall y (List.mem_cons_of_mem _ hy)
theorem valid_iff (f : List S) : validS f = 0 ↔ Fam f := by
  unfold validS
  by_cases h4 : f.length > 400
  · rw [if_pos h4]
    exact ⟨fun h => absurd h (by decide), fun h => absurd h.len (by omega)⟩
  · rw [if_neg h4]
    by_cases h1 : val1 none f = 0
    · rw [if_pos h1]
      obtain ⟨a, b⟩ := (val1_none f).1 h1
      rw [val2_zero f [] b]
      constructor
      · intro h; exact ⟨by omega, a, b, fun x hx y hy => h y hy x hx⟩
      · intro h y hy x hx; exact h.anti x hx y hy
    · rw [if_neg h1]
      exact ⟨fun h => absurd h h1, fun h => absurd ((val1_none f).2 ⟨h.low, h.asc⟩) h1⟩
theorem rv2_lone {s : List S} (hs : Asc s) : ∀ (n i : Nat), s.length - i = n → i ≤ s.length → rv2 s (s.drop i) i = if (s.drop i).all (lone s) = true then 0 else 1 := by
  intro n
  induction n with
  | zero => intro i hi h2; rw [List.drop_eq_nil_iff.2 (by omega)]; rfl
  | succ n ih =>
    intro i hi h2
    have hlt : i < s.length := by omega
    rw [drop_at s i hlt, rv2, List.all_cons, ih (i + 1) (by omega) (by omega)]
    have := loneR_all s hs i hlt 0 true (Nat.zero_le _)
    rw [List.drop_zero, Bool.true_and] at this
    rw [this]
    show (if lone s (at_ s i) = true then _ else _) = _
    cases lone s (at_ s i) <;> simp
theorem val2_01 : ∀ (l pre : List S), val2 pre l = 0 ∨ val2 pre l = 1
  | [], pre => .inl rfl
  | s :: rest, pre => by
    unfold val2
    split
    · exact .inr rfl
    · exact val2_01 rest _
/-- The program's Valid and the reference's are one. -/
theorem rval_eq (l : List S) : rvalS l = validS l := by
  unfold rvalS validS
  by_cases h4 : l.length > 400
  · rw [if_pos h4, if_pos h4]
  · rw [if_neg h4, if_neg h4]
    by_cases h1 : val1 none l = 0
    · rw [if_pos h1, if_pos h1]
      obtain ⟨a, b⟩ := (val1_none l).1 h1
      have h2 := rv2_lone b _ 0 rfl (Nat.zero_le _)
      rw [List.drop_zero] at h2
      rw [h2]
      have h3 := val2_zero l [] b
      rw [List.nil_append] at h3
      have h5 : l.all (lone l) = true ↔ val2 [] l = 0 := by
        rw [h3, List.all_eq_true]
        constructor
        · intro h y hy x hx hsub; exact (lone_iff l y).1 (h y hy) x hx hsub
        · intro h y hy; exact (lone_iff l y).2 fun x hx hsub => h y hy x hx hsub
      by_cases h6 : l.all (lone l) = true
      · rw [if_pos h6, h5.1 h6]
      · rw [if_neg h6]
        rcases val2_01 l [] with h7 | h7
        · exact absurd (h5.2 h7) h6
        · exact h7.symm
    · rw [if_neg h1, if_neg h1]
theorem valid_small {l : List S} (h : validS l = 0) : small (supS l) := small_sup ((valid_iff l).1 h).low
theorem dualErr_D (l : List S) : dualErr l = if validS l ≠ 0 then ([], validS l) else if 400 < (D l).length then ([], 3) else (D l, 0) := rfl
theorem rdual_eq (l : List S) : rdualErr l = dualErr l := by
  rw [dualErr_D]
  unfold rdualErr
  rw [rval_eq]
  by_cases h : validS l = 0
  · rw [rdualS_eq (valid_small h)]
  · rw [if_pos h, if_pos h]
theorem firstHit_find (f : List S) : ∀ l, firstHit f l = match l.find? (hitS f) with
    | some s => (s, 0)
    | none => (0#16, 4)
  | [] => rfl
  | x :: xs => by
    rw [firstHit, List.find?_cons]
    cases hitS f x with
    | true => rfl
    | false => simpa using firstHit_find f xs
theorem rleast_eq (l : List S) : rleastErr l = leastErr l := by
  unfold rleastErr leastErr
  rw [rval_eq]
  by_cases h : validS l = 0
  · rw [if_neg (fun e => e h), if_neg (fun e => e h), refSubs_eq (valid_small h), firstHit_find]
    rfl
  · rw [if_pos h, if_pos h]
end Go.Proofs.YtbiggfbbccpcmaaDoor
