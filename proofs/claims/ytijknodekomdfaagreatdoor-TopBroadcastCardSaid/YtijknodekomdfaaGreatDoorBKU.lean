/- Texts joined into one, what is needed of them (a program of ours). -/
import Derived.Test.YtijknodekomdfaaGreatDoorBKA
import Derived.Test.YtijknodekomdfaaGreatDoorBKH
import Derived.Test.YtijknodekomdfaaGreatDoorBKQ
namespace Go.Proofs.YtijknodekomdfaaGreatDoor
open Go.RowKit Go.Lib

/-- y lies inside x -/
def sub (y x : S) : Bool := y &&& ~~~x == 0#16
theorem sub_iff (y x : S) : sub y x = true ↔ ∀ i, i < 16 → y.getLsbD i = true → x.getLsbD i = true := by
  unfold sub
  rw [beq_iff_eq]
  constructor
  · intro h i hi hy
    have := congrArg (fun z : S => z.getLsbD i) h
    simp [hy, hi] at this
    exact this
  · intro h
    apply BitVec.eq_of_getLsbD_eq
    intro i hi
    simp only [BitVec.getLsbD_and, BitVec.getLsbD_not, hi, decide_true, Bool.true_and, BitVec.getLsbD_zero]
    cases hy : y.getLsbD i with
    | false => rfl
    | true => rw [h i hi hy]; rfl
theorem sub_refl (x : S) : sub x x = true := (sub_iff x x).2 fun _ _ h => h
theorem sub_trans {x y z : S} (h1 : sub x y = true) (h2 : sub y z = true) : sub x z = true := by
  rw [sub_iff] at *; exact fun i hi h => h2 i hi (h1 i hi h)
theorem cntTo_sub {y x : S} (h : sub y x = true) (n : Nat) (hn : n ≤ 16) : cntTo y n ≤ cntTo x n ∧ (cntTo y n = cntTo x n → ∀ i, i < n → y.getLsbD i = x.getLsbD i) := by
  induction n with
  | zero => exact ⟨Nat.le_refl _, fun _ i hi => absurd hi (Nat.not_lt_zero _)⟩
  | succ n ih =>
    obtain ⟨h1, h2⟩ := ih (by omega)
    have hb := (sub_iff y x).1 h n (by omega)
    have ey := bit_eq y n
    have ex := bit_eq x n
    simp only [cntTo, ey, ex]
    cases hy : y.getLsbD n <;> cases hx : x.getLsbD n
    · simp
      exact ⟨h1, fun e i hi => by
        rcases Nat.lt_succ_iff_lt_or_eq.1 hi with h3 | rfl
        · exact h2 (by omega) i h3
        · rw [hy, hx]⟩
    · simp
      exact ⟨by omega, fun e => by omega⟩
    · rw [hy] at hb; rw [hx] at hb; simp at hb
    · simp
      exact ⟨h1, fun e i hi => by
        rcases Nat.lt_succ_iff_lt_or_eq.1 hi with h3 | rfl
        · exact h2 (by omega) i h3
        · rw [hy, hx]⟩
theorem cnt_lt {y x : S} (h : sub y x = true) (hne : y ≠ x) : cnt y < cnt x := by
  obtain ⟨h1, h2⟩ := cntTo_sub h 16 (Nat.le_refl _)
  rcases Nat.lt_or_ge (cnt y) (cnt x) with h3 | h3
  · exact h3
  · exact absurd (BitVec.eq_of_getLsbD_eq fun i hi => h2 (Nat.le_antisymm h1 h3) i hi) hne
theorem sub_lt {y x : S} (h : sub y x = true) (hne : y ≠ x) : ltS y x = true := (ltS_iff y x).2 (.inl (cnt_lt h hne))

def Asc (l : List S) : Prop := l.Pairwise fun x y => ltS x y = true
theorem ltS_trans {x y z : S} (h1 : ltS x y = true) (h2 : ltS y z = true) : ltS x z = true := swoS.trans x y z h1 h2
theorem ltS_irrefl (x : S) : ltS x x = false := swoS.irrefl x
theorem ltS_asymm {x y : S} (h : ltS x y = true) : ltS y x = false := by
  cases h2 : ltS y x with
  | false => rfl
  | true => have := ltS_trans h h2; rw [ltS_irrefl] at this; cases this
theorem ltS_total (x y : S) : ltS x y = true ∨ x = y ∨ ltS y x = true := by
  cases h1 : ltS x y with
  | true => exact .inl rfl
  | false =>
    cases h2 : ltS y x with
    | true => exact .inr (.inr rfl)
    | false => exact .inr (.inl (totS x y h1 h2))
/-- Strictly sorted lists with the same members are one. -/
theorem asc_ext : ∀ {l m : List S}, Asc l → Asc m → (∀ x, x ∈ l ↔ x ∈ m) → l = m
  | [], [], _, _, _ => rfl
  | [], y :: ys, _, _, h => absurd ((h y).2 (by simp)) (by simp)
  | x :: xs, [], _, _, h => absurd ((h x).1 (by simp)) (by simp)
  | x :: xs, y :: ys, hl, hm, h => by
    obtain ⟨hx, hxs⟩ := List.pairwise_cons.1 hl
    obtain ⟨hy, hys⟩ := List.pairwise_cons.1 hm
    have e : x = y := by
      rcases List.mem_cons.1 ((h x).1 (by simp)) with e | e
      · exact e
      · rcases List.mem_cons.1 ((h y).2 (by simp)) with e2 | e2
        · exact e2.symm
        · have h1 := hx y e2
          have h2 := hy x e
          rw [ltS_asymm h1] at h2; cases h2
    subst e
    congr 1
    refine asc_ext hxs hys fun z => ⟨fun hz => ?_, fun hz => ?_⟩
    · rcases List.mem_cons.1 ((h z).1 (List.mem_cons_of_mem _ hz)) with e | e
      · subst e; have := hx z hz; rw [ltS_irrefl] at this; cases this
      · exact e
    · rcases List.mem_cons.1 ((h z).2 (List.mem_cons_of_mem _ hz)) with e | e
      · subst e; have := hy z hz; rw [ltS_irrefl] at this; cases this
      · exact e

theorem posS_le (l : List S) (x : S) : posS l x ≤ l.length := by
  induction l with
  | nil => simp [posS]
  | cons y ys ih => unfold posS; split <;> simp; omega
theorem posS_take (l : List S) (x : S) : ∀ y ∈ l.take (posS l x), ltS y x = true := by
  induction l with
  | nil => simp
  | cons y ys ih =>
    unfold posS
    split
    · rename_i h
      intro z hz
      simp only [List.take_succ_cons, List.mem_cons] at hz
      rcases hz with rfl | hz
      · exact h
      · exact ih z hz
    · simp
theorem posS_at (l : List S) (x : S) (h : posS l x < l.length) : ltS (at_ l (posS l x)) x = false := by
  induction l with
  | nil => simp at h
  | cons y ys ih =>
    unfold posS at h ⊢
    split
    · rename_i hy
      rw [if_pos hy] at h
      have := ih (by simpa using h)
      simpa [at_] using this
    · rename_i hy
      simpa [at_] using hy
theorem asc_drop {l : List S} (h : Asc l) (k : Nat) : Asc (l.drop k) := List.Pairwise.sublist (List.drop_sublist k l) h
theorem insU_asc {l : List S} (x : S) (h : Asc l) : Asc (insU l x) ∧ ∀ z, z ∈ insU l x ↔ z = x ∨ z ∈ l := by
  have hle := posS_le l x
  have htake := posS_take l x
  unfold insU
  split
  · rename_i hc
    refine ⟨h, fun z => ⟨.inr, fun hz => ?_⟩⟩
    rcases hz with rfl | hz
    · rw [← hc.2]; exact at_mem hc.1
    · exact hz
  · rename_i hc
    have hmem : ∀ z, z ∈ insAt l (posS l x) x ↔ z = x ∨ z ∈ l := fun z => by
      unfold insAt
      rw [List.mem_append, List.mem_cons]
      constructor
      · rintro (hz | rfl | hz)
        · exact .inr (List.mem_of_mem_take hz)
        · exact .inl rfl
        · exact .inr (List.mem_of_mem_drop hz)
      · rintro (rfl | hz)
        · exact .inr (.inl rfl)
        · rw [← List.take_append_drop (posS l x) l, List.mem_append] at hz
          rcases hz with hz | hz
          · exact .inl hz
          · exact .inr (.inr hz)
    refine ⟨?_, hmem⟩
    have hdrop : ∀ y ∈ l.drop (posS l x), ltS x y = true := fun y hy => by
      rcases Nat.lt_or_ge (posS l x) l.length with hlt | hge
      · have h1 := posS_at l x hlt
        have h2 : at_ l (posS l x) ≠ x := fun e => hc ⟨hlt, e⟩
        have h3 : ltS x (at_ l (posS l x)) = true := by
          rcases ltS_total (at_ l (posS l x)) x with h4 | h4 | h4
          · rw [h4] at h1; cases h1
          · exact absurd h4 h2
          · exact h4
        have h5 := asc_drop h (posS l x)
        rw [drop_at l _ hlt] at hy h5
        rcases List.mem_cons.1 hy with rfl | hy
        · exact h3
        · exact ltS_trans h3 ((List.pairwise_cons.1 h5).1 y hy)
      · rw [List.drop_eq_nil_iff.2 hge] at hy; simp at hy
    unfold insAt Asc
    rw [List.pairwise_append]
    refine ⟨List.Pairwise.sublist (List.take_sublist _ l) h, List.pairwise_cons.2 ⟨hdrop, asc_drop h _⟩, fun y hy z hz => ?_⟩
    rcases List.mem_cons.1 hz with rfl | hz
    · exact htake y hy
    · exact ltS_trans (htake y hy) (hdrop z hz)
theorem sortR_asc (l : List S) : ∀ {acc : List S}, Asc acc → Asc (sortR acc l) ∧ ∀ z, z ∈ sortR acc l ↔ z ∈ acc ∨ z ∈ l := by
  induction l with
  | nil => intro acc h; exact ⟨h, fun z => by simp [sortR]⟩
  | cons x xs ih =>
    intro acc h
    obtain ⟨h1, h2⟩ := insU_asc x h
    obtain ⟨h3, h4⟩ := ih h1
    refine ⟨h3, fun z => ?_⟩
    rw [sortR, h4, h2, List.mem_cons]
    constructor
    · rintro ((rfl | h) | h)
      · exact .inr (.inl rfl)
      · exact .inl h
      · exact .inr (.inr h)
    · rintro (h | rfl | h)
      · exact .inl (.inr h)
      · exact .inl (.inl rfl)
      · exact .inr h

theorem msort_mem (l : List S) (x : S) : x ∈ msort l ↔ x ∈ l := (List.mergeSort_perm l _).mem_iff
theorem msort_sorted (l : List S) : (msort l).Pairwise fun x y => ltS y x = false := by
  have h := List.pairwise_mergeSort (le := fun x y => !ltS y x) (fun a b c h1 h2 => by
    simp only [Bool.not_eq_true'] at *
    exact swoS.ntrans c b a h2 h1) (fun a b => by
    cases h1 : ltS b a <;> cases h2 : ltS a b <;> simp
    rw [ltS_asymm h1] at h2; cases h2) l
  exact h.imp fun {a b} h => by simpa using h
theorem bang_at (l : List S) (i : Nat) (h : i < l.length) : l.toArray[i]! = at_ l i := by
  simp [at_, h]
theorem compact_asc {l : List S} (h : l.Pairwise fun x y => ltS y x = false) : Asc (compactL l) ∧ ∀ z, z ∈ compactL l ↔ z ∈ l := by
  have hle : ∀ i j, i ≤ j → j < l.length → ltS (at_ l j) (at_ l i) = false := fun i j hij hj => by
    rcases Nat.lt_or_ge i j with h1 | h1
    · have := List.pairwise_iff_getElem.1 h i j (by omega) hj h1
      simpa [at_, show i < l.length by omega, hj] using this
    · obtain rfl : i = j := by omega
      exact ltS_irrefl _
  have key : ∀ m, m ≤ l.length → Asc (compactUpTo l.toArray m) ∧ ∀ z, z ∈ compactUpTo l.toArray m ↔ z ∈ l.take m := fun m => by
    induction m with
    | zero => intro _; exact ⟨List.Pairwise.nil, fun z => by simp [compactUpTo]⟩
    | succ m ih =>
      intro hm
      obtain ⟨h1, h2⟩ := ih (by omega)
      have hb : l.toArray[m]! = at_ l m := bang_at l m (by omega)
      rw [compactUpTo_succ, take_at l m (by omega), hb]
      cases hkp : keeps l.toArray m with
      | false =>
        have hk2 : ¬ (m = 0 ∨ at_ l m ≠ at_ l (m - 1)) := by
          unfold keeps at hkp
          rw [decide_eq_false_iff_not, hb] at hkp
          intro hc
          apply hkp
          rcases hc with hc | hc
          · exact .inl hc
          · rw [bang_at l (m - 1) (by omega)]; exact .inr hc
        simp only [Bool.false_eq_true, if_false, List.append_nil]
        refine ⟨h1, fun z => ?_⟩
        rw [h2, List.mem_append, List.mem_singleton]
        constructor
        · exact .inl
        · rintro (hz | hz)
          · exact hz
          · have hm0 : m ≠ 0 := fun e => hk2 (.inl e)
            have he : at_ l m = at_ l (m - 1) := by
              rcases Decidable.em (at_ l m = at_ l (m - 1)) with e | e
              · exact e
              · exact absurd (.inr e) hk2
            have : at_ l (m - 1) ∈ l.take m := by
              have e1 := take_at l (m - 1) (by omega)
              rw [show m - 1 + 1 = m from by omega] at e1
              rw [e1]; simp
            rw [hz, he]; exact this
      | true =>
        simp only [if_true]
        refine ⟨?_, fun z => by rw [List.mem_append, List.mem_append, h2]⟩
        unfold Asc
        rw [List.pairwise_append]
        refine ⟨h1, List.pairwise_singleton _ _, fun z hz y hy => ?_⟩
        rw [List.mem_singleton] at hy
        subst hy
        rw [h2] at hz
        obtain ⟨q, hq, rfl⟩ := List.getElem_of_mem hz
        have hqm : q < m := by simp at hq; omega
        have ez : (l.take m)[q] = at_ l q := by simp [at_, List.getD, show q < l.length by omega]
        rw [ez]
        have g1 := hle q m (by omega) (by omega)
        rcases ltS_total (at_ l q) (at_ l m) with g | g | g
        · exact g
        · exfalso
          have g2 := hle q (m - 1) (by omega) (by omega)
          have g3 := hle (m - 1) m (by omega) (by omega)
          rw [g] at g2
          have g4 := totS _ _ g2 g3
          unfold keeps at hkp
          rw [decide_eq_true_eq, hb, bang_at l (m - 1) (by omega)] at hkp
          rcases hkp with e | e
          · omega
          · exact e g4.symm
        · rw [g1] at g; cases g
  obtain ⟨k1, k2⟩ := key l.length (Nat.le_refl _)
  rw [List.take_of_length_le (Nat.le_refl _)] at k2
  exact ⟨k1, k2⟩
theorem sortS_asc (l : List S) : Asc (sortS' l) ∧ ∀ z, z ∈ sortS' l ↔ z ∈ l := by
  obtain ⟨h1, h2⟩ := compact_asc (msort_sorted l)
  exact ⟨h1, fun z => by rw [sortS', h2, msort_mem]⟩
/-- The program and the reference sort alike. -/
theorem sort_same (l : List S) : sortS' l = sortR [] l := by
  obtain ⟨h1, h2⟩ := sortS_asc l
  obtain ⟨h3, h4⟩ := sortR_asc l (acc := []) List.Pairwise.nil
  exact asc_ext h1 h3 fun x => by rw [h2, h4]; simp

/-- no other set of s lies inside x -/
def lone (s : List S) (x : S) : Bool := s.all fun y => decide (y = x) || !sub y x
theorem lone_iff (s : List S) (x : S) : lone s x = true ↔ ∀ y ∈ s, sub y x = true → y = x := by
  unfold lone
  rw [List.all_eq_true]
  constructor
  · intro h y hy hs
    have := h y hy
    rw [hs] at this
    simpa using this
  · intro h y hy
    cases hs : sub y x with
    | false => simp
    | true => simp [h y hy hs]
theorem below_lone (s : List S) : ∀ (n : Nat) (x : S), cnt x = n → x ∈ s → ∃ y ∈ s, lone s y = true ∧ sub y x = true := by
  intro n
  induction n using Nat.strongRecOn with
  | _ n ih =>
    intro x hx hm
    cases hl : lone s x with
    | true => exact ⟨x, hm, hl, sub_refl x⟩
    | false =>
      have : ¬ ∀ y ∈ s, sub y x = true → y = x := fun h => by rw [(lone_iff s x).2 h] at hl; cases hl
      simp only [Classical.not_forall] at this
      obtain ⟨y, hy, hs, hne⟩ := this
      have hlt := cnt_lt hs hne
      obtain ⟨z, hz, h1, h2⟩ := ih (cnt y) (by omega) y rfl hy
      exact ⟨z, hz, h1, sub_trans h2 hs⟩
theorem accS_iff (f : List S) (x : S) : accS f x = true ↔ ∃ y ∈ f, sub y x = true := by
  unfold accS sub; rw [List.any_eq_true]
theorem leastR_filter (s : List S) (hs : Asc s) : ∀ (rest pre acc : List S), s = pre ++ rest → acc = pre.filter (lone s) → leastR acc rest = s.filter (lone s) := by
  intro rest
  induction rest with
  | nil => intro pre acc h1 h2; rw [leastR, h2, h1]; simp
  | cons x xs ih =>
    intro pre acc h1 h2
    have hx : x ∈ s := by rw [h1]; simp
    have hord := hs
    rw [h1] at hord
    obtain ⟨-, hr, hpr⟩ := List.pairwise_append.1 hord
    have hacc : accS acc x = !lone s x := by
      cases hl : lone s x with
      | true =>
        rw [Bool.not_true, ← Bool.not_eq_true]
        intro hc
        obtain ⟨y, hy, hsub⟩ := (accS_iff _ _).1 hc
        rw [h2, List.mem_filter] at hy
        have hys : y ∈ s := by rw [h1]; exact List.mem_append_left _ hy.1
        have := (lone_iff s x).1 hl y hys hsub
        subst this
        have h3 := hpr y hy.1 y (by simp)
        rw [ltS_irrefl] at h3; cases h3
      | false =>
        rw [Bool.not_false]
        obtain ⟨y, hy, h3, h4⟩ := below_lone s _ x rfl hx
        have hne : y ≠ x := fun e => by rw [e, hl] at h3; cases h3
        have hlt := sub_lt h4 hne
        refine (accS_iff _ _).2 ⟨y, ?_, h4⟩
        rw [h2, List.mem_filter]
        refine ⟨?_, h3⟩
        rw [h1, List.mem_append, List.mem_cons] at hy
        rcases hy with hy | rfl | hy
        · exact hy
        · exact absurd rfl hne
        · have := (List.pairwise_cons.1 hr).1 y hy
          rw [ltS_asymm hlt] at this; cases this
    rw [leastR, hacc]
    cases hl : lone s x with
    | true =>
      simp only [Bool.not_true, Bool.false_eq_true, if_false]
      exact ih (pre ++ [x]) _ (by rw [h1]; simp) (by rw [h2, List.filter_append]; simp [hl])
    | false =>
      simp only [Bool.not_false, if_true]
      exact ih (pre ++ [x]) _ (by rw [h1]; simp) (by rw [h2, List.filter_append]; simp [hl])
theorem leastP_filter (l : List S) : leastP l = (sortS' l).filter (lone (sortS' l)) :=
  leastR_filter _ (sortS_asc l).1 _ [] [] rfl rfl

theorem asc_ne {s : List S} (h : Asc s) {i k : Nat} (hi : i < s.length) (hk : k < s.length) : i ≠ k ↔ at_ s i ≠ at_ s k := by
  have e : ∀ j (hj : j < s.length), at_ s j = s[j] := fun j hj => by simp [at_, List.getD, hj]
  constructor
  · intro hne heq
    rw [e i hi, e k hk] at heq
    rcases Nat.lt_or_ge i k with h1 | h1
    · have := List.pairwise_iff_getElem.1 h i k hi hk h1
      rw [heq, ltS_irrefl] at this; cases this
    · have := List.pairwise_iff_getElem.1 h k i hk hi (by omega)
      rw [heq, ltS_irrefl] at this; cases this
  · intro hne heq; subst heq; exact hne rfl
theorem loneR_all (s : List S) (hs : Asc s) (i : Nat) (hi : i < s.length) : ∀ (k : Nat) (r : Bool), k ≤ s.length → loneR (at_ s i) i (s.drop k) k r = (r && (s.drop k).all fun y => decide (y = at_ s i) || !sub y (at_ s i)) := by
  intro k r hk
  induction hn : s.length - k generalizing k r with
  | zero => rw [List.drop_eq_nil_iff.2 (by omega)]; simp [loneR]
  | succ n ih =>
    rw [drop_at s k (by omega), loneR, ih (k + 1) _ (by omega) (by omega), List.all_cons]
    have hne := asc_ne hs hi (show k < s.length by omega)
    show (r && !(decide (i ≠ k) && sub (at_ s k) (at_ s i)) && _) = _
    rw [Bool.and_assoc]
    congr 2
    by_cases he : i = k
    · subst he; simp
    · have h2 : at_ s k ≠ at_ s i := fun e => (hne.1 he) e.symm
      simp [he, h2]
theorem minR_filter (s : List S) (hs : Asc s) : ∀ (i : Nat) (acc : List S), i ≤ s.length → acc = (s.take i).filter (lone s) → minR s (s.drop i) i acc = s.filter (lone s) := by
  intro i acc hi h
  induction hn : s.length - i generalizing i acc with
  | zero => rw [List.drop_eq_nil_iff.2 (by omega), minR, h, List.take_of_length_le (by omega)]
  | succ n ih =>
    rw [drop_at s i (by omega), minR]
    have hl := loneR_all s hs i (by omega) 0 true (Nat.zero_le _)
    rw [List.drop_zero, Bool.true_and] at hl
    have hl2 : loneR (at_ s i) i s 0 true = lone s (at_ s i) := hl
    rw [hl2]
    refine ih (i + 1) _ (by omega) ?_ (by omega)
    rw [take_at s i (by omega), List.filter_append, h]
    cases hx : lone s (at_ s i) with
    | true => simp [hx]
    | false => simp [hx]
theorem refLeast_filter (l : List S) : refLeast l = (sortS' l).filter (lone (sortS' l)) := by
  unfold refLeast
  rw [← sort_same]
  exact minR_filter _ (sortS_asc l).1 0 [] (Nat.zero_le _) (by simp)
/-- The program and the reference find the same minimal sets. -/
theorem least_same (l : List S) : leastP l = refLeast l := by rw [leastP_filter, refLeast_filter]
end Go.Proofs.YtijknodekomdfaaGreatDoor
namespace Go.Proofs.YtijknodekomdfaaGreatDoor
open Go.RowKit Go.Lib Go.Shelf

theorem small_bit9 {s : S} (h : small s) {i : Nat} (hb : s.getLsbD i = true) : i < 12 := by
  rcases Nat.lt_or_ge i 12 with h1 | h1
  · exact h1
  · exfalso
    have h2 : s.toNat < 2 ^ i := Nat.lt_of_lt_of_le h (Nat.pow_le_pow_right (n := 2) (by decide) h1)
    have h3 : s.toNat.testBit i = false := Nat.testBit_lt_two_pow h2
    have h4 : s.toNat.testBit i = true := hb
    rw [h3] at h4; cases h4
theorem out_small (x : S) : (x &&& 61440#16) = 0#16 ↔ small x := by
  constructor
  · intro h
    refine Nat.lt_pow_two_of_testBit (n := 12) _ fun i hi => ?_
    rcases Nat.lt_or_ge i 16 with h1 | h1
    · have h2 : (x &&& 61440#16).getLsbD i = false := by rw [h]; simp
      rw [BitVec.getLsbD_and] at h2
      have h3 : (61440#16).getLsbD i = true := by
        have : i = 12 ∨ i = 13 ∨ i = 14 ∨ i = 15 := by omega
        rcases this with rfl | rfl | rfl | rfl <;> decide
      rw [h3, Bool.and_true] at h2
      exact h2
    · exact Nat.testBit_lt_two_pow (Nat.lt_of_lt_of_le x.isLt (Nat.pow_le_pow_right (n := 2) (by decide) h1))
  · intro h
    apply BitVec.eq_of_getLsbD_eq
    intro i hi
    rw [BitVec.getLsbD_and, BitVec.getLsbD_zero]
    cases hx : x.getLsbD i with
    | false => rfl
    | true =>
      have h1 := small_bit9 h hx
      have : ∀ j : Fin 12, (61440#16).getLsbD j.val = false := by decide
      rw [this ⟨i, h1⟩]; rfl
theorem cmp_lt (x y : S) : decide (0 ≤ cmpS x y) = !ltS x y := by
  unfold ltS; rw [← decide_not]; congr 1; rw [Int.not_lt]

theorem val1_cons (q s : S) (rest : List S) : val1 (some q) (s :: rest) = if (s &&& 61440#16 != 0#16) = true then 7 else if decide (0 ≤ cmpS q s) = true then 1 else val1 (some s) rest := by rw [val1]
theorem val1_head (s : S) (rest : List S) : val1 none (s :: rest) = if (s &&& 61440#16 != 0#16) = true then 7 else val1 (some s) rest := by rw [val1]; simp
theorem val1_zero : ∀ (l : List S) (q : S), val1 (some q) l = 0 ↔ (∀ x ∈ l, small x) ∧ Asc (q :: l)
  | [], q => by simp [val1, Asc]
  | s :: rest, q => by
    have ih := val1_zero rest s
    rw [val1_cons]
    have ho := out_small s
    by_cases hs : small s
    · have h0 : ¬ (s &&& 61440#16 != 0#16) = true := by rw [ho.2 hs]; simp
      rw [if_neg h0, cmp_lt]
      cases hq : ltS q s with
      | false =>
        simp only [Bool.not_false, if_true]
        constructor
        · intro h; exact absurd h (by decide)
        · rintro ⟨-, h⟩
          have := (List.pairwise_cons.1 h).1 s (by simp)
          rw [hq] at this; cases this
      | true =>
        simp only [Bool.not_true, Bool.false_eq_true, if_false]
        rw [ih]
        constructor
        · rintro ⟨h1, h2⟩
          refine ⟨fun x hx => ?_, List.pairwise_cons.2 ⟨fun y hy => ?_, h2⟩⟩
          · rcases List.mem_cons.1 hx with rfl | hx
            · exact hs
            · exact h1 x hx
          · rcases List.mem_cons.1 hy with rfl | hy
            · exact hq
            · exact ltS_trans hq ((List.pairwise_cons.1 h2).1 y hy)
        · rintro ⟨h1, h2⟩
          exact ⟨fun x hx => h1 x (List.mem_cons_of_mem _ hx), (List.pairwise_cons.1 h2).2⟩
    · have h0 : (s &&& 61440#16 != 0#16) = true := by rw [bne_iff_ne]; exact fun e => hs (ho.1 e)
      rw [if_pos h0]
      constructor
      · intro h; exact absurd h (by decide)
      · rintro ⟨h, -⟩; exact absurd (h s (by simp)) hs
theorem val1_none (l : List S) : val1 none l = 0 ↔ (∀ x ∈ l, small x) ∧ Asc l := by
  cases l with
  | nil => simp [val1, Asc]
  | cons s rest =>
    rw [val1_head]
    have ho := out_small s
    by_cases hs : small s
    · have h0 : ¬ (s &&& 61440#16 != 0#16) = true := by rw [ho.2 hs]; simp
      rw [if_neg h0, val1_zero]
      constructor
      · rintro ⟨h1, h2⟩
        refine ⟨fun x hx => ?_, h2⟩
        rcases List.mem_cons.1 hx with rfl | hx
        · exact hs
        · exact h1 x hx
      · rintro ⟨h1, h2⟩
        exact ⟨fun x hx => h1 x (List.mem_cons_of_mem _ hx), h2⟩
    · have h0 : (s &&& 61440#16 != 0#16) = true := by rw [bne_iff_ne]; exact fun e => hs (ho.1 e)
      rw [if_pos h0]
      constructor
      · intro h; exact absurd h (by decide)
      · rintro ⟨h, -⟩; exact absurd (h s (by simp)) hs
theorem val2_zero : ∀ (l pre : List S), Asc (pre ++ l) → (val2 pre l = 0 ↔ ∀ y ∈ l, ∀ x ∈ pre ++ l, sub x y = true → x = y)
  | [], pre, _ => by simp [val2]
  | s :: rest, pre, h => by
    have e : pre ++ s :: rest = (pre ++ [s]) ++ rest := by simp
    have ih := val2_zero rest (pre ++ [s]) (by rw [← e]; exact h)
    obtain ⟨-, hr, hpr⟩ := List.pairwise_append.1 h
    have key : accS pre s = false ↔ ∀ x ∈ pre ++ s :: rest, sub x s = true → x = s := by
      rw [← Bool.not_eq_true, accS_iff]
      constructor
      · intro hn x hx hsub
        rw [List.mem_append, List.mem_cons] at hx
        rcases hx with hx | rfl | hx
        · exact absurd ⟨x, hx, hsub⟩ hn
        · rfl
        · refine Classical.byContradiction fun hne => ?_
          have h1 := sub_lt hsub hne
          have h2 := (List.pairwise_cons.1 hr).1 x hx
          rw [ltS_asymm h1] at h2; cases h2
      · rintro hall ⟨x, hx, hsub⟩
        have := hall x (by simp [hx]) hsub
        subst this
        have h2 := hpr x hx x (by simp)
        rw [ltS_irrefl] at h2; cases h2
    unfold val2
    cases ha : accS pre s with
    | true =>
      simp only [if_true]
      constructor
      · intro h; exact absurd h (by decide)
      · intro hall
        have := key.2 (hall s (by simp))
        rw [ha] at this; cases this
    | false =>
      simp only [Bool.false_eq_true, if_false]
      rw [ih, ← e]
      constructor
      · intro hall y hy
        rcases List.mem_cons.1 hy with rfl | hy
        · exact key.1 ha
        · exact hall y hy
      · intro hall y hy; exact hall y (List.mem_cons_of_mem _ hy)
end Go.Proofs.YtijknodekomdfaaGreatDoor
