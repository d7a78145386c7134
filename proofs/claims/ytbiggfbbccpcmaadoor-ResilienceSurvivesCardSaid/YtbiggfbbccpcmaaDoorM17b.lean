/- The plain laws of resilience: Idle, Symmetric, Classes, Influence are the reference's. -/
import Derived.Test.YtbiggfbbccpcmaaDoorM17
namespace Go.Proofs.YtbiggfbbccpcmaaDoor
open Go.RowKit Go.Lib Go.Shelf

/-! ### the first servers -/
theorem fullBit' : ∀ k : Fin 13, ∀ j : Fin 16, (fullS k.val).getLsbD j.val = decide (j.val < k.val) := by decide
theorem fullBit {k : Nat} (hk : k ≤ 12) (j : Nat) : (fullS k).getLsbD j = decide (j < k) := by
  by_cases hj : j < 16
  · exact fullBit' ⟨k, by omega⟩ ⟨j, hj⟩
  · rw [BitVec.getLsbD_of_ge _ _ (by omega)]; simp; omega
theorem lt_bits (x : S) (k : Nat) : x.toNat < 2 ^ k ↔ ∀ i, i < 16 → x.getLsbD i = true → i < k := by
  constructor
  · intro h i _ hb
    refine Classical.byContradiction fun hn => ?_
    have h2 : x.toNat < 2 ^ i := Nat.lt_of_lt_of_le h (Nat.pow_le_pow_right (by decide) (by omega))
    have h3 : x.toNat.testBit i = false := Nat.testBit_lt_two_pow h2
    have h4 : x.toNat.testBit i = true := hb
    rw [h3] at h4; cases h4
  · intro h
    refine Nat.lt_pow_two_of_testBit _ fun i hi => ?_
    cases hx : x.toNat.testBit i with
    | false => rfl
    | true =>
      rcases Nat.lt_or_ge i 16 with h1 | h1
      · have := h i h1 hx; omega
      · rw [Nat.testBit_lt_two_pow (Nat.lt_of_lt_of_le x.isLt (Nat.pow_le_pow_right (n := 2) (by decide) h1))] at hx; cases hx
theorem sub_full {k : Nat} (hk : k ≤ 12) (x : S) : sub x (fullS k) = true ↔ x.toNat < 2 ^ k := by
  rw [sub_iff, lt_bits]
  constructor
  · intro h i hi hb; have := h i hi hb; rw [fullBit hk] at this; simpa using this
  · intro h i hi hb; rw [fullBit hk]; simpa using h i hi hb
theorem given_eq (l : List S) (n : Int) : givenErr l n = (amongErr l n).2 := by
  unfold givenErr amongErr
  rw [rval_eq]
  split
  · rfl
  · split
    · rfl
    · have hn : n.toNat ≤ 12 := by omega
      have e := sub_full hn (supS l)
      unfold sub at e
      have e3 : ((2 : Int) ^ n.toNat ≤ sv (supS l)) ↔ ¬ (supS l).toNat < 2 ^ n.toNat := by
        have h2 : (2 : Int) ^ n.toNat = ((2 ^ n.toNat : Nat) : Int) := by simp
        rw [h2]; unfold sv; omega
      by_cases hc : (supS l).toNat < 2 ^ n.toNat
      · rw [if_neg (by rw [e3]; simpa using hc), if_neg (by have := e.2 hc; simpa using this)]
      · rw [if_pos (e3.2 hc), if_pos (by
          cases hq : (supS l &&& ~~~fullS n.toNat == 0#16) with
          | true => exact absurd (e.1 hq) hc
          | false => rw [bne, hq]; rfl)]
theorem rmin_valid {l : List S} (h : validS l = 0) : rminS l = l := by
  have hf := (valid_iff l).1 h
  rw [rminS_eq hf.low, leastP_self hf.asc hf.anti]
theorem ridle_eq (l : List S) (n : Int) : ridleErr l n = idleErr l n := by
  unfold ridleErr idleErr
  rw [given_eq]
  split
  · rfl
  · rename_i h
    have h' := Classical.not_not.1 h
    obtain ⟨h1, _, _, h2, _⟩ := among_valid h'
    rw [rmin_valid h1, h2]

/-! ### exchanging two servers -/
def swp (i k j : Nat) : Nat := if j = i then k else if j = k then i else j
theorem bit_and (s : S) (i : Nat) : (s >>> i) &&& 1#16 = if s.getLsbD i = true then 1#16 else 0#16 := by
  apply BitVec.eq_of_getLsbD_eq; intro j hj
  rw [BitVec.getLsbD_and, BitVec.getLsbD_ushiftRight]
  rcases Nat.eq_zero_or_pos j with rfl | h0
  · rw [Nat.add_zero]; cases s.getLsbD i <;> rfl
  · have e : (1#16).getLsbD j = false := by
      have : ∀ j : Fin 16, j.val ≠ 0 → (1#16).getLsbD j.val = false := by decide
      exact this ⟨j, hj⟩ (by simp; omega)
    rw [e]
    cases s.getLsbD i <;> simp [e]
theorem exS_bit (s : S) {i k : Nat} (hi : i < 16) (hk : k < 16) (j : Nat) : (exS s i k).getLsbD j = s.getLsbD (swp i k j) := by
  unfold exS swp
  rw [bit_and, bit_and]
  have o1 := oneBit i j hi
  have o2 := oneBit k j hk
  cases h1 : s.getLsbD i <;> cases h2 : s.getLsbD k <;> simp only [Bool.false_eq_true, if_true, if_false] <;>
    (first | (rw [if_neg (by decide)]) | (rw [if_pos (by decide), BitVec.getLsbD_xor, BitVec.getLsbD_or, o1, o2])) <;>
    (by_cases e1 : j = i) <;> (by_cases e2 : j = k) <;> simp_all
theorem rexS_bit (s : S) {i k : Nat} (hi : i < 16) (hk : k < 16) (j : Nat) : (rexS s i k).getLsbD j = s.getLsbD (swp i k j) := by
  unfold rexS swp
  rw [bit_and, bit_and]
  have o1 := oneBit i j hi
  have o2 := oneBit k j hk
  have z : ∀ q : Nat, (0#16 <<< q) = 0#16 := fun q => by simp
  by_cases hj : j < 16
  · rw [BitVec.getLsbD_or, BitVec.getLsbD_or, BitVec.getLsbD_and, BitVec.getLsbD_not, BitVec.getLsbD_or, o1, o2]
    cases h1 : s.getLsbD i <;> cases h2 : s.getLsbD k <;> simp only [Bool.false_eq_true, if_true, if_false, z, o1, o2, BitVec.getLsbD_zero, hj] <;>
      (by_cases e1 : j = i) <;> (by_cases e2 : j = k) <;> simp_all
  · rw [BitVec.getLsbD_of_ge _ _ (by omega)]
    rw [if_neg (by omega), if_neg (by omega), BitVec.getLsbD_of_ge _ _ (by omega)]
theorem rexS_eq (s : S) {i k : Nat} (hi : i < 16) (hk : k < 16) : rexS s i k = exS s i k :=
  BitVec.eq_of_getLsbD_eq fun j _ => by rw [rexS_bit s hi hk, exS_bit s hi hk]
theorem symB_iff (l : List S) (i k : Nat) : symB l i k = true ↔ ∀ s ∈ l, exS s i k ∈ l := by
  unfold symB; simp
theorem rsyR_all (m : List S) {i k : Nat} (hi : i < 16) (hk : k < 16) : ∀ l : List S, rsyR m i k l = true ↔ ∀ s ∈ l, exS s i k ∈ m
  | [] => by simp [rsyR]
  | x :: xs => by
    rw [rsyR, fdR_eq, Bool.false_or, rexS_eq x hi hk]
    by_cases h : m.contains (exS x i k) = true
    · rw [if_pos h, rsyR_all m hi hk xs]
      have h' : exS x i k ∈ m := by simpa using h
      simp [h']
    · rw [if_neg h]
      have h' : ¬ exS x i k ∈ m := by simpa using h
      simp [h']
theorem rsym_eq (l : List S) (i k : Int) : rsymS l i k = symS l i k := by
  unfold rsymS symS
  rw [rval_eq]
  by_cases hv : validS l = 0
  · rw [hv, rmin_valid hv]
    by_cases h : (0 ≤ i ∧ i < 12) ∧ (0 ≤ k ∧ k < 12)
    · have e : rsyR l i.toNat k.toNat l = symB l i.toNat k.toNat := by
        have h1 := rsyR_all l (i := i.toNat) (k := k.toNat) (by omega) (by omega) l
        have h2 := symB_iff l i.toNat k.toNat
        exact Bool.eq_iff_iff.2 (h1.trans h2.symm)
      rw [e]
    · by_cases a1 : 0 ≤ i
      · by_cases a2 : i < 12
        · by_cases a3 : 0 ≤ k
          · by_cases a4 : k < 12
            · exact absurd ⟨⟨a1, a2⟩, a3, a4⟩ h
            · rw [decide_eq_false a4]; simp
          · rw [decide_eq_false a3]; simp
        · rw [decide_eq_false a2]; simp
      · rw [decide_eq_false a1]; simp
  · have : (validS l == 0) = false := by simpa using hv
    rw [this]; rfl

/-! ### exchangeability is an equivalence -/
theorem swp_self (i j : Nat) : swp i i j = j := by unfold swp; split <;> simp_all
theorem swp_comm (i k j : Nat) : swp i k j = swp k i j := by unfold swp; (repeat' split) <;> simp_all
theorem swp_tri (i k j b : Nat) (h1 : i ≠ j) (h2 : j ≠ k) (h3 : i ≠ k) : swp i k b = swp i j (swp j k (swp i j b)) := by
  unfold swp; (repeat' split) <;> simp_all
theorem swp_swp (i k j : Nat) : swp i k (swp i k j) = j := by unfold swp; (repeat' split) <;> simp_all
theorem symB_refl (l : List S) {i : Nat} (hi : i < 16) : symB l i i = true := by
  rw [symB_iff]; intro s hs
  have : exS s i i = s := BitVec.eq_of_getLsbD_eq fun j _ => by rw [exS_bit s hi hi, swp_self]
  rw [this]; exact hs
theorem symB_symm {l : List S} {i k : Nat} (hi : i < 16) (hk : k < 16) (h : symB l i k = true) : symB l k i = true := by
  rw [symB_iff] at *; intro s hs
  have : exS s k i = exS s i k := BitVec.eq_of_getLsbD_eq fun j _ => by rw [exS_bit s hi hk, exS_bit s hk hi, swp_comm]
  rw [this]; exact h s hs
theorem symB_trans {l : List S} {i j k : Nat} (hi : i < 16) (hj : j < 16) (hk : k < 16) (h1 : symB l i j = true) (h2 : symB l j k = true) : symB l i k = true := by
  by_cases e1 : i = j
  · subst e1; exact h2
  by_cases e2 : j = k
  · subst e2; exact h1
  by_cases e3 : i = k
  · subst e3; exact symB_refl l hi
  rw [symB_iff] at *; intro s hs
  have : exS s i k = exS (exS (exS s i j) j k) i j := BitVec.eq_of_getLsbD_eq fun b _ => by
    rw [exS_bit _ hi hk, exS_bit _ hi hj, exS_bit _ hj hk, exS_bit _ hi hj, swp_tri i k j b e1 e2 e3]
  rw [this]; exact h1 _ (h2 _ (h1 s hs))

/-! ### Classes -/
theorem clsIn_bit (m : List S) (i : Nat) : ∀ (c k : Nat) (acc : S) (b : Nat), k + c ≤ 16 → ((clsIn m i c k acc).getLsbD b = true ↔ acc.getLsbD b = true ∨ (k ≤ b ∧ b < k + c ∧ symB m i b = true))
  | 0, k, acc, b, _ => by rw [clsIn]; constructor; (exact .inl); (rintro (h | h); exact h; omega)
  | c + 1, k, acc, b, h => by
    rw [clsIn, clsIn_bit m i c (k + 1) _ b (by omega)]
    by_cases hb : b = k
    · subst hb
      split
      · rename_i hs
        rw [BitVec.getLsbD_or, oneBit b b (by omega)]
        simp [hs]
      · rename_i hs
        simp [hs]
    · have e : ((if symB m i k = true then acc ||| (1#16 <<< k) else acc).getLsbD b) = acc.getLsbD b := by
        split
        · rw [BitVec.getLsbD_or, oneBit k b (by omega)]; simp [hb]
        · rfl
      rw [e]
      constructor
      · rintro (h1 | ⟨h1, h2, h3⟩); exact .inl h1; exact .inr ⟨by omega, by omega, h3⟩
      · rintro (h1 | ⟨h1, h2, h3⟩); exact .inl h1; exact .inr ⟨by omega, by omega, h3⟩
theorem rclIn_bit (l : List S) (i : Nat) : ∀ (q k : Nat) (f : Bool) (c : S) (b : Nat), k + q ≤ 16 → ((rclIn l i q k f c).2.getLsbD b = true ↔ c.getLsbD b = true ∨ (k ≤ b ∧ b < k + q ∧ rsymS l i b = true))
  | 0, k, f, c, b, _ => by rw [rclIn]; constructor; (exact .inl); (rintro (h | h); exact h; omega)
  | q + 1, k, f, c, b, h => by
    rw [rclIn]
    by_cases hs : rsymS l i k = true
    · rw [if_pos hs, rclIn_bit l i q (k + 1) _ _ b (by omega), BitVec.getLsbD_or, oneBit k b (by omega)]
      by_cases hb : b = k
      · subst hb; simp [hs]
      · simp only [hb, decide_false, Bool.or_false]
        constructor
        · rintro (h1 | ⟨h1, h2, h3⟩); exact .inl h1; exact .inr ⟨by omega, by omega, h3⟩
        · rintro (h1 | ⟨h1, h2, h3⟩); exact .inl h1; exact .inr ⟨by omega, by omega, h3⟩
    · rw [if_neg hs, rclIn_bit l i q (k + 1) _ _ b (by omega)]
      constructor
      · rintro (h1 | ⟨h1, h2, h3⟩); exact .inl h1; exact .inr ⟨by omega, by omega, h3⟩
      · rintro (h1 | ⟨h1, h2, h3⟩)
        · exact .inl h1
        · refine .inr ⟨?_, by omega, h3⟩
          rcases Nat.eq_or_lt_of_le h1 with rfl | h4
          · exact absurd h3 hs
          · exact h4
theorem rclIn_first (l : List S) (i : Nat) : ∀ (q k : Nat) (f : Bool) (c : S), ((rclIn l i q k f c).1 = true ↔ f = true ∧ ∀ b, k ≤ b → b < k + q → rsymS l i b = true → i ≤ b)
  | 0, k, f, c => by rw [rclIn]; constructor; (intro h; exact ⟨h, fun b h1 h2 => by omega⟩); (exact fun h => h.1)
  | q + 1, k, f, c => by
    rw [rclIn]
    by_cases hs : rsymS l i k = true
    · rw [if_pos hs, rclIn_first l i q (k + 1) _ _, Bool.and_eq_true, decide_eq_true_eq]
      constructor
      · rintro ⟨⟨h1, h2⟩, h3⟩
        refine ⟨h1, fun b h4 h5 h6 => ?_⟩
        rcases Nat.eq_or_lt_of_le h4 with rfl | h7
        · exact h2
        · exact h3 b h7 (by omega) h6
      · rintro ⟨h1, h3⟩
        exact ⟨⟨h1, h3 k (Nat.le_refl _) (by omega) hs⟩, fun b h4 h5 h6 => h3 b (by omega) (by omega) h6⟩
    · rw [if_neg hs, rclIn_first l i q (k + 1) _ _]
      constructor
      · rintro ⟨h1, h3⟩
        refine ⟨h1, fun b h4 h5 h6 => ?_⟩
        rcases Nat.eq_or_lt_of_le h4 with rfl | h7
        · exact absurd h6 hs
        · exact h3 b h7 (by omega) h6
      · rintro ⟨h1, h3⟩
        exact ⟨h1, fun b h4 h5 h6 => h3 b (by omega) (by omega) h6⟩
theorem symS_nat {l : List S} (hv : validS l = 0) {i k : Nat} (hi : i < 12) (hk : k < 12) : symS l (i : Int) (k : Int) = symB l i k := by
  unfold symS
  have a1 : (i : Int) < 12 := by omega
  have a2 : (k : Int) < 12 := by omega
  simp [hv, a1, a2]
theorem cls_eq {l : List S} (hv : validS l = 0) (n : Nat) (hn : n ≤ 12) : ∀ (c i : Nat) (d : S) (out : List S), i + c = n →
    (∀ b, d.getLsbD b = true ↔ b < n ∧ ∃ r, r < i ∧ symB l r b = true) → clsR l n c i d out = rclR l n c i out
  | 0, i, d, out, _, _ => rfl
  | c + 1, i, d, out, h, hd => by
    rw [clsR, rclR]
    have hi : i < n := by omega
    have e0 : ((d >>> i) &&& 1#16 == 1#16) = d.getLsbD i := by
      rw [bit_and]; cases d.getLsbD i <;> decide
    have e1 : (rclIn l i n 0 true 0#16).1 = true ↔ ¬ d.getLsbD i = true := by
      rw [rclIn_first, hd]
      constructor
      · rintro ⟨_, h1⟩ ⟨_, r, h2, h3⟩
        have := h1 r (Nat.zero_le _) (by omega) (by rw [rsym_eq, symS_nat hv (by omega) (by omega)]; exact symB_symm (by omega) (by omega) h3)
        omega
      · intro h1
        refine ⟨rfl, fun b _ h3 h4 => Classical.byContradiction fun h5 => h1 ⟨hi, b, by omega, ?_⟩⟩
        rw [rsym_eq, symS_nat hv (by omega) (by omega)] at h4
        exact symB_symm (by omega) (by omega) h4
    rw [e0]
    by_cases hq : d.getLsbD i = true
    · rw [if_pos hq, if_neg (fun h => (e1.1 h) hq)]
      refine cls_eq hv n hn c (i + 1) d out (by omega) fun b => ?_
      rw [hd]
      constructor
      · rintro ⟨h1, r, h2, h3⟩; exact ⟨h1, r, by omega, h3⟩
      · rintro ⟨h1, r, h2, h3⟩
        refine ⟨h1, ?_⟩
        rcases Nat.eq_or_lt_of_le (Nat.lt_succ_iff.1 h2) with rfl | h4
        · obtain ⟨_, r', h5, h6⟩ := (hd r).1 hq
          exact ⟨r', h5, symB_trans (by omega) (by omega) (by omega) h6 h3⟩
        · exact ⟨r, h4, h3⟩
    · rw [if_neg hq, if_pos (e1.2 hq)]
      have e2 : clsIn l i (n - i) i 0#16 = (rclIn l i n 0 true 0#16).2 := by
        refine BitVec.eq_of_getLsbD_eq fun b hb => ?_
        have h1 := clsIn_bit l i (n - i) i 0#16 b (by omega)
        have h2 := rclIn_bit l i n 0 true 0#16 b (by omega)
        have h3 : (clsIn l i (n - i) i 0#16).getLsbD b = true ↔ (rclIn l i n 0 true 0#16).2.getLsbD b = true := by
          rw [h1, h2]
          constructor
          · rintro (h4 | ⟨h4, h5, h6⟩)
            · exact .inl h4
            · exact .inr ⟨by omega, by omega, by rw [rsym_eq, symS_nat hv (by omega) (by omega)]; exact h6⟩
          · rintro (h4 | ⟨h4, h5, h6⟩)
            · exact .inl h4
            · have h7 := ((rclIn_first l i n 0 true 0#16).1 (e1.2 hq)).2 b h4 h5 h6
              rw [rsym_eq, symS_nat hv (by omega) (by omega)] at h6
              exact .inr ⟨h7, by omega, h6⟩
        cases h4 : (clsIn l i (n - i) i 0#16).getLsbD b <;> cases h5 : (rclIn l i n 0 true 0#16).2.getLsbD b <;> simp_all
      rw [← e2]
      refine cls_eq hv n hn c (i + 1) _ _ (by omega) fun b => ?_
      rw [BitVec.getLsbD_or, Bool.or_eq_true, hd, clsIn_bit l i (n - i) i 0#16 b (by omega), BitVec.getLsbD_zero]
      constructor
      · rintro (⟨h1, r, h2, h3⟩ | h4 | ⟨h4, h5, h6⟩)
        · exact ⟨h1, r, by omega, h3⟩
        · cases h4
        · exact ⟨by omega, i, by omega, h6⟩
      · rintro ⟨h1, r, h2, h3⟩
        rcases Nat.eq_or_lt_of_le (Nat.lt_succ_iff.1 h2) with rfl | h4
        · by_cases hb : r ≤ b
          · exact .inr (.inr ⟨hb, by omega, h3⟩)
          · exact .inl ⟨h1, b, by omega, symB_refl l (by omega)⟩
        · exact .inl ⟨h1, r, h4, h3⟩
theorem rcls_eq (l : List S) (n : Int) : rclsErr l n = clsErr l n := by
  unfold rclsErr clsErr
  rw [given_eq]
  split
  · rfl
  · rename_i h
    obtain ⟨h1, h2, h3, _, _⟩ := among_valid (Classical.not_not.1 h)
    rw [cls_eq h1 n.toNat (by omega) n.toNat 0 0#16 [] (by omega) fun b => ⟨fun h => by simp at h, fun ⟨_, r, hr, _⟩ => by omega⟩]
/-- two servers of a class are exchangeable -/
theorem cls_mem {l : List S} (hv : validS l = 0) (n : Nat) (hn : n ≤ 12) : ∀ (c i : Nat) (d : S) (out : List S), i + c = n → (∀ s ∈ out, ∀ a b, s.getLsbD a = true → s.getLsbD b = true → symB l a b = true) →
    ∀ s ∈ clsR l n c i d out, ∀ a b, s.getLsbD a = true → s.getLsbD b = true → symB l a b = true
  | 0, i, d, out, _, ho => ho
  | c + 1, i, d, out, h, ho => by
    rw [clsR]
    split
    · exact cls_mem hv n hn c (i + 1) d out (by omega) ho
    · refine cls_mem hv n hn c (i + 1) _ _ (by omega) fun s hs a b ha hb => ?_
      rcases List.mem_append.1 hs with h1 | h1
      · exact ho s h1 a b ha hb
      · rw [List.mem_singleton] at h1; subst h1
        rcases (clsIn_bit l i (n - i) i 0#16 a (by omega)).1 ha with h2 | ⟨h2, h3, h4⟩
        · simp at h2
        rcases (clsIn_bit l i (n - i) i 0#16 b (by omega)).1 hb with h5 | ⟨h5, h6, h7⟩
        · simp at h5
        exact symB_trans (by omega) (by omega) (by omega) (symB_symm (by omega) (by omega) h4) h7
end Go.Proofs.YtbiggfbbccpcmaaDoor
