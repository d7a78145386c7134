/- Texts joined into one, what is needed of them (a program of ours). -/
import Derived.Test.YtijknodekomdfaaGreatDoorCKLaw29a
namespace Go.Proofs.YtijknodekomdfaaGreatDoor
open Go.RowKit Go.Lib Go.Shelf

/-- a family of quorums of few servers -/
structure Few5 (n : Nat) (R : List S) : Prop where
  asc : Asc R
  anti : Anti R
  within : ∀ x ∈ R, sub x (fullS n) = true
  ne : ∀ x ∈ R, x ≠ 0#16
  pos : R ≠ []
  len : R.length ≤ 32
theorem mem_chTo (s : S) (k : Nat) (x : S) : ∀ N, N ≤ 65536 → (x ∈ chTo s k N ↔ x.toNat < N ∧ sub x s = true ∧ cnt x = k)
  | 0, _ => by simp [chTo]
  | N + 1, h => by
    unfold chTo
    rw [List.mem_append, mem_chTo s k x N (by omega)]
    have hN : (BitVec.ofNat 16 N).toNat = N := by rw [BitVec.toNat_ofNat]; exact Nat.mod_eq_of_lt (by omega)
    constructor
    · rintro (h1 | h1)
      · exact ⟨by omega, h1.2⟩
      · split at h1
        · rename_i hc
          rw [List.mem_singleton] at h1
          rw [Bool.and_eq_true, decide_eq_true_eq] at hc
          subst h1
          exact ⟨by omega, hc.1, hc.2⟩
        · simp at h1
    · rintro ⟨h1, h2, h3⟩
      by_cases he : x.toNat = N
      · right
        have hx : x = BitVec.ofNat 16 N := BitVec.eq_of_toNat_eq (by rw [hN, he])
        rw [← hx, if_pos (by rw [Bool.and_eq_true, decide_eq_true_eq]; exact ⟨h2, h3⟩)]
        simp
      · exact .inl ⟨by omega, h2, h3⟩
theorem chTo_asc (s : S) (k : Nat) : ∀ N, N ≤ 65536 → Asc (chTo s k N)
  | 0, _ => List.Pairwise.nil
  | N + 1, h => by
    unfold chTo Asc
    rw [List.pairwise_append]
    refine ⟨chTo_asc s k N (by omega), ?_, fun x hx y hy => ?_⟩
    · split
      · exact List.pairwise_singleton ..
      · exact List.Pairwise.nil
    · split at hy
      · rename_i hc
        rw [List.mem_singleton] at hy
        rw [Bool.and_eq_true, decide_eq_true_eq] at hc
        subst hy
        have hm := (mem_chTo s k x N (by omega)).1 hx
        have hN : (BitVec.ofNat 16 N).toNat = N := by rw [BitVec.toNat_ofNat]; exact Nat.mod_eq_of_lt (by omega)
        rw [ltS_iff]
        right
        refine ⟨by rw [hm.2.2, hc.2], ?_⟩
        unfold sv
        omega
      · simp at hy
theorem full_cnt : ∀ n : Fin 6, ∀ k : Fin 6, k.val ≤ n.val → sub (fullS k.val) (fullS n.val) = true ∧ cnt (fullS k.val) = k.val := by decide +kernel
theorem choose_few {n k : Nat} (hn : n ≤ 5) (h1 : 1 ≤ k) (hk : k ≤ n) : Few5 n (chooseA (fullS n) k) := by
  have hm : ∀ x, x ∈ chooseA (fullS n) k ↔ sub x (fullS n) = true ∧ cnt x = k := fun x => by
    rw [← chooseA_eq (fullS n) k _ rfl, mem_chTo _ _ _ _ (Nat.le_refl _)]
    exact ⟨fun h => h.2, fun h => ⟨x.isLt, h⟩⟩
  refine ⟨?_, fun x hx y hy h => ?_, fun x hx => ((hm x).1 hx).1, fun x hx e => ?_, ?_, chooseA_len (full32 ⟨n, by omega⟩) k⟩
  · rw [← chooseA_eq (fullS n) k _ rfl]; exact chTo_asc _ _ _ (Nat.le_refl _)
  · by_cases e : x = y
    · exact e
    · have := cnt_lt h e
      have h3 := ((hm x).1 hx).2; have h4 := ((hm y).1 hy).2
      omega
  · have := ((hm x).1 hx).2
    rw [e] at this
    have h0 : cnt (0#16) = 0 := by decide
    omega
  · have hf := full_cnt ⟨n, by omega⟩ ⟨k, by omega⟩ hk
    exact List.ne_nil_of_mem ((hm (fullS k)).2 hf)
theorem or_few {n : Nat} (h1 : 1 ≤ n) (hn : n ≤ 5) (l : List S) : Few5 n (refLeast (orAll (fullS n) (cutN (fullS n) (l.take 6)))) := by
  have hfn : fullS n ≠ 0#16 := by
    have : ∀ i : Fin 6, 1 ≤ i.val → fullS i.val ≠ 0#16 := by decide
    exact this ⟨n, by omega⟩ h1
  have hall : ∀ x ∈ orAll (fullS n) (cutN (fullS n) (l.take 6)), sub x (fullS n) = true ∧ x ≠ 0#16 := fun x hx => by
    unfold orAll at hx
    split at hx
    · rw [List.mem_singleton] at hx; subst hx; exact ⟨sub_refl _, hfn⟩
    · unfold cutN at hx
      obtain ⟨h2, h3⟩ := List.mem_filter.1 hx
      obtain ⟨y, _, rfl⟩ := List.mem_map.1 h2
      refine ⟨(sub_iff _ _).2 fun i hi hb => ?_, by simpa using h3⟩
      rw [BitVec.getLsbD_and, Bool.and_eq_true] at hb
      exact hb.2
  have hpos : ∃ x, x ∈ orAll (fullS n) (cutN (fullS n) (l.take 6)) := by
    unfold orAll
    split
    · exact ⟨_, List.mem_singleton.2 rfl⟩
    · rename_i h
      exact List.exists_mem_of_ne_nil _ (by
        intro e
        rw [e] at h
        exact h rfl)
  rw [← least_same]
  refine ⟨jl_asc _, jl_anti _, fun x hx => (hall x ((jl_mem _ _).1 hx).1).1, fun x hx => (hall x ((jl_mem _ _).1 hx).1).2, ?_, ?_⟩
  · obtain ⟨x, hx⟩ := hpos
    obtain ⟨y, hy, _⟩ := jl_below hx
    exact List.ne_nil_of_mem hy
  · rw [least_same]
    have := setsR_len 0 l n hn
    unfold setsR at this
    rw [if_neg (by decide)] at this
    exact this
theorem kOf_in (l : List S) {n : Nat} (h : 1 ≤ n) : 1 ≤ kOf l n ∧ kOf l n ≤ n := by
  unfold kOf
  split <;> first | omega | (have := Nat.mod_lt (at_ l 0).toNat h; omega)
theorem sets_few (md : Int) (l : List S) {n : Nat} (h1 : 1 ≤ n) (hn : n ≤ 5) : Few5 n (setsR md l n) := by
  unfold setsR
  split
  · exact choose_few hn (kOf_in l h1).1 (kOf_in l h1).2
  · exact or_few h1 hn l
theorem shl_facts : ∀ k : Fin 4, ∀ i : Fin 32, cnt (BitVec.ofNat 16 i.val <<< k.val) = cnt (BitVec.ofNat 16 i.val) ∧ (BitVec.ofNat 16 i.val <<< k.val).toNat = i.val * 2 ^ k.val ∧ (BitVec.ofNat 16 i.val <<< k.val = 0#16 → i.val = 0) := by decide +kernel
theorem shl_sub : ∀ k : Fin 4, ∀ i j : Fin 32, sub (BitVec.ofNat 16 i.val <<< k.val) (BitVec.ofNat 16 j.val <<< k.val) = sub (BitVec.ofNat 16 i.val) (BitVec.ofNat 16 j.val) := by decide +kernel
theorem shl_full : ∀ k : Fin 4, ∀ n : Fin 6, (fullS n.val <<< k.val).toNat < 4096 ∧ (1 ≤ n.val → fullS n.val <<< k.val ≠ 0#16) := by decide +kernel
theorem lt32 {n : Nat} (hn : n ≤ 5) {x : S} (h : sub x (fullS n) = true) : x.toNat < 32 := Nat.lt_of_le_of_lt (sub_le h) (full32 ⟨n, by omega⟩)
theorem as32 {x : S} (h : x.toNat < 32) : x = BitVec.ofNat 16 (⟨x.toNat, h⟩ : Fin 32).val := by rw [BitVec.ofNat_toNat, BitVec.setWidth_eq]
theorem few_cf {n k : Nat} (hn : n ≤ 5) (hk : k ≤ 3) {R : List S} (h : Few5 n R) : cfS (mvL k R) (fullS n <<< k) = 0 := by
  have h32 : ∀ x ∈ R, x.toNat < 32 := fun x hx => lt32 hn (h.within x hx)
  have hf32 := full32 ⟨n, by omega⟩
  have hsub : ∀ x y : S, x.toNat < 32 → y.toNat < 32 → sub (x <<< k) (y <<< k) = sub x y := fun x y hx hy => by
    have := shl_sub ⟨k, by omega⟩ ⟨x.toNat, hx⟩ ⟨y.toNat, hy⟩
    rw [← as32 hx, ← as32 hy] at this; exact this
  have hfac : ∀ x : S, x.toNat < 32 → cnt (x <<< k) = cnt x ∧ (x <<< k).toNat = x.toNat * 2 ^ k ∧ (x <<< k = 0#16 → x.toNat = 0) := fun x hx => by
    have := shl_facts ⟨k, by omega⟩ ⟨x.toNat, hx⟩
    rw [← as32 hx] at this; exact this
  have hp : 0 < 2 ^ k := Nat.pos_of_ne_zero (by have := Nat.two_pow_pos k; omega)
  have hM := (shl_full ⟨k, by omega⟩ ⟨n, by omega⟩).1
  have hsM : ∀ x ∈ mvL k R, sub x (fullS n <<< k) = true := fun x hx => by
    obtain ⟨y, hy, rfl⟩ := List.mem_map.1 hx
    rw [hsub y (fullS n) (h32 y hy) hf32]; exact h.within y hy
  have hne : ∀ x ∈ mvL k R, x ≠ 0#16 := fun x hx e => by
    obtain ⟨y, hy, rfl⟩ := List.mem_map.1 hx
    have := (hfac y (h32 y hy)).2.2 e
    exact h.ne y hy (BitVec.eq_of_toNat_eq (by rw [this]; rfl))
  have hl : (mvL k R).length = R.length := List.length_map ..
  have hF : Fam (mvL k R) := by
    refine ⟨by rw [hl]; have := h.len; omega, fun x hx => small_of_sub (hsM x hx) hM, ?_, fun x hx y hy hs => ?_⟩
    · unfold Asc mvL
      rw [List.pairwise_map]
      refine List.Pairwise.imp_of_mem (fun {x y} hx hy hxy => ?_) h.asc
      rw [ltS_iff] at hxy ⊢
      obtain ⟨a1, a2, _⟩ := hfac x (h32 x hx)
      obtain ⟨b1, b2, _⟩ := hfac y (h32 y hy)
      rw [a1, b1]
      rcases hxy with g | ⟨g1, g2⟩
      · exact .inl g
      · right
        refine ⟨g1, ?_⟩
        unfold sv at g2 ⊢
        rw [a2, b2]
        have : x.toNat < y.toNat := by omega
        have := (Nat.mul_lt_mul_right hp).2 this
        omega
    · obtain ⟨x', hx', rfl⟩ := List.mem_map.1 hx
      obtain ⟨y', hy', rfl⟩ := List.mem_map.1 hy
      rw [hsub _ _ (h32 x' hx') (h32 y' hy')] at hs
      rw [h.anti x' hx' y' hy' hs]
  have h0 : 0 < (mvL k R).length := by rw [hl]; exact List.length_pos_iff.2 h.pos
  unfold cfS
  rw [if_neg (by simp [(valid_iff _).2 hF]), if_neg ?_, if_neg ?_]
  · have : supS (mvL k R) &&& ~~~(fullS n <<< k) = 0#16 := by
      apply BitVec.eq_of_getLsbD_eq
      intro i hi
      rw [BitVec.getLsbD_and, BitVec.getLsbD_not]
      cases hb : (supS (mvL k R)).getLsbD i with
      | false => simp
      | true =>
        obtain ⟨x, hx, hxb⟩ := (supS_bit _ i).1 hb
        rw [(sub_iff _ _).1 (hsM x hx) i hi hxb]; simp
    simp [this]
  · rintro (h1 | h1)
    · omega
    · exact hne _ (by unfold at_; simp [List.getD, h0]) h1
end Go.Proofs.YtijknodekomdfaaGreatDoor
