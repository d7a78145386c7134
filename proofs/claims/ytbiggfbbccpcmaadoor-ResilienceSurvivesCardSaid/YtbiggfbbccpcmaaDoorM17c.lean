/- The plain laws of resilience: Influence is the reference's; idle servers have none; exchangeable servers have the same. -/
import Derived.Test.YtbiggfbbccpcmaaDoorM17b
namespace Go.Proofs.YtbiggfbbccpcmaaDoor
open Go.RowKit Go.Lib Go.Shelf

/-! ### the subsets of the first servers -/
theorem asc_nodup {l : List S} (h : Asc l) : l.Nodup := by
  refine List.Pairwise.imp (fun {x y} hxy he => ?_) h
  subst he; rw [ltS_irrefl] at hxy; cases hxy
def nums (n : Nat) : List S := (List.range (2 ^ n)).map (BitVec.ofNat 16)
theorem pow12 {n : Nat} (hn : n ≤ 12) : 2 ^ n ≤ 4096 := Nat.pow_le_pow_right (n := 2) (by decide) hn
theorem nums_perm {n : Nat} (hn : n ≤ 12) : List.Perm (subsetsL (fullS n)) (nums n) := by
  have h2 := pow12 hn
  refine (List.perm_ext_iff_of_nodup (asc_nodup (subsets_asc (full_small n hn))) ?_).2 fun x => ?_
  · unfold nums
    rw [List.Nodup, List.pairwise_map]
    refine List.Pairwise.imp_of_mem (fun {x y} hx hy hxy he => ?_) (List.nodup_range (n := 2 ^ n))
    have h3 := congrArg BitVec.toNat he
    rw [BitVec.toNat_ofNat, BitVec.toNat_ofNat] at h3
    have := List.mem_range.1 hx
    have := List.mem_range.1 hy
    omega
  · rw [mem_subsets (full_small n hn), sub_full hn]
    unfold nums
    rw [List.mem_map]
    constructor
    · intro h; exact ⟨x.toNat, List.mem_range.2 h, by simp⟩
    · rintro ⟨q, hq, rfl⟩
      have := List.mem_range.1 hq
      rw [BitVec.toNat_ofNat]; omega
theorem rinC_count (l : List S) (i : Nat) : ∀ q, rinC l i q = ((List.range q).map (BitVec.ofNat 16)).countP (decides l i)
  | 0 => rfl
  | q + 1 => by
    rw [rinC, rinC_count l i q, List.range_succ, List.map_append, List.countP_append]
    congr 1
    simp [List.countP_cons]
theorem rinL_map (l : List S) (n : Nat) : ∀ i, rinL l n i = (List.range i).map fun j => rinC l j (2 ^ n)
  | 0 => rfl
  | i + 1 => by rw [rinL, rinL_map l n i, List.range_succ, List.map_append]; rfl
theorem infl_nums (l : List S) {n : Nat} (hn : n ≤ 12) (i : Nat) : rinC l i (2 ^ n) = inflC l (subsetsL (fullS n)) i := by
  rw [rinC_count]; exact ((nums_perm hn).countP_eq _).symm
theorem rinfl_eq (l : List S) (n : Int) : rinflErr l n = inflErr l n := by
  unfold rinflErr inflErr
  rw [given_eq]
  split
  · rfl
  · rename_i h
    obtain ⟨_, h2, h3, _, _⟩ := among_valid (Classical.not_not.1 h)
    rw [rinL_map]
    have : ∀ i, rinC l i (2 ^ n.toNat) = inflC l (subsetsL (fullS n.toNat)) i := infl_nums l (by omega)
    simp only [this]
    rfl

/-! ### idle servers -/
theorem bit_zero (s : S) (i : Nat) : ((s >>> i) &&& 1#16 == 0#16) = !s.getLsbD i := by rw [bit_and]; cases s.getLsbD i <;> decide
theorem bit_one (s : S) (i : Nat) : ((s >>> i) &&& 1#16 == 1#16) = s.getLsbD i := by rw [bit_and]; cases s.getLsbD i <;> decide
theorem decides_iff (l : List S) (i : Nat) (s : S) : decides l i s = true ↔ accS l s = false ∧ s.getLsbD i = false ∧ accS l (s ||| (1#16 <<< i)) = true := by
  unfold decides; rw [bit_zero]; simp
theorem or_bit (s : S) {i : Nat} (hi : i < 16) (j : Nat) : (s ||| (1#16 <<< i)).getLsbD j = (s.getLsbD j || decide (j = i)) := by rw [BitVec.getLsbD_or, oneBit i j hi]
theorem idle_none {l : List S} {i : Nat} (hi : i < 16) (h : (supS l).getLsbD i = false) (pre : List S) : inflC l pre i = 0 := by
  unfold inflC
  rw [List.countP_eq_zero]
  intro s _ hd
  obtain ⟨h1, _, h3⟩ := (decides_iff l i s).1 hd
  obtain ⟨y, hy, h4⟩ := (accS_iff _ _).1 h3
  have : accS l s = true := (accS_iff _ _).2 ⟨y, hy, (sub_iff _ _).2 fun j hj hb => by
    have h5 := (sub_iff _ _).1 h4 j hj hb
    rw [or_bit s hi] at h5
    by_cases e : j = i
    · subst e
      have : (supS l).getLsbD j = true := (sub_iff _ _).1 (sub_sup hy) j hj hb
      rw [h] at this; cases this
    · simpa [e] using h5⟩
  rw [h1] at this; cases this
theorem idle_some {l : List S} (hf : Fam l) {n i : Nat} (hn : n ≤ 12) (hs : sub (supS l) (fullS n) = true) (h : (supS l).getLsbD i = true) : 0 < inflC l (subsetsL (fullS n)) i := by
  obtain ⟨x, hx, hxi⟩ := (supS_bit l i).1 h
  have hi : i < 16 := by
    refine Classical.byContradiction fun hc => ?_
    rw [BitVec.getLsbD_of_ge _ _ (by omega)] at hxi; cases hxi
  have hxs : sub x (fullS n) = true := sub_trans (sub_sup hx) hs
  have hb : ∀ j, (x &&& ~~~(1#16 <<< i)).getLsbD j = (x.getLsbD j && !decide (j = i)) := fun j => by
    by_cases hj : j < 16
    · rw [BitVec.getLsbD_and, BitVec.getLsbD_not, oneBit i j hi]; simp [hj]
    · rw [BitVec.getLsbD_of_ge _ _ (by omega), BitVec.getLsbD_of_ge x _ (by omega)]; rfl
  unfold inflC
  rw [List.countP_pos_iff]
  refine ⟨x &&& ~~~(1#16 <<< i), (mem_subsets (full_small n hn) _).2 (sub_trans (and_sub_left _ _) hxs), (decides_iff _ _ _).2 ⟨?_, ?_, ?_⟩⟩
  · cases hc : accS l (x &&& ~~~(1#16 <<< i)) with
    | false => rfl
    | true =>
      obtain ⟨y, hy, h1⟩ := (accS_iff _ _).1 hc
      have h2 := hf.anti y hy x hx (sub_trans h1 (and_sub_left _ _))
      subst h2
      have h3 := (sub_iff _ _).1 h1 i hi hxi
      rw [hb] at h3; simp at h3
  · rw [hb]; simp
  · refine (accS_iff _ _).2 ⟨x, hx, (sub_iff _ _).2 fun j hj hxj => ?_⟩
    rw [or_bit _ hi, hb, hxj]
    cases decide (j = i) <;> rfl
/-- what Servers says -/
theorem servers_ok {l : List S} (hf : Fam l) {n i : Nat} (hn : n ≤ 12) (hi : i < n) (hs : sub (supS l) (fullS n) = true) :
    decide (inflC l (subsetsL (fullS n)) i = 0) = (((fullS n &&& ~~~supS l) >>> i) &&& 1#16 == 1#16) := by
  rw [bit_one, BitVec.getLsbD_and, BitVec.getLsbD_not, fullBit hn]
  have h1 : decide (i < 16) = true := by simp; omega
  have h2 : decide (i < n) = true := by simp; omega
  rw [h1, h2]
  cases h : (supS l).getLsbD i with
  | false => rw [idle_none (by omega) h]; rfl
  | true => have := idle_some hf hn hs h; simp; omega

/-! ### exchangeable servers -/
theorem exS_inv (s : S) {i k : Nat} (hi : i < 16) (hk : k < 16) : exS (exS s i k) i k = s :=
  BitVec.eq_of_getLsbD_eq fun j _ => by rw [exS_bit _ hi hk, exS_bit _ hi hk, swp_swp]
theorem swp_lt {i k j n : Nat} (hi : i < n) (hk : k < n) (hj : j < n) : swp i k j < n := by unfold swp; (repeat' split) <;> omega
theorem exS_sub {x y : S} {i k : Nat} (hi : i < 16) (hk : k < 16) (h : sub x y = true) : sub (exS x i k) (exS y i k) = true := by
  rw [sub_iff] at *
  intro j hj hb
  rw [exS_bit _ hi hk] at *
  exact h _ (swp_lt hi hk hj) hb
theorem acc_ex {l : List S} {a b : Nat} (ha : a < 16) (hb : b < 16) (h : symB l a b = true) (s : S) : accS l (exS s a b) = accS l s := by
  have key : ∀ s, accS l s = true → accS l (exS s a b) = true := fun s hs => by
    obtain ⟨y, hy, h1⟩ := (accS_iff _ _).1 hs
    exact (accS_iff _ _).2 ⟨_, (symB_iff _ _ _).1 h y hy, exS_sub ha hb h1⟩
  refine Bool.eq_iff_iff.2 ⟨fun h1 => ?_, key s⟩
  have := key _ h1
  rwa [exS_inv s ha hb] at this
theorem decides_ex {l : List S} {a b : Nat} (ha : a < 16) (hb : b < 16) (h : symB l a b = true) (s : S) : decides l b (exS s a b) = decides l a s := by
  have e1 : (exS s a b) ||| (1#16 <<< b) = exS (s ||| (1#16 <<< a)) a b := BitVec.eq_of_getLsbD_eq fun j hj => by
    rw [or_bit _ hb, exS_bit _ ha hb, exS_bit _ ha hb, or_bit _ ha]
    congr 1
    unfold swp
    by_cases h1 : j = a <;> by_cases h2 : j = b <;> simp_all
    omega
  have e2 : (exS s a b).getLsbD b = s.getLsbD a := by
    rw [exS_bit _ ha hb]; unfold swp; split <;> simp_all
  refine Bool.eq_iff_iff.2 ?_
  rw [decides_iff, decides_iff, e1, e2, acc_ex ha hb h, acc_ex ha hb h]
theorem infl_ex {l : List S} {n a b : Nat} (hn : n ≤ 12) (ha : a < n) (hb : b < n) (h : symB l a b = true) : inflC l (subsetsL (fullS n)) a = inflC l (subsetsL (fullS n)) b := by
  have ha' : a < 16 := by omega
  have hb' : b < 16 := by omega
  have hnd := asc_nodup (subsets_asc (full_small n hn))
  have hin : ∀ x, x ∈ subsetsL (fullS n) → exS x a b ∈ subsetsL (fullS n) := fun x hx => by
    rw [mem_subsets (full_small n hn), sub_iff] at *
    intro j hj hb2
    rw [exS_bit _ ha' hb'] at hb2
    have h1 := hx _ (swp_lt ha' hb' hj) hb2
    rw [fullBit hn] at h1 ⊢
    have h1 : swp a b j < n := by simpa using h1
    have h2 := swp_lt ha hb h1
    rw [swp_swp] at h2
    simpa using h2
  have hp : List.Perm ((subsetsL (fullS n)).map fun x => exS x a b) (subsetsL (fullS n)) := by
    refine (List.perm_ext_iff_of_nodup ?_ hnd).2 fun x => ?_
    · rw [List.Nodup, List.pairwise_map]
      refine List.Pairwise.imp (fun {x y} hxy he => hxy ?_) hnd
      rw [← exS_inv x ha' hb', he, exS_inv y ha' hb']
    · rw [List.mem_map]
      constructor
      · rintro ⟨y, hy, rfl⟩; exact hin y hy
      · intro hx; exact ⟨exS x a b, hin x hx, exS_inv x ha' hb'⟩
  unfold inflC
  rw [← hp.countP_eq, List.countP_map]
  refine List.countP_congr fun x _ => ?_
  show decides l a (exS x a b) = true ↔ decides l b x = true
  rw [← decides_ex ha' hb' h, exS_inv _ ha' hb']
end Go.Proofs.YtbiggfbbccpcmaaDoor
