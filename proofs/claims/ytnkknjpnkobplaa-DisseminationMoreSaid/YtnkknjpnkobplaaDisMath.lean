/- Plain facts on dissemination, masking and covers. -/
import Derived.Test.YtnkknjpnkobplaaLaws21
namespace Go.Proofs.Ytnkknjpnkobplaa
open Go.RowKit Go.Lib

theorem zero_iff (x : S) : x = 0#16 ↔ ∀ i, i < 16 → x.getLsbD i = false := by
  constructor
  · rintro rfl i hi; simp
  · intro h; exact BitVec.eq_of_getLsbD_eq fun i hi => by rw [h i hi]; simp
/-- m lies inside the union of t -/
def Covered (m : S) (t : List S) : Prop := ∀ i, i < 16 → m.getLsbD i = true → ∃ x ∈ t, x.getLsbD i = true
theorem covered_nil (m : S) : Covered m [] ↔ m = 0#16 := by
  rw [zero_iff]
  unfold Covered
  constructor
  · intro h i hi
    cases hm : m.getLsbD i with
    | false => rfl
    | true => obtain ⟨x, hx, _⟩ := h i hi hm; simp at hx
  · intro h i hi hm; rw [h i hi] at hm; cases hm
theorem covered_cons (m x : S) (t : List S) : Covered (m &&& ~~~x) t ↔ Covered m (x :: t) := by
  unfold Covered
  constructor
  · intro h i hi hm
    cases hx : x.getLsbD i with
    | true => exact ⟨x, by simp, hx⟩
    | false =>
      obtain ⟨y, hy, h2⟩ := h i hi (by rw [BitVec.getLsbD_and, BitVec.getLsbD_not, hm, hx]; simp [hi])
      exact ⟨y, by simp [hy], h2⟩
  · intro h i hi hm
    simp only [BitVec.getLsbD_and, BitVec.getLsbD_not, hi, decide_true, Bool.true_and, Bool.and_eq_true, Bool.not_eq_true'] at hm
    obtain ⟨y, hy, h2⟩ := h i hi hm.1
    rcases List.mem_cons.1 hy with rfl | hy
    · rw [hm.2] at h2; cases h2
    · exact ⟨y, hy, h2⟩
theorem cov_isSome (l : List S) : ∀ (k : Nat) (m : S), (cov l k m).isSome = true ↔ ∃ t, t.Sublist l ∧ t.length = k ∧ Covered m t := by
  induction l with
  | nil =>
    intro k m
    cases k with
    | zero =>
      rw [cov_zero]
      constructor
      · intro h
        split at h
        · rename_i hm
          exact ⟨[], List.Sublist.refl _, rfl, (covered_nil m).2 (by simpa using hm)⟩
        · cases h
      · rintro ⟨t, ht, -, hc⟩
        obtain rfl := List.sublist_nil.1 ht
        rw [(covered_nil m).1 hc]; rfl
    | succ k =>
      constructor
      · intro h; cases h
      · rintro ⟨t, ht, h1, -⟩
        obtain rfl := List.sublist_nil.1 ht
        cases h1
  | cons x xs ih =>
    intro k m
    cases k with
    | zero =>
      rw [cov_zero]
      constructor
      · intro h
        split at h
        · rename_i hm
          exact ⟨[], List.nil_sublist _, rfl, (covered_nil m).2 (by simpa using hm)⟩
        · cases h
      · rintro ⟨t, -, ht, hc⟩
        obtain rfl := List.eq_nil_of_length_eq_zero ht
        rw [(covered_nil m).1 hc]; rfl
    | succ k =>
      rw [cov]
      have h1 := ih k (m &&& ~~~x)
      have h2 := ih (k + 1) m
      constructor
      · intro h
        cases hq : cov xs k (m &&& ~~~x) with
        | some q =>
          obtain ⟨t, ht, hk, hc⟩ := h1.1 (by rw [hq]; rfl)
          exact ⟨x :: t, ht.cons_cons x, by simp [hk], (covered_cons m x t).1 hc⟩
        | none =>
          rw [hq] at h
          obtain ⟨t, ht, hk, hc⟩ := h2.1 h
          exact ⟨t, ht.cons x, hk, hc⟩
      · rintro ⟨t, ht, hk, hc⟩
        cases hq : cov xs k (m &&& ~~~x) with
        | some q => rfl
        | none =>
          cases ht with
          | cons _ ht => exact h2.2 ⟨t, ht, hk, hc⟩
          | cons_cons _ ht =>
            rename_i t
            have := h1.2 ⟨t, ht, by simpa using hk, (covered_cons m x t).2 hc⟩
            rw [hq] at this; cases this
theorem covFrom_isSome (b : List S) (m : S) : ∀ (r s : Nat), (covFrom b m r s).isSome = true ↔ ∃ j, s ≤ j ∧ j < s + r ∧ (cov b j m).isSome = true := by
  intro r
  induction r with
  | zero => intro s; simp [covFrom]; omega
  | succ r ih =>
    intro s
    rw [covFrom]
    cases hq : cov b s m with
    | some q => simp only [Option.isSome_some, true_iff]; exact ⟨s, Nat.le_refl _, by omega, by rw [hq]; rfl⟩
    | none =>
      simp only
      rw [ih (s + 1)]
      constructor
      · rintro ⟨j, h1, h2, h3⟩; exact ⟨j, by omega, by omega, h3⟩
      · rintro ⟨j, h1, h2, h3⟩
        rcases Nat.eq_or_lt_of_le h1 with rfl | h4
        · rw [hq] at h3; cases h3
        · exact ⟨j, h4, by omega, h3⟩
theorem sublist_of_members : ∀ (l t : List S), (∀ x ∈ t, x ∈ l) → ∃ t' : List S, t'.Sublist l ∧ t'.length ≤ t.length ∧ ∀ x ∈ t, x ∈ t' := by
  intro l
  induction l with
  | nil =>
    intro t h
    cases t with
    | nil => exact ⟨[], List.Sublist.refl _, Nat.le_refl _, fun x hx => by simp at hx⟩
    | cons y ys => exact absurd (h y (by simp)) (by simp)
  | cons a l ih =>
    intro t h
    by_cases ha : a ∈ t
    · obtain ⟨t', h1, h2, h3⟩ := ih (t.filter fun x => x ≠ a) (fun x hx => by
        rw [List.mem_filter] at hx
        have := h x hx.1
        rcases List.mem_cons.1 this with rfl | h4
        · simp at hx
        · exact h4)
      refine ⟨a :: t', h1.cons_cons a, ?_, fun x hx => ?_⟩
      · have h4 : (t.filter fun x => x ≠ a).length < t.length := by
          rw [← List.countP_eq_length_filter]
          refine Nat.lt_of_le_of_ne (List.countP_le_length) fun e => ?_
          have := List.countP_eq_length.1 e a ha
          simp at this
        simp; omega
      · by_cases hxa : x = a
        · simp [hxa]
        · exact List.mem_cons_of_mem _ (h3 x (List.mem_filter.2 ⟨hx, by simpa using hxa⟩))
    · obtain ⟨t', h1, h2, h3⟩ := ih t (fun x hx => by
        rcases List.mem_cons.1 (h x hx) with rfl | h4
        · exact absurd hx ha
        · exact h4)
      exact ⟨t', h1.cons a, h2, h3⟩
/-- There is a cover by at most k sets of b. -/
theorem cover_iff (b : List S) (m : S) (k : Nat) : (covFrom b m (k + 1) 0).isSome = true ↔ ∃ t, (∀ x ∈ t, x ∈ b) ∧ t.length ≤ k ∧ Covered m t := by
  rw [covFrom_isSome]
  constructor
  · rintro ⟨j, -, hj, h⟩
    obtain ⟨t, h1, h2, h3⟩ := (cov_isSome b j m).1 h
    exact ⟨t, fun x hx => h1.subset hx, by omega, h3⟩
  · rintro ⟨t, h1, h2, h3⟩
    obtain ⟨t', g1, g2, g3⟩ := sublist_of_members b t h1
    exact ⟨t'.length, Nat.zero_le _, by omega, (cov_isSome b _ m).2 ⟨t', g1, rfl, fun i hi hm => by
      obtain ⟨x, hx, h4⟩ := h3 i hi hm
      exact ⟨x, g3 x hx, h4⟩⟩⟩
/-- Free, for numbers in range. -/
theorem free_iff (n : Int) (b : List S) (k : Nat) (h0 : 0 ≤ n) (h1 : n ≤ 12) (hk : k ≤ 4) : ((covRes n b k).2 == 13) = true ↔ ¬ ∃ t, (∀ x ∈ t, x ∈ b) ∧ t.length ≤ k ∧ Covered (fullS n.toNat) t := by
  rw [← cover_iff, covRes_good (by omega), Int.toNat_natCast]
  cases covFrom b (fullS n.toNat) (k + 1) 0 with
  | none => simp [covPair]
  | some l => simp [covPair]

/-! ### dissemination, masking -/
theorem fk_isNone (x y : S) (l : List S) : (fk x y l).isNone = true ↔ ∀ z ∈ l, x &&& y &&& ~~~z ≠ 0#16 := by
  induction l with
  | nil => simp [fk]
  | cons a t ih =>
    unfold fk
    by_cases h : (x &&& y &&& ~~~a == 0#16) = true
    · rw [if_pos h]
      simp only [Option.isNone_some, Bool.false_eq_true, false_iff]
      intro hc
      exact hc a (by simp) (by simpa using h)
    · rw [if_neg h, ih]
      constructor
      · intro h2 z hz
        rcases List.mem_cons.1 hz with rfl | hz
        · simpa using h
        · exact h2 z hz
      · intro h2 z hz; exact h2 z (List.mem_cons_of_mem _ hz)
theorem fj_isNone (x : S) (b l : List S) : (fj x b l).isNone = true ↔ ∀ y ∈ l, ∀ z ∈ b, x &&& y &&& ~~~z ≠ 0#16 := by
  induction l with
  | nil => simp [fj]
  | cons a t ih =>
    unfold fj
    have h1 := fk_isNone x a b
    cases hq : fk x a b with
    | some q =>
      rw [hq] at h1
      simp only [Option.isNone_some, Bool.false_eq_true, false_iff] at h1 ⊢
      intro hc
      exact h1 (hc a (by simp))
    | none =>
      rw [hq] at h1
      simp only [Option.isNone_none, true_iff] at h1
      simp only
      rw [ih]
      constructor
      · intro h2 y hy
        rcases List.mem_cons.1 hy with rfl | hy
        · exact h1
        · exact h2 y hy
      · intro h2 y hy; exact h2 y (List.mem_cons_of_mem _ hy)
theorem fi_isNone (b l : List S) : (fi b l).isNone = true ↔ ∀ x ∈ l, ∀ y ∈ l, ∀ z ∈ b, x &&& y &&& ~~~z ≠ 0#16 := by
  induction l with
  | nil => simp [fi]
  | cons a t ih =>
    unfold fi
    have h1 := fj_isNone a b (a :: t)
    cases hq : fj a b (a :: t) with
    | some q =>
      rw [hq] at h1
      simp only [Option.isNone_some, Bool.false_eq_true, false_iff] at h1 ⊢
      intro hc
      exact h1 (hc a (by simp))
    | none =>
      rw [hq] at h1
      simp only [Option.isNone_none, true_iff] at h1
      simp only
      rw [ih]
      constructor
      · intro h2 x hx y hy z hz
        rcases List.mem_cons.1 hx with rfl | hx2
        · exact h1 y hy z hz
        · rcases List.mem_cons.1 hy with rfl | hy2
          · rw [BitVec.and_comm x y]; exact h1 x (List.mem_cons_of_mem _ hx2) z hz
          · exact h2 x hx2 y hy2 z hz
      · intro h2 x hx y hy; exact h2 x (List.mem_cons_of_mem _ hx) y (List.mem_cons_of_mem _ hy)
theorem disOK_iff (b f : List S) : disOK b f = true ↔ ∀ x ∈ f, ∀ y ∈ f, ∀ z ∈ b, x &&& y &&& ~~~z ≠ 0#16 := fi_isNone b f
theorem ml_isNone (x y p : S) (l : List S) : (ml x y p l).isNone = true ↔ ∀ z ∈ l, x &&& y &&& ~~~(p ||| z) ≠ 0#16 := by
  induction l with
  | nil => simp [ml]
  | cons a t ih =>
    unfold ml
    by_cases h : (x &&& y &&& ~~~(p ||| a) == 0#16) = true
    · rw [if_pos h]
      simp only [Option.isNone_some, Bool.false_eq_true, false_iff]
      intro hc
      exact hc a (by simp) (by simpa using h)
    · rw [if_neg h, ih]
      constructor
      · intro h2 z hz
        rcases List.mem_cons.1 hz with rfl | hz
        · simpa using h
        · exact h2 z hz
      · intro h2 z hz; exact h2 z (List.mem_cons_of_mem _ hz)
theorem mk_isNone (x y : S) (l : List S) : (mk x y l).isNone = true ↔ ∀ p ∈ l, ∀ z ∈ l, x &&& y &&& ~~~(p ||| z) ≠ 0#16 := by
  induction l with
  | nil => simp [mk]
  | cons a t ih =>
    unfold mk
    have h1 := ml_isNone x y a (a :: t)
    cases hq : ml x y a (a :: t) with
    | some q =>
      rw [hq] at h1
      simp only [Option.isNone_some, Bool.false_eq_true, false_iff] at h1 ⊢
      intro hc
      exact h1 (hc a (by simp))
    | none =>
      rw [hq] at h1
      simp only [Option.isNone_none, true_iff] at h1
      simp only
      rw [ih]
      constructor
      · intro h2 p hp z hz
        rcases List.mem_cons.1 hp with rfl | hp2
        · exact h1 z hz
        · rcases List.mem_cons.1 hz with rfl | hz2
          · rw [BitVec.or_comm p z]; exact h1 p (List.mem_cons_of_mem _ hp2)
          · exact h2 p hp2 z hz2
      · intro h2 p hp z hz; exact h2 p (List.mem_cons_of_mem _ hp) z (List.mem_cons_of_mem _ hz)
theorem mj_isNone (x : S) (b l : List S) : (mj x b l).isNone = true ↔ ∀ y ∈ l, ∀ p ∈ b, ∀ z ∈ b, x &&& y &&& ~~~(p ||| z) ≠ 0#16 := by
  induction l with
  | nil => simp [mj]
  | cons a t ih =>
    unfold mj
    have h1 := mk_isNone x a b
    cases hq : mk x a b with
    | some q =>
      rw [hq] at h1
      simp only [Option.isNone_some, Bool.false_eq_true, false_iff] at h1 ⊢
      intro hc
      exact h1 (hc a (by simp))
    | none =>
      rw [hq] at h1
      simp only [Option.isNone_none, true_iff] at h1
      simp only
      rw [ih]
      constructor
      · intro h2 y hy
        rcases List.mem_cons.1 hy with rfl | hy
        · exact h1
        · exact h2 y hy
      · intro h2 y hy; exact h2 y (List.mem_cons_of_mem _ hy)
theorem maskOK_iff (b l : List S) : maskOK b l = true ↔ ∀ x ∈ l, ∀ y ∈ l, ∀ p ∈ b, ∀ z ∈ b, x &&& y &&& ~~~(p ||| z) ≠ 0#16 := by
  unfold maskOK
  induction l with
  | nil => simp [mi]
  | cons a t ih =>
    unfold mi
    have h1 := mj_isNone a b (a :: t)
    cases hq : mj a b (a :: t) with
    | some q =>
      rw [hq] at h1
      simp only [Option.isNone_some, Bool.false_eq_true, false_iff] at h1 ⊢
      intro hc
      exact h1 (hc a (by simp))
    | none =>
      rw [hq] at h1
      simp only [Option.isNone_none, true_iff] at h1
      simp only
      rw [ih]
      constructor
      · intro h2 x hx y hy p hp z hz
        rcases List.mem_cons.1 hx with rfl | hx2
        · exact h1 y hy p hp z hz
        · rcases List.mem_cons.1 hy with rfl | hy2
          · rw [BitVec.and_comm x y]; exact h1 x (List.mem_cons_of_mem _ hx2) p hp z hz
          · exact h2 x hx2 y hy2 p hp z hz
      · intro h2 x hx y hy; exact h2 x (List.mem_cons_of_mem _ hx) y (List.mem_cons_of_mem _ hy)
theorem availS_iff (f b : List S) : availS f b = true ↔ ∀ z ∈ b, ∃ x ∈ f, x &&& z = 0#16 := by
  unfold availS avoids
  simp only [List.all_eq_true, List.any_eq_true, beq_iff_eq]

/-! ### what the statements say -/
theorem ne_zero_mono {x y : S} (h : ∀ i, i < 16 → x.getLsbD i = true → y.getLsbD i = true) (hx : x ≠ 0#16) : y ≠ 0#16 := by
  intro hy
  apply hx
  rw [zero_iff] at *
  intro i hi
  cases hb : x.getLsbD i with
  | false => rfl
  | true => exact absurd (hy i hi) (by rw [h i hi hb]; simp)
/-- more servers -/
def moreS (f : List S) (m : S) : List S := f.map fun x => x ||| m
def fewerS (b : List S) (m : S) : List S := b.map fun x => x &&& ~~~m
theorem more_dis (f b : List S) (m m' : S) (h : disOK b f = true) : disOK (fewerS b m') (moreS f m) = true := by
  rw [disOK_iff] at *
  intro x hx y hy z hz
  obtain ⟨x, hx2, rfl⟩ := List.mem_map.1 hx
  obtain ⟨y, hy2, rfl⟩ := List.mem_map.1 hy
  obtain ⟨z, hz2, rfl⟩ := List.mem_map.1 hz
  refine ne_zero_mono (fun i hi hb => ?_) (h x hx2 y hy2 z hz2)
  simp only [BitVec.getLsbD_and, BitVec.getLsbD_not, BitVec.getLsbD_or, hi, decide_true, Bool.true_and, Bool.and_eq_true, Bool.not_eq_true'] at hb ⊢
  simp only [hb.1.1, hb.1.2, hb.2, Bool.true_or, Bool.false_and, and_self]
theorem more_mask (f b : List S) (m m' : S) (h : maskOK b f = true) : maskOK (fewerS b m') (moreS f m) = true := by
  rw [maskOK_iff] at *
  intro x hx y hy p hp z hz
  obtain ⟨x, hx2, rfl⟩ := List.mem_map.1 hx
  obtain ⟨y, hy2, rfl⟩ := List.mem_map.1 hy
  obtain ⟨p, hp2, rfl⟩ := List.mem_map.1 hp
  obtain ⟨z, hz2, rfl⟩ := List.mem_map.1 hz
  refine ne_zero_mono (fun i hi hb => ?_) (h x hx2 y hy2 p hp2 z hz2)
  simp only [BitVec.getLsbD_and, BitVec.getLsbD_not, BitVec.getLsbD_or, hi, decide_true, Bool.true_and, Bool.and_eq_true, Bool.not_eq_true', Bool.or_eq_false_iff] at hb ⊢
  simp only [hb.1.1, hb.1.2, hb.2.1, hb.2.2, Bool.true_or, Bool.false_and, and_self]
/-- no cover by two avoided sets and what is left -/
theorem needed_core {q c : List S} {U : S} (hq : ∀ x ∈ q, ∀ i, i < 16 → x.getLsbD i = true → U.getLsbD i = true) (hav : ∀ z ∈ c, ∃ x ∈ q, x &&& z = 0#16) {z1 z2 : S} (h1 : z1 ∈ c) (h2 : z2 ∈ c) (r : List S) (hcov : Covered U (z1 :: z2 :: r)) :
    ∃ x ∈ q, ∃ y ∈ q, ∀ i, i < 16 → (x &&& y).getLsbD i = true → ∃ z ∈ r, z.getLsbD i = true := by
  obtain ⟨x, hx, ex⟩ := hav z1 h1
  obtain ⟨y, hy, ey⟩ := hav z2 h2
  rw [zero_iff] at ex ey
  refine ⟨x, hx, y, hy, fun i hi hb => ?_⟩
  rw [BitVec.getLsbD_and, Bool.and_eq_true] at hb
  have e1 := ex i hi
  have e2 := ey i hi
  rw [BitVec.getLsbD_and, hb.1, Bool.true_and] at e1
  rw [BitVec.getLsbD_and, hb.2, Bool.true_and] at e2
  obtain ⟨z, hz, h3⟩ := hcov i hi (hq x hx i hi hb.1)
  rcases List.mem_cons.1 hz with rfl | hz
  · rw [e1] at h3; cases h3
  · rcases List.mem_cons.1 hz with rfl | hz
    · rw [e2] at h3; cases h3
    · exact ⟨z, hz, h3⟩
/-- a list of at most k + 1 members as one of just k + 1 -/
theorem pad_members {c t : List S} {k : Nat} (hc : c ≠ []) (ht : ∀ x ∈ t, x ∈ c) (hl : t.length ≤ k) : ∃ t' : List S, t'.length = k ∧ (∀ x ∈ t', x ∈ c) ∧ ∀ x ∈ t, x ∈ t' := by
  obtain ⟨a, r, rfl⟩ := List.exists_cons_of_ne_nil hc
  refine ⟨t ++ List.replicate (k - t.length) a, by simp; omega, fun x hx => ?_, fun x hx => List.mem_append_left _ hx⟩
  rcases List.mem_append.1 hx with h | h
  · exact ht x h
  · rw [(List.mem_replicate.1 h).2]; simp
theorem covered_mono {m : S} {t t' : List S} (h : Covered m t) (hs : ∀ x ∈ t, x ∈ t') : Covered m t' := fun i hi hm => by
  obtain ⟨x, hx, h2⟩ := h i hi hm
  exact ⟨x, hs x hx, h2⟩
theorem needed_dis {q c : List S} {n : Int} (h0 : 0 ≤ n) (h1 : n ≤ 12) (hc : c ≠ []) (hq : ∀ x ∈ q, ∀ i, i < 16 → x.getLsbD i = true → (fullS n.toNat).getLsbD i = true) (hav : availS q c = true) (hd : disOK c q = true) : ((covRes n c 3).2 == 13) = true := by
  rw [show (3 : Int) = ((3 : Nat) : Int) from rfl, free_iff n c 3 h0 h1 (by omega)]
  rintro ⟨t, ht, hl, hcov⟩
  obtain ⟨t', hl', ht', hs⟩ := pad_members hc ht hl
  match t', hl' with
  | [z1, z2, z3], _ =>
    obtain ⟨x, hx, y, hy, hb⟩ := needed_core hq ((availS_iff q c).1 hav) (ht' z1 (by simp)) (ht' z2 (by simp)) [z3] (covered_mono hcov hs)
    refine (disOK_iff c q).1 hd x hx y hy z3 (ht' z3 (by simp)) ?_
    rw [zero_iff]
    intro i hi
    rw [BitVec.getLsbD_and]
    cases hxy : (x &&& y).getLsbD i with
    | false => simp
    | true =>
      obtain ⟨z, hz, h4⟩ := hb i hi hxy
      rw [List.mem_singleton] at hz
      subst hz
      rw [BitVec.getLsbD_not, h4]; simp
theorem needed_mask {q c : List S} {n : Int} (h0 : 0 ≤ n) (h1 : n ≤ 12) (hc : c ≠ []) (hq : ∀ x ∈ q, ∀ i, i < 16 → x.getLsbD i = true → (fullS n.toNat).getLsbD i = true) (hav : availS q c = true) (hd : maskOK c q = true) : ((covRes n c 4).2 == 13) = true := by
  rw [show (4 : Int) = ((4 : Nat) : Int) from rfl, free_iff n c 4 h0 h1 (by omega)]
  rintro ⟨t, ht, hl, hcov⟩
  obtain ⟨t', hl', ht', hs⟩ := pad_members hc ht hl
  match t', hl' with
  | [z1, z2, z3, z4], _ =>
    obtain ⟨x, hx, y, hy, hb⟩ := needed_core hq ((availS_iff q c).1 hav) (ht' z1 (by simp)) (ht' z2 (by simp)) [z3, z4] (covered_mono hcov hs)
    refine (maskOK_iff c q).1 hd x hx y hy z3 (ht' z3 (by simp)) z4 (ht' z4 (by simp)) ?_
    rw [zero_iff]
    intro i hi
    rw [BitVec.getLsbD_and]
    cases hxy : (x &&& y).getLsbD i with
    | false => simp
    | true =>
      obtain ⟨z, hz, h4⟩ := hb i hi hxy
      rw [BitVec.getLsbD_not, BitVec.getLsbD_or]
      simp only [List.mem_cons, List.not_mem_nil, or_false] at hz
      rcases hz with rfl | rfl
      · rw [h4]; simp
      · rw [h4]; simp
theorem withinS_sub (n : Nat) (l : List S) : ∀ x ∈ withinS n l, ∀ i, i < 16 → x.getLsbD i = true → (fullS n).getLsbD i = true := by
  intro x hx i hi hb
  obtain ⟨y, -, rfl⟩ := List.mem_map.1 hx
  rw [BitVec.getLsbD_and, Bool.and_eq_true] at hb
  exact hb.2

/-! ### the canonical family -/
theorem fullS_out (n : Nat) (h : n ≤ 12) : fullS n &&& 61440#16 = 0#16 := by
  have : ∀ k : Fin 13, fullS k.val &&& 61440#16 = 0#16 := by decide +kernel
  exact this ⟨n, by omega⟩
theorem compl_in (n : Nat) (h : n ≤ 12) (b : List S) : (compl n b).any outS = false := by
  rw [← Bool.not_eq_true, List.any_eq_true]
  rintro ⟨x, hx, h2⟩
  obtain ⟨y, -, rfl⟩ := List.mem_map.1 hx
  have e : fullS n &&& ~~~y &&& 61440#16 = 0#16 := by
    have h3 := fullS_out n h
    rw [zero_iff] at h3 ⊢
    intro i hi
    have h4 := h3 i hi
    rw [BitVec.getLsbD_and] at h4
    rw [BitVec.getLsbD_and, BitVec.getLsbD_and]
    cases h5 : (fullS n).getLsbD i with
    | false => simp
    | true => rw [h5, Bool.true_and] at h4; rw [h4]; simp
  unfold outS at h2
  rw [e] at h2
  simp at h2
/-- The program's canonical family is the reference's. -/
theorem canon_same (n : Int) (b : List S) : canonS n b = refCanon n b := by
  unfold canonS refCanon
  split
  · rfl
  · rename_i h
    unfold minimalS
    rw [compl_in n.toNat (by omega) b, if_neg (by simp), least_same]
/-- each complement has a minimal set inside it, and each minimal set is a complement -/
theorem least_below (l : List S) (x : S) (hx : x ∈ l) : ∃ y ∈ leastP l, sub y x = true := by
  rw [leastP_filter]
  obtain ⟨y, h1, h2, h3⟩ := below_lone (sortS' l) _ x rfl (((sortS_asc l).2 x).2 hx)
  exact ⟨y, List.mem_filter.2 ⟨h1, h2⟩, h3⟩
theorem least_mem (l : List S) (x : S) (hx : x ∈ leastP l) : x ∈ l := by
  rw [leastP_filter] at hx
  exact ((sortS_asc l).2 x).1 (List.mem_filter.1 hx).1
theorem compl_bit (n : Nat) (y : S) (i : Nat) (hi : i < 16) : (fullS n &&& ~~~y).getLsbD i = true ↔ (fullS n).getLsbD i = true ∧ (y &&& fullS n).getLsbD i = false := by
  rw [BitVec.getLsbD_and, BitVec.getLsbD_not, BitVec.getLsbD_and]
  cases (fullS n).getLsbD i <;> cases y.getLsbD i <;> simp [hi]
/-- F: the family; c: the sets among n servers -/
theorem canon_avail (n : Nat) (b : List S) : availS (leastP (compl n b)) (withinS n b) = true := by
  rw [availS_iff]
  intro z hz
  obtain ⟨y, hy, rfl⟩ := List.mem_map.1 hz
  obtain ⟨x, hx, hs⟩ := least_below (compl n b) (fullS n &&& ~~~y) (List.mem_map.2 ⟨y, hy, rfl⟩)
  refine ⟨x, hx, ?_⟩
  rw [sub_iff] at hs
  rw [zero_iff]
  intro i hi
  rw [BitVec.getLsbD_and]
  cases hb : x.getLsbD i with
  | false => rfl
  | true => rw [((compl_bit n y i hi).1 (hs i hi hb)).2]; rfl
theorem canon_bit {n : Nat} {b : List S} {x : S} (hx : x ∈ leastP (compl n b)) : ∃ z ∈ withinS n b, ∀ i, i < 16 → (x.getLsbD i = true ↔ (fullS n).getLsbD i = true ∧ z.getLsbD i = false) := by
  obtain ⟨y, hy, rfl⟩ := List.mem_map.1 (least_mem _ x hx)
  exact ⟨y &&& fullS n, List.mem_map.2 ⟨y, hy, rfl⟩, fun i hi => compl_bit n y i hi⟩
theorem withinS_ne (n : Nat) {b : List S} (h : b ≠ []) : withinS n b ≠ [] := by
  unfold withinS; simpa using h
theorem leastP_sub (n : Nat) (b : List S) : ∀ x ∈ leastP (compl n b), ∀ i, i < 16 → x.getLsbD i = true → (fullS n).getLsbD i = true := fun x hx i hi hb => by
  obtain ⟨z, -, h⟩ := canon_bit hx
  exact ((h i hi).1 hb).1
theorem canon_dis (n : Int) (b : List S) (h0 : 0 ≤ n) (h1 : n ≤ 12) (hb : b ≠ []) : disOK (withinS n.toNat b) (leastP (compl n.toNat b)) = ((covRes n (withinS n.toNat b) 3).2 == 13) := by
  rw [Bool.eq_iff_iff]
  constructor
  · exact fun h => needed_dis h0 h1 (withinS_ne _ hb) (leastP_sub _ b) (canon_avail _ b) h
  · rw [show (3 : Int) = ((3 : Nat) : Int) from rfl, free_iff n _ 3 h0 h1 (by omega), disOK_iff]
    intro h x hx y hy z hz e
    obtain ⟨u, hu, bu⟩ := canon_bit hx
    obtain ⟨v, hv, bv⟩ := canon_bit hy
    apply h
    refine ⟨[u, v, z], fun a ha => ?_, Nat.le_refl _, fun i hi hm => ?_⟩
    · simp only [List.mem_cons, List.not_mem_nil, or_false] at ha
      rcases ha with rfl | rfl | rfl
      · exact hu
      · exact hv
      · exact hz
    · rw [zero_iff] at e
      have h5 := e i hi
      rw [BitVec.getLsbD_and, BitVec.getLsbD_and, BitVec.getLsbD_not] at h5
      cases c1 : u.getLsbD i with
      | true => exact ⟨u, by simp, c1⟩
      | false =>
        cases c2 : v.getLsbD i with
        | true => exact ⟨v, by simp, c2⟩
        | false =>
          rw [(bu i hi).2 ⟨hm, c1⟩, (bv i hi).2 ⟨hm, c2⟩] at h5
          exact ⟨z, by simp, by simpa [hi] using h5⟩
theorem canon_mask (n : Int) (b : List S) (h0 : 0 ≤ n) (h1 : n ≤ 12) (hb : b ≠ []) : maskOK (withinS n.toNat b) (leastP (compl n.toNat b)) = ((covRes n (withinS n.toNat b) 4).2 == 13) := by
  rw [Bool.eq_iff_iff]
  constructor
  · exact fun h => needed_mask h0 h1 (withinS_ne _ hb) (leastP_sub _ b) (canon_avail _ b) h
  · rw [show (4 : Int) = ((4 : Nat) : Int) from rfl, free_iff n _ 4 h0 h1 (by omega), maskOK_iff]
    intro h x hx y hy p hp z hz e
    obtain ⟨u, hu, bu⟩ := canon_bit hx
    obtain ⟨v, hv, bv⟩ := canon_bit hy
    apply h
    refine ⟨[u, v, p, z], fun a ha => ?_, Nat.le_refl _, fun i hi hm => ?_⟩
    · simp only [List.mem_cons, List.not_mem_nil, or_false] at ha
      rcases ha with rfl | rfl | rfl | rfl
      · exact hu
      · exact hv
      · exact hp
      · exact hz
    · rw [zero_iff] at e
      have h5 := e i hi
      rw [BitVec.getLsbD_and, BitVec.getLsbD_and, BitVec.getLsbD_not, BitVec.getLsbD_or] at h5
      cases c1 : u.getLsbD i with
      | true => exact ⟨u, by simp, c1⟩
      | false =>
        cases c2 : v.getLsbD i with
        | true => exact ⟨v, by simp, c2⟩
        | false =>
          rw [(bu i hi).2 ⟨hm, c1⟩, (bv i hi).2 ⟨hm, c2⟩] at h5
          cases c3 : p.getLsbD i with
          | true => exact ⟨p, by simp, c3⟩
          | false => rw [c3] at h5; exact ⟨z, by simp, by simpa [hi] using h5⟩
end Go.Proofs.Ytnkknjpnkobplaa
