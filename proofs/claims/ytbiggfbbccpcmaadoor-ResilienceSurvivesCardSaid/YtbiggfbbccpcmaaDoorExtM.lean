/- The plain laws of coteries: minimal lists, domination, extension. -/
import Derived.Test.YtbiggfbbccpcmaaDoorR09d
namespace Go.Proofs.YtbiggfbbccpcmaaDoor
open Go.RowKit Go.Lib Go.Shelf

/-! ### minimal lists -/
theorem leastP_mem (l : List S) (x : S) : x ∈ leastP l ↔ x ∈ l ∧ ∀ y ∈ l, sub y x = true → y = x := by
  rw [leastP_filter, List.mem_filter, (sortS_asc l).2, lone_iff]
  simp only [(sortS_asc l).2]
theorem leastP_asc (l : List S) : Asc (leastP l) := by
  rw [leastP_filter]; exact List.Pairwise.filter _ (sortS_asc l).1
theorem leastP_anti (l : List S) : Anti (leastP l) := fun x hx y hy h => ((leastP_mem l y).1 hy).2 x ((leastP_mem l x).1 hx).1 h
theorem leastP_acc (l : List S) (s : S) : accS (leastP l) s = accS l s := by
  rw [Bool.eq_iff_iff, accS_iff, accS_iff]
  constructor
  · rintro ⟨y, hy, h⟩; exact ⟨y, ((leastP_mem l y).1 hy).1, h⟩
  · rintro ⟨y, hy, h⟩
    obtain ⟨z, hz, h1, h2⟩ := below_lone l _ y rfl hy
    exact ⟨z, (leastP_mem l z).2 ⟨hz, (lone_iff l z).1 h1⟩, sub_trans h2 h⟩
theorem leastP_self {f : List S} (h1 : Asc f) (h2 : Anti f) : leastP f = f :=
  asc_ext (leastP_asc f) h1 fun x => by
    rw [leastP_mem]
    exact ⟨fun h => h.1, fun h => ⟨h, fun y hy hs => h2 y hy x h hs⟩⟩
theorem rminS_eq {f : List S} (h : ∀ x ∈ f, small x) : rminS f = leastP f := by
  have hs := small_sup h
  unfold rminS
  rw [rminR_least, refSubs_eq hs]
  have e : (subsetsL (supS f)).filter (fun x => f.contains x) = sortS' f := by
    refine asc_ext (List.Pairwise.filter _ (subsets_asc hs)) (sortS_asc f).1 fun x => ?_
    rw [List.mem_filter, mem_subsets hs, (sortS_asc f).2, List.contains_iff_mem]
    exact ⟨fun h => h.2, fun h => ⟨sub_sup h, h⟩⟩
  rw [e]; rfl
theorem outS_false {f : List S} (h : ∀ x ∈ f, small x) : f.any outS = false := by
  rw [List.any_eq_false]
  intro x hx
  unfold outS
  rw [(out_small x).2 (h x hx)]; simp
theorem minimalS_ok {f : List S} (h : ∀ x ∈ f, small x) (hl : (leastP f).length ≤ 400) : minimalS f = (leastP f, 0) := by
  unfold minimalS limS
  rw [outS_false h]
  simp only [Bool.false_eq_true, if_false]
  rw [if_neg (by omega)]

/-! ### families of six servers -/
def Low6 (l : List S) : Prop := ∀ x ∈ l, x.toNat < 64
theorem Low6.small {l : List S} (h : Low6 l) : ∀ x ∈ l, small x := fun x hx => Nat.lt_trans (h x hx) (by decide)
theorem sub63' : ∀ i : Fin 64, sub (BitVec.ofNat 16 i.val) 63#16 = true := by decide
theorem sub63 {x : S} (h : x.toNat < 64) : sub x 63#16 = true := by
  have := sub63' ⟨x.toNat, h⟩
  simpa using this
theorem subsets63 : (subsetsL 63#16).length = 64 := by decide +kernel
theorem low_len {l : List S} (h : Low6 l) (ha : Asc l) : l.length ≤ 64 := by
  have hs : small 63#16 := by unfold small; decide
  have e : l = (subsetsL 63#16).filter fun x => l.contains x := by
    refine asc_ext ha (List.Pairwise.filter _ (subsets_asc hs)) fun x => ?_
    rw [List.mem_filter, mem_subsets hs, List.contains_iff_mem]
    exact ⟨fun hx => ⟨sub63 (h x hx), hx⟩, fun hx => hx.2⟩
  rw [e, ← subsets63]
  exact List.length_filter_le _ _
theorem low_sup {l : List S} (h : Low6 l) : sub (supS l) 63#16 = true := by
  rw [sub_iff]
  intro i hi hb
  obtain ⟨x, hx, hxb⟩ := (supS_bit l i).1 hb
  exact (sub_iff _ _).1 (sub63 (h x hx)) i hi hxb
theorem low_sub {x : S} (h : sub x 63#16 = true) : x.toNat < 64 := by
  have := sub_le h
  have e : (63#16).toNat = 63 := rfl
  omega
theorem low_D {f : List S} (h : Low6 f) : Low6 (D f) := fun x hx => low_sub (sub_trans (D_sub (small_sup h.small) x hx) (low_sup h))
theorem low_fam {f : List S} (h : Low6 f) (h1 : Asc f) (h2 : Anti f) : Fam f := ⟨by have := low_len h h1; omega, h.small, h1, h2⟩
theorem low_least {f : List S} (h : Low6 f) : Low6 (leastP f) := fun x hx => h x ((leastP_mem f x).1 hx).1
theorem fam_least {f : List S} (h : Low6 f) : Fam (leastP f) := low_fam (low_least h) (leastP_asc f) (leastP_anti f)
theorem fam_D {f : List S} (h : Low6 f) : Fam (D f) := low_fam (low_D h) (D_asc (small_sup h.small)) (D_anti (small_sup h.small))
theorem dualErr_ok {f : List S} (hf : Fam f) (h : Low6 f) : dualErr f = (D f, 0) := by
  have h1 := low_len (low_D h) (D_asc (small_sup h.small))
  rw [dualErr_D, if_neg (by rw [(valid_iff f).2 hf]; simp), if_neg (by omega)]
theorem low_pre (l : List B8) : Low6 (pre20 l) := fun x hx => by
  obtain ⟨y, -, rfl⟩ := List.mem_map.1 hx
  exact bset_lt y
/-- what Made makes -/
theorem madeS_eq (l : List B8) : madeS l = leastP (pre20 l) := rminS_eq (low_pre l).small
theorem made_low (l : List B8) : Low6 (madeS l) := by rw [madeS_eq]; exact low_least (low_pre l)
theorem made_fam (l : List B8) : Fam (madeS l) := by rw [madeS_eq]; exact fam_least (low_pre l)
theorem made_len (l : List B8) : (madeS l).length ≤ 64 := low_len (made_low l) (made_fam l).asc

/-! ### coteries -/
structure Cot (f : List S) : Prop where
  fam : Fam f
  some : f ≠ []
  meet : ∀ x ∈ f, ∀ y ∈ f, x &&& y ≠ 0#16
theorem crossS_iff (f g : List S) : crossS f g = true ↔ ∀ x ∈ f, hitS g x = true := by unfold crossS; simp
theorem cross_meet (f : List S) : crossS f f = true ↔ ∀ x ∈ f, ∀ y ∈ f, x &&& y ≠ 0#16 := by
  rw [crossS_iff]
  constructor
  · intro h x hx y hy; exact (hitS_iff _ _).1 (h y hy) x hx
  · intro h x hx; exact (hitS_iff _ _).2 fun y hy => h y hy x hx
theorem cotS_iff (f : List S) : cotS f = true ↔ Cot f := by
  unfold cotS
  simp only [Bool.and_eq_true, beq_iff_eq, bne_iff_ne, Bool.not_eq_true']
  constructor
  · rintro ⟨⟨⟨⟨h1, h2⟩, h3⟩, h4⟩, h5⟩
    exact ⟨(valid_iff f).1 h1, fun e => h2 (by rw [e]; rfl), (cross_meet f).1 h4⟩
  · intro h
    have e : minimalS f = (f, 0) := by
      have := leastP_self h.fam.asc h.fam.anti
      rw [minimalS_ok h.fam.low (by rw [this]; exact h.fam.len), this]
    refine ⟨⟨⟨⟨(valid_iff f).2 h.fam, fun e => h.some (List.eq_nil_of_length_eq_zero e)⟩, ?_⟩, (cross_meet f).2 h.meet⟩, by rw [e], by rw [e]⟩
    cases hc : f.contains 0#16 with
    | false => rfl
    | true =>
      have := List.contains_iff_mem.1 hc
      exact absurd (by simp) (h.meet _ this _ this)
theorem rcotS_eq (f : List S) : rcotS f = cotS f := by
  rw [Bool.eq_iff_iff, cotS_iff]
  unfold rcotS
  simp only [Bool.and_eq_true, beq_iff_eq, decide_eq_true_eq]
  rw [rval_eq]
  constructor
  · rintro ⟨h1, h2, h3, -⟩
    exact ⟨(valid_iff f).1 h1, fun e => by rw [e] at h2; simp at h2, (cross_meet f).1 h3⟩
  · intro h
    refine ⟨(valid_iff f).2 h.fam, List.length_pos_iff.2 h.some, (cross_meet f).2 h.meet, ?_⟩
    rw [eqS_iff, decide_eq_true_eq, rminS_eq h.fam.low]
    exact leastP_self h.fam.asc h.fam.anti
theorem starErr_eq (l : List S) : starErr l = if cotErr l ≠ 0 then ([], cotErr l) else dualErr l := by
  unfold starErr cotErr
  rw [rval_eq, rcotS_eq, rdual_eq]
  by_cases h : validS l = 0
  · rw [if_neg (by simpa using h), if_pos h]
    cases hc : cotS l with
    | true => simp
    | false => simp
  · rw [if_pos h, if_neg h, if_pos h]
theorem domErr_eq (l : List S) : rdomErr l = domErr l := by
  unfold rdomErr domErr
  rw [starErr_eq]
  by_cases h : cotErr l = 0
  · rw [if_neg (by simpa using h), if_pos h]
    by_cases h2 : (dualErr l).2 = 0
    · rw [if_pos h2, h2]; simp
    · rw [if_neg h2]; simp [h2]
  · rw [if_pos h, if_neg h]; simp [h]
theorem cotErr_cot {f : List S} (h : Cot f) : cotErr f = 0 := by
  unfold cotErr; rw [if_pos ((valid_iff f).2 h.fam), if_pos ((cotS_iff f).2 h)]
theorem cot_of_err {f : List S} (h : cotErr f = 0) : Cot f := by
  unfold cotErr at h
  by_cases h1 : validS f = 0
  · rw [if_pos h1] at h
    cases hc : cotS f with
    | true => exact (cotS_iff f).1 hc
    | false => rw [hc] at h; cases h
  · rw [if_neg h1] at h; exact absurd h h1

/-! ### extension -/
theorem countP_lt {α : Type} (p q : α → Bool) (a : α) (hq : q a = true) (hp : p a = false) : ∀ l : List α, (∀ x ∈ l, p x = true → q x = true) → a ∈ l → l.countP p < l.countP q
  | [], _, h => by cases h
  | x :: xs, hi, h => by
    have hle : xs.countP p ≤ xs.countP q := List.countP_mono_left fun y hy => hi y (List.mem_cons_of_mem _ hy)
    rw [List.countP_cons, List.countP_cons]
    rcases List.mem_cons.1 h with rfl | h
    · rw [hq, hp]; simp; omega
    · have ih := countP_lt p q a hq hp xs (fun y hy => hi y (List.mem_cons_of_mem _ hy)) h
      have := hi x (by simp)
      cases hx : p x with
      | false => simp; split <;> omega
      | true => rw [this hx]; simp; omega
/-- how many sets of six servers are not accepted -/
def mu (f : List S) : Nat := (List.range 64).countP fun x => !accS f (BitVec.ofNat 16 x)
theorem mu_le (f : List S) : mu f ≤ 64 := by
  have := List.countP_le_length (p := fun x => !accS f (BitVec.ofNat 16 x)) (l := List.range 64)
  simpa [mu] using this
/-- the first set of the dual that is not in the list -/
def nxtE (f : List S) : Option S := (D f).find? fun t => !f.contains t
def extR : Nat → List S → List S
  | 0, f => f
  | k + 1, f => match nxtE f with
    | none => f
    | some t => extR k (leastP (f ++ [t]))
def extS (f : List S) : List S := extR 64 f
/-- what holds at each round -/
structure Good (f : List S) : Prop where
  cot : Cot f
  low : Low6 f
theorem Good.sup {f : List S} (h : Good f) : Go.Proofs.YtbiggfbbccpcmaaDoor.small (supS f) := small_sup h.low.small
theorem Good.dual {f : List S} (h : Good f) : dualErr f = (D f, 0) := dualErr_ok h.cot.fam h.low
theorem Good.hit {f : List S} (h : Good f) {x : S} (hx : x ∈ f) : hitS f x = true := (hitS_iff _ _).2 fun y hy => h.cot.meet y hy x hx
theorem accS_append (f : List S) (t s : S) : accS (f ++ [t]) s = (accS f s || sub t s) := by
  unfold accS sub; simp
theorem Good.new {f : List S} (h : Good f) {t : S} (ht : t ∈ D f) (hn : t ∉ f) : accS f t = false := by
  rw [← Bool.not_eq_true, accS_iff]
  rintro ⟨x, hx, hxt⟩
  have := ((mem_D h.sup t).1 ht).2 x hxt (h.hit hx)
  subst this
  exact hn hx
theorem Good.step {f : List S} (h : Good f) {t : S} (ht : t ∈ D f) (hn : t ∉ f) : Good (leastP (f ++ [t])) ∧ mu (leastP (f ++ [t])) < mu f := by
  have htl : t.toNat < 64 := low_D h.low t ht
  have hlow : Low6 (f ++ [t]) := fun x hx => by
    rcases List.mem_append.1 hx with hx | hx
    · exact h.low x hx
    · rw [List.mem_singleton.1 hx]; exact htl
  have hm : ∀ x ∈ f, x &&& t ≠ 0#16 := (hitS_iff _ _).1 ((mem_D h.sup t).1 ht).1
  have hne : ∃ x, x ∈ f := by
    cases f with
    | nil => exact absurd rfl h.cot.some
    | cons x xs => exact ⟨x, by simp⟩
  have htt : t &&& t ≠ 0#16 := by
    obtain ⟨x, hx⟩ := hne
    obtain ⟨i, hi, -, h2⟩ := (and_ne _ _).1 (hm x hx)
    exact (and_ne _ _).2 ⟨i, hi, h2, h2⟩
  refine ⟨⟨⟨fam_least hlow, ?_, ?_⟩, low_least hlow⟩, ?_⟩
  · obtain ⟨x, hx⟩ := hne
    have h1 : accS (leastP (f ++ [t])) x = true := by
      rw [leastP_acc, accS_iff]; exact ⟨x, by simp [hx], sub_refl x⟩
    intro e
    rw [e] at h1; cases h1
  · intro x hx y hy
    have hx2 := ((leastP_mem _ x).1 hx).1
    have hy2 := ((leastP_mem _ y).1 hy).1
    rw [List.mem_append, List.mem_singleton] at hx2 hy2
    rcases hx2 with hx2 | rfl <;> rcases hy2 with hy2 | rfl
    · exact h.cot.meet x hx2 y hy2
    · exact hm x hx2
    · rw [BitVec.and_comm]; exact hm y hy2
    · exact htt
  · refine countP_lt _ _ t.toNat ?_ ?_ _ (fun x _ hx => ?_) (List.mem_range.2 htl)
    · have := h.new ht hn
      simp [this]
    · rw [leastP_acc, accS_append]
      simp [sub_refl]
    · rw [leastP_acc, accS_append] at hx
      cases h1 : accS f (BitVec.ofNat 16 x) with
      | false => rfl
      | true => rw [h1] at hx; simp at hx
theorem nxtE_some {f : List S} {t : S} (h : nxtE f = some t) : t ∈ D f ∧ t ∉ f := by
  have h1 := List.mem_of_find?_eq_some h
  have h2 := List.find?_some h
  exact ⟨h1, by simpa using h2⟩
theorem nxtE_none {f : List S} (h : nxtE f = none) : ∀ t ∈ D f, t ∈ f := fun t ht => by
  have := List.find?_eq_none.1 h t ht
  simpa using this
theorem extR_none {f : List S} (h : nxtE f = none) (k : Nat) : extR k f = f := by
  cases k with
  | zero => rfl
  | succ k => rw [extR, h]
/-- A coterie that has every set of its dual is its dual. -/
theorem Good.self {f : List S} (h : Good f) (hn : nxtE f = none) : D f = f := by
  refine asc_ext (D_asc h.sup) h.cot.fam.asc fun x => ⟨nxtE_none hn x, fun hx => ?_⟩
  obtain ⟨t, ht, hts⟩ := (accS_iff _ _).1 ((acc_D h.sup x).trans (h.hit hx))
  have := h.cot.fam.anti t (nxtE_none hn t ht) x hx hts
  subst this
  exact ht
theorem Good.next {f : List S} (h : Good f) (hd : D f ≠ f) : ∃ t, nxtE f = some t := by
  cases hn : nxtE f with
  | some t => exact ⟨t, rfl⟩
  | none => exact absurd (h.self hn) hd
theorem self_none {f : List S} (h : D f = f) : nxtE f = none := by
  unfold nxtE
  rw [h, List.find?_eq_none]
  intro x hx; simpa using hx
/-- The extension is a coterie that is its own dual, and accepts what the list accepts. -/
theorem extR_good : ∀ (k : Nat) (f : List S), Good f → mu f ≤ k → Good (extR k f) ∧ D (extR k f) = extR k f ∧ ∀ s, accS f s = true → accS (extR k f) s = true
  | 0, f, h, hk => by
    have hn : nxtE f = none := by
      cases hn : nxtE f with
      | none => rfl
      | some t =>
        obtain ⟨h1, h2⟩ := nxtE_some hn
        have := (h.step h1 h2).2
        omega
    exact ⟨h, h.self hn, fun s hs => hs⟩
  | k + 1, f, h, hk => by
    rw [extR]
    cases hn : nxtE f with
    | none => exact ⟨h, h.self hn, fun s hs => hs⟩
    | some t =>
      obtain ⟨h1, h2⟩ := nxtE_some hn
      obtain ⟨h3, h4⟩ := h.step h1 h2
      obtain ⟨h5, h6, h7⟩ := extR_good k _ h3 (by omega)
      refine ⟨h5, h6, fun s hs => h7 s ?_⟩
      rw [leastP_acc, accS_append, hs]; rfl
theorem extS_good {f : List S} (h : Good f) : Good (extS f) ∧ D (extS f) = extS f ∧ ∀ s, accS f s = true → accS (extS f) s = true := extR_good 64 f h (mu_le f)
def extErr (l : List S) : List S × Int := if cotErr l ≠ 0 then ([], cotErr l) else if (dualErr l).2 ≠ 0 then ([], (dualErr l).2) else (extS l, 0)
end Go.Proofs.YtbiggfbbccpcmaaDoor
