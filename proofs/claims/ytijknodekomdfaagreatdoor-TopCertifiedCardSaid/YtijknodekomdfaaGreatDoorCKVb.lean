/- Texts joined into one, what is needed of them (a program of ours). -/
import Derived.Test.YtijknodekomdfaaGreatDoorCKVa
import Derived.Test.YtijknodekomdfaaGreatDoorCKZj
import Derived.Test.YtijknodekomdfaaGreatDoorCKU
import Derived.Test.YtijknodekomdfaaGreatDoorCKYv
import Derived.Test.YtijknodekomdfaaGreatDoorCKO
namespace Go.Proofs.YtijknodekomdfaaGreatDoor
open Go.RowKit Go.Lib Go.Shelf

def ch0 : CH := ⟨0, 0, 0⟩
/-- the check of a tree from a node on -/
def chkT (X Y : S → Bool) (bad : S) (ns : List CH) : Nat → Nat → S → S → Bool
  | k, i, p, q =>
    if (ns.getD i ch0).sr = -1 then !X (ful &&& ~~~q)
    else if (ns.getD i ch0).sr = -2 then !Y (ful &&& ~~~p)
    else match k with
      | 0 => false
      | k + 1 => (1#16 <<< (ns.getD i ch0).sr.toNat &&& (bad ||| p ||| q) == 0#16) && chkT X Y bad ns k (ns.getD i ch0).x (p ||| 1#16 <<< (ns.getD i ch0).sr.toNat) q && chkT X Y bad ns k (ns.getD i ch0).y p (q ||| 1#16 <<< (ns.getD i ch0).sr.toNat)
theorem prv_pre (X Y : S → Bool) : ∀ (k : Nat) (ns : List CH) (a b l : S), ∃ t, (prv X Y k ns a b l).1 = ns ++ t ∧ t.length + 1 ≤ 2 ^ (k + 1) ∧ ((prv X Y k ns a b l).2.2 = true → 0 < t.length ∧ (prv X Y k ns a b l).2.1 + 1 = (ns ++ t).length) := by
  intro k
  induction k with
  | zero =>
    intro ns a b l
    unfold prv
    split
    · exact ⟨_, rfl, by simp, fun _ => by simp⟩
    split
    · exact ⟨_, rfl, by simp, fun _ => by simp⟩
    split
    · exact ⟨[], by simp, by simp, fun h => by cases h⟩
    · exact ⟨[], by simp, by simp, fun h => by cases h⟩
  | succ k ih =>
    intro ns a b l
    have hp : 2 ≤ 2 ^ (k + 1) := by
      have := Nat.pow_le_pow_right (show 0 < 2 by decide) (show 1 ≤ k + 1 by omega)
      omega
    have hp2 : 2 ^ (k + 1 + 1) = 2 ^ (k + 1) + 2 ^ (k + 1) := by rw [Nat.pow_succ]; omega
    unfold prv
    split
    · exact ⟨_, rfl, by simp; omega, fun _ => by simp⟩
    split
    · exact ⟨_, rfl, by simp; omega, fun _ => by simp⟩
    split
    · exact ⟨[], by simp, by simp; omega, fun h => by cases h⟩
    dsimp only
    obtain ⟨t1, e1, n1, _⟩ := ih ns (a ||| 1#16 <<< tzS l) b (l &&& ~~~(1#16 <<< tzS l))
    split
    · exact ⟨t1, e1, by omega, fun h => by cases h⟩
    obtain ⟨t2, e2, n2, _⟩ := ih (prv X Y k ns (a ||| 1#16 <<< tzS l) b (l &&& ~~~(1#16 <<< tzS l))).1 a (b ||| 1#16 <<< tzS l) (l &&& ~~~(1#16 <<< tzS l))
    split
    · exact ⟨t1 ++ t2, by rw [e2, e1, List.append_assoc], by rw [List.length_append]; omega, fun h => by cases h⟩
    · obtain ⟨x, hx⟩ : ∃ x : CH, x = ⟨(tzS l : Int), (prv X Y k ns (a ||| 1#16 <<< tzS l) b (l &&& ~~~(1#16 <<< tzS l))).2.1, (prv X Y k (prv X Y k ns (a ||| 1#16 <<< tzS l) b (l &&& ~~~(1#16 <<< tzS l))).1 a (b ||| 1#16 <<< tzS l) (l &&& ~~~(1#16 <<< tzS l))).2.1⟩ := ⟨_, rfl⟩
      rw [← hx]
      dsimp only
      refine ⟨t1 ++ t2 ++ [x], by rw [e2, e1]; simp only [List.append_assoc], by simp; omega, fun _ => ⟨by simp; omega, ?_⟩⟩
      rw [e2, e1]
      simp
      omega
theorem getD_mid (l : List CH) (x : CH) (t : List CH) : ((l ++ [x]) ++ t).getD l.length ch0 = x := by
  rw [List.getD, List.append_assoc, List.getElem?_append_right (Nat.le_refl _)]
  simp
theorem chkT_x {X Y : S → Bool} {bad : S} {ns : List CH} {k i : Nat} {p q : S} (h : (ns.getD i ch0).sr = -1) (hx : X (ful &&& ~~~q) = false) : chkT X Y bad ns k i p q = true := by
  unfold chkT; rw [if_pos h, hx]; rfl
theorem chkT_y {X Y : S → Bool} {bad : S} {ns : List CH} {k i : Nat} {p q : S} (h : (ns.getD i ch0).sr = -2) (hy : Y (ful &&& ~~~p) = false) : chkT X Y bad ns k i p q = true := by
  unfold chkT; rw [if_neg (by rw [h]; decide), if_pos h, hy]; rfl
theorem prv_chk {X Y : S → Bool} {bad : S} : ∀ (k : Nat) (ns : List CH) (a b l : S), small l → l &&& (bad ||| a ||| b) = 0#16 → (prv X Y k ns a b l).2.2 = true → ∀ t, chkT X Y bad ((prv X Y k ns a b l).1 ++ t) k (prv X Y k ns a b l).2.1 a b = true := by
  intro k
  induction k with
  | zero =>
    intro ns a b l _ _
    unfold prv
    split
    · rename_i hx
      exact fun _ t => chkT_x (by rw [getD_mid]) hx
    split
    · rename_i hy
      exact fun _ t => chkT_y (by rw [getD_mid]) hy
    split
    · exact fun h => by cases h
    · exact fun h => by cases h
  | succ k ih =>
    intro ns a b l hs hd
    unfold prv
    split
    · rename_i hx
      exact fun _ t => chkT_x (by rw [getD_mid]) hx
    split
    · rename_i hy
      exact fun _ t => chkT_y (by rw [getD_mid]) hy
    split
    · exact fun h => by cases h
    rename_i hl
    have ht := tz_bit hs hl
    have hdj : ∀ j, l.getLsbD j = true → bad.getLsbD j = false ∧ a.getLsbD j = false ∧ b.getLsbD j = false := fun j hj => by
      have h1 : (l &&& (bad ||| a ||| b)).getLsbD j = false := by rw [hd]; simp
      rw [BitVec.getLsbD_and, BitVec.getLsbD_or, BitVec.getLsbD_or, hj, Bool.true_and, Bool.or_eq_false_iff, Bool.or_eq_false_iff] at h1
      exact ⟨h1.1.1, h1.1.2, h1.2⟩
    have d1 : (l &&& ~~~(1#16 <<< tzS l)) &&& (bad ||| (a ||| 1#16 <<< tzS l) ||| b) = 0#16 := bit_eq9 fun j hj => by
      simp only [BitVec.getLsbD_and, BitVec.getLsbD_or, BitVec.getLsbD_not, BitVec.getLsbD_zero, hj, decide_true, Bool.true_and]
      cases hlj : l.getLsbD j with
      | false => rfl
      | true =>
        obtain ⟨e1, e2, e3⟩ := hdj j hlj
        rw [e1, e2, e3]
        cases (1#16 <<< tzS l).getLsbD j <;> rfl
    have d2 : (l &&& ~~~(1#16 <<< tzS l)) &&& (bad ||| a ||| (b ||| 1#16 <<< tzS l)) = 0#16 := bit_eq9 fun j hj => by
      simp only [BitVec.getLsbD_and, BitVec.getLsbD_or, BitVec.getLsbD_not, BitVec.getLsbD_zero, hj, decide_true, Bool.true_and]
      cases hlj : l.getLsbD j with
      | false => rfl
      | true =>
        obtain ⟨e1, e2, e3⟩ := hdj j hlj
        rw [e1, e2, e3]
        cases (1#16 <<< tzS l).getLsbD j <;> rfl
    have d0 : (1#16 <<< tzS l &&& (bad ||| a ||| b) == 0#16) = true := by
      rw [beq_iff_eq]
      refine bit_eq9 fun j hj => ?_
      simp only [BitVec.getLsbD_and, BitVec.getLsbD_or, BitVec.getLsbD_zero, one_get j (show tzS l < 16 by omega)]
      by_cases e : j = tzS l
      · subst e
        obtain ⟨e1, e2, e3⟩ := hdj _ ht.2
        simp [e1, e2, e3]
      · simp [e]
    dsimp only
    have i1 := ih ns (a ||| 1#16 <<< tzS l) b (l &&& ~~~(1#16 <<< tzS l)) (small_and9 hs) d1
    generalize prv X Y k ns (a ||| 1#16 <<< tzS l) b (l &&& ~~~(1#16 <<< tzS l)) = r at *
    split
    · exact fun h => by cases h
    rename_i hr
    have i2 := ih r.1 a (b ||| 1#16 <<< tzS l) (l &&& ~~~(1#16 <<< tzS l)) (small_and9 hs) d2
    obtain ⟨t2, e2, _, _⟩ := prv_pre X Y k r.1 a (b ||| 1#16 <<< tzS l) (l &&& ~~~(1#16 <<< tzS l))
    generalize prv X Y k r.1 a (b ||| 1#16 <<< tzS l) (l &&& ~~~(1#16 <<< tzS l)) = q at *
    split
    · exact fun h => by cases h
    rename_i hq
    intro _ t
    dsimp only
    unfold chkT
    rw [getD_mid]
    dsimp only
    rw [if_neg (by omega), if_neg (by omega), Int.toNat_natCast, d0, Bool.true_and]
    have j1 := i1 (by simpa using hr) (t2 ++ ([(⟨(tzS l : Int), r.2.1, q.2.1⟩ : CH)] ++ t))
    have j2 := i2 (by simpa using hq) ([(⟨(tzS l : Int), r.2.1, q.2.1⟩ : CH)] ++ t)
    rw [← List.append_assoc, ← e2, ← List.append_assoc] at j1
    rw [← List.append_assoc] at j2
    rw [j1, j2]
    rfl
def refsC (x : CH) : List Nat := if x.sr < 0 then [] else [x.x, x.y]
/-- a node at an index -/
def nodeOk (i : Nat) (x : CH) : Prop := ((x.sr = -1 ∨ x.sr = -2) ∧ x.x = 0 ∧ x.y = 0) ∨ (0 ≤ x.sr ∧ x.sr < 12 ∧ x.x < i ∧ x.y < i)
theorem prv_form (X Y : S → Bool) : ∀ (k : Nat) (ns : List CH) (a b l : S), small l → (prv X Y k ns a b l).2.2 = true → ∃ t, (prv X Y k ns a b l).1 = ns ++ t ∧ (prv X Y k ns a b l).2.1 + 1 = ns.length + t.length ∧ 0 < t.length ∧
    (∀ i, (t.flatMap refsC).count i = if ns.length ≤ i ∧ i < (prv X Y k ns a b l).2.1 then 1 else 0) ∧ ∀ j, j < t.length → nodeOk (ns.length + j) (t.getD j ch0) := by
  have leafx : ∀ (ns : List CH) (z : Int), (z = -1 ∨ z = -2) → ∃ t, ns ++ [(⟨z, 0, 0⟩ : CH)] = ns ++ t ∧ ns.length + 1 = ns.length + t.length ∧ 0 < t.length ∧ (∀ i, (t.flatMap refsC).count i = if ns.length ≤ i ∧ i < ns.length then 1 else 0) ∧ ∀ j, j < t.length → nodeOk (ns.length + j) (t.getD j ch0) := fun ns z hz => by
    refine ⟨_, rfl, by simp, by simp, fun i => ?_, fun j hj => ?_⟩
    · rw [if_neg (by omega)]
      have : refsC ⟨z, 0, 0⟩ = [] := by unfold refsC; rw [if_pos (by dsimp only; omega)]
      simp [this]
    · have : j = 0 := by simpa using hj
      subst this
      exact .inl ⟨hz, rfl, rfl⟩
  intro k
  induction k with
  | zero =>
    intro ns a b l _
    unfold prv
    split
    · exact fun _ => leafx ns _ (.inl rfl)
    split
    · exact fun _ => leafx ns _ (.inr rfl)
    split
    · exact fun h => by cases h
    · exact fun h => by cases h
  | succ k ih =>
    intro ns a b l hs
    unfold prv
    split
    · exact fun _ => leafx ns _ (.inl rfl)
    split
    · exact fun _ => leafx ns _ (.inr rfl)
    split
    · exact fun h => by cases h
    rename_i hl
    have ht := tz_bit hs hl
    dsimp only
    have i1 := ih ns (a ||| 1#16 <<< tzS l) b (l &&& ~~~(1#16 <<< tzS l)) (small_and9 hs)
    split
    · exact fun h => by cases h
    rename_i hr
    obtain ⟨t1, e1, l1, z1, c1, n1⟩ := i1 (by simpa using hr)
    have i2 := ih (prv X Y k ns (a ||| 1#16 <<< tzS l) b (l &&& ~~~(1#16 <<< tzS l))).1 a (b ||| 1#16 <<< tzS l) (l &&& ~~~(1#16 <<< tzS l)) (small_and9 hs)
    split
    · exact fun h => by cases h
    rename_i hq
    obtain ⟨t2, e2, l2, z2, c2, n2⟩ := i2 (by simpa using hq)
    intro _
    dsimp only
    clear i1 i2 hr hq ih
    generalize prv X Y k (prv X Y k ns (a ||| 1#16 <<< tzS l) b (l &&& ~~~(1#16 <<< tzS l))).1 a (b ||| 1#16 <<< tzS l) (l &&& ~~~(1#16 <<< tzS l)) = q at *
    generalize prv X Y k ns (a ||| 1#16 <<< tzS l) b (l &&& ~~~(1#16 <<< tzS l)) = r at *
    have hrl : r.1.length = ns.length + t1.length := by rw [e1, List.length_append]
    have hql : q.1.length = ns.length + t1.length + t2.length := by rw [e2, List.length_append, hrl]
    rw [hrl] at l2 c2 n2
    refine ⟨t1 ++ t2 ++ [⟨(tzS l : Int), r.2.1, q.2.1⟩], by rw [e2, e1]; simp only [List.append_assoc], by rw [hql]; simp only [List.length_append, List.length_singleton]; omega, by simp; omega, fun i => ?_, fun j hj => ?_⟩
    · rw [List.flatMap_append, List.flatMap_append, List.count_append, List.count_append, c1, c2, hql]
      have h3 : [(⟨(tzS l : Int), r.2.1, q.2.1⟩ : CH)].flatMap refsC = [r.2.1, q.2.1] := by
        rw [List.flatMap_cons, List.flatMap_nil, List.append_nil]
        unfold refsC
        rw [if_neg (by dsimp only; omega)]
      rw [h3, List.count_cons, List.count_cons, List.count_nil]
      simp only [beq_iff_eq]
      repeat' split
      all_goals omega
    · simp only [List.length_append, List.length_singleton] at hj
      by_cases h1 : j < t1.length
      · rw [List.append_assoc, show (t1 ++ (t2 ++ [(⟨(tzS l : Int), r.2.1, q.2.1⟩ : CH)])).getD j ch0 = t1.getD j ch0 by rw [List.getD, List.getD, List.getElem?_append_left h1]]
        exact n1 j h1
      · by_cases h2 : j < t1.length + t2.length
        · rw [List.append_assoc, show (t1 ++ (t2 ++ [(⟨(tzS l : Int), r.2.1, q.2.1⟩ : CH)])).getD j ch0 = t2.getD (j - t1.length) ch0 by rw [List.getD, List.getD, List.getElem?_append_right (by omega), List.getElem?_append_left (by omega)]]
          have h3 := n2 (j - t1.length) (by omega)
          rw [show ns.length + t1.length + (j - t1.length) = ns.length + j by omega] at h3
          exact h3
        · have h3 : j = (t1 ++ t2).length := by rw [List.length_append]; omega
          rw [show (t1 ++ t2 ++ [(⟨(tzS l : Int), r.2.1, q.2.1⟩ : CH)]).getD j ch0 = ⟨(tzS l : Int), r.2.1, q.2.1⟩ by rw [h3, List.getD, List.getElem?_append_right (Nat.le_refl _)]; simp]
          exact .inr ⟨by dsimp only; omega, by dsimp only; omega, by dsimp only; omega, by dsimp only; omega⟩
end Go.Proofs.YtijknodekomdfaaGreatDoor
namespace Go.Proofs.YtijknodekomdfaaGreatDoor
open Go.RowKit Go.Lib Go.Shelf

/-- what the law reckons at one bad set -/
def agrB (wt M : S) (R Q : List S) (b : S) : Bool := famB R Q (b ||| wt &&& M) && (b == 0#16 || famB Q Q b)
theorem famB_iff (f g : List S) (b : S) : famB f g b = true ↔ ∀ x ∈ f, ∀ y ∈ g, (x &&& y &&& ~~~b == 0#16) = false := by
  unfold famB
  simp
theorem mask_same {r q b wt M : S} (h : sub r M = true) : r &&& q &&& ~~~(b ||| wt &&& M) = r &&& q &&& ~~~(b ||| wt) := bit_eq9 fun j hj => by
  have h1 := (sub_iff _ _).1 h j hj
  simp only [BitVec.getLsbD_and, BitVec.getLsbD_or, BitVec.getLsbD_not, hj, decide_true, Bool.true_and]
  cases hr : r.getLsbD j with
  | false => rfl
  | true => rw [h1 hr, Bool.and_true]
theorem sup_in {R : List S} {M : S} (h : supS R &&& ~~~M = 0#16) : ∀ r ∈ R, sub r M = true := fun r hr => (sub_iff _ _).2 fun j hj hb => by
  have h1 : (supS R).getLsbD j = true := (supS_bit _ j).2 ⟨r, hr, hb⟩
  have h2 := congrArg (fun z : S => z.getLsbD j) h
  simp only [BitVec.getLsbD_and, BitVec.getLsbD_not, BitVec.getLsbD_zero, h1, hj, decide_true, Bool.true_and] at h2
  simpa using h2
theorem safe_agr {kd : Int} {wt M : S} {R Q : List S} {F : List F2} (hc : cvS kd M R Q F = 0) : safe27 kd wt M R Q F = (byz27 kd M F).all (agrB wt M R Q) := by
  have hR := sup_in (cf_parts (cv_parts hc).2.2.1).2.2.2
  rw [Bool.eq_iff_iff, List.all_eq_true]
  constructor
  · intro hs b hb
    obtain ⟨h1, h2⟩ := safe_rules hs
    unfold agrB
    rw [Bool.and_eq_true, Bool.or_eq_true, famB_iff, famB_iff]
    refine ⟨fun r hr q hq => ?_, ?_⟩
    · rw [mask_same (hR r hr)]
      exact h1 r hr q hq b hb
    · by_cases hz : b = 0#16
      · left; simpa using hz
      · right
        intro p hp q hq
        have h3 := h2 p hp q hq b hb
        unfold p2 at h3
        have h4 : (b != 0#16) = true := by simpa using hz
        rw [h4, Bool.true_and] at h3
        exact h3
  · intro hA
    refine safe_of hc (fun r hr q hq b hb => ?_) (fun p hp q hq b hb => ?_)
    · have h1 := hA b hb
      unfold agrB at h1
      rw [Bool.and_eq_true, famB_iff] at h1
      have h2 := h1.1 r hr q hq
      rw [mask_same (hR r hr)] at h2
      exact h2
    · have h1 := hA b hb
      unfold agrB at h1
      rw [Bool.and_eq_true, Bool.or_eq_true, famB_iff Q Q] at h1
      unfold p2
      rcases h1.2 with h2 | h2
      · have : (b != 0#16) = false := by simpa using h2
        rw [this]; rfl
      · rw [h2 p hp q hq, Bool.and_false]
/-- a configuration of a description is valid -/
theorem of_cv (kd N md : Int) (lr lw : List S) (lf : List F2) : cvS (kdOf kd) (fullS (nOf N)) (setsR md lr (nOf N)) (setsR md lw (nOf N)) (madeF (nOf N) lf) = 0 := by
  have hn1 : 1 ≤ nOf N := by unfold nOf; omega
  have hn := nOf_le N
  have hz : ∀ R : List S, mvL 0 R = R := fun R => by unfold mvL; simp
  have hf : fullS (nOf N) <<< 0 = fullS (nOf N) := by simp
  have hR := few_cf hn (show 0 ≤ 3 by decide) (sets_few md lr hn1 hn)
  have hQ := few_cf hn (show 0 ≤ 3 by decide) (sets_few md lw hn1 hn)
  rw [hz, hf] at hR hQ
  have hF := fv_made (nOf N) (show nOf N ≤ 12 by omega) lf
  obtain ⟨hM1, hM2⟩ := shl_full ⟨0, by omega⟩ ⟨nOf N, by omega⟩
  have hM2 := hM2 hn1
  dsimp only at hM1 hM2
  rw [hf] at hM1 hM2
  unfold cvS
  have h4 : sv (fullS (nOf N)) / 4096 = 0 := by unfold sv; omega
  rw [if_neg ?_, if_neg (by simp [h4]), if_neg (by simpa using hM2), if_neg (by simp [hR]), if_neg (by simp [hQ])]
  · exact hF
  · have : kdOf kd = 1 ∨ kdOf kd = 2 := by unfold kdOf; omega
    rcases this with e | e <;> rw [e] <;> decide
end Go.Proofs.YtijknodekomdfaaGreatDoor
namespace Go.Proofs.YtijknodekomdfaaGreatDoor
open Go.RowKit Go.Lib Go.Shelf

/-- a node that is valid at an index -/
def VN (i : Nat) (x : ND) : Prop := (x.kd = 1 ∧ 0 ≤ x.sr ∧ x.sr < 12 ∧ x.nd = 0 ∧ x.ks = []) ∨ (x.kd = 2 ∧ x.sr = 0 ∧ 0 ≤ x.nd ∧ x.nd ≤ 100000 ∧ ∀ k ∈ x.ks, k < i)
structure VX (x : List ND × Nat) : Prop where
  len : x.1.length ≤ 60
  root : x.2 < x.1.length
  ok : ∀ i, i < x.1.length → VN i (x.1.getD i nd9)
structure OfV (M : List Nat) (a : List ND × List Nat) (c : Nat) : Prop where
  pre : M.length ≤ a.1.length
  ok : ∀ i, i < a.1.length → VN i (a.1.getD i nd9)
  tops : ∀ k ∈ a.2, k < a.1.length
  len : a.1.length ≤ M.length + c
  tl : a.2.length = c
theorem vn_snoc {ns : List ND} {x : ND} (h : ∀ i, i < ns.length → VN i (ns.getD i nd9)) (hx : VN ns.length x) : ∀ i, i < (ns ++ [x]).length → VN i ((ns ++ [x]).getD i nd9) := fun i hi => by
  rw [List.length_append, List.length_singleton] at hi
  by_cases h1 : i < ns.length
  · rw [getD_left nd9 h1]; exact h i h1
  · have e : i = ns.length := by omega
    subst e
    rw [getD_new]; exact hx
theorem ofV_start (M : List Nat) (h : ∀ m ∈ M, m < 12) : OfV M (M.map lfN, []) 0 := by
  refine ⟨by simp, fun i hi => ?_, fun k hk => by simp at hk, by simp, rfl⟩
  dsimp only at hi ⊢
  rw [List.length_map] at hi
  have h1 := h M[i] (List.getElem_mem hi)
  rw [List.getD, List.getElem?_map, List.getElem?_eq_getElem hi]
  exact .inl ⟨rfl, by show (0 : Int) ≤ (M[i] : Int); omega, by show (M[i] : Int) < 12; omega, rfl, rfl⟩
theorem memb_len12 (x : S) : (members x).length ≤ 12 := by
  unfold members
  exact Nat.le_trans (List.length_filter_le _ _) (by simp)
theorem memb_lt12 {x : S} {m : Nat} (h : m ∈ members x) : m < 12 := by
  unfold members at h
  rw [List.mem_filter, List.mem_range] at h
  exact h.1
theorem kids_lt {M : List Nat} {x : S} (hm : ∀ m ∈ members x, m ∈ M) : ∀ k ∈ kidsM M x, k < M.length := fun k hk => by
  obtain ⟨m, hm2, rfl⟩ := List.mem_map.1 hk
  exact (mem_pl (hm m hm2)).1
theorem ofV_step {M : List Nat} {a : List ND × List Nat} {c : Nat} (h : OfV M a c) {x : S} (hm : ∀ m ∈ members x, m ∈ M) : OfV M (ofStep M a x) (c + 1) := by
  have hk := kids_lt hm
  have hl : (kidsM M x).length ≤ 12 := by unfold kidsM; rw [List.length_map]; exact memb_len12 x
  unfold ofStep
  split
  · rename_i h1
    obtain ⟨q, hq⟩ : ∃ q, kidsM M x = [q] := List.length_eq_one_iff.1 h1
    rw [hq] at hk
    have hqm := hk q (List.mem_singleton.2 rfl)
    refine ⟨h.pre, h.ok, fun k hk2 => ?_, by have := h.len; dsimp only; omega, by simp [h.tl]⟩
    rcases List.mem_append.1 hk2 with h2 | h2
    · exact h.tops k h2
    · rw [List.mem_singleton.1 h2, hq]
      exact Nat.lt_of_lt_of_le hqm h.pre
  · refine ⟨by dsimp only; rw [List.length_append]; have := h.pre; omega, ?_, fun k hk2 => ?_, by dsimp only; rw [List.length_append, List.length_singleton]; have := h.len; omega, by simp [h.tl]⟩
    · refine vn_snoc h.ok (.inr ⟨rfl, rfl, ?_, ?_, fun k hk3 => Nat.lt_of_lt_of_le (hk k hk3) h.pre⟩)
      · show (0 : Int) ≤ ((kidsM M x).length : Int); omega
      · show ((kidsM M x).length : Int) ≤ 100000; omega
    · dsimp only
      rw [List.length_append, List.length_singleton]
      rcases List.mem_append.1 hk2 with h2 | h2
      · have := h.tops k h2; omega
      · rw [List.mem_singleton.1 h2]; omega
theorem ofV_fold {M : List Nat} : ∀ (f : List S) {a : List ND × List Nat} {c : Nat}, OfV M a c → (∀ x ∈ f, ∀ m ∈ members x, m ∈ M) → OfV M (ofFold M a f) (c + f.length)
  | [], a, c, h, _ => h
  | x :: r, a, c, h, hf => by
    have h2 := ofV_fold r (ofV_step h (hf x (List.mem_cons_self ..))) fun y hy => hf y (List.mem_cons_of_mem _ hy)
    rw [List.length_cons, show c + (r.length + 1) = c + 1 + r.length by omega]
    exact h2
theorem mem_sup {f : List S} (hs : ∀ x ∈ f, small x) (hu : small (supS f)) (hm : ∀ x ∈ f, sub x (supS f) = true) : ∀ x ∈ f, ∀ m ∈ members x, m ∈ members (supS f) := fun x hx m hm2 => by
  have h1 := (members_bit (hs x hx) m).2 hm2
  exact (members_bit hu m).1 ((sub_iff _ _).1 (hm x hx) m (bit_lt h1) h1)
theorem ofX_valid {f : List S} (hs : ∀ x ∈ f, small x) (hu : small (supS f)) (hm : ∀ x ∈ f, sub x (supS f) = true) (hl : f.length ≤ 40) : VX (ofX f) := by
  have hv : OfV (members (supS f)) (ofRaw f) (0 + f.length) := ofV_fold f (ofV_start _ fun m h => memb_lt12 h) (mem_sup hs hu hm)
  have h12 := memb_len12 (supS f)
  unfold ofX
  generalize ofRaw f = a at *
  obtain ⟨ns, tops⟩ := a
  obtain ⟨_, hok, htop, hlen, htl⟩ := hv
  dsimp only at *
  split
  · rename_i h1
    obtain ⟨q, hq⟩ : ∃ q, tops = [q] := List.length_eq_one_iff.1 h1
    subst hq
    exact ⟨by dsimp only; omega, htop q (List.mem_singleton.2 rfl), hok⟩
  · refine ⟨by dsimp only; rw [List.length_append, List.length_singleton]; omega, by simp, vn_snoc hok (.inr ⟨rfl, rfl, ?_, ?_, fun k hk => htop k hk⟩)⟩
    · show (0 : Int) ≤ ((1 : Nat) : Int); omega
    · show ((1 : Nat) : Int) ≤ 100000; omega
def sxN (o : S) (x : ND) : S := if x.kd = 1 then o ||| 1#16 <<< x.sr.toNat else o
def supX (ns : List ND) : S := ns.foldl sxN 0#16
theorem supX_th (ns : List ND) (n : Nat) (ks : List Nat) : supX (ns ++ [thN n ks]) = supX ns := by
  unfold supX
  rw [List.foldl_append]
  have h : ∀ o, sxN o (thN n ks) = o := fun o => by
    unfold sxN
    rw [if_neg (by show ¬ (2 : Int) = 1; decide)]
  exact h _
theorem supX_fold (M : List Nat) : ∀ (f : List S) (a : List ND × List Nat), supX (ofFold M a f).1 = supX a.1
  | [], _ => rfl
  | x :: r, a => by
    show supX (ofFold M (ofStep M a x) r).1 = _
    rw [supX_fold M r]
    unfold ofStep
    split
    · rfl
    · exact supX_th ..
theorem supX_leaves {u : S} (hu : small u) : supX ((members u).map lfN) = u := by
  have key : ∀ (M : List Nat) (o : S), (∀ m ∈ M, m < 12) → ∀ j, ((M.map lfN).foldl sxN o).getLsbD j = (o.getLsbD j || decide (j ∈ M)) := fun M => by
    induction M with
    | nil => intro o _ j; simp
    | cons a r ih =>
      intro o h j
      rw [List.map_cons, List.foldl_cons, ih _ fun m hm => h m (List.mem_cons_of_mem _ hm)]
      have h1 : sxN o (lfN a) = o ||| 1#16 <<< a := by unfold sxN lfN; simp
      rw [h1, BitVec.getLsbD_or, one_get j (by have := h a (List.mem_cons_self ..); omega)]
      by_cases e : j = a <;> simp [e]
  refine bit_eq9 fun j _ => ?_
  unfold supX
  rw [key _ _ (fun m h => memb_lt12 h), Bool.eq_iff_iff, members_bit hu j]
  simp
theorem supX_of {f : List S} (hu : small (supS f)) : supX (ofX f).1 = supS f := by
  have h1 : supX (ofRaw f).1 = supS f := by
    unfold ofRaw
    rw [supX_fold]
    exact supX_leaves hu
  unfold ofX
  generalize ofRaw f = a at *
  dsimp only
  split
  · exact h1
  · exact (supX_th ..).trans h1
def incL (pl : List Nat) (k : Nat) : List Nat := pl.set k (pl.getD k 0 + 1)
def parL (n : Nat) (ns : List CH) : List Nat := (ns.flatMap refsC).foldl incL (List.replicate n 0)
theorem incL_len (pl : List Nat) (k : Nat) : (incL pl k).length = pl.length := by unfold incL; simp
theorem foldl_inc_len : ∀ (rs pl : List Nat), (rs.foldl incL pl).length = pl.length
  | [], _ => rfl
  | r :: rs, pl => by rw [List.foldl_cons, foldl_inc_len rs, incL_len]
theorem parL_len (n : Nat) (ns : List CH) : (parL n ns).length = n := by unfold parL; rw [foldl_inc_len]; simp
theorem foldl_inc_at : ∀ (rs pl : List Nat) (i : Nat), i < pl.length → (rs.foldl incL pl).getD i 0 = pl.getD i 0 + rs.count i
  | [], pl, i, _ => by simp
  | r :: rs, pl, i, h => by
    rw [List.foldl_cons, foldl_inc_at rs _ i (by rw [incL_len]; exact h), List.count_cons]
    unfold incL
    by_cases e : r = i
    · subst e
      rw [List.getD, List.getElem?_set_self h, Option.getD_some]
      simp; omega
    · rw [List.getD, List.getElem?_set_ne e, ← List.getD]
      simp [e]
theorem parL_at (n : Nat) (ns : List CH) (i : Nat) (h : i < n) : (parL n ns).getD i 0 = (ns.flatMap refsC).count i := by
  unfold parL
  rw [foldl_inc_at _ _ _ (by simpa using h)]
  simp [List.getD, h]
/-- a tree that the prover made -/
structure Formed (ns : List CH) (root : Nat) : Prop where
  len : ns.length = root + 1
  most : ns.length ≤ 8191
  ok : ∀ j, j < ns.length → nodeOk j (ns.getD j ch0)
  par : ∀ i, i < ns.length → (ns.flatMap refsC).count i = if i < root then 1 else 0
theorem prv_formed {X Y : S → Bool} {a b l : S} (hs : small l) (h : (prv X Y 12 [] a b l).2.2 = true) : Formed (prv X Y 12 [] a b l).1 (prv X Y 12 [] a b l).2.1 := by
  obtain ⟨t, e, hl, _, hc, hn⟩ := prv_form X Y 12 [] a b l hs h
  obtain ⟨t2, e2, h2, _⟩ := prv_pre X Y 12 [] a b l
  rw [List.nil_append] at e e2
  rw [e] at e2 ⊢
  subst e2
  simp only [List.length_nil, Nat.zero_add, Nat.zero_le, true_and] at hl hn hc
  exact ⟨by omega, by simp only [Nat.reducePow, Nat.reduceAdd] at h2; omega, hn, fun i _ => hc i⟩
end Go.Proofs.YtijknodekomdfaaGreatDoor
namespace Go.Proofs.YtijknodekomdfaaGreatDoor
open Go.RowKit Go.Lib Go.Shelf

/-- a family of small sets, not too long -/
structure Sm (f : List S) : Prop where
  el : ∀ x ∈ f, small x
  len : f.length ≤ 40
theorem small_bits {x : S} (h : ∀ j, x.getLsbD j = true → j < 12) : small x := by
  show x.toNat < 2 ^ 12
  refine Nat.lt_pow_two_of_testBit _ fun i hi => ?_
  cases hb : x.toNat.testBit i with
  | false => rfl
  | true =>
    have := h i hb
    omega
theorem Sm.sup {f : List S} (h : Sm f) : small (supS f) := small_bits fun j hj => by
  obtain ⟨x, hx, hb⟩ := (supS_bit _ j).1 hj
  exact small_bit_lt (h.el x hx) hb
theorem Sm.sub {f : List S} (_h : Sm f) : ∀ x ∈ f, sub x (supS f) = true := fun x hx => (sub_iff _ _).2 fun j _ hb => (supS_bit _ j).2 ⟨x, hx, hb⟩
theorem Sm.vx {f : List S} (h : Sm f) : VX (ofX f) := ofX_valid h.el h.sup h.sub h.len
theorem Sm.holds {f : List S} (h : Sm f) : holdsV (ofX f) = satF f := funext fun s => (ofX_facts h.el h.sup h.sub s).2
/-- what is left for the prover -/
def lftS (f g : List S) (b : S) : S := (supX (ofX f).1 ||| supX (ofX g).1) &&& ~~~b
theorem lft_eq {f g : List S} (hf : Sm f) (hg : Sm g) (b : S) : lftS f g b = (supS f ||| supS g) &&& ~~~b := by
  unfold lftS
  rw [supX_of hf.sup, supX_of hg.sup]
theorem lft_small {f g : List S} (hf : Sm f) (hg : Sm g) (b : S) : small (lftS f g b) := by
  rw [lft_eq hf hg]
  refine small_bits fun j hj => ?_
  rw [BitVec.getLsbD_and, BitVec.getLsbD_or, Bool.and_eq_true, Bool.or_eq_true] at hj
  rcases hj.1 with h | h
  · exact small_bit_lt hf.sup h
  · exact small_bit_lt hg.sup h
def prvT (f g : List S) (b : S) : List CH × Nat × Bool := prv (holdsV (ofX f)) (holdsV (ofX g)) 12 [] 0#16 0#16 (lftS f g b)
theorem prv_fam {f g : List S} (hf : Sm f) (hg : Sm g) (b : S) : (prvT f g b).2.2 = famB f g b := by
  have h1 := prv_ok (satF_mono f) (satF_mono g) 12 [] 0#16 0#16 (lftS f g b) (lft_small hf hg b) (memb_len12 _)
  rw [← hf.holds, ← hg.holds] at h1
  have h2 := fam_viol (f := f) (g := g) (L := lftS f g b) (bad := b) hf.el hg.el (fun j hj hb h => by
    rw [lft_eq hf hg, BitVec.getLsbD_and, BitVec.getLsbD_or, BitVec.getLsbD_not, hb]
    rcases h with ⟨x, hx, hxb⟩ | ⟨x, hx, hxb⟩
    · rw [(supS_bit f j).2 ⟨x, hx, hxb⟩]; simp [hj]
    · rw [(supS_bit g j).2 ⟨x, hx, hxb⟩]; simp [hj]) (fun j hj => by
    rw [lft_eq hf hg, BitVec.getLsbD_and, BitVec.getLsbD_not] at hj
    simp at hj
    exact hj.2.2)
  rw [← hf.holds, ← hg.holds] at h2
  have h3 : (prvT f g b).2.2 = false ↔ famB f g b = false := h1.trans h2.symm
  cases h4 : (prvT f g b).2.2 <;> cases h5 : famB f g b <;> simp_all
theorem prv_good {f g : List S} (hf : Sm f) (hg : Sm g) {b : S} (h : (prvT f g b).2.2 = true) :
    Formed (prvT f g b).1 (prvT f g b).2.1 ∧ chkT (holdsV (ofX f)) (holdsV (ofX g)) b (prvT f g b).1 12 (prvT f g b).2.1 0#16 0#16 = true := by
  have hs := lft_small hf hg b
  refine ⟨prv_formed hs h, ?_⟩
  have h1 := prv_chk (X := holdsV (ofX f)) (Y := holdsV (ofX g)) (bad := b) 12 [] 0#16 0#16 (lftS f g b) hs (by
    rw [lft_eq hf hg]
    refine bit_eq9 fun j hj => ?_
    simp only [BitVec.getLsbD_and, BitVec.getLsbD_or, BitVec.getLsbD_not, BitVec.getLsbD_zero, hj, decide_true, Bool.true_and, Bool.or_false]
    cases b.getLsbD j <;> simp) h []
  rw [List.append_nil] at h1
  exact h1
end Go.Proofs.YtijknodekomdfaaGreatDoor
