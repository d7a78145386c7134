/- Texts joined into one, what is needed of them (a program of ours). -/
import Derived.Test.YtijknodekomdfaaGreatDoorCKE
import Derived.Test.YtijknodekomdfaaGreatDoorCKB
import Derived.Test.YtijknodekomdfaaGreatDoorCKH
namespace Go.Proofs.YtijknodekomdfaaGreatDoor
open Go.RowKit Go.Lib Go.Shelf

theorem bit_lt {s : S} {j : Nat} (h : s.getLsbD j = true) : j < 16 := BitVec.lt_of_getLsbD h
theorem tz_bit {t : S} (h : small t) (h0 : t ≠ 0#16) : tzS t < 12 ∧ t.getLsbD (tzS t) = true := by
  have h1 := (members_step h h0).1
  have h2 : tzS t ∈ members t := by rw [h1]; exact List.mem_cons_self ..
  unfold members at h2
  rw [List.mem_filter, List.mem_range] at h2
  exact h2
theorem bit_one {i j : Nat} (h : (1#16 <<< i).getLsbD j = true) : j = i := by
  have h1 := bit_lt h
  rw [BitVec.getLsbD_shiftLeft] at h
  simp at h
  obtain ⟨⟨_, h2⟩, h3⟩ := h
  omega
theorem one_bit9 {i : Nat} (h : i < 16) : (1#16 <<< i).getLsbD i = true := by
  rw [BitVec.getLsbD_shiftLeft]
  simp [h]
end Go.Proofs.YtijknodekomdfaaGreatDoor
namespace Go.Proofs.YtijknodekomdfaaGreatDoor
open Go.RowKit Go.Lib Go.Shelf

/-- a node of an expression without weights -/
structure ND where
  kd : Int
  sr : Int
  nd : Int
  ks : List Nat
def nd9 : ND := ⟨0, 0, 0, []⟩
def lfN (s : Nat) : ND := ⟨1, (s : Int), 0, []⟩
def thN (need : Nat) (ks : List Nat) : ND := ⟨2, 0, (need : Int), ks⟩
/-- the value of a node, those of the earlier ones given -/
def cntK (v : List Bool) (ks : List Nat) : Nat := (ks.filter fun k => v.getD k false).length
def nvB (s : S) (v : List Bool) (x : ND) : Bool := if x.kd = 1 then s.getLsbD x.sr.toNat else decide (x.nd ≤ (cntK v x.ks : Int))
def hlB (s : S) : List ND → List Bool → List Bool
  | [], v => v
  | x :: r, v => hlB s r (v ++ [nvB s v x])
def holdsL (ns : List ND) (s : S) : List Bool := hlB s ns []
theorem hlB_snoc (s : S) (x : ND) : ∀ (ns : List ND) (v : List Bool), hlB s (ns ++ [x]) v = hlB s ns v ++ [nvB s (hlB s ns v) x]
  | [], _ => rfl
  | _ :: r, _ => hlB_snoc s x r _
theorem holdsL_snoc (ns : List ND) (x : ND) (s : S) : holdsL (ns ++ [x]) s = holdsL ns s ++ [nvB s (holdsL ns s) x] := hlB_snoc s x ns []
theorem hlB_len (s : S) : ∀ (ns : List ND) (v : List Bool), (hlB s ns v).length = v.length + ns.length
  | [], _ => by simp [hlB]
  | x :: r, v => by
    show (hlB s r (v ++ [nvB s v x])).length = _
    rw [hlB_len s r]
    simp
    omega
theorem holdsL_len (ns : List ND) (s : S) : (holdsL ns s).length = ns.length := by unfold holdsL; rw [hlB_len]; simp
theorem getD_left {α : Type} {l m : List α} {i : Nat} (d : α) (h : i < l.length) : (l ++ m).getD i d = l.getD i d := by
  rw [List.getD, List.getD, List.getElem?_append_left h]
theorem getD_new {α : Type} (l : List α) (x d : α) : (l ++ [x]).getD l.length d = x := by
  rw [List.getD, List.getElem?_append_right (Nat.le_refl _)]; simp
theorem getD_mem9 {l : List S} {i : Nat} (h : i < l.length) : l.getD i 0#16 ∈ l := by
  rw [List.getD, List.getElem?_eq_getElem h]; exact List.getElem_mem _
/-- the place of a server among the leaves -/
def plM (M : List Nat) (s : Nat) : Nat := M.idxOf s
def kidsM (M : List Nat) (x : S) : List Nat := (members x).map (plM M)
def ofStep (M : List Nat) (a : List ND × List Nat) (x : S) : List ND × List Nat :=
  if (kidsM M x).length = 1 then (a.1, a.2 ++ [im (kidsM M x) 0]) else (a.1 ++ [thN (kidsM M x).length (kidsM M x)], a.2 ++ [a.1.length])
def ofFold (M : List Nat) (a : List ND × List Nat) (f : List S) : List ND × List Nat := f.foldl (ofStep M) a
def ofRaw (f : List S) : List ND × List Nat := ofFold (members (supS f)) ((members (supS f)).map lfN, []) f
def ofX (f : List S) : List ND × Nat := let a := ofRaw f; if a.2.length = 1 then (a.1, im a.2 0) else (a.1 ++ [thN 1 a.2], a.1.length)
theorem cntK_all {v : List Bool} {ks : List Nat} : ks.length ≤ cntK v ks ↔ ∀ k ∈ ks, v.getD k false = true := by
  unfold cntK
  have h1 := List.length_filter_le (fun k => v.getD k false) ks
  constructor
  · intro h
    have h2 : (ks.filter fun k => v.getD k false).length = ks.length := by omega
    exact List.length_filter_eq_length_iff.1 h2
  · intro h
    rw [List.length_filter_eq_length_iff.2 h]
    exact Nat.le_refl _
theorem cntK_one {v : List Bool} {ks : List Nat} : 1 ≤ cntK v ks ↔ ∃ k ∈ ks, v.getD k false = true := by
  unfold cntK
  rw [← Nat.lt_iff_add_one_le, List.length_pos_iff_exists_mem]
  constructor
  · rintro ⟨k, hk⟩; exact ⟨k, (List.mem_filter.1 hk).1, (List.mem_filter.1 hk).2⟩
  · rintro ⟨k, h1, h2⟩; exact ⟨k, List.mem_filter.2 ⟨h1, h2⟩⟩
/-- what holds while the expression is made -/
structure OfI (M : List Nat) (s : S) (a : List ND × List Nat) (done : List S) : Prop where
  leaf : ∀ i, i < M.length → i < a.1.length ∧ (holdsL a.1 s).getD i false = s.getLsbD (M.getD i 0)
  len : a.2.length = done.length
  top : ∀ k, k < done.length → a.2.getD k 0 < a.1.length ∧ (holdsL a.1 s).getD (a.2.getD k 0) false = sub (done.getD k 0#16) s
theorem mem_pl {M : List Nat} {m : Nat} (h : m ∈ M) : plM M m < M.length ∧ M.getD (plM M m) 0 = m := by
  unfold plM
  have h1 := List.idxOf_lt_length_of_mem h
  refine ⟨h1, ?_⟩
  rw [List.getD, List.getElem?_eq_getElem h1]
  simp
theorem ofI_start (M : List Nat) (s : S) : OfI M s (M.map lfN, []) [] := by
  refine ⟨fun i hi => ?_, rfl, fun k hk => absurd hk (by simp)⟩
  have h : ∀ (N : List Nat), holdsL (N.map lfN) s = N.map fun m => s.getLsbD m := fun N => by
    have h2 : ∀ (N : List Nat) (v : List Bool), hlB s (N.map lfN) v = v ++ N.map fun m => s.getLsbD m := fun N => by
      induction N with
      | nil => intro v; simp [hlB]
      | cons a r ih =>
        intro v
        show hlB s (r.map lfN) (v ++ [nvB s v (lfN a)]) = _
        rw [ih]
        have h3 : nvB s v (lfN a) = s.getLsbD a := by unfold nvB lfN; simp
        rw [h3]
        simp
    exact h2 N []
  refine ⟨by rw [List.length_map]; exact hi, ?_⟩
  rw [h]
  simp [List.getD, hi]
theorem ofI_step {M : List Nat} {s : S} {a : List ND × List Nat} {done : List S} (h : OfI M s a done) {x : S} (hm : ∀ m ∈ members x, m ∈ M) (hx : ∀ i, x.getLsbD i = true ↔ i ∈ members x) : OfI M s (ofStep M a x) (done ++ [x]) := by
  have hk : ∀ k ∈ kidsM M x, k < M.length := fun k hk => by
    obtain ⟨m, hm2, rfl⟩ := List.mem_map.1 hk
    exact (mem_pl (hm m hm2)).1
  have hval : (∀ k ∈ kidsM M x, (holdsL a.1 s).getD k false = true) ↔ sub x s = true := by
    rw [sub_iff]
    constructor
    · intro h1 i hi hb
      have h2 := (hx i).1 hb
      have h3 := h1 (plM M i) (List.mem_map.2 ⟨i, h2, rfl⟩)
      rw [(h.leaf _ (mem_pl (hm i h2)).1).2, (mem_pl (hm i h2)).2] at h3
      exact h3
    · intro h1 k hk2
      obtain ⟨m, hm2, rfl⟩ := List.mem_map.1 hk2
      rw [(h.leaf _ (mem_pl (hm m hm2)).1).2, (mem_pl (hm m hm2)).2]
      exact h1 m (bit_lt ((hx m).2 hm2)) ((hx m).2 hm2)
  unfold ofStep
  split
  · rename_i h1
    refine ⟨h.leaf, by simp [h.len], fun k hk2 => ?_⟩
    rw [List.length_append, List.length_singleton] at hk2
    by_cases hkd : k < done.length
    · rw [getD_left 0 (by rw [h.len]; exact hkd), getD_left 0#16 hkd]
      exact h.top k hkd
    · have e : k = done.length := by omega
      subst e
      rw [getD_new]
      have e2 : (a.2 ++ [im (kidsM M x) 0]).getD done.length 0 = im (kidsM M x) 0 := by rw [← h.len]; exact getD_new ..
      rw [e2]
      obtain ⟨q, hq⟩ : ∃ q, kidsM M x = [q] := List.length_eq_one_iff.1 h1
      rw [hq] at hk hval
      rw [hq]
      have hqm : q < M.length := hk q (List.mem_singleton.2 rfl)
      refine ⟨(h.leaf q hqm).1, ?_⟩
      show (holdsL a.1 s).getD q false = _
      rw [Bool.eq_iff_iff, ← hval]
      simp
  · refine ⟨fun i hi => ?_, by simp [h.len], fun k hk2 => ?_⟩
    · dsimp only
      rw [holdsL_snoc, getD_left false (by rw [holdsL_len]; exact (h.leaf i hi).1), List.length_append]
      exact ⟨by have := (h.leaf i hi).1; omega, (h.leaf i hi).2⟩
    · dsimp only
      rw [List.length_append, List.length_singleton] at hk2
      rw [holdsL_snoc, List.length_append]
      by_cases hkd : k < done.length
      · have ht := h.top k hkd
        rw [getD_left 0 (by rw [h.len]; exact hkd), getD_left 0#16 hkd, getD_left false (by rw [holdsL_len]; exact ht.1)]
        exact ⟨by omega, ht.2⟩
      · have e : k = done.length := by omega
        subst e
        have e2 : (a.2 ++ [a.1.length]).getD done.length 0 = a.1.length := by rw [← h.len]; exact getD_new ..
        rw [e2, getD_new]
        refine ⟨by simp, ?_⟩
        rw [show a.1.length = (holdsL a.1 s).length from (holdsL_len _ _).symm, getD_new]
        rw [Bool.eq_iff_iff, ← hval, ← cntK_all]
        unfold nvB thN
        simp
theorem ofI_fold {M : List Nat} {s : S} : ∀ (f : List S) {a : List ND × List Nat} {done : List S}, OfI M s a done → (∀ x ∈ f, (∀ m ∈ members x, m ∈ M) ∧ ∀ i, x.getLsbD i = true ↔ i ∈ members x) → OfI M s (ofFold M a f) (done ++ f)
  | [], a, done, h, _ => by rw [List.append_nil]; exact h
  | x :: r, a, done, h, hf => by
    have h1 := ofI_step h (hf x (List.mem_cons_self ..)).1 (hf x (List.mem_cons_self ..)).2
    have h2 := ofI_fold r h1 fun y hy => hf y (List.mem_cons_of_mem _ hy)
    rw [List.append_assoc] at h2
    exact h2
theorem hlB_append (s : S) : ∀ (ns ms : List ND) (v : List Bool), ∃ t, hlB s (ns ++ ms) v = hlB s ns v ++ t
  | [], ms, v => by
    have h : ∀ (ms : List ND) (v : List Bool), ∃ t, hlB s ms v = v ++ t := fun ms => by
      induction ms with
      | nil => intro v; exact ⟨[], (List.append_nil _).symm⟩
      | cons a r ih =>
        intro v
        obtain ⟨t, ht⟩ := ih (v ++ [nvB s v a])
        exact ⟨[nvB s v a] ++ t, by show hlB s r _ = _; rw [ht, List.append_assoc]⟩
    exact h ms v
  | _ :: r, ms, _ => hlB_append s r ms _
def holdsV (x : List ND × Nat) (s : S) : Bool := (holdsL (x.1.take (x.2 + 1)) s).getD x.2 false
theorem holdsV_eq {x : List ND × Nat} (h : x.2 < x.1.length) (s : S) : holdsV x s = (holdsL x.1 s).getD x.2 false := by
  unfold holdsV
  obtain ⟨t, ht⟩ := hlB_append s (x.1.take (x.2 + 1)) (x.1.drop (x.2 + 1)) []
  rw [List.take_append_drop] at ht
  have h1 : holdsL x.1 s = holdsL (x.1.take (x.2 + 1)) s ++ t := ht
  rw [h1, getD_left false (by rw [holdsL_len, List.length_take]; omega)]
theorem members_bit {x : S} (h : small x) (i : Nat) : x.getLsbD i = true ↔ i ∈ members x := by
  unfold members
  rw [List.mem_filter, List.mem_range]
  constructor
  · intro hb
    refine ⟨?_, hb⟩
    have h1 : x.toNat < 4096 := h
    apply Classical.byContradiction
    intro hi
    have h2 : x.toNat.testBit i = true := hb
    rw [Nat.testBit_lt_two_pow (Nat.lt_of_lt_of_le h1 (show 2 ^ 12 ≤ 2 ^ i from Nat.pow_le_pow_right (by decide) (by omega)))] at h2
    cases h2
  · exact fun h => h.2
/-- an expression of a family is satisfied by what the family accepts -/
theorem ofX_facts {f : List S} (hs : ∀ x ∈ f, small x) (hu : small (supS f)) (hm : ∀ x ∈ f, sub x (supS f) = true) (s : S) : (ofX f).2 < (ofX f).1.length ∧ holdsV (ofX f) s = f.any fun x => sub x s := by
  have hI := ofI_fold (M := members (supS f)) (s := s) f (ofI_start _ s) fun x hx => ⟨fun m hm2 => (members_bit hu m).1 ((sub_iff _ _).1 (hm x hx) m (bit_lt ((members_bit (hs x hx) m).2 hm2)) ((members_bit (hs x hx) m).2 hm2)), members_bit (hs x hx)⟩
  rw [List.nil_append] at hI
  have hr : ofFold (members (supS f)) ((members (supS f)).map lfN, []) f = ofRaw f := rfl
  rw [hr] at hI
  unfold ofX
  generalize ofRaw f = a at *
  obtain ⟨ns, tops⟩ := a
  obtain ⟨_, hl, ht⟩ := hI
  dsimp only at hl ht ⊢
  split
  · rename_i h1
    obtain ⟨x, hx⟩ : ∃ x, f = [x] := List.length_eq_one_iff.1 (by omega)
    subst hx
    obtain ⟨h2, h3⟩ := ht 0 (by simp)
    have h4 : (ns, im tops 0).2 < (ns, im tops 0).1.length := h2
    refine ⟨h4, ?_⟩
    rw [holdsV_eq h4]
    show (holdsL ns s).getD (tops.getD 0 0) false = _
    rw [h3]
    simp
  · have h4 : (ns ++ [thN 1 tops], ns.length).2 < (ns ++ [thN 1 tops], ns.length).1.length := by simp
    refine ⟨h4, ?_⟩
    rw [holdsV_eq h4]
    dsimp only
    rw [holdsL_snoc, show ns.length = (holdsL ns s).length from (holdsL_len _ _).symm, getD_new]
    have h5 : nvB s (holdsL ns s) (thN 1 tops) = decide (1 ≤ cntK (holdsL ns s) tops) := by
      unfold nvB thN
      simp
      omega
    rw [h5, Bool.eq_iff_iff, decide_eq_true_eq, cntK_one, List.any_eq_true]
    constructor
    · rintro ⟨k, hk, hv⟩
      obtain ⟨j, hj, rfl⟩ := List.mem_iff_getElem.1 hk
      have h6 := (ht j (by omega)).2
      rw [show tops.getD j 0 = tops[j] by simp [List.getD, hj]] at h6
      refine ⟨f.getD j 0#16, getD_mem9 (by omega), ?_⟩
      rw [← h6]; exact hv
    · rintro ⟨x, hx, hv⟩
      obtain ⟨j, hj, rfl⟩ := List.mem_iff_getElem.1 hx
      have h6 := (ht j hj).2
      rw [show f.getD j 0#16 = f[j] by simp [List.getD, hj], hv] at h6
      exact ⟨tops.getD j 0, by rw [List.getD, List.getElem?_eq_getElem (by omega)]; exact List.getElem_mem _, h6⟩
end Go.Proofs.YtijknodekomdfaaGreatDoor
namespace Go.Proofs.YtijknodekomdfaaGreatDoor
open Go.RowKit Go.Lib Go.Shelf

/-- a node of a decision tree -/
structure CH where
  sr : Int
  x : Nat
  y : Nat
def ful : S := 4095#16
/-- what the prover makes: the nodes, the root, whether there is a tree -/
def prv (X Y : S → Bool) : Nat → List CH → S → S → S → List CH × Nat × Bool
  | k, ns, a, b, l =>
    if X (ful &&& ~~~b) = false then (ns ++ [⟨-1, 0, 0⟩], ns.length, true)
    else if Y (ful &&& ~~~a) = false then (ns ++ [⟨-2, 0, 0⟩], ns.length, true)
    else if l = 0#16 then (ns, 0, false)
    else match k with
      | 0 => (ns, 0, false)
      | k + 1 =>
        let r := prv X Y k ns (a ||| 1#16 <<< tzS l) b (l &&& ~~~(1#16 <<< tzS l))
        if r.2.2 = false then (r.1, 0, false)
        else
          let q := prv X Y k r.1 a (b ||| 1#16 <<< tzS l) (l &&& ~~~(1#16 <<< tzS l))
          if q.2.2 = false then (q.1, 0, false)
          else (q.1 ++ [⟨(tzS l : Int), r.2.1, q.2.1⟩], q.1.length, true)
/-- two sides that are left satisfied -/
def Viol (X Y : S → Bool) (a b l : S) : Prop := ∃ A B, A &&& B = 0#16 ∧ A ||| B = l ∧ X (ful &&& ~~~(b ||| B)) = true ∧ Y (ful &&& ~~~(a ||| A)) = true
def Mono9 (X : S → Bool) : Prop := ∀ p q, sub p q = true → X p = true → X q = true
theorem sub_compl (b B : S) : sub (ful &&& ~~~(b ||| B)) (ful &&& ~~~b) = true := by
  rw [sub_iff]
  intro i hi h
  simp only [BitVec.getLsbD_and, BitVec.getLsbD_not, BitVec.getLsbD_or, hi, decide_true, Bool.true_and, Bool.and_eq_true, Bool.not_eq_true', Bool.or_eq_false_iff] at h ⊢
  exact ⟨h.1, h.2.1⟩
theorem viol_x {X Y : S → Bool} (mx : Mono9 X) {a b l : S} (h : X (ful &&& ~~~b) = false) : ¬ Viol X Y a b l := by
  rintro ⟨A, B, _, _, h1, _⟩
  rw [mx _ _ (sub_compl b B) h1] at h
  cases h
theorem viol_y {X Y : S → Bool} (my : Mono9 Y) {a b l : S} (h : Y (ful &&& ~~~a) = false) : ¬ Viol X Y a b l := by
  rintro ⟨A, B, _, _, _, h1⟩
  rw [my _ _ (sub_compl a A) h1] at h
  cases h
theorem bit_eq9 {x y : S} (h : ∀ i, i < 16 → x.getLsbD i = y.getLsbD i) : x = y := BitVec.eq_of_getLsbD_eq h
theorem one_get {i : Nat} (j : Nat) (hi : i < 16) : (1#16 <<< i).getLsbD j = decide (j = i) := by
  cases h : (1#16 <<< i).getLsbD j with
  | true => rw [bit_one h]; simp
  | false =>
    rw [eq_comm, decide_eq_false_iff_not]
    intro e
    subst e
    rw [one_bit9 hi] at h
    cases h
theorem viol_step {X Y : S → Bool} {a b l : S} {i : Nat} (hi : i < 16) (hl : l.getLsbD i = true) : Viol X Y a b l ↔ Viol X Y (a ||| 1#16 <<< i) b (l &&& ~~~(1#16 <<< i)) ∨ Viol X Y a (b ||| 1#16 <<< i) (l &&& ~~~(1#16 <<< i)) := by
  have key : ∀ (c C : S), C.getLsbD i = true → (c ||| 1#16 <<< i) ||| (C &&& ~~~(1#16 <<< i)) = c ||| C := fun c C hC => bit_eq9 fun j hj => by
    simp only [BitVec.getLsbD_or, BitVec.getLsbD_and, BitVec.getLsbD_not, one_get j hi, hj, decide_true, Bool.true_and]
    by_cases e : j = i
    · subst e; simp [hC]
    · simp [e]
  have key2 : ∀ (c C : S), (c ||| 1#16 <<< i) ||| C = c ||| (C ||| 1#16 <<< i) := fun c C => bit_eq9 fun j _ => by
    simp only [BitVec.getLsbD_or]
    cases c.getLsbD j <;> cases C.getLsbD j <;> cases (1#16 <<< i).getLsbD j <;> rfl
  have and_bit : ∀ {A B : S}, A &&& B = 0#16 → ∀ j, ¬ (A.getLsbD j = true ∧ B.getLsbD j = true) := fun h j hj => by
    have h1 := congrArg (fun z : S => z.getLsbD j) h
    simp [hj.1, hj.2] at h1
  constructor
  · rintro ⟨A, B, h1, h2, h3, h4⟩
    have hAB : A.getLsbD i = true ∨ B.getLsbD i = true := by
      rw [← h2, BitVec.getLsbD_or, Bool.or_eq_true] at hl; exact hl
    have hd := and_bit h1
    rcases hAB with hA | hB
    · refine .inl ⟨A &&& ~~~(1#16 <<< i), B, ?_, ?_, h3, by rw [key a A hA]; exact h4⟩
      · refine bit_eq9 fun j hj => ?_
        have := hd j
        simp only [BitVec.getLsbD_and, BitVec.getLsbD_not, BitVec.getLsbD_zero]
        cases hA2 : A.getLsbD j <;> cases hB2 : B.getLsbD j <;> simp_all
      · refine bit_eq9 fun j hj => ?_
        rw [← h2]
        simp only [BitVec.getLsbD_or, BitVec.getLsbD_and, BitVec.getLsbD_not, one_get j hi, hj, decide_true, Bool.true_and]
        by_cases e : j = i
        · subst e
          have := hd j
          simp_all
        · simp [e]
    · refine .inr ⟨A, B &&& ~~~(1#16 <<< i), ?_, ?_, by rw [key b B hB]; exact h3, h4⟩
      · refine bit_eq9 fun j hj => ?_
        have := hd j
        simp only [BitVec.getLsbD_and, BitVec.getLsbD_not, BitVec.getLsbD_zero]
        cases hA2 : A.getLsbD j <;> cases hB2 : B.getLsbD j <;> simp_all
      · refine bit_eq9 fun j hj => ?_
        rw [← h2]
        simp only [BitVec.getLsbD_or, BitVec.getLsbD_and, BitVec.getLsbD_not, one_get j hi, hj, decide_true, Bool.true_and]
        by_cases e : j = i
        · subst e
          have := hd j
          simp_all
        · simp [e]
  · have comb : ∀ {A B : S}, A &&& B = 0#16 → A ||| B = l &&& ~~~(1#16 <<< i) → A.getLsbD i = false ∧ B.getLsbD i = false := fun {A B} h1 h2 => by
      have h3 := congrArg (fun z : S => z.getLsbD i) h2
      simp only [BitVec.getLsbD_or, BitVec.getLsbD_and, BitVec.getLsbD_not, one_get i hi, hi, decide_true, Bool.not_true, Bool.and_false, Bool.or_eq_false_iff] at h3
      exact h3
    rintro (⟨A, B, h1, h2, h3, h4⟩ | ⟨A, B, h1, h2, h3, h4⟩)
    · obtain ⟨_, cB⟩ := comb h1 h2
      refine ⟨A ||| 1#16 <<< i, B, ?_, ?_, h3, by rw [← key2]; exact h4⟩
      · refine bit_eq9 fun j hj => ?_
        have := and_bit h1 j
        simp only [BitVec.getLsbD_and, BitVec.getLsbD_or, BitVec.getLsbD_zero, one_get j hi]
        by_cases e : j = i
        · subst e; simp [cB]
        · cases hA2 : A.getLsbD j <;> cases hB2 : B.getLsbD j <;> simp_all
      · refine bit_eq9 fun j hj => ?_
        have h5 := congrArg (fun z : S => z.getLsbD j) h2
        simp only [BitVec.getLsbD_or, BitVec.getLsbD_and, BitVec.getLsbD_not, one_get j hi, hj, decide_true, Bool.true_and] at h5 ⊢
        by_cases e : j = i
        · subst e; simp [hl]
        · simp [e] at h5 ⊢; exact h5
    · obtain ⟨cA, _⟩ := comb h1 h2
      refine ⟨A, B ||| 1#16 <<< i, ?_, ?_, by rw [← key2]; exact h3, h4⟩
      · refine bit_eq9 fun j hj => ?_
        have := and_bit h1 j
        simp only [BitVec.getLsbD_and, BitVec.getLsbD_or, BitVec.getLsbD_zero, one_get j hi]
        by_cases e : j = i
        · subst e; simp [cA]
        · cases hA2 : A.getLsbD j <;> cases hB2 : B.getLsbD j <;> simp_all
      · refine bit_eq9 fun j hj => ?_
        have h5 := congrArg (fun z : S => z.getLsbD j) h2
        simp only [BitVec.getLsbD_or, BitVec.getLsbD_and, BitVec.getLsbD_not, one_get j hi, hj, decide_true, Bool.true_and] at h5 ⊢
        by_cases e : j = i
        · subst e; simp [hl]
        · simp [e] at h5 ⊢; exact h5
theorem members_less {l : S} {i : Nat} (hi : i < 12) (hl : l.getLsbD i = true) : (members (l &&& ~~~(1#16 <<< i))).length < (members l).length := by
  have h1 : members (l &&& ~~~(1#16 <<< i)) = (members l).filter fun j => decide (j ≠ i) := by
    unfold members
    rw [List.filter_filter]
    refine List.filter_congr fun j hj => ?_
    have hj2 := List.mem_range.1 hj
    show (l &&& ~~~(1#16 <<< i)).getLsbD j = (decide (j ≠ i) && l.getLsbD j)
    rw [BitVec.getLsbD_and, BitVec.getLsbD_not, one_get j (by omega), decide_eq_true (show j < 16 by omega), Bool.true_and]
    by_cases e : j = i <;> simp [e]
  rw [h1, List.length_filter_lt_length_iff_exists]
  exact ⟨i, by unfold members; rw [List.mem_filter, List.mem_range]; exact ⟨hi, hl⟩, by simp⟩
theorem small_and9 {l x : S} (h : small l) : small (l &&& x) := by
  unfold small at h ⊢
  rw [BitVec.toNat_and]
  exact Nat.lt_of_le_of_lt Nat.and_le_left h
theorem prv_ok {X Y : S → Bool} (mx : Mono9 X) (my : Mono9 Y) : ∀ (k : Nat) (ns : List CH) (a b l : S), small l → (members l).length ≤ k → ((prv X Y k ns a b l).2.2 = false ↔ Viol X Y a b l) := by
  intro k
  induction k with
  | zero =>
    intro ns a b l hs hk
    unfold prv
    by_cases hx : X (ful &&& ~~~b) = false
    · rw [if_pos hx]
      exact ⟨fun h => (by cases h), fun h => absurd h (viol_x mx hx)⟩
    rw [if_neg hx]
    by_cases hy : Y (ful &&& ~~~a) = false
    · rw [if_pos hy]
      exact ⟨fun h => (by cases h), fun h => absurd h (viol_y my hy)⟩
    rw [if_neg hy]
    have hl : l = 0#16 := by
      apply Classical.byContradiction
      intro h0
      have := (members_step hs h0).1
      rw [this] at hk
      simp at hk
    rw [if_pos hl]
    refine ⟨fun _ => ⟨0#16, 0#16, by simp, by rw [hl]; simp, by simpa using hx, by simpa using hy⟩, fun _ => rfl⟩
  | succ k ih =>
    intro ns a b l hs hk
    unfold prv
    by_cases hx : X (ful &&& ~~~b) = false
    · rw [if_pos hx]
      exact ⟨fun h => (by cases h), fun h => absurd h (viol_x mx hx)⟩
    rw [if_neg hx]
    by_cases hy : Y (ful &&& ~~~a) = false
    · rw [if_pos hy]
      exact ⟨fun h => (by cases h), fun h => absurd h (viol_y my hy)⟩
    rw [if_neg hy]
    by_cases hl : l = 0#16
    · rw [if_pos hl]
      exact ⟨fun _ => ⟨0#16, 0#16, by simp, by rw [hl]; simp, by simpa using hx, by simpa using hy⟩, fun _ => rfl⟩
    rw [if_neg hl]
    have ht := tz_bit hs hl
    have hles := members_less ht.1 ht.2
    rw [viol_step (by omega) ht.2]
    have i1 := fun ns => ih ns (a ||| 1#16 <<< tzS l) b (l &&& ~~~(1#16 <<< tzS l)) (small_and9 hs) (by omega)
    have i2 := fun ns => ih ns a (b ||| 1#16 <<< tzS l) (l &&& ~~~(1#16 <<< tzS l)) (small_and9 hs) (by omega)
    dsimp only
    by_cases r1 : (prv X Y k ns (a ||| 1#16 <<< tzS l) b (l &&& ~~~(1#16 <<< tzS l))).2.2 = false
    · rw [if_pos r1]
      exact ⟨fun _ => .inl ((i1 ns).1 r1), fun _ => rfl⟩
    rw [if_neg r1]
    by_cases r2 : (prv X Y k (prv X Y k ns (a ||| 1#16 <<< tzS l) b (l &&& ~~~(1#16 <<< tzS l))).1 a (b ||| 1#16 <<< tzS l) (l &&& ~~~(1#16 <<< tzS l))).2.2 = false
    · rw [if_pos r2]
      exact ⟨fun _ => .inr ((i2 _).1 r2), fun _ => rfl⟩
    rw [if_neg r2]
    refine ⟨fun h => (by cases h), fun h => ?_⟩
    rcases h with h | h
    · exact absurd ((i1 ns).2 h) r1
    · exact absurd ((i2 _).2 h) r2
def famB (f g : List S) (bad : S) : Bool := f.all fun x => g.all fun y => !(x &&& y &&& ~~~bad == 0#16)
def satF (f : List S) (s : S) : Bool := f.any fun x => sub x s
theorem satF_mono (f : List S) : Mono9 (satF f) := fun p q h hp => by
  unfold satF at hp ⊢
  rw [List.any_eq_true] at hp ⊢
  obtain ⟨x, hx, hs⟩ := hp
  exact ⟨x, hx, sub_trans hs h⟩
theorem ful_bit : ∀ i : Fin 16, ful.getLsbD i.val = decide (i.val < 12) := by decide
theorem small_bit_lt {x : S} (h : small x) {i : Nat} (hb : x.getLsbD i = true) : i < 12 := by
  have h1 := (members_bit h i).1 hb
  unfold members at h1
  rw [List.mem_filter, List.mem_range] at h1
  exact h1.1
theorem fam_viol {f g : List S} {L bad : S} (hf : ∀ x ∈ f, small x) (hg : ∀ x ∈ g, small x) (hL : ∀ j, j < 16 → bad.getLsbD j = false → ((∃ x ∈ f, x.getLsbD j = true) ∨ ∃ y ∈ g, y.getLsbD j = true) → L.getLsbD j = true) (hb : ∀ j, L.getLsbD j = true → bad.getLsbD j = false) :
    famB f g bad = false ↔ Viol (satF f) (satF g) 0#16 0#16 L := by
  have hcl : ∀ (x B : S), small x → (∀ j, x.getLsbD j = true → B.getLsbD j = false) → sub x (ful &&& ~~~(0#16 ||| B)) = true := fun x B hx h => by
    rw [sub_iff]
    intro j hj hxj
    rw [BitVec.getLsbD_and, BitVec.getLsbD_not, BitVec.getLsbD_or, ful_bit ⟨j, hj⟩, h j hxj]
    simp [hj, small_bit_lt hx hxj]
  have hcl2 : ∀ (x B : S), sub x (ful &&& ~~~(0#16 ||| B)) = true → ∀ j, x.getLsbD j = true → B.getLsbD j = false := fun x B h j hxj => by
    have h1 := (sub_iff _ _).1 h j (bit_lt hxj) hxj
    rw [BitVec.getLsbD_and, BitVec.getLsbD_not, BitVec.getLsbD_or] at h1
    simp at h1
    exact h1.2.2
  constructor
  · intro h
    unfold famB at h
    obtain ⟨x, hx, h1⟩ := List.all_eq_false.1 h
    obtain ⟨y, hy, hxy⟩ : ∃ y, y ∈ g ∧ x &&& y &&& ~~~bad = 0#16 := by simpa using h1
    refine ⟨L &&& x, L &&& ~~~x, bit_eq9 fun j hj => ?_, bit_eq9 fun j hj => ?_, ?_, ?_⟩
    · simp only [BitVec.getLsbD_and, BitVec.getLsbD_not, BitVec.getLsbD_zero, hj, decide_true, Bool.true_and]
      cases L.getLsbD j <;> cases x.getLsbD j <;> rfl
    · simp only [BitVec.getLsbD_and, BitVec.getLsbD_or, BitVec.getLsbD_not, hj, decide_true, Bool.true_and]
      cases L.getLsbD j <;> cases x.getLsbD j <;> rfl
    · unfold satF
      rw [List.any_eq_true]
      refine ⟨x, hx, hcl x _ (hf x hx) fun j hxj => ?_⟩
      rw [BitVec.getLsbD_and, BitVec.getLsbD_not, hxj]
      simp
    · unfold satF
      rw [List.any_eq_true]
      refine ⟨y, hy, hcl y _ (hg y hy) fun j hyj => ?_⟩
      rw [BitVec.getLsbD_and]
      cases hLj : L.getLsbD j with
      | false => rfl
      | true =>
        cases hxj : x.getLsbD j with
        | false => rfl
        | true =>
          have h3 : (x &&& y &&& ~~~bad).getLsbD j = false := by rw [hxy]; simp
          rw [BitVec.getLsbD_and, BitVec.getLsbD_and, hxj, hyj, BitVec.getLsbD_not, hb j hLj, decide_eq_true (bit_lt hyj)] at h3
          cases h3
  · rintro ⟨A, B, h1, h2, h3, h4⟩
    unfold satF at h3 h4
    obtain ⟨x, hx, hxs⟩ := List.any_eq_true.1 h3
    obtain ⟨y, hy, hys⟩ := List.any_eq_true.1 h4
    have hxB := hcl2 x B hxs
    have hyA := hcl2 y A hys
    unfold famB
    refine List.all_eq_false.2 ⟨x, hx, ?_⟩
    rw [Bool.not_eq_true]
    refine List.all_eq_false.2 ⟨y, hy, ?_⟩
    have hz : x &&& y &&& ~~~bad = 0#16 := bit_eq9 fun j hj => by
      simp only [BitVec.getLsbD_and, BitVec.getLsbD_not, BitVec.getLsbD_zero, hj, decide_true, Bool.true_and]
      cases hxj : x.getLsbD j with
      | false => rfl
      | true =>
        cases hyj : y.getLsbD j with
        | false => rfl
        | true =>
          cases hbj : bad.getLsbD j with
          | true => rfl
          | false =>
            have h5 := hL j hj hbj (.inl ⟨x, hx, hxj⟩)
            rw [← h2, BitVec.getLsbD_or, hxB j hxj, hyA j hyj] at h5
            cases h5
    simp [hz]
end Go.Proofs.YtijknodekomdfaaGreatDoor
