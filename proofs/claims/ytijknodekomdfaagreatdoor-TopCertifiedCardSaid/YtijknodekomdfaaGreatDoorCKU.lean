/- Texts joined into one, what is needed of them (a program of ours). -/
import Derived.Test.YtijknodekomdfaaGreatDoorCKT
import Derived.Test.YtijknodekomdfaaGreatDoorCKO
import Derived.Test.YtijknodekomdfaaGreatDoorCKE
import Derived.Test.YtijknodekomdfaaGreatDoorCKQ
namespace Go.Proofs.YtijknodekomdfaaGreatDoor
open Go.RowKit Go.Lib Go.Shelf

theorem flatMap_le {α β : Type} (l : List α) (f : α → List β) (K : Nat) (h : ∀ x ∈ l, (f x).length ≤ K) : (l.flatMap f).length ≤ l.length * K := by
  induction l with
  | nil => simp
  | cons x xs ih =>
    rw [List.flatMap_cons, List.length_append, List.length_cons, Nat.add_mul, Nat.one_mul]
    have h1 := h x (List.mem_cons_self ..)
    have h2 := ih (fun y hy => h y (List.mem_cons_of_mem _ hy))
    omega
theorem chTo32 {s : S} (hs : s.toNat < 32) (k : Nat) : ∀ n, 32 + n ≤ 65536 → chTo s k (32 + n) = chTo s k 32
  | 0, _ => rfl
  | n + 1, h => by
    have hx : (BitVec.ofNat 16 (32 + n) &&& ~~~s == 0#16) = false := by
      rw [Bool.eq_false_iff]
      intro e
      have := sub_le (show sub (BitVec.ofNat 16 (32 + n)) s = true from e)
      rw [BitVec.toNat_ofNat, Nat.mod_eq_of_lt (by omega)] at this
      omega
    rw [show 32 + (n + 1) = (32 + n) + 1 from rfl, chTo, hx, chTo32 hs k n (by omega)]
    simp
theorem chooseA_len {s : S} (hs : s.toNat < 32) (k : Nat) : (chooseA s k).length ≤ 32 := by
  rw [← chooseA_eq s k (32 + 65504) rfl, chTo32 hs k 65504 (by omega)]
  exact chTo_len s k 32
theorem full32 : ∀ n : Fin 6, (fullS n.val).toNat < 32 := by decide
theorem refLeast_len (l : List S) : (refLeast l).length ≤ l.length := by
  rw [refLeast_filter]
  refine Nat.le_trans (List.length_filter_le _ _) ?_
  exact Nat.le_trans (compactL_le _) (by show (msort l).length ≤ _; unfold msort; rw [List.length_mergeSort]; exact Nat.le_refl _)
theorem setsR_len (md : Int) (l : List S) (n : Nat) (h5 : n ≤ 5) : (setsR md l n).length ≤ 32 := by
  unfold setsR
  split
  · exact chooseA_len (full32 ⟨n, by omega⟩) _
  · refine Nat.le_trans (refLeast_len _) ?_
    have h1 := cutN_le (fullS n) (l.take 6)
    have h2 := List.length_take_le 6 l
    unfold orAll
    split
    · simp
    · omega
theorem nOf_le (N : Int) : nOf N ≤ 5 := by unfold nOf; omega
theorem val1_ne : ∀ (l : List S) (p : Option S), val1 p l ≠ 13
  | [], p => by simp [val1]
  | s :: rest, p => by
    have := val1_ne rest (some s)
    unfold val1
    repeat' split
    all_goals first | exact this | decide
theorem val2_ne (l pre : List S) : val2 pre l ≠ 13 := by rcases val2_01 l pre with h | h <;> rw [h] <;> decide
theorem valid_ne (l : List S) : validS l ≠ 13 := by
  unfold validS
  split
  · decide
  · split
    · exact val2_ne _ _
    · exact val1_ne _ _
theorem cf_ne (l : List S) (M : S) : cfS l M ≠ 13 := by
  unfold cfS
  repeat' split
  all_goals first | exact valid_ne l | decide
theorem chk_ne (a : F2) : chkF a ≠ 13 := by
  unfold chkF
  repeat' split
  all_goals decide
theorem fvI_ne (m : List F2) : ∀ c i, fvI m c i ≠ 13
  | 0, _ => by simp [fvI]
  | c + 1, i => by
    have := fvI_ne m c (i + 1)
    rw [fvI]
    repeat' split
    all_goals first | exact chk_ne _ | exact this | decide
theorem fv_ne (m : List F2) : fvS m ≠ 13 := by
  unfold fvS
  repeat' split
  all_goals first | exact fvI_ne _ _ _ | decide
theorem cv_ne (kd : Int) (M : S) (R Q : List S) (F : List F2) : cvS kd M R Q F ≠ 13 := by
  unfold cvS
  repeat' split
  all_goals first | exact cf_ne _ _ | exact fv_ne _ | decide
theorem mem_rowA {byz : List S} {r q : S} {x : CL} : x ∈ rowA byz r q ↔ ∃ b ∈ byz, x = (1, r, q, b) := by
  unfold rowA; rw [List.mem_map]; exact ⟨fun ⟨b, h, e⟩ => ⟨b, h, e.symm⟩, fun ⟨b, h, e⟩ => ⟨b, h, e.symm⟩⟩
theorem mem_rowC {byz : List S} {r q : S} {x : CL} : x ∈ rowC byz r q ↔ ∃ b ∈ byz, b ≠ 0#16 ∧ x = (2, r, q, b) := by
  unfold rowC; rw [List.mem_map]
  constructor
  · rintro ⟨b, h, rfl⟩
    obtain ⟨h1, h2⟩ := List.mem_filter.1 h
    exact ⟨b, h1, by simpa using h2, rfl⟩
  · rintro ⟨b, h1, h2, rfl⟩
    exact ⟨b, List.mem_filter.2 ⟨h1, by simpa using h2⟩, rfl⟩
theorem rows2_mem {byz : List S} : ∀ {Q : List S} {p q b : S}, p ∈ Q → q ∈ Q → b ∈ byz → b ≠ 0#16 → (2, p, q, b) ∈ rows2 byz Q ∨ (2, q, p, b) ∈ rows2 byz Q
  | [], p, q, b, h, _, _, _ => by simp at h
  | x :: xs, p, q, b, hp, hq, hb, h0 => by
    rw [rows2]
    rcases List.mem_cons.1 hp with rfl | hp'
    · exact .inl (List.mem_append_left _ (List.mem_flatMap.2 ⟨q, hq, mem_rowC.2 ⟨b, hb, h0, rfl⟩⟩))
    · rcases List.mem_cons.1 hq with rfl | hq'
      · exact .inr (List.mem_append_left _ (List.mem_flatMap.2 ⟨p, hp, mem_rowC.2 ⟨b, hb, h0, rfl⟩⟩))
      · rcases rows2_mem hp' hq' hb h0 with h | h
        · exact .inl (List.mem_append_right _ h)
        · exact .inr (List.mem_append_right _ h)
theorem safe_cv {kd : Int} {wt M : S} {R Q : List S} {F : List F2} (h : safe27 kd wt M R Q F = true) : cvS kd M R Q F = 0 ∧ firstR wt (byz27 kd M F) R Q = none := by
  unfold safe27 clash27 at h
  by_cases hc : cvS kd M R Q F = 0
  · rw [if_neg (by simp [hc])] at h
    cases hf : firstR wt (byz27 kd M F) R Q with
    | none => exact ⟨hc, rfl⟩
    | some x => rw [hf] at h; simp at h
  · rw [if_pos hc] at h
    have := cv_ne kd M R Q F
    simp at h
    exact absurd h this
theorem safe_rules {kd : Int} {wt M : S} {R Q : List S} {F : List F2} (h : safe27 kd wt M R Q F = true) :
    (∀ r ∈ R, ∀ q ∈ Q, ∀ b ∈ byz27 kd M F, p1 r q wt b = false) ∧ (∀ p ∈ Q, ∀ q ∈ Q, ∀ b ∈ byz27 kd M F, p2 p q b = false) := by
  have hf := (safe_cv h).2
  unfold firstR at hf
  rw [List.find?_eq_none] at hf
  constructor
  · intro r hr q hq b hb
    have := hf (1, r, q, b) (List.mem_append_left _ (List.mem_flatMap.2 ⟨r, hr, List.mem_flatMap.2 ⟨q, hq, mem_rowA.2 ⟨b, hb, rfl⟩⟩⟩))
    unfold p1
    simpa [violC, badC] using this
  · intro p hp q hq b hb
    unfold p2
    by_cases h0 : b = 0#16
    · simp [h0]
    · have hp0 : (b != 0#16) = true := by simpa using h0
      rw [hp0, Bool.true_and]
      rcases rows2_mem hp hq hb h0 with g | g
      · have := hf _ (List.mem_append_right _ g)
        simpa [violC, badC] using this
      · have := hf _ (List.mem_append_right _ g)
        rw [BitVec.and_comm p q]
        simpa [violC, badC] using this
end Go.Proofs.YtijknodekomdfaaGreatDoor
namespace Go.Proofs.YtijknodekomdfaaGreatDoor
open Go.RowKit Go.Lib Go.Shelf

theorem g2_swap (byz : List S) (p q : S) (h : g2 byz p q = none) : g2 byz q p = none := by
  unfold g2 at *
  rw [Option.map_eq_none_iff, List.find?_eq_none] at *
  intro b hb
  have := h b hb
  unfold p2 at *
  rw [BitVec.and_comm q p]; exact this
theorem rowC_find (wt : S) (byz : List S) (p q : S) : (rowC byz p q).find? (violC wt) = g2 byz p q := by
  unfold rowC g2
  rw [List.find?_map, List.find?_filter]
  have e : (fun a => decide ((a != 0#16) = true ∧ (violC wt ∘ fun b => ((2, p, q, b) : CL)) a = true)) = p2 p q := by
    funext a
    rw [Bool.eq_iff_iff]
    simp [p2, violC, badC]
  rw [e]
theorem findSome_app {α β : Type} (f : α → Option β) (l m : List α) : (l ++ m).findSome? f = (l.findSome? f).or (m.findSome? f) := by rw [List.findSome?_append]
theorem rows2_find (wt : S) (byz : List S) : ∀ (rest pre : List S), (∀ p ∈ pre, ∀ q ∈ pre ++ rest, g2 byz p q = none) → (rows2 byz rest).find? (violC wt) = rest.findSome? (f2 byz (pre ++ rest))
  | [], _, _ => by simp [rows2]
  | p :: ps, pre, h => by
    have hf : (f2 byz (pre ++ p :: ps)) p = (p :: ps).findSome? (g2 byz p) := by
      unfold f2
      rw [findSome_app]
      have : pre.findSome? (g2 byz p) = none := by
        rw [List.findSome?_eq_none_iff]
        intro q hq
        exact g2_swap byz q p (h q hq p (List.mem_append_right _ (List.mem_cons_self ..)))
      rw [this]; rfl
    rw [rows2, List.find?_append, List.find?_flatMap]
    have e1 : (fun q => (rowC byz p q).find? (violC wt)) = g2 byz p := by funext q; exact rowC_find wt byz p q
    rw [e1]
    conv => rhs; rw [List.findSome?_cons, hf]
    cases hg : (p :: ps).findSome? (g2 byz p) with
    | some x => rfl
    | none =>
      simp only [Option.none_or]
      have hpre : ∀ x ∈ pre ++ [p], ∀ q ∈ (pre ++ [p]) ++ ps, g2 byz x q = none := by
        intro x hx q hq
        rw [List.append_assoc] at hq
        rcases List.mem_append.1 hx with hx | hx
        · exact h x hx q hq
        · rw [List.mem_singleton] at hx
          subst hx
          rcases List.mem_append.1 hq with hq | hq
          · exact g2_swap byz q x (h q hq x (List.mem_append_right _ (List.mem_cons_self ..)))
          · exact (List.findSome?_eq_none_iff.1 hg) q hq
      have := rows2_find wt byz ps (pre ++ [p]) hpre
      rw [List.append_assoc] at this
      exact this
theorem first_eq (wt : S) (byz R Q : List S) : firstR wt byz R Q = rulesR wt byz R Q := by
  unfold firstR rowsR rulesR
  rw [List.find?_append]
  have h1 : (rows1 byz Q R).find? (violC wt) = R.findSome? (f1 wt byz Q) := by
    unfold rows1
    rw [List.find?_flatMap]
    congr 1
    funext r
    unfold f1
    rw [List.find?_flatMap]
    congr 1
    funext q
    unfold rowA g1
    rw [List.find?_map]
    congr 1
  have h2 : (rows2 byz Q).find? (violC wt) = Q.findSome? (f2 byz Q) := rows2_find wt byz Q [] (fun p hp => by simp at hp)
  rw [h1, h2]
  cases R.findSome? (f1 wt byz Q) <;> rfl
/-- the Byzantine sets of layer 27 are the greatest ones -/
theorem restr_asc (M : S) (F : List F2) : Asc (restrL M F) := by
  have h := (normF_spec (b0L (maskF M F))).1
  have hz : ∀ z ∈ normF (b0L (maskF M F)), z.2 = 0#16 := fun z hz => by
    have := ((normF_mem _ z).1 hz).1
    unfold b0L at this
    obtain ⟨y, _, rfl⟩ := List.mem_map.1 this
    rfl
  unfold restrL byz19 fstL
  show List.Pairwise _ _
  rw [List.pairwise_map]
  refine List.Pairwise.imp_of_mem ?_ h
  intro a b ha hb hab
  rcases (ltF_iff a b).1 hab with g | ⟨_, g⟩
  · exact g
  · rw [hz a ha, hz b hb, ltS_irrefl] at g; cases g
theorem restr_mem' (M : S) (F : List F2) (b : S) : b ∈ restrL M F ↔ b ∈ mskF M F ∧ ∀ c ∈ mskF M F, sub b c = true → c = b := by
  unfold restrL byz19 fstL
  rw [List.mem_map]
  have hb0 : b0L (maskF M F) = maskF M F := by unfold b0L maskF; rw [List.map_map]; rfl
  rw [hb0]
  have hcov : ∀ x y : S, covF (x, 0#16) (y, 0#16) = sub y x := fun x y => by
    show ((y &&& ~~~x == 0#16) && ((y ||| 0#16) &&& ~~~(x ||| 0#16) == 0#16)) = (y &&& ~~~x == 0#16)
    rw [BitVec.or_zero, BitVec.or_zero, Bool.and_self]
  have hmk : ∀ z : F2, z ∈ maskF M F ↔ z.2 = 0#16 ∧ z.1 ∈ mskF M F := fun z => by
    unfold maskF mskF
    rw [List.mem_map, List.mem_map]
    constructor
    · rintro ⟨y, hy, rfl⟩; exact ⟨rfl, y, hy, rfl⟩
    · rintro ⟨h2, y, hy, h1⟩; exact ⟨y, hy, Prod.ext h1 h2.symm⟩
  constructor
  · rintro ⟨z, hz, rfl⟩
    obtain ⟨h1, h2⟩ := (normF_mem _ z).1 hz
    obtain ⟨e2, e1⟩ := (hmk z).1 h1
    refine ⟨e1, fun c hc hs => ?_⟩
    have := h2 (c, 0#16) ((hmk _).2 ⟨rfl, hc⟩) (by rw [show z = (z.1, 0#16) from Prod.ext rfl e2, hcov]; exact hs)
    rw [← this]
  · rintro ⟨h1, h2⟩
    refine ⟨(b, 0#16), (normF_mem _ _).2 ⟨(hmk _).2 ⟨rfl, h1⟩, fun y hy hc => ?_⟩, rfl⟩
    obtain ⟨e2, e1⟩ := (hmk y).1 hy
    rw [show y = (y.1, 0#16) from Prod.ext rfl e2, hcov] at hc
    have := h2 y.1 e1 hc
    exact Prod.ext this e2
theorem restr_eq (M : S) (F : List F2) : restrL M F = refGreatest (mskF M F) := by
  rw [refGreatest_filter]
  refine asc_ext (restr_asc M F) (List.Pairwise.sublist List.filter_sublist (sortS_asc _).1) (fun x => ?_)
  rw [restr_mem', List.mem_filter, (sortS_asc (mskF M F)).2, lonG_iff]
  constructor
  · rintro ⟨h1, h2⟩; exact ⟨h1, fun y hy hs => h2 y (((sortS_asc _).2 y).1 hy) hs⟩
  · rintro ⟨h1, h2⟩; exact ⟨h1, fun y hy hs => h2 y (((sortS_asc _).2 y).2 hy) hs⟩
end Go.Proofs.YtijknodekomdfaaGreatDoor
namespace Go.Proofs.YtijknodekomdfaaGreatDoor
open Go.RowKit Go.Lib Go.Shelf

/-- rule, two sets, Byzantine servers, the least common server or -1 -/
abbrev It := Int × S × S × S × Int
def cmnS (s : S) : Int := if s = 0#16 then -1 else ((tzS s : Nat) : Int)
def it1 (wt r q b : S) : It := (1, r, q, b, cmnS (r &&& q &&& ~~~b &&& ~~~wt))
def it2 (p q b : S) : It := (2, p, q, b, cmnS (p &&& q &&& ~~~b))
def al1 (wt : S) (byz : List S) (r q : S) : List It := byz.map (it1 wt r q)
def al2 (byz : List S) (p q : S) : List It := (byz.filter fun b => b != 0#16).map (it2 p q)
def allL (wt : S) (byz R Q : List S) : List It := (R.flatMap fun r => Q.flatMap (al1 wt byz r)) ++ (Q.flatMap fun p => Q.flatMap (al2 byz p))
def negI (x : It) : Bool := decide (x.2.2.2.2 < 0)
def clI (x : It) : CL := (x.1, x.2.1, x.2.2.1, x.2.2.2.1)
theorem cmn_neg (s : S) : decide (cmnS s < 0) = (s == 0#16) := by
  unfold cmnS
  by_cases h : s = 0#16
  · simp [h]
  · rw [if_neg h]
    have : (s == 0#16) = false := by simpa using h
    rw [this]
    simp
/-- as far as a function goes that stops where p is false -/
def upTo (p : It → Bool) : List It → List It
  | [] => []
  | x :: xs => if p x = true then x :: upTo p xs else [x]
theorem upTo_stop (p : It → Bool) (x : It) (rest : List It) (hx : p x = false) : ∀ pre : List It, pre.all p = true → upTo p (pre ++ x :: rest) = pre ++ [x]
  | [], _ => by simp [upTo, hx]
  | y :: ys, h => by
    rw [List.all_cons, Bool.and_eq_true] at h
    rw [List.cons_append, upTo, if_pos h.1, upTo_stop p x rest hx ys h.2]; rfl
theorem upTo_all (p : It → Bool) : ∀ l : List It, l.all p = true → upTo p l = l
  | [], _ => rfl
  | y :: ys, h => by
    rw [List.all_cons, Bool.and_eq_true] at h
    rw [upTo, if_pos h.1, upTo_all p ys h.2]
theorem al2_drop (byz : List S) (j : Nat) (h : j < byz.length) (p q : S) : al2 (byz.drop j) p q = (if (at_ byz j != 0#16) = true then [it2 p q (at_ byz j)] else []) ++ al2 (byz.drop (j + 1)) p q := by
  unfold al2
  rw [drop_at byz j h]
  cases g : (at_ byz j != 0#16) <;> simp [g]
/-- the first clash of the program -/
theorem all_first (wt : S) (byz R Q : List S) : ((allL wt byz R Q).find? negI).map clI = rulesR wt byz R Q := by
  unfold allL rulesR
  rw [List.find?_append]
  have h1 : ∀ r q, ((al1 wt byz r q).find? negI).map clI = g1 wt byz r q := fun r q => by
    unfold al1 g1
    rw [List.find?_map, Option.map_map]
    have e1 : (negI ∘ it1 wt r q) = p1 r q wt := by
      funext b
      show decide (cmnS (r &&& q &&& ~~~b &&& ~~~wt) < 0) = (r &&& q &&& ~~~(b ||| wt) == 0#16)
      rw [cmn_neg, BitVec.not_or, BitVec.and_assoc (r &&& q)]
    rw [e1]; rfl
  have h2 : ∀ p q, ((al2 byz p q).find? negI).map clI = g2 byz p q := fun p q => by
    unfold al2 g2
    rw [List.find?_map, List.find?_filter, Option.map_map]
    have e1 : (fun a => decide ((a != 0#16) = true ∧ (negI ∘ it2 p q) a = true)) = p2 p q := by
      funext b
      have e : (negI ∘ it2 p q) b = (p &&& q &&& ~~~b == 0#16) := by
        show decide (cmnS (p &&& q &&& ~~~b) < 0) = _
        rw [cmn_neg]
      rw [e, Bool.eq_iff_iff]
      simp [p2]
    rw [e1]; rfl
  have m1 : ∀ (f : S → List It) (g : S → Option CL) (l : List S), (∀ x, ((f x).find? negI).map clI = g x) → ((l.flatMap f).find? negI).map clI = l.findSome? g := by
    intro f g l hfg
    induction l with
    | nil => rfl
    | cons x xs ih =>
      rw [List.flatMap_cons, List.find?_append, List.findSome?_cons, ← hfg x]
      cases (f x).find? negI with
      | some y => rfl
      | none => simpa using ih
  have k1 := m1 (fun r => Q.flatMap (al1 wt byz r)) (f1 wt byz Q) R (fun r => m1 (al1 wt byz r) (g1 wt byz r) Q (h1 r))
  have k2 := m1 (fun p => Q.flatMap (al2 byz p)) (f2 byz Q) Q (fun p => m1 (al2 byz p) (g2 byz p) Q (h2 p))
  rw [← k1, ← k2]
  cases ((R.flatMap fun r => Q.flatMap (al1 wt byz r)).find? negI) <;> rfl
end Go.Proofs.YtijknodekomdfaaGreatDoor
namespace Go.Proofs.YtijknodekomdfaaGreatDoor
open Go.RowKit Go.Lib Go.Shelf

/-- what the program's IsClash answers -/
def iscS (kd : Int) (wt M : S) (R Q : List S) (F : List F2) (x : CL) : Bool :=
  cvS kd M R Q F == 0 && ((byz27 kd M F).contains x.2.2.2 && (Q.contains x.2.2.1 &&
    (if x.1 = 1 then R.contains x.2.1 && (x.2.1 &&& x.2.2.1 &&& ~~~x.2.2.2 &&& ~~~wt == 0#16) else if x.1 = 2 then Q.contains x.2.1 && (x.2.2.2 != 0#16 && (x.2.1 &&& x.2.2.1 &&& ~~~x.2.2.2 == 0#16)) else false)))
theorem isc_of {kd : Int} {wt M : S} {R Q : List S} {F : List F2} {x : CL} (h0 : cvS kd M R Q F = 0) (h1 : x.2.2.2 ∈ byz27 kd M F) (h2 : x.2.2.1 ∈ Q)
    (h3 : (x.1 = 1 ∧ x.2.1 ∈ R ∧ p1 x.2.1 x.2.2.1 wt x.2.2.2 = true) ∨ (x.1 = 2 ∧ x.2.1 ∈ Q ∧ p2 x.2.1 x.2.2.1 x.2.2.2 = true)) : iscS kd wt M R Q F x = true := by
  unfold iscS
  rw [h0, List.contains_iff_mem.2 h1, List.contains_iff_mem.2 h2]
  simp only [beq_self_eq_true, Bool.true_and]
  rcases h3 with ⟨e1, e2, e3⟩ | ⟨e1, e2, e3⟩
  · rw [if_pos e1, List.contains_iff_mem.2 e2, Bool.true_and]
    unfold p1 at e3
    rw [BitVec.not_or, ← BitVec.and_assoc] at e3; exact e3
  · rw [if_neg (by rw [e1]; decide), if_pos e1, List.contains_iff_mem.2 e2, Bool.true_and]
    exact e3
theorem rulesR_some {wt : S} {byz R Q : List S} {x : CL} (h : rulesR wt byz R Q = some x) : x.2.2.2 ∈ byz ∧ x.2.2.1 ∈ Q ∧
    ((x.1 = 1 ∧ x.2.1 ∈ R ∧ p1 x.2.1 x.2.2.1 wt x.2.2.2 = true) ∨ (x.1 = 2 ∧ x.2.1 ∈ Q ∧ p2 x.2.1 x.2.2.1 x.2.2.2 = true)) := by
  unfold rulesR at h
  cases hr : R.findSome? (f1 wt byz Q) with
  | some y =>
    rw [hr] at h
    injection h with h
    subst h
    obtain ⟨r, hr1, hr2⟩ := List.exists_of_findSome?_eq_some hr
    obtain ⟨q, hq1, hq2⟩ := List.exists_of_findSome?_eq_some hr2
    unfold g1 at hq2
    rw [Option.map_eq_some_iff] at hq2
    obtain ⟨b, hb, rfl⟩ := hq2
    exact ⟨List.mem_of_find?_eq_some hb, hq1, .inl ⟨rfl, hr1, List.find?_some hb⟩⟩
  | none =>
    rw [hr] at h
    obtain ⟨p, hp1, hp2⟩ := List.exists_of_findSome?_eq_some h
    obtain ⟨q, hq1, hq2⟩ := List.exists_of_findSome?_eq_some hp2
    unfold g2 at hq2
    rw [Option.map_eq_some_iff] at hq2
    obtain ⟨b, hb, rfl⟩ := hq2
    exact ⟨List.mem_of_find?_eq_some hb, hq1, .inr ⟨rfl, hp1, List.find?_some hb⟩⟩
/-- IsClash of what Clash gives -/
theorem isc_clash (kd : Int) (wt M : S) (R Q : List S) (F : List F2) : iscS kd wt M R Q F (clash27 kd wt M R Q F).1 = ((clash27 kd wt M R Q F).2 == 0) := by
  unfold clash27
  by_cases hc : cvS kd M R Q F = 0
  · rw [if_neg (by simp [hc]), first_eq]
    cases hr : rulesR wt (byz27 kd M F) R Q with
    | some x =>
      obtain ⟨h1, h2, h3⟩ := rulesR_some hr
      simp only
      rw [isc_of hc h1 h2 h3]; rfl
    | none =>
      simp only
      have : iscS kd wt M R Q F cl0 = false := by
        unfold iscS cl0
        simp
      rw [this]; rfl
  · rw [if_pos hc]
    have h1 : (cvS kd M R Q F == 0) = false := by simpa using hc
    simp only
    rw [h1]
    unfold iscS
    rw [h1, Bool.false_and]
end Go.Proofs.YtijknodekomdfaaGreatDoor
