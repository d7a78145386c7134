/- Texts joined into one, what is needed of them (a program of ours). -/
import Derived.Test.YtijknodekomdfaaGreatDoorCKU
import Derived.Test.YtijknodekomdfaaGreatDoorCKH
import Derived.Test.YtijknodekomdfaaGreatDoorCKA
import Derived.Test.YtijknodekomdfaaGreatDoorCKI
namespace Go.Proofs.YtijknodekomdfaaGreatDoor
open Go.RowKit Go.Lib Go.Shelf

theorem idxOf_lt (s : S) : ∀ (l : List S) (k : Nat), s ∈ l → (k : Int) ≤ idxOf s l k ∧ idxOf s l k < (k + l.length : Nat)
  | [], _, h => by simp at h
  | x :: xs, k, h => by
    rw [idxOf]
    by_cases e : s = x
    · rw [if_pos (by simpa using e)]
      exact ⟨by omega, by rw [List.length_cons]; omega⟩
    · rw [if_neg (by simpa using e)]
      have hm : s ∈ xs := by
        rcases List.mem_cons.1 h with h | h
        · exact absurd h e
        · exact h
      have := idxOf_lt s xs (k + 1) hm
      rw [List.length_cons]
      omega
theorem idxOf_app (s : S) : ∀ (pre : List S) (rest : List S) (k : Nat), s ∉ pre → idxOf s (pre ++ rest) k = idxOf s rest (k + pre.length)
  | [], rest, k, _ => by simp
  | x :: xs, rest, k, h => by
    rw [List.cons_append, idxOf, if_neg (by simp; intro e; exact h (by rw [e]; exact List.mem_cons_self ..)), idxOf_app s xs rest (k + 1) (fun g => h (List.mem_cons_of_mem _ g)), List.length_cons]
    congr 1; omega
theorem idxOf_pre (s : S) : ∀ (pre rest : List S) (k : Nat), s ∈ pre → idxOf s (pre ++ rest) k < (k + pre.length : Nat)
  | [], _, _, h => by simp at h
  | x :: xs, rest, k, h => by
    rw [List.cons_append, idxOf]
    by_cases e : s = x
    · rw [if_pos (by simpa using e), List.length_cons]; omega
    · rw [if_neg (by simpa using e)]
      have hm : s ∈ xs := by
        rcases List.mem_cons.1 h with h | h
        · exact absurd h e
        · exact h
      have := idxOf_pre s xs rest (k + 1) hm
      rw [List.length_cons]; omega
/-- the rows that the program gathers -/
def keepI (Q : List S) (x : It) : Bool := x.1 == 1 || decide (idxOf x.2.1 Q 0 ≤ idxOf x.2.2.1 Q 0)
def rowsP (wt : S) (byz R Q : List S) : List It := (allL wt byz R Q).filter (keepI Q)
/-- a row of the reference with its least server -/
def withS (wt : S) (x : CL) : It := (x.1, x.2.1, x.2.2.1, x.2.2.2, cmnS (x.2.1 &&& x.2.2.1 &&& ~~~(badC wt x)))
theorem withS1 (wt r q b : S) : withS wt (1, r, q, b) = it1 wt r q b := by
  unfold withS it1 badC
  simp only [if_true]
  rw [BitVec.not_or, ← BitVec.and_assoc]
theorem withS2 (wt p q b : S) : withS wt (2, p, q, b) = it2 p q b := by
  unfold withS it2 badC
  rw [if_neg (show ¬ ((2 : Int) = 1) by decide)]
theorem rowC_withS (wt : S) (byz : List S) (p q : S) : (rowC byz p q).map (withS wt) = al2 byz p q := by
  unfold rowC al2
  rw [List.map_map, show (withS wt ∘ fun b => ((2, p, q, b) : CL)) = it2 p q from funext fun b => withS2 wt p q b]
theorem filter_all {α : Type} {l : List α} {p : α → Bool} (h : ∀ x ∈ l, p x = true) : l.filter p = l := List.filter_eq_self.2 h
theorem filter_none {α : Type} {l : List α} {p : α → Bool} (h : ∀ x ∈ l, p x = false) : l.filter p = [] := by
  rw [List.filter_eq_nil_iff]; intro x hx; rw [h x hx]; simp
theorem al2_mem {byz : List S} {p q : S} {x : It} (h : x ∈ al2 byz p q) : x.1 = 2 ∧ x.2.1 = p ∧ x.2.2.1 = q := by
  unfold al2 at h
  obtain ⟨b, _, rfl⟩ := List.mem_map.1 h
  exact ⟨rfl, rfl, rfl⟩
theorem keep2 (Q : List S) {byz : List S} {p q : S} (b : Bool) (hb : decide (idxOf p Q 0 ≤ idxOf q Q 0) = b) : ∀ x ∈ al2 byz p q, keepI Q x = b := fun x hx => by
  obtain ⟨h1, h2, h3⟩ := al2_mem hx
  unfold keepI
  rw [h1, h2, h3, hb]; rfl
theorem rows2_keep (wt : S) (byz : List S) : ∀ (rest pre : List S), (pre ++ rest).Nodup → ((rest.flatMap fun p => (pre ++ rest).flatMap (al2 byz p)).filter (keepI (pre ++ rest))) = (rows2 byz rest).map (withS wt)
  | [], pre, _ => by simp [rows2]
  | p :: ps, pre, hnd => by
    rw [rows2, List.map_append, List.flatMap_cons, List.filter_append]
    have hp : p ∉ pre := fun h => (List.nodup_append.1 hnd).2.2 p h p (List.mem_cons_self ..) rfl
    have hip : idxOf p (pre ++ p :: ps) 0 = (pre.length : Int) := by
      rw [idxOf_app p pre _ 0 hp, idxOf, if_pos (by simp)]; simp
    congr 1
    · -- the rows of p
      rw [List.flatMap_append, List.filter_append]
      have h1 : (pre.flatMap (al2 byz p)).filter (keepI (pre ++ p :: ps)) = [] := by
        refine filter_none (fun x hx => ?_)
        obtain ⟨q, hq, hx⟩ := List.mem_flatMap.1 hx
        refine keep2 _ false ?_ x hx
        have := idxOf_pre q pre (p :: ps) 0 hq
        rw [hip]
        simp; omega
      have h2 : ((p :: ps).flatMap (al2 byz p)).filter (keepI (pre ++ p :: ps)) = (p :: ps).flatMap (al2 byz p) := by
        refine filter_all (fun x hx => ?_)
        obtain ⟨q, hq, hx⟩ := List.mem_flatMap.1 hx
        refine keep2 _ true ?_ x hx
        have hq' : q ∉ pre := fun h => (List.nodup_append.1 hnd).2.2 q h q hq rfl
        rw [hip, idxOf_app q pre _ 0 hq']
        have := (idxOf_lt q (p :: ps) (0 + pre.length) hq).1
        rw [decide_eq_true_eq]; omega
      rw [h1, h2, List.nil_append, List.map_flatMap]
      congr 1
      funext q
      exact (rowC_withS wt byz p q).symm
    · have e : pre ++ p :: ps = (pre ++ [p]) ++ ps := by simp
      rw [e]
      exact rows2_keep wt byz ps (pre ++ [p]) (by rw [← e]; exact hnd)
theorem rowsP_eq (wt : S) (byz R Q : List S) (hQ : Q.Nodup) : rowsP wt byz R Q = (rowsR byz R Q).map (withS wt) := by
  unfold rowsP allL rowsR rows1
  rw [List.filter_append, List.map_append]
  congr 1
  · rw [filter_all]
    · rw [List.map_flatMap]
      congr 1
      funext r
      rw [List.map_flatMap]
      congr 1
      funext q
      unfold al1 rowA
      rw [List.map_map]
      congr 1
      funext b
      exact (withS1 wt r q b).symm
    · intro x hx
      obtain ⟨r, _, hx⟩ := List.mem_flatMap.1 hx
      obtain ⟨q, _, hx⟩ := List.mem_flatMap.1 hx
      unfold al1 at hx
      obtain ⟨b, _, rfl⟩ := List.mem_map.1 hx
      rfl
  · exact rows2_keep wt byz Q [] hQ
/-- a row without a server is a clash -/
theorem withS_neg (wt : S) (x : CL) : negI (withS wt x) = violC wt x := by
  unfold negI withS violC
  simp only
  rw [cmn_neg]
theorem find_any {α : Type} (f : α → Bool) : ∀ l : List α, (l.find? f).isSome = l.any f
  | [] => rfl
  | x :: xs => by
    rw [List.find?_cons, List.any_cons]
    cases h : f x
    · simpa using find_any f xs
    · rfl
theorem rowsP_neg (wt : S) (byz R Q : List S) (hQ : Q.Nodup) : (rowsP wt byz R Q).any negI = (firstR wt byz R Q).isSome := by
  rw [rowsP_eq wt byz R Q hQ, List.any_map]
  unfold firstR
  rw [show (negI ∘ withS wt) = violC wt by funext x; exact withS_neg wt x, find_any]
theorem valid_nodup {l : List S} (h : validS l = 0) : l.Nodup := by
  have := ((valid_iff l).1 h).asc
  refine List.Pairwise.imp ?_ this
  intro a b hab e
  rw [e, ltS_irrefl] at hab; cases hab
end Go.Proofs.YtijknodekomdfaaGreatDoor
namespace Go.Proofs.YtijknodekomdfaaGreatDoor
open Go.RowKit Go.Lib Go.Shelf

def nzc (byz : List S) : Nat := (byz.filter fun b => b != 0#16).length
theorem flatMap_count {α β : Type} (l : List α) (f : α → List β) (K : Nat) (h : ∀ x, (f x).length = K) : (l.flatMap f).length = l.length * K := by
  induction l with
  | nil => simp
  | cons x xs ih => rw [List.flatMap_cons, List.length_append, h, ih, List.length_cons, Nat.add_mul, Nat.one_mul, Nat.add_comm]
/-- the number of rows, as the program counts them -/
def cntR (byz R Q : List S) : Nat := R.length * Q.length * byz.length + Q.length * (Q.length + 1) / 2 * (if at_ byz 0 = 0#16 then 0 else byz.length)
theorem restr_pos {M : S} {F : List F2} (h : 0 < F.length) : 0 < (restrL M F).length := by
  rw [restr_eq, refGreatest_filter]
  have hx : (fa F 0).1 &&& M ∈ mskF M F := List.mem_map.2 ⟨_, fa_mem h, rfl⟩
  obtain ⟨y, hy, hl, _⟩ := above_lonG (sortS' (mskF M F)) (16 - cnt ((fa F 0).1 &&& M)) _ rfl (((sortS_asc _).2 _).2 hx)
  exact List.length_pos_of_mem (List.mem_filter.2 ⟨hy, hl⟩)
theorem sub_zero (x : S) : sub 0#16 x = true := (sub_iff _ _).2 fun i _ h => by simp at h
theorem bad_nz (kd : Int) (M : S) {F : List F2} (h : 0 < F.length) : 0 < (byz27 kd M F).length ∧ (if at_ (byz27 kd M F) 0 = 0#16 then 0 else (byz27 kd M F).length) = nzc (byz27 kd M F) := by
  unfold byz27
  by_cases hk : kd = 1
  · rw [if_pos hk]; exact ⟨by simp, by decide⟩
  · rw [if_neg hk]
    have hp := restr_pos (M := M) h
    refine ⟨hp, ?_⟩
    have hz : 0#16 ∈ restrL M F → ∀ x ∈ restrL M F, x = 0#16 := fun h0 x hx => by
      exact ((restr_mem' M F 0#16).1 h0).2 x ((restr_mem' M F x).1 hx).1 (sub_zero x)
    have h0m : at_ (restrL M F) 0 ∈ restrL M F := by simp [at_, List.getD, hp]
    unfold nzc
    by_cases e : at_ (restrL M F) 0 = 0#16
    · rw [if_pos e]
      rw [e] at h0m
      rw [filter_none (fun x hx => by rw [hz h0m x hx]; rfl)]; rfl
    · rw [if_neg e, filter_all (fun x hx => by
        have : x ≠ 0#16 := fun ex => by
          rw [ex] at hx
          exact e (hz hx _ h0m)
        simpa using this)]
/-- what the program's Prove gives -/
def proS (kd : Int) (wt M : S) (R Q : List S) (F : List F2) : List It × Int :=
  if cvS kd M R Q F ≠ 0 then ([], cvS kd M R Q F) else if 20000 < cntR (byz27 kd M F) R Q then ([], 3) else
    if (rowsP wt (byz27 kd M F) R Q).any negI = true then ([], 12) else (rowsP wt (byz27 kd M F) R Q, 0)
theorem r16 : List.range 16 = List.range 12 ++ [12, 13, 14, 15] := by decide
theorem hiT {s : S} (h : small s) (i : Nat) (h12 : 12 ≤ i) : s.toNat.testBit i = false := by
  have h1 : s.toNat < 2 ^ 12 := h
  exact Nat.testBit_lt_two_pow (Nat.lt_of_lt_of_le h1 (Nat.pow_le_pow_right (by decide) h12))
theorem memTo_members {s : S} (h : small s) : memTo s 16 = members s := by
  unfold memTo members
  rw [r16, List.filter_append]
  have e : (fun i => (s >>> i) &&& 1#16 == 1#16) = fun i => s.toNat.testBit i := funext fun i => hbT s i
  rw [e]
  have h2 : [12, 13, 14, 15].filter (fun i => s.toNat.testBit i) = [] := by
    simp [hiT h]
  rw [h2, List.append_nil]
theorem mem_head {s : S} (h : small s) (h0 : s ≠ 0#16) : (((memTo s 16).getD 0 0 : Nat) : Int) = cmnS s := by
  rw [memTo_members h, (members_step h h0).1, List.getD_cons_zero]
  unfold cmnS
  rw [if_neg h0]
theorem rows_in {byz R Q : List S} {x : CL} (h : x ∈ rowsR byz R Q) : x.2.2.1 ∈ Q := by
  unfold rowsR at h
  rcases List.mem_append.1 h with h | h
  · unfold rows1 at h
    obtain ⟨r, _, h⟩ := List.mem_flatMap.1 h
    obtain ⟨q, hq, h⟩ := List.mem_flatMap.1 h
    obtain ⟨b, _, rfl⟩ := mem_rowA.1 h
    exact hq
  · have : ∀ Q : List S, ∀ x : CL, x ∈ rows2 byz Q → x.2.2.1 ∈ Q := by
      intro Q
      induction Q with
      | nil => intro x h; simp [rows2] at h
      | cons p ps ih =>
        intro x h
        rw [rows2] at h
        rcases List.mem_append.1 h with h | h
        · obtain ⟨q, hq, h⟩ := List.mem_flatMap.1 h
          obtain ⟨b, _, _, rfl⟩ := mem_rowC.1 h
          exact hq
        · exact List.mem_cons_of_mem _ (ih x h)
    exact this Q x h
end Go.Proofs.YtijknodekomdfaaGreatDoor
