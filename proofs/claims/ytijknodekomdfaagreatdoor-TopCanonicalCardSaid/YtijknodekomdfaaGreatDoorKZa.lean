/- Texts joined into one (wip/bin/pack.py): RowE, JoinM, And, And2, And3. -/
import Derived.Test.YtijknodekomdfaaGreatDoorKM
import Derived.Test.YtijknodekomdfaaGreatDoorKYx
import Derived.Test.YtijknodekomdfaaGreatDoorKA
import Derived.Deep.RegionHeld3
import Derived.Deep.LoopGhost
import Derived.IntWalk
import Derived.Test.YtijknodekomdfaaGreatDoorKYw
import Derived.Test.YtijknodekomdfaaGreatDoorKYy
import Derived.Test.YtijknodekomdfaaGreatDoorKP
import Derived.Lib.QuietBelow
/- Rows of structs, any; strings; rows of different types lie in different blocks. -/
namespace Go.Proofs.YtijknodekomdfaaGreatDoor
open Go.RowKit Go.Lib Go.Shelf

/-! ### strings -/
theorem str_inj {a b : ByteArray} (h : a.toList = b.toList) : a = b := by
  rw [ByteArray.toList_eq, ByteArray.toList_eq] at h
  have : a.data = b.data := Array.toList_inj.1 h
  cases a; cases b; simp_all
@[go_sem] theorem str_beq (a b : ByteArray) : (a.toList == b.toList) = decide (a = b) := by
  rw [Bool.eq_iff_iff, beq_iff_eq, decide_eq_true_eq]
  exact ⟨str_inj, fun h => by rw [h]⟩
/-! ### rows of structs, any -/
section
variable {α : Type} (enc : α → List Value) (sz : Nat)
def fle (l : List α) : List Value := l.flatMap enc
theorem fle_len (hsz : ∀ x, (enc x).length = sz) (l : List α) : (fle enc l).length = l.length * sz := by
  induction l with
  | nil => simp [fle]
  | cons x xs ih => unfold fle at *; rw [List.flatMap_cons, List.length_append, ih, hsz, List.length_cons, Nat.succ_mul]; omega
theorem fle_at (hsz : ∀ x, (enc x).length = sz) : ∀ (l : List α) (i : Nat) (hi : i < l.length) (j : Nat), j < sz → (fle enc l)[i * sz + j]? = (enc l[i])[j]?
  | x :: xs, 0, _, j, hj => by unfold fle; rw [List.flatMap_cons, Nat.zero_mul, Nat.zero_add, List.getElem?_append_left (by rw [hsz]; exact hj)]; rfl
  | x :: xs, i + 1, hi, j, hj => by
    have := fle_at hsz xs i (by simpa using hi) j hj
    unfold fle at *
    rw [List.flatMap_cons, List.getElem?_append_right (by rw [hsz, Nat.succ_mul]; omega), hsz, show (i + 1) * sz + j - sz = i * sz + j by rw [Nat.succ_mul]; omega, this]
    rfl
theorem fle_append (l m : List α) : fle enc (l ++ m) = fle enc l ++ fle enc m := by unfold fle; rw [List.flatMap_append]
theorem fle_drop (hsz : ∀ x, (enc x).length = sz) (l : List α) (k : Nat) : fle enc (l.drop k) = (fle enc l).drop (k * sz) := by
  induction l generalizing k with
  | nil => simp [fle]
  | cons x xs ih =>
    cases k with
    | zero => simp
    | succ k =>
      have := ih k
      unfold fle at *
      have e : (enc x).drop ((k + 1) * sz) = [] := List.drop_eq_nil_of_le (by rw [hsz, Nat.succ_mul]; omega)
      rw [List.drop_succ_cons, this, List.flatMap_cons, List.drop_append, hsz, show (k + 1) * sz - sz = k * sz by rw [Nat.succ_mul]; omega, e]
      rfl
theorem fle_take (hsz : ∀ x, (enc x).length = sz) (l : List α) (k : Nat) : fle enc (l.take k) = (fle enc l).take (k * sz) := by
  induction l generalizing k with
  | nil => simp [fle]
  | cons x xs ih =>
    cases k with
    | zero => simp [fle]
    | succ k =>
      have := ih k
      unfold fle at *
      have e := List.take_of_length_le (l := enc x) (i := (k + 1) * sz) (by rw [hsz, Nat.succ_mul]; omega)
      rw [List.take_succ_cons, List.flatMap_cons, this, List.flatMap_cons, List.take_append, hsz, show (k + 1) * sz - sz = k * sz by rw [Nat.succ_mul]; omega, e]
theorem fle_one (x : α) : fle enc [x] = enc x := by simp [fle]
theorem fle_cells (h1 : ∀ x, ∀ v ∈ enc x, v.oneCell' = true) (l : List α) : ∀ v ∈ fle enc l, v.oneCell' = true := fun v hv => by
  obtain ⟨x, _, hx⟩ := List.mem_flatMap.1 hv
  exact h1 x v hx
theorem rd_lenE (hsz : ∀ x, (enc x).length = sz) {w : World} {a : Option Addr} {n c : Nat} {l : List α} (hp : 0 < sz) (h : Rd w a n c sz (fle enc l)) : l.length = n := by
  have := h.len; rw [fle_len enc sz hsz] at this
  exact Nat.eq_of_mul_eq_mul_right hp this
theorem rd_atE (hsz : ∀ x, (enc x).length = sz) {w : World} {a : Option Addr} {n c : Nat} {l : List α} (hp : 0 < sz) (h : Rd w a n c sz (fle enc l)) {i : Nat} (hi : i < n) (d : α) (j : Nat) (hj : j < sz) {v : Value} (hv : (enc (l.getD i d))[j]? = some v) : w.cell? (adr a (i * sz + j)) = some v := by
  have hl := rd_lenE enc sz hsz hp h
  refine h.cell _ _ ?_
  rw [fle_at enc sz hsz l i (by omega) j hj, ← hv]
  simp [List.getD, show i < l.length by omega]
theorem adr_off {w : World} {a : Option Addr} {i j : Nat} {v : Value} (h : w.cell? (adr a (i + j)) = some v) (hj : 0 < j) : w.cell? ⟨(adr a i).block, (adr a i).off + j, none⟩ = some v := by
  have e : adr a (i + j) = ⟨(adr a i).block, (adr a i).off + j, none⟩ := by
    rw [← adr_add a i j]
    unfold Addr.add
    rw [if_neg (by omega)]
  rw [← e]; exact h
theorem getD_dropE (l : List α) (i : Nat) (d : α) (h : i < l.length) : l.drop i = l.getD i d :: l.drop (i + 1) := by
  rw [List.drop_eq_getElem_cons h]; simp [List.getD, h]
theorem getD_takeE (l : List α) (i : Nat) (d : α) (h : i < l.length) : l.take (i + 1) = l.take i ++ [l.getD i d] := by
  rw [List.take_succ_eq_append_getElem h]; simp [List.getD, h]
theorem getD_memE {l : List α} {i : Nat} (d : α) (h : i < l.length) : l.getD i d ∈ l := by simp [List.getD, h]
end
/-- a row of the call's own, one cell written -/
theorem own_put1' {e : TypeId} {sz : Nat} {w0 w : World} {g n cap : Nat} {xs : List Value} (h : Own e sz w0 w (.slice (some ⟨g, 0, none⟩) n cap) n xs) (k : Nat) (v : Value) :
    Own e sz w0 (w.setCell ⟨g, k, none⟩ v) (.slice (some ⟨g, 0, none⟩) n cap) n (xs.set k v) :=
  ⟨(h.1.stored k v).1, Below.setCell h.2.below (by exact (h.1.lt g rfl).1) _⟩
/-- rows of different types lie in different blocks -/
theorem row_ne {e e' : TypeId} {sz sz' b b' : Nat} {w : World} {v u : Value} {n m : Nat} {xs ys : List Value} (h : w.ownsRow b e sz v n xs) (k : w.ownsRow b' e' sz' u m ys) (he : e ≠ e') : v.ownBlock = none ∨ v.ownBlock ≠ u.ownBlock := by
  rcases h.2 with ⟨rfl, _⟩ | ⟨g, cap, cur, rfl, _, hg, _⟩
  · exact .inl rfl
  · right
    rcases k.2 with ⟨rfl, _⟩ | ⟨g', cap', cur', rfl, _, hg', _⟩
    · intro h; cases h
    · intro h
      have e1 : g = g' := by injection h
      subst e1
      rw [hg] at hg'
      injection hg' with hg'
      injection hg' with _ h2
      exact he h2
theorem row_kept {e e' : TypeId} {sz sz' b b' : Nat} {w w' : World} {v u : Value} {n m : Nat} {xs ys : List Value} (h : w.ownsRow b e sz v n xs) (k : w.ownsRow b' e' sz' u m ys) (he : e ≠ e') (hg : w.grownBy w' u.ownBlock) : w'.ownsRow b e sz v n xs :=
  h.kept hg (row_ne h k he)
theorem blk_ne {e' T : TypeId} {sz' b' : Nat} {w : World} {u : Value} {m B : Nat} {ys : List Value} {cs : Array Value} (h : Blk w B T cs) (k : w.ownsRow b' e' sz' u m ys) (he : T ≠ e') : some B ≠ u.ownBlock := by
  intro hb
  rcases k.2 with ⟨rfl, _⟩ | ⟨g', cap', cur', rfl, _, hg', _⟩
  · cases hb
  · have e1 : B = g' := by injection hb
    subst e1
    unfold Blk at h
    rw [hg'] at h
    injection h with h
    injection h with _ h2
    exact he h2.symm
/-- a store into a block of another type -/
theorem row_set {e T : TypeId} {sz b : Nat} {w : World} {v : Value} {n : Nat} {xs : List Value} (h : w.ownsRow b e sz v n xs) {B : Nat} {cs : Array Value} (hB : Blk w B T cs) (hT : T ≠ e) (i : Nat) (u : Value) : (w.setCell ⟨B, i, none⟩ u).ownsRow b e sz v n xs := by
  refine ⟨h.1, ?_⟩
  rcases h.2 with h2 | ⟨g, cap, cur, hv, hb, hg, r⟩
  · exact .inl h2
  · refine .inr ⟨g, cap, cur, hv, hb, ?_, r⟩
    have hne : g ≠ B := by
      rintro rfl
      unfold Blk at hB
      rw [hg] at hB
      injection hB with hB
      injection hB with _ h2
      exact hT h2.symm
    rw [Below.heap_setCell _ _ _ _ (by simpa using hne)]; exact hg

end Go.Proofs.YtijknodekomdfaaGreatDoor
/- Layer 29 as plain functions: joint configurations; they are valid, safe, sound, and tolerate what both tolerate (plain laws). -/
namespace Go.Proofs.YtijknodekomdfaaGreatDoor
open Go.RowKit Go.Lib Go.Shelf

structure Cf where
  nm : ByteArray
  kd : Int
  M : S
  R : List S
  Q : List S
  F : List F2
def cf00 : Cf := ⟨⟨#[]⟩, 0, 0#16, [], [], []⟩
/-- the error of a configuration with any name -/
def cvf (c : Cf) : Int := if nmB c.nm = true then cvS c.kd c.M c.R c.Q c.F else 1
def unS8 (f g : List S) : List S := f.flatMap fun s => g.map fun t => s ||| t
def andS (f g : List S) : List S × Int := if validS f ≠ 0 then ([], validS f) else if validS g ≠ 0 then ([], validS g) else limS (leastP (unS8 f g))
def jfB (kd : Int) (x : F2) : S := if kd = 2 then x.1 else 0#16
def byJ (kd : Int) (M A : S) (x : F2) : S := (jfB kd x &&& A) ||| (A &&& ~~~M)
def faJ (M A : S) (x : F2) : S := (facF x &&& A) ||| (A &&& ~~~M)
def jnF (a b : Cf) (x y : F2) : F2 :=
  let A := a.M ||| b.M
  let u := byJ b.kd b.M A y &&& byJ a.kd a.M A x
  (u, (faJ b.M A y &&& faJ a.M A x) &&& ~~~u)
def jnL (a b : Cf) : List F2 := a.F.flatMap fun x => b.F.map (jnF a b x)
def jNm : ByteArray := ⟨#[106, 111, 105, 110, 116]⟩
def maxI (x y : Int) : Int := if x ≤ y then y else x
def nmzE (l : List F2) : Int := if l.length = 0 then 9 else match l.find? (fun x => chkF x != 0) with | some x => chkF x | none => limE (normF l)
def nmzL (l : List F2) : List F2 := if nmzE l ≠ 0 then [] else normF l
def jfltE (a b : Cf) : Int := if cvf a ≠ 0 then cvf a else if cvf b ≠ 0 then cvf b else nmzE (jnL a b)
def jfltL (a b : Cf) : List F2 := if jfltE a b ≠ 0 then [] else nmzL (jnL a b)
def ofE (a b : Cf) : Int := if cvf a ≠ 0 then cvf a else if cvf b ≠ 0 then cvf b else if (andS a.R b.R).2 ≠ 0 then (andS a.R b.R).2 else if (andS a.Q b.Q).2 ≠ 0 then (andS a.Q b.Q).2 else nmzE (jnL a b)
def ofC (a b : Cf) : Cf := if ofE a b ≠ 0 then cf00 else ⟨jNm, maxI a.kd b.kd, a.M ||| b.M, (andS a.R b.R).1, (andS a.Q b.Q).1, nmzL (jnL a b)⟩

/-! ### minimal lists -/
theorem jl_mem (l : List S) (x : S) : x ∈ leastP l ↔ x ∈ l ∧ ∀ y ∈ l, sub y x = true → y = x := by
  rw [leastP_filter, List.mem_filter, (sortS_asc l).2, lone_iff]
  simp only [(sortS_asc l).2]
theorem jl_asc (l : List S) : Asc (leastP l) := by
  rw [leastP_filter]; exact List.Pairwise.filter _ (sortS_asc l).1
theorem jl_anti (l : List S) : Anti (leastP l) := fun x hx y hy h => ((jl_mem l y).1 hy).2 x ((jl_mem l x).1 hx).1 h
theorem jl_below {l : List S} {x : S} (h : x ∈ l) : ∃ y ∈ leastP l, sub y x = true := by
  obtain ⟨z, hz, h1, h2⟩ := below_lone l _ x rfl h
  exact ⟨z, (jl_mem l z).2 ⟨hz, (lone_iff l z).1 h1⟩, h2⟩
theorem jl_ext {l m : List S} (h : ∀ x, x ∈ l ↔ x ∈ m) : leastP l = leastP m :=
  asc_ext (jl_asc l) (jl_asc m) fun x => by rw [jl_mem, jl_mem]; simp only [h]
theorem mem_un {f g : List S} {x : S} : x ∈ unS8 f g ↔ ∃ s ∈ f, ∃ t ∈ g, x = s ||| t := by
  unfold unS8
  rw [List.mem_flatMap]
  refine exists_congr fun s => and_congr_right fun _ => ?_
  rw [List.mem_map]
  exact exists_congr fun t => and_congr_right fun _ => eq_comm
theorem sub_orl (s t : S) : sub s (s ||| t) = true := (sub_iff _ _).2 fun i _ h => by rw [BitVec.getLsbD_or, h]; rfl
theorem sub_orr (s t : S) : sub t (s ||| t) = true := (sub_iff _ _).2 fun i _ h => by rw [BitVec.getLsbD_or, h, Bool.or_true]
theorem lim_ok {l : List S} (h : (limS l).2 = 0) : l.length ≤ 400 ∧ (limS l).1 = l := by
  unfold limS at h ⊢
  by_cases h4 : 400 < l.length
  · rw [if_pos h4] at h; exact absurd h (by decide)
  · rw [if_neg h4]; exact ⟨by omega, rfl⟩
theorem and_ok {f g : List S} (h : (andS f g).2 = 0) : validS f = 0 ∧ validS g = 0 ∧ (andS f g).1 = leastP (unS8 f g) ∧ (leastP (unS8 f g)).length ≤ 400 := by
  unfold andS at h ⊢
  by_cases h1 : validS f = 0
  · rw [if_neg (by simp [h1])] at h ⊢
    by_cases h2 : validS g = 0
    · rw [if_neg (by simp [h2])] at h ⊢
      obtain ⟨h3, h4⟩ := lim_ok h
      exact ⟨h1, h2, h4, h3⟩
    · rw [if_pos h2] at h; exact absurd h h2
  · rw [if_pos h1] at h; exact absurd h h1
theorem and_err {f g : List S} (h1 : validS f = 0) (h2 : validS g = 0) : (andS f g).2 = 0 ∨ (andS f g).2 = 3 := by
  unfold andS
  rw [if_neg (by simp [h1]), if_neg (by simp [h2])]
  unfold limS
  split
  · exact .inr rfl
  · exact .inl rfl
/-- what a set of the joint family contains -/
theorem and_mem {f g : List S} (h : (andS f g).2 = 0) {x : S} (hx : x ∈ (andS f g).1) : ∃ s ∈ f, ∃ t ∈ g, sub s x = true ∧ sub t x = true ∧ x = s ||| t := by
  obtain ⟨_, _, e, _⟩ := and_ok h
  rw [e] at hx
  obtain ⟨s, hs, t, ht, rfl⟩ := mem_un.1 ((jl_mem _ _).1 hx).1
  exact ⟨s, hs, t, ht, sub_orl _ _, sub_orr _ _, rfl⟩
theorem small_or {x y : S} (h1 : small x) (h2 : small y) : small (x ||| y) := (small_iff _).2 fun i hi hb => by
  rw [BitVec.getLsbD_or, Bool.or_eq_true] at hb
  rcases hb with hb | hb
  · exact (small_iff _).1 h1 i hi hb
  · exact (small_iff _).1 h2 i hi hb
theorem and_fam {f g : List S} (h : (andS f g).2 = 0) : Fam (andS f g).1 := by
  obtain ⟨h1, h2, e, h4⟩ := and_ok h
  have F1 := (valid_iff f).1 h1
  have F2 := (valid_iff g).1 h2
  rw [e]
  refine ⟨h4, fun x hx => ?_, jl_asc _, jl_anti _⟩
  obtain ⟨s, hs, t, ht, rfl⟩ := mem_un.1 ((jl_mem _ _).1 hx).1
  exact small_or (F1.low s hs) (F2.low t ht)
theorem fam_ne0 {l : List S} (hf : Fam l) (h0 : l.length ≠ 0) (h1 : at_ l 0 ≠ 0#16) : ∀ x ∈ l, x ≠ 0#16 := by
  rintro x hx rfl
  have hm : at_ l 0 ∈ l := by unfold at_; simp [List.getD, show 0 < l.length by omega]
  have := hf.anti 0#16 hx _ hm ((sub_iff _ _).2 fun i hi hb => by simp at hb)
  exact h1 this.symm
theorem and_cf {f g : List S} {M N : S} (h : (andS f g).2 = 0) (hf : cfS f M = 0) (hg : cfS g N = 0) : cfS (andS f g).1 (M ||| N) = 0 := by
  have hF := and_fam h
  obtain ⟨f1, f2, f3, f4⟩ := cf_parts hf
  obtain ⟨g1, g2, g3, g4⟩ := cf_parts hg
  obtain ⟨_, _, e, _⟩ := and_ok h
  have h0 : (andS f g).1.length ≠ 0 := by
    intro h0
    have hm1 : at_ f 0 ∈ f := by unfold at_; simp [List.getD, show 0 < f.length by omega]
    have hm2 : at_ g 0 ∈ g := by unfold at_; simp [List.getD, show 0 < g.length by omega]
    obtain ⟨y, hy, _⟩ := jl_below (mem_un.2 ⟨_, hm1, _, hm2, rfl⟩ : at_ f 0 ||| at_ g 0 ∈ unS8 f g)
    rw [← e, List.eq_nil_of_length_eq_zero h0] at hy
    simp at hy
  have hsub : ∀ x ∈ (andS f g).1, sub x (M ||| N) = true := fun x hx => by
    obtain ⟨s, hs, t, ht, _, _, rfl⟩ := and_mem h hx
    exact (sub_iff _ _).2 fun i hi hb => by
      rw [BitVec.getLsbD_or, Bool.or_eq_true] at hb ⊢
      exact hb.imp ((sub_iff _ _).1 (cf_sub hf s hs) i hi) ((sub_iff _ _).1 (cf_sub hg t ht) i hi)
  unfold cfS
  rw [if_neg (by simp [(valid_iff _).2 hF]), if_neg ?_, if_neg ?_]
  · have : supS (andS f g).1 &&& ~~~(M ||| N) = 0#16 := by
      apply BitVec.eq_of_getLsbD_eq
      intro i hi
      rw [BitVec.getLsbD_and, BitVec.getLsbD_not]
      cases hb : (supS (andS f g).1).getLsbD i with
      | false => simp
      | true =>
        obtain ⟨x, hx, hxb⟩ := (supS_bit _ i).1 hb
        rw [(sub_iff _ _).1 (hsub x hx) i hi hxb]; simp
    simp [this]
  · rintro (h1 | h1)
    · exact h0 h1
    · have hm : at_ (andS f g).1 0 ∈ (andS f g).1 := by unfold at_; simp [List.getD, show 0 < (andS f g).1.length by omega]
      obtain ⟨s, hs, t, ht, _, _, he⟩ := and_mem h hm
      rw [h1] at he
      have := fam_ne0 ((valid_iff _).1 f1) f2 f3 s hs
      apply this
      apply BitVec.eq_of_getLsbD_eq
      intro i hi
      have := congrArg (fun z : S => z.getLsbD i) he
      simp only [BitVec.getLsbD_zero, BitVec.getLsbD_or] at this ⊢
      cases hb : s.getLsbD i with
      | false => rfl
      | true => rw [hb] at this; simp at this

/-! ### joint faults -/
theorem jn_chk {a b : Cf} (hM : small a.M) (hN : small b.M) (x y : F2) : chkF (jnF a b x y) = 0 := by
  have hA := small_or hM hN
  unfold jnF
  dsimp only
  generalize a.M ||| b.M = A at *
  refine chk_of ?_ ?_
  · unfold facF byJ faJ
    dsimp only
    apply BitVec.eq_of_getLsbD_eq
    intro i hi
    have h1 := (small_iff _).1 hA i hi
    have h2 : (61440#16).getLsbD i = decide (12 ≤ i) := by
      have : ∀ j : Fin 16, (61440#16).getLsbD j.val = decide (12 ≤ j.val) := by decide
      exact this ⟨i, hi⟩
    simp only [BitVec.getLsbD_and, BitVec.getLsbD_or, BitVec.getLsbD_not, BitVec.getLsbD_zero, hi, decide_true, Bool.true_and, h2]
    by_cases h12 : 12 ≤ i
    · have : A.getLsbD i = false := by
        cases hb : A.getLsbD i with
        | false => rfl
        | true => have := h1 hb; omega
      rw [this]; simp
    · simp [h12]
  · dsimp only
    apply BitVec.eq_of_getLsbD_eq
    intro i hi
    simp only [BitVec.getLsbD_and, BitVec.getLsbD_not, BitVec.getLsbD_zero, hi, decide_true, Bool.true_and]
    generalize BitVec.getLsbD (byJ b.kd b.M A y) i = u
    generalize BitVec.getLsbD (byJ a.kd a.M A x) i = v
    cases u <;> cases v <;> simp
theorem jn_mem {a b : Cf} {z : F2} : z ∈ jnL a b ↔ ∃ x ∈ a.F, ∃ y ∈ b.F, z = jnF a b x y := by
  unfold jnL
  rw [List.mem_flatMap]
  refine exists_congr fun s => and_congr_right fun _ => ?_
  rw [List.mem_map]
  exact exists_congr fun t => and_congr_right fun _ => eq_comm
theorem jn_len (a b : Cf) : (jnL a b).length = a.F.length * b.F.length := flatMap_count a.F _ _ (fun _ => List.length_map ..)
theorem find_none' {l : List F2} (h : ∀ x ∈ l, chkF x = 0) : l.find? (fun x => chkF x != 0) = none := by
  rw [List.find?_eq_none]; intro x hx; simp [h x hx]
theorem nmz_ok {l : List F2} (h0 : 0 < l.length) (hc : ∀ x ∈ l, chkF x = 0) : nmzE l = limE (normF l) := by
  unfold nmzE
  rw [if_neg (by omega), find_none' hc]
theorem nmz_zero {l : List F2} (h0 : 0 < l.length) (hc : ∀ x ∈ l, chkF x = 0) (h : nmzE l = 0) : nmzL l = normF l ∧ (normF l).length ≤ 100 := by
  refine ⟨if_neg (by simp [h]), ?_⟩
  rw [nmz_ok h0 hc] at h
  unfold limE at h
  by_cases h1 : 100 < (normF l).length
  · rw [if_pos h1] at h; exact absurd h (by decide)
  · omega
theorem nmz_err {l : List F2} (h0 : 0 < l.length) (hc : ∀ x ∈ l, chkF x = 0) : nmzE l = 0 ∨ nmzE l = 3 := by
  rw [nmz_ok h0 hc]; unfold limE; split
  · exact .inr rfl
  · exact .inl rfl
/-- the normal form of checked faults, if it is short, is a valid model -/
theorem fv_norm' {l : List F2} (h0 : 0 < l.length) (hl : (normF l).length ≤ 100) (hc : ∀ x ∈ l, chkF x = 0) : fvS (normF l) = 0 := by
  obtain ⟨hasc, _⟩ := normF_spec l
  have hmem := normF_mem l
  have hne : 0 < (normF l).length := by
    obtain ⟨z, hz, _⟩ := above_normF l hc _ (fa l 0) rfl (fa_mem h0)
    exact List.length_pos_of_mem hz
  unfold fvS
  rw [if_neg (by omega), if_neg (by omega)]
  exact fvI_zero (normF l) hasc (fun x hx => hc x ((hmem x).1 hx).1) (fun x hx y hy h => ((hmem x).1 hx).2 y ((hmem y).1 hy).1 h) _ 0 (by omega)

/-! ### the joint configuration -/
theorem cvf_cv {c : Cf} (h : cvf c = 0) : nmB c.nm = true ∧ cvS c.kd c.M c.R c.Q c.F = 0 := by
  unfold cvf at h
  by_cases h1 : nmB c.nm = true
  · rw [if_pos h1] at h; exact ⟨h1, h⟩
  · rw [if_neg h1] at h; exact absurd h (by decide)
structure OfOk (a b : Cf) : Prop where
  va : cvf a = 0
  vb : cvf b = 0
  r : (andS a.R b.R).2 = 0
  q : (andS a.Q b.Q).2 = 0
  f : nmzE (jnL a b) = 0
theorem of_ok {a b : Cf} (h : ofE a b = 0) : OfOk a b := by
  unfold ofE at h
  by_cases h1 : cvf a = 0
  · rw [if_neg (by simp [h1])] at h
    by_cases h2 : cvf b = 0
    · rw [if_neg (by simp [h2])] at h
      by_cases h3 : (andS a.R b.R).2 = 0
      · rw [if_neg (by simp [h3])] at h
        by_cases h4 : (andS a.Q b.Q).2 = 0
        · rw [if_neg (by simp [h4])] at h
          exact ⟨h1, h2, h3, h4, h⟩
        · rw [if_pos h4] at h; exact absurd h h4
      · rw [if_pos h3] at h; exact absurd h h3
    · rw [if_pos h2] at h; exact absurd h h2
  · rw [if_pos h1] at h; exact absurd h h1
section
variable {a b : Cf}
theorem OfOk.Ma (h : OfOk a b) : small a.M := cv_small (cvf_cv h.va).2
theorem OfOk.Mb (h : OfOk a b) : small b.M := cv_small (cvf_cv h.vb).2
theorem OfOk.fva (h : OfOk a b) : fvS a.F = 0 := (cv_parts (cvf_cv h.va).2).2.2.2.2
theorem OfOk.fvb (h : OfOk a b) : fvS b.F = 0 := (cv_parts (cvf_cv h.vb).2).2.2.2.2
theorem OfOk.kda (h : OfOk a b) : a.kd = 1 ∨ a.kd = 2 := (cv_parts (cvf_cv h.va).2).1
theorem OfOk.kdb (h : OfOk a b) : b.kd = 1 ∨ b.kd = 2 := (cv_parts (cvf_cv h.vb).2).1
theorem jn_pos (ha : fvS a.F = 0) (hb : fvS b.F = 0) : 0 < (jnL a b).length := by
  rw [jn_len]; exact Nat.mul_pos (fv_pos ha) (fv_pos hb)
theorem jn_allchk (ha : small a.M) (hb : small b.M) : ∀ x ∈ jnL a b, chkF x = 0 := fun z hz => by
  obtain ⟨x, _, y, _, rfl⟩ := jn_mem.1 hz
  exact jn_chk ha hb x y
theorem OfOk.nmz (h : OfOk a b) : nmzL (jnL a b) = normF (jnL a b) ∧ (normF (jnL a b)).length ≤ 100 :=
  nmz_zero (jn_pos h.fva h.fvb) (jn_allchk h.Ma h.Mb) h.f
theorem OfOk.eq (h : OfOk a b) : ofE a b = 0 := by
  unfold ofE
  rw [if_neg (by simp [h.va]), if_neg (by simp [h.vb]), if_neg (by simp [h.r]), if_neg (by simp [h.q])]
  exact h.f
theorem OfOk.c (h : OfOk a b) : ofC a b = ⟨jNm, maxI a.kd b.kd, a.M ||| b.M, (andS a.R b.R).1, (andS a.Q b.Q).1, normF (jnL a b)⟩ := by
  unfold ofC
  rw [if_neg (by simp [h.eq]), h.nmz.1]
theorem jnm_ok : nmB jNm = true := by decide +kernel
theorem OfOk.kd (h : OfOk a b) : (maxI a.kd b.kd = 1 ∧ a.kd = 1 ∧ b.kd = 1) ∨ (maxI a.kd b.kd = 2 ∧ (a.kd = 2 ∨ b.kd = 2)) := by
  unfold maxI
  rcases h.kda with h1 | h1 <;> rcases h.kdb with h2 | h2 <;> rw [h1, h2] <;> simp
theorem OfOk.valid (h : OfOk a b) : cvS (maxI a.kd b.kd) (a.M ||| b.M) (andS a.R b.R).1 (andS a.Q b.Q).1 (normF (jnL a b)) = 0 := by
  obtain ⟨_, a1, a2, a3, _⟩ := cv_parts (cvf_cv h.va).2
  obtain ⟨_, b1, b2, b3, _⟩ := cv_parts (cvf_cv h.vb).2
  have hA := small_or h.Ma h.Mb
  have hr := and_cf h.r a2 b2
  have hq := and_cf h.q a3 b3
  have hf := fv_norm' (jn_pos h.fva h.fvb) h.nmz.2 (jn_allchk h.Ma h.Mb)
  have hM : a.M ||| b.M ≠ 0#16 := fun e => a1 (by
    apply BitVec.eq_of_getLsbD_eq
    intro i hi
    have := congrArg (fun z : S => z.getLsbD i) e
    simp only [BitVec.getLsbD_or, BitVec.getLsbD_zero, Bool.or_eq_false_iff] at this ⊢
    exact this.1)
  have h4 : sv (a.M ||| b.M) / 4096 = 0 := by
    have : (a.M ||| b.M).toNat < 4096 := hA
    unfold sv; omega
  unfold cvS
  rw [if_neg ?_, if_neg (by simp [h4]), if_neg (by simpa using hM), if_neg (by simp [hr]), if_neg (by simp [hq])]
  · exact hf
  · rcases h.kd with ⟨e, _⟩ | ⟨e, _⟩ <;> rw [e] <;> decide
theorem OfOk.cvf (h : OfOk a b) : cvf (ofC a b) = 0 := by
  rw [h.c]
  unfold Go.Proofs.YtijknodekomdfaaGreatDoor.cvf
  rw [if_pos jnm_ok]
  exact h.valid
theorem of_err (va : cvf a = 0) (vb : cvf b = 0) : ofE a b = 0 ∨ ofE a b = 3 := by
  unfold ofE
  rw [if_neg (by simp [va]), if_neg (by simp [vb])]
  obtain ⟨_, _, a2, a3, a4⟩ := cv_parts (cvf_cv va).2
  obtain ⟨_, _, b2, b3, b4⟩ := cv_parts (cvf_cv vb).2
  rcases and_err (cf_parts a2).1 (cf_parts b2).1 with h1 | h1
  · rw [if_neg (by simp [h1])]
    rcases and_err (cf_parts a3).1 (cf_parts b3).1 with h2 | h2
    · rw [if_neg (by simp [h2])]
      exact nmz_err (jn_pos a4 b4) (jn_allchk (cv_small (cvf_cv va).2) (cv_small (cvf_cv vb).2))
    · rw [if_pos (by rw [h2]; decide)]; exact .inr h2
  · rw [if_pos (by rw [h1]; decide)]; exact .inr h1
end
/-! ### rules at bits -/
theorem eq0_iff (x : S) : x = 0#16 ↔ ∀ i, i < 16 → x.getLsbD i = false := by
  constructor
  · rintro rfl i _; simp
  · intro h
    apply BitVec.eq_of_getLsbD_eq
    intro i hi
    rw [h i hi]; simp
theorem nz_iff (x : S) : (x == 0#16) = false ↔ ∃ i, i < 16 ∧ x.getLsbD i = true := by
  rw [beq_eq_false_iff_ne, ne_eq, eq0_iff]
  constructor
  · intro h
    refine Classical.byContradiction fun hn => h fun i hi => ?_
    cases hb : x.getLsbD i with
    | false => rfl
    | true => exact absurd ⟨i, hi, hb⟩ hn
  · rintro ⟨i, hi, hb⟩ h
    rw [h i hi] at hb; cases hb
theorem p1_iff (r q wt b : S) : p1 r q wt b = false ↔ ∃ i, i < 16 ∧ r.getLsbD i = true ∧ q.getLsbD i = true ∧ b.getLsbD i = false ∧ wt.getLsbD i = false := by
  unfold p1
  rw [nz_iff]
  refine exists_congr fun i => and_congr_right fun hi => ?_
  simp only [BitVec.getLsbD_and, BitVec.getLsbD_or, BitVec.getLsbD_not, hi, decide_true, Bool.true_and]
  cases r.getLsbD i <;> cases q.getLsbD i <;> cases b.getLsbD i <;> cases wt.getLsbD i <;> simp
theorem p2_iff (p q b : S) : p2 p q b = false ↔ b = 0#16 ∨ ∃ i, i < 16 ∧ p.getLsbD i = true ∧ q.getLsbD i = true ∧ b.getLsbD i = false := by
  unfold p2
  rw [Bool.and_eq_false_iff, nz_iff]
  refine or_congr (by simp) (exists_congr fun i => and_congr_right fun hi => ?_)
  simp only [BitVec.getLsbD_and, BitVec.getLsbD_not, hi, decide_true, Bool.true_and]
  cases p.getLsbD i <;> cases q.getLsbD i <;> cases b.getLsbD i <;> simp
theorem byJ_bit (kd : Int) (M A : S) (x : F2) (i : Nat) (hi : i < 16) : (byJ kd M A x).getLsbD i = (A.getLsbD i && ((jfB kd x).getLsbD i || !M.getLsbD i)) := by
  unfold byJ
  simp only [BitVec.getLsbD_and, BitVec.getLsbD_or, BitVec.getLsbD_not, hi, decide_true, Bool.true_and]
  cases A.getLsbD i <;> cases (jfB kd x).getLsbD i <;> cases M.getLsbD i <;> rfl
/-- what a configuration's own Byzantine sets contain -/
theorem own_byz {kd : Int} {M : S} {F : List F2} (hk : kd = 1 ∨ kd = 2) {x : F2} (hx : x ∈ F) : ∃ c ∈ byz27 kd M F, ∀ i, i < 16 → M.getLsbD i = true → (jfB kd x).getLsbD i = true → c.getLsbD i = true := by
  unfold byz27 jfB
  rcases hk with rfl | rfl
  · rw [if_pos rfl, if_neg (by decide)]
    exact ⟨0#16, by simp, fun i _ _ h => by simp at h⟩
  · rw [if_neg (by decide), if_pos rfl]
    obtain ⟨c, hc, hs⟩ := above_restr (M := M) (F := F) (x := x.1 &&& M) (List.mem_map.2 ⟨x, hx, rfl⟩)
    exact ⟨c, hc, fun i hi h1 h2 => (sub_iff _ _).1 hs i hi (by rw [BitVec.getLsbD_and, h1, h2]; rfl)⟩
section
variable {a b : Cf}
/-- a Byzantine set of the joint configuration -/
theorem joint_byz (h : OfOk a b) {c : S} (hc : c ∈ byz27 (maxI a.kd b.kd) (a.M ||| b.M) (normF (jnL a b))) : ∃ x ∈ a.F, ∃ y ∈ b.F, ∀ i, i < 16 → c.getLsbD i = true →
    (a.M.getLsbD i = true → (jfB a.kd x).getLsbD i = true) ∧ (b.M.getLsbD i = true → (jfB b.kd y).getLsbD i = true) ∧ (a.M.getLsbD i = true ∨ b.M.getLsbD i = true) := by
  unfold byz27 at hc
  rcases h.kd with ⟨e, e1, e2⟩ | ⟨e, _⟩
  · rw [e, if_pos rfl, List.mem_singleton] at hc
    subst hc
    exact ⟨_, fa_mem (fv_pos h.fva), _, fa_mem (fv_pos h.fvb), fun i _ hb => by simp at hb⟩
  · rw [e, if_neg (by decide)] at hc
    have h1 := ((restr_mem' _ _ c).1 hc).1
    obtain ⟨z, hz, rfl⟩ := List.mem_map.1 h1
    obtain ⟨x, hx, y, hy, rfl⟩ := jn_mem.1 ((normF_mem _ z).1 hz).1
    refine ⟨x, hx, y, hy, fun i hi hb => ?_⟩
    unfold jnF at hb
    dsimp only at hb
    rw [BitVec.getLsbD_and, BitVec.getLsbD_and, byJ_bit _ _ _ _ _ hi, byJ_bit _ _ _ _ _ hi, BitVec.getLsbD_or] at hb
    revert hb
    cases a.M.getLsbD i <;> cases b.M.getLsbD i <;> cases (jfB a.kd x).getLsbD i <;> cases (jfB b.kd y).getLsbD i <;> simp
/-- the joint configuration of two safe ones is safe -/
theorem joint_safe {wt : S} (h : OfOk a b) (ha : safe27 a.kd wt a.M a.R a.Q a.F = true) (hb : safe27 b.kd wt b.M b.R b.Q b.F = true) :
    safe27 (maxI a.kd b.kd) wt (a.M ||| b.M) (andS a.R b.R).1 (andS a.Q b.Q).1 (normF (jnL a b)) = true := by
  obtain ⟨a1, a2⟩ := safe_rules ha
  obtain ⟨b1, b2⟩ := safe_rules hb
  obtain ⟨_, _, aR, aQ, _⟩ := cv_parts (cvf_cv h.va).2
  obtain ⟨_, _, bR, bQ, _⟩ := cv_parts (cvf_cv h.vb).2
  refine safe_of h.valid (fun r hr q hq c hc => ?_) (fun p hp q hq c hc => ?_)
  · obtain ⟨x, hx, y, hy, hxy⟩ := joint_byz h hc
    obtain ⟨r1, hr1, _, _, sr1, _, _⟩ := and_mem h.r hr
    obtain ⟨q1, hq1, _, _, sq1, _, _⟩ := and_mem h.q hq
    obtain ⟨d, hd, hd2⟩ := own_byz (M := a.M) h.kda hx
    obtain ⟨i, hi, g1, g2, g3, g4⟩ := (p1_iff _ _ _ _).1 (a1 r1 hr1 q1 hq1 d hd)
    refine (p1_iff _ _ _ _).2 ⟨i, hi, (sub_iff _ _).1 sr1 i hi g1, (sub_iff _ _).1 sq1 i hi g2, ?_, g4⟩
    have hM := (sub_iff _ _).1 (cf_sub aR r1 hr1) i hi g1
    cases hb : c.getLsbD i with
    | false => rfl
    | true => rw [hd2 i hi hM ((hxy i hi hb).1 hM)] at g3; cases g3
  · obtain ⟨x, hx, y, hy, hxy⟩ := joint_byz h hc
    rw [p2_iff]
    by_cases h0 : c = 0#16
    · exact .inl h0
    · right
      obtain ⟨e, he, hbe⟩ := (nz_iff c).1 (by simpa using h0)
      obtain ⟨p1', hp1, p2', hp2, sp1, sp2, _⟩ := and_mem h.q hp
      obtain ⟨q1, hq1, q2, hq2, sq1, sq2, _⟩ := and_mem h.q hq
      obtain ⟨m1, m2, m3⟩ := hxy e he hbe
      rcases m3 with hM | hM
      · obtain ⟨d, hd, hd2⟩ := own_byz (M := a.M) h.kda hx
        have hde := hd2 e he hM (m1 hM)
        rcases (p2_iff _ _ _).1 (a2 p1' hp1 q1 hq1 d hd) with z | ⟨i, hi, g1, g2, g3⟩
        · rw [z] at hde; simp at hde
        · refine ⟨i, hi, (sub_iff _ _).1 sp1 i hi g1, (sub_iff _ _).1 sq1 i hi g2, ?_⟩
          have hMi := (sub_iff _ _).1 (cf_sub aQ p1' hp1) i hi g1
          cases hb : c.getLsbD i with
          | false => rfl
          | true => rw [hd2 i hi hMi ((hxy i hi hb).1 hMi)] at g3; cases g3
      · obtain ⟨d, hd, hd2⟩ := own_byz (M := b.M) h.kdb hy
        have hde := hd2 e he hM (m2 hM)
        rcases (p2_iff _ _ _).1 (b2 p2' hp2 q2 hq2 d hd) with z | ⟨i, hi, g1, g2, g3⟩
        · rw [z] at hde; simp at hde
        · refine ⟨i, hi, (sub_iff _ _).1 sp2 i hi g1, (sub_iff _ _).1 sq2 i hi g2, ?_⟩
          have hMi := (sub_iff _ _).1 (cf_sub bQ p2' hp2) i hi g1
          cases hb : c.getLsbD i with
          | false => rfl
          | true => rw [hd2 i hi hMi ((hxy i hi hb).2.1 hMi)] at g3; cases g3
/-! ### clients -/
theorem sound_tv' {kd : Int} {wt M : S} {R Q : List S} {F m : List F2} (h : soundS kd wt M R Q F m = true) : tvS kd M R Q F m = 0 := by
  unfold soundS clashS at h
  by_cases h0 : tvS kd M R Q F m = 0
  · exact h0
  · rw [if_pos h0] at h
    have h1 : tvS kd M R Q F m = 13 := by simpa using h
    unfold tvS at h1
    by_cases hc : cvS kd M R Q F = 0
    · rw [if_neg (by simp [hc])] at h1; exact absurd h1 (fv_ne m)
    · rw [if_pos hc] at h1; exact absurd h1 (cv_ne _ _ _ _ _)
theorem joint_tv (h : OfOk a b) {m : List F2} (hm : fvS m = 0) : tvS (maxI a.kd b.kd) (a.M ||| b.M) (andS a.R b.R).1 (andS a.Q b.Q).1 (normF (jnL a b)) m = 0 := by
  unfold tvS
  rw [if_neg (by simp [h.valid])]; exact hm
theorem mask_above {M : S} {m : List F2} (hM : small M) (hm : m.length ≤ 400) {x : F2} (hx : x ∈ m) : ∃ c ∈ byzS M m, ∀ i, i < 16 → M.getLsbD i = true → x.1.getLsbD i = true → c.getLsbD i = true := by
  obtain ⟨c, hc, hs⟩ := byz_above M m hM hm (x.1 &&& M) (List.mem_map.2 ⟨x, hx, rfl⟩)
  exact ⟨c, hc, fun i hi h1 h2 => (sub_iff _ _).1 hs i hi (by rw [BitVec.getLsbD_and, h1, h2]; rfl)⟩
theorem mask_of {M : S} {m : List F2} (hM : small M) (hm : m.length ≤ 400) {c : S} (hc : c ∈ byzS M m) : ∃ x ∈ m, ∀ i, i < 16 → c.getLsbD i = true → M.getLsbD i = true ∧ x.1.getLsbD i = true := by
  obtain ⟨z, hz, rfl⟩ := List.mem_map.1 ((byz_mem M m hM hm c).1 hc).1
  exact ⟨z, hz, fun i _ hb => by rw [BitVec.getLsbD_and, Bool.and_eq_true] at hb; exact ⟨hb.2, hb.1⟩⟩
/-- a client that is sound for two configurations is sound for the joint one -/
theorem joint_sound {wt : S} {m : List F2} (h : OfOk a b) (ha : soundS a.kd wt a.M a.R a.Q a.F m = true) (hb : soundS b.kd wt b.M b.R b.Q b.F m = true) :
    soundS (maxI a.kd b.kd) wt (a.M ||| b.M) (andS a.R b.R).1 (andS a.Q b.Q).1 (normF (jnL a b)) m = true := by
  have ta := sound_tv' ha
  have tb := sound_tv' hb
  have hm := (tv_cv ta).2
  have hml : m.length ≤ 400 := by have := fv_len hm; omega
  obtain ⟨a0, a1, a2⟩ := (sound_iff ta).1 ha
  obtain ⟨b0, b1, b2⟩ := (sound_iff tb).1 hb
  obtain ⟨_, _, aR, aQ, _⟩ := cv_parts (cvf_cv h.va).2
  obtain ⟨_, _, bR, bQ, _⟩ := cv_parts (cvf_cv h.vb).2
  have hA := small_or h.Ma h.Mb
  have inM : ∀ i, (a.M ||| b.M).getLsbD i = true → a.M.getLsbD i = true ∨ b.M.getLsbD i = true := fun i hi => by
    rw [BitVec.getLsbD_or, Bool.or_eq_true] at hi; exact hi
  rw [sound_iff (joint_tv h hm)]
  refine ⟨fun hk c hc => ?_, fun r hr q hq c hc => ?_, fun hk p hp q hq c hc => ?_⟩
  · obtain ⟨x, hx, hxc⟩ := mask_of hA hml hc
    rcases h.kd with ⟨_, e1, e2⟩ | ⟨e, _⟩
    · refine (eq0_iff c).2 fun i hi => ?_
      cases hb : c.getLsbD i with
      | false => rfl
      | true =>
        obtain ⟨g1, g2⟩ := hxc i hi hb
        rcases inM i g1 with g | g
        · obtain ⟨d, hd, hd2⟩ := mask_above h.Ma hml hx
          have := hd2 i hi g g2
          rw [a0 e1 d hd] at this; simp at this
        · obtain ⟨d, hd, hd2⟩ := mask_above h.Mb hml hx
          have := hd2 i hi g g2
          rw [b0 e2 d hd] at this; simp at this
    · rw [e] at hk; exact absurd hk (by decide)
  · obtain ⟨x, hx, hxc⟩ := mask_of hA hml hc
    obtain ⟨r1, hr1, _, _, sr1, _, _⟩ := and_mem h.r hr
    obtain ⟨q1, hq1, _, _, sq1, _, _⟩ := and_mem h.q hq
    obtain ⟨d, hd, hd2⟩ := mask_above h.Ma hml hx
    obtain ⟨i, hi, g1, g2, g3, g4⟩ := (p1_iff _ _ _ _).1 (a1 r1 hr1 q1 hq1 d hd)
    refine (p1_iff _ _ _ _).2 ⟨i, hi, (sub_iff _ _).1 sr1 i hi g1, (sub_iff _ _).1 sq1 i hi g2, ?_, g4⟩
    have hM := (sub_iff _ _).1 (cf_sub aR r1 hr1) i hi g1
    cases hb : c.getLsbD i with
    | false => rfl
    | true => rw [hd2 i hi hM (hxc i hi hb).2] at g3; cases g3
  · rw [p2_iff]
    by_cases h0 : c = 0#16
    · exact .inl h0
    · right
      obtain ⟨x, hx, hxc⟩ := mask_of hA hml hc
      obtain ⟨e, he, hbe⟩ := (nz_iff c).1 (by simpa using h0)
      obtain ⟨m1, m2⟩ := hxc e he hbe
      obtain ⟨p1', hp1, p2', hp2, sp1, sp2, _⟩ := and_mem h.q hp
      obtain ⟨q1, hq1, q2, hq2, sq1, sq2, _⟩ := and_mem h.q hq
      rcases inM e m1 with hM | hM
      · obtain ⟨d, hd, hd2⟩ := mask_above h.Ma hml hx
        have hde := hd2 e he hM m2
        have hk2 : a.kd = 2 := by
          rcases h.kda with k | k
          · rw [a0 k d hd] at hde; simp at hde
          · exact k
        rcases (p2_iff _ _ _).1 (a2 hk2 p1' hp1 q1 hq1 d hd) with z | ⟨i, hi, g1, g2, g3⟩
        · rw [z] at hde; simp at hde
        · refine ⟨i, hi, (sub_iff _ _).1 sp1 i hi g1, (sub_iff _ _).1 sq1 i hi g2, ?_⟩
          have hMi := (sub_iff _ _).1 (cf_sub aQ p1' hp1) i hi g1
          cases hb : c.getLsbD i with
          | false => rfl
          | true => rw [hd2 i hi hMi (hxc i hi hb).2] at g3; cases g3
      · obtain ⟨d, hd, hd2⟩ := mask_above h.Mb hml hx
        have hde := hd2 e he hM m2
        have hk2 : b.kd = 2 := by
          rcases h.kdb with k | k
          · rw [b0 k d hd] at hde; simp at hde
          · exact k
        rcases (p2_iff _ _ _).1 (b2 hk2 p2' hp2 q2 hq2 d hd) with z | ⟨i, hi, g1, g2, g3⟩
        · rw [z] at hde; simp at hde
        · refine ⟨i, hi, (sub_iff _ _).1 sp2 i hi g1, (sub_iff _ _).1 sq2 i hi g2, ?_⟩
          have hMi := (sub_iff _ _).1 (cf_sub bQ p2' hp2) i hi g1
          cases hb : c.getLsbD i with
          | false => rfl
          | true => rw [hd2 i hi hMi (hxc i hi hb).2] at g3; cases g3
/-! ### what is tolerated -/
theorem tol_iff {kd : Int} {M : S} {R Q : List S} {F : List F2} (hc : cvS kd M R Q F = 0) (z : S) :
    tolS27 kd M R Q F z = true ↔ ∃ x ∈ F, ∀ i, i < 16 → z.getLsbD i = true → M.getLsbD i = true → (jfB kd x).getLsbD i = true := by
  obtain ⟨hk, _, _, _, hf⟩ := cv_parts hc
  have hM := cv_small hc
  unfold tolS27
  rw [hc]
  simp only [beq_self_eq_true, Bool.true_and, List.any_eq_true]
  have key : ∀ c : S, (z &&& M &&& ~~~c == 0#16) = true ↔ ∀ i, i < 16 → z.getLsbD i = true → M.getLsbD i = true → c.getLsbD i = true := fun c => by
    rw [show (z &&& M &&& ~~~c == 0#16) = sub (z &&& M) c from rfl, sub_iff]
    refine forall_congr' fun i => forall_congr' fun _ => ?_
    rw [BitVec.getLsbD_and, Bool.and_eq_true, and_imp]
  constructor
  · rintro ⟨c, hc, h⟩
    rw [key] at h
    unfold byz27 at hc
    rcases hk with rfl | rfl
    · rw [if_pos rfl, List.mem_singleton] at hc
      subst hc
      exact ⟨_, fa_mem (fv_pos hf), fun i hi h1 h2 => by have := h i hi h1 h2; simp at this⟩
    · rw [if_neg (by decide)] at hc
      obtain ⟨x, hx, rfl⟩ := List.mem_map.1 ((restr_mem' _ _ c).1 hc).1
      refine ⟨x, hx, fun i hi h1 h2 => ?_⟩
      have := h i hi h1 h2
      rw [BitVec.getLsbD_and, Bool.and_eq_true] at this
      unfold jfB; rw [if_pos rfl]; exact this.1
  · rintro ⟨x, hx, h⟩
    obtain ⟨c, hc, hc2⟩ := own_byz (M := M) hk hx
    exact ⟨c, hc, (key c).2 fun i hi h1 h2 => hc2 i hi h2 (h i hi h1 h2)⟩
theorem joint_tol (h : OfOk a b) (z : S) : tolS27 (maxI a.kd b.kd) (a.M ||| b.M) (andS a.R b.R).1 (andS a.Q b.Q).1 (normF (jnL a b)) z = (tolS27 a.kd a.M a.R a.Q a.F z && tolS27 b.kd b.M b.R b.Q b.F z) := by
  rw [Bool.eq_iff_iff, Bool.and_eq_true, tol_iff h.valid, tol_iff (cvf_cv h.va).2, tol_iff (cvf_cv h.vb).2]
  have inA : ∀ i, (a.M ||| b.M).getLsbD i = (a.M.getLsbD i || b.M.getLsbD i) := fun i => BitVec.getLsbD_or ..
  have bit : ∀ x y i, i < 16 → (jfB (maxI a.kd b.kd) (jnF a b x y)).getLsbD i = ((a.M.getLsbD i || b.M.getLsbD i) && (((jfB b.kd y).getLsbD i || !b.M.getLsbD i) && ((jfB a.kd x).getLsbD i || !a.M.getLsbD i))) := fun x y i hi => by
    rcases h.kd with ⟨e, e1, e2⟩ | ⟨e, _⟩
    · rw [e, e1, e2]
      unfold jfB
      rw [if_neg (by decide), if_neg (by decide), if_neg (by decide)]
      cases a.M.getLsbD i <;> cases b.M.getLsbD i <;> simp
    · rw [e]
      rw [show jfB 2 (jnF a b x y) = (jnF a b x y).1 from if_pos rfl]
      unfold jnF
      dsimp only
      rw [BitVec.getLsbD_and, byJ_bit _ _ _ _ _ hi, byJ_bit _ _ _ _ _ hi, inA]
      cases a.M.getLsbD i <;> cases b.M.getLsbD i <;> simp
  constructor
  · rintro ⟨w, hw, hz⟩
    obtain ⟨x, hx, y, hy, rfl⟩ := jn_mem.1 ((normF_mem _ w).1 hw).1
    refine ⟨⟨x, hx, fun i hi h1 h2 => ?_⟩, y, hy, fun i hi h1 h2 => ?_⟩
    · have := hz i hi h1 (by rw [inA, h2]; rfl)
      rw [bit x y i hi, h2] at this
      simp at this; exact this.2
    · have := hz i hi h1 (by rw [inA, h2, Bool.or_true])
      rw [bit x y i hi, h2] at this
      simp at this; exact this.1
  · rintro ⟨⟨x, hx, h1⟩, y, hy, h2⟩
    obtain ⟨w, hw, hcov⟩ := above_normF (jnL a b) (jn_allchk h.Ma h.Mb) _ (jnF a b x y) rfl (jn_mem.2 ⟨x, hx, y, hy, rfl⟩)
    refine ⟨w, hw, fun i hi g1 g2 => ?_⟩
    have e1 : (jfB (maxI a.kd b.kd) (jnF a b x y)).getLsbD i = true := by
      rw [bit x y i hi]
      rw [inA] at g2
      rw [g2, Bool.true_and, Bool.and_eq_true]
      constructor
      · cases hb : b.M.getLsbD i with
        | false => simp
        | true => rw [h2 i hi g1 hb]; rfl
      · cases hb : a.M.getLsbD i with
        | false => simp
        | true => rw [h1 i hi g1 hb]; rfl
    revert e1
    unfold jfB
    by_cases hk : maxI a.kd b.kd = 2
    · rw [if_pos hk, if_pos hk]
      exact fun e1 => (sub_iff _ _).1 (covF_sub hcov).1 i hi e1
    · rw [if_neg hk, if_neg hk]; exact fun e1 => e1
theorem joint_accs {f g : List S} (h : (andS f g).2 = 0) : ∀ s ∈ (andS f g).1, accS f s = true ∧ accS g s = true := fun s hs => by
  obtain ⟨x, hx, y, hy, h1, h2, _⟩ := and_mem h hs
  exact ⟨(accS_iff _ _).2 ⟨x, hx, h1⟩, (accS_iff _ _).2 ⟨y, hy, h2⟩⟩
/-- what a client accepts for one of them it accepts for the joint one -/
theorem joint_acc (h : OfOk a b) {wt s : S} {m : List F2} (hs : accS28 a.kd wt a.M a.R a.Q a.F m s = true ∨ accS28 b.kd wt b.M b.R b.Q b.F m s = true) :
    accS28 (maxI a.kd b.kd) wt (a.M ||| b.M) (andS a.R b.R).1 (andS a.Q b.Q).1 (normF (jnL a b)) m s = true := by
  have hm : fvS m = 0 := by
    rcases hs with g | g
    · exact (tv_cv (acc_tv g).1).2
    · exact (tv_cv (acc_tv g).1).2
  have hml : m.length ≤ 400 := by have := fv_len hm; omega
  have hA := small_or h.Ma h.Mb
  obtain ⟨_, _, aR, aQ, _⟩ := cv_parts (cvf_cv h.va).2
  obtain ⟨_, _, bR, bQ, _⟩ := cv_parts (cvf_cv h.vb).2
  have p1e : ∀ s r c : S, (s &&& r &&& ~~~(c ||| wt) == 0#16) = p1 s r wt c := fun _ _ _ => rfl
  unfold accS28
  rw [joint_tv h hm]
  simp only [beq_self_eq_true, Bool.true_and]
  rw [accT_iff]
  intro r hr c hc
  obtain ⟨x, hx, hxc⟩ := mask_of hA hml hc
  obtain ⟨r1, hr1, r2, hr2, sr1, sr2, _⟩ := and_mem h.r hr
  rw [p1e, p1_iff]
  rcases hs with g | g
  · obtain ⟨d, hd, hd2⟩ := mask_above h.Ma hml hx
    have := (accT_iff _ _ _ _).1 (acc_tv g).2 r1 hr1 d hd
    rw [p1e, p1_iff] at this
    obtain ⟨i, hi, g1, g2, g3, g4⟩ := this
    refine ⟨i, hi, g1, (sub_iff _ _).1 sr1 i hi g2, ?_, g4⟩
    have hM := (sub_iff _ _).1 (cf_sub aR r1 hr1) i hi g2
    cases hb : c.getLsbD i with
    | false => rfl
    | true => rw [hd2 i hi hM (hxc i hi hb).2] at g3; cases g3
  · obtain ⟨d, hd, hd2⟩ := mask_above h.Mb hml hx
    have := (accT_iff _ _ _ _).1 (acc_tv g).2 r2 hr2 d hd
    rw [p1e, p1_iff] at this
    obtain ⟨i, hi, g1, g2, g3, g4⟩ := this
    refine ⟨i, hi, g1, (sub_iff _ _).1 sr2 i hi g2, ?_, g4⟩
    have hM := (sub_iff _ _).1 (cf_sub bR r2 hr2) i hi g2
    cases hb : c.getLsbD i with
    | false => rfl
    | true => rw [hd2 i hi hM (hxc i hi hb).2] at g3; cases g3
/-- a sound client accepts every write set -/
theorem sound_writes {kd : Int} {wt M : S} {R Q : List S} {F m : List F2} (h : soundS kd wt M R Q F m = true) : ∀ t ∈ Q, accS28 kd wt M R Q F m t = true := fun t ht => by
  have tv := sound_tv' h
  obtain ⟨_, h1, _⟩ := (sound_iff tv).1 h
  unfold accS28
  rw [tv]
  simp only [beq_self_eq_true, Bool.true_and]
  rw [accT_iff]
  intro r hr c hc
  have := h1 r hr t ht c hc
  unfold p1 at this
  rw [BitVec.and_comm t r]; exact this
end
end Go.Proofs.YtijknodekomdfaaGreatDoor
/- family.And: the unions by a table of marks. -/
namespace Go.Proofs.YtijknodekomdfaaGreatDoor
open Go.RowKit Go.Lib Go.Shelf

def bothE (f g : List S) : Int := if validS f ≠ 0 then validS f else validS g
theorem bothF_any (a : Option Addr) (n c : Nat) (f : List S) (a2 : Option Addr) (n2 c2 : Nat) (g : List S) (w : World) (h : Rd w a n c 1 (sl f)) (h2 : Rd w a2 n2 c2 1 (sl g)) :
    Calls Tryz.prog 126 #[.slice a n c, .slice a2 n2 c2] w fun e w' => e = .returned (.int .i64 (bothE f g)) ∧ Keeps w w' := by
  have v1 := valid_any a n c f w h
  have v2 := fun W (k : Keeps w W) => valid_any a2 n2 c2 g W (h2.keep k)
  unfold bothE
  generalize validS f = x at *
  generalize validS g = y at *
  have H1 := Lib.hid v1; have H2 := Lib.hid v2
  clear v1 v2 h h2
  by_cases hx : x = 0
  · subst hx
    rw [if_neg (by simp)]
    go_enter Tryz.func126, Tryz.ntmps126
    go_wp2_with fail
    refine H1.out.mono ?_
    rintro e w1 ⟨rfl, K1⟩
    go_wp2_with fail
    refine (H2.out _ K1).mono ?_
    rintro e w2 ⟨rfl, K2⟩
    go_wp2_with fail
    go_ret
    exact ⟨rfl, K1.trans K2⟩
  · rw [if_pos hx]
    have hb : (x != 0) = true := by simpa using hx
    go_enter Tryz.func126, Tryz.ntmps126
    go_wp2_with fail
    refine H1.out.mono ?_
    rintro e w1 ⟨rfl, K1⟩
    go_wp2_with fail
    go_ret
    exact ⟨rfl, K1⟩
/-! ### the table of marks -/
def bl (l : List Bool) : List Value := l.map Value.bool
def marks (N : Nat) (l : List S) : List Bool := (List.range N).map fun i => l.any fun x => x.toNat == i
theorem marks_len (N : Nat) (l : List S) : (marks N l).length = N := by simp [marks]
theorem marks_at (N : Nat) (l : List S) (i : Nat) (h : i < N) : (marks N l).getD i false = l.any fun x => x.toNat == i := by simp [marks, List.getD, h]
theorem marks_snoc (N : Nat) (l : List S) (x : S) : (bl (marks N l)).set x.toNat (.bool true) = bl (marks N (l ++ [x])) := by
  have e : (marks N l).set x.toNat true = marks N (l ++ [x]) := by
    apply List.ext_getElem
    · rw [List.length_set, marks_len, marks_len]
    · intro j h1 h2
      rw [marks_len] at h2
      rw [List.getElem_set]
      unfold marks
      simp only [List.getElem_map, List.getElem_range, List.any_append, List.any_cons, List.any_nil, Bool.or_false]
      by_cases hj : x.toNat = j
      · rw [if_pos hj]; simp [hj]
      · rw [if_neg hj]
        have : (x.toNat == j) = false := by simpa using hj
        rw [this, Bool.or_false]
  rw [← e]
  unfold bl
  rw [List.map_set]
theorem marks_nil (N : Nat) : marks N [] = List.replicate N false := by
  apply List.ext_getElem
  · rw [marks_len, List.length_replicate]
  · intro j h1 h2
    unfold marks
    simp
theorem bl_at (l : List Bool) (i : Nat) (h : i < l.length) : (bl l)[i]? = some (.bool (l.getD i false)) := by simp [bl, List.getD, h]
def colTo (l : List S) (k : Nat) : List S := ((List.range k).filter fun i => l.any fun x => x.toNat == i).map fun i => BitVec.ofNat 16 i
theorem colTo_succ (l : List S) (k : Nat) : colTo l (k + 1) = colTo l k ++ (if (l.any fun x => x.toNat == k) = true then [BitVec.ofNat 16 k] else []) := by
  unfold colTo
  rw [List.range_succ, List.filter_append, List.map_append]
  congr 1
  rw [List.filter_cons]
  split <;> simp
theorem colTo_len (l : List S) (k : Nat) : (colTo l k).length ≤ k := by
  unfold colTo
  rw [List.length_map]
  exact Nat.le_trans (List.length_filter_le _ _) (by rw [List.length_range]; exact Nat.le_refl _)
theorem colTo_mem {N : Nat} {l : List S} (h : ∀ x ∈ l, x.toNat < N) (x : S) : x ∈ colTo l N ↔ x ∈ l := by
  unfold colTo
  rw [List.mem_map]
  constructor
  · rintro ⟨i, hi, rfl⟩
    rw [List.mem_filter, List.any_eq_true] at hi
    obtain ⟨h1, y, hy, hyi⟩ := hi
    have e : y.toNat = i := by simpa using hyi
    rw [← e, BitVec.ofNat_toNat, BitVec.setWidth_eq]; exact hy
  · intro hx
    refine ⟨x.toNat, List.mem_filter.2 ⟨List.mem_range.2 (h x hx), List.any_eq_true.2 ⟨x, hx, by simp⟩⟩, ?_⟩
    rw [BitVec.ofNat_toNat, BitVec.setWidth_eq]
theorem colTo_least {l : List S} (h : ∀ x ∈ l, small x) : leastP (colTo l 4096) = leastP l := jl_ext (colTo_mem (N := 4096) h)
theorem infoB : (Tryz.prog.info? 4).map (fun i => (i.zero, i.size, i.bytes)) = some (some (.bool false), 1, 1) := by kernel_rfl
theorem madeB (k : Nat) : (madeCells (Value.bool false).cells (k * 1)).toList = bl (List.replicate k false) := by
  rw [show (Value.bool false).cells = #[.bool false] from rfl, Nat.mul_one, toList_madeCells_one]
  simp [bl, List.map_replicate]
theorem makeB (k : Nat) (hk : k ≤ 1000000) (w : World) : ∃ w', (Instr.makeSlice 184 (.int .i64 (k : Int)) (.int .i64 (k : Int))).run Tryz.prog w = .ok (.slice (some ⟨w.heap.size, 0, none⟩) k k) w' ∧
    Own 4 1 w w' (.slice (some ⟨w.heap.size, 0, none⟩) k k) k (bl (List.replicate k false)) ∧ w'.heap.size = w.heap.size + 1 := by
  obtain ⟨i0, hi, hz0, hz1, hz2⟩ := info_parts infoB
  have hr := run_makeSlice (P := Tryz.prog) w 184 4 i0 (.bool false) Tryz.underlying184 hi hz0 .i64 .i64 k k (by omega) (Int.le_refl _) (by rw [hz1]; omega) (by rw [hz2]; omega) (by omega)
  simp only [Int.toNat_natCast, hz1] at hr
  refine ⟨_, hr, ⟨?_, (Keeps.refl w).alloc _⟩, by rw [World.size_alloc]⟩
  rw [← madeB k]
  exact World.ownsRow_lit w _ k (Nat.le_refl _) (by unfold maxLen; omega) (size_madeCells _ _)
theorem un_snoc (f g : List S) (i k : Nat) (hk : k < g.length) : unS8 (f.take i) g ++ (g.take (k + 1)).map (fun t => at_ f i ||| t) = (unS8 (f.take i) g ++ (g.take k).map (fun t => at_ f i ||| t)) ++ [at_ f i ||| at_ g k] := by
  rw [take_at g k hk, List.map_append, List.append_assoc]; rfl
theorem un_row (f g : List S) (i : Nat) (hi : i < f.length) : unS8 (f.take (i + 1)) g = unS8 (f.take i) g ++ g.map (fun t => at_ f i ||| t) := by
  unfold unS8
  rw [take_at f i hi, List.flatMap_append]
  simp
theorem un_len (f g : List S) : (unS8 f g).length = f.length * g.length := flatMap_count f _ _ (fun _ => List.length_map ..)
theorem sv_toNat (x : S) : (sv x).toNat = x.toNat := by unfold sv; omega
theorem un_small {f g : List S} (hf : ∀ x ∈ f, small x) (hg : ∀ x ∈ g, small x) : ∀ x ∈ unS8 f g, small x := fun x hx => by
  obtain ⟨s, hs, t, ht, rfl⟩ := mem_un.1 hx
  exact small_or (hf s hs) (hg t ht)
theorem andResults {W : World} {tmps : Array Value} {v e : Value} (t1 : tmps.getD 4 undef = v) (t2 : tmps.getD 5 undef = e) :
    (results Tryz.f65 tmps).run Tryz.prog W = .ok (.tuple #[v, e]) W := by
  simp only [Array.getD_eq_getD_getElem?] at t1 t2
  simp [results, Tryz.f65, t1, t2]
set_option maxRecDepth 20000 in
set_option maxHeartbeats 6000000 in
theorem and_any (a : Option Addr) (n c : Nat) (f : List S) (a2 : Option Addr) (n2 c2 : Nat) (g : List S) (w : World) (h : Rd w a n c 1 (sl f)) (h2 : Rd w a2 n2 c2 1 (sl g)) :
    Calls Tryz.prog 65 #[.slice a n c, .slice a2 n2 c2] w fun e w' => ∃ v, e = .returned (.tuple #[v, .int .i64 (andS f g).2]) ∧ Own 31 1 w w' v (andS f g).1.length (sl (andS f g).1) := by
  have hb := bothF_any a n c f a2 n2 c2 g w h h2
  have s1 := h.small; have s2 := h2.small
  have L1 := Lib.hid h.lenS; have L2 := Lib.hid h2.lenS
  by_cases hv : bothE f g = 0
  · have hv1 : validS f = 0 := by
      unfold bothE at hv
      by_cases h0 : validS f = 0
      · exact h0
      · rw [if_pos h0] at hv; exact absurd hv h0
    have hv2 : validS g = 0 := by
      unfold bothE at hv
      rw [if_neg (by simp [hv1])] at hv; exact hv
    have F1 := (valid_iff f).1 hv1
    have F2 := (valid_iff g).1 hv2
    rw [hv] at hb
    have hsf : ∀ i, i < n → small (at_ f i) := fun i hi => F1.low _ (at_mem (by have := L1.out; omega))
    have hsg : ∀ i, i < n2 → small (at_ g i) := fun i hi => F2.low _ (at_mem (by have := L2.out; omega))
    have hcl := colTo_least (un_small F1.low F2.low)
    have hr : andS f g = limS (leastP (unS8 f g)) := by unfold andS; rw [if_neg (by simp [hv1]), if_neg (by simp [hv2])]
    rw [← hcl] at hr
    have HB := Lib.hid hb; have HR := Lib.hid hr; have HSF := Lib.hid hsf; have HSG := Lib.hid hsg; have HF := Lib.hid h; have HG := Lib.hid h2
    clear hb hr hsf hsg hcl F1 F2 hv1 hv2 hv h h2
    rw [HR.out]
    obtain ⟨U, hU⟩ : ∃ U, U = unS8 f g := ⟨_, rfl⟩
    rw [← hU]
    have HU := Lib.hid hU
    clear hU HR
    go_enter Tryz.func65, Tryz.ntmps65
    go_wp2_with fail
    refine HB.out.mono ?_
    rintro e w1 ⟨rfl, K1⟩
    obtain ⟨w2, hmk, hO, hsz⟩ := makeB 4096 (by decide) w1
    have hmk' : (Instr.makeSlice 184 (.int .i64 4096) (.int .i64 4096)).run Tryz.prog w1 = .ok (.slice (some ⟨w1.heap.size, 0, none⟩) 4096 4096) w2 := hmk
    rw [← marks_nil 4096] at hO
    have HO := Lib.hid hO
    clear hO hsz hmk
    go_wp2_with fail
    clear hmk'
    go_loopw [24] (fun v wr => ∃ i : Nat, i ≤ n ∧ v = .int .i64 i ∧ Own 4 1 w1 wr (.slice (some ⟨w1.heap.size, 0, none⟩) 4096 4096) 4096 (bl (marks 4096 (unS8 (f.take i) g)))) (fun v _ => n - (RowKit.intOf v).toNat)
    case atStart => exact ⟨0, Nat.zero_le _, rfl, HO.out⟩
    case round =>
      obtain ⟨i, hi, rfl, hO⟩ := hrel
      have KO := hO.2
      have HO := Lib.hid hO
      clear hO
      by_cases hlt : i < n
      · have g0 := (HF.out.keep (K1.trans KO)).at hlt
        have hs := HF.out.isSome (by omega)
        have hrow := un_row f g i (by have := L1.out; omega)
        have hstep := fun k hk => un_snoc f g i k hk
        have hsm := HSF.out i hlt
        generalize at_ f i = x at *
        generalize unS8 (f.take i) g = pre at *
        have HROW := Lib.hid hrow; have HST := Lib.hid hstep
        clear hrow hstep
        go_wp2_with fail
        clear g0
        go_loopw [30] (fun v wr => ∃ k : Nat, k ≤ n2 ∧ v = .int .i64 k ∧ Own 4 1 w1 wr (.slice (some ⟨w1.heap.size, 0, none⟩) 4096 4096) 4096 (bl (marks 4096 (pre ++ (g.take k).map (fun t => x ||| t))))) (fun v _ => n2 - (RowKit.intOf v).toNat)
        case atStart => exact ⟨0, Nat.zero_le _, rfl, by rw [List.take_zero, List.map_nil, List.append_nil]; exact HO.out⟩
        case round =>
          obtain ⟨k, hk, rfl, hO2⟩ := hrel
          have KO2 := hO2.2
          by_cases hltk : k < n2
          · have g1 := (HG.out.keep (K1.trans KO2)).at hltk
            have hs2 := HG.out.isSome (by omega)
            have hst := HST.out k (by have := L2.out; omega)
            have hz := small_or hsm (HSG.out k hltk)
            generalize at_ g k = y at *
            generalize pre ++ (g.take k).map (fun t => x ||| t) = cur at *
            have hzn : (x ||| y).toNat < 4096 := hz
            have hsc := marks_snoc 4096 cur (x ||| y)
            obtain ⟨q1, q2⟩ : (wr.cell? ⟨w1.heap.size, (x ||| y).toNat, none⟩).isSome = true ∧ wr.frozen? ⟨w1.heap.size, (x ||| y).toNat, none⟩ = false := ⟨by
              rw [hO2.1.cellAt _ (by rw [Nat.mul_one]; exact hzn), bl_at _ _ (by rw [marks_len]; exact hzn)]; rfl, hO2.1.frozenAt _⟩
            obtain ⟨u0, hu0⟩ := Option.isSome_iff_exists.1 q1
            have hp := own_put1' hO2 (x ||| y).toNat (.bool true)
            rw [hsc, ← hst] at hp
            have HP := Lib.hid hp
            have hb0 : 0 ≤ sv (x ||| y) := (sv_bound _).1
            have hb1 : sv (x ||| y) < 4096 := by unfold sv; omega
            have htn := sv_toNat (x ||| y)
            rw [← htn] at hu0 q2
            rw [← htn] at HP
            clear hO2 hst hsc q1 hp htn hzn hz
            go_wp2_with fail
            go_roundw
            case rel => exact ⟨k + 1, by omega, by go_num, HP.out⟩
            case measure => simp [RowKit.intOf]; omega
          · have hkk : g.take k = g := List.take_of_length_le (by have := L2.out; omega)
            rw [hkk, ← HROW.out] at hO2
            have HO2 := Lib.hid hO2
            clear hO2
            go_wp2_with fail
            go_roundw
            case rel => exact ⟨i + 1, by omega, by go_num, HO2.out⟩
            case measure => simp [RowKit.intOf]; omega
      · have hii : f.take i = f := List.take_of_length_le (by have := L1.out; omega)
        rw [hii, ← HU.out] at HO
        obtain ⟨W2, rfl⟩ : ∃ V, V = wr := ⟨_, rfl⟩
        have KR := K1.trans KO
        have hO := HO.out
        have hRb := (HO.out).rd
        obtain ⟨ab, cb, hab, hRb⟩ := hRb
        cases hab
        have HRB := Lib.hid hRb
        clear hO hRb
        go_wp2_with fail
        go_loopw [12, 43] (fun u v wr => ∃ k : Nat, k ≤ 4096 ∧ v = .int .i64 k ∧ Own 31 1 W2 wr u (colTo U k).length (sl (colTo U k))) (fun _ v _ => 4096 - (RowKit.intOf v).toNat)
        case atStart => exact ⟨0, Nat.zero_le _, rfl, Own.nil _ _ (Keeps.refl _)⟩
        case round =>
          obtain ⟨k, hk, rfl, hO3⟩ := hrel
          have K3 := hO3.2
          have hlen := colTo_len U k
          by_cases hltk : k < 4096
          · have g2 : wr.cell? ⟨w1.heap.size, k, none⟩ = some (.bool (U.any fun x => x.toNat == k)) := by
              rw [← marks_at 4096 U k hltk]
              exact K3.cell ((HO.out.1.cellAt k (by omega)).trans (bl_at _ _ (by rw [marks_len]; exact hltk)))
            have hsc := colTo_succ U k
            have hbk : (k : Int) < 4096 := by omega
            generalize (U.any fun x => x.toNat == k) = q at *
            have hcv : IntKind.u16.wrap (k : Int) = sv (BitVec.ofNat 16 k) := by
              rw [sv_lit k (by omega), IntKind.wrap_u16]; omega
            obtain ⟨ao, co, rfl, _⟩ := hO3.rd
            have HO3 := Lib.hid hO3; have HSC := Lib.hid hsc
            clear hO3 hsc
            cases q with
            | true =>
              go_wp2_with (at_builtin; refine wp_app tyS rfl _ _ rfl (HO3.out.alloc _) rfl rfl (rd_new 31 1 _ [.int .u16 (sv (BitVec.ofNat 16 k))] 1 (by decide) rfl) (sl_oneCell [BitVec.ofNat 16 k]) (by omega) ?_)
              intro v4 w4 hO4 _
              have HO4 := Lib.hid hO4
              clear hO4
              go_wp2_with fail
              go_roundw
              case rel => exact ⟨k + 1, by omega, by go_num, by (rw [HSC.out]; first | rw [if_pos trivial] | rw [if_pos rfl]); exact HO4.out.snoc⟩
              case measure => simp [RowKit.intOf]; omega
            | false =>
              go_wp2_with fail
              go_roundw
              case rel => exact ⟨k + 1, by omega, by go_num, by (rw [HSC.out]; first | rw [if_neg id] | rw [if_neg (by decide)]); rw [List.append_nil]; exact HO3.out⟩
              case measure => simp [RowKit.intOf]; omega
          · have hkk : k = 4096 := by omega
            subst hkk
            obtain ⟨ao, co, rfl, hRo⟩ := hO3.rd
            have hcall := fun W (k : Keeps wr W) => least_any ao _ co _ W (hRo.keep k) (by omega)
            have HC := Lib.hid hcall
            clear hcall hO3 hRo
            go_wp2_with fail
            refine (HC.out _ (Keeps.refl _)).mono ?_
            rintro e w4 ⟨v4, rfl, hO4⟩
            go_wp2_with fail
            refine (limited_any v4 _ wr w4 hO4).mono ?_
            intro e w5 hret
            unfold RetS at hret
            obtain ⟨v5, rfl, hO5⟩ := hret
            go_wp2_with fail
            go_ret2
            exact ⟨_, rfl, hO5.since (KR.trans K3)⟩
  · have hr : andS f g = ([], bothE f g) := by
      unfold andS bothE at *
      by_cases h0 : validS f = 0
      · rw [if_neg (by simp [h0])] at hv ⊢
        rw [if_pos hv, if_neg (by simp [h0])]
      · rw [if_pos h0, if_pos h0]
    rw [hr]
    generalize bothE f g = z at *
    have hz : (z != 0) = true := by simpa using hv
    have HB := Lib.hid hb
    clear hb hv hr h h2
    go_enter Tryz.func65, Tryz.ntmps65
    go_wp2_with fail
    refine HB.out.mono ?_
    rintro e w1 ⟨rfl, K1⟩
    go_wp2_with fail
    go_ret2
    exact ⟨_, rfl, Own.nil _ _ K1⟩
end Go.Proofs.YtijknodekomdfaaGreatDoor
/- The reference's And; both Normalize. -/
namespace Go.Proofs.YtijknodekomdfaaGreatDoor
open Go.RowKit Go.Lib Go.Shelf

/-! ### Normalize -/
theorem nmzL_eq (l : List F2) : nmzL l = if nmzE l ≠ 0 then [] else normF l := rfl
/-- the first error of faults -/
def chkL : List F2 → Int
  | [] => 0
  | x :: xs => if chkF x ≠ 0 then chkF x else chkL xs
theorem nmz_chk (l : List F2) : nmzE l = if l.length = 0 then 9 else if chkL l ≠ 0 then chkL l else limE (normF l) := by
  unfold nmzE
  by_cases h : l.length = 0
  · rw [if_pos h, if_pos h]
  · rw [if_neg h, if_neg h]
    generalize limE (normF l) = z
    clear h
    induction l with
    | nil => rfl
    | cons x xs ih =>
      rw [List.find?_cons, chkL]
      by_cases hx : chkF x = 0
      · have e : (if chkF x ≠ 0 then chkF x else chkL xs) = chkL xs := if_neg (by simp [hx])
        have hb : (chkF x != 0) = false := by simp [hx]
        rw [e, hb]; exact ih
      · have e : (if chkF x ≠ 0 then chkF x else chkL xs) = chkF x := if_pos hx
        have hb : (chkF x != 0) = true := by simpa using hx
        rw [e, hb, if_pos hx]
theorem nmz_cases (l : List F2) : (nmzE l = 0 ∧ limE (normF l) = 0 ∧ chkL l = 0 ∧ l.length ≠ 0 ∧ nmzL l = limL (normF l)) ∨ (l.length = 0 ∧ nmzE l = 9 ∧ nmzL l = []) ∨ (l.length ≠ 0 ∧ chkL l ≠ 0 ∧ nmzE l = chkL l ∧ nmzL l = []) ∨ (l.length ≠ 0 ∧ chkL l = 0 ∧ nmzE l = limE (normF l) ∧ nmzL l = limL (normF l)) := by
  have h := nmz_chk l
  by_cases h0 : l.length = 0
  · rw [if_pos h0] at h
    exact .inr (.inl ⟨h0, h, if_pos (by rw [h]; decide)⟩)
  · rw [if_neg h0] at h
    by_cases h1 : chkL l = 0
    · rw [if_neg (by simp [h1])] at h
      refine .inr (.inr (.inr ⟨h0, h1, h, ?_⟩))
      unfold nmzL
      rw [h]
      unfold limE limL
      by_cases h2 : 100 < (normF l).length
      · rw [if_pos h2, if_pos h2, if_pos (by decide)]
      · rw [if_neg h2, if_neg h2, if_neg (by decide)]
    · rw [if_pos h1] at h
      exact .inr (.inr (.inl ⟨h0, h1, h, if_pos (by rw [h]; exact h1)⟩))
theorem newF' (x : F2) (w : World) : (w.alloc (.cells #[.int .u16 (sv x.1), .int .u16 (sv x.2)] 34)).cell? ⟨w.heap.size, 0, none⟩ = some (.int .u16 (sv x.1)) ∧ (w.alloc (.cells #[.int .u16 (sv x.1), .int .u16 (sv x.2)] 34)).cell? ⟨w.heap.size, 1, none⟩ = some (.int .u16 (sv x.2)) := newF x w _
set_option maxRecDepth 20000 in
set_option maxHeartbeats 3000000 in
theorem normalize_any (a : Option Addr) (c : Nat) (l : List F2) (w : World) (h : Rd w a l.length c 2 (fl l)) (hb : l.length ≤ 1000000) :
    Calls Tryz.prog 129 #[.slice a l.length c] w fun e w' => ∃ v, e = .returned (.tuple #[v, .int .i64 (nmzE l)]) ∧ Own 34 2 w w' v (nmzL l).length (fl (nmzL l)) := by
  have s1 := h.small
  have hn := fun W (k : Keeps w W) => normal2_any a c l W (h.keep k) hb
  have hcs := nmz_chk l
  have hcl : chkL l = 0 → l.length ≠ 0 → nmzL l = limL (normF l) ∧ nmzE l = limE (normF l) := fun h1 h0 => by
    rcases nmz_cases l with ⟨a1, a2, _, _, a5⟩ | ⟨a1, _⟩ | ⟨_, a1, _⟩ | ⟨_, _, a3, a4⟩
    · exact ⟨a5, by rw [a1, a2]⟩
    · exact absurd a1 h0
    · exact absurd h1 a1
    · exact ⟨a4, a3⟩
  by_cases h0 : l.length = 0
  · have e1 : nmzE l = 9 := by rw [hcs, if_pos h0]
    have e2 : nmzL l = [] := if_pos (by rw [e1]; decide)
    rw [e1, e2]
    have hb : ((l.length : Int) == 0) = true := by rw [beq_iff_eq]; omega
    clear hn hcs hcl h e1 e2 h0
    go_enter Tryz.func129, Tryz.ntmps129
    go_wp2_with fail
    go_ret2
    exact ⟨_, rfl, Own.nil _ _ (Keeps.refl _)⟩
  · rw [if_neg h0] at hcs
    have hb : ((l.length : Int) == 0) = false := by rw [beq_eq_false_iff_ne]; omega
    have HN := Lib.hid hn; have HCS := Lib.hid hcs; have HCL := Lib.hid hcl; have HR := Lib.hid h; have H0 := Lib.hid h0
    clear hn hcs hcl h h0
    go_enter Tryz.func129, Tryz.ntmps129
    go_wp2_with fail
    go_loopw [12] (fun v wr => ∃ k : Nat, k ≤ l.length ∧ v = .int .i64 k ∧ Keeps w wr ∧ Hid (chkL l = chkL (l.drop k))) (fun v _ => l.length - (RowKit.intOf v).toNat)
    case atStart => exact ⟨0, Nat.zero_le _, rfl, Keeps.refl _, rfl⟩
    case round =>
      obtain ⟨k, hk, rfl, K, HI⟩ := hrel
      by_cases hlt : k < l.length
      · have g0 := (HR.out.keep K).f0 hlt
        have g1 := (HR.out.keep K).f1' hlt
        have hs := HR.out.isSome (by omega)
        have hdr := drop_fa l k hlt
        have HI2 := HI.out
        rw [hdr, chkL] at HI2
        have hck := fun W => check_any (fa l k) W
        generalize fa l k = x at *
        obtain ⟨q0, q1⟩ := newF' x wr
        have K2 := (Keeps.refl wr).alloc (.cells #[.int .u16 (sv x.1), .int .u16 (sv x.2)] 34)
        generalize chkF x = z at *
        have HC := Lib.hid hck; have HJ := Lib.hid HI2
        have hlt' : (k : Int) < (l.length : Int) := by omega
        clear hck HI2 HI hdr
        go_wp2_with fail
        refine (HC.out _).mono ?_
        rintro e w2 ⟨rfl, K3⟩
        by_cases hz : z = 0
        · subst hz
          have HJ2 : Hid (chkL l = chkL (l.drop (k + 1))) := by have := HJ.out; rw [if_neg (by simp)] at this; exact this
          go_wp2_with fail
          go_roundw
          case rel => exact ⟨k + 1, by omega, by go_num, (K.trans K2).trans K3, HJ2⟩
          case measure => simp [RowKit.intOf]; omega
        · have e0 : chkL l = z := by have := HJ.out; rw [if_pos hz] at this; exact this
          have e1 : nmzE l = z := by have := HCS.out; rw [e0, if_pos hz] at this; exact this
          have e2 : nmzL l = [] := if_pos (by rw [e1]; exact hz)
          have HE := Lib.hid (And.intro e1 e2)
          have hb : (z != 0) = true := by simpa using hz
          clear e0 e1 e2
          go_wp2_with fail
          go_ret2
          rw [HE.out.1, HE.out.2]
          exact ⟨_, rfl, Own.nil _ _ ((K.trans K2).trans K3)⟩
      · have e0 : chkL l = 0 := by have := HI.out; rw [List.drop_eq_nil_of_le (by omega)] at this; exact this
        have HE := Lib.hid (HCL.out e0 H0.out)
        clear e0
        go_wp2_with fail
        refine (HN.out _ K).mono ?_
        rintro e w2 ⟨v2, rfl, hO2⟩
        go_wp2_with fail
        go_ret2
        rw [HE.out.1, HE.out.2]
        exact ⟨_, rfl, hO2.since K⟩
end Go.Proofs.YtijknodekomdfaaGreatDoor
/- The reference's Normalize. -/
namespace Go.Proofs.YtijknodekomdfaaGreatDoor
open Go.RowKit Go.Lib Go.Shelf

end Go.Proofs.YtijknodekomdfaaGreatDoor
