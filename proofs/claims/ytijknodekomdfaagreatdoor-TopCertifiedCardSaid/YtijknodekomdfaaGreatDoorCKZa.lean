/- Texts joined into one, what is needed of them (a program of ours). -/
import Derived.Test.YtijknodekomdfaaGreatDoorCKM
import Derived.Test.YtijknodekomdfaaGreatDoorCKYv
import Derived.Test.YtijknodekomdfaaGreatDoorCKA
import Derived.Deep.RegionHeld3
import Derived.Deep.LoopGhost
import Derived.IntWalk
import Derived.Test.YtijknodekomdfaaGreatDoorCKYy
import Derived.Lib.QuietBelow
import Derived.Test.YtijknodekomdfaaGreatDoorCKJ
import Derived.Test.YtijknodekomdfaaGreatDoorCKF
namespace Go.Proofs.YtijknodekomdfaaGreatDoor
open Go.RowKit Go.Lib Go.Shelf

theorem str_inj {a b : ByteArray} (h : a.toList = b.toList) : a = b := by
  rw [ByteArray.toList_eq, ByteArray.toList_eq] at h
  have : a.data = b.data := Array.toList_inj.1 h
  cases a; cases b; simp_all
@[go_sem] theorem str_beq (a b : ByteArray) : (a.toList == b.toList) = decide (a = b) := by
  rw [Bool.eq_iff_iff, beq_iff_eq, decide_eq_true_eq]
  exact ⟨str_inj, fun h => by rw [h]⟩
section
variable {α : Type} (enc : α → List Value) (sz : Nat)
def fle (l : List α) : List Value := l.flatMap enc
theorem fle_len (hsz : ∀ x, (enc x).length = sz) (l : List α) : (fle enc l).length = l.length * sz := by
  induction l with
  | nil => simp [fle]
  | cons x xs ih => unfold fle at *; rw [List.flatMap_cons, List.length_append, ih, hsz, List.length_cons, Nat.succ_mul]; omega
theorem fle_at (hsz : ∀ x, (enc x).length = sz) : ∀ (l : List α) (i : Nat) (hi : i < l.length) (j : Nat), j < sz → (fle enc l)[i * sz + j]? = (enc l[i])[j]?
  | x :: xs, 0, _, j, hj => by unfold fle; rw [List.flatMap_cons, Nat.zero_mul, Nat.zero_add, List.getElem?_append_left (by rw [hsz]; exact hj)]; rfl
  | x :: xs, i + 1, hi, j, hj => by
    have := fle_at hsz xs i (by simpa using hi) j hj
    unfold fle at *
    rw [List.flatMap_cons, List.getElem?_append_right (by rw [hsz, Nat.succ_mul]; omega), hsz, show (i + 1) * sz + j - sz = i * sz + j by rw [Nat.succ_mul]; omega, this]
    rfl
theorem fle_append (l m : List α) : fle enc (l ++ m) = fle enc l ++ fle enc m := by unfold fle; rw [List.flatMap_append]
theorem fle_cells (h1 : ∀ x, ∀ v ∈ enc x, v.oneCell' = true) (l : List α) : ∀ v ∈ fle enc l, v.oneCell' = true := fun v hv => by
  obtain ⟨x, _, hx⟩ := List.mem_flatMap.1 hv
  exact h1 x v hx
theorem rd_lenE (hsz : ∀ x, (enc x).length = sz) {w : World} {a : Option Addr} {n c : Nat} {l : List α} (hp : 0 < sz) (h : Rd w a n c sz (fle enc l)) : l.length = n := by
  have := h.len; rw [fle_len enc sz hsz] at this
  exact Nat.eq_of_mul_eq_mul_right hp this
theorem rd_atE (hsz : ∀ x, (enc x).length = sz) {w : World} {a : Option Addr} {n c : Nat} {l : List α} (hp : 0 < sz) (h : Rd w a n c sz (fle enc l)) {i : Nat} (hi : i < n) (d : α) (j : Nat) (hj : j < sz) {v : Value} (hv : (enc (l.getD i d))[j]? = some v) : w.cell? (adr a (i * sz + j)) = some v := by
  have hl := rd_lenE enc sz hsz hp h
  refine h.cell _ _ ?_
  rw [fle_at enc sz hsz l i (by omega) j hj, ← hv]
  simp [List.getD, show i < l.length by omega]
theorem adr_off {w : World} {a : Option Addr} {i j : Nat} {v : Value} (h : w.cell? (adr a (i + j)) = some v) (hj : 0 < j) : w.cell? ⟨(adr a i).block, (adr a i).off + j, none⟩ = some v := by
  have e : adr a (i + j) = ⟨(adr a i).block, (adr a i).off + j, none⟩ := by
    rw [← adr_add a i j]
    unfold Addr.add
    rw [if_neg (by omega)]
  rw [← e]; exact h
theorem getD_dropE (l : List α) (i : Nat) (d : α) (h : i < l.length) : l.drop i = l.getD i d :: l.drop (i + 1) := by
  rw [List.drop_eq_getElem_cons h]; simp [List.getD, h]
theorem getD_takeE (l : List α) (i : Nat) (d : α) (h : i < l.length) : l.take (i + 1) = l.take i ++ [l.getD i d] := by
  rw [List.take_succ_eq_append_getElem h]; simp [List.getD, h]
theorem getD_memE {l : List α} {i : Nat} (d : α) (h : i < l.length) : l.getD i d ∈ l := by simp [List.getD, h]
end
/-- a row of the call's own, one cell written -/
theorem own_put1' {e : TypeId} {sz : Nat} {w0 w : World} {g n cap : Nat} {xs : List Value} (h : Own e sz w0 w (.slice (some ⟨g, 0, none⟩) n cap) n xs) (k : Nat) (v : Value) :
    Own e sz w0 (w.setCell ⟨g, k, none⟩ v) (.slice (some ⟨g, 0, none⟩) n cap) n (xs.set k v) :=
  ⟨(h.1.stored k v).1, Below.setCell h.2.below (by exact (h.1.lt g rfl).1) _⟩
/-- rows of different types lie in different blocks -/
theorem row_ne {e e' : TypeId} {sz sz' b b' : Nat} {w : World} {v u : Value} {n m : Nat} {xs ys : List Value} (h : w.ownsRow b e sz v n xs) (k : w.ownsRow b' e' sz' u m ys) (he : e ≠ e') : v.ownBlock = none ∨ v.ownBlock ≠ u.ownBlock := by
  rcases h.2 with ⟨rfl, _⟩ | ⟨g, cap, cur, rfl, _, hg, _⟩
  · exact .inl rfl
  · right
    rcases k.2 with ⟨rfl, _⟩ | ⟨g', cap', cur', rfl, _, hg', _⟩
    · intro h; cases h
    · intro h
      have e1 : g = g' := by injection h
      subst e1
      rw [hg] at hg'
      injection hg' with hg'
      injection hg' with _ h2
      exact he h2
theorem row_kept {e e' : TypeId} {sz sz' b b' : Nat} {w w' : World} {v u : Value} {n m : Nat} {xs ys : List Value} (h : w.ownsRow b e sz v n xs) (k : w.ownsRow b' e' sz' u m ys) (he : e ≠ e') (hg : w.grownBy w' u.ownBlock) : w'.ownsRow b e sz v n xs :=
  h.kept hg (row_ne h k he)
theorem blk_ne {e' T : TypeId} {sz' b' : Nat} {w : World} {u : Value} {m B : Nat} {ys : List Value} {cs : Array Value} (h : Blk w B T cs) (k : w.ownsRow b' e' sz' u m ys) (he : T ≠ e') : some B ≠ u.ownBlock := by
  intro hb
  rcases k.2 with ⟨rfl, _⟩ | ⟨g', cap', cur', rfl, _, hg', _⟩
  · cases hb
  · have e1 : B = g' := by injection hb
    subst e1
    unfold Blk at h
    rw [hg'] at h
    injection h with h
    injection h with _ h2
    exact he h2.symm
/-- a store into a block of another type -/
theorem row_set {e T : TypeId} {sz b : Nat} {w : World} {v : Value} {n : Nat} {xs : List Value} (h : w.ownsRow b e sz v n xs) {B : Nat} {cs : Array Value} (hB : Blk w B T cs) (hT : T ≠ e) (i : Nat) (u : Value) : (w.setCell ⟨B, i, none⟩ u).ownsRow b e sz v n xs := by
  refine ⟨h.1, ?_⟩
  rcases h.2 with h2 | ⟨g, cap, cur, hv, hb, hg, r⟩
  · exact .inl h2
  · refine .inr ⟨g, cap, cur, hv, hb, ?_, r⟩
    have hne : g ≠ B := by
      rintro rfl
      unfold Blk at hB
      rw [hg] at hB
      injection hB with hB
      injection hB with _ h2
      exact hT h2.symm
    rw [Below.heap_setCell _ _ _ _ (by simpa using hne)]; exact hg

end Go.Proofs.YtijknodekomdfaaGreatDoor
namespace Go.Proofs.YtijknodekomdfaaGreatDoor
open Go.RowKit Go.Lib Go.Shelf

structure Cf where
  nm : ByteArray
  kd : Int
  M : S
  R : List S
  Q : List S
  F : List F2
def cf00 : Cf := ⟨⟨#[]⟩, 0, 0#16, [], [], []⟩
/-- the error of a configuration with any name -/
def cvf (c : Cf) : Int := if nmB c.nm = true then cvS c.kd c.M c.R c.Q c.F else 1
def unS8 (f g : List S) : List S := f.flatMap fun s => g.map fun t => s ||| t
def andS (f g : List S) : List S × Int := if validS f ≠ 0 then ([], validS f) else if validS g ≠ 0 then ([], validS g) else limS (leastP (unS8 f g))
def jfB (kd : Int) (x : F2) : S := if kd = 2 then x.1 else 0#16
def byJ (kd : Int) (M A : S) (x : F2) : S := (jfB kd x &&& A) ||| (A &&& ~~~M)
def faJ (M A : S) (x : F2) : S := (facF x &&& A) ||| (A &&& ~~~M)
def jnF (a b : Cf) (x y : F2) : F2 :=
  let A := a.M ||| b.M
  let u := byJ b.kd b.M A y &&& byJ a.kd a.M A x
  (u, (faJ b.M A y &&& faJ a.M A x) &&& ~~~u)
def jnL (a b : Cf) : List F2 := a.F.flatMap fun x => b.F.map (jnF a b x)
def jNm : ByteArray := ⟨#[106, 111, 105, 110, 116]⟩
def maxI (x y : Int) : Int := if x ≤ y then y else x
def nmzE (l : List F2) : Int := if l.length = 0 then 9 else match l.find? (fun x => chkF x != 0) with | some x => chkF x | none => limE (normF l)
def nmzL (l : List F2) : List F2 := if nmzE l ≠ 0 then [] else normF l
def ofE (a b : Cf) : Int := if cvf a ≠ 0 then cvf a else if cvf b ≠ 0 then cvf b else if (andS a.R b.R).2 ≠ 0 then (andS a.R b.R).2 else if (andS a.Q b.Q).2 ≠ 0 then (andS a.Q b.Q).2 else nmzE (jnL a b)
def ofC (a b : Cf) : Cf := if ofE a b ≠ 0 then cf00 else ⟨jNm, maxI a.kd b.kd, a.M ||| b.M, (andS a.R b.R).1, (andS a.Q b.Q).1, nmzL (jnL a b)⟩

theorem jl_mem (l : List S) (x : S) : x ∈ leastP l ↔ x ∈ l ∧ ∀ y ∈ l, sub y x = true → y = x := by
  rw [leastP_filter, List.mem_filter, (sortS_asc l).2, lone_iff]
  simp only [(sortS_asc l).2]
theorem jl_asc (l : List S) : Asc (leastP l) := by
  rw [leastP_filter]; exact List.Pairwise.filter _ (sortS_asc l).1
theorem jl_anti (l : List S) : Anti (leastP l) := fun x hx y hy h => ((jl_mem l y).1 hy).2 x ((jl_mem l x).1 hx).1 h
theorem jl_below {l : List S} {x : S} (h : x ∈ l) : ∃ y ∈ leastP l, sub y x = true := by
  obtain ⟨z, hz, h1, h2⟩ := below_lone l _ x rfl h
  exact ⟨z, (jl_mem l z).2 ⟨hz, (lone_iff l z).1 h1⟩, h2⟩
theorem mem_un {f g : List S} {x : S} : x ∈ unS8 f g ↔ ∃ s ∈ f, ∃ t ∈ g, x = s ||| t := by
  unfold unS8
  rw [List.mem_flatMap]
  refine exists_congr fun s => and_congr_right fun _ => ?_
  rw [List.mem_map]
  exact exists_congr fun t => and_congr_right fun _ => eq_comm
theorem sub_orl (s t : S) : sub s (s ||| t) = true := (sub_iff _ _).2 fun i _ h => by rw [BitVec.getLsbD_or, h]; rfl
theorem sub_orr (s t : S) : sub t (s ||| t) = true := (sub_iff _ _).2 fun i _ h => by rw [BitVec.getLsbD_or, h, Bool.or_true]
theorem lim_ok {l : List S} (h : (limS l).2 = 0) : l.length ≤ 400 ∧ (limS l).1 = l := by
  unfold limS at h ⊢
  by_cases h4 : 400 < l.length
  · rw [if_pos h4] at h; exact absurd h (by decide)
  · rw [if_neg h4]; exact ⟨by omega, rfl⟩
theorem and_ok {f g : List S} (h : (andS f g).2 = 0) : validS f = 0 ∧ validS g = 0 ∧ (andS f g).1 = leastP (unS8 f g) ∧ (leastP (unS8 f g)).length ≤ 400 := by
  unfold andS at h ⊢
  by_cases h1 : validS f = 0
  · rw [if_neg (by simp [h1])] at h ⊢
    by_cases h2 : validS g = 0
    · rw [if_neg (by simp [h2])] at h ⊢
      obtain ⟨h3, h4⟩ := lim_ok h
      exact ⟨h1, h2, h4, h3⟩
    · rw [if_pos h2] at h; exact absurd h h2
  · rw [if_pos h1] at h; exact absurd h h1
/-- what a set of the joint family contains -/
theorem and_mem {f g : List S} (h : (andS f g).2 = 0) {x : S} (hx : x ∈ (andS f g).1) : ∃ s ∈ f, ∃ t ∈ g, sub s x = true ∧ sub t x = true ∧ x = s ||| t := by
  obtain ⟨_, _, e, _⟩ := and_ok h
  rw [e] at hx
  obtain ⟨s, hs, t, ht, rfl⟩ := mem_un.1 ((jl_mem _ _).1 hx).1
  exact ⟨s, hs, t, ht, sub_orl _ _, sub_orr _ _, rfl⟩
theorem small_or {x y : S} (h1 : small x) (h2 : small y) : small (x ||| y) := (small_iff _).2 fun i hi hb => by
  rw [BitVec.getLsbD_or, Bool.or_eq_true] at hb
  rcases hb with hb | hb
  · exact (small_iff _).1 h1 i hi hb
  · exact (small_iff _).1 h2 i hi hb
theorem and_fam {f g : List S} (h : (andS f g).2 = 0) : Fam (andS f g).1 := by
  obtain ⟨h1, h2, e, h4⟩ := and_ok h
  have F1 := (valid_iff f).1 h1
  have F2 := (valid_iff g).1 h2
  rw [e]
  refine ⟨h4, fun x hx => ?_, jl_asc _, jl_anti _⟩
  obtain ⟨s, hs, t, ht, rfl⟩ := mem_un.1 ((jl_mem _ _).1 hx).1
  exact small_or (F1.low s hs) (F2.low t ht)
theorem fam_ne0 {l : List S} (hf : Fam l) (h0 : l.length ≠ 0) (h1 : at_ l 0 ≠ 0#16) : ∀ x ∈ l, x ≠ 0#16 := by
  rintro x hx rfl
  have hm : at_ l 0 ∈ l := by unfold at_; simp [List.getD, show 0 < l.length by omega]
  have := hf.anti 0#16 hx _ hm ((sub_iff _ _).2 fun i hi hb => by simp at hb)
  exact h1 this.symm
theorem and_cf {f g : List S} {M N : S} (h : (andS f g).2 = 0) (hf : cfS f M = 0) (hg : cfS g N = 0) : cfS (andS f g).1 (M ||| N) = 0 := by
  have hF := and_fam h
  obtain ⟨f1, f2, f3, f4⟩ := cf_parts hf
  obtain ⟨g1, g2, g3, g4⟩ := cf_parts hg
  obtain ⟨_, _, e, _⟩ := and_ok h
  have h0 : (andS f g).1.length ≠ 0 := by
    intro h0
    have hm1 : at_ f 0 ∈ f := by unfold at_; simp [List.getD, show 0 < f.length by omega]
    have hm2 : at_ g 0 ∈ g := by unfold at_; simp [List.getD, show 0 < g.length by omega]
    obtain ⟨y, hy, _⟩ := jl_below (mem_un.2 ⟨_, hm1, _, hm2, rfl⟩ : at_ f 0 ||| at_ g 0 ∈ unS8 f g)
    rw [← e, List.eq_nil_of_length_eq_zero h0] at hy
    simp at hy
  have hsub : ∀ x ∈ (andS f g).1, sub x (M ||| N) = true := fun x hx => by
    obtain ⟨s, hs, t, ht, _, _, rfl⟩ := and_mem h hx
    exact (sub_iff _ _).2 fun i hi hb => by
      rw [BitVec.getLsbD_or, Bool.or_eq_true] at hb ⊢
      exact hb.imp ((sub_iff _ _).1 (cf_sub hf s hs) i hi) ((sub_iff _ _).1 (cf_sub hg t ht) i hi)
  unfold cfS
  rw [if_neg (by simp [(valid_iff _).2 hF]), if_neg ?_, if_neg ?_]
  · have : supS (andS f g).1 &&& ~~~(M ||| N) = 0#16 := by
      apply BitVec.eq_of_getLsbD_eq
      intro i hi
      rw [BitVec.getLsbD_and, BitVec.getLsbD_not]
      cases hb : (supS (andS f g).1).getLsbD i with
      | false => simp
      | true =>
        obtain ⟨x, hx, hxb⟩ := (supS_bit _ i).1 hb
        rw [(sub_iff _ _).1 (hsub x hx) i hi hxb]; simp
    simp [this]
  · rintro (h1 | h1)
    · exact h0 h1
    · have hm : at_ (andS f g).1 0 ∈ (andS f g).1 := by unfold at_; simp [List.getD, show 0 < (andS f g).1.length by omega]
      obtain ⟨s, hs, t, ht, _, _, he⟩ := and_mem h hm
      rw [h1] at he
      have := fam_ne0 ((valid_iff _).1 f1) f2 f3 s hs
      apply this
      apply BitVec.eq_of_getLsbD_eq
      intro i hi
      have := congrArg (fun z : S => z.getLsbD i) he
      simp only [BitVec.getLsbD_zero, BitVec.getLsbD_or] at this ⊢
      cases hb : s.getLsbD i with
      | false => rfl
      | true => rw [hb] at this; simp at this

theorem jn_chk {a b : Cf} (hM : small a.M) (hN : small b.M) (x y : F2) : chkF (jnF a b x y) = 0 := by
  have hA := small_or hM hN
  unfold jnF
  dsimp only
  generalize a.M ||| b.M = A at *
  refine chk_of ?_ ?_
  · unfold facF byJ faJ
    dsimp only
    apply BitVec.eq_of_getLsbD_eq
    intro i hi
    have h1 := (small_iff _).1 hA i hi
    have h2 : (61440#16).getLsbD i = decide (12 ≤ i) := by
      have : ∀ j : Fin 16, (61440#16).getLsbD j.val = decide (12 ≤ j.val) := by decide
      exact this ⟨i, hi⟩
    simp only [BitVec.getLsbD_and, BitVec.getLsbD_or, BitVec.getLsbD_not, BitVec.getLsbD_zero, hi, decide_true, Bool.true_and, h2]
    by_cases h12 : 12 ≤ i
    · have : A.getLsbD i = false := by
        cases hb : A.getLsbD i with
        | false => rfl
        | true => have := h1 hb; omega
      rw [this]; simp
    · simp [h12]
  · dsimp only
    apply BitVec.eq_of_getLsbD_eq
    intro i hi
    simp only [BitVec.getLsbD_and, BitVec.getLsbD_not, BitVec.getLsbD_zero, hi, decide_true, Bool.true_and]
    generalize BitVec.getLsbD (byJ b.kd b.M A y) i = u
    generalize BitVec.getLsbD (byJ a.kd a.M A x) i = v
    cases u <;> cases v <;> simp
theorem jn_mem {a b : Cf} {z : F2} : z ∈ jnL a b ↔ ∃ x ∈ a.F, ∃ y ∈ b.F, z = jnF a b x y := by
  unfold jnL
  rw [List.mem_flatMap]
  refine exists_congr fun s => and_congr_right fun _ => ?_
  rw [List.mem_map]
  exact exists_congr fun t => and_congr_right fun _ => eq_comm
theorem jn_len (a b : Cf) : (jnL a b).length = a.F.length * b.F.length := flatMap_count a.F _ _ (fun _ => List.length_map ..)
theorem find_none' {l : List F2} (h : ∀ x ∈ l, chkF x = 0) : l.find? (fun x => chkF x != 0) = none := by
  rw [List.find?_eq_none]; intro x hx; simp [h x hx]
theorem nmz_ok {l : List F2} (h0 : 0 < l.length) (hc : ∀ x ∈ l, chkF x = 0) : nmzE l = limE (normF l) := by
  unfold nmzE
  rw [if_neg (by omega), find_none' hc]
theorem nmz_zero {l : List F2} (h0 : 0 < l.length) (hc : ∀ x ∈ l, chkF x = 0) (h : nmzE l = 0) : nmzL l = normF l ∧ (normF l).length ≤ 100 := by
  refine ⟨if_neg (by simp [h]), ?_⟩
  rw [nmz_ok h0 hc] at h
  unfold limE at h
  by_cases h1 : 100 < (normF l).length
  · rw [if_pos h1] at h; exact absurd h (by decide)
  · omega
/-- the normal form of checked faults, if it is short, is a valid model -/
theorem fv_norm' {l : List F2} (h0 : 0 < l.length) (hl : (normF l).length ≤ 100) (hc : ∀ x ∈ l, chkF x = 0) : fvS (normF l) = 0 := by
  obtain ⟨hasc, _⟩ := normF_spec l
  have hmem := normF_mem l
  have hne : 0 < (normF l).length := by
    obtain ⟨z, hz, _⟩ := above_normF l hc _ (fa l 0) rfl (fa_mem h0)
    exact List.length_pos_of_mem hz
  unfold fvS
  rw [if_neg (by omega), if_neg (by omega)]
  exact fvI_zero (normF l) hasc (fun x hx => hc x ((hmem x).1 hx).1) (fun x hx y hy h => ((hmem x).1 hx).2 y ((hmem y).1 hy).1 h) _ 0 (by omega)

theorem cvf_cv {c : Cf} (h : cvf c = 0) : nmB c.nm = true ∧ cvS c.kd c.M c.R c.Q c.F = 0 := by
  unfold cvf at h
  by_cases h1 : nmB c.nm = true
  · rw [if_pos h1] at h; exact ⟨h1, h⟩
  · rw [if_neg h1] at h; exact absurd h (by decide)
structure OfOk (a b : Cf) : Prop where
  va : cvf a = 0
  vb : cvf b = 0
  r : (andS a.R b.R).2 = 0
  q : (andS a.Q b.Q).2 = 0
  f : nmzE (jnL a b) = 0
section
variable {a b : Cf}
theorem OfOk.Ma (h : OfOk a b) : small a.M := cv_small (cvf_cv h.va).2
theorem OfOk.Mb (h : OfOk a b) : small b.M := cv_small (cvf_cv h.vb).2
theorem OfOk.fva (h : OfOk a b) : fvS a.F = 0 := (cv_parts (cvf_cv h.va).2).2.2.2.2
theorem OfOk.fvb (h : OfOk a b) : fvS b.F = 0 := (cv_parts (cvf_cv h.vb).2).2.2.2.2
theorem OfOk.kda (h : OfOk a b) : a.kd = 1 ∨ a.kd = 2 := (cv_parts (cvf_cv h.va).2).1
theorem OfOk.kdb (h : OfOk a b) : b.kd = 1 ∨ b.kd = 2 := (cv_parts (cvf_cv h.vb).2).1
theorem jn_pos (ha : fvS a.F = 0) (hb : fvS b.F = 0) : 0 < (jnL a b).length := by
  rw [jn_len]; exact Nat.mul_pos (fv_pos ha) (fv_pos hb)
theorem jn_allchk (ha : small a.M) (hb : small b.M) : ∀ x ∈ jnL a b, chkF x = 0 := fun z hz => by
  obtain ⟨x, _, y, _, rfl⟩ := jn_mem.1 hz
  exact jn_chk ha hb x y
theorem OfOk.nmz (h : OfOk a b) : nmzL (jnL a b) = normF (jnL a b) ∧ (normF (jnL a b)).length ≤ 100 :=
  nmz_zero (jn_pos h.fva h.fvb) (jn_allchk h.Ma h.Mb) h.f
theorem OfOk.eq (h : OfOk a b) : ofE a b = 0 := by
  unfold ofE
  rw [if_neg (by simp [h.va]), if_neg (by simp [h.vb]), if_neg (by simp [h.r]), if_neg (by simp [h.q])]
  exact h.f
theorem OfOk.c (h : OfOk a b) : ofC a b = ⟨jNm, maxI a.kd b.kd, a.M ||| b.M, (andS a.R b.R).1, (andS a.Q b.Q).1, normF (jnL a b)⟩ := by
  unfold ofC
  rw [if_neg (by simp [h.eq]), h.nmz.1]
theorem jnm_ok : nmB jNm = true := by decide +kernel
theorem OfOk.kd (h : OfOk a b) : (maxI a.kd b.kd = 1 ∧ a.kd = 1 ∧ b.kd = 1) ∨ (maxI a.kd b.kd = 2 ∧ (a.kd = 2 ∨ b.kd = 2)) := by
  unfold maxI
  rcases h.kda with h1 | h1 <;> rcases h.kdb with h2 | h2 <;> rw [h1, h2] <;> simp
theorem OfOk.valid (h : OfOk a b) : cvS (maxI a.kd b.kd) (a.M ||| b.M) (andS a.R b.R).1 (andS a.Q b.Q).1 (normF (jnL a b)) = 0 := by
  obtain ⟨_, a1, a2, a3, _⟩ := cv_parts (cvf_cv h.va).2
  obtain ⟨_, b1, b2, b3, _⟩ := cv_parts (cvf_cv h.vb).2
  have hA := small_or h.Ma h.Mb
  have hr := and_cf h.r a2 b2
  have hq := and_cf h.q a3 b3
  have hf := fv_norm' (jn_pos h.fva h.fvb) h.nmz.2 (jn_allchk h.Ma h.Mb)
  have hM : a.M ||| b.M ≠ 0#16 := fun e => a1 (by
    apply BitVec.eq_of_getLsbD_eq
    intro i hi
    have := congrArg (fun z : S => z.getLsbD i) e
    simp only [BitVec.getLsbD_or, BitVec.getLsbD_zero, Bool.or_eq_false_iff] at this ⊢
    exact this.1)
  have h4 : sv (a.M ||| b.M) / 4096 = 0 := by
    have : (a.M ||| b.M).toNat < 4096 := hA
    unfold sv; omega
  unfold cvS
  rw [if_neg ?_, if_neg (by simp [h4]), if_neg (by simpa using hM), if_neg (by simp [hr]), if_neg (by simp [hq])]
  · exact hf
  · rcases h.kd with ⟨e, _⟩ | ⟨e, _⟩ <;> rw [e] <;> decide
theorem OfOk.cvf (h : OfOk a b) : cvf (ofC a b) = 0 := by
  rw [h.c]
  unfold Go.Proofs.YtijknodekomdfaaGreatDoor.cvf
  rw [if_pos jnm_ok]
  exact h.valid
end
section
variable {a b : Cf}
end
end Go.Proofs.YtijknodekomdfaaGreatDoor
namespace Go.Proofs.YtijknodekomdfaaGreatDoor
open Go.RowKit Go.Lib Go.Shelf

def bl (l : List Bool) : List Value := l.map Value.bool
end Go.Proofs.YtijknodekomdfaaGreatDoor
namespace Go.Proofs.YtijknodekomdfaaGreatDoor
open Go.RowKit Go.Lib Go.Shelf

end Go.Proofs.YtijknodekomdfaaGreatDoor
namespace Go.Proofs.YtijknodekomdfaaGreatDoor
open Go.RowKit Go.Lib Go.Shelf

end Go.Proofs.YtijknodekomdfaaGreatDoor
