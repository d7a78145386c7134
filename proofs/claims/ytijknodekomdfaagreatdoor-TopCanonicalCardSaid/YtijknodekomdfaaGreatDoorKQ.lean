/- Texts joined into one (wip/bin/pack.py): StrM, ComM. -/
import Derived.Test.YtijknodekomdfaaGreatDoorKO
import Derived.Test.YtijknodekomdfaaGreatDoorKF
import Derived.Test.YtijknodekomdfaaGreatDoorKP
/- A client with a stronger model accepts at most what one with a weaker model accepts (plain law). -/
namespace Go.Proofs.YtijknodekomdfaaGreatDoor
open Go.RowKit Go.Lib Go.Shelf

theorem mono_zero {x b b' wt : S} (h : sub b' b = true) (h0 : (x &&& ~~~(b' ||| wt) == 0#16) = true) : (x &&& ~~~(b ||| wt) == 0#16) = true := by
  have e0 : x &&& ~~~(b' ||| wt) = 0#16 := by simpa using h0
  have hs := (sub_iff _ _).1 h
  have : x &&& ~~~(b ||| wt) = 0#16 := by
    apply BitVec.eq_of_getLsbD_eq
    intro i hi
    have e1 := congrArg (fun y : S => y.getLsbD i) e0
    have e2 := hs i hi
    simp only [BitVec.getLsbD_and, BitVec.getLsbD_not, BitVec.getLsbD_or, BitVec.getLsbD_zero, hi, decide_true, Bool.true_and] at e1 ⊢
    cases g1 : x.getLsbD i <;> cases g2 : b.getLsbD i <;> cases g3 : b'.getLsbD i <;> cases g4 : wt.getLsbD i <;> simp_all
  simpa using this
theorem sub_and {a b M : S} (h : sub a b = true) : sub (a &&& M) (b &&& M) = true := by
  rw [sub_iff] at *
  intro i hi g
  rw [BitVec.getLsbD_and, Bool.and_eq_true] at *
  exact ⟨h i hi g.1, g.2⟩
theorem str_iff (a b : List F2) : strS a b = true ↔ ∀ f ∈ b, ∃ g ∈ a, covF g f = true := by
  unfold strS tolF
  simp
theorem str_acc {kd : Int} {wt M s : S} {R Q : List S} {F both m : List F2} (hm : fvS m = 0) (hst : strS both m = true) (ha : accS28 kd wt M R Q F both s = true) : accS28 kd wt M R Q F m s = true := by
  obtain ⟨htv, hacc⟩ := acc_tv ha
  obtain ⟨hcv, hfv⟩ := tv_cv htv
  have hsm := cv_small hcv
  have htm : tvS kd M R Q F m = 0 := by unfold tvS; rw [if_neg (by simp [hcv])]; exact hm
  unfold accS28
  rw [htm]
  simp only [beq_self_eq_true, Bool.true_and]
  rw [accT_iff] at hacc ⊢
  intro r hr b' hb'
  have h1 := ((byz_mem M m hsm (by have := fv_len hm; omega) b').1 hb').1
  obtain ⟨x, hx, rfl⟩ := List.mem_map.1 h1
  obtain ⟨y, hy, hc⟩ := (str_iff _ _).1 hst x hx
  obtain ⟨b, hb, hs⟩ := byz_above M both hsm (by have := fv_len hfv; omega) (y.1 &&& M) (List.mem_map.2 ⟨y, hy, rfl⟩)
  have h2 := hacc r hr b hb
  cases g : (s &&& r &&& ~~~((x.1 &&& M) ||| wt) == 0#16) with
  | false => rfl
  | true =>
    rw [mono_zero (sub_trans (sub_and (covF_sub hc).1) hs) g] at h2
    cases h2
end Go.Proofs.YtijknodekomdfaaGreatDoor
/- Commits and Limits of the reference are the program's; what they say of Accepts and Sound (plain laws). -/
namespace Go.Proofs.YtijknodekomdfaaGreatDoor
open Go.RowKit Go.Lib Go.Shelf

theorem mem_inTo (M : S) (x : S) : ∀ n, n ≤ 65536 → (x ∈ inTo M n ↔ x.toNat < n ∧ sub x M = true)
  | 0, _ => by simp [inTo]
  | n + 1, h => by
    have hn : (BitVec.ofNat 16 n).toNat = n := by rw [BitVec.toNat_ofNat, Nat.mod_eq_of_lt (by omega)]
    have hs : (BitVec.ofNat 16 n &&& ~~~M == 0#16) = sub (BitVec.ofNat 16 n) M := rfl
    rw [inTo, List.mem_append, mem_inTo M x n (by omega), hs]
    constructor
    · rintro (⟨h1, h2⟩ | h1)
      · exact ⟨by omega, h2⟩
      · cases g : sub (BitVec.ofNat 16 n) M with
        | false => rw [g] at h1; simp at h1
        | true =>
          rw [g, if_pos rfl, List.mem_singleton] at h1
          subst h1
          exact ⟨by omega, g⟩
    · rintro ⟨h1, h2⟩
      by_cases e : x.toNat = n
      · right
        have ex : x = BitVec.ofNat 16 n := BitVec.eq_of_toNat_eq (by rw [hn, e])
        rw [← ex, h2, if_pos rfl]
        exact List.mem_singleton.2 rfl
      · exact .inl ⟨by omega, h2⟩
theorem mem_insM {M : S} (hM : small M) (x : S) : x ∈ insM M ↔ sub x M = true := by
  unfold insM
  rw [mem_inTo M x 4096 (by omega)]
  exact ⟨fun h => h.2, fun h => ⟨small_of_sub h hM, h⟩⟩
theorem sort_ext {l l' : List S} (h : ∀ x, x ∈ l ↔ x ∈ l') : sortS' l = sortS' l' :=
  asc_ext (sortS_asc l).1 (sortS_asc l').1 (fun x => by rw [(sortS_asc l).2, (sortS_asc l').2]; exact h x)
theorem sort_of_asc {l l' : List S} (h : Asc l) (hm : ∀ x, x ∈ l ↔ x ∈ l') : sortS' l' = l :=
  asc_ext (sortS_asc l').1 h (fun x => by rw [(sortS_asc l').2]; exact (hm x).symm)
theorem refGreatest_ext {l l' : List S} (h : ∀ x, x ∈ l ↔ x ∈ l') : refGreatest l = refGreatest l' := by rw [refGreatest_filter, refGreatest_filter, sort_ext h]
theorem cmFold_leastR (wt : S) (byz R : List S) : ∀ (l acc : List S), l.foldl (cmStep wt byz R) acc = leastR acc (l.filter fun s => accT s wt byz R)
  | [], acc => by simp [leastR]
  | s :: l, acc => by
    rw [List.foldl_cons]
    cases h : accT s wt byz R with
    | false =>
      rw [List.filter_cons_of_neg (by simp [h]), show cmStep wt byz R acc s = acc by unfold cmStep; rw [h]; simp]
      exact cmFold_leastR wt byz R l acc
    | true =>
      rw [List.filter_cons_of_pos (by simp [h]), leastR]
      by_cases g : accS acc s = true
      · rw [if_pos g, show cmStep wt byz R acc s = acc by unfold cmStep; rw [if_pos g]]
        exact cmFold_leastR wt byz R l acc
      · rw [if_neg g, show cmStep wt byz R acc s = acc ++ [s] by unfold cmStep; rw [if_neg g, if_pos h]]
        exact cmFold_leastR wt byz R l (acc ++ [s])
theorem asc_filter {l : List S} (h : Asc l) (p : S → Bool) : Asc (l.filter p) := List.Pairwise.sublist List.filter_sublist h
/-- the accepted sets of members, in order -/
def accL (wt M : S) (byz R : List S) : List S := (subsetsL M).filter fun s => accT s wt byz R
theorem cmFold_eq {M : S} (hM : small M) (wt : S) (byz R : List S) : cmFold wt byz R (subsetsL M) = (accL wt M byz R).filter (lone (accL wt M byz R)) := by
  unfold cmFold
  rw [cmFold_leastR]
  exact leastR_filter (accL wt M byz R) (asc_filter (subsets_asc hM) _) _ [] [] rfl rfl
theorem refLeast_acc {M : S} (hM : small M) (wt : S) (byz R : List S) : refLeast ((insM M).filter fun s => accT s wt byz R) = cmFold wt byz R (subsetsL M) := by
  rw [refLeast_filter, cmFold_eq hM]
  have : sortS' ((insM M).filter fun s => accT s wt byz R) = accL wt M byz R := by
    refine sort_of_asc (asc_filter (subsets_asc hM) _) (fun x => ?_)
    unfold accL
    rw [List.mem_filter, List.mem_filter, mem_subsets hM, mem_insM hM]
  rw [this]
theorem outS_small {x : S} (h : small x) : outS x = false := by
  unfold outS
  rw [Bool.eq_false_iff]
  intro e
  have e1 : x &&& 61440#16 ≠ 0#16 := by simpa using e
  apply e1
  apply BitVec.eq_of_getLsbD_eq
  intro i hi
  rw [BitVec.getLsbD_and, BitVec.getLsbD_zero]
  cases g : x.getLsbD i with
  | false => rfl
  | true =>
    have := (small_iff x).1 h i hi g
    have h12 : ∀ j : Fin 12, (61440#16 : S).getLsbD j.val = false := by decide
    rw [h12 ⟨i, this⟩]; rfl
theorem any_out {l : List S} (h : ∀ x ∈ l, small x) : l.any outS = false := by
  rw [List.any_eq_false]; intro x hx; rw [outS_small (h x hx)]; simp
/-- what the reference's Commits gives -/
def rcomS (kd : Int) (wt M : S) (R Q : List S) (F m : List F2) : List S × Int :=
  if tvS kd M R Q F m ≠ 0 then ([], tvS kd M R Q F m) else chkR ((insM M).filter (raccS kd wt M R Q F m)) (refLeast ((insM M).filter (raccS kd wt M R Q F m)))
theorem rcom_eq (kd : Int) (wt M : S) (R Q : List S) (F m : List F2) : rcomS kd wt M R Q F m = comS kd wt M R Q F m := by
  unfold rcomS comS
  by_cases h : tvS kd M R Q F m = 0
  · rw [if_neg (by simp [h]), if_neg (by simp [h])]
    have hM := cv_small (tv_cv h).1
    have he : raccS kd wt M R Q F m = fun s => accT s wt (byzS M m) R := by
      funext s
      rw [racc_eq]; unfold accS28; rw [h]; rfl
    unfold chkR
    rw [he, any_out (fun x hx => small_of_sub ((mem_insM hM x).1 (List.mem_filter.1 hx).1) hM), refLeast_acc hM]
    simp
  · rw [if_pos h, if_pos h]
/-- what the reference's harmless answers -/
def rharm (kd : Int) (wt : S) (R Q : List S) (s : S) : Bool := (rulesR wt [s] R Q).isNone && (s == 0#16 || kd == 2)
theorem rharm_eq {kd : Int} (hk : kd = 1 ∨ kd = 2) (wt : S) (R Q : List S) (s : S) : rharm kd wt R Q s = harmS kd wt R Q s := by
  unfold rharm harmS
  rcases hk with rfl | rfl
  · by_cases h0 : s = 0#16
    · subst h0
      rw [rules_same (kd := 1) wt (.inr rfl)]
      simp
    · have h1 : (s == 0#16) = false := by simpa using h0
      have h2 : (s != 0#16) = true := by simpa using h0
      rw [h1, h2]; simp
  · rw [rules_same wt (.inl rfl)]
    simp
def rlmtS (kd : Int) (wt M : S) (R Q : List S) (F : List F2) : List S × Int :=
  if cvS kd M R Q F ≠ 0 then ([], cvS kd M R Q F) else chkR ((insM M).filter (rharm kd wt R Q)) (refGreatest ((insM M).filter (rharm kd wt R Q)))
theorem rlmt_eq (kd : Int) (wt M : S) (R Q : List S) (F : List F2) : rlmtS kd wt M R Q F = lmtS kd wt M R Q F := by
  unfold rlmtS lmtS
  by_cases h : cvS kd M R Q F = 0
  · rw [if_neg (by simp [h]), if_neg (by simp [h])]
    have hM := cv_small h
    have he : rharm kd wt R Q = harmS kd wt R Q := by funext s; exact rharm_eq (cv_kind h) wt R Q s
    have hx : ∀ x, x ∈ (insM M).filter (harmS kd wt R Q) ↔ x ∈ (subsetsL M).filter (harmS kd wt R Q) := fun x => by
      rw [List.mem_filter, List.mem_filter, mem_subsets hM, mem_insM hM]
    unfold chkR maximalS limS
    rw [he, any_out (fun x hx => small_of_sub ((mem_insM hM x).1 (List.mem_filter.1 hx).1) hM), any_out (fun x hx => small_of_sub ((mem_subsets hM x).1 (List.mem_filter.1 hx).1) hM), great_same, refGreatest_ext hx]
  · rw [if_pos h, if_pos h]
/-- what the reference's Live answers -/
def rlivS (kd : Int) (wt M : S) (R Q : List S) (F m : List F2) : Bool := tvS kd M R Q F m == 0 && !(m.any fun f => !raccS kd wt M R Q F m (M &&& ~~~(f.1 ||| f.2)))
theorem rliv_eq (kd : Int) (wt M : S) (R Q : List S) (F m : List F2) : rlivS kd wt M R Q F m = livS kd wt M R Q F m := by
  unfold rlivS livS
  by_cases h : tvS kd M R Q F m = 0
  · rw [h]
    have he : (fun f : F2 => !raccS kd wt M R Q F m (M &&& ~~~(f.1 ||| f.2))) = livP wt M (byzS M m) R := by
      funext f
      rw [racc_eq]; unfold accS28 livP; rw [h]; rfl
    rw [he]
  · have : (tvS kd M R Q F m == 0) = false := by simpa using h
    rw [this, Bool.false_and, Bool.false_and]
/-! ### what the statements ask beside -/
theorem accT_mono {s t wt : S} {byz R : List S} (h : sub t s = true) (ht : accT t wt byz R = true) : accT s wt byz R = true := by
  rw [accT_iff] at ht ⊢
  intro r hr b hb
  have h1 := ht r hr b hb
  cases g : (s &&& r &&& ~~~(b ||| wt) == 0#16) with
  | false => rfl
  | true =>
    have e0 : s &&& r &&& ~~~(b ||| wt) = 0#16 := by simpa using g
    have : t &&& r &&& ~~~(b ||| wt) = 0#16 := by
      apply BitVec.eq_of_getLsbD_eq
      intro i hi
      have e1 := congrArg (fun y : S => y.getLsbD i) e0
      have e2 := (sub_iff _ _).1 h i hi
      simp only [BitVec.getLsbD_and, BitVec.getLsbD_zero] at e1 ⊢
      cases g1 : t.getLsbD i
      · simp
      · rw [e2 g1] at e1; simpa using e1
    rw [this] at h1
    exact absurd h1 (by decide)
theorem sub_inter (s M : S) : sub (s &&& M) s = true ∧ sub (s &&& M) M = true := by
  constructor <;> rw [sub_iff] <;> intro i _ h <;> rw [BitVec.getLsbD_and, Bool.and_eq_true] at h
  · exact h.1
  · exact h.2
theorem cf_sub {l : List S} {M : S} (h : cfS l M = 0) : ∀ r ∈ l, sub r M = true := fun r hr =>
  sub_trans (sub_sup hr) (by have := (cf_parts h).2.2.2; show (supS l &&& ~~~M == 0#16) = true; rw [this]; rfl)
theorem com_found {kd : Int} {wt M s : S} {R Q : List S} {F m : List F2} (h : (comS kd wt M R Q F m).2 = 0) : accS (comS kd wt M R Q F m).1 s = accS28 kd wt M R Q F m s := by
  unfold comS at h ⊢
  by_cases h0 : tvS kd M R Q F m = 0
  · rw [if_neg (by simp [h0])] at h ⊢
    by_cases h4 : 400 < (cmFold wt (byzS M m) R (subsetsL M)).length
    · rw [if_pos h4] at h; exact absurd h (by decide)
    · rw [if_neg h4]
      have hM := cv_small (tv_cv h0).1
      simp only
      unfold accS28
      rw [h0, cmFold_eq hM, Bool.eq_iff_iff, accS_iff]
      simp only [beq_self_eq_true, Bool.true_and]
      constructor
      · rintro ⟨t, ht, hs⟩
        exact accT_mono hs (List.mem_filter.1 (List.mem_filter.1 ht).1).2
      · intro hs
        -- the part inside of the members is accepted as well
        have hin : accT (s &&& M) wt (byzS M m) R = true := by
          rw [accT_iff] at hs ⊢
          intro r hr b hb
          have h1 := hs r hr b hb
          have hrM := cf_sub (cv_parts (tv_cv h0).1).2.2.1 r hr
          have e : s &&& M &&& r = s &&& r := by
            apply BitVec.eq_of_getLsbD_eq
            intro i hi
            have e2 := (sub_iff _ _).1 hrM i hi
            simp only [BitVec.getLsbD_and]
            cases g1 : r.getLsbD i
            · simp
            · rw [e2 g1]; simp
          rw [e]; exact h1
        obtain ⟨y, hy, hl, hys⟩ := below_lone (accL wt M (byzS M m) R) (cnt (s &&& M)) (s &&& M) rfl (List.mem_filter.2 ⟨(mem_subsets hM _).2 (sub_inter s M).2, hin⟩)
        exact ⟨y, List.mem_filter.2 ⟨hy, hl⟩, sub_trans hys (sub_inter s M).1⟩
  · rw [if_pos h0] at h; exact absurd h h0
theorem p1_mono {r q wt b t : S} (h : sub b t = true) (ht : p1 r q wt t = false) : p1 r q wt b = false := by
  cases g : p1 r q wt b with
  | false => rfl
  | true =>
    have := mono_zero (x := r &&& q) (wt := wt) h (by unfold p1 at g; exact g)
    unfold p1 at ht; rw [this] at ht; cases ht
theorem p2_mono {p q b t : S} (h : sub b t = true) (ht : p2 p q t = false) : p2 p q b = false := by
  cases g : p2 p q b with
  | false => rfl
  | true =>
    unfold p2 at g ht
    simp only [Bool.and_eq_true] at g
    have hb0 : b ≠ 0#16 := by simpa using g.1
    have ht0 : t ≠ 0#16 := by
      rintro rfl
      have := (sub_iff _ _).1 h
      apply hb0
      apply BitVec.eq_of_getLsbD_eq
      intro i hi
      cases g1 : b.getLsbD i
      · simp
      · have := this i hi g1; simp at this
    have e : (p &&& q &&& ~~~t == 0#16) = true := by
      have := mono_zero (x := p &&& q) (wt := 0#16) h (by rw [BitVec.or_zero]; exact g.2)
      rw [BitVec.or_zero] at this; exact this
    have ht1 : (t != 0#16) = true := by simpa using ht0
    rw [ht1, e] at ht
    cases ht
theorem harm_iff {kd : Int} (hk : kd = 1 ∨ kd = 2) (wt : S) (R Q : List S) (s : S) : harmS kd wt R Q s = true ↔ (kd = 1 → s = 0#16) ∧ (∀ r ∈ R, ∀ q ∈ Q, p1 r q wt s = false) ∧ (kd = 2 → ∀ p ∈ Q, ∀ q ∈ Q, p2 p q s = false) := by
  unfold harmS
  rw [Bool.and_eq_true, Option.isNone_iff_eq_none, rules_none]
  simp only [List.mem_singleton, forall_eq]
  refine and_congr ?_ Iff.rfl
  rcases hk with rfl | rfl
  · by_cases h0 : s = 0#16
    · simp [h0]
    · have : (s != 0#16) = true := by simpa using h0
      rw [this]; simp [h0]
  · simp
theorem harm_mono {kd : Int} (hk : kd = 1 ∨ kd = 2) {wt b t : S} {R Q : List S} (h : sub b t = true) (ht : harmS kd wt R Q t = true) : harmS kd wt R Q b = true := by
  rw [harm_iff hk] at ht ⊢
  refine ⟨fun e => ?_, fun r hr q hq => p1_mono h (ht.2.1 r hr q hq), fun e p hp q hq => p2_mono h (ht.2.2 e p hp q hq)⟩
  have h0 := ht.1 e
  subst h0
  apply BitVec.eq_of_getLsbD_eq
  intro i hi
  cases g1 : b.getLsbD i
  · simp
  · have := (sub_iff _ _).1 h i hi g1; simp at this
/-- a client is sound exactly if each of its Byzantine sets lies in a greatest harmless one -/
theorem lim_sound {kd : Int} {wt M : S} {R Q : List S} {F m : List F2} (hm : fvS m = 0) (h : (lmtS kd wt M R Q F).2 = 0) :
    soundS kd wt M R Q F m = (refGreatest (mskF M m)).all (fun b => (lmtS kd wt M R Q F).1.any fun t => b &&& ~~~t == 0#16) := by
  unfold lmtS at h ⊢
  by_cases hc : cvS kd M R Q F = 0
  · rw [if_neg (by simp [hc])] at h ⊢
    have htv : tvS kd M R Q F m = 0 := by unfold tvS; rw [if_neg (by simp [hc])]; exact hm
    have hM := cv_small hc
    have hk := cv_kind hc
    have hlen := fv_len hm
    unfold maximalS limS at h ⊢
    rw [any_out (fun x hx => small_of_sub ((mem_subsets hM x).1 (List.mem_filter.1 hx).1) hM)] at h ⊢
    simp only [Bool.false_eq_true, if_false] at h ⊢
    by_cases h4 : 400 < (greatP ((subsetsL M).filter (harmS kd wt R Q))).length
    · rw [if_pos h4] at h; exact absurd h (by decide)
    · rw [if_neg h4, Bool.eq_iff_iff, sound_iff htv, ← byz_ref htv, List.all_eq_true]
      simp only [List.any_eq_true]
      have key : ∀ b ∈ byzS M m, ((∃ t ∈ greatP ((subsetsL M).filter (harmS kd wt R Q)), (b &&& ~~~t == 0#16) = true) ↔ harmS kd wt R Q b = true) := by
        intro b hb
        have hbM : sub b M = true := by
          have := ((byz_mem M m hM (by omega) b).1 hb).1
          obtain ⟨x, _, rfl⟩ := List.mem_map.1 this
          exact (sub_inter x.1 M).2
        constructor
        · rintro ⟨t, ht, hs⟩
          rw [greatP_filter, List.mem_filter, (sortS_asc _).2] at ht
          exact harm_mono hk hs (List.mem_filter.1 ht.1).2
        · intro hb1
          obtain ⟨y, hy, hl, hs⟩ := above_lonG (sortS' ((subsetsL M).filter (harmS kd wt R Q))) (16 - cnt b) b rfl (((sortS_asc _).2 b).2 (List.mem_filter.2 ⟨(mem_subsets hM b).2 hbM, hb1⟩))
          exact ⟨y, by rw [greatP_filter]; exact List.mem_filter.2 ⟨hy, hl⟩, hs⟩
      constructor
      · rintro ⟨h1, h2, h3⟩ b hb
        exact (key b hb).2 ((harm_iff hk wt R Q b).2 ⟨fun e => h1 e b hb, fun r hr q hq => h2 r hr q hq b hb, fun e p hp q hq => h3 e p hp q hq b hb⟩)
      · intro hall
        have g := fun b hb => (harm_iff hk wt R Q b).1 ((key b hb).1 (hall b hb))
        exact ⟨fun e b hb => (g b hb).1 e, fun r hr q hq b hb => (g b hb).2.1 r hr q hq, fun e p hp q hq b hb => (g b hb).2.2 e p hp q hq⟩
  · rw [if_pos hc] at h; exact absurd h hc
end Go.Proofs.YtijknodekomdfaaGreatDoor
