/- Texts joined into one (wip/bin/pack.py): WeakM, CmpF, SortF. -/
import Derived.Test.YtijknodekomdfaaGreatDoorKYe
import Derived.Test.YtijknodekomdfaaGreatDoorKC
import Derived.Test.YtijknodekomdfaaGreatDoorKA
import Derived.Test.YtijknodekomdfaaGreatDoorKB
import Derived.Test.YtijknodekomdfaaGreatDoorKO
import Derived.Test.YtijknodekomdfaaGreatDoorSortLayF
/- Layer 27: a safe configuration stays safe with fewer witnesses and with a model that tolerates less (plain laws). -/
namespace Go.Proofs.YtijknodekomdfaaGreatDoor
open Go.RowKit Go.Lib Go.Shelf

theorem ascF_ext : ∀ {l m : List F2}, AscF l → AscF m → (∀ x, x ∈ l ↔ x ∈ m) → l = m
  | [], m, _, _, h => by
    cases m with
    | nil => rfl
    | cons y ys => exact absurd ((h y).2 (List.mem_cons_self ..)) (by simp)
  | x :: xs, [], _, _, h => absurd ((h x).1 (List.mem_cons_self ..)) (by simp)
  | x :: xs, y :: ys, hl, hm, h => by
    unfold AscF at hl hm
    rw [List.pairwise_cons] at hl hm
    have hxy : x = y := by
      have h1 := (h x).1 (List.mem_cons_self ..)
      have h2 := (h y).2 (List.mem_cons_self ..)
      rcases List.mem_cons.1 h1 with e | h1
      · exact e
      · rcases List.mem_cons.1 h2 with e | h2
        · exact e.symm
        · exact absurd (ltF_trans (hl.1 y h2) (hm.1 x h1)) (ltF_irrefl x)
    subst hxy
    congr 1
    refine ascF_ext hl.2 hm.2 (fun z => ?_)
    constructor
    · intro hz
      rcases List.mem_cons.1 ((h z).1 (List.mem_cons_of_mem _ hz)) with e | g
      · subst e; exact absurd (hl.1 z hz) (ltF_irrefl z)
      · exact g
    · intro hz
      rcases List.mem_cons.1 ((h z).2 (List.mem_cons_of_mem _ hz)) with e | g
      · subst e; exact absurd (hm.1 z hz) (ltF_irrefl z)
      · exact g
def othF (a b : F2) : Bool := b != a && covF b a
/-- what the program makes of a sorted list without repetitions -/
def nrmP (s : List F2) : List F2 := s.filter fun a => !s.any (othF a)
theorem nrmP_eq {s l : List F2} (hs : AscF s) (hm : ∀ x, x ∈ s ↔ x ∈ l) : nrmP s = normF l := by
  refine ascF_ext (List.Pairwise.sublist List.filter_sublist hs) (normF_spec l).1 (fun x => ?_)
  rw [normF_mem]
  unfold nrmP
  rw [List.mem_filter, hm]
  constructor
  · rintro ⟨h1, h2⟩
    refine ⟨h1, fun y hy hc => ?_⟩
    by_cases e : y = x
    · exact e
    · have : s.any (othF x) = true := List.any_eq_true.2 ⟨y, (hm y).2 hy, by unfold othF; rw [hc]; simpa using e⟩
      rw [this] at h2; cases h2
  · rintro ⟨h1, h2⟩
    refine ⟨h1, ?_⟩
    cases ha : s.any (othF x)
    · rfl
    · obtain ⟨y, hy, ho⟩ := List.any_eq_true.1 ha
      unfold othF at ho
      rw [Bool.and_eq_true] at ho
      exact absurd (h2 y ((hm y).1 hy) ho.2) (by simpa using ho.1)
def bothF (x y : F2) : F2 := (x.1 &&& y.1, facF x &&& facF y &&& ~~~(x.1 &&& y.1))
def bothL (F G : List F2) : List F2 := F.flatMap fun x => G.map (bothF x)
theorem bothL_len (F G : List F2) : (bothL F G).length = F.length * G.length := flatMap_count F _ _ (fun _ => List.length_map ..)
theorem both_chk {x y : F2} (hx : chkF x = 0) : chkF (bothF x y) = 0 := by
  obtain ⟨h1, h2⟩ := chk_zero hx
  refine chk_of ?_ ?_
  · apply BitVec.eq_of_getLsbD_eq
    intro i hi
    have e1 := congrArg (fun z : S => z.getLsbD i) h1
    simp only [facF, bothF] at e1 ⊢
    simp only [BitVec.getLsbD_and, BitVec.getLsbD_or, BitVec.getLsbD_not, BitVec.getLsbD_zero, hi, decide_true, Bool.true_and] at e1 ⊢
    cases g1 : x.1.getLsbD i <;> cases g2 : x.2.getLsbD i <;> cases g3 : y.1.getLsbD i <;> cases g4 : y.2.getLsbD i <;> simp_all
  · unfold bothF
    apply BitVec.eq_of_getLsbD_eq
    intro i hi
    simp only [BitVec.getLsbD_and, BitVec.getLsbD_not, BitVec.getLsbD_zero, hi, decide_true, Bool.true_and]
    cases x.1.getLsbD i <;> cases y.1.getLsbD i <;> simp
theorem fvI_chk (m : List F2) : ∀ c i, c + i = m.length → fvI m c i = 0 → ∀ k, i ≤ k → k < m.length → chkF (fa m k) = 0
  | 0, i, h, _, k, h1, h2 => by omega
  | c + 1, i, h, h0, k, h1, h2 => by
    rw [fvI] at h0
    have hc : chkF (fa m i) = 0 := by
      cases hz : decide (chkF (fa m i) = 0)
      · have hz' : chkF (fa m i) ≠ 0 := by simpa using hz
        rw [if_pos hz'] at h0
        exact absurd h0 hz'
      · simpa using hz
    rcases Nat.eq_or_lt_of_le h1 with e | e
    · subst e; exact hc
    · rw [if_neg (by simp [hc])] at h0
      split at h0
      · cases h0
      · split at h0
        · cases h0
        · exact fvI_chk m c (i + 1) (by omega) h0 k e h2
theorem fv_chk {m : List F2} (h : fvS m = 0) : ∀ x ∈ m, chkF x = 0 := fun x hx => by
  unfold fvS at h
  split at h
  · cases h
  · split at h
    · cases h
    · obtain ⟨i, hi, rfl⟩ := mem_fa hx
      exact fvI_chk m m.length 0 rfl h i (Nat.zero_le _) hi
theorem both_valid {F G : List F2} (hF : fvS F = 0) (hG : fvS G = 0) (hl : (bothL F G).length ≤ 100) : fvS (normF (bothL F G)) = 0 := by
  refine fv_norm ?_ hl ?_
  · rw [bothL_len]; exact Nat.mul_pos (fv_pos hF) (fv_pos hG)
  · intro z hz
    obtain ⟨x, hx, hz⟩ := List.mem_flatMap.1 hz
    obtain ⟨y, _, rfl⟩ := List.mem_map.1 hz
    exact both_chk (fv_chk hF x hx)
theorem above_restr {M : S} {F : List F2} {x : S} (hx : x ∈ mskF M F) : ∃ b ∈ restrL M F, sub x b = true := by
  rw [restr_eq, refGreatest_filter]
  obtain ⟨y, hy, hl, hs⟩ := above_lonG (sortS' (mskF M F)) (16 - cnt x) _ rfl (((sortS_asc _).2 _).2 hx)
  exact ⟨y, List.mem_filter.2 ⟨hy, hl⟩, hs⟩
theorem sub_mask {x y : S} (M : S) (h : sub x y = true) : sub (x &&& M) (y &&& M) = true := (sub_iff _ _).2 fun i hi hb => by
  rw [BitVec.getLsbD_and, Bool.and_eq_true] at hb ⊢
  exact ⟨(sub_iff _ _).1 h i hi hb.1, hb.2⟩
theorem sub_trans' {x y z : S} (h1 : sub x y = true) (h2 : sub y z = true) : sub x z = true := (sub_iff _ _).2 fun i hi hb => (sub_iff _ _).1 h2 i hi ((sub_iff _ _).1 h1 i hi hb)
/-- each Byzantine set of the weaker model lies in one of the stronger -/
theorem byz_both (kd : Int) (M : S) {F G : List F2} {b : S} (h : b ∈ byz27 kd M (normF (bothL F G))) : ∃ c ∈ byz27 kd M F, sub b c = true := by
  unfold byz27 at h ⊢
  by_cases hk : kd = 1
  · rw [if_pos hk] at h ⊢
    exact ⟨b, h, (sub_iff _ _).2 fun i _ hb => hb⟩
  · rw [if_neg hk] at h ⊢
    have h1 := ((restr_mem' M _ b).1 h).1
    obtain ⟨z, hz, rfl⟩ := List.mem_map.1 h1
    have hz2 := ((normF_mem _ z).1 hz).1
    obtain ⟨x, hx, hz3⟩ := List.mem_flatMap.1 hz2
    obtain ⟨y, _, rfl⟩ := List.mem_map.1 hz3
    obtain ⟨c, hc, hs⟩ := above_restr (M := M) (F := F) (x := x.1 &&& M) (List.mem_map.2 ⟨x, hx, rfl⟩)
    refine ⟨c, hc, sub_trans' (sub_mask M ((sub_iff _ _).2 fun i hi hb => ?_)) hs⟩
    unfold bothF at hb
    simp only [BitVec.getLsbD_and, Bool.and_eq_true] at hb
    exact hb.1
theorem p1_weak {r q wt wt' b c : S} (hb : sub b c = true) (hw : sub wt' wt = true) (h : p1 r q wt c = false) : p1 r q wt' b = false := by
  cases hp : p1 r q wt' b
  · rfl
  · unfold p1 at h hp
    have e0 : r &&& q &&& ~~~(b ||| wt') = 0#16 := by simpa using hp
    have : r &&& q &&& ~~~(c ||| wt) = 0#16 := by
      apply BitVec.eq_of_getLsbD_eq
      intro i hi
      have e1 := congrArg (fun y : S => y.getLsbD i) e0
      have e2 := (sub_iff _ _).1 hb i hi
      have e3 := (sub_iff _ _).1 hw i hi
      simp only [BitVec.getLsbD_and, BitVec.getLsbD_or, BitVec.getLsbD_not, BitVec.getLsbD_zero, hi, decide_true, Bool.true_and] at e1 ⊢
      cases g1 : b.getLsbD i <;> cases g2 : wt'.getLsbD i <;> cases g3 : c.getLsbD i <;> cases g4 : wt.getLsbD i <;> simp_all
    rw [this] at h; cases h
theorem p2_weak {r q b c : S} (hb : sub b c = true) (h : p2 r q c = false) : p2 r q b = false := by
  cases hp : p2 r q b
  · rfl
  · unfold p2 at h hp
    rw [Bool.and_eq_true] at hp
    have e0 : r &&& q &&& ~~~b = 0#16 := by simpa using hp.2
    have : r &&& q &&& ~~~c = 0#16 := by
      apply BitVec.eq_of_getLsbD_eq
      intro i hi
      have e1 := congrArg (fun y : S => y.getLsbD i) e0
      have e2 := (sub_iff _ _).1 hb i hi
      simp only [BitVec.getLsbD_and, BitVec.getLsbD_not, BitVec.getLsbD_zero, hi, decide_true, Bool.true_and] at e1 ⊢
      cases g1 : b.getLsbD i <;> cases g3 : c.getLsbD i <;> simp_all
    have hc : (c != 0#16) = true := by
      have hb0 : b ≠ 0#16 := by simpa using hp.1
      have : c ≠ 0#16 := fun e => hb0 (by
        subst e
        apply BitVec.eq_of_getLsbD_eq
        intro i hi
        have e2 := (sub_iff _ _).1 hb i hi
        cases g1 : b.getLsbD i
        · simp
        · exact (e2 g1).symm ▸ rfl)
      simpa using this
    rw [this, hc] at h; cases h
theorem safe_of {kd : Int} {wt M : S} {R Q : List S} {F : List F2} (hc : cvS kd M R Q F = 0) (h1 : ∀ r ∈ R, ∀ q ∈ Q, ∀ b ∈ byz27 kd M F, p1 r q wt b = false) (h2 : ∀ p ∈ Q, ∀ q ∈ Q, ∀ b ∈ byz27 kd M F, p2 p q b = false) : safe27 kd wt M R Q F = true := by
  have hf : rulesR wt (byz27 kd M F) R Q = none := by
    cases hr : rulesR wt (byz27 kd M F) R Q with
    | none => rfl
    | some x =>
      obtain ⟨hb, hq, h⟩ := rulesR_some hr
      rcases h with ⟨_, ha, hp⟩ | ⟨_, ha, hp⟩
      · rw [h1 _ ha _ hq _ hb] at hp; cases hp
      · rw [h2 _ ha _ hq _ hb] at hp; cases hp
  unfold safe27 clash27
  rw [if_neg (by simp [hc]), first_eq, hf]; rfl
theorem weak_wit {kd : Int} {wt wt' M : S} {R Q : List S} {F : List F2} (h : safe27 kd wt M R Q F = true) (hw : sub wt' wt = true) : safe27 kd wt' M R Q F = true := by
  obtain ⟨h1, h2⟩ := safe_rules h
  exact safe_of (safe_cv h).1 (fun r hr q hq b hb => p1_weak ((sub_iff _ _).2 fun i _ g => g) hw (h1 r hr q hq b hb)) h2
theorem cv_faults {kd : Int} {M : S} {R Q : List S} {F G : List F2} (h : cvS kd M R Q F = 0) (hG : fvS G = 0) : cvS kd M R Q G = 0 := by
  unfold cvS at h ⊢
  repeat' split at h
  all_goals first | cases h | skip
  all_goals simp_all
theorem weak_model {kd : Int} {wt M : S} {R Q : List S} {F G : List F2} (h : safe27 kd wt M R Q F = true) (hG : fvS G = 0) (hl : (bothL F G).length ≤ 100) : safe27 kd wt M R Q (normF (bothL F G)) = true := by
  obtain ⟨h1, h2⟩ := safe_rules h
  have hc := (safe_cv h).1
  have hfv := (cv_parts hc).2.2.2.2
  refine safe_of (cv_faults hc (both_valid hfv hG hl)) (fun r hr q hq b hb => ?_) (fun p hp q hq b hb => ?_)
  · obtain ⟨c, hc, hs⟩ := byz_both kd M hb
    exact p1_weak hs ((sub_iff _ _).2 fun i _ g => g) (h1 r hr q hq c hc)
  · obtain ⟨c, hc, hs⟩ := byz_both kd M hb
    exact p2_weak hs (h2 p hp q hq c hc)
end Go.Proofs.YtijknodekomdfaaGreatDoor
/- fault.compare: the world behind it is draws and new blocks. -/
namespace Go.Proofs.YtijknodekomdfaaGreatDoor
open Go.RowKit Go.Lib Go.Shelf

/-- some draws, some new blocks -/
def Grn (w w' : World) : Prop := ∃ q os, w' = Sort.grow (w.drewN q) os
theorem Grn.refl (w : World) : Grn w w := ⟨0, #[], by rw [Sort.grow_empty]; rfl⟩
theorem Grn.trans {x y z : World} (h : Grn x y) (k : Grn y z) : Grn x z := by
  obtain ⟨q, os, rfl⟩ := h
  obtain ⟨q2, os2, rfl⟩ := k
  exact ⟨q + q2, os ++ os2, by show Sort.grow (Sort.grow ((x.drewN q).drewN q2) os) os2 = _; rw [Sort.grow_grow, World.drewN_drewN]⟩
theorem Grn.alloc {x y : World} (h : Grn x y) (o : Obj) : Grn x (y.alloc o) := h.trans ⟨0, #[o], by rw [show y.drewN 0 = y from rfl]; exact Sort.alloc_eq_grow _ _⟩
theorem Grn.drew {x y : World} (h : Grn x y) : Grn x y.drew := h.trans ⟨1, #[], by rw [Sort.grow_empty]; rfl⟩
theorem Grn.keeps {x y : World} (h : Grn x y) : Keeps x y := by
  obtain ⟨q, os, rfl⟩ := h
  exact ((Keeps.refl x).drewN q).grow os
set_option maxRecDepth 20000 in
set_option maxHeartbeats 4000000 in
theorem compareF_grown (b a : F2) (w : World) : Calls Tryz.prog 124 #[.agg #[.int .u16 (sv b.1), .int .u16 (sv b.2)], .agg #[.int .u16 (sv a.1), .int .u16 (sv a.2)]] w fun e w' => e = .returned (.int .i64 (cmpF b a)) ∧ Grn w w' := by
  have KG := ((Grn.refl w).alloc (.cells #[.int .u16 (sv b.1), .int .u16 (sv b.2)] 34)).alloc (.cells #[.int .u16 (sv a.1), .int .u16 (sv a.2)] 34)
  have k2 := (Keeps.refl (w.alloc (.cells #[.int .u16 (sv b.1), .int .u16 (sv b.2)] 34))).alloc (.cells #[.int .u16 (sv a.1), .int .u16 (sv a.2)] 34)
  obtain ⟨b0, b1⟩ := newF b w 34
  replace b0 := k2.cell b0
  replace b1 := k2.cell b1
  obtain ⟨a0, a1⟩ := newF a (w.alloc (.cells #[.int .u16 (sv b.1), .int .u16 (sv b.2)] 34)) 34
  rw [World.size_alloc] at a0 a1
  unfold cmpF
  clear k2
  obtain ⟨W0, hW0⟩ : ∃ W0, W0 = ((w.alloc (.cells #[.int .u16 (sv b.1), .int .u16 (sv b.2)] 34)).alloc (.cells #[.int .u16 (sv a.1), .int .u16 (sv a.2)] 34)) := ⟨_, rfl⟩
  go_enter Tryz.func124, Tryz.ntmps124
  go_wp2_with fail
  rw [← hW0] at b0 b1 a0 a1 KG ⊢
  clear hW0
  have HFA := Lib.hid (fun (W : World) (k : Grn W0 W) => And.intro (And.intro (k.keeps.cell b0) (k.keeps.cell b1)) (And.intro (k.keeps.cell a0) (k.keeps.cell a1)))
  have J := (Grn.refl W0).drew
  refine wp_region_held_drew (S := (fun w' => (w'.cell? ⟨w.heap.size, 0, none⟩ = some (.int .u16 (sv b.1)) ∧ w'.cell? ⟨w.heap.size, 1, none⟩ = some (.int .u16 (sv b.2))) ∧ (w'.cell? ⟨w.heap.size + 1, 0, none⟩ = some (.int .u16 (sv a.1)) ∧ w'.cell? ⟨w.heap.size + 1, 1, none⟩ = some (.int .u16 (sv a.2))))) (by kernel_rfl) ?_ (fun hHeld => ?_)
  · exact HFA.out _ J
  refine wpAnyH_take (i := 0) (oi := ⟨_, _, _, _, _, _⟩) (v := ?_) rfl (by kernel_rfl) (by kernel_rfl) (by kernel_rfl) (fun _ _ _ h => h) (Or.inl ⟨by rfl, ?_⟩) (by assumption) ?_
  rotate_left 1
  · intro w hSw; (try dsimp only at hSw); go_simp <;> with_reducible rfl
  (try simp only [Act.put]); (try simp only [List.setIfInBounds_toArray]); (try simp only [List.set_cons_succ]); (try simp only [List.set_cons_zero])
  refine wpAnyH_take (i := 1) (oi := ⟨_, _, _, _, _, _⟩) (v := ?_) rfl (by kernel_rfl) (by kernel_rfl) (by kernel_rfl) (fun _ _ _ h => h) (Or.inl ⟨by rfl, ?_⟩) (by assumption) ?_
  rotate_left 1
  · intro w hSw; (try dsimp only at hSw); go_simp <;> with_reducible rfl
  (try simp only [Act.put]); (try simp only [List.setIfInBounds_toArray]); (try simp only [List.set_cons_succ]); (try simp only [List.set_cons_zero])
  refine wpAnyH_take (i := 2) (oi := ⟨_, _, _, _, _, _⟩) (v := ?_) rfl (by kernel_rfl) (by kernel_rfl) (by kernel_rfl) (fun _ _ _ h => h) (Or.inl ⟨by rfl, ?_⟩) (by assumption) ?_
  rotate_left 1
  · intro w hSw; (try dsimp only at hSw); go_simp <;> with_reducible rfl
  (try simp only [Act.put]); (try simp only [List.setIfInBounds_toArray]); (try simp only [List.set_cons_succ]); (try simp only [List.set_cons_zero])
  refine wpAnyH_take (i := 3) (oi := ⟨_, _, _, _, _, _⟩) (v := ?_) rfl (by kernel_rfl) (by kernel_rfl) (by kernel_rfl) (fun _ _ _ h => h) (Or.inl ⟨by rfl, ?_⟩) (by assumption) ?_
  rotate_left 1
  · intro w hSw; (try dsimp only at hSw); go_simp <;> with_reducible rfl
  (try simp only [Act.put]); (try simp only [List.setIfInBounds_toArray]); (try simp only [List.set_cons_succ]); (try simp only [List.set_cons_zero])
  refine wpAnyH_take (i := 5) (oi := ⟨_, _, _, _, _, _⟩) (v := ?_) rfl (by kernel_rfl) (by kernel_rfl) (by kernel_rfl) (fun _ _ _ h => h) (Or.inl ⟨by rfl, ?_⟩) (by assumption) ?_
  rotate_left 1
  · intro w hSw; (try dsimp only at hSw); go_simp <;> with_reducible rfl
  (try simp only [Act.put]); (try simp only [List.setIfInBounds_toArray]); (try simp only [List.set_cons_succ]); (try simp only [List.set_cons_zero])
  refine wpAnyH_take (i := 6) (oi := ⟨_, _, _, _, _, _⟩) (v := ?_) rfl (by kernel_rfl) (by kernel_rfl) (by kernel_rfl) (fun _ _ _ h => h) (Or.inl ⟨by rfl, ?_⟩) (by assumption) ?_
  rotate_left 1
  · intro w hSw; (try dsimp only at hSw); go_simp <;> with_reducible rfl
  (try simp only [Act.put]); (try simp only [List.setIfInBounds_toArray]); (try simp only [List.set_cons_succ]); (try simp only [List.set_cons_zero])
  refine wpAnyH_take (i := 7) (oi := ⟨_, _, _, _, _, _⟩) (v := ?_) rfl (by kernel_rfl) (by kernel_rfl) (by kernel_rfl) (fun _ _ _ h => h) (Or.inl ⟨by rfl, ?_⟩) (by assumption) ?_
  rotate_left 1
  · intro w hSw; (try dsimp only at hSw); go_simp <;> with_reducible rfl
  (try simp only [Act.put]); (try simp only [List.setIfInBounds_toArray]); (try simp only [List.set_cons_succ]); (try simp only [List.set_cons_zero])
  refine wpAnyH_take (i := 8) (oi := ⟨_, _, _, _, _, _⟩) (v := ?_) rfl (by kernel_rfl) (by kernel_rfl) (by kernel_rfl) (fun _ _ _ h => h) (Or.inl ⟨by rfl, ?_⟩) (by assumption) ?_
  rotate_left 1
  · intro w hSw; (try dsimp only at hSw); go_simp <;> with_reducible rfl
  (try simp only [Act.put]); (try simp only [List.setIfInBounds_toArray]); (try simp only [List.set_cons_succ]); (try simp only [List.set_cons_zero])
  refine wpAnyH_ready (rs := [4]) (by kernel_rfl) (by simp) ?_
  refine AllReadyH.cons (o := ⟨_, _, _, _, _, _⟩) rfl (fun K hK => ?_) AllReadyH.nil
  go_simp
  refine (compare_grown _ _ _).mono ?_; rintro e W7 ⟨rfl, hg⟩; replace J := Grn.trans J hg; clear hg
  try go_wp2_with fail
  refine hK.out _ _ ?_ (fun hHeld => ?_)
  · exact HFA.out _ J
  clear hK K
  (try simp only [Act.put]); (try simp only [List.setIfInBounds_toArray]); (try simp only [List.set_cons_succ]); (try simp only [List.set_cons_zero])
  refine wpAnyH_ready (rs := [9]) (by kernel_rfl) (by simp) ?_
  refine AllReadyH.cons (o := ⟨_, _, _, _, _, _⟩) rfl (fun K hK => ?_) AllReadyH.nil
  go_simp
  refine (compare_grown _ _ _).mono ?_; rintro e W7 ⟨rfl, hg⟩; replace J := Grn.trans J hg; clear hg
  try go_wp2_with fail
  refine hK.out _ _ ?_ (fun hHeld => ?_)
  · exact HFA.out _ J
  clear hK K
  (try simp only [Act.put]); (try simp only [List.setIfInBounds_toArray]); (try simp only [List.set_cons_succ]); (try simp only [List.set_cons_zero])
  refine wpAnyH_ready (rs := [10]) (by kernel_rfl) (by simp) ?_
  refine AllReadyH.cons (o := ⟨_, _, _, _, _, _⟩) rfl (fun K hK => ?_) AllReadyH.nil
  go_simp
  refine hK.out _ _ ?_ (fun hHeld => ?_)
  · first | exact HFA.out _ ((J.drew).alloc _) | exact HFA.out _ (J.alloc _) | exact HFA.out _ ((J.alloc _).drew)
  clear hK K
  (try simp only [Act.put]); (try simp only [List.setIfInBounds_toArray]); (try simp only [List.set_cons_succ]); (try simp only [List.set_cons_zero])
  refine wpAnyH_ready (rs := [11]) (by kernel_rfl) (by simp) ?_
  refine AllReadyH.cons (o := ⟨_, _, _, _, _, _⟩) rfl (fun K hK => ?_) AllReadyH.nil
  go_simp
  refine (cmpOr_any _ _ _ _ _ (rd_new _ 1 _ [.int .i64 (cmpS b.1 a.1), .int .i64 (cmpS b.2 a.2)] 2 (by decide) rfl)).mono ?_
  rintro e W9 ⟨rfl, rfl⟩
  try go_wp2_with fail
  refine hK.out _ _ ?_ (fun hHeld => ?_)
  · exact HFA.out _ (J.alloc _)
  clear hK K
  (try simp only [Act.put]); (try simp only [List.setIfInBounds_toArray]); (try simp only [List.set_cons_succ]); (try simp only [List.set_cons_zero])
  refine wpAnyH_take (i := 12) (oi := ⟨_, _, _, _, _, _⟩) (v := ?_) rfl (by kernel_rfl) (by kernel_rfl) (by kernel_rfl) (fun _ _ _ h => h) (Or.inl ⟨by rfl, ?_⟩) (by assumption) ?_
  rotate_left 1
  · intro w hSw; (try dsimp only at hSw); go_simp <;> with_reducible rfl
  (try simp only [Act.put]); (try simp only [List.setIfInBounds_toArray]); (try simp only [List.set_cons_succ]); (try simp only [List.set_cons_zero])
  refine wpAnyH_done (by kernel_rfl) ?_ _
  go_wp2_with fail
  go_ret
  exact ⟨rfl, KG.trans (J.alloc _)⟩
end Go.Proofs.YtijknodekomdfaaGreatDoor
/- slices.SortFunc at rows of faults. -/
namespace Go.Proofs.YtijknodekomdfaaGreatDoor
open Go.RowKit Go.Lib Go.Shelf Go.Sort

def encF (x : F2) : List Value := [.int .u16 (sv x.1), .int .u16 (sv x.2)]
def ltB (a b : F2) : Bool := decide (cmpF a b < 0)
theorem ltB_iff (a b : F2) : ltB a b = true ↔ ltF a b := by unfold ltB ltF; simp
theorem ltB_false (a b : F2) : ltB a b = false ↔ ¬ ltF a b := by rw [← ltB_iff]; simp
theorem swoF : SWO ltB where
  irrefl x := by rw [ltB_false]; exact ltF_irrefl x
  trans x y z h1 h2 := by rw [ltB_iff] at *; exact ltF_trans h1 h2
  ntrans x y z h1 h2 := by
    rw [ltB_false] at *
    intro h
    rcases ltF_total x y with g | g | g
    · exact h1 g
    · subst g; exact h2 h
    · rcases ltF_total y z with k | k | k
      · exact h2 k
      · subst k; exact ltF_irrefl x (ltF_trans h g)
      · exact ltF_irrefl x (ltF_trans h (ltF_trans k g))
theorem totF (x y : F2) (h1 : ltB x y = false) (h2 : ltB y x = false) : x = y := by
  rw [ltB_false] at *
  rcases ltF_total x y with g | g | g
  · exact absurd g h1
  · exact g
  · exact absurd g h2
def msortF (l : List F2) : List F2 := l.mergeSort fun x y => !ltB y x
theorem own_putV {e : TypeId} {sz : Nat} {w0 w : World} {g n cap : Nat} {xs : List Value} (h : Own e sz w0 w (.slice (some ⟨g, 0, none⟩) n cap) n xs) (d : Array Value) (hdn : d.size = n * sz) (q : Nat) (os : Array Obj) :
    Own e sz w0 (grow (putRow id (Sort.ahead w q) g 0 d) os) (.slice (some ⟨g, 0, none⟩) n cap) n d.toList := by
  obtain ⟨⟨h1, h2⟩, hK⟩ := h
  rcases h2 with ⟨h', _⟩ | ⟨g', cap', cur, h', hb, hg, hnc, hcm, hcs, htake⟩
  · simp at h'
  · simp only [Value.slice.injEq, Option.some.injEq, Addr.mk.injEq, and_true, true_and] at h'
    obtain ⟨rfl, rfl⟩ := h'
    have hgl := (Array.getElem?_eq_some_iff.1 hg).1
    have hheap : (grow (putRow id (Sort.ahead w q) g 0 d) os).heap = (w.heap.modify g (onCells (putCells id 0 d))) ++ os := rfl
    have hnz : n * sz ≤ cap * sz := Nat.mul_le_mul_right _ hnc
    refine ⟨⟨by simp [hdn], .inr ⟨g, cap, putCells id 0 d cur, rfl, hb, ?_, hnc, hcm, ?_, ?_⟩⟩, ?_⟩
    · rw [hheap, Array.getElem?_append_left (by simpa using hgl), Array.getElem?_modify, if_pos rfl, hg]; rfl
    · simpa [putCells] using hcs
    · apply List.ext_getElem?
      intro j
      simp only [putCells, Array.toList_mapIdx, List.getElem?_take, List.getElem?_mapIdx, Array.getElem?_toList]
      by_cases hj : j < n * sz
      · have hjd : j < d.size := by omega
        have hjc : j < cur.size := by rw [hcs]; omega
        simp [hj, hjd, hjc]
      · have hjd : d.size ≤ j := by omega
        simp [hj, hjd]
    · refine ⟨hK.below.os, hK.below.tape, hK.below.output, ?_, fun i hi => ?_⟩
      · have := hK.size; rw [hheap]; simp; omega
      · have hs := hK.size
        rw [hheap, Array.getElem?_append_left (by simp; omega), Array.getElem?_modify, if_neg (by omega)]
        exact hK.below.block i hi
theorem flat_fl (l : List F2) : (flatK encF 2 l.toArray).toList = fl l := by
  apply List.ext_getElem?
  intro j
  by_cases hj : j < l.length * 2
  · have hi : j / 2 < l.length := by omega
    have hat := fl_at l (j / 2) hi
    have hfa : fa l (j / 2) = l[j / 2] := by simp [fa, List.getD, hi]
    rw [hfa] at hat
    have hs : (flatK encF 2 l.toArray).size = l.length * 2 := by simp
    rw [Array.getElem?_toList, Array.getElem?_eq_getElem (by rw [hs]; exact hj)]
    have hg := get_flatK encF 2 l.toArray j (by simpa using hj)
    rw [getElem!_pos _ j (by rw [hs]; exact hj)] at hg
    rw [hg]
    have he : l.toArray[j / 2]! = l[j / 2] := by simp [hi]
    rw [he]
    rcases Nat.mod_two_eq_zero_or_one j with h0 | h0
    · have ej : j / 2 * 2 = j := by omega
      have := hat.1
      rw [ej] at this
      rw [this, h0]; rfl
    · have ej : j / 2 * 2 + 1 = j := by omega
      have := hat.2
      rw [ej] at this
      rw [this, h0]; rfl
  · rw [List.getElem?_eq_none (by simp; omega), List.getElem?_eq_none (by rw [length_fl]; omega)]
theorem own_holdsF {e : TypeId} {w0 w : World} {g n cap : Nat} {l : List F2} (h : Own e 2 w0 w (.slice (some ⟨g, 0, none⟩) n cap) n (fl l)) : HoldsK encF 2 w g 0 l.toArray ∧ g < w.heap.size := by
  have hl : (fl l).length = n * 2 := h.1.1
  refine ⟨fun j hj => ?_, (h.1.lt g rfl).2⟩
  have hj2 : j < n * 2 := by rw [length_fl] at hl; have : (flatK encF 2 l.toArray).size = l.length * 2 := by simp
                             omega
  refine ⟨?_, by rw [Nat.zero_add]; exact h.1.frozenAt j⟩
  rw [Nat.zero_add, h.1.cellAt j hj2]
  have hf := flat_fl l
  have : (fl l)[j]? = some ((flatK encF 2 l.toArray)[j]!) := by
    rw [← hf, Array.getElem?_toList, Array.getElem?_eq_getElem hj, getElem!_pos _ j hj]
  rw [this]; rfl
theorem cmpLaysF (blk off size : Nat) (w : World) : CmpLays Tryz.prog 124 #[] encF 2 cmpF blk off size w :=
  fun _ _ _ _ x y => (compareF_grown x y _).mono fun _ _ h => h
theorem sortF_any (w0 w : World) (v : Value) (n : Nat) (l : List F2) (h : Own 34 2 w0 w v n (fl l)) (hn : n ≤ 1000000) :
    Calls Tryz.prog 212 #[v, .func (.func 124) #[] #[]] w fun e w' => e = .returned (.tuple #[]) ∧ Own 34 2 w0 w' v n (fl (msortF l)) := by
  have hl : l.length = n := by have := h.1.1; rw [length_fl] at this; omega
  have h0 := h
  rcases h.1.2 with ⟨rfl, hx⟩ | ⟨g, cap, cur, rfl, hb, hg, hnc, hcm, hcs, htake⟩
  · have hl0 : l = [] := List.eq_nil_of_length_eq_zero (by omega)
    subst hl0
    have hn0 : n = 0 := by simpa using hl.symm
    subst hn0
    refine (AnyF.slices_SortFunc_none sortF none 0 (.func (.func 124) #[] #[]) w).mono fun e w' ⟨he, hw⟩ => ⟨he, ?_⟩
    subst hw
    rw [show msortF [] = [] from by simp [msortF]]
    exact h0
  · obtain ⟨hH, hblk⟩ := own_holdsF h0
    have eg : ∀ args w, (callFunc 124 args).run Tryz.prog w = .ok (.enter 124 args) w := enters_of Tryz.func124 (by kernel_rfl) rfl
    have hcon := AnyQ.slices_SortFunc_total sortF 2 (fun _ => by kernel_rfl) (fun _ => by kernel_rfl) encF (fun _ => rfl) (fun x v hv => by simp [encF] at hv; rcases hv with rfl | rfl <;> rfl) cmpF swoF 124 #[] g 0 cap l.toArray w eg (cmpLaysF g 0 l.toArray.size w) hH hblk (by simp; omega) totF
    have e1 : l.toArray.size = n := by simpa using hl
    rw [e1] at hcon
    refine Calls.mono (show Calls Tryz.prog 212 _ _ _ from hcon) fun e w' ⟨he, q, os, hw⟩ => ⟨he, ?_⟩
    subst hw
    have hms : (msortF l).length = n := by rw [msortF, List.length_mergeSort, hl]
    have := own_putV h0 (flatK encF 2 (msortF l).toArray) (by simp [hms]) q os
    rw [flat_fl] at this
    exact this
end Go.Proofs.YtijknodekomdfaaGreatDoor
