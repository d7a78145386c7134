/- Texts joined into one (wip/bin/pack.py): TopCM. -/
import Derived.Test.YtijknodekomdfaaGreatDoorKTg
import Derived.Test.YtijknodekomdfaaGreatDoorKZj
import Derived.Test.YtijknodekomdfaaGreatDoorKYa
import Derived.Test.YtijknodekomdfaaGreatDoorKYw
import Derived.Test.YtijknodekomdfaaGreatDoorKU
import Derived.Test.YtijknodekomdfaaGreatDoorKTf
import Derived.Test.YtijknodekomdfaaGreatDoorKTe
import Derived.Test.YtijknodekomdfaaGreatDoorKSa
/- Plain laws of TopCanonical: the canonical family of an adversary as a configuration. -/
namespace Go.Proofs.YtijknodekomdfaaGreatDoor
open Go.RowKit Go.Lib Go.Shelf
/-- the adversary's sets -/
def eS (n : Nat) (m : List F2) : List S := bzP (sortS' (fB (madeF n m)))
/-- its canonical family -/
def cR (n : Nat) (E : List S) : List S := leastP (compl n E)
/-- the sets as faults without crashes -/
def eF (E : List S) : List F2 := E.map fun x => (x, 0#16)
theorem made_in {n : Nat} {m : List F2} {x : F2} (hx : x ∈ madeF n m) : x.1 &&& fullS n = x.1 := by
  unfold madeF at hx
  have h := ((normF_mem _ x).1 hx).1
  unfold madeIn at h
  rcases List.mem_cons.1 h with rfl | h
  · simp
  · obtain ⟨y, _, rfl⟩ := List.mem_map.1 h
    show (y.1 &&& fullS n) &&& fullS n = y.1 &&& fullS n
    rw [BitVec.and_assoc, BitVec.and_self]
theorem eS_restr (n : Nat) (m : List F2) : eS n m = restrL (fullS n) (madeF n m) := by
  rw [restr_eq]
  unfold eS
  rw [bzP_eq]
  congr 1
  unfold fB mskF
  exact List.map_congr_left fun x hx => (made_in hx).symm
structure EOk (n : Nat) (E : List S) : Prop where
  ne : E ≠ []
  anti : ∀ x ∈ E, ∀ y ∈ E, sub x y = true → y = x
  sub : ∀ x ∈ E, x &&& fullS n = x
  len : E.length ≤ 7
  fv : fvS (eF E) = 0
theorem eF_restr (M : S) (l : List F2) : eF (restrL M l) = normF (b0L (maskF M l)) := by
  unfold eF restrL byz19 fstL
  rw [List.map_map]
  have : ∀ z ∈ normF (b0L (maskF M l)), ((fun x : S => (x, 0#16)) ∘ fun x : F2 => x.1) z = z := fun z hz => by
    have := ((normF_mem _ z).1 hz).1
    unfold b0L at this
    obtain ⟨y, _, rfl⟩ := List.mem_map.1 this
    rfl
  rw [List.map_congr_left this, List.map_id']
theorem eOk (n : Nat) (hn : n ≤ 12) (m : List F2) : EOk n (eS n m) := by
  have hv := fv_made n hn m
  have hp := fv_pos hv
  have hl := madeF_le n m
  rw [eS_restr]
  refine ⟨?_, fun x hx y hy h => ((restr_mem' _ _ x).1 hx).2 y ((restr_mem' _ _ y).1 hy).1 h, fun x hx => ?_, Nat.le_trans (restrL_le _ _) hl, ?_⟩
  · intro e
    have := restr_pos (M := fullS n) hp
    rw [e] at this
    exact absurd this (by simp)
  · obtain ⟨y, hy, rfl⟩ := List.mem_map.1 ((restr_mem' _ _ x).1 hx).1
    show (y.1 &&& fullS n) &&& fullS n = y.1 &&& fullS n
    rw [BitVec.and_assoc, BitVec.and_self]
  · rw [eF_restr]
    refine fv_norm ?_ ?_ fun z hz => ?_
    · unfold b0L maskF; rw [List.length_map, List.length_map]; exact hp
    · unfold b0L maskF; rw [List.length_map, List.length_map]; omega
    · unfold b0L at hz
      obtain ⟨y, hy, rfl⟩ := List.mem_map.1 hz
      unfold maskF at hy
      obtain ⟨x, _, rfl⟩ := List.mem_map.1 hy
      have := chk_cut n hn (x.1, 0#16)
      unfold cutF at this
      have e : chkF (x.1 &&& fullS n, 0#16) = 0 := by simpa using this
      exact e
theorem within_same {n : Nat} {E : List S} (h : EOk n E) : withinS n E = E := by
  unfold withinS
  rw [List.map_congr_left (g := id) (fun x hx => h.sub x hx), List.map_id]
theorem full12 : ∀ n : Fin 13, (fullS n.val).toNat < 4096 := by decide
theorem canon_ok {n : Nat} (hn : n ≤ 12) {E : List S} (h : EOk n E) : canonS n E = (cR n E, 0) := by
  have hl := leastP_len (compl n E)
  have hc : (compl n E).length = E.length := List.length_map ..
  have := h.len
  unfold canonS
  rw [if_neg (by omega)]
  unfold minimalS
  rw [show ((n : Nat) : Int).toNat = n from rfl, compl_in n hn, if_neg (by simp)]
  unfold limS cR
  rw [if_neg (by omega)]
theorem cR_ne {n : Nat} {E : List S} (h : EOk n E) : cR n E ≠ [] := by
  obtain ⟨x, hx⟩ := List.exists_mem_of_ne_nil _ h.ne
  obtain ⟨y, hy, _⟩ := jl_below (l := compl n E) (List.mem_map.2 ⟨x, hx, rfl⟩)
  exact List.ne_nil_of_mem hy
theorem cR_len {n : Nat} {E : List S} (h : EOk n E) : (cR n E).length ≤ 7 := by
  have hl := leastP_len (compl n E)
  have hc : (compl n E).length = E.length := List.length_map ..
  have := h.len
  unfold cR
  omega
theorem cR_cf {n : Nat} (hn : n ≤ 12) {E : List S} (h : EOk n E) (h0 : at_ (cR n E) 0 ≠ 0#16) : cfS (cR n E) (fullS n) = 0 := by
  have hM := full12 ⟨n, by omega⟩
  have hsM : ∀ x ∈ cR n E, sub x (fullS n) = true := fun x hx => (sub_iff _ _).2 (leastP_sub n E x hx)
  have hF : Fam (cR n E) := ⟨by have := cR_len h; omega, fun x hx => small_of_sub (hsM x hx) hM, jl_asc _, jl_anti _⟩
  have hp : 0 < (cR n E).length := List.length_pos_iff.2 (cR_ne h)
  unfold cfS
  rw [if_neg (by simp [(valid_iff _).2 hF]), if_neg ?_, if_neg ?_]
  · have : supS (cR n E) &&& ~~~(fullS n) = 0#16 := by
      apply BitVec.eq_of_getLsbD_eq
      intro i hi
      rw [BitVec.getLsbD_and, BitVec.getLsbD_not]
      cases hb : (supS (cR n E)).getLsbD i with
      | false => simp
      | true =>
        obtain ⟨x, hx, hxb⟩ := (supS_bit _ i).1 hb
        rw [(sub_iff _ _).1 (hsM x hx) i hi hxb]; simp
    simp [this]
  · rintro (h1 | h1)
    · omega
    · exact h0 h1
theorem cR_cv {n : Nat} (h1 : 1 ≤ n) (hn : n ≤ 12) {E : List S} (h : EOk n E) (h0 : at_ (cR n E) 0 ≠ 0#16) : cvS 2 (fullS n) (cR n E) (cR n E) (eF E) = 0 := by
  have hM := full12 ⟨n, by omega⟩
  have hne : fullS n ≠ 0#16 := by
    have : ∀ i : Fin 13, 1 ≤ i.val → fullS i.val ≠ 0#16 := by decide
    exact this ⟨n, by omega⟩ h1
  have h4 : sv (fullS n) / 4096 = 0 := by unfold sv; simp only at hM; omega
  have hc := cR_cf hn h h0
  unfold cvS
  rw [if_neg (by decide), if_neg (by simp [h4]), if_neg (by simpa using hne), if_neg (by simp [hc]), if_neg (by simp [hc])]
  exact h.fv
theorem cR_byz {n : Nat} {E : List S} (h : EOk n E) (b : S) : b ∈ byz27 2 (fullS n) (eF E) ↔ b ∈ E := by
  have hm : mskF (fullS n) (eF E) = E := by
    unfold mskF eF
    rw [List.map_map]
    show E.map (fun x => x &&& fullS n) = E
    rw [List.map_congr_left (g := id) (fun x hx => h.sub x hx), List.map_id]
  unfold byz27
  rw [if_neg (by decide), restr_mem', hm]
  exact ⟨fun g => g.1, fun g => ⟨g, fun c hc hs => h.anti b g c hc hs⟩⟩
theorem p1_zero (r q b : S) : p1 r q 0#16 b = (r &&& q &&& ~~~b == 0#16) := by unfold p1; rw [BitVec.or_zero]
theorem cR_safe {n : Nat} (h1 : 1 ≤ n) (hn : n ≤ 12) {E : List S} (h : EOk n E) (h0 : at_ (cR n E) 0 ≠ 0#16) : safe27 2 0#16 (fullS n) (cR n E) (cR n E) (eF E) = disOK E (cR n E) := by
  rw [Bool.eq_iff_iff, disOK_iff]
  constructor
  · intro hs x hx y hy z hz
    have := (safe_rules hs).1 x hx y hy z ((cR_byz h z).2 hz)
    rw [p1_zero] at this
    simpa using this
  · intro hs
    refine safe_of (cR_cv h1 hn h h0) (fun r hr q hq b hb => ?_) (fun p hp q hq b hb => ?_)
    · rw [p1_zero]; simpa using hs r hr q hq b ((cR_byz h b).1 hb)
    · unfold p2
      have := hs p hp q hq b ((cR_byz h b).1 hb)
      simp [this]
theorem cR_free {n : Nat} (hn : n ≤ 12) {E : List S} (h : EOk n E) : disOK E (cR n E) = ((covRes n E 3).2 == 13) := by
  have := canon_dis (n : Int) E (by omega) (by omega) h.ne
  rw [show ((n : Nat) : Int).toNat = n from rfl, within_same h] at this
  exact this
theorem cR_avail {n : Nat} {E : List S} (h : EOk n E) : availS (cR n E) E = true := by
  have := canon_avail n E
  rw [within_same h] at this
  exact this
/-- where the empty set is a quorum, one set of the adversary holds all servers -/
theorem cR_zero {n : Nat} (hn : n ≤ 12) {E : List S} (h : EOk n E) (h0 : at_ (cR n E) 0 = 0#16) : ((covRes n E 1).2 == 13) = false := by
  have hp : 0 < (cR n E).length := List.length_pos_iff.2 (cR_ne h)
  have hm : (0#16 : S) ∈ cR n E := by rw [← h0]; exact at_mem hp
  obtain ⟨x, hx, e⟩ := List.mem_map.1 (least_mem _ _ hm)
  rw [← Bool.not_eq_true, show (1 : Int) = ((1 : Nat) : Int) from rfl, free_iff n E 1 (by omega) (by omega) (by omega)]
  intro hno
  apply hno
  refine ⟨[x], fun y hy => by rw [List.mem_singleton.1 hy]; exact hx, Nat.le_refl _, fun i hi hb => ⟨x, by simp, ?_⟩⟩
  rw [zero_iff] at e
  have := e i hi
  rw [BitVec.getLsbD_and, BitVec.getLsbD_not, show ((n : Nat) : Int).toNat = n from rfl] at *
  simpa [hb, hi] using this
theorem cR_live {n : Nat} (h1 : 1 ≤ n) (hn : n ≤ 12) {E : List S} (h : EOk n E) (h0 : at_ (cR n E) 0 ≠ 0#16) : liv27 2 (fullS n) (cR n E) (cR n E) (eF E) = true := by
  unfold liv27
  rw [dead_eq, if_neg (by simp [cR_cv h1 hn h h0])]
  have hf : (eF E).find? (badF (cR n E) (cR n E)) = none := by
    rw [List.find?_eq_none]
    intro y hy
    obtain ⟨x, hx, rfl⟩ := List.mem_map.1 hy
    obtain ⟨q, hq, e⟩ := (availS_iff _ _).1 (cR_avail h) x hx
    have ha : avo (cR n E) (facF (x, 0#16)) = true := by
      unfold avo facF
      rw [List.any_eq_true]
      exact ⟨q, hq, by rw [BitVec.or_zero]; simpa using e⟩
    unfold badF
    simp [ha]
  rw [hf]
  rfl
theorem cR_few {n : Nat} {E : List S} (h : EOk n E) : ¬ 20000 < cntR (byz27 2 (fullS n) (eF E)) (cR n E) (cR n E) := by
  have hl := cR_len h
  have hb := byz27_le 2 (fullS n) (eF E)
  have he : (eF E).length = E.length := List.length_map ..
  have := h.len
  unfold cntR
  generalize (cR n E).length = a at *
  generalize (byz27 2 (fullS n) (eF E)).length = b at *
  have hb8 : b ≤ 8 := by omega
  have e1 : a * a ≤ 7 * 7 := Nat.mul_le_mul hl hl
  have e2 : a * a * b ≤ 7 * 7 * 8 := Nat.mul_le_mul e1 hb8
  have e3 : a * (a + 1) ≤ 7 * 8 := Nat.mul_le_mul hl (by omega)
  have e4 : a * (a + 1) / 2 ≤ 28 := by omega
  split
  · omega
  · have e5 : a * (a + 1) / 2 * b ≤ 28 * 8 := Nat.mul_le_mul e4 hb8
    omega
theorem cR_pro {n : Nat} (h1 : 1 ≤ n) (hn : n ≤ 12) {E : List S} (h : EOk n E) (h0 : at_ (cR n E) 0 ≠ 0#16) :
    (disOK E (cR n E) = true → (proS 2 0#16 (fullS n) (cR n E) (cR n E) (eF E)).2 = 0 ∧ chkS 2 0#16 (fullS n) (cR n E) (cR n E) (eF E) (proS 2 0#16 (fullS n) (cR n E) (cR n E) (eF E)).1 = true) ∧
    (disOK E (cR n E) = false → (proS 2 0#16 (fullS n) (cR n E) (cR n E) (eF E)).2 = 12) := by
  obtain ⟨f1, f2⟩ := pro_facts (kd := 2) (wt := 0#16) (M := fullS n) (R := cR n E) (Q := cR n E) (F := eF E) _ rfl (cR_few h)
  rw [cR_safe h1 hn h h0] at f1
  constructor
  · intro e
    rw [e] at f1
    have : (proS 2 0#16 (fullS n) (cR n E) (cR n E) (eF E)).2 = 0 := by simpa using f1
    exact ⟨this, f2 this⟩
  · intro e
    rw [e] at f1
    have hne : (proS 2 0#16 (fullS n) (cR n E) (cR n E) (eF E)).2 ≠ 0 := by simpa using f1
    rw [proS_small (cR_cv h1 hn h h0) _ rfl _ rfl (cR_few h)] at hne ⊢
    split at hne
    · rename_i g; rw [if_pos g]
    · exact absurd rfl hne
end Go.Proofs.YtijknodekomdfaaGreatDoor
