/- Texts joined into one, what is needed of them (a program of ours). -/
import Derived.Test.YtbcfkgolhklkaaaDoorEKPF
import Derived.Test.YtbcfkgolhklkaaaDoorEKS
import Derived.Test.YtbcfkgolhklkaaaDoorEKR
import Derived.Test.YtbcfkgolhklkaaaDoorEKPA
import Derived.Test.YtbcfkgolhklkaaaDoorEKP
namespace Go.Proofs.YtbcfkgolhklkaaaDoor
open Go.RowKit Go.Lib Go.Shelf

theorem refLeast_mem9 (l : List S) (x : S) : x ∈ refLeast l ↔ x ∈ l ∧ ∀ y ∈ l, sub y x = true → y = x := by
  rw [refLeast_filter, List.mem_filter, (sortS_asc l).2, lone_iff]
  simp only [(sortS_asc l).2]
theorem refLeast_valid {l : List S} (h : ∀ x ∈ l, small x) (hl : l.length ≤ 400) : validS (refLeast l) = 0 := by
  have ha : Asc (refLeast l) := by rw [refLeast_filter]; exact List.Pairwise.filter _ (sortS_asc l).1
  have hn : (refLeast l).length ≤ 400 := by
    have h1 : (refLeast l).length ≤ (sortS' l).length := by rw [refLeast_filter]; exact List.length_filter_le _ _
    have h2 : (sortS' l).length ≤ (msort l).length := compactL_le _
    rw [msort_length] at h2
    omega
  unfold validS
  rw [if_neg (by omega), if_pos ((val1_none _).2 ⟨fun x hx => h x ((refLeast_mem9 l x).1 hx).1, ha⟩)]
  exact (val2_zero _ [] ha).2 fun y hy x hx hxy => ((refLeast_mem9 l y).1 hy).2 x ((refLeast_mem9 l x).1 hx).1 hxy
theorem and_full_lt {n : Nat} (hn : n ≤ 8) (x : S) : (x &&& (1#16 <<< n - 1#16)).toNat < 2 ^ n := by
  rw [BitVec.toNat_and]
  exact Nat.lt_of_le_of_lt Nat.and_le_right (full_lt ⟨n, by omega⟩)
theorem not_sub_big {s : S} (hs : s.toNat < 32) {x : Nat} (h1 : 32 ≤ x) (h2 : x < 65536) : (BitVec.ofNat 16 x &&& ~~~s == 0#16) = false := by
  rw [Bool.eq_false_iff]
  intro e
  have h3 := (sub_iff (BitVec.ofNat 16 x) s).1 e
  have h4 : ∀ j, (BitVec.ofNat 16 x).toNat.testBit j = true → s.toNat.testBit j = true := fun j hj => by
    by_cases hj2 : j < 16
    · exact h3 j hj2 hj
    · rw [Nat.testBit_lt_two_pow (Nat.lt_of_lt_of_le (BitVec.isLt _) (Nat.pow_le_pow_right (by decide) (by omega)))] at hj
      cases hj
  have h5 : (BitVec.ofNat 16 x).toNat = x := by rw [BitVec.toNat_ofNat, Nat.mod_eq_of_lt (by omega)]
  rw [h5] at h4
  have h6 : ∃ j, 5 ≤ j ∧ x.testBit j = true := by
    obtain ⟨j, hj, hb⟩ := Nat.exists_ge_and_testBit_of_ge_two_pow (n := 5) (show x ≥ 2 ^ 5 by omega)
    exact ⟨j, hj, hb⟩
  obtain ⟨j, hj, hb⟩ := h6
  have h7 := h4 j hb
  rw [Nat.testBit_lt_two_pow (Nat.lt_of_lt_of_le hs (show 2 ^ 5 ≤ 2 ^ j from Nat.pow_le_pow_right (by decide) hj))] at h7
  cases h7
theorem chTo32_9 {s : S} (hs : s.toNat < 32) (k : Nat) : ∀ n, 32 + n ≤ 65536 → chTo s k (32 + n) = chTo s k 32
  | 0, _ => rfl
  | n + 1, h => by
    rw [show 32 + (n + 1) = (32 + n) + 1 from rfl, chTo, not_sub_big hs (by omega) (by omega), chTo32_9 hs k n (by omega)]
    simp
theorem choose32 {s : S} (hs : s.toNat < 32) (k : Nat) : chooseA s k = chTo s k 32 := by
  rw [← chooseA_eq s k (32 + 65504) rfl, chTo32_9 hs k 65504 (by omega)]
theorem choose_facts : ∀ (n : Fin 4) (s : Fin 5), s.val < 2 + n.val → validS (chTo (1#16 <<< (2 + n.val) - 1#16) (1 + s.val) 32) = 0 ∧ ((chTo (1#16 <<< (2 + n.val) - 1#16) (1 + s.val) 32).all fun x => decide (x.toNat < 2 ^ (2 + n.val)) && x != 0#16) = true := by decide +kernel
theorem mdN_le (k : KA) : 2 ≤ mdN k ∧ mdN k ≤ 5 := by unfold mdN; omega
theorem mdB_lt (k : KA) : ∀ x ∈ mdB k, x.toNat < 2 ^ mdN k := fun x hx => by
  unfold mdB mdB0 mdA at hx
  obtain ⟨y, _, rfl⟩ := List.mem_map.1 hx
  exact and_full_lt (by have := mdN_le k; omega) y
theorem mdF_facts (k : KA) : validS (mdF k) = 0 ∧ ∀ x ∈ mdF k, x.toNat < 2 ^ mdN k ∧ x ≠ 0#16 := by
  have hn := mdN_le k
  unfold mdF
  split
  · have hm : ∀ x ∈ mdF0 (mdA k) (k.lf.take 6), x.toNat < 2 ^ mdN k ∧ x ≠ 0#16 := fun x hx => by
      unfold mdF0 mdA at hx
      rw [List.mem_filter] at hx
      obtain ⟨hx, h0⟩ := hx
      obtain ⟨y, _, rfl⟩ := List.mem_map.1 hx
      exact ⟨and_full_lt (by omega) y, by simpa using h0⟩
    refine ⟨refLeast_valid (fun x hx => ?_) (Nat.le_trans (mdF0_len _ _ 6) (by omega)), fun x hx => hm x ((refLeast_mem9 _ x).1 hx).1⟩
    exact small_lt (n := mdN k) (by omega) (hm x hx).1
  · obtain ⟨n, hn2⟩ : ∃ n : Fin 4, mdN k = 2 + n.val := ⟨⟨mdN k - 2, by omega⟩, by dsimp only; omega⟩
    have hs : k.kS % mdN k < mdN k := Nat.mod_lt _ (by omega)
    have h32 : (mdA k).toNat < 32 := by
      unfold mdA
      exact Nat.lt_of_lt_of_le (full_lt ⟨mdN k, by omega⟩) (show 2 ^ mdN k ≤ 2 ^ 5 from Nat.pow_le_pow_right (by decide) (by omega))
    rw [choose32 h32]
    have h := choose_facts n ⟨k.kS % mdN k, by omega⟩ (by dsimp only; omega)
    dsimp only at h
    unfold mdA
    rw [← hn2] at h
    refine ⟨h.1, fun x hx => ?_⟩
    have h1 := List.all_eq_true.1 h.2 x hx
    rw [Bool.and_eq_true, decide_eq_true_eq] at h1
    exact ⟨h1.1, by simpa using h1.2⟩
theorem ins_of_lt {l : List S} {n : Nat} (h : ∀ x ∈ l, x.toNat < 2 ^ n) : insB l n = true := by
  unfold insB
  rw [Bool.not_eq_true']
  refine List.any_eq_false.2 fun x hx => ?_
  have h1 : x >>> n = 0#16 := by
    apply BitVec.eq_of_toNat_eq
    rw [BitVec.toNat_ushiftRight, Nat.shiftRight_eq_div_pow, Nat.div_eq_of_lt (h x hx)]
    rfl
  simp [h1]
theorem mdF_chk (k : KA) : chk39 (mdF k) (mdB k) (mdN k) = 0 := by
  have h := mdF_facts k
  unfold chk39
  rw [if_neg (by rw [h.1]; simp), ins_of_lt (fun x hx => (h.2 x hx).1), ins_of_lt (mdB_lt k)]
  rfl
theorem mem_del {byz : S} {st : St} {n : Nat} (hl : st.nodes.length = n) (hn : n ≤ 16) {i : Nat} (hi : i < n) (hid : (ndA st i).id = (i : Int)) (hb : byz.getLsbD i = false) (hd : (ndA st i).hasD = true) {v : Str} (hv : (ndA st i).delivered = v) : v ∈ delL byz st.nodes := by
  unfold delL honL
  refine List.mem_map.2 ⟨ndA st i, ?_, hv⟩
  rw [List.mem_filter, List.mem_filter]
  refine ⟨⟨?_, ?_⟩, hd⟩
  · unfold ndA; exact getD_memE nd0 (by omega)
  · rw [honB_corr hn hi hid, hb]; rfl
theorem bit_and_zero {x y : S} (h : x &&& ~~~y = 0#16) (j : Nat) (hj : x.getLsbD j = true) : y.getLsbD j = true :=
  (sub_iff x y).1 (by unfold sub; rw [h]; rfl) j (bit_lt hj) hj
theorem bit_one {i j : Nat} (h : (1#16 <<< i).getLsbD j = true) : j = i := by
  have h1 := bit_lt h
  rw [BitVec.getLsbD_shiftLeft] at h
  simp at h
  obtain ⟨⟨_, h2⟩, h3⟩ := h
  omega
theorem one_bit9 {i : Nat} (h : i < 16) : (1#16 <<< i).getLsbD i = true := by
  rw [BitVec.getLsbD_shiftLeft]
  simp [h]
theorem cons_two {l : List Str} (h1 : strX ∈ l) (h2 : strY ∈ l) : consB l = false := by
  cases l with
  | nil => cases h1
  | cons x t =>
    show ((x :: t).all fun y => decide (y = x)) = false
    rw [Bool.eq_false_iff]
    intro h
    have h3 := List.all_eq_true.1 h _ h1
    have h4 := List.all_eq_true.1 h _ h2
    rw [decide_eq_true_eq] at h3 h4
    exact absurd (h3.trans h4.symm) (by decide)
theorem two_mem {L : List Nat} (h : 2 ≤ L.length) : im L 0 ∈ L ∧ im L 1 ∈ L ∧ (L.Nodup → im L 0 ≠ im L 1) := by
  match L, h with
  | a :: b :: r, _ => exact ⟨List.mem_cons_self .., List.mem_cons_of_mem _ (List.mem_cons_self ..), fun hn => fun e => by
      have e2 : a = b := e
      subst e2
      exact absurd (List.mem_cons_self ..) (List.nodup_cons.1 hn).1⟩
theorem dis_one {f : List S} {t : S} : disOK [t] f = true ↔ ∀ x ∈ f, ∀ y ∈ f, x &&& y &&& ~~~t ≠ 0#16 := by
  rw [disOK_iff]
  constructor
  · intro h x hx y hy; exact h x hx y hy t (List.mem_cons_self ..)
  · intro h x hx y hy z hz
    rw [List.mem_singleton] at hz
    subst hz
    exact h x hx y hy
theorem atk_facts {f b : List S} {n : Nat} (hn : n ≤ 8) (hf : ∀ x ∈ f, x.toNat < 2 ^ n ∧ x ≠ 0#16) (hb : ∀ x ∈ b, x.toNat < 2 ^ n) {q p t : S} (h : splI n b f = some (q, p, t)) :
    (atkS f b n q p t).nodes.length = n ∧ strX ∈ delL t (atkS f b n q p t).nodes ∧ strY ∈ delL t (atkS f b n q p t).nodes ∧ disOK [t] f = false := by
  obtain ⟨hq, hp, ht, hs⟩ := splI_some h
  obtain ⟨h0, h1, h2⟩ := splP_iff.1 hs
  have htl := hb t ht
  have hts := small_lt hn htl
  have hsrc := (tz_bit hts h0).2
  have hdis : disOK [t] f = false := by
    rw [Bool.eq_false_iff]
    intro hd
    exact dis_one.1 hd q hq p hp h1
  have hZ := inN_of htl
  have hpq : ∀ j, q.getLsbD j = true → p.getLsbD j = true → t.getLsbD j = true := fun j hj hj2 => bit_and_zero h1 j (by rw [BitVec.getLsbD_and, hj, hj2]; rfl)
  have fin : ∀ (A B g1 g2 : S), atkSides n q p t = [(A, g1, strX), (B, g2, strY)] → (∀ j, A.getLsbD j = true → j < n ∧ t.getLsbD j = false) → (∀ j, B.getLsbD j = true → j < n ∧ t.getLsbD j = false) → (∀ j, A.getLsbD j = true → B.getLsbD j = false) → g1 ∈ f → g2 ∈ f →
      (∀ j, g1.getLsbD j = true → A.getLsbD j = true ∨ t.getLsbD j = true) → (∀ j, g2.getLsbD j = true → B.getLsbD j = true ∨ t.getLsbD j = true) → (∃ j, A.getLsbD j = true) → (∃ j, B.getLsbD j = true) →
      (atkS f b n q p t).nodes.length = n ∧ strX ∈ delL t (atkS f b n q p t).nodes ∧ strY ∈ delL t (atkS f b n q p t).nodes ∧ disOK [t] f = false := by
    intro A B g1 g2 hsd hA hB hAB hg1 hg2 hgA hgB hnA hnB
    obtain ⟨c1, c2, c3, c4⟩ := sides_core (b := b) (source := tzS t) (v := strX) (w := strY) hn hA hB hAB hZ hsrc hg1 hg2 (bits_ne (hf g1 hg1).2) (bits_ne (hf g2 hg2).2) hgA hgB (atkS f b n q p t) (by unfold atkS; rw [hsd]; rfl)
    obtain ⟨i, hi⟩ := hnA
    obtain ⟨j, hj⟩ := hnB
    exact ⟨c1, mem_del c1 (by omega) (hA i hi).1 (c2 i (hA i hi).1) (hA i hi).2 (c3 i hi).1 (c3 i hi).2, mem_del c1 (by omega) (hB j hj).1 (c2 j (hB j hj).1) (hB j hj).2 (c4 j hj).1 (c4 j hj).2, hdis⟩
  by_cases ha : alone q p t = true
  · have hr := rest_two hn htl (h2 ha)
    rw [rest_mem t hn] at hr
    obtain ⟨m0, m1, hne⟩ := two_mem hr.1
    have hne := hne (List.Pairwise.filter _ List.nodup_range)
    have hc : ∀ i ∈ corrL n t, i < n ∧ t.getLsbD i = false := fun i hi => by
      have h3 := (List.mem_filter.1 hi).2
      unfold corr at h3
      rw [Bool.and_eq_true, decide_eq_true_eq] at h3
      exact ⟨h3.1, by simpa using h3.2⟩
    have hl : lonQ q p t ∈ f ∧ ∀ j, (lonQ q p t).getLsbD j = true → t.getLsbD j = true := by
      unfold lonQ
      split
      · rename_i hz
        exact ⟨hq, fun j hj => bit_and_zero (by simpa using hz) j hj⟩
      · rename_i hz
        refine ⟨hp, fun j hj => bit_and_zero ?_ j hj⟩
        unfold alone at ha
        rw [Bool.or_eq_true] at ha
        rcases ha with ha | ha
        · exact absurd ha hz
        · simpa using ha
    refine fin (1#16 <<< im (corrL n t) 0) (1#16 <<< im (corrL n t) 1) (lonQ q p t) (lonQ q p t) (by unfold atkSides; rw [if_pos ha, rest_mem t hn]) (fun j hj => ?_) (fun j hj => ?_) (fun j hj => ?_) hl.1 hl.1 (fun j hj => .inr (hl.2 j hj)) (fun j hj => .inr (hl.2 j hj)) ⟨_, one_bit9 (by have := (hc _ m0).1; omega)⟩ ⟨_, one_bit9 (by have := (hc _ m1).1; omega)⟩
    · rw [bit_one hj]; exact hc _ m0
    · rw [bit_one hj]; exact hc _ m1
    · rw [bit_one hj]
      cases h5 : (1#16 <<< im (corrL n t) 1).getLsbD (im (corrL n t) 0) with
      | false => rfl
      | true => exact absurd (bit_one h5) hne
  · have hal : ¬ (q &&& ~~~t = 0#16) ∧ ¬ (p &&& ~~~t = 0#16) := by
      unfold alone at ha
      rw [Bool.or_eq_true, not_or] at ha
      exact ⟨by simpa using ha.1, by simpa using ha.2⟩
    have hbit : ∀ (x : S) j, (x &&& ~~~t).getLsbD j = true ↔ x.getLsbD j = true ∧ t.getLsbD j = false := fun x j => by
      rw [BitVec.getLsbD_and, BitVec.getLsbD_not, Bool.and_eq_true, Bool.and_eq_true, decide_eq_true_eq, Bool.not_eq_true']
      exact ⟨fun h => ⟨h.1, h.2.2⟩, fun h => ⟨h.1, bit_lt h.1, h.2⟩⟩
    refine fin (q &&& ~~~t) (p &&& ~~~t) q p (by unfold atkSides; rw [if_neg ha]) (fun j hj => ?_) (fun j hj => ?_) (fun j hj => ?_) hq hp (fun j hj => ?_) (fun j hj => ?_) (bits_ne hal.1) (bits_ne hal.2)
    · exact ⟨inN_of (hf q hq).1 j ((hbit q j).1 hj).1, ((hbit q j).1 hj).2⟩
    · exact ⟨inN_of (hf p hp).1 j ((hbit p j).1 hj).1, ((hbit p j).1 hj).2⟩
    · cases h5 : (p &&& ~~~t).getLsbD j with
      | false => rfl
      | true =>
        have h6 := hpq j ((hbit q j).1 hj).1 ((hbit p j).1 h5).1
        rw [((hbit q j).1 hj).2] at h6
        cases h6
    · cases h5 : t.getLsbD j with
      | true => exact .inr rfl
      | false => exact .inl ((hbit q j).2 ⟨hj, h5⟩)
    · cases h5 : t.getLsbD j with
      | true => exact .inr rfl
      | false => exact .inl ((hbit p j).2 ⟨hj, h5⟩)
theorem splB_none {n : Nat} {q p : S} : ∀ {b : List S}, splB n q p b = none → ∀ t ∈ b, splP n q p t = false
  | [], _, t, ht => by cases ht
  | x :: r, h, t, ht => by
    unfold splB at h
    split at h
    · cases h
    · rename_i hx
      rcases List.mem_cons.1 ht with rfl | ht
      · simpa using hx
      · exact splB_none h t ht
theorem splJ_none {n : Nat} {b : List S} {q : S} : ∀ {l : List S}, splJ n b q l = none → ∀ p ∈ l, ∀ t ∈ b, splP n q p t = false
  | [], _, p, hp => by cases hp
  | x :: r, h, p, hp => by
    unfold splJ at h
    cases e : splB n q x b with
    | some u => rw [e] at h; cases h
    | none =>
      rw [e] at h
      rcases List.mem_cons.1 hp with rfl | hp
      · exact splB_none e
      · exact splJ_none h p hp
theorem splI_none {n : Nat} {b : List S} : ∀ {f : List S}, splI n b f = none → ∀ x ∈ f, ∀ y ∈ f, ∀ t ∈ b, splP n x y t = false ∨ splP n y x t = false
  | [], _, x, hx => by cases hx
  | z :: r, h, x, hx => by
    unfold splI at h
    cases e : splJ n b z (z :: r) with
    | some u => obtain ⟨u1, u2⟩ := u; rw [e] at h; cases h
    | none =>
      rw [e] at h
      intro y hy t ht
      rcases List.mem_cons.1 hx with rfl | hx2
      · exact .inl (splJ_none e y hy t ht)
      · rcases List.mem_cons.1 hy with rfl | hy2
        · exact .inr (splJ_none e x hx t ht)
        · exact splI_none h x hx2 y hy2 t ht
theorem no_split {f b : List S} {n : Nat} (h : splI n b f = none) {t : S} (ht : t ∈ b) (h0 : t ≠ 0#16) (hr : 2 ≤ (n : Int) - (cnt t : Int)) : disOK [t] f = true := by
  refine dis_one.2 fun x hx y hy hz => ?_
  have hz2 : y &&& x &&& ~~~t = 0#16 := by rw [BitVec.and_comm y x]; exact hz
  rcases splI_none h x hx y hy t ht with h1 | h1
  · rw [splP_iff.2 ⟨h0, hz, fun _ => hr⟩] at h1; cases h1
  · rw [splP_iff.2 ⟨h0, hz2, fun _ => hr⟩] at h1; cases h1
theorem atkE_made (k : KA) : atkE (mdF k) (mdB k) (mdN k) = if (splI (mdN k) (mdB k) (mdF k)).isSome then 0 else 13 := by
  have hn := mdN_le k
  unfold atkE
  rw [if_neg (by omega), Int.toNat_natCast, if_neg (by rw [mdF_chk]; simp)]
end Go.Proofs.YtbcfkgolhklkaaaDoor
namespace Go.Proofs.YtbcfkgolhklkaaaDoor
open Go.RowKit Go.Lib Go.Shelf

theorem bits_xor_u16_nat9 (a b : Nat) (ha : a < 65536) (hb : b < 65536) : bits .xor .u16 (a : Int) (b : Int) = ((a ^^^ b : Nat) : Int) := by
  have hx : a ^^^ b < 2 ^ 16 := Nat.xor_lt_two_pow (by omega) (by omega)
  have h1 : (BitVec.ofInt 16 (a : Int)).toNat = a := by
    rw [BitVec.ofInt_natCast, BitVec.toNat_ofNat]; exact Nat.mod_eq_of_lt (by omega)
  have h2 : (BitVec.ofInt 16 (b : Int)).toNat = b := by
    rw [BitVec.ofInt_natCast, BitVec.toNat_ofNat]; exact Nat.mod_eq_of_lt (by omega)
  show IntKind.u16.wrap ((BitVec.ofInt 16 (a : Int) ^^^ BitVec.ofInt 16 (b : Int)).toNat : Int) = _
  rw [BitVec.toNat_xor, h1, h2, IntKind.wrap_u16]
  omega
@[go_sem] theorem u16_signed9 : IntKind.u16.signed = false := rfl
@[go_sem] theorem sv_compl9 (x : S) : bits .xor .u16 IntKind.u16.max (sv x) = sv (~~~x) := by
  have e : (IntKind.u16.max : Int) = ((65535 : Nat) : Int) := rfl
  have h := bits_xor_u16_nat9 65535 x.toNat (by decide) x.isLt
  rw [e]
  unfold sv
  rw [h, BitVec.toNat_not]
  have : 65535 ^^^ x.toNat = (65535#16 ^^^ x).toNat := by rw [BitVec.toNat_xor]; rfl
  rw [this]
  have h2 : (65535#16 ^^^ x) = ~~~x := by
    apply BitVec.eq_of_getLsbD_eq
    intro i hi
    have h3 : (65535#16).getLsbD i = true := by
      have : ∀ j : Fin 16, (65535#16).getLsbD j.val = true := by decide
      exact this ⟨i, hi⟩
    rw [BitVec.getLsbD_xor, BitVec.getLsbD_not, h3]
    simp [hi]
  rw [h2, BitVec.toNat_not]
def memT (v : Str) (l : List Str) : Bool := l.any fun x => decide (v = x)
theorem memT_of {v : Str} {l : List Str} (h : v ∈ l) : memT v l = true := List.any_eq_true.2 ⟨v, h, decide_eq_true rfl⟩
set_option maxHeartbeats 1600000 in
theorem indexT_any (a : Option Addr) (n c : Nat) (l : List Str) (v : Str) (w : World) (h : Rd w a n c 1 (stl l)) :
    Calls Tryd.prog 77 #[.slice a n c, .string v] w fun e w' => ∃ r : Int, e = .returned (.int .i64 r) ∧ decide (r ≥ 0) = memT v l ∧ Keeps w w' := by
  have L := Lib.hid (stl_rdlen h)
  have s1 := h.small
  go_enter Tryd.func77, Tryd.ntmps77
  go_wp2_with fail
  go_loopw [8] (fun u wr => ∃ k : Nat, k ≤ n ∧ u = .int .i64 k ∧ Keeps w wr ∧ Hid (memT v l = memT v (l.drop k))) (fun u _ => n - (RowKit.intOf u).toNat)
  case atStart => exact ⟨0, Nat.zero_le _, rfl, Keeps.refl _, rfl⟩
  case round =>
    obtain ⟨k, hk, rfl, K, HE⟩ := hrel
    by_cases hlt : k < n
    · have g1 := stl_at (h.keep K) hlt
      have a1s := h.isSome (by omega)
      have HD := Lib.hid (drop_stA l k (by have := L.out; omega))
      generalize stA l k = x at *
      have HK := Lib.hid K
      clear K
      by_cases hxy : v = x
      · have HT : Hid (memT v l = true) := Lib.hid (by rw [HE.out, HD.out, hxy]; unfold memT; simp)
        have hb : decide (v = x) = true := decide_eq_true hxy
        subst hxy
        go_wp2_with fail
        go_ret
        exact ⟨_, rfl, by rw [HT.out, decide_eq_true_eq]; omega, HK.out⟩
      · have HN : Hid (memT v l = memT v (l.drop (k + 1))) := Lib.hid (by rw [HE.out, HD.out]; unfold memT; rw [List.any_cons, decide_eq_false hxy, Bool.false_or])
        go_wp2_with fail
        go_roundw
        case rel => exact ⟨k + 1, by omega, by go_num, HK.out, HN⟩
        case measure => simp [RowKit.intOf]; omega
    · have HF : Hid (memT v l = false) := Lib.hid (by rw [HE.out, List.drop_of_length_le (by have := L.out; omega)]; rfl)
      have HK := Lib.hid K
      clear K
      go_wp2_with fail
      go_ret
      exact ⟨_, rfl, by rw [HF.out, decide_eq_false_iff_not]; omega, HK.out⟩
theorem containsT_any (a : Option Addr) (n c : Nat) (l : List Str) (v : Str) (w : World) (h : Rd w a n c 1 (stl l)) :
    Calls Tryd.prog 37 #[.slice a n c, .string v] w fun e w' => e = .returned (.bool (memT v l)) ∧ Keeps w w' := by
  have HI := Lib.hid (indexT_any a n c l v w h)
  generalize memT v l = q at *
  clear h
  go_enter Tryd.func37, Tryd.ntmps37
  go_wp2_with fail
  refine HI.out.mono ?_
  rintro e w1 ⟨r, rfl, hr, k1⟩
  have HR := Lib.hid hr; have HK := Lib.hid k1
  clear hr k1 HI
  go_wp2_with fail
  go_ret
  exact ⟨by rw [← HR.out]; rfl, HK.out⟩
theorem compl_bit (s : S) (j : Nat) (hj : j < 16) : sv ((~~~s) >>> j &&& 1#16) = if ((s >>> j) &&& 1#16 == 1#16) = true then 0 else 1 := by
  have h1 := bit1_S (~~~s) j
  have h2 := bit0_S (~~~s) j
  have h3 := bit1_S s j
  rw [BitVec.getLsbD_not, decide_eq_true hj, Bool.true_and] at h1
  rw [h3]
  cases hb : s.getLsbD j with
  | true =>
    rw [hb] at h1
    rw [if_pos rfl]
    have h4 : ((~~~s) >>> j &&& 1#16) = 0#16 := by
      have h5 : ((~~~s) >>> j &&& 1#16) = 0#16 ∨ ((~~~s) >>> j &&& 1#16) = 1#16 := by
        have : ((~~~s) >>> j &&& 1#16).toNat < 2 := by
          rw [BitVec.toNat_and]
          exact Nat.lt_of_le_of_lt Nat.and_le_right (by decide)
        rcases (by omega : ((~~~s) >>> j &&& 1#16).toNat = 0 ∨ ((~~~s) >>> j &&& 1#16).toNat = 1) with h | h
        · exact .inl (BitVec.eq_of_toNat_eq h)
        · exact .inr (BitVec.eq_of_toNat_eq h)
      rcases h5 with h5 | h5
      · exact h5
      · rw [h5] at h1; cases h1
    rw [h4]; rfl
  | false =>
    rw [hb] at h1
    rw [if_neg (by simp)]
    have h4 : ((~~~s) >>> j &&& 1#16) = 1#16 := by simpa using h1
    rw [h4]; rfl
set_option maxHeartbeats 8000000 in
set_option maxRecDepth 20000 in
theorem BroadcastAttack_any (k : KA) (w : World) (hT : Tab w) (hk : RdK w k) :
    Calls Tryd.prog 8 #[vK k] w fun e w' => e = .returned (.bool true) ∧ Keeps w w' := by
  have hX := Blk.new w 42 #[.int .u8 k.kN, .int .u8 k.kS, .int .u8 k.kR, .slice k.fa k.lf.length k.fc, .slice k.ba k.lb.length k.bc, .int .u8 k.kZ]
  have kX := (Keeps.refl w).alloc (.cells #[.int .u8 k.kN, .int .u8 k.kS, .int .u8 k.kR, .slice k.fa k.lf.length k.fc, .slice k.ba k.lb.length k.bc, .int .u8 k.kZ] 42)
  have HT := Lib.hid (hT.keep kX); have HKK := Lib.hid (hk.keep kX); have HX := Lib.hid hX; have HK := Lib.hid kX
  have HAW := Lib.hid (fun W (t : Tab W) => awake39_any W t)
  clear hX kX hT hk
  unfold vK
  go_enter Tryd.func8, Tryd.ntmps8
  go_wp2_with fail
  refine (HAW.out _ HT.out).mono ?_
  rintro e w1 ⟨rfl, k1⟩
  have HT := Lib.hid (HT.out.keep k1); have HK := Lib.hid (HK.out.trans k1)
  have hmd := made39_any k w1 (HKK.out.keep k1)
  unfold vK at hmd
  have HMD := Lib.hid hmd
  obtain ⟨x0, x1, x2, x3, x4, x5⟩ := (HX.out.keep k1).c6
  clear hmd k1 HKK HX HAW
  go_wp2_with fail
  refine HMD.out.mono ?_
  rintro e w2 ⟨fu, bu, rfl, hF, hB⟩
  obtain ⟨fa, fc, rfl, hf⟩ := hF.rd
  obtain ⟨ba, bc, rfl, hb⟩ := hB.rd
  have hk2 := hF.2
  have HFF := Lib.hid (mdF_facts k).2
  have HBF := Lib.hid (mdB_lt k)
  have hn := mdN_le k
  have HEK := Lib.hid (atkE_made k)
  have hFl : (mdF k).length ≤ 1000000 := by
    unfold mdF
    split
    · have h1 : (refLeast (mdF0 (mdA k) (k.lf.take 6))).length ≤ (sortS' (mdF0 (mdA k) (k.lf.take 6))).length := by rw [refLeast_filter]; exact List.length_filter_le _ _
      have h2 : (sortS' (mdF0 (mdA k) (k.lf.take 6))).length ≤ (msort (mdF0 (mdA k) (k.lf.take 6))).length := compactL_le _
      rw [msort_length] at h2
      have h3 := mdF0_len (mdA k) k.lf 6
      omega
    · exact Nat.le_trans (chTo_len _ _ _) (by omega)
  have hBl : (mdB k).length ≤ 1000000 := Nat.le_trans (mdB0_len _ _ 6) (by omega)
  clear x0 x1 x2 x3 x4 x5 HMD hF hB
  generalize mdF k = f at *
  generalize mdB k = b at *
  generalize mdN k = n at *
  generalize mdZ k = byz at *
  generalize mdR k = source at *
  have HT := Lib.hid (HT.out.keep hk2); have HK := Lib.hid (HK.out.trans hk2)
  have hatk := attackC_any w2 HT.out fa _ fc f ba _ bc b n hf hb
  have hra := fun W (K : Keeps w2 W) => rattackC_any W fa _ fc f ba _ bc b n (hf.keep K) (hb.keep K) hFl hBl
  rw [Int.toNat_natCast] at hatk hra
  obtain ⟨er, her⟩ : ∃ e, e = atkE f b n := ⟨_, rfl⟩
  rw [← her] at hatk hra HEK
  obtain ⟨cR, hcR⟩ : ∃ c, c = (if er = 0 then ((splI n b f).elim cd0 fun r => (⟨n, r.2.2, tzS r.2.2, atkS f b n r.1 r.2.1 r.2.2⟩ : CD)) else cd0) := ⟨_, rfl⟩
  have HCR := Lib.hid hcR; have HATK := Lib.hid hatk; have HRA := Lib.hid hra
  have HF := Lib.hid hf; have HB := Lib.hid hb
  clear hatk hra her hcR hf hb hk2
  go_wp2_with fail
  refine HATK.out.mono ?_
  rintro e w3 ⟨k3, v, rfl, hv⟩
  rw [← HCR.out] at hv
  have HV := hv
  obtain ⟨an1, cn1, nas1, ag1, cg1, rfl, _, _, _, _⟩ := hv
  unfold vCast at HV ⊢
  have b1 := Blk.new w3 32 #[.int .i64 cR.n, .int .u16 (sv cR.byz), .int .i64 cR.src, .slice an1 nas1.length cn1, .slice ag1 cR.st.flight.length cg1]
  have kb := (Keeps.refl w3).alloc (.cells #[.int .i64 cR.n, .int .u16 (sv cR.byz), .int .i64 cR.src, .slice an1 nas1.length cn1, .slice ag1 cR.st.flight.length cg1] 32)
  have k4 := k3.trans kb
  have HX := Lib.hid (HV.keep kb); have HP8 := Lib.hid b1; have HF := Lib.hid (HF.out.keep k4); have HB := Lib.hid (HB.out.keep k4); have HT := Lib.hid (HT.out.keep k4); have HK := Lib.hid (HK.out.trans k4)
  have hra := HRA.out _ k4
  have HRA := Lib.hid hra
  clear HATK k3 HV b1 kb k4 hra
  go_upto_region 5 with fail
  generalize w3.alloc (.cells #[.int .i64 cR.n, .int .u16 (sv cR.byz), .int .i64 cR.src, .slice an1 nas1.length cn1, .slice ag1 cR.st.flight.length cg1] 32) = w4 at *
  generalize w3.heap.size = P8 at *
  go_wp2_with fail
  refine HRA.out.mono ?_
  rintro e w5 ⟨k5, v, rfl, hv⟩
  rw [← HCR.out] at hv
  have HV := hv
  obtain ⟨an2, cn2, nas2, ag2, cg2, rfl, _, _, _, _⟩ := hv
  unfold vCast at HV ⊢
  have b2 := Blk.new w5 32 #[.int .i64 cR.n, .int .u16 (sv cR.byz), .int .i64 cR.src, .slice an2 nas2.length cn2, .slice ag2 cR.st.flight.length cg2]
  have kb := (Keeps.refl w5).alloc (.cells #[.int .i64 cR.n, .int .u16 (sv cR.byz), .int .i64 cR.src, .slice an2 nas2.length cn2, .slice ag2 cR.st.flight.length cg2] 32)
  have k6 := k5.trans kb
  have HY := Lib.hid (HV.keep kb); have HP10 := Lib.hid b2; have HX := Lib.hid (HX.out.keep k6); have HP8 := Lib.hid (HP8.out.keep k6); have HF := Lib.hid (HF.out.keep k6); have HB := Lib.hid (HB.out.keep k6); have HT := Lib.hid (HT.out.keep k6); have HK := Lib.hid (HK.out.trans k6)
  clear HRA k5 HV b2 kb k6
  go_upto_region 6 with fail
  generalize w5.alloc (.cells #[.int .i64 cR.n, .int .u16 (sv cR.byz), .int .i64 cR.src, .slice an2 nas2.length cn2, .slice ag2 cR.st.flight.length cg2] 32) = w6 at *
  generalize w5.heap.size = P10 at *
  have HQ := Lib.hid (requal_same cR _ _ w6 HX.out HY.out)
  obtain ⟨p0, p1, p2, p3, p4⟩ := Go.Proofs.YtbcfkgolhklkaaaDoor.c5 HP8.out
  obtain ⟨q0, q1, q2, q3, q4⟩ := Go.Proofs.YtbcfkgolhklkaaaDoor.c5 HP10.out
  clear HY HP10
  go_wp2_with fail
  refine HQ.out.mono ?_
  rintro e w7 ⟨rfl, k7⟩
  have HX := Lib.hid (HX.out.keep k7); have HP8 := Lib.hid (HP8.out.keep k7); have HF := Lib.hid (HF.out.keep k7); have HB := Lib.hid (HB.out.keep k7); have HT := Lib.hid (HT.out.keep k7); have HK := Lib.hid (HK.out.trans k7)
  clear k7 HQ p0 p1 p2 p3 p4 q0 q1 q2 q3 q4
  cases hsp : splI n b f with
  | some r =>
    obtain ⟨q, p, t⟩ := r
    have he0 : er = 0 := by rw [HEK.out, hsp]; rfl
    subst he0
    have hcc : cR = ⟨n, t, tzS t, atkS f b n q p t⟩ := by rw [HCR.out, hsp]; rfl
    subst hcc
    obtain ⟨f1, f2, f3, f4⟩ := atk_facts (by omega) HFF.out HBF.out hsp
    have HLN := Lib.hid f1
    generalize atkS f b n q p t = st at *
    have hd := deliveredC_any w7 ⟨n, t, tzS t, st⟩ _ HX.out (by dsimp only; omega)
    have HD := Lib.hid hd
    have HF2 := Lib.hid f2; have HF3 := Lib.hid f3; have HF4 := Lib.hid f4
    have hbn : ((0 : Int) == 0) = true := rfl
    obtain ⟨p0, p1, p2, p3, p4⟩ := Go.Proofs.YtbcfkgolhklkaaaDoor.c5 HP8.out
    clear hsp hd f1 f2 f3 f4 HCR HEK
    dsimp only at p0 p1 p2 p3 p4 ⊢
    go_wp2_with fail
    refine HD.out.mono ?_
    rintro e w8 ⟨u, rfl, hO⟩
    obtain ⟨au, cu, rfl, hr⟩ := hO.rd
    have hdc : delC ⟨n, t, tzS t, st⟩ = delL t st.nodes := rfl
    rw [hdc] at hr
    have hk8 := hO.2
    have HX := Lib.hid (HX.out.keep hk8); have HP8 := Lib.hid (HP8.out.keep hk8); have HF := Lib.hid (HF.out.keep hk8); have HK := Lib.hid (HK.out.trans hk8)
    have hco := consistentC_any w8 ⟨n, t, tzS t, st⟩ _ HX.out (by have := HLN.out; dsimp only; omega)
    rw [hdc, cons_two HF2.out HF3.out] at hco
    have HCO := Lib.hid hco; have HR := Lib.hid hr
    rw [hdc]
    obtain ⟨LD, hLD⟩ : ∃ l, l = delL t st.nodes := ⟨_, rfl⟩
    rw [← hLD] at HF2 HF3 HR ⊢
    clear hO hr hk8 hco HD p0 p1 p2 p3 p4 hLD hdc
    obtain ⟨p0, p1, p2, p3, p4⟩ := Go.Proofs.YtbcfkgolhklkaaaDoor.c5 HP8.out
    go_wp2_with fail
    refine HCO.out.mono ?_
    rintro e w9 ⟨rfl, k9⟩
    have h1 := containsT_any au _ cu LD strX w9 (HR.out.keep k9)
    rw [memT_of HF2.out] at h1
    unfold strX at h1
    have H1 := Lib.hid h1
    clear HCO h1
    go_wp2_with fail
    refine H1.out.mono ?_
    rintro e w10 ⟨rfl, k10⟩
    have h2 := containsT_any au _ cu LD strY w10 ((HR.out.keep k9).keep k10)
    rw [memT_of HF3.out] at h2
    unfold strY at h2
    have H2 := Lib.hid h2
    clear H1 h2
    go_wp2_with fail
    refine H2.out.mono ?_
    rintro e w11 ⟨rfl, k11⟩
    have k12 := k9.trans (k10.trans k11)
    have hP := HP8.out.keep k12
    clear p0 p1 p2 p3 p4
    have p1 := hP.cell 1 (v := .int .u16 (sv t)) rfl
    have kA := (Keeps.refl w11).alloc (.cells #[.int .u16 (sv t)] 24)
    have r1 : Rd (w11.alloc (.cells #[.int .u16 (sv t)] 24)) (some ⟨w11.heap.size, 0, none⟩) 1 1 1 (sl [t]) := rd_new 24 1 w11 _ 1 (by decide) rfl
    have hdi := dis_any fa _ fc _ 1 1 f [t] _ ((HF.out.keep k12).keep kA) r1
    rw [HF4.out] at hdi
    have HDI := Lib.hid hdi; have HKF := Lib.hid ((HK.out.trans k12).trans kA)
    clear k9 k10 k11 k12 hP kA r1 hdi H2
    go_wp2_with fail
    refine HDI.out.mono ?_
    rintro e w12 ⟨rfl, rfl⟩
    clear HDI p1
    go_wp2_with fail
    go_ret
    exact ⟨rfl, HKF.out⟩
  | none =>
    have he0 : er = 13 := by rw [HEK.out, hsp]; rfl
    subst he0
    have HNS := Lib.hid (fun t ht h0 hr => no_split (t := t) hsp ht h0 hr)
    have hbn : ((13 : Int) == 0) = false := rfl
    have L := Lib.hid HB.out.lenS
    have sb := HB.out.small
    clear hsp HCR HEK HX HP8 HT
    obtain ⟨w0, rfl⟩ : ∃ W, W = w7 := ⟨_, rfl⟩
    go_wp2_with fail
    go_loopw [75] (fun u wr => ∃ i : Nat, i ≤ b.length ∧ u = .int .i64 i ∧ Keeps w0 wr) (fun u _ => b.length - (RowKit.intOf u).toNat)
    case atStart => exact ⟨0, Nat.zero_le _, rfl, Keeps.refl _⟩
    case round =>
      obtain ⟨i, hi, rfl, K⟩ := hrel
      by_cases hlt : i < b.length
      · have g0 := (HB.out.keep K).at hlt
        have hao := HB.out.isSome (by omega)
        have hmem : at_ b i ∈ b := at_mem hlt
        have HLT := Lib.hid (HBF.out _ hmem)
        have HMEM := Lib.hid hmem
        generalize at_ b i = s at *
        have HKW := Lib.hid K
        clear K hmem
        go_wp2_with fail
        clear g0
        obtain ⟨wo, rfl⟩ : ∃ wo : World, wo = wr := ⟨_, rfl⟩
        go_loopw [15, 80] (fun u v wr => ∃ j : Nat, j ≤ n ∧ v = .int .i64 j ∧ u = .int .i64 (corTo s j).length ∧ Keeps w0 wr) (fun _ v _ => n - (RowKit.intOf v).toNat)
        case atStart => exact ⟨0, Nat.zero_le _, rfl, rfl, HKW.out⟩
        case round =>
          obtain ⟨j, hj, rfl, rfl, K⟩ := hrel
          have hle := corTo_le s j
          by_cases hlj : j < n
          · have hcb := compl_bit s j (by omega)
            have hcs := corTo_succ s j
            have hmin : min j 16 = j := by omega
            have HKW2 := Lib.hid K
            clear K
            cases hq : ((s >>> j) &&& 1#16 == 1#16) with
            | true =>
              rw [hq, if_pos rfl] at hcb hcs
              rw [List.append_nil] at hcs
              have HCS := Lib.hid hcs
              clear hcs hq
              go_wp2_with fail
              go_roundw
              case rel => exact ⟨j + 1, by omega, by go_num, by rw [HCS.out]; first | done | go_num, HKW2.out⟩
              case measure => simp [RowKit.intOf]; omega
            | false =>
              rw [hq, if_neg (by simp)] at hcb hcs
              have HCS := Lib.hid hcs
              clear hcs hq
              go_wp2_with fail
              go_roundw
              case rel => exact ⟨j + 1, by omega, by go_num, by rw [HCS.out, List.length_append, List.length_singleton]; first | done | go_num, HKW2.out⟩
              case measure => simp [RowKit.intOf]; omega
          · have hjn : j = n := by omega
            have HRE := Lib.hid (rest_eq (n := n) (t := s) (by omega) HLT.out).2
            have hcl : (corTo s j).length = (corrL n s).length := by rw [hjn, corTo_eq]
            obtain ⟨z, hz⟩ : ∃ z, z = (corTo s j).length := ⟨_, rfl⟩
            rw [← hz] at hle ⊢
            have HZ : Hid (z = (corrL n s).length) := Lib.hid (by rw [hz, hcl])
            have HKW2 := Lib.hid K
            clear K hz hcl hjn
            by_cases hs0 : s = 0#16
            · have hb0 : (s != 0#16) = false := by simpa using hs0
              clear hs0
              go_wp2_with fail
              go_roundw
              case rel => exact ⟨i + 1, by omega, by go_num, HKW2.out⟩
              case measure => simp [RowKit.intOf]; omega
            · have hb0 : (s != 0#16) = true := by simpa using hs0
              by_cases hz2 : z < 2
              · clear hs0
                go_wp2_with fail
                go_roundw
                case rel => exact ⟨i + 1, by omega, by go_num, HKW2.out⟩
                case measure => simp [RowKit.intOf]; omega
              · have hdo := HNS.out s HMEM.out hs0 (by have h1 := HRE.out; have h2 := HZ.out; omega)
                have kA := (Keeps.refl wr).alloc (.cells #[.int .u16 (sv s)] 24)
                have r1 : Rd (wr.alloc (.cells #[.int .u16 (sv s)] 24)) (some ⟨wr.heap.size, 0, none⟩) 1 1 1 (sl [s]) := rd_new 24 1 wr _ 1 (by decide) rfl
                have hdi := dis_any fa _ fc _ 1 1 f [s] _ ((HF.out.keep HKW2.out).keep kA) r1
                rw [hdo] at hdi
                have HDI := Lib.hid hdi; have HKF := Lib.hid (HKW2.out.trans kA)
                have hz3 : (z : Int) ≥ 2 := by omega
                clear hs0 hdo kA r1 hdi
                go_wp2_with fail
                refine HDI.out.mono ?_
                rintro e w12 ⟨rfl, rfl⟩
                clear HDI
                go_wp2_with fail
                go_roundw
                case rel => exact ⟨i + 1, by omega, by go_num, HKF.out⟩
                case measure => simp [RowKit.intOf]; omega
      · have HKF := Lib.hid (HK.out.trans K)
        clear K
        go_wp2_with fail
        go_ret
        exact ⟨rfl, HKF.out⟩
end Go.Proofs.YtbcfkgolhklkaaaDoor
