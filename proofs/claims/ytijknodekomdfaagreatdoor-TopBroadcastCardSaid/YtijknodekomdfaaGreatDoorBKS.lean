/- Texts joined into one, what is needed of them (a program of ours). -/
import Derived.Test.YtijknodekomdfaaGreatDoorBKA
import Derived.Test.YtijknodekomdfaaGreatDoorProg
import Derived.Test.YtijknodekomdfaaGreatDoorBKP
namespace Go.Proofs.YtijknodekomdfaaGreatDoor
open Go.RowKit Go.Lib

def fk (x y : S) : List S → Option S
  | [] => none
  | z :: zs => if x &&& y &&& ~~~z == 0#16 then some z else fk x y zs
def fj (x : S) (b : List S) : List S → Option (S × S)
  | [] => none
  | y :: ys => match fk x y b with | some z => some (y, z) | none => fj x b ys
def fi (b : List S) : List S → Option (S × S × S)
  | [] => none
  | x :: xs => match fj x b (x :: xs) with | some (y, z) => some (x, y, z) | none => fi b xs
end Go.Proofs.YtijknodekomdfaaGreatDoor
namespace Go.Proofs.YtijknodekomdfaaGreatDoor
open Go.RowKit Go.Lib

def ml (x y p : S) : List S → Option S
  | [] => none
  | z :: zs => if x &&& y &&& ~~~(p ||| z) == 0#16 then some z else ml x y p zs
def mk (x y : S) : List S → Option (S × S)
  | [] => none
  | p :: ps => match ml x y p (p :: ps) with | some z => some (p, z) | none => mk x y ps
end Go.Proofs.YtijknodekomdfaaGreatDoor
namespace Go.Proofs.YtijknodekomdfaaGreatDoor
open Go.RowKit Go.Lib Go.Shelf

def disOK (b f : List S) : Bool := (fi b f).isNone
theorem same_step {l m : List S} {k n : Nat} (hl : l.length = n) (hm : m.length = n) (hk : k < n) : (l.drop k == m.drop k) = (at_ l k == at_ m k && l.drop (k + 1) == m.drop (k + 1)) := by
  rw [drop_at l k (by omega), drop_at m k (by omega)]; rfl

set_option maxHeartbeats 400000 in
theorem same_any (a1 : Option Addr) (n1 c1 : Nat) (a2 : Option Addr) (n2 c2 : Nat) (f b : List S) (w : World) (h1 : Rd w a1 n1 c1 1 (sl f)) (h2 : Rd w a2 n2 c2 1 (sl b)) :
    Calls Tryz.prog 84 #[.slice a1 n1 c1, .slice a2 n2 c2] w fun e w' => e = .returned (.bool (f == b)) ∧ Keeps w w' := by
  have s1 := h1.small; have s2 := h2.small; have l1 := h1.lenS; have l2 := h2.lenS
  by_cases hn : n1 = n2
  · subst hn
    have HS := Lib.hid (@same_step f b · n1 l1 l2)
    have L1 := Lib.hid l1; have L2 := Lib.hid l2; clear l1 l2
    have hb : ((n1 : Int) != (n1 : Int)) = false := by simp
    go_enter Tryz.func84, Tryz.ntmps84
    go_wp2
    go_loopw [5] (fun v wr => ∃ k : Nat, k ≤ n1 ∧ v = .int .i64 k ∧ Keeps w wr ∧ Hid ((f == b) = (f.drop k == b.drop k))) (fun v _ => n1 - (RowKit.intOf v).toNat)
    case atStart => exact ⟨0, Nat.zero_le _, rfl, Keeps.refl _, rfl⟩
    case round =>
      obtain ⟨k, hk, rfl, K1, HI⟩ := hrel
      by_cases hlt : k < n1
      · have hc := (h1.keep K1).at hlt
        have hd := (h2.keep K1).at hlt
        have ha := h1.isSome (by omega)
        have hb2 := h2.isSome (by omega)
        cases hq : (at_ f k == at_ b k) with
        | true =>
          have hq' : (at_ f k != at_ b k) = false := by simp [bne, hq]
          go_wp2
          go_quiet (fail)
          go_wp2
          go_roundw
          case rel => exact ⟨k + 1, by omega, by go_num, K1.drewN _, hrfl <| by rw [HI.out, HS.out k hlt, hq, Bool.true_and]⟩
          case measure => simp [RowKit.intOf]; omega
        | false =>
          have hq' : (at_ f k != at_ b k) = true := by simp [bne, hq]
          go_wp2
          go_quiet (fail)
          go_wp2
          go_ret
          exact ⟨ret_eq (by rw [HI.out, HS.out k hlt, hq, Bool.false_and]; rfl), K1.drewN _⟩
      · go_wp2
        go_ret
        exact ⟨ret_eq (by rw [HI.out, dropN L1 hlt, dropN L2 hlt]; rfl), K1⟩
  · have hb : ((n1 : Int) != (n2 : Int)) = true := by simp; omega
    have hr : (f == b) = false := by
      rw [beq_eq_false_iff_ne]; intro h; rw [h] at l1; omega
    have HR := Lib.hid hr; clear hr
    clear l1 l2
    go_enter Tryz.func84, Tryz.ntmps84
    go_wp2
    go_ret
    exact ⟨ret_eq (by rw [HR.out]; rfl), Keeps.refl _⟩
end Go.Proofs.YtijknodekomdfaaGreatDoor
namespace Go.Proofs.YtijknodekomdfaaGreatDoor
open Go.RowKit Go.Lib

theorem fk_isNone (x y : S) (l : List S) : (fk x y l).isNone = true ↔ ∀ z ∈ l, x &&& y &&& ~~~z ≠ 0#16 := by
  induction l with
  | nil => simp [fk]
  | cons a t ih =>
    unfold fk
    by_cases h : (x &&& y &&& ~~~a == 0#16) = true
    · rw [if_pos h]
      simp only [Option.isNone_some, Bool.false_eq_true, false_iff]
      intro hc
      exact hc a (by simp) (by simpa using h)
    · rw [if_neg h, ih]
      constructor
      · intro h2 z hz
        rcases List.mem_cons.1 hz with rfl | hz
        · simpa using h
        · exact h2 z hz
      · intro h2 z hz; exact h2 z (List.mem_cons_of_mem _ hz)
theorem fj_isNone (x : S) (b l : List S) : (fj x b l).isNone = true ↔ ∀ y ∈ l, ∀ z ∈ b, x &&& y &&& ~~~z ≠ 0#16 := by
  induction l with
  | nil => simp [fj]
  | cons a t ih =>
    unfold fj
    have h1 := fk_isNone x a b
    cases hq : fk x a b with
    | some q =>
      rw [hq] at h1
      simp only [Option.isNone_some, Bool.false_eq_true, false_iff] at h1 ⊢
      intro hc
      exact h1 (hc a (by simp))
    | none =>
      rw [hq] at h1
      simp only [Option.isNone_none, true_iff] at h1
      simp only
      rw [ih]
      constructor
      · intro h2 y hy
        rcases List.mem_cons.1 hy with rfl | hy
        · exact h1
        · exact h2 y hy
      · intro h2 y hy; exact h2 y (List.mem_cons_of_mem _ hy)
theorem fi_isNone (b l : List S) : (fi b l).isNone = true ↔ ∀ x ∈ l, ∀ y ∈ l, ∀ z ∈ b, x &&& y &&& ~~~z ≠ 0#16 := by
  induction l with
  | nil => simp [fi]
  | cons a t ih =>
    unfold fi
    have h1 := fj_isNone a b (a :: t)
    cases hq : fj a b (a :: t) with
    | some q =>
      rw [hq] at h1
      simp only [Option.isNone_some, Bool.false_eq_true, false_iff] at h1 ⊢
      intro hc
      exact h1 (hc a (by simp))
    | none =>
      rw [hq] at h1
      simp only [Option.isNone_none, true_iff] at h1
      simp only
      rw [ih]
      constructor
      · intro h2 x hx y hy z hz
        rcases List.mem_cons.1 hx with rfl | hx2
        · exact h1 y hy z hz
        · rcases List.mem_cons.1 hy with rfl | hy2
          · rw [BitVec.and_comm x y]; exact h1 x (List.mem_cons_of_mem _ hx2) z hz
          · exact h2 x hx2 y hy2 z hz
      · intro h2 x hx y hy; exact h2 x (List.mem_cons_of_mem _ hx) y (List.mem_cons_of_mem _ hy)
theorem disOK_iff (b f : List S) : disOK b f = true ↔ ∀ x ∈ f, ∀ y ∈ f, ∀ z ∈ b, x &&& y &&& ~~~z ≠ 0#16 := fi_isNone b f
end Go.Proofs.YtijknodekomdfaaGreatDoor
namespace Go.Proofs.YtijknodekomdfaaGreatDoor
open Go.RowKit Go.Lib Go.Shelf

/-- some set of f avoids a set -/
def avoids (f : List S) (bad : S) : Bool := f.any fun q => q &&& bad == 0#16
def availS (f b : List S) : Bool := b.all (avoids f)

end Go.Proofs.YtijknodekomdfaaGreatDoor
namespace Go.Proofs.YtijknodekomdfaaGreatDoor
open Go.RowKit Go.Lib Go.Shelf

theorem step_facts {f b : List S} {n : Nat} {byz : S} {source : Nat} {st : St} (h : DstOk n st ∧ SmallS st) (ch : Nat) :
    (DstOk n (stepS f b n byz (lieL n byz source strX strY) st ch) ∧ SmallS (stepS f b n byz (lieL n byz source strX strY) st ch)) ∧ measS n (stepS f b n byz (lieL n byz source strX strY) st ch) ≤ measS n st + 1 := by
  unfold stepS
  split
  · exact ⟨h, by omega⟩
  · split
    · rename_i h0 h1
      refine ⟨⟨deliv_dst h.1 _, deliv_small h.2 _⟩, ?_⟩
      have := deliv_meas (f := f) (b := b) (n := n) (byz := byz) h1 (dst_at h.1 h1)
      omega
    · rename_i h0 h1
      have hlt : ch % (st.flight.length + (lieL n byz source strX strY).length) < st.flight.length + (lieL n byz source strX strY).length := Nat.mod_lt _ (by omega)
      refine ⟨⟨dst_snoc (nodes := st.nodes) h.1 (lieL_ok (getD_memE ct0 (by omega))), h.2⟩, ?_⟩
      unfold measS
      dsimp only
      rw [List.length_append, List.length_singleton]
      omega
theorem run_facts {f b : List S} {n : Nat} {byz : S} {source : Nat} : ∀ (chs : List Nat) {st : St}, DstOk n st ∧ SmallS st → (DstOk n (runS f b n byz (lieL n byz source strX strY) st chs) ∧ SmallS (runS f b n byz (lieL n byz source strX strY) st chs)) ∧ measS n (runS f b n byz (lieL n byz source strX strY) st chs) ≤ measS n st + chs.length
  | [], st, h => ⟨h, Nat.le_refl _⟩
  | c :: t, st, h => by
    obtain ⟨h1, h2⟩ := step_facts (f := f) (b := b) (byz := byz) (source := source) h c
    obtain ⟨h3, h4⟩ := run_facts (f := f) (b := b) (byz := byz) (source := source) t h1
    refine ⟨h3, ?_⟩
    rw [List.length_cons]
    change measS n (runS f b n byz (lieL n byz source strX strY) (stepS f b n byz (lieL n byz source strX strY) st c) t) ≤ _
    omega
theorem run_all {f b : List S} {n : Nat} {byz : S} {source : Nat} (hn : n ≤ 8) (chs : List Nat) : (DstOk n (runS f b n byz (lieL n byz source strX strY) (startS n byz source strX 0) chs) ∧ SmallS (runS f b n byz (lieL n byz source strX strY) (startS n byz source strX 0) chs)) ∧ measS n (runS f b n byz (lieL n byz source strX strY) (startS n byz source strX 0) chs) ≤ 200 + chs.length := by
  obtain ⟨h1, h2, h3, h4⟩ := start9 (n := n) (byz := byz) (source := source) hn _ rfl
  rw [h1]
  obtain ⟨h5, h6⟩ := run_facts (f := f) (b := b) (byz := byz) (source := source) chs ⟨h3, h2⟩
  exact ⟨h5, by omega⟩
theorem bits_ne {x : S} (h : x ≠ 0#16) : ∃ j, x.getLsbD j = true := by
  apply Classical.byContradiction
  intro hc
  apply h
  apply BitVec.eq_of_getLsbD_eq
  intro i _
  cases hb : x.getLsbD i with
  | false => simp
  | true => exact absurd ⟨i, hb⟩ hc
theorem dis_of {f b : List S} (h : disOK b f = true) : Diss f b := fun p hp q hq t ht => by
  obtain ⟨j, hj⟩ := bits_ne ((disOK_iff b f).1 h p hp q hq t ht)
  have hlt := bit_lt hj
  rw [BitVec.getLsbD_and, BitVec.getLsbD_and, BitVec.getLsbD_not, Bool.and_eq_true, Bool.and_eq_true, Bool.and_eq_true] at hj
  exact ⟨j, hj.1.1, hj.1.2, by simpa using hj.2.2⟩
theorem avl_of {f b : List S} (h : availS f b = true) : Avl f b := fun t ht => by
  unfold availS at h
  have h1 := List.all_eq_true.1 h t ht
  unfold avoids at h1
  obtain ⟨q, hq, h2⟩ := List.any_eq_true.1 h1
  have h3 : q &&& t = 0#16 := by simpa using h2
  refine ⟨q, hq, fun j hj => ?_⟩
  have h4 := congrArg (fun x : S => x.getLsbD j) h3
  simp only [BitVec.getLsbD_and, hj, Bool.true_and] at h4
  simpa using h4
theorem ins_of {f : List S} {n : Nat} (h : ∀ x ∈ f, x.toNat < 2 ^ n) : Ins n f := fun q hq => inN_of (h q hq)
theorem inv_setE {f b : List S} {n : Nat} {byz : S} {source : Nat} {X : Str} {st : St} (I : Inv f b n byz source X st) (h1 : 1 ≤ n) (h2 : n ≤ 8) (hc : chk39 f b n = 0) : setE f b n byz st.nodes st.flight = 0 := by
  rw [setE_chk ⟨h1, h2, I.len⟩ ?_ ?_, hc]
  · have : ∀ (l : List Nd) (k : Nat), (∀ i, i < l.length → (l.getD i nd0).id = ((k + i : Nat) : Int)) → idsB l k = true := by
      intro l
      induction l with
      | nil => intro k _; rfl
      | cons x t ih =>
        intro k h
        unfold idsB
        rw [Bool.and_eq_true]
        refine ⟨by have := h 0 (by simp); simpa using this, ih (k + 1) fun i hi => ?_⟩
        have := h (i + 1) (by simpa using hi)
        rw [show k + 1 + i = k + (i + 1) by omega]
        simpa [List.getD] using this
    refine this st.nodes 0 fun i hi => ?_
    rw [Nat.zero_add]
    exact I.ids i (by rw [← I.len]; exact hi)
  · refine List.any_eq_false.2 fun c hc => ?_
    obtain ⟨d, s, h3, h4, _⟩ := I.fl c hc
    unfold corrI
    rw [h3, Int.toNat_natCast, h4]
    simp
theorem honB_corr {n : Nat} {byz : S} {x : Nd} {i : Nat} (hn : n ≤ 16) (hi : i < n) (hx : x.id = (i : Int)) : honB byz x = byz.getLsbD i := by
  unfold honB
  rw [hx, Int.toNat_natCast]
  have : decide (0 ≤ (i : Int) ∧ (i : Int) < 16) = true := by rw [decide_eq_true_eq]; omega
  rw [this, Bool.true_and]
theorem nd_mem {n : Nat} {st : St} (hl : st.nodes.length = n) {x : Nd} (hx : x ∈ st.nodes) : ∃ i, i < n ∧ ndA st i = x := by
  obtain ⟨i, hi, rfl⟩ := List.mem_iff_getElem.1 hx
  exact ⟨i, by omega, by simp [ndA, List.getD, hi]⟩
theorem del_mem {f b : List S} {n : Nat} {byz : S} {source : Nat} {X : Str} {st : St} (I : Inv f b n byz source X st) {v : Str} (hv : v ∈ delL byz st.nodes) : ∃ i, i < n ∧ (ndA st i).hasD = true ∧ (ndA st i).delivered = v := by
  unfold delL honL at hv
  obtain ⟨x, hx, rfl⟩ := List.mem_map.1 hv
  rw [List.mem_filter, List.mem_filter] at hx
  obtain ⟨i, hi, he⟩ := nd_mem I.len hx.1.1
  exact ⟨i, hi, by rw [he]; exact hx.2, by rw [he]⟩
theorem inv_cons {f b : List S} {n : Nat} {byz : S} {source : Nat} {X : Str} {st : St} (hD : Diss f b) (hI : Ins n f) (hT : ∃ t ∈ b, sub9 byz t = true) (I : Inv f b n byz source X st) : consB (delL byz st.nodes) = true := by
  have h : ∀ v ∈ delL byz st.nodes, ∀ u ∈ delL byz st.nodes, v = u := fun v hv u hu => by
    obtain ⟨i, hi, h1, rfl⟩ := del_mem I hv
    obtain ⟨j, hj, h2, rfl⟩ := del_mem I hu
    exact cons_core hD hI hT I hi hj h1 h2
  generalize delL byz st.nodes = l at h ⊢
  cases l with
  | nil => rfl
  | cons x t =>
    show ((x :: t).all fun y => decide (y = x)) = true
    exact List.all_eq_true.2 fun y hy => by rw [decide_eq_true_eq]; exact h y hy x (List.mem_cons_self ..)
theorem inv_tot {f b : List S} {n : Nat} {byz : S} {source : Nat} {X : Str} {st : St} (hn : n ≤ 8) (hD : Diss f b) (hA : Avl f b) (hI : Ins n f) (hT : ∃ t ∈ b, sub9 byz t = true) (I : Inv f b n byz source X st) (hS : st.flight = []) : totB byz st.nodes = true := by
  unfold totB
  by_cases h0 : (delL byz st.nodes).length = 0
  · rw [decide_eq_true h0]; rfl
  · rw [decide_eq_false h0, Bool.false_or, decide_eq_true_eq]
    obtain ⟨v, hv⟩ : ∃ v, v ∈ delL byz st.nodes := by
      cases h : delL byz st.nodes with
      | nil => rw [h] at h0; simp at h0
      | cons x t => exact ⟨x, List.mem_cons_self ..⟩
    obtain ⟨i, hi, h1, _⟩ := del_mem I hv
    have hall := total_all hD hA hI hT I hS hi h1
    unfold delL
    rw [List.length_map]
    congr 1
    refine List.filter_eq_self.2 fun x hx => ?_
    unfold honL at hx
    rw [List.mem_filter] at hx
    obtain ⟨j, hj, he⟩ := nd_mem I.len hx.1
    have hid : x.id = (j : Int) := by rw [← he]; exact I.ids j hj
    rw [honB_corr (n := n) (by omega) hj hid] at hx
    rw [← he]
    exact hall j (by unfold corr; simpa [hj] using hx.2)
theorem inv_src {f b : List S} {n : Nat} {byz : S} {source : Nat} {X : Str} {st : St} (hn : n ≤ 8) (hD : Diss f b) (hA : Avl f b) (hI : Ins n f) (hT : ∃ t ∈ b, sub9 byz t = true) (I : Inv f b n byz source X st) (hS : st.flight = []) (hc : corr n byz source = true) :
    (delL byz st.nodes).length = (corrL n byz).length ∧ ∀ v ∈ delL byz st.nodes, v = X := by
  have hall := source_all hD hA hI hT I hS hc
  have hid : ∀ (x : Nd) (j : Nat), j < n → ndA st j = x → honB byz x = byz.getLsbD j := fun x j hj he => honB_corr (n := n) (by omega) hj (by rw [← he]; exact I.ids j hj)
  have hmem : ∀ x ∈ honL byz st.nodes, x.hasD = true ∧ x.delivered = X := fun x hx => by
    unfold honL at hx
    rw [List.mem_filter] at hx
    obtain ⟨j, hj, he⟩ := nd_mem I.len hx.1
    rw [hid x j hj he] at hx
    rw [← he]
    exact hall j (by unfold corr; simpa [hj] using hx.2)
  constructor
  · have e1 : delL byz st.nodes = (honL byz st.nodes).map fun x => x.delivered := by
      unfold delL
      rw [List.filter_eq_self.2 fun x hx => (hmem x hx).1]
    rw [e1, List.length_map]
    have e2 : st.nodes = (List.range n).map (ndA st) := by
      apply List.ext_getElem
      · rw [List.length_map, List.length_range, I.len]
      · intro i h1 h2
        simp [ndA, List.getD, h1]
    unfold honL corrL
    rw [e2, List.filter_map, List.length_map]
    congr 1
    refine List.filter_congr fun j hj => ?_
    have hj' := List.mem_range.1 hj
    show (!honB byz (ndA st j)) = corr n byz j
    rw [hid _ j hj' rfl]
    unfold corr
    simp [hj']
  · intro v hv
    unfold delL at hv
    obtain ⟨x, hx, rfl⟩ := List.mem_map.1 hv
    rw [List.mem_filter] at hx
    exact (hmem x hx.1).2
end Go.Proofs.YtijknodekomdfaaGreatDoor
