/- Texts joined into one (wip/bin/pack.py): NrmA, AppNe, CompM, CompF. -/
import Derived.Lib.QuietBelow
import Derived.Test.YtijknodekomdfaaGreatDoorKC
import Derived.Test.YtijknodekomdfaaGreatDoorKF
import Derived.Test.YtijknodekomdfaaGreatDoorKYw
import Derived.Test.YtijknodekomdfaaGreatDoorKM
import Derived.Lib.SlicesCompact
import Derived.Deep.LoopGhost
import Derived.Lib.SliceRun
/- fault.two, slices.Clone at faults, what fault.normal asks of each fault. -/
namespace Go.Proofs.YtijknodekomdfaaGreatDoor
open Go.RowKit Go.Lib Go.Shelf

theorem eqNilF (w : World) (a : Option Addr) (n c n' c' : Nat) : (binOp .eql 22 (.slice a n c) (.slice none n' c')).run Tryz.prog w = .ok (.bool a.isNone) w := Lib.run_eql_slice_nil w _ _ a n c n' c' Tryz.underlying22
set_option maxHeartbeats 800000 in
theorem cloneF_any (a : Option Addr) (c : Nat) (l : List F2) (w : World) (h : Rd w a l.length c 2 (fl l)) (hb : l.length ≤ 1000000) :
    Calls Tryz.prog 211 #[.slice a l.length c] w fun e w' => ∃ v, e = .returned v ∧ Own 34 2 w w' v l.length (fl l) := by
  have q := eqNilF
  cases a with
  | none =>
    have hn : l.length = 0 := by
      rcases Nat.eq_zero_or_pos l.length with h0 | h0
      · exact h0
      · exact absurd (h.isSome h0) (by simp)
    have hl : l = [] := List.eq_nil_of_length_eq_zero hn
    subst hl
    clear hn h
    go_enter Tryz.func211, Tryz.ntmps211
    go_wp2_with fail
    go_ret
    exact ⟨_, rfl, Own.nil _ _ (Keeps.refl _)⟩
  | some ad =>
    have hO0 := Own.made (e := 34) (sz := 2) (Keeps.refl w) [] 0 (by decide) rfl
    have HO0 := Lib.hid hO0
    have HR := Lib.hid (h.keep ((Keeps.refl w).alloc (.cells #[] 34)))
    clear hO0 h
    go_enter Tryz.func211, Tryz.ntmps211
    go_wp2_with (at_builtin; refine wp_app tyF rfl _ _ rfl HO0.out rfl rfl HR.out (fl_oneCell l) (by omega) ?_)
    intro v' w1 hO1 hgr
    have HO1 := Lib.hid hO1
    clear hO1 hgr
    go_wp2_with fail
    go_ret
    have ho := HO1.out
    exact ⟨v', rfl, ho⟩
set_option maxRecDepth 20000 in
set_option maxHeartbeats 1000000 in
theorem nrmPred (a : F2) (B : Nat) (l : List F2) (w : World) (h0 : w.cell? ⟨B, 0, none⟩ = some (.int .u16 (sv a.1))) (h1 : w.cell? ⟨B, 1, none⟩ = some (.int .u16 (sv a.2))) :
    PredK Tryz.prog 215 #[.pointer (some ⟨B, 0, none⟩)] vf (othF a) l w := fun W x _ hk => by
  have K := (Keeps.refl W).alloc (.cells #[.int .u16 (sv x.1), .int .u16 (sv x.2)] 34)
  have c0 := K.cell (hk.cell h0)
  have c1 := K.cell (hk.cell h1)
  obtain ⟨d0, d1⟩ := newF x W 34
  have hcv := covers_any x a (W.alloc (.cells #[.int .u16 (sv x.1), .int .u16 (sv x.2)] 34))
  have hot : othF a x = (!((x.1 == a.1) && (x.2 == a.2)) && covF x a) := by
    obtain ⟨x1, x2⟩ := x
    obtain ⟨a1, a2⟩ := a
    rfl
  rw [hot]
  clear hot
  generalize covF x a = q at *
  obtain ⟨x1, x2⟩ := x
  obtain ⟨a1, a2⟩ := a
  dsimp only at *
  have HC := Lib.hid hcv
  clear hcv h0 h1
  show Calls Tryz.prog 215 #[.agg #[.int .u16 (sv x1), .int .u16 (sv x2)], .pointer (some ⟨B, 0, none⟩)] W _
  cases e1 : (x1 == a1)
  · have e1' : (a1 == x1) = false := by rw [BEq.comm]; exact e1
    rw [Bool.false_and, Bool.not_false, Bool.true_and]
    go_enter Tryz.func215, Tryz.ntmps215
    go_wp2_with fail
    refine HC.out.mono ?_
    rintro e w' ⟨rfl, K2⟩
    go_wp2_with fail
    go_ret
    exact ⟨rfl, K.trans K2⟩
  · have e1' : (a1 == x1) = true := by rw [BEq.comm]; exact e1
    cases e2 : (x2 == a2)
    · have e2' : (a2 == x2) = false := by rw [BEq.comm]; exact e2
      rw [Bool.and_false, Bool.not_false, Bool.true_and]
      go_enter Tryz.func215, Tryz.ntmps215
      go_wp2_with fail
      refine HC.out.mono ?_
      rintro e w' ⟨rfl, K2⟩
      go_wp2_with fail
      go_ret
      exact ⟨rfl, K.trans K2⟩
    · have e2' : (a2 == x2) = true := by rw [BEq.comm]; exact e2
      rw [Bool.and_true, Bool.not_true, Bool.false_and]
      go_enter Tryz.func215, Tryz.ntmps215
      go_wp2_with fail
      go_ret
      exact ⟨rfl, K⟩
end Go.Proofs.YtijknodekomdfaaGreatDoor
/- Append to a row of the call's own beside variables of the same type: no variable's block becomes the row's. No program. -/
namespace Go.Proofs.YtijknodekomdfaaGreatDoor
open Go.RowKit Go.Lib

theorem op_app_ne {P : Program} {t e : TypeId} {size bytes : Nat} (T : STy P t e size bytes) {w0 w : World} {o : Oper} {a : Act} {K : Act → World → Prop} {Q : Exit → Act → World → Prop}
    (s x : Operand) (ho : o.op = .call { callee := .builtin .append, args := #[s, x], argTypes := #[t, t] })
    {v : Value} {n : Nat} {xs : List Value} (hO : Own e size w0 w v n xs) (hnil : n = 0 → v = .slice none 0 0) (hs : a.eval s = v) {ad : Addr} {m c : Nat} {news : List Value} (hx : a.eval x = .slice (some ad) m c) (hr : Rd w (some ad) m c size news)
    (h1 : ∀ u ∈ news, u.oneCell' = true) (hm : 0 < m) (hn : n + m ≤ 10000000)
    (h : ∀ v' w', Own e size w0 w' v' (n + m) (xs ++ news) → w.grownBy w' v.ownBlock → (∀ B cs, Blk w B e cs → cs.size = size → some B ≠ v.ownBlock → some B ≠ v'.ownBlock) → K (a.put o.dst v') w') : o.wp P a w K Q := by
  obtain ⟨i, z, i1, i2, i3, i4, i5⟩ := T.info
  have hlt := hO.1.lt
  have hk : ∀ w', w.grownBy w' v.ownBlock → Keeps w0 w' := fun w' hgr => Below.grown hO.2.below hgr hO.2.size (fun k hk => (hlt k hk).1)
  have hml : n + m ≤ maxLen := by unfold maxLen; omega
  have hby : (n + m) * bytes ≤ 140737488355328 := Nat.le_trans (Nat.mul_le_mul hn T.small) (by decide)
  rcases Nat.eq_zero_or_pos n with h0 | h0
  · have hv := hnil h0
    have hown : w.ownsRow w.heap.size e size v n xs := ⟨hO.1.1, .inl ⟨hv, h0⟩⟩
    refine wp_append_own w s x t ho w.heap.size e i z size bytes T.u i1 i2 i3 i4 i5 T.pos v n xs hs hown ad m c news hx hr.len (fun j u hj => hr.cell j u hj) h1 hml hby (Nat.le_refl _) ?_
    intro v' w' hown' hgr _
    refine h v' w' ⟨⟨hown'.1, ?_⟩, hk w' hgr⟩ hgr ?_
    · rcases hown'.2 with h2 | ⟨g, cap, cur, rfl, hb, r⟩
      · exact .inl h2
      · exact .inr ⟨g, cap, cur, rfl, Nat.le_trans hO.2.size hb, r⟩
    · intro B cs hB _ _ he
      have := (hown'.lt B he.symm).1
      have := hB.lt
      omega
  · refine wp_append_own w s x t ho w0.heap.size e i z size bytes T.u i1 i2 i3 i4 i5 T.pos v n xs hs hO.1 ad m c news hx hr.len (fun j u hj => hr.cell j u hj) h1 hml hby hO.2.size ?_
    intro v' w' hown' hgr _
    refine h v' w' ⟨hown', hk w' hgr⟩ hgr ?_
    intro B cs hB hcs hne he
    have hB' : w'.heap[B]? = some (.cells cs e) := (hgr.block B hB.lt hne).trans hB
    rcases hown'.2 with ⟨h2, _⟩ | ⟨g, cap, cur, rfl, _, hg, h3, _, h5, _⟩
    · rw [h2] at he; cases he
    · have e1 : B = g := by injection he
      subst e1
      rw [hB'] at hg
      injection hg with hg
      injection hg with hg
      subst hg
      have hp := T.pos
      have h6 : 2 * size ≤ cap * size := Nat.mul_le_mul_right _ (by omega)
      omega
theorem wp_app_ne {P : Program} {t e : TypeId} {size bytes : Nat} (T : STy P t e size bytes) {w0 w : World} {ops : Array Oper} {rest : List Oper} {o : Oper} {a : Act} {Q : Exit → Act → World → Prop}
    (hg : o.guard = none) (s x : Operand) (ho : o.op = .call { callee := .builtin .append, args := #[s, x], argTypes := #[t, t] })
    {v : Value} {n : Nat} {xs : List Value} (hO : Own e size w0 w v n xs) (hnil : n = 0 → v = .slice none 0 0) (hs : a.eval s = v) {ad : Addr} {m c : Nat} {news : List Value} (hx : a.eval x = .slice (some ad) m c) (hr : Rd w (some ad) m c size news)
    (h1 : ∀ u ∈ news, u.oneCell' = true) (hm : 0 < m) (hn : n + m ≤ 10000000)
    (h : ∀ v' w', Own e size w0 w' v' (n + m) (xs ++ news) → w.grownBy w' v.ownBlock → (∀ B cs, Blk w B e cs → cs.size = size → some B ≠ v.ownBlock → some B ≠ v'.ownBlock) → wpList P ops Q rest (a.put o.dst v') w') : wpList P ops Q (o :: rest) a w :=
  wpList_plain hg fun _ hK => op_app_ne T s x ho hO hnil hs hx hr h1 hm hn fun v' w' h2 h3 h4 => hK _ _ (h v' w' h2 h3 h4)
/-- the same inside a region that draws its order -/
theorem step_app_ne {P : Program} {t e : TypeId} {size bytes : Nat} (T : STy P t e size bytes) {w0 w : World} {ops : Array Oper} {o : Oper} {a : Act} {K : Act → World → Prop} {Q : Exit → Act → World → Prop} {E : Prop}
    (hg : o.guard = none) (s x : Operand) (ho : o.op = .call { callee := .builtin .append, args := #[s, x], argTypes := #[t, t] })
    {v : Value} {n : Nat} {xs : List Value} (hO : Own e size w0 w v n xs) (hnil : n = 0 → v = .slice none 0 0) (hs : a.eval s = v) {ad : Addr} {m c : Nat} {news : List Value} (hx : a.eval x = .slice (some ad) m c) (hr : Rd w (some ad) m c size news)
    (h1 : ∀ u ∈ news, u.oneCell' = true) (hm : 0 < m) (hn : n + m ≤ 10000000)
    (h : ∀ v' w', Own e size w0 w' v' (n + m) (xs ++ news) → w.grownBy w' v.ownBlock → (∀ B cs, Blk w B e cs → cs.size = size → some B ≠ v.ownBlock → some B ≠ v'.ownBlock) → K (a.put o.dst v') w') : if Region.wanted o (yielded ops a.tmps) = true then Oper.wp P o a w K Q else E := by
  have hw : Region.wanted o (yielded ops a.tmps) = true := by simp [Region.wanted, hg]
  rw [if_pos hw]
  exact op_app_ne T s x ho hO hnil hs hx hr h1 hm hn h
/-- a new block is not the row's -/
theorem own_fresh {e : TypeId} {sz : Nat} {w0 w : World} {v : Value} {n : Nat} {xs : List Value} (h : Own e sz w0 w v n xs) : some w.heap.size ≠ v.ownBlock := fun he => by
  have := (h.1.lt _ he.symm).2
  omega
theorem blk_grown {w w' : World} {row : Option Nat} {B : Nat} {T : TypeId} {cs : Array Value} (h : Blk w B T cs) (hg : w.grownBy w' row) (hne : some B ≠ row) : Blk w' B T cs := (hg.block B h.lt hne).trans h
end Go.Proofs.YtijknodekomdfaaGreatDoor
/- The faults of a sorted list, each once: plain. -/
namespace Go.Proofs.YtijknodekomdfaaGreatDoor
open Go.RowKit Go.Lib Go.Shelf Go.Sort

def ddF (l : List F2) : List F2 := compactUpTo l.toArray l.length
def LeF (x y : F2) : Prop := ¬ ltF y x
theorem leF_lt {x y z : F2} (h : LeF x y) (k : ltF y z) : ltF x z := by
  rcases ltF_total x y with g | g | g
  · exact ltF_trans g k
  · rw [g]; exact k
  · exact absurd g h
theorem ddF_mem (l : List F2) (x : F2) : x ∈ ddF l ↔ x ∈ l := by
  unfold ddF compactUpTo
  rw [List.mem_map]
  constructor
  · rintro ⟨j, hj, rfl⟩
    have hj' := List.mem_range.1 (List.mem_filter.1 hj).1
    rw [getElem!_pos _ j (by simpa using hj')]
    simp
  · intro hx
    obtain ⟨j, hj, rfl⟩ := List.mem_iff_getElem.1 hx
    have key : ∀ j, j < l.length → ∃ i ∈ (List.range l.length).filter (keeps l.toArray), l.toArray[i]! = l.toArray[j]! := by
      intro j
      induction j with
      | zero => intro h0; exact ⟨0, List.mem_filter.2 ⟨List.mem_range.2 h0, by simp [keeps]⟩, rfl⟩
      | succ j ih =>
        intro h1
        by_cases hk : keeps l.toArray (j + 1) = true
        · exact ⟨j + 1, List.mem_filter.2 ⟨List.mem_range.2 h1, hk⟩, rfl⟩
        · obtain ⟨i, hi, he⟩ := ih (by omega)
          refine ⟨i, hi, he.trans ?_⟩
          simp only [keeps, decide_eq_true_eq, not_or, Decidable.not_not, Nat.add_sub_cancel] at hk
          exact hk.2.symm
    obtain ⟨i, hi, he⟩ := key j hj
    refine ⟨i, hi, he.trans ?_⟩
    rw [getElem!_pos _ j (by simpa using hj)]
    simp
theorem ddF_asc (l : List F2) (h : l.Pairwise LeF) : AscF (ddF l) := by
  unfold AscF ddF compactUpTo
  rw [List.pairwise_map]
  refine List.Pairwise.imp_of_mem ?_ ((List.pairwise_lt_range (n := l.length)).filter _)
  intro i j _ hj hij
  obtain ⟨hj1, hj2⟩ := List.mem_filter.1 hj
  have hjn := List.mem_range.1 hj1
  simp only [keeps, decide_eq_true_eq] at hj2
  have hne : l.toArray[j]! ≠ l.toArray[j - 1]! := by
    rcases hj2 with e | e
    · omega
    · exact e
  have hp := List.pairwise_iff_getElem.1 h
  have hat : ∀ i, (hi : i < l.length) → l.toArray[i]! = l[i] := fun i hi => by rw [getElem!_pos _ i (by simpa using hi)]; simp
  rw [hat i (by omega), hat j hjn]
  rw [hat j hjn, hat (j - 1) (by omega)] at hne
  have h1 : ltF l[j - 1] l[j] := by
    have := hp (j - 1) j (by omega) hjn (by omega)
    rcases ltF_total l[j - 1] l[j] with g | g | g
    · exact g
    · exact absurd g.symm hne
    · exact absurd g this
  by_cases e : i = j - 1
  · subst e; exact h1
  · exact leF_lt (hp i (j - 1) (by omega) (by omega) (by omega)) h1
theorem ddF_le (l : List F2) : (ddF l).length ≤ l.length := by
  unfold ddF compactUpTo
  rw [List.length_map]
  exact Nat.le_trans (List.length_filter_le _ _) (by simp)
theorem ddF_small (l : List F2) (h : l.length < 2) : ddF l = l := by
  match l, h with
  | [], _ => rfl
  | [x], _ => rfl

/-! ### rows of faults of the call's own -/
theorem fl_set (l : List F2) (k : Nat) (x : F2) (hk : k < l.length) : fl (l.set k x) = ((fl l).set (k * 2) (.int .u16 (sv x.1))).set (k * 2 + 1) (.int .u16 (sv x.2)) := by
  apply List.ext_getElem?
  intro j
  by_cases hj : j < l.length * 2
  · have hi : j / 2 < l.length := by omega
    have h1 := fl_at (l.set k x) (j / 2) (by simpa using hi)
    have h2 := fl_at l (j / 2) hi
    rw [List.getElem?_set, List.getElem?_set]
    simp only [length_fl, List.length_set]
    rcases Nat.mod_two_eq_zero_or_one j with h0 | h0
    · have ej : j / 2 * 2 = j := by omega
      rw [ej] at h1 h2
      rw [h1.1, h2.1]
      by_cases e : k = j / 2
      · subst e
        rw [if_neg (by omega), if_pos (by omega), if_pos (by omega)]
        simp [fa, hi]
      · rw [if_neg (by omega), if_neg (by omega)]
        simp [fa, List.getD, e]
    · have ej : j / 2 * 2 + 1 = j := by omega
      rw [ej] at h1 h2
      rw [h1.2, h2.2]
      by_cases e : k = j / 2
      · subst e
        rw [if_pos (by omega), if_pos (by omega)]
        simp [fa, hi]
      · rw [if_neg (by omega), if_neg (by omega)]
        simp [fa, List.getD, e]
  · rw [List.getElem?_eq_none (by simp [length_fl]; omega), List.getElem?_eq_none (by simp [length_fl]; omega)]
theorem own_cellF {e : TypeId} {w0 w : World} {g n cap : Nat} {l : List F2} (h : Own e 2 w0 w (.slice (some ⟨g, 0, none⟩) n cap) n (fl l)) {k : Nat} (hk : k < n) :
    (w.cell? ⟨g, k * 2, none⟩ = some (.int .u16 (sv (fa l k).1)) ∧ w.frozen? ⟨g, k * 2, none⟩ = false) ∧ (w.cell? ⟨g, k * 2 + 1, none⟩ = some (.int .u16 (sv (fa l k).2)) ∧ w.frozen? ⟨g, k * 2 + 1, none⟩ = false) := by
  have hl : l.length = n := by have := h.1.1; rw [length_fl] at this; omega
  have hf := fl_at l k (by omega)
  refine ⟨⟨?_, h.1.frozenAt _⟩, ⟨?_, h.1.frozenAt _⟩⟩
  · rw [h.1.cellAt (k * 2) (by omega), hf.1]
  · rw [h.1.cellAt (k * 2 + 1) (by omega), hf.2]
theorem own_put1 {e : TypeId} {sz : Nat} {w0 w : World} {g n cap : Nat} {xs : List Value} (h : Own e sz w0 w (.slice (some ⟨g, 0, none⟩) n cap) n xs) (k : Nat) (v : Value) :
    Own e sz w0 (w.setCell ⟨g, k, none⟩ v) (.slice (some ⟨g, 0, none⟩) n cap) n (xs.set k v) :=
  ⟨(h.1.stored k v).1, Below.setCell h.2.below (by exact (h.1.lt g rfl).1) _⟩
theorem own_putF {e : TypeId} {w0 w : World} {g n cap : Nat} {l : List F2} (h : Own e 2 w0 w (.slice (some ⟨g, 0, none⟩) n cap) n (fl l)) (k : Nat) (hk : k < n) (x : F2) :
    Own e 2 w0 ((w.setCell ⟨g, k * 2, none⟩ (.int .u16 (sv x.1))).setCell ⟨g, k * 2 + 1, none⟩ (.int .u16 (sv x.2))) (.slice (some ⟨g, 0, none⟩) n cap) n (fl (l.set k x)) := by
  have hl : l.length = n := by have := h.1.1; rw [length_fl] at this; omega
  rw [fl_set l k x (by omega)]
  exact own_put1 (own_put1 h _ _) _ _
theorem own_putMany {e : TypeId} {sz : Nat} {w0 : World} {g n cap : Nat} : ∀ (vs : List Value) (o : Nat) {w : World} {xs : List Value}, Own e sz w0 w (.slice (some ⟨g, 0, none⟩) n cap) n xs →
    ∃ ys, Own e sz w0 (w.setCells g o vs) (.slice (some ⟨g, 0, none⟩) n cap) n ys ∧ ∀ j, j < o → ys[j]? = xs[j]?
  | [], o, w, xs, h => ⟨xs, h, fun _ _ => rfl⟩
  | v :: r, o, w, xs, h => by
    obtain ⟨ys, h1, h2⟩ := own_putMany r (o + 1) (own_put1 h o v)
    exact ⟨ys, h1, fun j hj => by rw [h2 j (by omega), List.getElem?_set, if_neg (by omega)]⟩
theorem own_cut {e : TypeId} {sz : Nat} {w0 w : World} {g n cap : Nat} {xs : List Value} (h : Own e sz w0 w (.slice (some ⟨g, 0, none⟩) n cap) n xs) (k : Nat) (hk : k ≤ n) :
    Own e sz w0 w (.slice (some ⟨g, 0, none⟩) k cap) k (xs.take (k * sz)) := by
  obtain ⟨⟨h1, h2⟩, hK⟩ := h
  have hkz : k * sz ≤ n * sz := Nat.mul_le_mul_right _ hk
  rcases h2 with ⟨h', _⟩ | ⟨g', cap', cur, h', hb, hg, hnc, hcm, hcs, htake⟩
  · simp at h'
  · simp only [Value.slice.injEq, Option.some.injEq, Addr.mk.injEq, and_true, true_and] at h'
    obtain ⟨rfl, rfl⟩ := h'
    refine ⟨⟨by rw [List.length_take, h1]; omega, .inr ⟨g, cap, cur, rfl, hb, hg, by omega, hcm, hcs, ?_⟩⟩, hK⟩
    rw [← htake, List.take_take, Nat.min_eq_left hkz]
end Go.Proofs.YtijknodekomdfaaGreatDoor
/- slices.Compact at rows of faults. -/
namespace Go.Proofs.YtijknodekomdfaaGreatDoor
open Go.RowKit Go.Lib Go.Shelf Go.Sort

theorem arr_fa (l : List F2) (i : Nat) (h : i < l.length) : l.toArray[i]! = fa l i := by rw [getElem!_pos _ i (by simpa using h)]; simp [fa, List.getD, h]
theorem clearF {w : World} {t e ty : TypeId} {P : Program} (ht : P.underlying t = some (.slice e)) (hv : ∀ w, (zeroValue e).run P w = .ok (.agg #[.int .u16 0, .int .u16 0]) w) (b o n c : Nat) (hn : 0 < n)
    (hc : ∀ j, j < 2 * n → (w.cell? ⟨b, o + j, none⟩).isSome = true) (hf : ∀ j, j < 2 * n → w.frozen? ⟨b, o + j, none⟩ = false) :
    (Builtin.clear_ #[t] ty #[.slice (some ⟨b, o, none⟩) n c]).run P w = .ok (.tuple #[]) (w.setCells b o (List.replicate (2 * n) (.int .u16 0))) := by
  have hzc : (Builtin.zeroCells (Value.agg #[.int .u16 0, .int .u16 0]).cells n).toList = List.replicate (2 * n) (.int .u16 0) := by
    have hcs : (Value.agg #[.int .u16 0, .int .u16 0]).cells = #[.int .u16 0, .int .u16 0] := by rfl
    rw [hcs]
    apply List.ext_getElem
    · simp [Builtin.zeroCells]; omega
    · intro i h1 h2
      simp only [Builtin.zeroCells, List.getElem_replicate]
      have : i % 2 = 0 ∨ i % 2 = 1 := by omega
      rcases this with h | h <;> simp [h]
  have hst := run_storeCells_cells (P := P) b o (List.replicate (2 * n) (.int .u16 0)) 0 w (by simpa using hc) (by simpa using hf) (by intro v hv'; rw [List.eq_of_mem_replicate hv']; rfl)
  simp only [Nat.add_zero] at hst
  obtain ⟨m, rfl⟩ : ∃ m, n = m + 1 := ⟨n - 1, by omega⟩
  simp [Builtin.clear_, run_underlying ht, hv, hzc, hst]
set_option maxRecDepth 100000 in
set_option maxHeartbeats 4000000 in
theorem compactF_any (w0 w : World) (v : Value) (n : Nat) (l : List F2) (h : Own 34 2 w0 w v n (fl l)) (hn : n ≤ 1000000) :
    Calls Tryz.prog 213 #[v] w fun e w' => ∃ v', e = .returned v' ∧ Own 34 2 w0 w' v' (ddF l).length (fl (ddF l)) := by
  have hl : l.length = n := by have := h.1.1; rw [length_fl] at this; omega
  by_cases h2 : n < 2
  · rw [ddF_small l (by omega), hl]
    have H := Lib.hid h
    obtain ⟨a, c, rfl, _⟩ := h.rd
    have hlt : ((n : Int) < 2) := by omega
    clear h hl hn
    go_enter Tryz.func213, Tryz.ntmps213
    go_wp2
    go_ret
    exact ⟨_, rfl, H.out⟩
  · obtain ⟨g, cap, rfl, hnc, hcm⟩ := h.some (by omega)
    unfold maxLen at hcm
    have hdd : ddF l = compactUpTo l.toArray n := by unfold ddF; rw [hl]
    have hall : (∀ j, j < n → keeps l.toArray j = true) → ddF l = l := fun ha => by
      rw [hdd, compactUpTo_all _ _ ha, ← hl]
      have := range_map_get l.toArray
      simpa using this
    have HL := Lib.hid hl; have HO := Lib.hid h; have HDD := Lib.hid hdd; have HALL := Lib.hid hall
    clear hl h hdd hall
    go_enter Tryz.func213, Tryz.ntmps213
    go_wp2
    go_loopg [3] n (fun gf s3 wr => ∃ k : Nat, 1 ≤ k ∧ k ≤ n ∧ n - k ≤ gf ∧ s3 = .int .i64 k ∧ Own 34 2 w0 wr (.slice (some ⟨g, 0, none⟩) n cap) n (fl l) ∧ Hid (∀ j, j < k → keeps l.toArray j = true))
    case atStart => exact ⟨1, Nat.le_refl _, by omega, by omega, rfl, HO.out, Lib.hid (keeps_lt_one _)⟩
    case round =>
      obtain ⟨k, hk1, hk, hg, rfl, hO, HA⟩ := hrel
      by_cases hlt : k < n
      · obtain ⟨⟨c0, f0⟩, c1, f1⟩ := own_cellF hO hlt
        obtain ⟨⟨p0, q0⟩, p1, q1⟩ := own_cellF hO (show k - 1 < n by omega)
        have hx := arr_fa l k (by have := HL.out; omega)
        have hy := arr_fa l (k - 1) (by have := HL.out; omega)
        generalize fa l k = x at *
        generalize fa l (k - 1) = y at *
        obtain ⟨x1, x2⟩ := x
        obtain ⟨y1, y2⟩ := y
        have HX := Lib.hid hx; have HY := Lib.hid hy; have HO1 := Lib.hid hO
        clear hx hy hO
        dsimp only at c0 c1 p0 p1
        by_cases hdup : x1 = y1 ∧ x2 = y2
        · have e1 : (x1 == y1) = true := by simpa using hdup.1
          have e2 : (x2 == y2) = true := by simpa using hdup.2
          have HD := Lib.hid hdup
          clear hdup
          have hcap : ¬ cap = k := by omega
          have HSUB : Hid (subs (some ⟨g, 0, none⟩) cap k 2 = some ⟨g, k * 2, none⟩) := by unfold subs; rw [if_neg hcap, Option.map_some, Addr.add_lit, Nat.zero_add]; exact rfl
          have HK0 := Lib.hid hcap
          clear hcap
          go_wp2_with fail
          go_quiet (fail)
          go_wp2
          rw [HSUB.out]
          clear c0 c1 f0 f1 p0 p1 q0 q1
          go_loopg [3, 5] n (fun gf s3 s5 wr => ∃ (kk k2 : Nat) (dk : List F2), s3 = .int .i64 kk ∧ s5 = .int .i64 k2 ∧ 1 ≤ k2 ∧ k + k2 ≤ n ∧ n - (k + k2) ≤ gf ∧ Own 34 2 w0 wr (.slice (some ⟨g, 0, none⟩) n cap) n (fl dk) ∧ Hid (CompInv l.toArray (k + k2) kk dk.toArray))
          case atStart => exact ⟨k, 1, l, rfl, rfl, Nat.le_refl _, by omega, by omega, HO1.out.keep ((Keeps.refl _).drewN _), Lib.hid (CompInv.start HA.out (keeps_neg (by omega) (by rw [HX.out, HY.out, HD.out.1, HD.out.2])))⟩
          case round =>
            obtain ⟨kk, k2, dk, rfl, rfl, h1, hle, hg2, hO2, HI⟩ := hrel
            have hkk := HI.out.lt
            have hdl : dk.length = n := by have := HI.out.size; simp at this; rw [this]; exact HL.out
            by_cases hlt2 : k + k2 < n
            · have hh1 := HI.out.high (k + k2) (by omega)
              have hh2 := HI.out.high (k + k2 - 1) (by omega)
              rw [arr_fa dk _ (by omega), arr_fa l _ (by have := HL.out; omega)] at hh1 hh2
              obtain ⟨⟨c0, f0⟩, c1, f1⟩ := own_cellF hO2 hlt2
              obtain ⟨⟨p0, q0⟩, p1, q1⟩ := own_cellF hO2 (show k + k2 - 1 < n by omega)
              obtain ⟨⟨s0, t0⟩, s1, t1⟩ := own_cellF hO2 (show kk < n by omega)
              have hx := arr_fa l (k + k2) (by have := HL.out; omega)
              have hy := arr_fa l (k + k2 - 1) (by have := HL.out; omega)
              rw [hh1] at c0 c1
              rw [hh2] at p0 p1
              generalize fa l (k + k2) = x at *
              generalize fa l (k + k2 - 1) = y at *
              generalize fa dk kk = z at *
              obtain ⟨x1, x2⟩ := x
              obtain ⟨y1, y2⟩ := y
              rw [Nat.add_mul] at c0 c1 f0 f1
              rw [show (k + k2 - 1) * 2 = k * 2 + (k2 - 1) * 2 by omega] at p0 p1 q0 q1
              have HX := Lib.hid hx; have HY := Lib.hid hy; have HO3 := Lib.hid hO2; have HDL := Lib.hid hdl
              clear hx hy hO2 hh1 hh2 hdl
              dsimp only at c0 c1 p0 p1
              have hlt2' : (k2 : Int) < ((n - k : Nat) : Int) := by omega
              by_cases hdup2 : x1 = y1 ∧ x2 = y2
              · have e1 : (x1 == y1) = true := by simpa using hdup2.1
                have e2 : (x2 == y2) = true := by simpa using hdup2.2
                have e3 : (x1 != y1) = false := by simpa using hdup2.1
                have e4 : (x2 != y2) = false := by simpa using hdup2.2
                have HD := Lib.hid hdup2
                clear hdup2
                go_wp2_with fail
                go_quiet (fail)
                go_wp2
                go_roundg (n - (k + (k2 + 1)))
                case measure => omega
                case rel => exact ⟨kk, k2 + 1, dk, rfl, by go_num, by omega, by omega, Nat.le_refl _, HO3.out.keep ((Keeps.refl _).drewN _), Lib.hid (HI.out.skip (keeps_neg (by omega) (by rw [HX.out, HY.out, HD.out.1, HD.out.2])))⟩
              · have HNE : Hid ((x1, x2) ≠ (y1, y2)) := fun he => hdup2 ⟨congrArg Prod.fst he, congrArg Prod.snd he⟩
                clear hdup2
                have HLT2 := Lib.hid hlt2
                cases e1 : (x1 == y1)
                · have e3 : (x1 != y1) = true := by unfold bne; rw [e1]; rfl
                  go_wp2_with fail
                  go_quiet (fail)
                  go_wp2
                  go_roundg (n - (k + (k2 + 1)))
                  case measure => omega
                  case rel => exact ⟨kk + 1, k2 + 1, dk.set kk (x1, x2), by go_num, by go_num, by omega, by omega, Nat.le_refl _, own_putF (HO3.out.keep ((Keeps.refl _).drewN _)) kk (by omega) (x1, x2), Lib.hid (by have := HI.out.keep (by have := HL.out; simpa using this ▸ HLT2.out) (keeps_pos (by rw [HX.out, HY.out]; exact HNE.out)); rw [HX.out] at this; rw [← Nat.add_assoc]; simpa using this)⟩
                · have e3 : (x1 != y1) = false := by unfold bne; rw [e1]; rfl
                  have e2 : (x2 == y2) = false := by
                    rw [beq_eq_false_iff_ne]
                    rintro rfl
                    rw [beq_iff_eq] at e1
                    exact HNE.out (by rw [e1])
                  have e4 : (x2 != y2) = true := by unfold bne; rw [e2]; rfl
                  go_wp2_with fail
                  go_quiet (fail)
                  go_wp2
                  go_roundg (n - (k + (k2 + 1)))
                  case measure => omega
                  case rel => exact ⟨kk + 1, k2 + 1, dk.set kk (x1, x2), by go_num, by go_num, by omega, by omega, Nat.le_refl _, own_putF (HO3.out.keep ((Keeps.refl _).drewN _)) kk (by omega) (x1, x2), Lib.hid (by have := HI.out.keep (by have := HL.out; simpa using this ▸ HLT2.out) (keeps_pos (by rw [HX.out, HY.out]; exact HNE.out)); rw [HX.out] at this; rw [← Nat.add_assoc]; simpa using this)⟩
            · have hend : k + k2 = n := by omega
              subst hend
              have hlen : (ddF l).length = kk := by rw [HDD.out]; exact HI.out.len
              have hpre : ddF l = dk.take kk := by
                rw [HDD.out]
                apply List.ext_getElem?
                intro j
                by_cases hj : j < kk
                · rw [HI.out.low j hj, List.getElem?_take, if_pos hj, arr_fa dk j (by omega)]
                  simp [fa, List.getD, show j < dk.length by omega]
                · rw [List.getElem?_eq_none (by rw [HI.out.len]; omega), List.getElem?_eq_none (by rw [List.length_take]; omega)]
              have hcl : ∀ ty, (Builtin.clear_ #[22] ty #[.slice (some ⟨g, kk * 2, none⟩) (k + k2 - kk) (cap - kk)]).run Tryz.prog wr = .ok (.tuple #[]) (wr.setCells g (kk * 2) (List.replicate (2 * (k + k2 - kk)) (.int .u16 0))) :=
                fun ty => clearF Tryz.underlying22 Tryz.zeroValue34 g (kk * 2) _ _ (by omega) (fun j hj => by rw [hO2.1.cellAt _ (by omega), List.getElem?_eq_getElem (by rw [length_fl]; omega)]; rfl) (fun j _ => hO2.1.frozenAt _)
              obtain ⟨ys, hys, hyj⟩ := own_putMany (List.replicate (2 * (k + k2 - kk)) (.int .u16 0)) (kk * 2) hO2
              have hcut := own_cut hys kk (by omega)
              have e1 : ys.take (kk * 2) = fl (dk.take kk) := by
                rw [← fl_take]
                apply List.ext_getElem?
                intro j
                rw [List.getElem?_take, List.getElem?_take]
                by_cases hj : j < kk * 2
                · rw [if_pos hj, if_pos hj, hyj j hj]
                · rw [if_neg hj, if_neg hj]
              rw [e1, ← hpre] at hcut
              have HC := Lib.hid hcut; have HLEN := Lib.hid hlen
              have hcap : ¬ cap = kk := by omega
              have HSUB2 : Hid (subs (some ⟨g, 0, none⟩) cap kk 2 = some ⟨g, kk * 2, none⟩) := by unfold subs; rw [if_neg hcap, Option.map_some, Addr.add_lit, Nat.zero_add]; exact rfl
              clear hcut hlen hpre hys hyj e1 hO2 hcap
              have hnl : ¬ ((k2 : Int) < ((k + k2 - k : Nat) : Int)) := by omega
              go_wp2_with fail
              go_ret
              have hc := HC.out
              rw [HLEN.out]
              exact ⟨_, rfl, hc⟩
        · have HNE : Hid ((x1, x2) ≠ (y1, y2)) := fun he => hdup ⟨congrArg Prod.fst he, congrArg Prod.snd he⟩
          clear hdup
          cases e1 : (x1 == y1)
          · go_wp2_with fail
            go_quiet (fail)
            go_wp2
            go_roundg (n - (k + 1))
            case measure => omega
            case rel =>
              refine ⟨k + 1, by omega, by omega, Nat.le_refl _, by go_num, HO1.out.keep ((Keeps.refl _).drewN _), Lib.hid fun j hj => ?_⟩
              by_cases e : j = k
              · subst e; exact keeps_pos (by rw [HX.out, HY.out]; exact HNE.out)
              · exact HA.out j (by omega)
          · have e2 : (x2 == y2) = false := by
              rw [beq_eq_false_iff_ne]
              rintro rfl
              rw [beq_iff_eq] at e1
              exact HNE.out (by rw [e1])
            go_wp2_with fail
            go_quiet (fail)
            go_wp2
            go_roundg (n - (k + 1))
            case measure => omega
            case rel =>
              refine ⟨k + 1, by omega, by omega, Nat.le_refl _, by go_num, HO1.out.keep ((Keeps.refl _).drewN _), Lib.hid fun j hj => ?_⟩
              by_cases e : j = k
              · subst e; exact keeps_pos (by rw [HX.out, HY.out]; exact HNE.out)
              · exact HA.out j (by omega)
      · have hkk : k = n := by omega
        have e1 := HALL.out (by rw [← hkk]; exact HA.out)
        have HE := Lib.hid e1; have HO2 := Lib.hid hO
        clear e1 hO hkk
        go_wp2
        go_ret
        rw [HE.out, HL.out]
        exact ⟨_, rfl, HO2.out⟩
end Go.Proofs.YtijknodekomdfaaGreatDoor
