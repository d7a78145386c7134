/- Texts joined into one (wip/bin/pack.py): QueG, BfsM, RouteG. -/
import Derived.Test.YtnlohknlchgfgaaGreatKSc
import Derived.Test.YtnlohknlchgfgaaGreatKZa
import Derived.Deep.LoopGhost
/- A queue: a row of which the front may have been cut off; what an append makes of it. -/
namespace Go.Proofs.YtnlohknlchgfgaaGreat
open Go.RowKit Go.Lib Go.Shelf
/-- a row, made above a mark, of cells of one each, of which the front may have been cut off -/
def QRow (w : World) (base : Nat) (e : TypeId) (v : Value) (n : Nat) (xs : List Value) : Prop :=
  xs.length = n ∧ ∃ g o cap cur, v = .slice (some ⟨g, o, none⟩) n cap ∧ base ≤ g ∧ w.heap[g]? = some (.cells cur e (0, 0)) ∧ n ≤ cap ∧ o + cap = cur.size ∧ cur.size ≤ maxLen ∧ (cur.toList.drop o).take n = xs
def Que (e : TypeId) (w0 w : World) (v : Value) (n : Nat) (xs : List Value) : Prop := QRow w w0.heap.size e v n xs ∧ Keeps w0 w
theorem Que.of_own {e : TypeId} {w0 w : World} {v : Value} {n : Nat} {xs : List Value} (h : Own e 1 w0 w v n xs) (hn : 0 < n) : Que e w0 w v n xs := by
  obtain ⟨⟨h1, h2⟩, hk⟩ := h
  rw [Nat.mul_one] at h1
  rcases h2 with ⟨_, h0⟩ | ⟨g, cap, cur, hv, hb, hg, hnc, hcm, hcs, ht⟩
  · omega
  · rw [Nat.mul_one] at hcs ht
    exact ⟨⟨h1, g, 0, cap, cur, hv, hb, hg, hnc, by omega, by omega, by rw [List.drop_zero]; exact ht⟩, hk⟩
theorem Que.keep {e : TypeId} {w0 w w' : World} {v : Value} {n : Nat} {xs : List Value} (h : Que e w0 w v n xs) (k : Keeps w w') : Que e w0 w' v n xs := by
  obtain ⟨⟨h1, g, o, cap, cur, hv, hb, hg, r⟩, hk⟩ := h
  exact ⟨⟨h1, g, o, cap, cur, hv, hb, by rw [Below.block k g (Array.getElem?_eq_some_iff.1 hg).1]; exact hg, r⟩, hk.trans k⟩
theorem Que.lt {e : TypeId} {w0 w : World} {v : Value} {n : Nat} {xs : List Value} (h : Que e w0 w v n xs) : ∀ k, v.ownBlock = some k → w0.heap.size ≤ k ∧ k < w.heap.size := fun k hk => by
  obtain ⟨⟨h1, g, o, cap, cur, rfl, hb, hg, r⟩, _⟩ := h
  have e1 : g = k := by injection hk
  subst e1
  exact ⟨hb, (Array.getElem?_eq_some_iff.1 hg).1⟩
theorem Que.rd {e : TypeId} {w0 w : World} {v : Value} {n : Nat} {xs : List Value} (h : Que e w0 w v n xs) : ∃ a c, v = .slice a n c ∧ a.isSome = true ∧ Rd w a n c 1 xs := by
  obtain ⟨⟨h1, g, o, cap, cur, rfl, hb, hg, hnc, hoc, hm, ht⟩, _⟩ := h
  refine ⟨_, _, rfl, rfl, by rw [Nat.mul_one]; exact h1, hnc, by omega, fun _ => rfl, fun j u hu => ?_⟩
  have hj := (List.getElem?_eq_some_iff.1 hu).1
  rw [adr_some, cell_of_row w g (o + j) cur e (0, 0) hg]
  rw [← ht, List.getElem?_take, if_pos (by omega), List.getElem?_drop] at hu
  simpa using hu
theorem Que.pop {e : TypeId} {w0 w : World} {a : Option Addr} {c n : Nat} {x : Value} {xs : List Value} (h : Que e w0 w (.slice a n c) n (x :: xs)) (hn : 1 < n) :
    Que e w0 w (.slice (subs a c 1 1) (n - 1) (c - 1)) (n - 1) xs := by
  obtain ⟨⟨h1, g, o, cap, cur, hv, hb, hg, hnc, hoc, hm, ht⟩, hk⟩ := h
  injection hv with e1 e2 e3
  subst e1; subst e3
  refine ⟨⟨by simp at h1; omega, g, o + 1, c - 1, cur, ?_, hb, hg, by omega, by omega, hm, ?_⟩, hk⟩
  · unfold subs
    rw [if_neg (by omega)]
    simp [Addr.add]
  · have h2 := congrArg (fun l => l.drop 1) ht
    simp only [List.drop_take, List.drop_drop] at h2
    simpa using h2
/-- rows and queues of different types lie in different blocks -/
theorem que_ne {e e' : TypeId} {sz b : Nat} {w w0 : World} {v u : Value} {n m : Nat} {xs ys : List Value} (h : w.ownsRow b e sz v n xs) (k : Que e' w0 w u m ys) (he : e ≠ e') : v.ownBlock = none ∨ v.ownBlock ≠ u.ownBlock := by
  rcases h.2 with ⟨rfl, _⟩ | ⟨g, cap, cur, rfl, _, hg, _⟩
  · exact .inl rfl
  · right
    obtain ⟨⟨_, g', o', cap', cur', rfl, _, hg', _⟩, _⟩ := k
    intro h
    have e1 : g = g' := by injection h
    subst e1
    rw [hg] at hg'
    injection hg' with hg'
    injection hg' with _ h2
    exact he h2
theorem row_que {e e' : TypeId} {sz b : Nat} {w w' w0 : World} {v u : Value} {n m : Nat} {xs ys : List Value} (h : w.ownsRow b e sz v n xs) (k : Que e' w0 w u m ys) (he : e ≠ e') (hg : w.grownBy w' u.ownBlock) : w'.ownsRow b e sz v n xs := h.kept hg (que_ne h k he)
/-- a store into a block of another type -/
theorem que_set {e T : TypeId} {w w0 : World} {v : Value} {n : Nat} {xs : List Value} (h : Que e w0 w v n xs) {B : Nat} {sz b : Nat} {u : Value} {m : Nat} {ys : List Value} (hB : w.ownsRow b T sz u m ys) (hu : u.ownBlock = some B) (hT : T ≠ e) (hb : w0.heap.size ≤ B) (i : Nat) (x : Value) : Que e w0 (w.setCell ⟨B, i, none⟩ x) v n xs := by
  have hne := que_ne hB h hT
  obtain ⟨⟨h1, g, o, cap, cur, rfl, hbb, hg, r⟩, hk⟩ := h
  refine ⟨⟨h1, g, o, cap, cur, rfl, hbb, ?_, r⟩, Below.setCell hk.below hb x⟩
  have hgB : g ≠ B := by
    rintro rfl
    rcases hne with h0 | h0
    · rw [h0] at hu; cases hu
    · exact h0 hu
  rw [Below.heap_setCell _ _ _ _ (by simpa using hgB)]; exact hg
theorem run_append_que {P : Program} {w0 w : World} (t ty e : TypeId) (i : TypeInfo) (z : Value) (bytes : Nat) (ht : P.underlying t = some (.slice e)) (hi : P.info? e = some i) (hz : i.zero = some z)
    (hsize : i.size = 1) (hby : i.bytes = bytes) (hzs : z.cells.size = 1) {v : Value} {n : Nat} {xs : List Value} (h : Que e w0 w v n xs)
    (a : Addr) (m c : Nat) (news : List Value) (hl : news.length = m) (hnews : ∀ j u, news[j]? = some u → w.cell? (a.add j) = some u) (h1 : ∀ u ∈ news, u.oneCell' = true)
    (h63 : n + m ≤ maxLen) (hbytes : (n + m) * bytes ≤ 140737488355328) :
    ∃ v' w', (Builtin.append_ #[t, t] ty #[v, .slice (some a) m c]).run P w = .ok v' w' ∧ Que e w0 w' v' (n + m) (xs ++ news) ∧ w.grownBy w' v.ownBlock := by
  subst hby
  obtain ⟨⟨hx, g, o, cap, cur, rfl, hb, hg, hnc, hoc, hm, htk⟩, hk⟩ := h
  have hlen : (xs ++ news).length = n + m := by rw [List.length_append, hx, hl]
  have hgl : g < w.heap.size := (Array.getElem?_eq_some_iff.1 hg).1
  have hxs : ∀ j u, xs[j]? = some u → w.cell? ((⟨g, o, none⟩ : Addr).add j) = some u := fun j u hu => by
    have hj := (List.getElem?_eq_some_iff.1 hu).1
    rw [Addr.add_lit, cell_of_row w g (o + j) cur e (0, 0) hg]
    rw [← htk, List.getElem?_take, if_pos (by omega), List.getElem?_drop] at hu
    simpa using hu
  by_cases hroom : n + m ≤ cap
  · have hf := run_firstCells_some (P := P) w i.size m a m c news (by rw [hl, hsize, Nat.mul_one]) hnews
    have hst := run_storeCells_at P g (o + n) e news 0 cur w hg (by omega) h1
    simp only [Nat.add_zero] at hst
    rw [hsize] at hf
    have hr : (Builtin.append_ #[t, t] ty #[.slice (some ⟨g, o, none⟩) n cap, .slice (some a) m c]).run P w = .ok (.slice (some ⟨g, o, none⟩) (n + m) cap) (w.setRow g (cur.toList.take (o + n) ++ news ++ cur.toList.drop (o + n + news.length)).toArray) := by
      simp [Builtin.append_, run_underlying ht, sizeOf, typeInfo, hi, hsize, Builtin.lenOf, hroom, hf, Addr.add_lit, hst]
    refine ⟨_, _, hr, ⟨⟨hlen, g, o, cap, _, rfl, hb, setRow_heap w g cur _ e _ hg, hroom, ?_, ?_, ?_⟩, ?_⟩, ⟨rfl, rfl, rfl, by simp, fun k _ hkk => setRow_other w g k _ (fun e => hkk (by simp [Value.ownBlock, e]))⟩⟩
    · simp only [List.size_toArray, List.length_append, List.length_take, List.length_drop, Array.length_toList]; omega
    · simp only [List.size_toArray, List.length_append, List.length_take, List.length_drop, Array.length_toList]; omega
    · have e1 : ((cur.toList.take (o + n) ++ news ++ cur.toList.drop (o + n + news.length)).toArray.toList.drop o).take (n + m) = xs ++ news := by
        rw [List.toList_toArray, List.append_assoc, List.drop_append_of_le_length (by rw [List.length_take, Array.length_toList]; omega), List.drop_take, show o + n - o = n by omega, htk, ← List.append_assoc, ← hlen]
        exact List.take_left
      exact e1
    · exact Below.grown hk.below (row := some g) ⟨rfl, rfl, rfl, by simp, fun k _ hkk => setRow_other w g k _ (fun e => hkk (by simp [e]))⟩ hk.size (fun k hkk => by cases hkk; exact hb)
  · have hr := run_append_grow (P := P) w t ty e i z ht hi hz ⟨g, o, none⟩ n cap xs (by rw [hx, hsize, Nat.mul_one]) hxs a m c news (by rw [hl, hsize, Nat.mul_one]) hnews (by omega) (by unfold maxLen at h63; omega) (growslice_fits (by omega) hbytes)
    have hge := grownCap_ge w (n + m) cap e
    have hcm : grownCap w (n + m) cap e ≤ maxLen := grownCap_le_maxLen w (n + m) cap e h63
    have hgr : w.grownBy (w.drew.alloc (.cells (xs.toArray ++ news.toArray ++ Builtin.zeroCells z.cells (grownCap w (n + m) cap e - (n + m))) e)) (Value.ownBlock (.slice (some ⟨g, o, none⟩) n cap)) := ⟨rfl, rfl, rfl, by simp, fun k hk _ => by first | exact heap_alloc_old w.drew _ k hk | exact heap_alloc_old w.drew _ hk⟩
    refine ⟨_, _, hr, ⟨⟨hlen, w.heap.size, 0, _, _, rfl, hk.size, Go.heap_alloc_new w.drew _, hge, ?_, ?_, ?_⟩, ?_⟩, hgr⟩
    · simp only [Array.size_append, List.size_toArray, size_zeroCells, hzs, hx, hl]; omega
    · simp only [Array.size_append, List.size_toArray, size_zeroCells, hzs, hx, hl]; omega
    · rw [List.drop_zero]
      simp only [Array.toList_append, List.append_assoc]
      rw [← List.append_assoc, ← hlen]
      exact List.take_left
    · exact Below.grown hk.below hgr hk.size (fun k hkk => by cases hkk; exact hb)
theorem wp_appQ {P : Program} {t e : TypeId} {bytes : Nat} (T : STy P t e 1 bytes) {w0 w : World} {ops : Array Oper} {rest : List Oper} {o : Oper} {a : Act} {Q : Exit → Act → World → Prop}
    (hg : o.guard = none) (s x : Operand) (ho : o.op = .call { callee := .builtin .append, args := #[s, x], argTypes := #[t, t] })
    {v : Value} {n : Nat} {xs : List Value} (hO : Que e w0 w v n xs) (hs : a.eval s = v) {ad : Addr} {m c : Nat} {news : List Value} (hx : a.eval x = .slice (some ad) m c) (hr : Rd w (some ad) m c 1 news)
    (h1 : ∀ u ∈ news, u.oneCell' = true) (hn : n + m ≤ 10000000)
    (h : ∀ v' w', Que e w0 w' v' (n + m) (xs ++ news) → w.grownBy w' v.ownBlock → wpList P ops Q rest (a.put o.dst v') w') : wpList P ops Q (o :: rest) a w :=
  wpList_plain hg fun K hK => by
    obtain ⟨i, z, i1, i2, i3, i4, i5⟩ := T.info
    obtain ⟨v', w', hrun, h2, h3⟩ := run_append_que (P := P) t o.type e i z bytes T.u i1 i2 i3 i4 i5 hO ad m c news (by have := hr.len; omega) (fun j u hj => hr.cell j u hj) h1 (by unfold maxLen; omega) (by have := T.small; exact Nat.le_trans (Nat.mul_le_mul hn this) (by decide))
    refine (?_ : o.wp P a w K Q)
    unfold Oper.wp execOp
    simp only [ho, resolve, invoke, builtin, Sem.run_bind, Sem.run_pure, Result.andThen_ok, List.map_toArray, List.map_cons, List.map_nil, hs, hx, hrun]
    exact hK _ _ (h v' w' h2 h3)
end Go.Proofs.YtnlohknlchgfgaaGreat
/- How a search's queue and what it has not seen bound its rounds (plain laws). -/
namespace Go.Proofs.YtnlohknlchgfgaaGreat
def unseen (l : List Bool) : Nat := (l.filter (fun b => !b)).length
theorem unseen_set : ∀ (l : List Bool) (i : Nat), i < l.length → l.getD i false = false → unseen (l.set i true) + 1 = unseen l
  | [], i, h, _ => by simp at h
  | b :: t, 0, _, hb => by
    have : b = false := by simpa using hb
    subst this
    simp [unseen]
  | b :: t, i + 1, h, hb => by
    have ih := unseen_set t i (by simpa using h) (by simpa using hb)
    unfold unseen at *
    rw [List.set_cons_succ, List.filter_cons, List.filter_cons]
    split <;> first | (simp only [List.length_cons]; omega) | omega
section
variable (st : Nat → Nat → Bool)
theorem expIn_count (r : Rt) : ∀ (is : List Nat) (seen : List Bool) (acc : List Rt), (∀ i ∈ is, i < seen.length) →
    (expIn st r is seen acc).2.length + unseen (expIn st r is seen acc).1 = acc.length + unseen seen ∧ (expIn st r is seen acc).1.length = seen.length
  | [], seen, acc, _ => ⟨rfl, rfl⟩
  | i :: is, seen, acc, h => by
    unfold expIn
    by_cases hc : (!seen.getD i false && st r.2 i) = true
    · rw [if_pos hc]
      have hi := h i (by simp)
      have hs : seen.getD i false = false := by simp only [Bool.and_eq_true, Bool.not_eq_true'] at hc; exact hc.1
      obtain ⟨h1, h2⟩ := expIn_count r is (seen.set i true) (acc ++ [(r.1 ++ [r.2], i)]) (fun j hj => by rw [List.length_set]; exact h j (by simp [hj]))
      have h3 := unseen_set seen i hi hs
      rw [List.length_append] at h1
      refine ⟨by simp at h1; omega, by rw [h2, List.length_set]⟩
    · rw [if_neg hc]
      exact expIn_count r is seen acc (fun j hj => h j (by simp [hj]))
theorem expIn_drop (r : Rt) {n i : Nat} (h : i < n) (seen : List Bool) (acc : List Rt) : expIn st r ((List.range n).drop i) seen acc =
    if !seen.getD i false && st r.2 i then expIn st r ((List.range n).drop (i + 1)) (seen.set i true) (acc ++ [(r.1 ++ [r.2], i)]) else expIn st r ((List.range n).drop (i + 1)) seen acc := by
  have e : (List.range n).drop i = i :: (List.range n).drop (i + 1) := by
    rw [List.drop_eq_getElem_cons (by simpa using h)]; simp
  rw [e, expIn]
theorem expIn_end (r : Rt) {n i : Nat} (h : ¬ i < n) (seen : List Bool) (acc : List Rt) : expIn st r ((List.range n).drop i) seen acc = (seen, acc) := by
  rw [List.drop_eq_nil_iff.2 (by simpa using h)]; rfl
end
end Go.Proofs.YtnlohknlchgfgaaGreat
/- joint.Route. -/
namespace Go.Proofs.YtnlohknlchgfgaaGreat
open Go.RowKit Go.Lib Go.Shelf
theorem eqNilZ (w : World) (a : Option Addr) (n c n' c' : Nat) : (binOp .eql 51 (.slice a n c) (.slice none n' c')).run Tryz.prog w = .ok (.bool a.isNone) w := Lib.run_eql_slice_nil w _ _ a n c n' c' Tryz.underlying51
set_option maxHeartbeats 800000 in
theorem cloneZ_any (a : Option Addr) (c : Nat) (l : List Nat) (w : World) (h : Rd w a l.length c 1 (il l)) (hb : l.length ≤ 1000000) :
    Calls Tryz.prog 50 #[.slice a l.length c] w fun e w' => ∃ v, e = .returned v ∧ Own 3 1 w w' v l.length (il l) := by
  have q := eqNilZ
  cases a with
  | none =>
    have hn : l.length = 0 := by
      rcases Nat.eq_zero_or_pos l.length with h0 | h0
      · exact h0
      · exact absurd (h.isSome h0) (by simp)
    have hl : l = [] := List.eq_nil_of_length_eq_zero hn
    subst hl
    clear hn h
    go_enter Tryz.func50, Tryz.ntmps50
    go_wp2_with fail
    go_ret
    exact ⟨_, rfl, Own.nil _ _ (Keeps.refl _)⟩
  | some ad =>
    have hO0 := Own.made (e := 3) (sz := 1) (Keeps.refl w) [] 0 (by decide) rfl
    have HO0 := Lib.hid hO0
    have HR := Lib.hid (h.keep ((Keeps.refl w).alloc (.cells #[] 3)))
    clear hO0 h
    go_enter Tryz.func50, Tryz.ntmps50
    go_wp2_with (at_builtin; refine wp_app tyI rfl _ _ rfl HO0.out rfl rfl HR.out (il_oneCell l) (by omega) ?_)
    intro v' w1 hO1 hgr
    have HO1 := Lib.hid hO1
    clear hO1 hgr
    go_wp2_with fail
    go_ret
    have ho := HO1.out
    exact ⟨v', rfl, ho⟩
/-- a route where it lies -/
structure RA where
  a : Option Addr
  c : Nat
  p : List Nat
  e : Nat
def eR (r : RA) : Value := .slice r.a (r.p.length + 1) r.c
def rl (q : List RA) : List Value := q.map eR
def rts (q : List RA) : List Rt := q.map fun r => (r.p, r.e)
def RoQ (w0 w : World) (q : List RA) : Prop := ∀ r ∈ q, Own 3 1 w0 w (eR r) (r.p.length + 1) (il (r.p ++ [r.e]))
theorem RoQ.keep {w0 w w' : World} {q : List RA} (h : RoQ w0 w q) (k : Keeps w w') : RoQ w0 w' q := fun r hr => (h r hr).keep k
theorem RoQ.que {w0 w w' : World} {q : List RA} {u : Value} {m : Nat} {ys : List Value} (h : RoQ w0 w q) (k : Que 51 w0 w u m ys) (hg : w.grownBy w' u.ownBlock) : RoQ w0 w' q := fun r hr =>
  ⟨row_que (h r hr).1 k (by decide) hg, Below.grown (h r hr).2.below hg k.2.size (fun b hb => (k.lt b hb).1)⟩
theorem RoQ.seen {w0 w : World} {q : List RA} {g n : Nat} {xs : List Value} (h : RoQ w0 w q) (k : Own 4 1 w0 w (.slice (some ⟨g, 0, none⟩) n n) n xs) (i : Nat) (x : Value) : RoQ w0 (w.setCell ⟨g, i, none⟩ x) q := fun r hr => by
  have hb := (k.1.lt g rfl).1
  refine ⟨?_, Below.setCell (h r hr).2.below hb x⟩
  have hne := row_ne (h r hr).1 k.1 (by decide)
  refine ⟨(h r hr).1.1, ?_⟩
  rcases (h r hr).1.2 with h2 | ⟨g', cap, cur, hv, hb', hg', rr⟩
  · exact .inl h2
  · refine .inr ⟨g', cap, cur, hv, hb', ?_, rr⟩
    have : g' ≠ g := by
      rintro rfl
      rcases hne with h0 | h0
      · rw [hv] at h0; cases h0
      · exact h0 (by rw [hv]; rfl)
    rw [Below.heap_setCell _ _ _ _ (by simpa using this)]; exact hg'
theorem RoQ.cons {w0 w : World} {q : List RA} {r : RA} (h : RoQ w0 w q) (hr : Own 3 1 w0 w (eR r) (r.p.length + 1) (il (r.p ++ [r.e]))) : RoQ w0 w (q ++ [r]) := fun x hx => by
  rcases List.mem_append.1 hx with hx | hx
  · exact h x hx
  · rw [List.mem_singleton.1 hx]; exact hr
theorem infoSS : (Tryz.prog.info? 51).map (fun i => (i.zero, i.size, i.bytes)) = some (some (.slice none 0 0), 1, 24) := by kernel_rfl
theorem tySS : STy Tryz.prog 83 51 1 24 := STy.of Tryz.underlying83 infoSS rfl (by decide) (by decide)
theorem bl_set (l : List Bool) (i : Nat) : (bl l).set i (.bool true) = bl (l.set i true) := by unfold bl; rw [List.map_set]
theorem own_seen {w0 w : World} {g n : Nat} {l : List Bool} (h : Own 4 1 w0 w (.slice (some ⟨g, 0, none⟩) n n) n (bl l)) (i : Nat) : Own 4 1 w0 (w.setCell ⟨g, i, none⟩ (.bool true)) (.slice (some ⟨g, 0, none⟩) n n) n (bl (l.set i true)) := by
  rw [← bl_set]; exact own_put1' h i _
theorem seen_len {w0 w : World} {g n : Nat} {l : List Bool} (h : Own 4 1 w0 w (.slice (some ⟨g, 0, none⟩) n n) n (bl l)) : l.length = n := by
  have := h.1.1; simpa [bl] using this
theorem seen_at {w0 w : World} {g n : Nat} {l : List Bool} (h : Own 4 1 w0 w (.slice (some ⟨g, 0, none⟩) n n) n (bl l)) {i : Nat} (hi : i < n) : w.cell? ⟨g, i, none⟩ = some (.bool (l.getD i false)) ∧ w.frozen? ⟨g, i, none⟩ = false := by
  obtain ⟨h1, h2⟩ := h.1
  rcases h2 with ⟨h3, _⟩ | ⟨g', cap, cur, hv, hb, hg, hnc, hcm, hcs, ht⟩
  · cases h3
  · injection hv with e1 e2 e3
    injection e1 with e1
    injection e1 with e1
    subst e1
    constructor
    · have := h.1.cells (g := g) rfl i _ (bl_at l i (by rw [seen_len h]; exact hi))
      rwa [Addr.add_lit, Nat.zero_add] at this
    · simp [World.frozen?, hg]
theorem que_seen {w0 w : World} {v : Value} {m : Nat} {ys : List Value} {g n : Nat} {xs : List Value} (h : Que 51 w0 w v m ys) (k : Own 4 1 w0 w (.slice (some ⟨g, 0, none⟩) n n) n xs) (i : Nat) (x : Value) : Que 51 w0 (w.setCell ⟨g, i, none⟩ x) v m ys :=
  que_set h k.1 rfl (by decide) (k.1.lt g rfl).1 i x
theorem rl_cells (q : List RA) : ∀ u ∈ rl q, u.oneCell' = true := fun u hu => by
  obtain ⟨r, _, rfl⟩ := List.mem_map.1 hu; rfl
theorem il_append (l m : List Nat) : il (l ++ m) = il l ++ il m := by simp [il]
theorem unseen_rep (n : Nat) : unseen (List.replicate n false) = n := by
  unfold unseen
  rw [List.filter_replicate]; simp
theorem bfs_nil {n : Nat} {st : Nat → Nat → Bool} {tg : Nat} (g : Nat) (sn : List Bool) : bfs n st tg g [] sn = none := by cases g <;> rfl
set_option maxRecDepth 20000 in
set_option maxHeartbeats 16000000 in
theorem jroute_any (a : Option Addr) (n c : Nat) (l : List CA) (f t : Int) (w : World) (h : Rd w a n c 6 (gl l)) (hl : RdL w l) (hn : n ≤ 1000) :
    Calls Tryz.prog 21 #[.slice a n c, .int .i64 f, .int .i64 t] w fun e w' => RetRt w (routeS (l.map (·.c)) f t) e w' := by
  have s1 := h.small
  have L1 := Lib.hid (gl_rdlen h)
  by_cases hin : inR n f t
  · obtain ⟨f0, f1, t0, t1⟩ := hin
    obtain ⟨fn, rfl⟩ : ∃ k : Nat, f = (k : Int) := ⟨f.toNat, by omega⟩
    obtain ⟨tn, rfl⟩ : ∃ k : Nat, t = (k : Int) := ⟨t.toNat, by omega⟩
    have hin : inR (l.map (·.c)).length (fn : Int) (tn : Int) := by rw [List.length_map, L1.out]; exact ⟨f0, f1, t0, t1⟩
    have HIN := Lib.hid hin
    have hfn : fn < n := by omega
    have hv := jvalid_any a n c l w h hl
    rw [vldL_eq] at hv
    obtain ⟨q, hq⟩ : ∃ q, q = vldC (l.map (·.c)) := ⟨_, rfl⟩
    rw [← hq] at hv
    have HQ := Lib.hid hq; have HV := Lib.hid hv
    have HR := Lib.hid h; have HL := Lib.hid hl
    have ha := h.isSome (by omega)
    have q1 : ¬ (fn : Int) < 0 := by omega
    have q2 : ¬ (n : Int) ≤ (fn : Int) := by omega
    have q3 : ¬ (tn : Int) < 0 := by omega
    have q4 : ¬ (n : Int) ≤ (tn : Int) := by omega
    clear h hl hin f0 f1 t0 t1 hq hv
    go_enter Tryz.func21, Tryz.ntmps21
    go_wp2_with fail
    refine HV.out.mono ?_
    rintro e w1 ⟨rfl, K1⟩
    rcases (Decidable.em (q = 0)).symm with he | he
    · have hb : (q != 0) = true := by simpa using he
      have HE := Lib.hid he
      clear he
      go_wp2_with fail
      go_ret2
      have e1 := routeS_bad HIN.out (by rw [← HQ.out]; exact HE.out)
      exact ⟨_, by rw [e1, ← HQ.out]; rfl, by rw [e1]; exact Own.nil _ _ K1⟩
    subst he
    have HS : Hid (routeS (l.map (·.c)) fn tn = match extL n (stL (l.map (·.c))) tn fn n 0 with | some r => (r, 0) | none => ([], 14)) := by
      have := routeS_in HIN.out HQ.out.symm
      rw [List.length_map, L1.out, Int.toNat_natCast, Int.toNat_natCast] at this
      exact this
    have hbf := bfs_eq (n := n) (st := stL (l.map (·.c))) (tg := tn) hfn
    rw [← hbf] at HS
    obtain ⟨w2, hmk, hOw2, hsz⟩ := makeB n (by omega) w1
    have HB0 := Lib.hid hOw2
    obtain ⟨sf1, sf2⟩ := seen_at hOw2 (i := fn) hfn
    have hp2 : (1 : Int) ≤ 1 := by decide
    have ob := own_seen (HB0.out.since K1) fn
    have hs3 : (w2.setCell ⟨w1.heap.size, fn, none⟩ (.bool true)).heap.size = w2.heap.size := by simp
    have o1 := Own.made (e := 3) (sz := 1) ob.2 (il [fn]) 1 (by decide) rfl
    have ka := (Keeps.refl (w2.setCell ⟨w1.heap.size, fn, none⟩ (.bool true))).alloc (.cells (il [fn]).toArray 3)
    have hs4 : ((w2.setCell ⟨w1.heap.size, fn, none⟩ (.bool true)).alloc (.cells (il [fn]).toArray 3)).heap.size = w2.heap.size + 1 := by rw [World.size_alloc, hs3]
    rw [hs3] at o1
    have o2 := Own.made (e := 51) (sz := 1) o1.2 (rl [⟨some ⟨w2.heap.size, 0, none⟩, 1, [], fn⟩]) 1 (by decide) rfl
    have kb := (Keeps.refl ((w2.setCell ⟨w1.heap.size, fn, none⟩ (.bool true)).alloc (.cells (il [fn]).toArray 3))).alloc (.cells (rl [⟨some ⟨w2.heap.size, 0, none⟩, 1, [], fn⟩]).toArray 51)
    rw [hs4] at o2
    have OB := Lib.hid (ob.keep (ka.trans kb)); have OR := Lib.hid (o1.keep kb); have OQ := Lib.hid o2
    clear hbf hOw2 HV hsz ob hs3 hs4 o1 o2 ka kb
    go_wp2_with fail
    clear sf1 sf2 HB0
    change Own 4 1 w (((w2.setCell ⟨w1.heap.size, fn, none⟩ (.bool true)).alloc (.cells #[.int .i64 (fn : Int)] 3)).alloc (.cells #[.slice (some ⟨w2.heap.size, 0, none⟩) 1 1] 51)) _ n _ at OB
    change Own 3 1 w (((w2.setCell ⟨w1.heap.size, fn, none⟩ (.bool true)).alloc (.cells #[.int .i64 (fn : Int)] 3)).alloc (.cells #[.slice (some ⟨w2.heap.size, 0, none⟩) 1 1] 51)) _ 1 _ at OR
    change Own 51 1 w (((w2.setCell ⟨w1.heap.size, fn, none⟩ (.bool true)).alloc (.cells #[.int .i64 (fn : Int)] 3)).alloc (.cells #[.slice (some ⟨w2.heap.size, 0, none⟩) 1 1] 51)) _ 1 _ at OQ
    have OB := Lib.hid OB; have OR := Lib.hid OR; have OQ := Lib.hid OQ
    generalize ((w2.setCell ⟨w1.heap.size, fn, none⟩ (.bool true)).alloc (.cells #[.int .i64 (fn : Int)] 3)).alloc (.cells #[.slice (some ⟨w2.heap.size, 0, none⟩) 1 1] 51) = W4 at *
    clear hmk
    generalize w1.heap.size = BS at *
    generalize w2.heap.size = BR at *
    go_loopg [10] (n + 1) (fun g v10 wr => ∃ (aq : Option Addr) (cq : Nat) (q : List RA) (sn : List Bool), v10 = .slice aq q.length cq ∧ Hid (0 < q.length → Que 51 w wr (.slice aq q.length cq) q.length (rl q)) ∧ Hid (RoQ w wr q) ∧
      Hid (Own 4 1 w wr (.slice (some ⟨BS, 0, none⟩) n n) n (bl sn)) ∧ Hid (q.length + unseen sn < g) ∧ Hid (g ≤ n + 1) ∧ Hid (∀ r ∈ q, r.e < n ∧ r.p.length + g ≤ n + 1) ∧
      Hid (bfs n (stL (l.map (·.c))) tn (n + 1) [([], fn)] ((List.replicate n false).set fn true) = bfs n (stL (l.map (·.c))) tn g (rts q) sn))
    case atStart =>
      refine ⟨some ⟨BR + 1, 0, none⟩, 1, [⟨some ⟨BR, 0, none⟩, 1, [], fn⟩], (List.replicate n false).set fn true, rfl, Lib.hid (fun _ => Que.of_own OQ.out (by simp)), Lib.hid (fun r hr => ?_), OB, Lib.hid ?_, Lib.hid (Nat.le_refl _), Lib.hid (fun r hr => ?_), Lib.hid rfl⟩
      · rw [List.mem_singleton.1 hr]; exact OR.out
      · have h1 := unseen_set (List.replicate n false) fn (by simpa using hfn) (by simp [hfn])
        have h2 := unseen_rep n
        simp only [List.length_cons, List.length_nil]
        omega
      · rw [List.mem_singleton.1 hr]; exact ⟨hfn, by simp⟩
    case round =>
      obtain ⟨aq, cq, q, sn, rfl, HQU, HRO, HOB, HM, HG, HP, HBF⟩ := hrel
      cases q with
      | nil =>
        go_wp2_with fail
        go_ret2
        have e1 : routeS (l.map (·.c)) fn tn = ([], 14) := by rw [HS.out, HBF.out, show rts [] = [] from rfl, bfs_nil]
        exact ⟨_, by rw [e1]; rfl, by rw [e1]; exact Own.nil _ _ HOB.out.2⟩
      | cons r q =>
        have hqu := HQU.out (by simp)
        have HQU := Lib.hid hqu; clear hqu
        have hro := HRO.out r (by simp)
        have hpr := HP.out r (by simp)
        obtain ⟨aq', cq', e0, has, hrd⟩ := HQU.out.rd
        injection e0 with e1 e2 e3
        subst e1; subst e3
        have hc0 := hrd.cell 0 (eR r) rfl
        obtain ⟨ra, rc, e4, hrr⟩ := hro.rd
        unfold eR at e4 hc0
        injection e4 with e5 e6 e7
        have hra := hrr.isSome (by omega)
        have hce := hrr.cell r.p.length (.int .i64 (r.e : Int)) (by simp [il])
        rw [← e5] at hra hce
        have hw : IntKind.i64.wrap (r.p.length : Int) = (r.p.length : Int) := IntWalk.i64_in _ (by have := HG.out; omega)
        have hg1 : ∃ g', gk = g' + 1 := ⟨gk - 1, by have := HM.out; omega⟩
        obtain ⟨g', hg'⟩ := hg1
        have HGK := Lib.hid hg'
        have HRR := Lib.hid hro; have HPR := Lib.hid hpr
        clear hrd hro hpr e5 e6 e7 hrr hg'
        by_cases he : r.e = tn
        · have hb : ((r.e : Int) == (tn : Int)) = true := by simp [he]
          have HE := Lib.hid he; clear he
          go_wp2_with fail
          go_ret2
          have e1 : routeS (l.map (·.c)) fn tn = (r.p ++ [r.e], 0) := by
            rw [HS.out, HBF.out, HGK.out, show rts (r :: q) = (r.p, r.e) :: rts q from rfl, bfs, if_pos HE.out]
          refine ⟨_, by rw [e1]; rfl, ?_⟩
          rw [e1, List.length_append]
          exact HRR.out
        · have hb : ((r.e : Int) == (tn : Int)) = false := by simp; omega
          have HE := Lib.hid he; clear he
          go_wp2_with fail
          clear hc0 hce hw
          go_loopw [10, 66] (fun v10 v66 wx => ∃ (i : Nat) (a2 : Option Addr) (c2 : Nat) (q2 : List RA) (sn2 : List Bool), i ≤ n ∧ v66 = .int .i64 i ∧ v10 = .slice a2 (q.length + 1 + q2.length) c2 ∧ Hid (Que 51 w wx (.slice a2 (q.length + 1 + q2.length) c2) (q.length + 1 + q2.length) (rl (r :: (q ++ q2)))) ∧ Hid (RoQ w wx (r :: (q ++ q2))) ∧
            Hid (Own 4 1 w wx (.slice (some ⟨BS, 0, none⟩) n n) n (bl sn2)) ∧ Hid (expIn (stL (l.map (·.c))) (r.p, r.e) (List.range n) sn [] = expIn (stL (l.map (·.c))) (r.p, r.e) ((List.range n).drop i) sn2 (rts q2)) ∧ Hid (∀ x ∈ q2, x.e < n ∧ x.p.length = r.p.length + 1) ∧ Hid (q2.length ≤ i)) (fun _ v _ => n - (RowKit.intOf v).toNat)
          case atStart => exact ⟨0, aq, cq, [], sn, Nat.zero_le _, rfl, rfl, Lib.hid (by rw [List.append_nil]; exact HQU.out), Lib.hid (by rw [List.append_nil]; exact HRO.out), HOB, Lib.hid rfl, Lib.hid (fun x hx => by simp at hx), Lib.hid (Nat.le_refl _)⟩
          case round =>
            obtain ⟨i, a2, c2, q2, sn2, hi, rfl, rfl, HQ2, HR2, HB2, HX, HP2, HL2⟩ := hrel
            by_cases hlt : i < n
            · have hsl := seen_len HB2.out
              obtain ⟨b, hbb⟩ : ∃ b, b = sn2.getD i false := ⟨_, rfl⟩
              have hre := HPR.out.1
              have hp : ∀ W', Keeps wr W' → (W'.cell? ⟨BS, i, none⟩ = some (.bool b)) ∧ (W'.cell? (adr a (r.e * 6)) = some (.string (gA l r.e).c.nm) ∧ W'.cell? ⟨(adr a (r.e * 6)).block, (adr a (r.e * 6)).off + 1, none⟩ = some (.int .i64 (gA l r.e).c.kd) ∧ W'.cell? ⟨(adr a (r.e * 6)).block, (adr a (r.e * 6)).off + 2, none⟩ = some (.int .u16 (sv (gA l r.e).c.M)) ∧ W'.cell? ⟨(adr a (r.e * 6)).block, (adr a (r.e * 6)).off + 3, none⟩ = some (.slice (gA l r.e).ar (gA l r.e).c.R.length (gA l r.e).cr) ∧ W'.cell? ⟨(adr a (r.e * 6)).block, (adr a (r.e * 6)).off + 4, none⟩ = some (.slice (gA l r.e).aw (gA l r.e).c.Q.length (gA l r.e).cw) ∧ W'.cell? ⟨(adr a (r.e * 6)).block, (adr a (r.e * 6)).off + 5, none⟩ = some (.slice (gA l r.e).af (gA l r.e).c.F.length (gA l r.e).cf)) ∧ (W'.cell? (adr a (i * 6)) = some (.string (gA l i).c.nm) ∧ W'.cell? ⟨(adr a (i * 6)).block, (adr a (i * 6)).off + 1, none⟩ = some (.int .i64 (gA l i).c.kd) ∧ W'.cell? ⟨(adr a (i * 6)).block, (adr a (i * 6)).off + 2, none⟩ = some (.int .u16 (sv (gA l i).c.M)) ∧ W'.cell? ⟨(adr a (i * 6)).block, (adr a (i * 6)).off + 3, none⟩ = some (.slice (gA l i).ar (gA l i).c.R.length (gA l i).cr) ∧ W'.cell? ⟨(adr a (i * 6)).block, (adr a (i * 6)).off + 4, none⟩ = some (.slice (gA l i).aw (gA l i).c.Q.length (gA l i).cw) ∧ W'.cell? ⟨(adr a (i * 6)).block, (adr a (i * 6)).off + 5, none⟩ = some (.slice (gA l i).af (gA l i).c.F.length (gA l i).cf)) := fun W' J => ⟨by rw [hbb]; exact (seen_at (HB2.out.keep J) hlt).1, gl_at (HR.out.keep (HB2.out.2.trans J)) hre, gl_at (HR.out.keep (HB2.out.2.trans J)) hlt⟩
              have hm1 := gA_mem (l := l) (i := r.e) (by have := L1.out; omega)
              have hm2 := gA_mem (l := l) (i := i) (by have := L1.out; omega)
              have hcl := fun W (J : Keeps wr W) => jstep_any (gA l r.e) (gA l i) W ((HL.out _ hm1).keep (HB2.out.2.trans J)) ((HL.out _ hm2).keep (HB2.out.2.trans J))
              have hst : stL (l.map (·.c)) r.e i = stC (gA l r.e).c (gA l i).c := by unfold stL; rw [cat_map, cat_map]
              obtain ⟨z, hz⟩ : ∃ z, z = stC (gA l r.e).c (gA l i).c := ⟨_, rfl⟩
              rw [← hz] at hcl hst
              have hxd := expIn_drop (stL (l.map (·.c))) (r.p, r.e) hlt sn2 (rts q2)
              dsimp only at hxd
              rw [← hbb, hst] at hxd
              unfold vg at hcl
              have HC := Lib.hid hcl; have HPP := Lib.hid hp; have HXD := Lib.hid hxd; have HBB := Lib.hid hbb; have HSL := Lib.hid hsl
              clear hp hcl hm1 hm2 hst hz hxd hbb hsl
              generalize gA l r.e = xk at *
              generalize gA l i = yk at *
              go_wp2_with fail
              cases b with
              | true =>
                have J : Keeps wr wr.drew := (Keeps.refl wr).drew
                refine wp_region_held_drew (S := (fun w' => (w'.cell? ⟨BS, i, none⟩ = some (.bool true)) ∧ (w'.cell? (adr a (r.e * 6)) = some (.string xk.c.nm) ∧ w'.cell? ⟨(adr a (r.e * 6)).block, (adr a (r.e * 6)).off + 1, none⟩ = some (.int .i64 xk.c.kd) ∧ w'.cell? ⟨(adr a (r.e * 6)).block, (adr a (r.e * 6)).off + 2, none⟩ = some (.int .u16 (sv xk.c.M)) ∧ w'.cell? ⟨(adr a (r.e * 6)).block, (adr a (r.e * 6)).off + 3, none⟩ = some (.slice xk.ar xk.c.R.length xk.cr) ∧ w'.cell? ⟨(adr a (r.e * 6)).block, (adr a (r.e * 6)).off + 4, none⟩ = some (.slice xk.aw xk.c.Q.length xk.cw) ∧ w'.cell? ⟨(adr a (r.e * 6)).block, (adr a (r.e * 6)).off + 5, none⟩ = some (.slice xk.af xk.c.F.length xk.cf)) ∧ (w'.cell? (adr a (i * 6)) = some (.string yk.c.nm) ∧ w'.cell? ⟨(adr a (i * 6)).block, (adr a (i * 6)).off + 1, none⟩ = some (.int .i64 yk.c.kd) ∧ w'.cell? ⟨(adr a (i * 6)).block, (adr a (i * 6)).off + 2, none⟩ = some (.int .u16 (sv yk.c.M)) ∧ w'.cell? ⟨(adr a (i * 6)).block, (adr a (i * 6)).off + 3, none⟩ = some (.slice yk.ar yk.c.R.length yk.cr) ∧ w'.cell? ⟨(adr a (i * 6)).block, (adr a (i * 6)).off + 4, none⟩ = some (.slice yk.aw yk.c.Q.length yk.cw) ∧ w'.cell? ⟨(adr a (i * 6)).block, (adr a (i * 6)).off + 5, none⟩ = some (.slice yk.af yk.c.F.length yk.cf)))) (by kernel_rfl) ?_ (fun hHeld => ?_)
                · exact HPP.out _ J
                generalize wr.drew = V0 at *
                refine wpAnyH_take (i := 0) (oi := ⟨_, _, _, _, _, _⟩) (v := ?_) rfl (by kernel_rfl) (by kernel_rfl) (by kernel_rfl) (fun _ _ _ h => h) (Or.inl ⟨by rfl, ?_⟩) (by assumption) ?_
                rotate_left 1
                · intro w hSw; (try dsimp only at hSw); go_simp <;> with_reducible rfl
                (try simp only [Act.put]); (try simp only [List.setIfInBounds_toArray]); (try simp only [List.set_cons_succ]); (try simp only [List.set_cons_zero])
                refine wpAnyH_take (i := 1) (oi := ⟨_, _, _, _, _, _⟩) (v := ?_) rfl (by kernel_rfl) (by kernel_rfl) (by kernel_rfl) (fun _ _ _ h => h) (Or.inl ⟨by rfl, ?_⟩) (by assumption) ?_
                rotate_left 1
                · intro w hSw; (try dsimp only at hSw); go_simp <;> with_reducible rfl
                (try simp only [Act.put]); (try simp only [List.setIfInBounds_toArray]); (try simp only [List.set_cons_succ]); (try simp only [List.set_cons_zero])
                refine wpAnyH_take (i := 2) (oi := ⟨_, _, _, _, _, _⟩) (v := ?_) rfl (by kernel_rfl) (by kernel_rfl) (by kernel_rfl) (fun _ _ _ h => h) (Or.inl ⟨by rfl, ?_⟩) (by assumption) ?_
                rotate_left 1
                · intro w hSw; (try dsimp only at hSw); go_simp <;> with_reducible rfl
                (try simp only [Act.put]); (try simp only [List.setIfInBounds_toArray]); (try simp only [List.set_cons_succ]); (try simp only [List.set_cons_zero])
                refine wpAnyH_take (i := 3) (oi := ⟨_, _, _, _, _, _⟩) (v := ?_) rfl (by kernel_rfl) (by kernel_rfl) (by kernel_rfl) (fun _ _ _ h => h) (Or.inl ⟨by rfl, ?_⟩) (by assumption) ?_
                rotate_left 1
                · intro w hSw; (try dsimp only at hSw); go_simp <;> with_reducible rfl
                (try simp only [Act.put]); (try simp only [List.setIfInBounds_toArray]); (try simp only [List.set_cons_succ]); (try simp only [List.set_cons_zero])
                refine wpAnyH_take (i := 4) (oi := ⟨_, _, _, _, _, _⟩) (v := ?_) rfl (by kernel_rfl) (by kernel_rfl) (by kernel_rfl) (fun _ _ _ h => h) (Or.inl ⟨by rfl, ?_⟩) (by assumption) ?_
                rotate_left 1
                · intro w hSw; (try dsimp only at hSw); go_simp <;> with_reducible rfl
                (try simp only [Act.put]); (try simp only [List.setIfInBounds_toArray]); (try simp only [List.set_cons_succ]); (try simp only [List.set_cons_zero])
                refine wpAnyH_take (i := 5) (oi := ⟨_, _, _, _, _, _⟩) (v := ?_) rfl (by kernel_rfl) (by kernel_rfl) (by kernel_rfl) (fun _ _ _ h => h) (Or.inl ⟨by rfl, ?_⟩) (by assumption) ?_
                rotate_left 1
                · intro w hSw; (try dsimp only at hSw); go_simp <;> with_reducible rfl
                (try simp only [Act.put]); (try simp only [List.setIfInBounds_toArray]); (try simp only [List.set_cons_succ]); (try simp only [List.set_cons_zero])
                refine wpAnyH_take (i := 6) (oi := ⟨_, _, _, _, _, _⟩) (v := undef) rfl (by kernel_rfl) (by kernel_rfl) (by kernel_rfl) (fun _ _ _ h => h) (Or.inr ⟨by rfl, rfl⟩) (by assumption) ?_
                (try simp only [Act.put]); (try simp only [List.setIfInBounds_toArray]); (try simp only [List.set_cons_succ]); (try simp only [List.set_cons_zero])
                refine wpAnyH_take (i := 7) (oi := ⟨_, _, _, _, _, _⟩) (v := undef) rfl (by kernel_rfl) (by kernel_rfl) (by kernel_rfl) (fun _ _ _ h => h) (Or.inr ⟨by rfl, rfl⟩) (by assumption) ?_
                (try simp only [Act.put]); (try simp only [List.setIfInBounds_toArray]); (try simp only [List.set_cons_succ]); (try simp only [List.set_cons_zero])
                refine wpAnyH_take (i := 8) (oi := ⟨_, _, _, _, _, _⟩) (v := undef) rfl (by kernel_rfl) (by kernel_rfl) (by kernel_rfl) (fun _ _ _ h => h) (Or.inr ⟨by rfl, rfl⟩) (by assumption) ?_
                (try simp only [Act.put]); (try simp only [List.setIfInBounds_toArray]); (try simp only [List.set_cons_succ]); (try simp only [List.set_cons_zero])
                refine wpAnyH_take (i := 9) (oi := ⟨_, _, _, _, _, _⟩) (v := undef) rfl (by kernel_rfl) (by kernel_rfl) (by kernel_rfl) (fun _ _ _ h => h) (Or.inr ⟨by rfl, rfl⟩) (by assumption) ?_
                (try simp only [Act.put]); (try simp only [List.setIfInBounds_toArray]); (try simp only [List.set_cons_succ]); (try simp only [List.set_cons_zero])
                refine wpAnyH_take (i := 10) (oi := ⟨_, _, _, _, _, _⟩) (v := undef) rfl (by kernel_rfl) (by kernel_rfl) (by kernel_rfl) (fun _ _ _ h => h) (Or.inr ⟨by rfl, rfl⟩) (by assumption) ?_
                (try simp only [Act.put]); (try simp only [List.setIfInBounds_toArray]); (try simp only [List.set_cons_succ]); (try simp only [List.set_cons_zero])
                refine wpAnyH_take (i := 11) (oi := ⟨_, _, _, _, _, _⟩) (v := undef) rfl (by kernel_rfl) (by kernel_rfl) (by kernel_rfl) (fun _ _ _ h => h) (Or.inr ⟨by rfl, rfl⟩) (by assumption) ?_
                (try simp only [Act.put]); (try simp only [List.setIfInBounds_toArray]); (try simp only [List.set_cons_succ]); (try simp only [List.set_cons_zero])
                refine wpAnyH_take (i := 12) (oi := ⟨_, _, _, _, _, _⟩) (v := undef) rfl (by kernel_rfl) (by kernel_rfl) (by kernel_rfl) (fun _ _ _ h => h) (Or.inr ⟨by rfl, rfl⟩) (by assumption) ?_
                (try simp only [Act.put]); (try simp only [List.setIfInBounds_toArray]); (try simp only [List.set_cons_succ]); (try simp only [List.set_cons_zero])
                refine wpAnyH_take (i := 13) (oi := ⟨_, _, _, _, _, _⟩) (v := undef) rfl (by kernel_rfl) (by kernel_rfl) (by kernel_rfl) (fun _ _ _ h => h) (Or.inr ⟨by rfl, rfl⟩) (by assumption) ?_
                (try simp only [Act.put]); (try simp only [List.setIfInBounds_toArray]); (try simp only [List.set_cons_succ]); (try simp only [List.set_cons_zero])
                refine wpAnyH_take (i := 14) (oi := ⟨_, _, _, _, _, _⟩) (v := undef) rfl (by kernel_rfl) (by kernel_rfl) (by kernel_rfl) (fun _ _ _ h => h) (Or.inr ⟨by rfl, rfl⟩) (by assumption) ?_
                (try simp only [Act.put]); (try simp only [List.setIfInBounds_toArray]); (try simp only [List.set_cons_succ]); (try simp only [List.set_cons_zero])
                refine wpAnyH_take (i := 15) (oi := ⟨_, _, _, _, _, _⟩) (v := ?_) rfl (by kernel_rfl) (by kernel_rfl) (by kernel_rfl) (fun _ _ _ h => h) (Or.inl ⟨by rfl, ?_⟩) (by assumption) ?_
                rotate_left 1
                · intro w hSw; (try dsimp only at hSw); go_simp <;> with_reducible rfl
                (try simp only [Act.put]); (try simp only [List.setIfInBounds_toArray]); (try simp only [List.set_cons_succ]); (try simp only [List.set_cons_zero])
                refine wpAnyH_done (by kernel_rfl) ?_ _
                go_wp2_with fail
                go_roundw
                case rel => exact ⟨i + 1, a2, c2, q2, sn2, by omega, by go_num, rfl, Lib.hid (HQ2.out.keep J), Lib.hid (HR2.out.keep J), Lib.hid (HB2.out.keep J), Lib.hid (by rw [HX.out, HXD.out]; rfl), HP2, Lib.hid (by have := HL2.out; omega)⟩
                case measure => simp [RowKit.intOf]; omega
              | false =>
                cases z with
                | false =>
                  have J : Keeps wr wr.drew := (Keeps.refl wr).drew
                  refine wp_region_held_drew (S := (fun w' => (w'.cell? ⟨BS, i, none⟩ = some (.bool false)) ∧ (w'.cell? (adr a (r.e * 6)) = some (.string xk.c.nm) ∧ w'.cell? ⟨(adr a (r.e * 6)).block, (adr a (r.e * 6)).off + 1, none⟩ = some (.int .i64 xk.c.kd) ∧ w'.cell? ⟨(adr a (r.e * 6)).block, (adr a (r.e * 6)).off + 2, none⟩ = some (.int .u16 (sv xk.c.M)) ∧ w'.cell? ⟨(adr a (r.e * 6)).block, (adr a (r.e * 6)).off + 3, none⟩ = some (.slice xk.ar xk.c.R.length xk.cr) ∧ w'.cell? ⟨(adr a (r.e * 6)).block, (adr a (r.e * 6)).off + 4, none⟩ = some (.slice xk.aw xk.c.Q.length xk.cw) ∧ w'.cell? ⟨(adr a (r.e * 6)).block, (adr a (r.e * 6)).off + 5, none⟩ = some (.slice xk.af xk.c.F.length xk.cf)) ∧ (w'.cell? (adr a (i * 6)) = some (.string yk.c.nm) ∧ w'.cell? ⟨(adr a (i * 6)).block, (adr a (i * 6)).off + 1, none⟩ = some (.int .i64 yk.c.kd) ∧ w'.cell? ⟨(adr a (i * 6)).block, (adr a (i * 6)).off + 2, none⟩ = some (.int .u16 (sv yk.c.M)) ∧ w'.cell? ⟨(adr a (i * 6)).block, (adr a (i * 6)).off + 3, none⟩ = some (.slice yk.ar yk.c.R.length yk.cr) ∧ w'.cell? ⟨(adr a (i * 6)).block, (adr a (i * 6)).off + 4, none⟩ = some (.slice yk.aw yk.c.Q.length yk.cw) ∧ w'.cell? ⟨(adr a (i * 6)).block, (adr a (i * 6)).off + 5, none⟩ = some (.slice yk.af yk.c.F.length yk.cf)))) (by kernel_rfl) ?_ (fun hHeld => ?_)
                  · exact HPP.out _ J
                  generalize wr.drew = V0 at *
                  refine wpAnyH_take (i := 0) (oi := ⟨_, _, _, _, _, _⟩) (v := ?_) rfl (by kernel_rfl) (by kernel_rfl) (by kernel_rfl) (fun _ _ _ h => h) (Or.inl ⟨by rfl, ?_⟩) (by assumption) ?_
                  rotate_left 1
                  · intro w hSw; (try dsimp only at hSw); go_simp <;> with_reducible rfl
                  (try simp only [Act.put]); (try simp only [List.setIfInBounds_toArray]); (try simp only [List.set_cons_succ]); (try simp only [List.set_cons_zero])
                  refine wpAnyH_take (i := 1) (oi := ⟨_, _, _, _, _, _⟩) (v := ?_) rfl (by kernel_rfl) (by kernel_rfl) (by kernel_rfl) (fun _ _ _ h => h) (Or.inl ⟨by rfl, ?_⟩) (by assumption) ?_
                  rotate_left 1
                  · intro w hSw; (try dsimp only at hSw); go_simp <;> with_reducible rfl
                  (try simp only [Act.put]); (try simp only [List.setIfInBounds_toArray]); (try simp only [List.set_cons_succ]); (try simp only [List.set_cons_zero])
                  refine wpAnyH_take (i := 2) (oi := ⟨_, _, _, _, _, _⟩) (v := ?_) rfl (by kernel_rfl) (by kernel_rfl) (by kernel_rfl) (fun _ _ _ h => h) (Or.inl ⟨by rfl, ?_⟩) (by assumption) ?_
                  rotate_left 1
                  · intro w hSw; (try dsimp only at hSw); go_simp <;> with_reducible rfl
                  (try simp only [Act.put]); (try simp only [List.setIfInBounds_toArray]); (try simp only [List.set_cons_succ]); (try simp only [List.set_cons_zero])
                  refine wpAnyH_take (i := 3) (oi := ⟨_, _, _, _, _, _⟩) (v := ?_) rfl (by kernel_rfl) (by kernel_rfl) (by kernel_rfl) (fun _ _ _ h => h) (Or.inl ⟨by rfl, ?_⟩) (by assumption) ?_
                  rotate_left 1
                  · intro w hSw; (try dsimp only at hSw); go_simp <;> with_reducible rfl
                  (try simp only [Act.put]); (try simp only [List.setIfInBounds_toArray]); (try simp only [List.set_cons_succ]); (try simp only [List.set_cons_zero])
                  refine wpAnyH_take (i := 4) (oi := ⟨_, _, _, _, _, _⟩) (v := ?_) rfl (by kernel_rfl) (by kernel_rfl) (by kernel_rfl) (fun _ _ _ h => h) (Or.inl ⟨by rfl, ?_⟩) (by assumption) ?_
                  rotate_left 1
                  · intro w hSw; (try dsimp only at hSw); go_simp <;> with_reducible rfl
                  (try simp only [Act.put]); (try simp only [List.setIfInBounds_toArray]); (try simp only [List.set_cons_succ]); (try simp only [List.set_cons_zero])
                  refine wpAnyH_take (i := 5) (oi := ⟨_, _, _, _, _, _⟩) (v := ?_) rfl (by kernel_rfl) (by kernel_rfl) (by kernel_rfl) (fun _ _ _ h => h) (Or.inl ⟨by rfl, ?_⟩) (by assumption) ?_
                  rotate_left 1
                  · intro w hSw; (try dsimp only at hSw); go_simp <;> with_reducible rfl
                  (try simp only [Act.put]); (try simp only [List.setIfInBounds_toArray]); (try simp only [List.set_cons_succ]); (try simp only [List.set_cons_zero])
                  refine wpAnyH_take (i := 6) (oi := ⟨_, _, _, _, _, _⟩) (v := ?_) rfl (by kernel_rfl) (by kernel_rfl) (by kernel_rfl) (fun _ _ _ h => h) (Or.inl ⟨by rfl, ?_⟩) (by assumption) ?_
                  rotate_left 1
                  · intro w hSw; (try dsimp only at hSw); go_simp <;> with_reducible rfl
                  (try simp only [Act.put]); (try simp only [List.setIfInBounds_toArray]); (try simp only [List.set_cons_succ]); (try simp only [List.set_cons_zero])
                  refine wpAnyH_take (i := 7) (oi := ⟨_, _, _, _, _, _⟩) (v := ?_) rfl (by kernel_rfl) (by kernel_rfl) (by kernel_rfl) (fun _ _ _ h => h) (Or.inl ⟨by rfl, ?_⟩) (by assumption) ?_
                  rotate_left 1
                  · intro w hSw; (try dsimp only at hSw); go_simp <;> with_reducible rfl
                  (try simp only [Act.put]); (try simp only [List.setIfInBounds_toArray]); (try simp only [List.set_cons_succ]); (try simp only [List.set_cons_zero])
                  refine wpAnyH_take (i := 8) (oi := ⟨_, _, _, _, _, _⟩) (v := ?_) rfl (by kernel_rfl) (by kernel_rfl) (by kernel_rfl) (fun _ _ _ h => h) (Or.inl ⟨by rfl, ?_⟩) (by assumption) ?_
                  rotate_left 1
                  · intro w hSw; (try dsimp only at hSw); go_simp <;> with_reducible rfl
                  (try simp only [Act.put]); (try simp only [List.setIfInBounds_toArray]); (try simp only [List.set_cons_succ]); (try simp only [List.set_cons_zero])
                  refine wpAnyH_take (i := 9) (oi := ⟨_, _, _, _, _, _⟩) (v := ?_) rfl (by kernel_rfl) (by kernel_rfl) (by kernel_rfl) (fun _ _ _ h => h) (Or.inl ⟨by rfl, ?_⟩) (by assumption) ?_
                  rotate_left 1
                  · intro w hSw; (try dsimp only at hSw); go_simp <;> with_reducible rfl
                  (try simp only [Act.put]); (try simp only [List.setIfInBounds_toArray]); (try simp only [List.set_cons_succ]); (try simp only [List.set_cons_zero])
                  refine wpAnyH_take (i := 10) (oi := ⟨_, _, _, _, _, _⟩) (v := ?_) rfl (by kernel_rfl) (by kernel_rfl) (by kernel_rfl) (fun _ _ _ h => h) (Or.inl ⟨by rfl, ?_⟩) (by assumption) ?_
                  rotate_left 1
                  · intro w hSw; (try dsimp only at hSw); go_simp <;> with_reducible rfl
                  (try simp only [Act.put]); (try simp only [List.setIfInBounds_toArray]); (try simp only [List.set_cons_succ]); (try simp only [List.set_cons_zero])
                  refine wpAnyH_take (i := 11) (oi := ⟨_, _, _, _, _, _⟩) (v := ?_) rfl (by kernel_rfl) (by kernel_rfl) (by kernel_rfl) (fun _ _ _ h => h) (Or.inl ⟨by rfl, ?_⟩) (by assumption) ?_
                  rotate_left 1
                  · intro w hSw; (try dsimp only at hSw); go_simp <;> with_reducible rfl
                  (try simp only [Act.put]); (try simp only [List.setIfInBounds_toArray]); (try simp only [List.set_cons_succ]); (try simp only [List.set_cons_zero])
                  refine wpAnyH_take (i := 12) (oi := ⟨_, _, _, _, _, _⟩) (v := ?_) rfl (by kernel_rfl) (by kernel_rfl) (by kernel_rfl) (fun _ _ _ h => h) (Or.inl ⟨by rfl, ?_⟩) (by assumption) ?_
                  rotate_left 1
                  · intro w hSw; (try dsimp only at hSw); go_simp <;> with_reducible rfl
                  (try simp only [Act.put]); (try simp only [List.setIfInBounds_toArray]); (try simp only [List.set_cons_succ]); (try simp only [List.set_cons_zero])
                  refine wpAnyH_take (i := 13) (oi := ⟨_, _, _, _, _, _⟩) (v := ?_) rfl (by kernel_rfl) (by kernel_rfl) (by kernel_rfl) (fun _ _ _ h => h) (Or.inl ⟨by rfl, ?_⟩) (by assumption) ?_
                  rotate_left 1
                  · intro w hSw; (try dsimp only at hSw); go_simp <;> with_reducible rfl
                  (try simp only [Act.put]); (try simp only [List.setIfInBounds_toArray]); (try simp only [List.set_cons_succ]); (try simp only [List.set_cons_zero])
                  refine wpAnyH_ready (rs := [14]) (by kernel_rfl) (by simp) ?_
                  refine AllReadyH.cons (o := ⟨_, _, _, _, _, _⟩) rfl (fun K hK => ?_) AllReadyH.nil
                  go_simp
                  refine (HC.out _ J).mono ?_
                  rintro e V1 ⟨rfl, K9⟩
                  replace J := J.trans K9
                  clear K9
                  refine hK.out _ _ ?_ (fun hHeld => ?_)
                  · exact HPP.out _ J
                  clear hK K
                  (try simp only [Act.put]); (try simp only [List.setIfInBounds_toArray]); (try simp only [List.set_cons_succ]); (try simp only [List.set_cons_zero])
                  refine wpAnyH_take (i := 15) (oi := ⟨_, _, _, _, _, _⟩) (v := ?_) rfl (by kernel_rfl) (by kernel_rfl) (by kernel_rfl) (fun _ _ _ h => h) (Or.inl ⟨by rfl, ?_⟩) (by assumption) ?_
                  rotate_left 1
                  · intro w hSw; (try dsimp only at hSw); go_simp <;> with_reducible rfl
                  (try simp only [Act.put]); (try simp only [List.setIfInBounds_toArray]); (try simp only [List.set_cons_succ]); (try simp only [List.set_cons_zero])
                  refine wpAnyH_done (by kernel_rfl) ?_ _
                  go_wp2_with fail
                  go_roundw
                  case rel => exact ⟨i + 1, a2, c2, q2, sn2, by omega, by go_num, rfl, Lib.hid (HQ2.out.keep J), Lib.hid (HR2.out.keep J), Lib.hid (HB2.out.keep J), Lib.hid (by rw [HX.out, HXD.out]; rfl), HP2, Lib.hid (by have := HL2.out; omega)⟩
                  case measure => simp [RowKit.intOf]; omega
                | true =>
                  have J : Keeps wr wr.drew := (Keeps.refl wr).drew
                  refine wp_region_held_drew (S := (fun w' => (w'.cell? ⟨BS, i, none⟩ = some (.bool false)) ∧ (w'.cell? (adr a (r.e * 6)) = some (.string xk.c.nm) ∧ w'.cell? ⟨(adr a (r.e * 6)).block, (adr a (r.e * 6)).off + 1, none⟩ = some (.int .i64 xk.c.kd) ∧ w'.cell? ⟨(adr a (r.e * 6)).block, (adr a (r.e * 6)).off + 2, none⟩ = some (.int .u16 (sv xk.c.M)) ∧ w'.cell? ⟨(adr a (r.e * 6)).block, (adr a (r.e * 6)).off + 3, none⟩ = some (.slice xk.ar xk.c.R.length xk.cr) ∧ w'.cell? ⟨(adr a (r.e * 6)).block, (adr a (r.e * 6)).off + 4, none⟩ = some (.slice xk.aw xk.c.Q.length xk.cw) ∧ w'.cell? ⟨(adr a (r.e * 6)).block, (adr a (r.e * 6)).off + 5, none⟩ = some (.slice xk.af xk.c.F.length xk.cf)) ∧ (w'.cell? (adr a (i * 6)) = some (.string yk.c.nm) ∧ w'.cell? ⟨(adr a (i * 6)).block, (adr a (i * 6)).off + 1, none⟩ = some (.int .i64 yk.c.kd) ∧ w'.cell? ⟨(adr a (i * 6)).block, (adr a (i * 6)).off + 2, none⟩ = some (.int .u16 (sv yk.c.M)) ∧ w'.cell? ⟨(adr a (i * 6)).block, (adr a (i * 6)).off + 3, none⟩ = some (.slice yk.ar yk.c.R.length yk.cr) ∧ w'.cell? ⟨(adr a (i * 6)).block, (adr a (i * 6)).off + 4, none⟩ = some (.slice yk.aw yk.c.Q.length yk.cw) ∧ w'.cell? ⟨(adr a (i * 6)).block, (adr a (i * 6)).off + 5, none⟩ = some (.slice yk.af yk.c.F.length yk.cf)))) (by kernel_rfl) ?_ (fun hHeld => ?_)
                  · exact HPP.out _ J
                  generalize wr.drew = V0 at *
                  refine wpAnyH_take (i := 0) (oi := ⟨_, _, _, _, _, _⟩) (v := ?_) rfl (by kernel_rfl) (by kernel_rfl) (by kernel_rfl) (fun _ _ _ h => h) (Or.inl ⟨by rfl, ?_⟩) (by assumption) ?_
                  rotate_left 1
                  · intro w hSw; (try dsimp only at hSw); go_simp <;> with_reducible rfl
                  (try simp only [Act.put]); (try simp only [List.setIfInBounds_toArray]); (try simp only [List.set_cons_succ]); (try simp only [List.set_cons_zero])
                  refine wpAnyH_take (i := 1) (oi := ⟨_, _, _, _, _, _⟩) (v := ?_) rfl (by kernel_rfl) (by kernel_rfl) (by kernel_rfl) (fun _ _ _ h => h) (Or.inl ⟨by rfl, ?_⟩) (by assumption) ?_
                  rotate_left 1
                  · intro w hSw; (try dsimp only at hSw); go_simp <;> with_reducible rfl
                  (try simp only [Act.put]); (try simp only [List.setIfInBounds_toArray]); (try simp only [List.set_cons_succ]); (try simp only [List.set_cons_zero])
                  refine wpAnyH_take (i := 2) (oi := ⟨_, _, _, _, _, _⟩) (v := ?_) rfl (by kernel_rfl) (by kernel_rfl) (by kernel_rfl) (fun _ _ _ h => h) (Or.inl ⟨by rfl, ?_⟩) (by assumption) ?_
                  rotate_left 1
                  · intro w hSw; (try dsimp only at hSw); go_simp <;> with_reducible rfl
                  (try simp only [Act.put]); (try simp only [List.setIfInBounds_toArray]); (try simp only [List.set_cons_succ]); (try simp only [List.set_cons_zero])
                  refine wpAnyH_take (i := 3) (oi := ⟨_, _, _, _, _, _⟩) (v := ?_) rfl (by kernel_rfl) (by kernel_rfl) (by kernel_rfl) (fun _ _ _ h => h) (Or.inl ⟨by rfl, ?_⟩) (by assumption) ?_
                  rotate_left 1
                  · intro w hSw; (try dsimp only at hSw); go_simp <;> with_reducible rfl
                  (try simp only [Act.put]); (try simp only [List.setIfInBounds_toArray]); (try simp only [List.set_cons_succ]); (try simp only [List.set_cons_zero])
                  refine wpAnyH_take (i := 4) (oi := ⟨_, _, _, _, _, _⟩) (v := ?_) rfl (by kernel_rfl) (by kernel_rfl) (by kernel_rfl) (fun _ _ _ h => h) (Or.inl ⟨by rfl, ?_⟩) (by assumption) ?_
                  rotate_left 1
                  · intro w hSw; (try dsimp only at hSw); go_simp <;> with_reducible rfl
                  (try simp only [Act.put]); (try simp only [List.setIfInBounds_toArray]); (try simp only [List.set_cons_succ]); (try simp only [List.set_cons_zero])
                  refine wpAnyH_take (i := 5) (oi := ⟨_, _, _, _, _, _⟩) (v := ?_) rfl (by kernel_rfl) (by kernel_rfl) (by kernel_rfl) (fun _ _ _ h => h) (Or.inl ⟨by rfl, ?_⟩) (by assumption) ?_
                  rotate_left 1
                  · intro w hSw; (try dsimp only at hSw); go_simp <;> with_reducible rfl
                  (try simp only [Act.put]); (try simp only [List.setIfInBounds_toArray]); (try simp only [List.set_cons_succ]); (try simp only [List.set_cons_zero])
                  refine wpAnyH_take (i := 6) (oi := ⟨_, _, _, _, _, _⟩) (v := ?_) rfl (by kernel_rfl) (by kernel_rfl) (by kernel_rfl) (fun _ _ _ h => h) (Or.inl ⟨by rfl, ?_⟩) (by assumption) ?_
                  rotate_left 1
                  · intro w hSw; (try dsimp only at hSw); go_simp <;> with_reducible rfl
                  (try simp only [Act.put]); (try simp only [List.setIfInBounds_toArray]); (try simp only [List.set_cons_succ]); (try simp only [List.set_cons_zero])
                  refine wpAnyH_take (i := 7) (oi := ⟨_, _, _, _, _, _⟩) (v := ?_) rfl (by kernel_rfl) (by kernel_rfl) (by kernel_rfl) (fun _ _ _ h => h) (Or.inl ⟨by rfl, ?_⟩) (by assumption) ?_
                  rotate_left 1
                  · intro w hSw; (try dsimp only at hSw); go_simp <;> with_reducible rfl
                  (try simp only [Act.put]); (try simp only [List.setIfInBounds_toArray]); (try simp only [List.set_cons_succ]); (try simp only [List.set_cons_zero])
                  refine wpAnyH_take (i := 8) (oi := ⟨_, _, _, _, _, _⟩) (v := ?_) rfl (by kernel_rfl) (by kernel_rfl) (by kernel_rfl) (fun _ _ _ h => h) (Or.inl ⟨by rfl, ?_⟩) (by assumption) ?_
                  rotate_left 1
                  · intro w hSw; (try dsimp only at hSw); go_simp <;> with_reducible rfl
                  (try simp only [Act.put]); (try simp only [List.setIfInBounds_toArray]); (try simp only [List.set_cons_succ]); (try simp only [List.set_cons_zero])
                  refine wpAnyH_take (i := 9) (oi := ⟨_, _, _, _, _, _⟩) (v := ?_) rfl (by kernel_rfl) (by kernel_rfl) (by kernel_rfl) (fun _ _ _ h => h) (Or.inl ⟨by rfl, ?_⟩) (by assumption) ?_
                  rotate_left 1
                  · intro w hSw; (try dsimp only at hSw); go_simp <;> with_reducible rfl
                  (try simp only [Act.put]); (try simp only [List.setIfInBounds_toArray]); (try simp only [List.set_cons_succ]); (try simp only [List.set_cons_zero])
                  refine wpAnyH_take (i := 10) (oi := ⟨_, _, _, _, _, _⟩) (v := ?_) rfl (by kernel_rfl) (by kernel_rfl) (by kernel_rfl) (fun _ _ _ h => h) (Or.inl ⟨by rfl, ?_⟩) (by assumption) ?_
                  rotate_left 1
                  · intro w hSw; (try dsimp only at hSw); go_simp <;> with_reducible rfl
                  (try simp only [Act.put]); (try simp only [List.setIfInBounds_toArray]); (try simp only [List.set_cons_succ]); (try simp only [List.set_cons_zero])
                  refine wpAnyH_take (i := 11) (oi := ⟨_, _, _, _, _, _⟩) (v := ?_) rfl (by kernel_rfl) (by kernel_rfl) (by kernel_rfl) (fun _ _ _ h => h) (Or.inl ⟨by rfl, ?_⟩) (by assumption) ?_
                  rotate_left 1
                  · intro w hSw; (try dsimp only at hSw); go_simp <;> with_reducible rfl
                  (try simp only [Act.put]); (try simp only [List.setIfInBounds_toArray]); (try simp only [List.set_cons_succ]); (try simp only [List.set_cons_zero])
                  refine wpAnyH_take (i := 12) (oi := ⟨_, _, _, _, _, _⟩) (v := ?_) rfl (by kernel_rfl) (by kernel_rfl) (by kernel_rfl) (fun _ _ _ h => h) (Or.inl ⟨by rfl, ?_⟩) (by assumption) ?_
                  rotate_left 1
                  · intro w hSw; (try dsimp only at hSw); go_simp <;> with_reducible rfl
                  (try simp only [Act.put]); (try simp only [List.setIfInBounds_toArray]); (try simp only [List.set_cons_succ]); (try simp only [List.set_cons_zero])
                  refine wpAnyH_take (i := 13) (oi := ⟨_, _, _, _, _, _⟩) (v := ?_) rfl (by kernel_rfl) (by kernel_rfl) (by kernel_rfl) (fun _ _ _ h => h) (Or.inl ⟨by rfl, ?_⟩) (by assumption) ?_
                  rotate_left 1
                  · intro w hSw; (try dsimp only at hSw); go_simp <;> with_reducible rfl
                  (try simp only [Act.put]); (try simp only [List.setIfInBounds_toArray]); (try simp only [List.set_cons_succ]); (try simp only [List.set_cons_zero])
                  refine wpAnyH_ready (rs := [14]) (by kernel_rfl) (by simp) ?_
                  refine AllReadyH.cons (o := ⟨_, _, _, _, _, _⟩) rfl (fun K hK => ?_) AllReadyH.nil
                  go_simp
                  refine (HC.out _ J).mono ?_
                  rintro e V1 ⟨rfl, K9⟩
                  replace J := J.trans K9
                  clear K9
                  refine hK.out _ _ ?_ (fun hHeld => ?_)
                  · exact HPP.out _ J
                  clear hK K
                  (try simp only [Act.put]); (try simp only [List.setIfInBounds_toArray]); (try simp only [List.set_cons_succ]); (try simp only [List.set_cons_zero])
                  refine wpAnyH_take (i := 15) (oi := ⟨_, _, _, _, _, _⟩) (v := ?_) rfl (by kernel_rfl) (by kernel_rfl) (by kernel_rfl) (fun _ _ _ h => h) (Or.inl ⟨by rfl, ?_⟩) (by assumption) ?_
                  rotate_left 1
                  · intro w hSw; (try dsimp only at hSw); go_simp <;> with_reducible rfl
                  (try simp only [Act.put]); (try simp only [List.setIfInBounds_toArray]); (try simp only [List.set_cons_succ]); (try simp only [List.set_cons_zero])
                  refine wpAnyH_done (by kernel_rfl) ?_ _
                  have hbj := HB2.out.keep J
                  obtain ⟨sf1, sf2⟩ := seen_at hbj hlt
                  have nb := own_seen hbj i
                  have nq := que_seen (HQ2.out.keep J) hbj i (.bool true)
                  have nr := (HR2.out.keep J).seen hbj i (.bool true)
                  have NB := Lib.hid nb; have NQ := Lib.hid nq; have NR := Lib.hid nr
                  clear hbj nb nq nr
                  go_wp2_with fail
                  clear sf1 sf2
                  generalize V1.setCell ⟨BS, i, none⟩ (.bool true) = V2 at *
                  have hrt := NR.out r (by simp)
                  obtain ⟨x1, x2, e4, hrr⟩ := hrt.rd
                  unfold eR at e4
                  injection e4 with e5 e6 e7
                  rw [← e5, ← e7] at hrr
                  have hpl : r.p.length + 1 ≤ 2000 := by have h1 := HPR.out.2; have h2 := HM.out; omega
                  have hcl := cloneZ_any r.a r.c (r.p ++ [r.e]) V2 (by rw [List.length_append]; exact hrr) (by rw [List.length_append, List.length_singleton]; omega)
                  simp only [List.length_append, List.length_singleton] at hcl
                  have HCL := Lib.hid hcl
                  clear hrt hrr e5 e6 e7 hcl
                  refine HCL.out.mono ?_
                  rintro e V3 ⟨v, rfl, hO⟩
                  have KA := (Keeps.refl V3).alloc (.cells #[.int .i64 (i : Int)] 3)
                  have ri : Rd (V3.alloc (.cells #[.int .i64 (i : Int)] 3)) (some ⟨V3.heap.size, 0, none⟩) 1 1 1 (il [i]) := rd_new 3 1 V3 (il [i]) 1 (by decide) rfl
                  have HO := Lib.hid (hO.keep KA); have RI := Lib.hid ri
                  clear hO ri KA HCL
                  go_wp2_with (at_builtin; refine wp_app tyI rfl _ _ rfl HO.out rfl rfl RI.out (il_oneCell [i]) (by omega) ?_)
                  intro v' V4 hO4 hgr
                  obtain ⟨a', c', rfl, _⟩ := hO4.rd
                  have K24 := hO4.2
                  have HO4 := Lib.hid hO4
                  clear hO4 hgr HO RI
                  have KA := (Keeps.refl V4).alloc (.cells #[.slice a' (r.p.length + 1 + 1) c'] 51)
                  have rq : Rd (V4.alloc (.cells #[.slice a' (r.p.length + 1 + 1) c'] 51)) (some ⟨V4.heap.size, 0, none⟩) 1 1 1 [.slice a' (r.p.length + 1 + 1) c'] := rd_new 51 1 V4 [.slice a' (r.p.length + 1 + 1) c'] 1 (by decide) rfl
                  have RQ := Lib.hid rq
                  have HQ5 := Lib.hid ((NQ.out.keep K24).keep KA); have HR5 := Lib.hid ((NR.out.keep K24).keep KA); have HB5 := Lib.hid ((NB.out.keep K24).keep KA)
                  have h15 : RoQ w (V4.alloc (.cells #[.slice a' (r.p.length + 1 + 1) c'] 51)) [⟨a', c', r.p ++ [r.e], i⟩] := fun x hx => by
                    rw [List.mem_singleton.1 hx]
                    have := (HO4.out.since NB.out.2).keep KA
                    rw [← il_append] at this
                    unfold eR
                    rw [List.length_append]
                    exact this
                  have H15 := Lib.hid h15
                  clear rq h15 KA HO4 NQ NR NB
                  have hql : q.length ≤ 1001 := by have h1 := HM.out; have h2 := HG.out; simp only [List.length_cons] at h1; omega
                  have hq2 : q2.length ≤ 1001 := by have h1 := HL2.out; omega
                  go_wp2_with (at_builtin; refine wp_appQ tySS rfl _ _ rfl HQ5.out rfl rfl RQ.out (fun u hu => by rw [List.mem_singleton.1 hu]; rfl) (by omega) ?_)
                  intro v' V6 hQ6 hgr
                  generalize V4.alloc (.cells #[.slice a' (r.p.length + 1 + 1) c'] 51) = V5 at *
                  obtain ⟨a6, c6, rfl, _, _⟩ := hQ6.rd
                  have hR6 := (HR5.out.que HQ5.out hgr)
                  have h16 := (H15.out.que HQ5.out hgr)
                  have hB6 : Own 4 1 w V6 (.slice (some ⟨BS, 0, none⟩) n n) n (bl (sn2.set i true)) := ⟨row_que HB5.out.1 HQ5.out (by decide) hgr, hQ6.2⟩
                  have hR7 : RoQ w V6 (r :: (q ++ (q2 ++ [⟨a', c', r.p ++ [r.e], i⟩]))) := fun x hx => by
                    rw [← List.append_assoc, ← List.cons_append] at hx
                    rcases List.mem_append.1 hx with hx | hx
                    · exact hR6 x hx
                    · exact h16 x hx
                  have hQ7 : Que 51 w V6 (.slice a6 (q.length + 1 + (q2 ++ [(⟨a', c', r.p ++ [r.e], i⟩ : RA)]).length) c6) (q.length + 1 + (q2 ++ [(⟨a', c', r.p ++ [r.e], i⟩ : RA)]).length) (rl (r :: (q ++ (q2 ++ [⟨a', c', r.p ++ [r.e], i⟩])))) := by
                    have e : rl (r :: (q ++ (q2 ++ [(⟨a', c', r.p ++ [r.e], i⟩ : RA)]))) = rl (r :: (q ++ q2)) ++ [.slice a' (r.p.length + 1 + 1) c'] := by simp [rl, eR]
                    rw [e, List.length_append]
                    exact hQ6
                  have HR7 := Lib.hid hR7; have HQ7 := Lib.hid hQ7; have HB7 := Lib.hid hB6
                  clear hQ6 hgr hR6 h16 hB6 hR7 hQ7 HQ5 HR5 HB5 H15 RQ
                  go_wp2_with fail
                  go_roundw
                  case rel => exact ⟨i + 1, a6, c6, q2 ++ [⟨a', c', r.p ++ [r.e], i⟩], sn2.set i true, by omega, by go_num, by rw [List.length_append]; rfl, HQ7, HR7, HB7, Lib.hid (by rw [HX.out, HXD.out]; simp [rts]), Lib.hid (fun x hx => by
                    rcases List.mem_append.1 hx with hx | hx
                    · exact HP2.out x hx
                    · rw [List.mem_singleton.1 hx]; exact ⟨hlt, by rw [List.length_append]; rfl⟩), Lib.hid (by rw [List.length_append]; have := HL2.out; simp only [List.length_singleton]; omega)⟩
                  case measure => simp [RowKit.intOf]; omega
            · have hqn : (1 : Int) ≤ ((q.length : Int) + 1 + (q2.length : Int)) := by omega
              have hxe := HX.out
              rw [expIn_end _ _ hlt] at hxe
              have HXE := Lib.hid hxe; clear hxe
              have hct := expIn_count (stL (l.map (·.c))) (r.p, r.e) (List.range n) sn [] (fun j hj => by rw [seen_len HOB.out]; simpa using hj)
              rw [HXE.out] at hct
              have hbs : bfs n (stL (l.map (·.c))) tn (n + 1) [([], fn)] ((List.replicate n false).set fn true) = bfs n (stL (l.map (·.c))) tn (gk - 1) (rts (q ++ q2)) sn2 := by
                rw [HBF.out, HGK.out, show rts (r :: q) = (r.p, r.e) :: rts q from rfl, bfs, if_neg HE.out, HXE.out]
                simp [rts]
              have HCT := Lib.hid hct; have HBS := Lib.hid hbs
              clear hct hbs
              go_wp2_with fail
              go_roundg (gk - 1)
              case measure => have := HGK.out; omega
              case rel =>
                refine ⟨subs a2 c2 1 1, c2 - 1, q ++ q2, sn2, ?_, Lib.hid (fun h0 => ?_), Lib.hid (fun x hx => HR2.out x (List.mem_cons_of_mem _ hx)), HB2, Lib.hid ?_, Lib.hid ?_, Lib.hid (fun x hx => ?_), HBS⟩
                · rw [List.length_append]
                · rw [List.length_append] at h0 ⊢
                  have h1 := HQ2.out.pop (x := eR r) (xs := rl (q ++ q2)) (by omega)
                  rw [show q.length + 1 + q2.length - 1 = q.length + q2.length by omega] at h1
                  exact h1
                · have h1 := HM.out
                  have h2 := HCT.out.1
                  rw [List.length_append]
                  simp only [List.length_cons, rts, List.length_map, List.length_nil, Nat.zero_add] at h1 h2
                  omega
                · have := HG.out; omega
                · rcases List.mem_append.1 hx with hx | hx
                  · have := HP.out x (List.mem_cons_of_mem _ hx)
                    exact ⟨this.1, by omega⟩
                  · have h1 := HP2.out x hx
                    have h2 := HPR.out.2
                    have h3 := HGK.out
                    exact ⟨h1.1, by omega⟩
  · have HO : Hid (routeS (l.map (·.c)) f t = ([], 7)) := routeS_out (by rw [List.length_map, L1.out]; exact hin)
    have hcs : f < 0 ∨ (¬ f < 0 ∧ (n : Int) ≤ f) ∨ (¬ f < 0 ∧ ¬ (n : Int) ≤ f ∧ t < 0) ∨ (¬ f < 0 ∧ ¬ (n : Int) ≤ f ∧ ¬ t < 0 ∧ (n : Int) ≤ t) := by unfold inR at hin; omega
    clear hin h hl
    rcases hcs with h1 | ⟨h1, h2⟩ | ⟨h1, h2, h3⟩ | ⟨h1, h2, h3, h4⟩
    all_goals
      go_enter Tryz.func21, Tryz.ntmps21
      go_wp2_with fail
      go_ret2
      exact ⟨_, by rw [HO.out]; rfl, by rw [HO.out]; exact Own.nil _ _ (Keeps.refl _)⟩
end Go.Proofs.YtnlohknlchgfgaaGreat
