/- Texts joined into one, what is needed of them (a program of ours). -/
import Derived.Test.YtijknodekomdfaaGreatDoorBKB
import Derived.Test.YtijknodekomdfaaGreatDoorBKA
import Derived.Lib.QuietBelow
import Derived.Deep.RegionHeld3
import Derived.Deep.RegionLaw
namespace Go.Proofs.YtijknodekomdfaaGreatDoor
open Go.RowKit Go.Lib Go.Shelf

theorem run_app_block {P : Program} (w : World) (base : Nat) (t ty e : TypeId) (i : TypeInfo) (z : Value) (size bytes : Nat) (ht : P.underlying t = some (.slice e)) (hi : P.info? e = some i) (hz : i.zero = some z)
    (hsize : i.size = size) (hby : i.bytes = bytes) (hzs : z.cells.size = size)
    (v : Value) (n : Nat) (xs : List Value) (hown : w.ownsRow base e size v n xs)
    (a : Addr) (m c : Nat) (news : List Value) (hl : news.length = m * size) (hnews : ∀ j u, news[j]? = some u → w.cell? (a.add j) = some u) (h1 : ∀ u ∈ news, u.oneCell' = true)
    (h63 : n + m ≤ maxLen) (hbytes : (n + m) * bytes ≤ 140737488355328) :
    ∀ v' w', (Builtin.append_ #[t, t] ty #[v, .slice (some a) m c]).run P w = .ok v' w' → v'.ownBlock = v.ownBlock ∨ v'.ownBlock = some w.heap.size := by
  subst hsize
  subst hby
  have hsmall : n + m ≤ 9223372036854775807 := by simp only [maxLen] at h63; omega
  intro v' w' hr'
  rcases hown.2 with ⟨rfl, rfl⟩ | ⟨g, cap, cur, rfl, hbg, hg, hnc, hcm, hcs, htake⟩
  · by_cases hm : m = 0
    · subst hm
      have hr : (Builtin.append_ #[t, t] ty #[.slice none 0 0, .slice (some a) 0 c]).run P w = .ok (.slice none 0 0) w := by
        simp [Builtin.append_, run_underlying ht, sizeOf, typeInfo, hi, Builtin.lenOf, Builtin.firstCells, loadCells, loadCellsFrom]
      rw [hr] at hr'
      injection hr' with h2 _
      subst h2
      exact .inl rfl
    · have hr := run_append_nil (P := P) w t ty e i z ht hi hz a m c news hl hnews (by omega) (by omega) (by have hb := hbytes; simp only [Nat.zero_add] at hb; omega)
      rw [hr] at hr'
      injection hr' with h2 _
      subst h2
      exact .inr rfl
  · by_cases hroom : n + m ≤ cap
    · have hfit : n * i.size + news.length ≤ cur.size := by rw [hl, hcs, ← Nat.add_mul]; exact Nat.mul_le_mul_right _ hroom
      have hr := run_append_room (P := P) w t ty e i ht hi g n cap cur hg a m c news hl hnews h1 hroom hfit
      rw [hr] at hr'
      injection hr' with h2 _
      subst h2
      exact .inl rfl
    · have holds : ∀ j u, xs[j]? = some u → w.cell? ((⟨g, 0, none⟩ : Addr).add j) = some u := hown.cells (g := g) rfl
      have hr := run_append_grow (P := P) w t ty e i z ht hi hz ⟨g, 0, none⟩ n cap xs hown.1 holds a m c news hl hnews (by omega) (by omega) (growslice_fits (by omega) hbytes)
      rw [hr] at hr'
      injection hr' with h2 _
      subst h2
      exact .inr rfl
theorem op_app3 {P : Program} {t e : TypeId} {size bytes : Nat} (T : STy P t e size bytes) {w0 w : World} {o : Oper} {a : Act} {K : Act → World → Prop} {Q : Exit → Act → World → Prop}
    (s x : Operand) (ho : o.op = .call { callee := .builtin .append, args := #[s, x], argTypes := #[t, t] })
    {v : Value} {n : Nat} {xs : List Value} (hO : Own e size w0 w v n xs) (hs : a.eval s = v) {ad : Addr} {m c : Nat} {news : List Value} (hx : a.eval x = .slice (some ad) m c) (hr : Rd w (some ad) m c size news)
    (h1 : ∀ u ∈ news, u.oneCell' = true) (hn : n + m ≤ 10000000)
    (h : ∀ v' w', Own e size w0 w' v' (n + m) (xs ++ news) → w.grownBy w' v.ownBlock → (v'.ownBlock = v.ownBlock ∨ v'.ownBlock = some w.heap.size) → K (a.put o.dst v') w') : o.wp P a w K Q := by
  obtain ⟨i, z, i1, i2, i3, i4, i5⟩ := T.info
  have hlt := hO.1.lt
  have hk : ∀ w', w.grownBy w' v.ownBlock → Keeps w0 w' := fun w' hgr => Below.grown hO.2.below hgr hO.2.size (fun k hk => (hlt k hk).1)
  have hsm := T.small
  have hm : n + m ≤ maxLen := by unfold maxLen; omega
  have hby : (n + m) * bytes ≤ 140737488355328 := Nat.le_trans (Nat.mul_le_mul hn hsm) (by decide)
  obtain ⟨v', w', hrun, h2, h3, _⟩ := run_append_own (P := P) w w0.heap.size t o.type e i z size bytes T.u i1 i2 i3 i4 i5 T.pos v n xs hO.1 ad m c news hr.len (fun j u hj => hr.cell j u hj) h1 hm hby hO.2.size
  have hb := run_app_block (P := P) w w0.heap.size t o.type e i z size bytes T.u i1 i2 i3 i4 i5 v n xs hO.1 ad m c news hr.len (fun j u hj => hr.cell j u hj) h1 hm hby v' w' hrun
  unfold Oper.wp execOp
  simp only [ho, resolve, invoke, builtin, Sem.run_bind, Sem.run_pure, Result.andThen_ok, List.map_toArray, List.map_cons, List.map_nil, hs, hx, hrun]
  exact h v' w' ⟨h2, hk w' h3⟩ h3 hb
theorem step_app3 {P : Program} {t e : TypeId} {size bytes : Nat} (T : STy P t e size bytes) {w0 w : World} {ops : Array Oper} {o : Oper} {a : Act} {K : Act → World → Prop} {Q : Exit → Act → World → Prop} {E : Prop}
    (hg : o.guard = none) (s x : Operand) (ho : o.op = .call { callee := .builtin .append, args := #[s, x], argTypes := #[t, t] })
    {v : Value} {n : Nat} {xs : List Value} (hO : Own e size w0 w v n xs) (hs : a.eval s = v) {ad : Addr} {m c : Nat} {news : List Value} (hx : a.eval x = .slice (some ad) m c) (hr : Rd w (some ad) m c size news)
    (h1 : ∀ u ∈ news, u.oneCell' = true) (hn : n + m ≤ 10000000)
    (h : ∀ v' w', Own e size w0 w' v' (n + m) (xs ++ news) → w.grownBy w' v.ownBlock → (v'.ownBlock = v.ownBlock ∨ v'.ownBlock = some w.heap.size) → K (a.put o.dst v') w') : if Region.wanted o (yielded ops a.tmps) = true then Oper.wp P o a w K Q else E := by
  have hw : Region.wanted o (yielded ops a.tmps) = true := by simp [Region.wanted, hg]
  rw [if_pos hw]
  exact op_app3 T s x ho hO hs hx hr h1 hn h

theorem Blk.ne {W : World} {B C : Nat} {T U : TypeId} {cs ds : Array Value} (h : Blk W B T cs) (k : Blk W C U ds) (hT : T ≠ U) : B ≠ C := by
  rintro rfl
  unfold Blk at h k
  rw [h] at k
  injection k with k
  injection k with _ h2
  exact hT h2
def FrB (D : Nat → TypeId → Prop) (W W' : World) : Prop := W.heap.size ≤ W'.heap.size ∧ ∀ i T cs, Blk W i T cs → ¬ D i T → Blk W' i T cs
section
variable {D : Nat → TypeId → Prop}
theorem FrB.refl (W : World) : FrB D W W := ⟨Nat.le_refl _, fun _ _ _ h _ => h⟩
theorem FrB.trans {a b c : World} (h : FrB D a b) (k : FrB D b c) : FrB D a c := ⟨Nat.le_trans h.1 k.1, fun i T cs hb hT => k.2 i T cs (h.2 i T cs hb hT) hT⟩
theorem FrB.of {W W' : World} (h : Keeps W W') : FrB D W W' := ⟨h.size, fun _ _ _ hb _ => hb.keep h⟩
theorem FrB.mono {D' : Nat → TypeId → Prop} {W W' : World} (h : FrB D W W') (hm : ∀ i T, D i T → D' i T) : FrB D' W W' := ⟨h.1, fun i T cs hb hT => h.2 i T cs hb fun hd => hT (hm i T hd)⟩
theorem FrB.set {W : World} {B : Nat} {T : TypeId} {cs : Array Value} (h : Blk W B T cs) (hT : D B T) (i : Nat) (u : Value) : FrB D W (W.setCell ⟨B, i, none⟩ u) := by
  refine ⟨by simp, fun j T' cs' hb hn => ?_⟩
  have hne : j ≠ B := by
    rintro rfl
    unfold Blk at h hb
    rw [h] at hb
    injection hb with hb
    injection hb with _ h2
    exact hn (h2 ▸ hT)
  exact hb.setOther hne i u
theorem FrB.grown' {W W' : World} {b : Nat} {e : TypeId} {sz n : Nat} {v : Value} {xs : List Value} (h : W.ownsRow b e sz v n xs) (hT : ∀ i, some i = v.ownBlock → D i e) (hg : W.grownBy W' v.ownBlock) : FrB D W W' := by
  refine ⟨hg.size, fun j T' cs' hb hn => ?_⟩
  have hne : some j ≠ v.ownBlock := by
    intro hj
    rcases h.2 with ⟨rfl, _⟩ | ⟨g, cap, cur, rfl, _, hgg, _⟩
    · cases hj
    · have e1 : j = g := by injection hj
      subst e1
      unfold Blk at hb
      rw [hgg] at hb
      injection hb with hb
      injection hb with _ h2
      exact hn (h2 ▸ hT j hj)
  unfold Blk at hb ⊢
  rw [hg.block j (Array.getElem?_eq_some_iff.1 hb).1 hne, hb]
theorem FrB.grown {W W' : World} {b : Nat} {e : TypeId} {sz n : Nat} {v : Value} {xs : List Value} (h : W.ownsRow b e sz v n xs) (hT : ∀ i, D i e) (hg : W.grownBy W' v.ownBlock) : FrB D W W' := .grown' h (fun i _ => hT i) hg
theorem FrB.trans' {D' : Nat → TypeId → Prop} {a b c : World} (h : FrB D a b) (k : FrB D' b c) (hm : ∀ i T, i < a.heap.size → D' i T → D i T) : FrB D a c :=
  ⟨Nat.le_trans h.1 k.1, fun i T cs hb hT => k.2 i T cs (h.2 i T cs hb hT) fun hd => hT (hm i T hb.lt hd)⟩
theorem grown_set (W : World) (C i : Nat) (u : Value) : W.grownBy (W.setCell ⟨C, i, none⟩ u) (some C) := by
  refine ⟨?_, ?_, ?_, by simp, fun j _ hj => Below.heap_setCell _ _ _ _ (by intro h; exact hj (by rw [h]))⟩
  all_goals (unfold World.setCell; first | rfl | (split <;> first | rfl | (split <;> rfl)))
theorem ownsRow_frb {e : TypeId} {sz b : Nat} {W W' : World} {v : Value} {n : Nat} {xs : List Value} (h : W.ownsRow b e sz v n xs) (hT : ∀ i, b ≤ i → ¬ D i e) (k : FrB D W W') : W'.ownsRow b e sz v n xs := by
  refine ⟨h.1, ?_⟩
  rcases h.2 with h2 | ⟨g, cap, cur, hv, hb, hg, r⟩
  · exact .inl h2
  · exact .inr ⟨g, cap, cur, hv, hb, k.2 g e cur hg (hT g hb), r⟩
theorem Row0.frb {e : TypeId} {sz : Nat} {W W' : World} {v : Value} {n : Nat} {xs : List Value} (h : Row0 e sz W v n xs) (hT : ∀ i, ¬ D i e) (k : FrB D W W') : Row0 e sz W' v n xs := ownsRow_frb h (fun i _ => hT i) k
end
def Ty3 (T : TypeId) : Prop := T = 148 ∨ T = 153 ∨ T = 145
abbrev TyF : World → World → Prop := FrB (fun _ T => Ty3 T)
theorem Row0.tyf {e : TypeId} {sz : Nat} {W W' : World} {v : Value} {n : Nat} {xs : List Value} (h : Row0 e sz W v n xs) (hT : ¬ Ty3 e) (k : TyF W W') : Row0 e sz W' v n xs := h.frb (fun _ => hT) k
theorem Own.tyf {e : TypeId} {sz : Nat} {w0 W W' : World} {v : Value} {n : Nat} {xs : List Value} (h : Own e sz w0 W v n xs) (hT : ¬ Ty3 e) (k : TyF W W') (K : Keeps w0 W') : Own e sz w0 W' v n xs := ⟨ownsRow_frb h.1 (fun _ _ => hT) k, K⟩
theorem ty3_heard : ¬ Ty3 156 := by unfold Ty3; decide
theorem ty3_run : Ty3 148 := .inl rfl
theorem ty3_node : Ty3 153 := .inr (.inl rfl)
theorem ty3_cast : Ty3 145 := .inr (.inr rfl)

/-- the rows of a node are its own -/
def NOk (W : World) (z : NA) : Prop := Row0 156 2 W (.slice z.ae z.x.echoes.length z.ce) z.x.echoes.length (hl z.x.echoes) ∧ Row0 156 2 W (.slice z.ar z.x.readies.length z.cr) z.x.readies.length (hl z.x.readies)
theorem NOk.tyf {W W' : World} {z : NA} (h : NOk W z) (k : TyF W W') : NOk W' z := ⟨h.1.tyf ty3_heard k, h.2.tyf ty3_heard k⟩
structure RunW (w0 W : World) (B : Nat) (fv bv : Value) (n : Nat) (byz : S) (source : Int) (nv : Value) (nas : List NA) (gv : Value) (fl : List Ct) (lv : Value) (ls : List Ct) : Prop where
  box : Blk W B 148 #[fv, bv, .int .i64 n, .int .u16 (sv byz), .int .i64 source, nv, gv]
  lo : w0.heap.size ≤ B
  own : Own 153 9 w0 W nv nas.length (nl nas)
  fli : Own 145 4 w0 W gv fl.length (cl fl)
  lie : Own 145 4 w0 W lv ls.length (cl ls)
  apart : lv.ownBlock = none ∨ lv.ownBlock ≠ gv.ownBlock
  rows : ∀ z ∈ nas, NOk W z
/-- nothing of the run is written -/
theorem RunW.keep {w0 W W' : World} {B : Nat} {fv bv : Value} {n : Nat} {byz : S} {source : Int} {nv : Value} {nas : List NA} {gv : Value} {fl : List Ct} {lv : Value} {ls : List Ct} (h : RunW w0 W B fv bv n byz source nv nas gv fl lv ls) (k : Keeps W W') : RunW w0 W' B fv bv n byz source nv nas gv fl lv ls :=
  ⟨h.box.keep k, h.lo, h.own.keep k, h.fli.keep k, h.lie.keep k, h.apart, fun z hz => (h.rows z hz).tyf (.of k)⟩
theorem RunW.keeps {w0 W : World} {B : Nat} {fv bv : Value} {n : Nat} {byz : S} {source : Int} {nv : Value} {nas : List NA} {gv : Value} {fl : List Ct} {lv : Value} {ls : List Ct} (h : RunW w0 W B fv bv n byz source nv nas gv fl lv ls) : Keeps w0 W := h.own.2
/-- what may be written where the flight grows -/
def DF (B : Nat) (gv : Value) : Nat → TypeId → Prop := fun i T => (i = B ∧ T = 148) ∨ (some i = gv.ownBlock ∧ T = 145)
theorem DF.ty3 {B : Nat} {gv : Value} {W W' : World} (h : FrB (DF B gv) W W') : TyF W W' := h.mono fun i T hd => by
  rcases hd with ⟨_, h⟩ | ⟨_, h⟩
  · exact .inl h
  · exact .inr (.inr h)
section
variable {w0 W W' : World} {B : Nat} {fv bv : Value} {n : Nat} {byz : S} {source : Int} {nv : Value} {nas : List NA} {gv : Value} {fl : List Ct} {lv : Value} {ls : List Ct}
/-- the flight is appended to: the world behind the append and behind the store of the slice -/
theorem RunW.append (h : RunW w0 W B fv bv n byz source nv nas gv fl lv ls) {gv' : Value} {fl' : List Ct}
    (hO : Own 145 4 w0 W' gv' fl'.length (cl fl')) (hg : W.grownBy W' gv.ownBlock) (hb : gv'.ownBlock = gv.ownBlock ∨ gv'.ownBlock = some W.heap.size) :
    RunW w0 (W'.setCell ⟨B, 6, none⟩ gv') B fv bv n byz source nv nas gv' fl' lv ls ∧ FrB (DF B gv) W (W'.setCell ⟨B, 6, none⟩ gv') := by
  have hne : some B ≠ gv.ownBlock := blk_ne h.box h.fli.1 (by decide)
  have hbox : Blk W' B 148 #[fv, bv, .int .i64 n, .int .u16 (sv byz), .int .i64 source, nv, gv] := by
    have := h.box
    unfold Blk at this ⊢
    rw [hg.block B (Array.getElem?_eq_some_iff.1 this).1 hne, this]
  have T1 : FrB (DF B gv) W W' := .grown' h.fli.1 (fun i hi => .inr ⟨hi, rfl⟩) hg
  have T2 : FrB (DF B gv) W' (W'.setCell ⟨B, 6, none⟩ gv') := .set hbox (.inl ⟨rfl, rfl⟩) 6 gv'
  have hn : Own 153 9 w0 W' nv nas.length (nl nas) := ⟨row_kept h.own.1 h.fli.1 (by decide) hg, hO.2⟩
  have hl : Own 145 4 w0 W' lv ls.length (cl ls) := ⟨h.lie.1.kept hg h.apart, hO.2⟩
  have hK := keeps_set hO.2 h.lo 6 gv'
  refine ⟨⟨hbox.set 6 gv', h.lo, ⟨row_set hn.1 hbox (by decide) 6 gv', hK⟩, ⟨row_set hO.1 hbox (by decide) 6 gv', hK⟩, ⟨row_set hl.1 hbox (by decide) 6 gv', hK⟩, ?_, fun z hz => (h.rows z hz).tyf (DF.ty3 (T1.trans T2))⟩, T1.trans T2⟩
  rcases h.apart with e | e
  · exact .inl e
  · rcases hb with hb | hb
    · right; rw [hb]; exact e
    · right
      rw [hb]
      intro e2
      exact Nat.lt_irrefl _ (h.lie.1.lt _ e2).2
/-- a store into another box of the run's call -/
theorem RunW.other (h : RunW w0 W B fv bv n byz source nv nas gv fl lv ls) {C : Nat} {cs : Array Value} (hC : Blk W C 145 cs) (n1 : gv.ownBlock ≠ some C) (n2 : lv.ownBlock ≠ some C) (hlo : w0.heap.size ≤ C) (i : Nat) (u : Value) :
    RunW w0 (W.setCell ⟨C, i, none⟩ u) B fv bv n byz source nv nas gv fl lv ls := by
  have hg := grown_set W C i u
  have hK := keeps_set h.keeps hlo i u
  refine ⟨h.box.setOther (h.box.ne hC (by decide)) i u, h.lo, ⟨row_set h.own.1 hC (by decide) i u, hK⟩, ⟨h.fli.1.kept hg (.inr n1), hK⟩, ⟨h.lie.1.kept hg (.inr n2), hK⟩, h.apart, fun z hz => (h.rows z hz).tyf (.set hC ty3_cast i u)⟩
/-- a node is written back -/
theorem own_set9 {e : TypeId} {sz : Nat} {g m cap : Nat} {xs : List Value} (h : Own e sz w0 W (.slice (some ⟨g, 0, none⟩) m cap) m xs) (k : Nat) (u0 u1 u2 u3 u4 u5 u6 u7 u8 : Value) :
    Own e sz w0 (((((((((W.setCell ⟨g, k, none⟩ u0).setCell ⟨g, k + 1, none⟩ u1).setCell ⟨g, k + 2, none⟩ u2).setCell ⟨g, k + 3, none⟩ u3).setCell ⟨g, k + 4, none⟩ u4).setCell ⟨g, k + 5, none⟩ u5).setCell ⟨g, k + 6, none⟩ u6).setCell ⟨g, k + 7, none⟩ u7).setCell ⟨g, k + 8, none⟩ u8)
      (.slice (some ⟨g, 0, none⟩) m cap) m (((((((((xs.set k u0).set (k + 1) u1).set (k + 2) u2).set (k + 3) u3).set (k + 4) u4).set (k + 5) u5).set (k + 6) u6).set (k + 7) u7).set (k + 8) u8) :=
  own_put1' (own_put1' (own_put1' (own_put1' (own_put1' (own_put1' (own_put1' (own_put1' (own_put1' h k u0) (k + 1) u1) (k + 2) u2) (k + 3) u3) (k + 4) u4) (k + 5) u5) (k + 6) u6) (k + 7) u7) (k + 8) u8
end
theorem nl_set : ∀ (l : List NA) (k : Nat) (z : NA), k < l.length → nl (l.set k z) = (((((((((nl l).set (k * 9) (.int .i64 z.x.id)).set (k * 9 + 1) (.string z.x.echoed)).set (k * 9 + 2) (.bool z.x.hasE)).set (k * 9 + 3) (.string z.x.readied)).set (k * 9 + 4) (.bool z.x.hasR)).set (k * 9 + 5) (.string z.x.delivered)).set (k * 9 + 6) (.bool z.x.hasD)).set (k * 9 + 7) (.slice z.ae z.x.echoes.length z.ce)).set (k * 9 + 8) (.slice z.ar z.x.readies.length z.cr)
  | [], _, _, h => absurd h (by simp)
  | x :: t, 0, z, _ => by
    show nl (z :: t) = _
    rw [show z :: t = [z] ++ t from rfl, show x :: t = [x] ++ t from rfl, nl_append, nl_append, nl_one, nl_one]
    rfl
  | x :: t, k + 1, z, h => by
    have ih := nl_set t k z (by simpa using h)
    show nl (x :: t.set k z) = _
    rw [show x :: t.set k z = [x] ++ t.set k z from rfl, show x :: t = [x] ++ t from rfl, nl_append, nl_append, nl_one, ih]
    have e : ∀ j, (k + 1) * 9 + j = (k * 9 + j) + 9 := fun j => by omega
    rw [show (k + 1) * 9 = k * 9 + 9 by omega]
    simp only [show ∀ j, k * 9 + 9 + j = (k * 9 + j) + 9 from fun j => by omega]
    rfl
end Go.Proofs.YtijknodekomdfaaGreatDoor
namespace Go.Proofs.YtijknodekomdfaaGreatDoor
open Go.RowKit Go.Lib Go.Shelf

theorem contPred9 (s : S) (B : Nat) (l : List S) (w : World) (hc : w.cell? ⟨B, 0, none⟩ = some (.int .u16 (sv s))) :
    PredK Tryz.prog 228 #[.pointer (some ⟨B, 0, none⟩)] vs (fun q => sub9 q s) l w := fun W x _ hk => by
  have hc' := hk.cell hc
  show Calls Tryz.prog 228 #[.int .u16 (sv x), .pointer (some ⟨B, 0, none⟩)] W fun e w' => e = .returned (.bool (x &&& ~~~s == 0#16)) ∧ Keeps W w'
  go_enter Tryz.func228, Tryz.ntmps228
  go_wp2_with fail
  go_ret
  exact ⟨rfl, Keeps.refl _⟩
theorem withPred9 (s : S) (B : Nat) (l : List S) (w : World) (hc : w.cell? ⟨B, 0, none⟩ = some (.int .u16 (sv s))) :
    PredK Tryz.prog 229 #[.pointer (some ⟨B, 0, none⟩)] vs (fun t => sub9 s t) l w := fun W x _ hk => by
  have hc' := hk.cell hc
  show Calls Tryz.prog 229 #[.int .u16 (sv x), .pointer (some ⟨B, 0, none⟩)] W fun e w' => e = .returned (.bool (s &&& ~~~x == 0#16)) ∧ Keeps W w'
  go_enter Tryz.func229, Tryz.ntmps229
  go_wp2_with fail
  go_ret
  exact ⟨rfl, Keeps.refl _⟩
theorem contains9_any (s : S) (a : Option Addr) (n c : Nat) (f : List S) (w : World) (h : Rd w a n c 1 (sl f)) :
    Calls Tryz.prog 202 #[.int .u16 (sv s), .slice a n c] w fun e w' => e = .returned (.bool (accB f s)) ∧ Keeps w w' := by
  have hK := (Keeps.refl w).alloc (.cells #[.int .u16 (sv s)] 31)
  have hcon := containsFuncS_any a n c f (w.alloc (.cells #[.int .u16 (sv s)] 31)) 228 #[.pointer (some ⟨w.heap.size, 0, none⟩)] (fun q => sub9 q s) (h.keep hK) (enters_of Tryz.func228 (by kernel_rfl) rfl)
    (contPred9 s w.heap.size f _ (by rw [World.cell?_alloc_at _ _ _ _ rfl]; rfl))
  unfold accB
  generalize (f.any fun q => sub9 q s) = r at hcon ⊢
  have HC := Lib.hid hcon; clear hcon h
  go_enter Tryz.func202, Tryz.ntmps202
  go_wp2_with (go_at_call 46; refine HC.out.mono ?_; rintro e w' ⟨rfl, K2⟩)
  go_ret
  exact ⟨rfl, hK.trans K2⟩
theorem within9_any (s : S) (a : Option Addr) (n c : Nat) (f : List S) (w : World) (h : Rd w a n c 1 (sl f)) :
    Calls Tryz.prog 204 #[.int .u16 (sv s), .slice a n c] w fun e w' => e = .returned (.bool (posB f s)) ∧ Keeps w w' := by
  have hK := (Keeps.refl w).alloc (.cells #[.int .u16 (sv s)] 31)
  have hcon := containsFuncS_any a n c f (w.alloc (.cells #[.int .u16 (sv s)] 31)) 229 #[.pointer (some ⟨w.heap.size, 0, none⟩)] (fun t => sub9 s t) (h.keep hK) (enters_of Tryz.func229 (by kernel_rfl) rfl)
    (withPred9 s w.heap.size f _ (by rw [World.cell?_alloc_at _ _ _ _ rfl]; rfl))
  unfold posB
  generalize (f.any fun t => sub9 s t) = r at hcon ⊢
  have HC := Lib.hid hcon; clear hcon h
  go_enter Tryz.func204, Tryz.ntmps204
  go_wp2_with (go_at_call 46; refine HC.out.mono ?_; rintro e w' ⟨rfl, K2⟩)
  go_ret
  exact ⟨rfl, hK.trans K2⟩
theorem getH_cons (h : Hd) (t : List Hd) (v : Str) : getH (h :: t) v = if h.v = v then h.s else getH t v := rfl
set_option maxHeartbeats 1000000 in
theorem heard9_any (a : Option Addr) (n c : Nat) (l : List Hd) (v : Str) (w : World) (h : Rd w a n c 2 (hl l)) :
    Calls Tryz.prog 203 #[.slice a n c, .string v] w fun e w' => e = .returned (.int .u16 (sv (getH l v))) ∧ Keeps w w' := by
  have s1 := h.small
  have l1 := hl_rdlen h
  have L1 := Lib.hid l1; clear l1
  go_enter Tryz.func203, Tryz.ntmps203
  go_wp2
  go_loopw [9] (fun u wr => ∃ k : Nat, k ≤ n ∧ u = .int .i64 k ∧ Keeps w wr ∧ Hid (getH l v = getH (l.drop k) v)) (fun u _ => n - (RowKit.intOf u).toNat)
  case atStart => exact ⟨0, Nat.zero_le _, rfl, Keeps.refl _, rfl⟩
  case round =>
    obtain ⟨k, hk, rfl, K1, HI⟩ := hrel
    by_cases hlt : k < n
    · obtain ⟨g0, g1⟩ := hl_at (h.keep K1) hlt
      have ha := h.isSome (by omega)
      have hdr := dropEH L1 hlt
      have HDR := Lib.hid hdr; clear hdr
      generalize hdA l k = y at *
      have KA := (Keeps.refl wr).alloc (.cells #[.string y.v, .int .u16 (sv y.s)] 156)
      by_cases hv : y.v = v
      · subst hv
        go_wp2_with fail
        go_ret
        exact ⟨by rw [HI.out, HDR.out, getH_cons, if_pos rfl]; rfl, K1.trans KA⟩
      · have HV := Lib.hid hv
        go_wp2_with fail
        go_roundw
        case rel => exact ⟨k + 1, by omega, by go_num, K1.trans KA, hrfl <| by rw [HI.out, HDR.out, getH_cons, if_neg HV.out]⟩
        case measure => simp [RowKit.intOf]; omega
    · go_wp2
      go_ret
      exact ⟨by rw [HI.out, dropEHN L1 hlt]; rfl, K1⟩
end Go.Proofs.YtijknodekomdfaaGreatDoor
namespace Go.Proofs.YtijknodekomdfaaGreatDoor
open Go.RowKit Go.Lib Go.Shelf

theorem put_idx (i : Nat) (v : Str) : ∀ (l : List Hd) (k : Nat), (idxFrom (fun h : Hd => decide (h.v = v)) l k = -1 ∧ putH l i v = l ++ [⟨v, 1#16 <<< i⟩]) ∨
    ∃ j, j < l.length ∧ idxFrom (fun h : Hd => decide (h.v = v)) l k = ((k + j : Nat) : Int) ∧ putH l i v = l.set j ⟨(hdA l j).v, (hdA l j).s ||| 1#16 <<< i⟩
  | [], k => .inl ⟨rfl, rfl⟩
  | h :: t, k => by
    by_cases hv : h.v = v
    · refine .inr ⟨0, by simp, ?_, ?_⟩
      · rw [idxFrom, if_pos (by simpa using hv)]; simp
      · rw [putH, if_pos hv]; rfl
    · have e1 : idxFrom (fun h : Hd => decide (h.v = v)) (h :: t) k = idxFrom (fun h : Hd => decide (h.v = v)) t (k + 1) := by rw [idxFrom, if_neg (by simpa using hv)]
      have e2 : putH (h :: t) i v = h :: putH t i v := by rw [putH, if_neg hv]
      rw [e1, e2]
      rcases put_idx i v t (k + 1) with ⟨a1, a2⟩ | ⟨j, hj, a1, a2⟩
      · exact .inl ⟨a1, by rw [a2]; rfl⟩
      · refine .inr ⟨j + 1, by simp; omega, by rw [a1]; congr 1; omega, by rw [a2]; rfl⟩
theorem hl_set : ∀ (l : List Hd) (j : Nat) (s : S), j < l.length → hl (l.set j ⟨(hdA l j).v, s⟩) = (hl l).set (j * 2 + 1) (.int .u16 (sv s))
  | [], _, _, h => absurd h (by simp)
  | x :: t, 0, s, _ => by
    show hl (⟨x.v, s⟩ :: t) = _
    rw [show (⟨x.v, s⟩ : Hd) :: t = [⟨x.v, s⟩] ++ t from rfl, show x :: t = [x] ++ t from rfl, hl_append, hl_append, hl_one, hl_one]
    rfl
  | x :: t, j + 1, s, h => by
    have ih := hl_set t j s (by simpa using h)
    show hl (x :: t.set j ⟨(hdA t j).v, s⟩) = _
    rw [show x :: t.set j ⟨(hdA t j).v, s⟩ = [x] ++ t.set j ⟨(hdA t j).v, s⟩ from rfl, show x :: t = [x] ++ t from rfl, hl_append, hl_append, hl_one, ih, show (j + 1) * 2 + 1 = (j * 2 + 1) + 2 by omega]
    rfl
theorem own_setE {e : TypeId} {sz : Nat} {w0 w : World} {g n cap : Nat} {xs : List Value} (h : Own e sz w0 w (.slice (some ⟨g, 0, none⟩) n cap) n xs) (k : Nat) (u : Value) :
    Own e sz w0 (w.setCell ⟨g, k, none⟩ u) (.slice (some ⟨g, 0, none⟩) n cap) n (xs.set k u) := by
  have hs := h.1.stored k u
  have hb := (h.1.lt g rfl).1
  exact ⟨hs.1, Below.setCell h.2.below (by exact hb) _⟩
theorem addPred1 (i : Nat) (hi : i < 16) (B : Nat) (l : List Hd) (w : World) (hc : w.cell? ⟨B, 0, none⟩ = some (.int .i64 i)) :
    PredK Tryz.prog 225 #[.pointer (some ⟨B, 0, none⟩)] vh (fun h => h.s >>> i &&& 1#16 == 1#16) l w := fun W x _ hk => by
  have hc' := hk.cell hc
  have hmin : min i 16 = i := by omega
  have KA := (Keeps.refl W).alloc (.cells #[.string x.v, .int .u16 (sv x.s)] 156)
  have hc2 := KA.cell hc'
  show Calls Tryz.prog 225 #[vh x, .pointer (some ⟨B, 0, none⟩)] W fun e w' => e = .returned (.bool (x.s >>> i &&& 1#16 == 1#16)) ∧ Keeps W w'
  unfold vh
  go_enter Tryz.func225, Tryz.ntmps225
  go_wp2_with fail
  go_ret
  exact ⟨rfl, KA⟩
theorem addPred2 (v : Str) (B : Nat) (l : List Hd) (w : World) (hc : w.cell? ⟨B, 0, none⟩ = some (.string v)) :
    PredK Tryz.prog 227 #[.pointer (some ⟨B, 0, none⟩)] vh (fun h => decide (h.v = v)) l w := fun W x _ hk => by
  have hc' := hk.cell hc
  have KA := (Keeps.refl W).alloc (.cells #[.string x.v, .int .u16 (sv x.s)] 156)
  have hc2 := KA.cell hc'
  show Calls Tryz.prog 227 #[vh x, .pointer (some ⟨B, 0, none⟩)] W fun e w' => e = .returned (.bool (decide (x.v = v))) ∧ Keeps W w'
  unfold vh
  by_cases hv : x.v = v
  · rw [decide_eq_true hv]
    subst hv
    go_enter Tryz.func227, Tryz.ntmps227
    go_wp2_with fail
    go_ret
    exact ⟨rfl, KA⟩
  · rw [decide_eq_false hv]
    go_enter Tryz.func227, Tryz.ntmps227
    go_wp2_with fail
    go_ret
    exact ⟨rfl, KA⟩
theorem knows_p1 (l : List Hd) (i : Nat) : (l.any fun h => h.s >>> i &&& 1#16 == 1#16) = knows l i := by
  unfold knows
  congr 1
  funext h
  rw [hbT]
  rfl
set_option maxHeartbeats 2000000 in
theorem add9_any (a : Option Addr) (c : Nat) (l : List Hd) (i : Nat) (v : Str) (w : World) (h : Rd w a l.length c 2 (hl l)) (hi : i < 16) (hb : l.length ≤ 100000) (hk : knows l i = false) :
    Calls Tryz.prog 201 #[.slice a l.length c, .int .i64 i, .string v] w fun e w' => ∃ u, e = .returned (.tuple #[u, .bool true]) ∧ Own 156 2 w w' u (putH l i v).length (hl (putH l i v)) := by
  have hs : ∀ o, (w.alloc o).heap.size = w.heap.size + 1 := fun o => World.size_alloc ..
  have k2 := ((Keeps.refl w).alloc (.cells #[.int .i64 i] 3)).alloc (.cells #[.string v] 9)
  have b1 := (Blk.new w 3 #[.int .i64 i]).keep ((Keeps.refl _).alloc (.cells #[.string v] 9))
  have b2 := Blk.new (w.alloc (.cells #[.int .i64 i] 3)) 9 #[.string v]
  rw [hs] at b2
  have hc1 := containsFuncH_any a l.length c l _ 225 #[.pointer (some ⟨w.heap.size, 0, none⟩)] _ (h.keep k2) (enters_of Tryz.func225 (by kernel_rfl) rfl) (addPred1 i hi w.heap.size l _ (b1.cell 0 rfl))
  rw [knows_p1, hk] at hc1
  have hc2 := fun a2 c2 W (k : Keeps ((w.alloc (.cells #[.int .i64 i] 3)).alloc (.cells #[.string v] 9)) W) (h2 : Rd W a2 l.length c2 2 (hl l)) => indexFuncH_any a2 l.length c2 l W 227 #[.pointer (some ⟨w.heap.size + 1, 0, none⟩)] _ h2 (enters_of Tryz.func227 (by kernel_rfl) rfl) (addPred2 v (w.heap.size + 1) l W ((b2.keep k).cell 0 rfl))
  have hcl := fun W (k : Keeps ((w.alloc (.cells #[.int .i64 i] 3)).alloc (.cells #[.string v] 9)) W) => cloneH_any a c l W ((h.keep k2).keep k) (by omega)
  have HC1 := Lib.hid hc1; have HC2 := Lib.hid hc2; have HCL := Lib.hid hcl; have HB1 := Lib.hid b1; have HB2 := Lib.hid b2; have HK2 := Lib.hid k2
  clear hc1 hc2 hcl b1 b2 k2 hs h
  go_enter Tryz.func201, Tryz.ntmps201
  go_wp2_with fail
  generalize (w.alloc (.cells #[.int .i64 i] 3)).alloc (.cells #[.string v] 9) = W0 at *
  refine HC1.out.mono ?_
  rintro e W1 ⟨rfl, K1⟩
  go_wp2_with fail
  refine (HCL.out _ K1).mono ?_
  rintro e W2 ⟨u2, rfl, hO⟩
  have K2 := K1.trans hO.2
  obtain ⟨a2, c2, rfl, r2⟩ := hO.rd
  have HO := Lib.hid hO; clear hO
  go_wp2_with fail
  refine (HC2.out _ _ _ K2 r2).mono ?_
  rintro e W3 ⟨rfl, K3⟩
  rcases put_idx i v l 0 with ⟨h1, h2⟩ | ⟨j, hj, h1, h2⟩
  · rw [h1]
    have HP := Lib.hid h2
    clear h1 h2
    go_wp2_with fail
    have J : Keeps W3 W3.drew := (Keeps.refl W3).drew
    refine wp_region_held_drew (S := (fun w' => w'.cell? ⟨w.heap.size, 0, none⟩ = some (.int .i64 i) ∧ w'.cell? ⟨w.heap.size + 1, 0, none⟩ = some (.string v))) (by kernel_rfl) ?_ (fun hHeld => ?_)
    · exact ⟨(HB1.out.keep ((K2.trans K3).trans J)).cell 0 rfl, (HB2.out.keep ((K2.trans K3).trans J)).cell 0 rfl⟩
    generalize W3.drew = V0 at *
    refine wpAnyH_take (i := 0) (oi := ⟨_, _, _, _, _, _⟩) (v := ?_) rfl (by kernel_rfl) (by kernel_rfl) (by kernel_rfl) (fun _ _ _ h => h) (Or.inl ⟨by rfl, ?_⟩) (by assumption) ?_
    rotate_left 1
    · intro w hSw; (try dsimp only at hSw); go_simp <;> with_reducible rfl
    (try simp only [Act.put]); (try simp only [List.setIfInBounds_toArray]); (try simp only [List.set_cons_succ]); (try simp only [List.set_cons_zero])
    refine wpAnyH_take (i := 1) (oi := ⟨_, _, _, _, _, _⟩) (v := ?_) rfl (by kernel_rfl) (by kernel_rfl) (by kernel_rfl) (fun _ _ _ h => h) (Or.inl ⟨by rfl, ?_⟩) (by assumption) ?_
    rotate_left 1
    · intro w hSw; (try dsimp only at hSw); go_simp <;> with_reducible rfl
    (try simp only [Act.put]); (try simp only [List.setIfInBounds_toArray]); (try simp only [List.set_cons_succ]); (try simp only [List.set_cons_zero])
    refine wpAnyH_take (i := 2) (oi := ⟨_, _, _, _, _, _⟩) (v := ?_) rfl (by kernel_rfl) (by kernel_rfl) (by kernel_rfl) (fun _ _ _ h => h) (Or.inl ⟨by rfl, ?_⟩) (by assumption) ?_
    rotate_left 1
    · intro w hSw; (try dsimp only at hSw); go_simp <;> with_reducible rfl
    (try simp only [Act.put]); (try simp only [List.setIfInBounds_toArray]); (try simp only [List.set_cons_succ]); (try simp only [List.set_cons_zero])
    refine wpAnyH_take (i := 3) (oi := ⟨_, _, _, _, _, _⟩) (v := ?_) rfl (by kernel_rfl) (by kernel_rfl) (by kernel_rfl) (fun _ _ _ h => h) (Or.inl ⟨by rfl, ?_⟩) (by assumption) ?_
    rotate_left 1
    · intro w hSw; (try dsimp only at hSw); go_simp <;> with_reducible rfl
    (try simp only [Act.put]); (try simp only [List.setIfInBounds_toArray]); (try simp only [List.set_cons_succ]); (try simp only [List.set_cons_zero])
    refine wpAnyH_take (i := 4) (oi := ⟨_, _, _, _, _, _⟩) (v := ?_) rfl (by kernel_rfl) (by kernel_rfl) (by kernel_rfl) (fun _ _ _ h => h) (Or.inl ⟨by rfl, ?_⟩) (by assumption) ?_
    rotate_left 1
    · intro w hSw; (try dsimp only at hSw); go_simp <;> with_reducible rfl
    (try simp only [Act.put]); (try simp only [List.setIfInBounds_toArray]); (try simp only [List.set_cons_succ]); (try simp only [List.set_cons_zero])
    refine wpAnyH_ready (rs := [5]) (by kernel_rfl) (by simp) ?_
    refine AllReadyH.cons (o := ⟨_, _, _, _, _, _⟩) rfl (fun K hK => ?_) AllReadyH.nil
    go_simp
    have r1 : Rd (V0.alloc (.cells #[.string v, .int .u16 (sv (1#16 <<< i))] 156)) (some ⟨V0.heap.size, 0, none⟩) 1 1 2 (hl [⟨v, 1#16 <<< i⟩]) := rd_new 156 2 V0 (hl [⟨v, 1#16 <<< i⟩]) 1 (by decide) rfl
    have KA := (Keeps.refl V0).alloc (.cells #[.string v, .int .u16 (sv (1#16 <<< i))] 156)
    replace J := J.trans KA
    clear KA
    generalize V0.alloc (.cells #[.string v, .int .u16 (sv (1#16 <<< i))] 156) = V1 at *
    generalize V0.heap.size = BS at *
    refine hK.out _ _ ?_ (fun hHeld => ?_)
    · exact ⟨(HB1.out.keep ((K2.trans K3).trans J)).cell 0 rfl, (HB2.out.keep ((K2.trans K3).trans J)).cell 0 rfl⟩
    clear hK K
    (try simp only [Act.put]); (try simp only [List.setIfInBounds_toArray]); (try simp only [List.set_cons_succ]); (try simp only [List.set_cons_zero])
    refine wpAnyH_ready (rs := [6]) (by kernel_rfl) (by simp) ?_
    refine AllReadyH.cons (o := ⟨_, _, _, _, _, _⟩) rfl (fun K hK => ?_) AllReadyH.nil
    have hOO := HO.out.keep (K3.trans J)
    refine step_app ty_hl rfl _ _ rfl hOO rfl rfl r1 (hl_cells [⟨v, 1#16 <<< i⟩]) (by omega) ?_
    intro v' V2 hO' hgr
    dsimp only
    rw [← hl_append] at hO'
    have K9 := K1.trans hO'.2
    have HO' := Lib.hid hO'
    clear hO' hgr hOO r1
    refine hK.out _ _ ?_ (fun hHeld => ?_)
    · exact ⟨(HB1.out.keep K9).cell 0 rfl, (HB2.out.keep K9).cell 0 rfl⟩
    clear hK K
    (try simp only [Act.put]); (try simp only [List.setIfInBounds_toArray]); (try simp only [List.set_cons_succ]); (try simp only [List.set_cons_zero])
    refine wpAnyH_take (i := 7) (oi := ⟨_, _, _, _, _, _⟩) (v := ?_) rfl (by kernel_rfl) (by kernel_rfl) (by kernel_rfl) (fun _ _ _ h => h) (Or.inl ⟨by rfl, ?_⟩) (by assumption) ?_
    rotate_left 1
    · intro w hSw; (try dsimp only at hSw); go_simp <;> with_reducible rfl
    (try simp only [Act.put]); (try simp only [List.setIfInBounds_toArray]); (try simp only [List.set_cons_succ]); (try simp only [List.set_cons_zero])
    refine wpAnyH_take (i := 8) (oi := ⟨_, _, _, _, _, _⟩) (v := ?_) rfl (by kernel_rfl) (by kernel_rfl) (by kernel_rfl) (fun _ _ _ h => h) (Or.inl ⟨by rfl, ?_⟩) (by assumption) ?_
    rotate_left 1
    · intro w hSw; (try dsimp only at hSw); go_simp <;> with_reducible rfl
    (try simp only [Act.put]); (try simp only [List.setIfInBounds_toArray]); (try simp only [List.set_cons_succ]); (try simp only [List.set_cons_zero])
    refine wpAnyH_done (by kernel_rfl) ?_ _
    go_wp2_with fail
    go_ret2
    refine ⟨_, rfl, ?_⟩
    rw [HP.out, List.length_append]
    exact HO'.out.since (HK2.out.trans K1)
  · rw [h1]
    have HP := Lib.hid h2
    clear h1 h2
    obtain ⟨g, cap, hg, _⟩ := HO.out.some (by omega)
    injection hg with hg1 hg2 hg3
    subst hg1
    subst hg3
    have hce : ∀ W, Keeps W3 W → W.cell? ⟨g, j * 2 + 1, none⟩ = some (.int .u16 (sv (hdA l j).s)) := fun W J => by
      have := (hl_at (r2.keep (K3.trans J)) hj).2
      simp only [adr_some, Nat.zero_add] at this
      exact this
    have HCE := Lib.hid hce; clear hce
    have hj' : (j : Int) < (l.length : Int) := by omega
    have hj0 : ¬ (j : Int) < 0 := by omega
    go_wp2_with fail
    have J : Keeps W3 W3.drew := (Keeps.refl W3).drew
    refine wp_region_held_drew (S := (fun w' => w'.cell? ⟨w.heap.size, 0, none⟩ = some (.int .i64 i) ∧ w'.cell? ⟨w.heap.size + 1, 0, none⟩ = some (.string v))) (by kernel_rfl) ?_ (fun hHeld => ?_)
    · exact ⟨(HB1.out.keep ((K2.trans K3).trans J)).cell 0 rfl, (HB2.out.keep ((K2.trans K3).trans J)).cell 0 rfl⟩
    generalize W3.drew = V0 at *
    refine wpAnyH_take (i := 0) (oi := ⟨_, _, _, _, _, _⟩) (v := ?_) rfl (by kernel_rfl) (by kernel_rfl) (by kernel_rfl) (fun _ _ _ h => h) (Or.inl ⟨by rfl, ?_⟩) (by assumption) ?_
    rotate_left 1
    · intro w hSw; (try dsimp only at hSw); go_simp <;> with_reducible rfl
    (try simp only [Act.put]); (try simp only [List.setIfInBounds_toArray]); (try simp only [List.set_cons_succ]); (try simp only [List.set_cons_zero])
    refine wpAnyH_take (i := 1) (oi := ⟨_, _, _, _, _, _⟩) (v := ?_) rfl (by kernel_rfl) (by kernel_rfl) (by kernel_rfl) (fun _ _ _ h => h) (Or.inl ⟨by rfl, ?_⟩) (by assumption) ?_
    rotate_left 1
    · intro w hSw; (try dsimp only at hSw); go_simp <;> with_reducible rfl
    (try simp only [Act.put]); (try simp only [List.setIfInBounds_toArray]); (try simp only [List.set_cons_succ]); (try simp only [List.set_cons_zero])
    refine wpAnyH_take (i := 2) (oi := ⟨_, _, _, _, _, _⟩) (v := ?_) rfl (by kernel_rfl) (by kernel_rfl) (by kernel_rfl) (fun _ _ _ h => h) (Or.inl ⟨by rfl, ?_⟩) (by assumption) ?_
    rotate_left 1
    · intro w hSw; (try dsimp only at hSw); go_simp <;> with_reducible rfl
    (try simp only [Act.put]); (try simp only [List.setIfInBounds_toArray]); (try simp only [List.set_cons_succ]); (try simp only [List.set_cons_zero])
    refine wpAnyH_take (i := 3) (oi := ⟨_, _, _, _, _, _⟩) (v := ?_) rfl (by kernel_rfl) (by kernel_rfl) (by kernel_rfl) (fun _ _ _ h => h) (Or.inl ⟨by rfl, ?_⟩) (by assumption) ?_
    rotate_left 1
    · intro w hSw; (try dsimp only at hSw); go_simp <;> with_reducible rfl
    (try simp only [Act.put]); (try simp only [List.setIfInBounds_toArray]); (try simp only [List.set_cons_succ]); (try simp only [List.set_cons_zero])
    refine wpAnyH_take (i := 5) (oi := ⟨_, _, _, _, _, _⟩) (v := ?_) rfl (by kernel_rfl) (by kernel_rfl) (by kernel_rfl) (fun _ _ _ h => h) (Or.inl ⟨by rfl, ?_⟩) (by assumption) ?_
    rotate_left 1
    · intro w hSw; (try dsimp only at hSw); go_simp <;> with_reducible rfl
    (try simp only [Act.put]); (try simp only [List.setIfInBounds_toArray]); (try simp only [List.set_cons_succ]); (try simp only [List.set_cons_zero])
    refine wpAnyH_take (i := 6) (oi := ⟨_, _, _, _, _, _⟩) (v := ?_) rfl (by kernel_rfl) (by kernel_rfl) (by kernel_rfl) (fun _ _ _ h => h) (Or.inl ⟨by rfl, ?_⟩) (by assumption) ?_
    rotate_left 1
    · intro w hSw; (try dsimp only at hSw); go_simp <;> with_reducible rfl
    (try simp only [Act.put]); (try simp only [List.setIfInBounds_toArray]); (try simp only [List.set_cons_succ]); (try simp only [List.set_cons_zero])
    refine wpAnyH_ready (rs := [4]) (by kernel_rfl) (by simp) ?_
    refine AllReadyH.cons (o := ⟨_, _, _, _, _, _⟩) rfl (fun K hK => ?_) AllReadyH.nil
    have c1 := HCE.out _ J
    go_simp
    refine hK.out _ _ ?_ (fun hHeld => ?_)
    · exact ⟨(HB1.out.keep ((K2.trans K3).trans J)).cell 0 rfl, (HB2.out.keep ((K2.trans K3).trans J)).cell 0 rfl⟩
    clear hK K
    (try simp only [Act.put]); (try simp only [List.setIfInBounds_toArray]); (try simp only [List.set_cons_succ]); (try simp only [List.set_cons_zero])
    refine wpAnyH_take (i := 7) (oi := ⟨_, _, _, _, _, _⟩) (v := ?_) rfl (by kernel_rfl) (by kernel_rfl) (by kernel_rfl) (fun _ _ _ h => h) (Or.inl ⟨by rfl, ?_⟩) (by assumption) ?_
    rotate_left 1
    · intro w hSw; (try dsimp only at hSw); go_simp <;> with_reducible rfl
    (try simp only [Act.put]); (try simp only [List.setIfInBounds_toArray]); (try simp only [List.set_cons_succ]); (try simp only [List.set_cons_zero])
    refine wpAnyH_take (i := 8) (oi := ⟨_, _, _, _, _, _⟩) (v := ?_) rfl (by kernel_rfl) (by kernel_rfl) (by kernel_rfl) (fun _ _ _ h => h) (Or.inl ⟨by rfl, ?_⟩) (by assumption) ?_
    rotate_left 1
    · intro w hSw; (try dsimp only at hSw); go_simp <;> with_reducible rfl
    (try simp only [Act.put]); (try simp only [List.setIfInBounds_toArray]); (try simp only [List.set_cons_succ]); (try simp only [List.set_cons_zero])
    refine wpAnyH_take (i := 9) (oi := ⟨_, _, _, _, _, _⟩) (v := ?_) rfl (by kernel_rfl) (by kernel_rfl) (by kernel_rfl) (fun _ _ _ h => h) (Or.inl ⟨by rfl, ?_⟩) (by assumption) ?_
    rotate_left 1
    · intro w hSw; (try dsimp only at hSw); go_simp <;> with_reducible rfl
    (try simp only [Act.put]); (try simp only [List.setIfInBounds_toArray]); (try simp only [List.set_cons_succ]); (try simp only [List.set_cons_zero])
    refine wpAnyH_ready (rs := [10]) (by kernel_rfl) (by simp) ?_
    refine AllReadyH.cons (o := ⟨_, _, _, _, _, _⟩) rfl (fun K hK => ?_) AllReadyH.nil
    have c1 := HCE.out _ J
    have hOO := HO.out.keep (K3.trans J)
    have f1 := hOO.1.frozenAt (j * 2 + 1)
    have hO5 := own_setE hOO (j * 2 + 1) (.int .u16 (sv ((hdA l j).s ||| 1#16 <<< i)))
    rw [← hl_set l j _ hj, ← HP.out] at hO5
    have HO5 := Lib.hid hO5
    have K9 := K1.trans hO5.2
    clear hO5 hOO
    go_simp
    generalize (V0.setCell ⟨g, j * 2 + 1, none⟩ (.int .u16 (sv ((hdA l j).s ||| 1#16 <<< i)))) = V1 at *
    refine hK.out _ _ ?_ (fun hHeld => ?_)
    · exact ⟨(HB1.out.keep K9).cell 0 rfl, (HB2.out.keep K9).cell 0 rfl⟩
    clear hK K
    (try simp only [Act.put]); (try simp only [List.setIfInBounds_toArray]); (try simp only [List.set_cons_succ]); (try simp only [List.set_cons_zero])
    refine wpAnyH_done (by kernel_rfl) ?_ _
    go_wp2_with fail
    go_ret2
    refine ⟨_, rfl, ?_⟩
    have hpl : (putH l i v).length = l.length := by rw [HP.out, List.length_set]
    rw [hpl]
    exact HO5.out.since (HK2.out.trans K1)
end Go.Proofs.YtijknodekomdfaaGreatDoor
namespace Go.Proofs.YtijknodekomdfaaGreatDoor
open Go.RowKit Go.Lib

/-- the table of bits.TrailingZeros32 -/
def tab : List Nat := [0, 1, 28, 2, 29, 14, 24, 3, 30, 22, 20, 15, 25, 17, 4, 8, 31, 27, 13, 23, 21, 19, 16, 7, 26, 12, 18, 6, 11, 5, 10, 9]
def Tab (w : World) : Prop := ∀ i, i < 32 → w.cell? ⟨0, i, none⟩ = some (.int .u8 ((tab.getD i 0 : Nat) : Int))
theorem Tab.keep {w w' : World} (h : Tab w) (k : Keeps w w') : Tab w' := fun i hi => k.cell (h i hi)
def dbi (y : S) : Nat := y.toNat * 125613361 % 4294967296 / 134217728
theorem dbi_lt (y : S) : dbi y < 32 := by unfold dbi; omega
@[go_sem] theorem sv_neg (x : S) : IntKind.u16.wrap (-(sv x)) = sv (-x) := by
  rw [IntKind.wrap_u16]; unfold sv
  have := x.isLt
  rw [BitVec.toNat_neg]; omega
/-- the least member -/
def tzS (x : S) : Nat := tab.getD (dbi (x &&& -x)) 0

theorem tzS_def (x : S) : ((tab.getD (dbi (x &&& -x)) 0 : Nat) : Int) = (tzS x : Int) := by unfold tzS; rfl
theorem tab_lt : ∀ i, i < 32 → tab.getD i 0 < 32 := by decide
theorem tzS_lt (x : S) : tzS x < 32 := by unfold tzS; exact tab_lt _ (dbi_lt _)
theorem dbi_eq (y : S) : sv y % 4294967296 * 125613361 % 4294967296 / 134217728 = (dbi y : Int) := by
  have hy := y.isLt
  unfold dbi sv
  generalize y.toNat = n at *
  omega
theorem tz_core (x : S) (k idx : Nat) (w : World) (hx0 : (sv x == 0) = false)
    (key : bits BinOp.and IntKind.u16 (sv x) (IntKind.u16.wrap (-(sv x))) % 4294967296 * 125613361 % 4294967296 / 134217728 = (idx : Int))
    (hi : idx < 32) (hk : k < 32) (hcell : w.cell? ⟨0, idx, none⟩ = some (.int .u8 k)) :
    Calls Tryz.prog 141 #[.int .u16 (sv x)] w fun e w' => e = .returned (.int .i64 k) ∧ w = w' := by
  generalize sv x = n at *
  go_enter Tryz.func141, Tryz.ntmps141
  go_wp2_with (simp only [key])
  go_ret
  exact ⟨rfl, rfl⟩
theorem tz_any (x : S) (w : World) (hT : Tab w) (hx : x ≠ 0#16) : Calls Tryz.prog 141 #[.int .u16 (sv x)] w fun e w' => e = .returned (.int .i64 (tzS x)) ∧ w = w' := by
  have hb : (sv x == 0) = false := by rw [sv_beq0]; simpa using hx
  have hc := hT (dbi (x &&& -x)) (dbi_lt _)
  rw [tzS_def] at hc
  exact tz_core x _ _ w hb (by rw [sv_neg, sv_and]; exact dbi_eq _) (dbi_lt _) (tzS_lt x) hc

/-- a list of numbers as cells -/
def il (l : List Nat) : List Value := l.map fun (n : Nat) => .int .i64 (n : Int)
theorem il_snoc (l : List Nat) (x : Nat) : il (l ++ [x]) = il l ++ [.int .i64 (x : Int)] := by simp [il]
def im (l : List Nat) (i : Nat) : Nat := l.getD i 0
theorem il_at (l : List Nat) (i : Nat) (h : i < l.length) : (il l)[i]? = some (.int .i64 ((im l i : Nat) : Int)) := by simp [il, im, h, List.getD]
theorem drop_im (l : List Nat) (i : Nat) (h : i < l.length) : l.drop i = im l i :: l.drop (i + 1) := by
  rw [List.drop_eq_getElem_cons h]; simp [im, List.getD, h]
theorem il_oneCell (l : List Nat) : ∀ u ∈ il l, u.oneCell' = true := by
  intro u hu
  obtain ⟨_, _, rfl⟩ := List.mem_map.1 hu
  rfl
theorem infoI : (Tryz.prog.info? 3).map (fun i => (i.zero, i.size, i.bytes)) = some (some (.int .i64 0), 1, 8) := by kernel_rfl
theorem tyI : STy Tryz.prog 191 3 1 8 := STy.of Tryz.underlying191 infoI rfl (by decide) (by decide)

/-- the members, ascending -/
def members (x : S) : List Nat := (List.range 12).filter fun i => x.toNat.testBit i
theorem members_step' : ∀ (i j : Fin 64), i.val * 64 + j.val ≠ 0 → members (BitVec.ofNat 16 (i.val * 64 + j.val)) = tzS (BitVec.ofNat 16 (i.val * 64 + j.val)) :: members (BitVec.ofNat 16 (i.val * 64 + j.val) &&& (BitVec.ofNat 16 (i.val * 64 + j.val) - 1#16)) ∧ (BitVec.ofNat 16 (i.val * 64 + j.val) &&& (BitVec.ofNat 16 (i.val * 64 + j.val) - 1#16)).toNat < i.val * 64 + j.val := by decide +kernel
def small (x : S) : Prop := x.toNat < 4096
theorem members_step {x : S} (h : small x) (h0 : x ≠ 0#16) : members x = tzS x :: members (x &&& (x - 1#16)) ∧ (x &&& (x - 1#16)).toNat < x.toNat := by
  have hs : x.toNat < 4096 := h
  have e : x.toNat / 64 * 64 + x.toNat % 64 = x.toNat := by omega
  have := members_step' ⟨x.toNat / 64, by omega⟩ ⟨x.toNat % 64, by omega⟩
  simp only [e] at this
  have := this (fun e => h0 (BitVec.eq_of_toNat_eq (by simpa using e)))
  simpa using this
theorem members_zero : members 0#16 = [] := by decide
theorem members_len (x : S) : (members x).length ≤ 12 := Nat.le_trans (List.length_filter_le _ _) (by simp)

theorem members_lt (x : S) (i : Nat) : im (members x) i < 16 := by
  unfold im
  rw [List.getD_eq_getElem?_getD]
  cases h : (members x)[i]? with
  | none => simp
  | some v =>
    have := List.mem_of_getElem? h
    simp only [members, List.mem_filter, List.mem_range] at this
    simp; omega

theorem members_any (s : S) (w : World) (hT : Tab w) (hs : small s) : Calls Tryz.prog 132 #[.int .u16 (sv s)] w fun e w' => ∃ v, e = .returned v ∧ Own 3 1 w w' v (members s).length (il (members s)) := by
  have hz := fun w' (k : Keeps w w') x (hx : x ≠ 0#16) => tz_any x w' (hT.keep k) hx
  have HZ := Lib.hid hz; clear hz hT
  have HS := Lib.hid hs; clear hs
  go_enter Tryz.func132, Tryz.ntmps132
  go_wp2
  go_loopw [0, 3] (fun u v wr => ∃ (x : S) (acc : List Nat), u = .int .u16 (sv x) ∧ Hid (small x) ∧ Own 3 1 w wr v acc.length (il acc) ∧ Hid (members s = acc ++ members x)) (fun u _ _ => (RowKit.intOf u).toNat)
  case atStart => exact ⟨s, [], rfl, HS, Own.nil _ _ (Keeps.refl _), hrfl (by simp)⟩
  case round =>
    obtain ⟨x, acc, rfl, hx, hA, HI⟩ := hrel
    by_cases h0 : x = 0#16
    · have hb : (x != 0#16) = false := by simpa using h0
      have HI2 : Hid (members s = acc) := by have := HI.out; rw [h0, members_zero, List.append_nil] at this; exact this
      clear h0 HI
      go_wp2
      go_ret
      rw [HI2.out]
      exact ⟨_, rfl, hA⟩
    · have hb : (x != 0#16) = true := by simpa using h0
      obtain ⟨h1, h2⟩ := members_step hx.out h0
      have hl := members_len s
      rw [HI.out, h1] at hl
      simp only [List.length_append, List.length_cons] at hl
      have HN : Hid (acc.length + 1 ≤ 10000000) := by show acc.length + 1 ≤ 10000000; omega
      have HX : Hid (small (x &&& (x - 1#16))) := by have h4 : x.toNat < 4096 := hx.out; show _ < 4096; omega
      have HJ : Hid (members s = (acc ++ [tzS x]) ++ members (x &&& (x - 1#16))) := hrfl (by have := HI.out; rw [h1] at this; simpa using this)
      have H0 := Lib.hid h0
      have H2 : Hid ((sv (x &&& (x - 1#16))).toNat < (sv x).toNat) := by unfold sv; rw [Int.toNat_natCast, Int.toNat_natCast]; exact h2
      clear h0 h1 h2 hl HI
      go_wp2_with (first | (go_at_call 141; refine (HZ.out _ hA.2 _ H0.out).mono ?_; rintro e w' ⟨rfl, rfl⟩) | (at_builtin; refine wp_app tyI rfl _ _ rfl (hA.alloc _) rfl rfl (rd_new _ 1 _ [.int .i64 (tzS x)] 1 (by decide) rfl) (il_oneCell [tzS x]) HN.out ?_))
      intro v' w' hO hgr
      obtain ⟨a', c', rfl, hR⟩ := hO.rd
      have hN : acc.length + 1 = (acc ++ [tzS x]).length := by simp
      rw [← il_snoc, hN] at hO
      have HO := Lib.hid hO
      clear hN hO hgr hR
      go_wp2
      go_roundw
      case rel => exact ⟨_, _, rfl, HX, by simpa using HO.out, HJ⟩
      case measure => exact H2.out
end Go.Proofs.YtijknodekomdfaaGreatDoor
namespace Go.Proofs.YtijknodekomdfaaGreatDoor
open Go.RowKit Go.Lib Go.Shelf

theorem within7_any (a b : S) (w : World) : Calls Tryz.prog 144 #[.int .u16 (sv a), .int .u16 (sv b)] w fun e w' => e = .returned (.bool (a &&& ~~~b == 0#16)) ∧ w = w' := by
  go_enter Tryz.func144, Tryz.ntmps144
  go_wp2
  go_ret
  exact ⟨rfl, rfl⟩
theorem has7_any (s : S) (i : Nat) (hi : i < 16) (w : World) : Calls Tryz.prog 221 #[.int .u16 (sv s), .int .i64 i] w fun e w' => e = .returned (.bool ((s >>> i) &&& 1#16 == 1#16)) ∧ w = w' := by
  cases h : ((s >>> i) &&& 1#16 == 1#16)
  all_goals
    go_enter Tryz.func221, Tryz.ntmps221
    go_wp2
    go_ret
    exact ⟨rfl, rfl⟩
/-- the members of a set among the first k -/
def memTo (s : S) (k : Nat) : List Nat := (List.range k).filter fun i => (s >>> i) &&& 1#16 == 1#16
theorem memTo_succ (s : S) (k : Nat) : memTo s (k + 1) = memTo s k ++ (if ((s >>> k) &&& 1#16 == 1#16) = true then [k] else []) := by
  unfold memTo
  rw [List.range_succ, List.filter_append]
  simp [List.filter_cons]
theorem memTo_le (s : S) (k : Nat) : (memTo s k).length ≤ k := Nat.le_trans (List.length_filter_le _ _) (by simp)
theorem memTo_cnt (s : S) (k : Nat) : (memTo s k).length = cntTo s k := by
  induction k with
  | zero => rfl
  | succ k ih =>
    rw [memTo_succ, List.length_append, ih, cntTo]
    congr 1
    have e : ((s >>> k) &&& 1#16).toNat = (s.toNat >>> k) % 2 := by
      rw [BitVec.toNat_and, BitVec.toNat_ushiftRight]
      show _ &&& 1 = _
      rw [Nat.and_one_is_mod]
    by_cases hb : (s >>> k) &&& 1#16 = 1#16
    · rw [if_pos (by simpa using hb), ← e, hb]; rfl
    · rw [if_neg (by simpa using hb), ← e]
      have h2 : ((s >>> k) &&& 1#16).toNat ≠ 1 := fun h => hb (BitVec.eq_of_toNat_eq (by rw [h]; rfl))
      have h3 : ((s >>> k) &&& 1#16).toNat < 2 := by rw [e]; omega
      show 0 = _
      omega
set_option maxHeartbeats 800000 in
theorem members7_any (s : S) (w : World) : Calls Tryz.prog 193 #[.int .u16 (sv s)] w fun e w' => ∃ v, e = .returned v ∧ Own 3 1 w w' v (memTo s 16).length (il (memTo s 16)) := by
  go_enter Tryz.func193, Tryz.ntmps193
  go_wp2
  go_loopw [3, 4] (fun u v wr => ∃ k : Nat, k ≤ 16 ∧ v = .int .i64 k ∧ Own 3 1 w wr u (memTo s k).length (il (memTo s k))) (fun _ v _ => 16 - (RowKit.intOf v).toNat)
  case atStart => exact ⟨0, Nat.zero_le _, rfl, Own.nil _ _ (Keeps.refl _)⟩
  case round =>
    obtain ⟨k, hk, rfl, hO⟩ := hrel
    by_cases hlt : k < 16
    · have hcall := has7_any s k hlt wr
      have hst := memTo_succ s k
      have hle := memTo_le s k
      obtain ⟨a2, c2, rfl, hRa⟩ := hO.rd
      cases hb : ((s >>> k) &&& 1#16 == 1#16)
      · rw [hb] at hcall
        rw [hb, if_neg (by simp), List.append_nil] at hst
        have HC := Lib.hid hcall; have HST := Lib.hid hst; have HO := Lib.hid hO
        clear hcall hst hO hRa
        go_wp2_with fail
        refine HC.out.mono ?_
        rintro e w2 ⟨rfl, rfl⟩
        go_wp2_with fail
        go_roundw
        case rel =>
          refine ⟨k + 1, by omega, by go_num, ?_⟩
          rw [HST.out]; exact HO.out
        case measure => simp [RowKit.intOf]; omega
      · rw [hb] at hcall
        rw [hb, if_pos rfl] at hst
        have HC := Lib.hid hcall; have HST := Lib.hid hst; have HO := Lib.hid hO
        clear hcall hst hO hRa
        go_wp2_with fail
        refine HC.out.mono ?_
        rintro e w2 ⟨rfl, rfl⟩
        go_wp2_with (at_builtin; refine wp_app tyI rfl _ _ rfl (HO.out.alloc _) rfl rfl (rd_new _ 1 _ [.int .i64 k] 1 (by decide) rfl) (il_oneCell [k]) ?_ ?_)
        · omega
        · intro v' w3 hO3 _
          go_wp2
          go_roundw
          case rel =>
            refine ⟨k + 1, by omega, by go_num, ?_⟩
            rw [HST.out, il_snoc, List.length_append]; exact hO3
          case measure => simp [RowKit.intOf]; omega
    · have hkk : k = 16 := by omega
      subst hkk
      obtain ⟨a2, c2, rfl, hRa⟩ := hO.rd
      have HO := Lib.hid hO
      clear hO hRa
      go_wp2
      go_ret
      exact ⟨_, rfl, HO.out⟩
theorem count7_any (s : S) (w : World) : Calls Tryz.prog 145 #[.int .u16 (sv s)] w fun e w' => e = .returned (.int .i64 (cnt s)) ∧ Keeps w w' := by
  have h1 := members7_any s w
  have hl : (memTo s 16).length = cnt s := memTo_cnt s 16
  generalize memTo s 16 = l at *
  rw [← hl]
  have H1 := Lib.hid h1; clear h1 hl
  go_enter Tryz.func145, Tryz.ntmps145
  go_wp2_with fail
  refine H1.out.mono ?_
  rintro e w2 ⟨v, rfl, hO⟩
  obtain ⟨a2, c2, rfl, hR⟩ := hO.rd
  have K := hO.2
  clear hO hR
  go_wp2_with fail
  go_ret
  exact ⟨rfl, K⟩
end Go.Proofs.YtijknodekomdfaaGreatDoor
