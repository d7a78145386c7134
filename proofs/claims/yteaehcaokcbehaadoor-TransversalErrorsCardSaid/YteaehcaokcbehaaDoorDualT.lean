/- transversal.Dual. -/
import Derived.Maps.AppendAt
import Derived.Test.YteaehcaokcbehaaDoorLeastT
namespace Go.Proofs.YteaehcaokcbehaaDoor
open Go.RowKit Go.Lib Go.Shelf
attribute [local go_sem] Oper.semAt_some

/-- one step of Dual's loop -/
def dualStep (f : List S) (acc : List S) (s : S) : List S := if !accS acc s && hitS f s then acc ++ [s] else acc
def dualP (f : List S) (l : List S) : List S := l.foldl (dualStep f) []
theorem dualP_snoc (f l : List S) (x : S) : dualP f (l ++ [x]) = dualStep f (dualP f l) x := by simp [dualP]
theorem dualStep_len (f acc : List S) (x : S) : acc.length ≤ (dualStep f acc x).length ∧ (dualStep f acc x).length ≤ acc.length + 1 := by
  unfold dualStep; split <;> simp
theorem dualFold_len (f : List S) (l acc : List S) : acc.length ≤ (l.foldl (dualStep f) acc).length := by
  induction l generalizing acc with
  | nil => exact Nat.le_refl _
  | cons x xs ih => exact Nat.le_trans (dualStep_len f acc x).1 (ih _)
theorem dualP_prefix (f : List S) {p l : List S} (h : p <+: l) : (dualP f p).length ≤ (dualP f l).length := by
  obtain ⟨r, rfl⟩ := h
  unfold dualP
  rw [List.foldl_append]
  exact dualFold_len f r _
/-- the dual, as the program finds it, and the error -/
def dualErr (l : List S) : List S × Int :=
  if validS l ≠ 0 then ([], validS l) else if 400 < (dualP l (subsetsL (supS l))).length then ([], 3) else (dualP l (subsetsL (supS l)), 0)

theorem kpApp {W w1 : World} {n₀ Bo Bs b : Nat} {v v0 v' : Value} {k : Nat} {xs : List Value} {tmp : Obj} (hv : Boxed W Bo 25 v0) (hrow : W.ownsRow b 24 1 v k xs) (hb : Bs < b) (hne : Bs ≠ Bo)
    (hgrow : (W.alloc tmp).grownBy w1 v.ownBlock) (hbel : Below n₀ W (w1.setCell ⟨Bo, 0, none⟩ v')) : KpS n₀ Bs W (w1.setCell ⟨Bo, 0, none⟩ v') := by
  have same : ∀ i o, W.heap[i]? = some o → i ≠ Bo → some i ≠ v.ownBlock → (w1.setCell ⟨Bo, 0, none⟩ v').heap[i]? = W.heap[i]? := fun i o ho h1 h2 => by
    have hi := (Array.getElem?_eq_some_iff.1 ho).1
    rw [Below.heap_setCell _ _ _ _ h1, hgrow.block i (by simp; omega) h2, Below.heap_alloc _ _ _ hi]
  refine ⟨hbel, fun i cs hi => same i _ hi ?_ ?_, fun o ho => (same Bs o ho hne ?_).trans ho⟩
  · rintro rfl
    rw [show W.heap[i]? = _ from hv] at hi; cases hi
  · rcases hrow.2 with ⟨rfl, _⟩ | ⟨g, cap, cur, rfl, _, hgb, _⟩
    · simp [Value.ownBlock]
    · intro e'
      obtain rfl : i = g := by simpa [Value.ownBlock] using e'
      rw [hgb] at hi; cases hi
  · rcases hrow.2 with ⟨rfl, _⟩ | ⟨g, cap, cur, rfl, hg, hgb, _⟩
    · simp [Value.ownBlock]
    · intro e'
      obtain rfl : Bs = g := by simpa [Value.ownBlock] using e'
      omega
theorem ownWeak {W : World} {b b' : Nat} {e : TypeId} {sz k : Nat} {v : Value} {xs : List Value} (h : W.ownsRow b e sz v k xs) (hb : b' ≤ b) : W.ownsRow b' e sz v k xs :=
  ⟨h.1, h.2.elim .inl (fun ⟨g, cap, cur, e1, e2, e3⟩ => .inr ⟨g, cap, cur, e1, Nat.le_trans hb e2, e3⟩)⟩
theorem dualResults {W : World} {tmps : Array Value} {B1 B2 : Nat} {v : Value} {e : Int} (h1 : Boxed W B1 25 v) (h2 : Boxed W B2 28 (.int .i64 e)) {a : Option Addr} {n c : Nat} (hv : v = .slice a n c)
    (t1 : tmps.getD 2 undef = .pointer (some ⟨B1, 0, none⟩)) (t2 : tmps.getD 3 undef = .pointer (some ⟨B2, 0, none⟩)) :
    (results Tryd.f13 tmps).run Tryd.prog W = .ok (.tuple #[v, .int .i64 e]) W := by
  subst hv
  have c1 := h1.cell
  have c2 := h2.cell
  simp only [Array.getD_eq_getD_getElem?] at t1 t2
  simp [results, Tryd.f13, go_sem, t1, t2, c1, c2]

set_option maxRecDepth 100000 in
set_option maxHeartbeats 2000000 in
theorem dual_any (a : Option Addr) (m c : Nat) (l : List S) (w : World) (hT : Tab w) (h : Rd w a m c 1 (sl l)) (hsm : validS l = 0 → small (supS l)) :
    Calls Tryd.prog 13 #[.slice a m c] w fun e w' => ∃ v, e = .returned (.tuple #[v, .int .i64 (dualErr l).2]) ∧ Own 24 1 w w' v (dualErr l).1.length (sl (dualErr l).1) := by
  have hv := fun W (k : Keeps w W) => valid_any a m c l W (h.keep k)
  have hu := fun W (k : Keeps w W) => support_any a m c l W (h.keep k)
  have hh := fun W (k : Keeps w W) s => hits_any a m c l s W (h.keep k)
  have hdd : ∀ j : Nat, (Fence.wide.depth.isSome = true → 1 ≤ j) := fun j h => by cases h
  obtain ⟨i0, hi, hz0, hz1, hz2⟩ := info_parts infoS
  have HV := Lib.hid hv; have HU := Lib.hid hu; have HH := Lib.hid hh; clear hv hu hh
  have HI1 := Lib.hid hi; have HI2 := Lib.hid hz0; have HI3 := Lib.hid hz1; have HI4 := Lib.hid hz2; clear hi hz0 hz1 hz2
  refine (callsIn_wide (n := 8)).1 ?_
  refine callsIn_of_wp_marks Tryd.func13 rfl trivial ?_ rfl
  simp only [Tryd.ntmps13, List.size_toArray, List.length_cons, List.length_nil, Nat.reduceAdd, Nat.reduceSub, Array.replicate_succ, Array.replicate_zero, List.push_toArray, List.append_toArray, List.nil_append, List.cons_append]
  gi_wp2
  have k0 : Keeps w (((w.alloc (.cells #[.slice a m c] 25)).alloc (.cells #[.slice none 0 0] 25)).alloc (.cells #[.int .i64 0] 28)) := (((Keeps.refl w).alloc _).alloc _).alloc _
  have b0 : Boxed (((w.alloc (.cells #[.slice a m c] 25)).alloc (.cells #[.slice none 0 0] 25)).alloc (.cells #[.int .i64 0] 28)) w.heap.size 25 (.slice a m c) := ((Boxed.new w _ _).alloc _).alloc _
  have b1 : Boxed (((w.alloc (.cells #[.slice a m c] 25)).alloc (.cells #[.slice none 0 0] 25)).alloc (.cells #[.int .i64 0] 28)) (w.heap.size + 1) 25 (.slice none 0 0) := by
    have := Boxed.new (w.alloc (.cells #[.slice a m c] 25)) 25 (.slice none 0 0)
    rw [World.size_alloc] at this
    exact this.alloc _
  have b2 : Boxed (((w.alloc (.cells #[.slice a m c] 25)).alloc (.cells #[.slice none 0 0] 25)).alloc (.cells #[.int .i64 0] 28)) (w.heap.size + 1 + 1) 28 (.int .i64 0) := by
    have := Boxed.new ((w.alloc (.cells #[.slice a m c] 25)).alloc (.cells #[.slice none 0 0] 25)) 28 (.int .i64 0)
    rw [World.size_alloc, World.size_alloc] at this
    exact this
  refine ⟨trivial, ?_⟩
  refine (callsIn_wide.2 (HV.out _ k0)).mono ?_
  rintro e wb ⟨rfl, k1⟩
  have kb := k0.trans k1
  replace b0 := boxedKeep b0 k1
  replace b1 := boxedKeep b1 k1
  replace b2 := boxedKeep b2 k1
  have c0 := b0.cell
  have c1 := b1.cell; have f1 := b1.frozen
  have c2 := b2.cell; have f2 := b2.frozen
  have KB := Lib.hid kb
  clear k0 k1
  by_cases hz : validS l = 0
  · have hzb : (validS l != 0) = false := by simpa using hz
    have hsup := hsm hz
    have c0a := (b0.alloc (.cells #[.slice none 0 0] 25)).cell
    gi_wp2
    refine ⟨trivial, ?_⟩
    refine (callsIn_wide.2 (HU.out _ (KB.out.alloc _))).mono ?_
    rintro e wb' ⟨rfl, rfl⟩
    gi_wp2
    refine ⟨trivial, ?_⟩
    refine (callsIn_wide.2 (subsets_any _ _)).mono ?_
    rintro e wc ⟨rfl, hwc⟩
    have kc : Keeps wb wc := hwc ▸ ((Keeps.refl wb).alloc _).alloc _
    have bS : Boxed wc (wb.heap.size + 1) 24 (.int .u16 (sv (supS l))) := by
      have := Boxed.new (wb.alloc (.cells #[.slice none 0 0] 25)) 24 (.int .u16 (sv (supS l)))
      rw [World.size_alloc] at this
      exact hwc ▸ this
    have bO : Boxed wc wb.heap.size 25 (.slice none 0 0) := hwc ▸ (Boxed.new wb _ _).alloc _
    have hszc : wc.heap.size = wb.heap.size + 1 + 1 := by rw [hwc]; simp
    clear hwc
    replace b0 := boxedKeep b0 kc
    replace b1 := boxedKeep b1 kc
    have hlt0 := b2.lt
    replace b2 := boxedKeep b2 kc
    have kwc := KB.out.trans kc
    have hlt := b2.lt
    gi_wp2
    refine wpIn_rangeFunc_ownG rfl (by omega) (gf := 59) (lb := #[.pointer (some ⟨wb.heap.size + 1, 0, none⟩)]) rfl trivial (enters_of Tryd.func59 (by kernel_rfl) rfl)
      (subsets_stops 7 w.heap.size (wb.heap.size + 1) (supS l) hsup wc (hT.keep kwc) hT.lt kwc.size bS) KpS.trans ?hkb (Below.refl _ _) (fun _ => rfl)
      (fun pre W => (dualP l pre).length ≤ 400 ∧ (∃ v, Boxed W wb.heap.size 25 v ∧ W.ownsRow wc.heap.size 24 1 v (dualP l pre).length (sl (dualP l pre))) ∧ Boxed W w.heap.size 25 (.slice a m c) ∧ Boxed W (w.heap.size + 1) 25 (.slice none 0 0) ∧ Boxed W (w.heap.size + 1 + 1) 28 (.int .i64 0) ∧ Below w.heap.size w W ∧ wc.heap.size ≤ W.heap.size)
      (fun cd pre W => cd = .ret ∧ 400 < (dualP l pre).length ∧ Boxed W (w.heap.size + 1) 25 (.slice none 0 0) ∧ Boxed W (w.heap.size + 1 + 1) 28 (.int .i64 3) ∧ Below w.heap.size w W)
      ?hI ?hIx ?h0 ?a1 ?assign ?body ?done ?stop
    case hkb => exact fun W l' o o' h1 h2 h3 h4 => kpS_b kwc.size (by omega) W l' o o' h1 h2 h3 h4
    case hI =>
      rintro s A B row ⟨h0, ⟨v, hv, hrow⟩, h1, h2, h3, h4, h5⟩ hg hr
      refine ⟨h0, ⟨v, boxK hv hg hr, hrow.kept hg ?_⟩, boxK h1 hg hr, boxK h2 hg hr, boxK h3 hg hr, belK h4 kwc.size hg hr, Nat.le_trans h5 hg.size⟩
      rcases hrow.2 with ⟨rfl, _⟩ | ⟨g, cap, cur, rfl, _, hgb, _⟩
      · exact .inl rfl
      · refine .inr fun e' => ?_
        obtain ⟨_, o, ho, hc⟩ := hr g (by simpa [Value.ownBlock] using e'.symm)
        rw [hgb] at ho; cases ho; cases hc
    case hIx =>
      rintro cd s A B row ⟨h1, h2, h3, h4, h5⟩ hg hr
      exact ⟨h1, h2, boxK h3 hg hr, boxK h4 hg hr, belK h5 kwc.size hg hr⟩
    case h0 => exact ⟨by simp [dualP], ⟨_, bO, World.ownsRow_nil _ _ _ _⟩, b0, b1, b2, kwc, Nat.le_refl _⟩
    case a1 => exact fun x => { tmps := #[.slice a m c, .pointer (some ⟨w.heap.size, 0, none⟩), .pointer (some ⟨w.heap.size + 1, 0, none⟩), .pointer (some ⟨w.heap.size + 1 + 1, 0, none⟩), .int .i64 0, .pointer (some ⟨wb.heap.size, 0, none⟩), .int .u16 (sv x), .slice a m c, .int .i64 0, .int .i64 0, .bool false, undef, .slice a m c, .int .u16 (sv (supS l)), .func (.func 59) #[] #[.pointer (some ⟨wb.heap.size + 1, 0, none⟩)], .int .u16 (sv x), undef, undef, undef, undef, undef, undef, undef, undef, undef, undef, undef, undef, undef, undef, undef, undef, undef], defers := [] }
    case assign =>
      intro l' x W K hK
      unfold vs
      gi_wp2
      exact hK
    case body =>
      rintro l' pre x W ⟨h400, ⟨v, hv, hrow⟩, d0, d1, d2, hB, hwcW⟩ _
      obtain ⟨va, vc, rfl, hvr⟩ := own_rd hrow
      have hacc := accepts_any va _ vc (dualP l pre) x W hvr
      have hst := dualP_snoc l pre x
      unfold dualStep at hst
      generalize dualP l pre = acc at *
      have HST := Lib.hid hst; have HA := Lib.hid hacc; have HROW := Lib.hid hrow; have H400 := Lib.hid h400
      clear hst hacc hvr hrow h400
      have e0 := d0.cell
      have eO := hv.cell; have gO := hv.frozen
      gi_wp2
      refine ⟨trivial, ?_⟩
      refine (CallsIn.inRound l' (callsIn_wide.2 HA.out)).mono ?_
      rintro e W' ⟨rfl, kW⟩
      have hv' := boxedKeep hv kW
      replace d0 := boxedKeep d0 kW
      replace d1 := boxedKeep d1 kW
      replace d2 := boxedKeep d2 kW
      have kk : Below w.heap.size w W' := Keeps.trans hB kW
      have hsz := hB.size
      have e0' := d0.cell
      have HROW' := Lib.hid (kW.own HROW.out)
      cases hac : accS acc x
      · gi_wp2
        refine ⟨trivial, ?_⟩
        refine (CallsIn.inRound l' (callsIn_wide.2 (HH.out W' kk x))).mono ?_
        rintro e W2 ⟨rfl, kW2⟩
        have hv2 := boxedKeep hv' kW2
        replace d0 := boxedKeep d0 kW2
        replace d1 := boxedKeep d1 kW2
        replace d2 := boxedKeep d2 kW2
        have kk2 : Below w.heap.size w W2 := Keeps.trans kk kW2
        have hsz2 := kk2.size
        have HROW2 := Lib.hid (kW2.own HROW'.out)
        have hc2 := hv2.cell; have hf2 := hv2.frozen
        have g1 := d1.frozen; have g2 := d2.frozen
        have x1 := d1.cell; have x2 := d2.cell
        cases hit : hitS l x
        · have hst : dualP l (pre ++ [x]) = acc := by rw [HST.out, hac, hit]; simp
          have HS := Lib.hid hst; clear hst
          gi_wp2
          refine ⟨(keepsFrom kW _).trans (keepsFrom kW2 _), (KpS.of kW hsz).trans (KpS.of kW2 kk.size), ?_⟩
          dsimp only
          rw [HS.out]
          exact ⟨H400.out, ⟨_, hv2, HROW2.out⟩, d0, d1, d2, kk2, Nat.le_trans hwcW (Nat.le_trans kW.size kW2.size)⟩
        · have hst : dualP l (pre ++ [x]) = acc ++ [x] := by rw [HST.out, hac, hit]; simp
          have HS := Lib.hid hst; clear hst
          have hi := HI1.out; have hz0 := HI2.out; have hz1 := HI3.out; have hz2 := HI4.out
          have hb1 : acc.length + 1 ≤ maxLen := by have := H400.out; unfold maxLen; omega
          have hb2 : (acc.length + 1) * 2 ≤ 140737488355328 := by have := H400.out; omega
          have hwc2 : wc.heap.size ≤ (W2.alloc (.cells #[.int .u16 (sv x)] 24)).heap.size := by have h1 := kW.size; have h2 := kW2.size; simp; omega
          have HB1 := Lib.hid hb1; have HB2 := Lib.hid hb2; have HWC := Lib.hid hwc2; clear hb1 hb2 hwc2
          have hbw : w.heap.size ≤ wb.heap.size := KB.out.size
          have happ : ∀ v' w1, w1.ownsRow wc.heap.size 24 1 v' (acc.length + 1) (sl acc ++ [.int .u16 (sv x)]) → (W2.alloc (.cells #[.int .u16 (sv x)] 24)).grownBy w1 (Value.slice va acc.length vc).ownBlock →
              Boxed w1 wb.heap.size 25 (.slice va acc.length vc) ∧ Boxed w1 (w.heap.size + 1) 25 (.slice none 0 0) ∧ Boxed w1 (w.heap.size + 1 + 1) 28 (.int .i64 0) ∧ Hid (
              Boxed (w1.setCell ⟨wb.heap.size, 0, none⟩ v') wb.heap.size 25 v' ∧ (w1.setCell ⟨wb.heap.size, 0, none⟩ v').ownsRow wc.heap.size 24 1 v' (acc.length + 1) (sl acc ++ [.int .u16 (sv x)]) ∧
              KeepsFrom wc.heap.size W (w1.setCell ⟨wb.heap.size, 0, none⟩ v') ∧ KpS w.heap.size (wb.heap.size + 1) W (w1.setCell ⟨wb.heap.size, 0, none⟩ v') ∧ Below w.heap.size w (w1.setCell ⟨wb.heap.size, 0, none⟩ v') ∧
              Boxed (w1.setCell ⟨wb.heap.size, 0, none⟩ v') w.heap.size 25 (.slice a m c) ∧ Boxed (w1.setCell ⟨wb.heap.size, 0, none⟩ v') (w.heap.size + 1) 25 (.slice none 0 0) ∧ Boxed (w1.setCell ⟨wb.heap.size, 0, none⟩ v') (w.heap.size + 1 + 1) 28 (.int .i64 0) ∧ wc.heap.size ≤ (w1.setCell ⟨wb.heap.size, 0, none⟩ v').heap.size) := by
            intro v' w1 hown' hgrow
            obtain ⟨hv1, hv3, _, hk2, hb2⟩ := hv2.appended (by decide) (ownWeak HROW2.out kwc.size) hsz2 hbw (ownWeak hown' kwc.size) hgrow
            have q0 := (d0.alloc (.cells #[.int .u16 (sv x)] 24)).kept hgrow (d0.not_row (by decide) HROW2.out)
            have q1 := (d1.alloc (.cells #[.int .u16 (sv x)] 24)).kept hgrow (d1.not_row (by decide) HROW2.out)
            have q2 := (d2.alloc (.cells #[.int .u16 (sv x)] 24)).kept hgrow (d2.not_row (by decide) HROW2.out)
            refine ⟨hv1, q1, q2, hv3, hown'.kept (grownBy_setCell' w1 _ v') (.inr (hv1.not_row (by decide) hown').symm), ((keepsFrom kW _).trans (keepsFrom kW2 _)).trans (hk2.from _), ((KpS.of kW hsz).trans (KpS.of kW2 kk.size)).trans (kpApp hv2 HROW2.out (by omega) (by omega) hgrow hb2), kk2.trans hb2, Boxed.other q0 (by omega) _, Boxed.other q1 (by omega) _, Boxed.other q2 (by omega) _, Nat.le_trans hwcW (Nat.le_trans kW.size (Nat.le_trans kW2.size hb2.size))⟩
          have HAPP := Lib.hid happ; clear happ
          by_cases h4 : 400 < acc.length + 1
          · have h5 : (400 : Int) < (acc.length : Int) + 1 := by omega
            gi_wp2_with (gi_at_builtin; refine wpListIn_append_own _ rfl _ _ 25 rfl wc.heap.size 24 i0 (.int .u16 0) 1 2 Tryd.underlying25 hi hz0 hz1 hz2 rfl (by decide) _ _ _ rfl (HROW2.out.alloc _) ⟨W2.heap.size, 0, none⟩ 1 1 [.int .u16 (sv x)] rfl rfl (cell_one_new _ _ _) (by simp [Value.oneCell']) HB1.out HB2.out HWC.out ?_; intro v' w1 hown' hgrow _; obtain ⟨hq, hq1, hq2, hfin⟩ := HAPP.out v' w1 hown' hgrow; obtain ⟨g', cap', rfl⟩ := ownsRow_succ hown'; have hc1 := hq.cell; have hf1 := hq.frozen; have hc1b := hq1.cell; have hf1b := hq1.frozen; have hc2b := hq2.cell; have hf2b := hq2.frozen; have HHG := Lib.hid hgrow; clear hgrow; have HHO := Lib.hid hown'; clear hown')
            obtain ⟨p1, p2, p3, p4, p5, p6, p7, p8, p9⟩ := hfin.out
            refine ⟨p3.trans (((KeepsOthers.setCell _ _ _).from _).trans ((KeepsOthers.setCell _ _ _).from _)), rfl, ?_, Boxed.other (p7.set _) (by omega) _, (Boxed.other p8 (by omega) _).set _, Below.setCell (Below.setCell p5 (by simp) _) (by simp; omega) _⟩
            rw [HS.out, List.length_append]; simpa using h4
          · have h5 : ¬ (400 : Int) < (acc.length : Int) + 1 := by omega
            gi_wp2_with (gi_at_builtin; refine wpListIn_append_own _ rfl _ _ 25 rfl wc.heap.size 24 i0 (.int .u16 0) 1 2 Tryd.underlying25 hi hz0 hz1 hz2 rfl (by decide) _ _ _ rfl (HROW2.out.alloc _) ⟨W2.heap.size, 0, none⟩ 1 1 [.int .u16 (sv x)] rfl rfl (cell_one_new _ _ _) (by simp [Value.oneCell']) HB1.out HB2.out HWC.out ?_; intro v' w1 hown' hgrow _; obtain ⟨hq, hq1, hq2, hfin⟩ := HAPP.out v' w1 hown' hgrow; obtain ⟨g', cap', rfl⟩ := ownsRow_succ hown'; have hc1 := hq.cell; have hf1 := hq.frozen; have hc1b := hq1.cell; have hf1b := hq1.frozen; have hc2b := hq2.cell; have hf2b := hq2.frozen; have HHG := Lib.hid hgrow; clear hgrow; have HHO := Lib.hid hown'; clear hown')
            obtain ⟨p1, p2, p3, p4, p5, p6, p7, p8, p9⟩ := hfin.out
            refine ⟨p3, p4, ?_⟩
            dsimp only
            rw [HS.out]
            refine ⟨by rw [List.length_append]; simp; omega, ⟨_, p1, ?_⟩, p6, p7, p8, p5, p9⟩
            rw [sl_append, List.length_append]; exact p2
      · have hst : dualP l (pre ++ [x]) = acc := by rw [HST.out, hac]; simp
        have HS := Lib.hid hst; clear hst
        gi_wp2
        refine ⟨trivial, ?_⟩
        gi_wp2
        refine ⟨keepsFrom kW _, KpS.of kW hsz, ?_⟩
        dsimp only
        rw [HS.out]
        exact ⟨H400.out, ⟨_, hv', HROW'.out⟩, d0, d1, d2, kk, Nat.le_trans hwcW kW.size⟩
    case done =>
      rintro D ys W hD rfl ⟨h400, ⟨v, hv, hrow⟩, d0, d1, d2, hB, hwcW⟩ hK
      obtain ⟨va, vc, rfl, hvr⟩ := own_rd hrow
      have e1 := d1.cell; have g1 := d1.frozen
      have e2 := d2.cell; have g2 := d2.frozen
      have eO := hv.cell
      have hD2 : w.heap.size ≤ D := Nat.le_trans kwc.size hD
      have HR : Hid (dualErr l = (dualP l (subsetsL (supS l)), 0)) := by
        show dualErr l = _
        unfold dualErr
        rw [if_neg (by simpa using hz), if_neg (by omega)]
      generalize dualP l (subsetsL (supS l)) = acc at *
      clear h400
      have HROW := Lib.hid hrow; clear hrow hvr
      gi_wp2
      have x1 := Boxed.other (d1.set (.slice va acc.length vc)) (show w.heap.size + 1 ≠ w.heap.size + 1 + 1 by omega) (.int .i64 0)
      have x2 := (Boxed.other d2 (show w.heap.size + 1 + 1 ≠ w.heap.size + 1 by omega) (.slice va acc.length vc)).set (.int .i64 0)
      have kk : Below w.heap.size w ((W.setCell ⟨w.heap.size + 1, 0, none⟩ (.slice va acc.length vc)).setCell ⟨w.heap.size + 1 + 1, 0, none⟩ (.int .i64 0)) := Below.setCell (Below.setCell hB (by simp) _) (by simp; omega) _
      have hK2 := ((KeepsOthers.setCell W ⟨w.heap.size + 1, 0, none⟩ (.slice va acc.length vc)).trans (KeepsOthers.setCell _ ⟨w.heap.size + 1 + 1, 0, none⟩ (.int .i64 0))).same D _ hK rfl
      have r1 := HROW.out.kept (grownBy_setCell' W (w.heap.size + 1) (.slice va acc.length vc)) (.inr (d1.not_row (by decide) HROW.out).symm)
      have d2' := Boxed.other d2 (show w.heap.size + 1 + 1 ≠ w.heap.size + 1 by omega) (.slice va acc.length vc)
      have r2 := r1.kept (grownBy_setCell' _ (w.heap.size + 1 + 1) (.int .i64 0)) (.inr (d2'.not_row (by decide) r1).symm)
      refine ⟨by simp, .inl ⟨_, _, rfl, run_takeDeferred hK2, ?_⟩⟩
      have hr : ∀ r, some D = some r → w.heap.size ≤ r ∧ ∃ o : Obj, ((W.setCell ⟨w.heap.size + 1, 0, none⟩ (.slice va acc.length vc)).setCell ⟨w.heap.size + 1 + 1, 0, none⟩ (.int .i64 0)).heap[r]? = some o ∧ o.isCells = false := fun r e => by cases e; exact ⟨hD2, _, hK2, rfl⟩
      refine ⟨_, dualResults (boxK x1 (grownBy_putObj' _ D _) hr) (boxK x2 (grownBy_putObj' _ D _) hr) rfl rfl rfl, ?_⟩
      rw [HR.out]
      exact ⟨_, rfl, ownsRow_putObj (ownWeak r2 kwc.size) _ hK2 rfl, belK kk (Nat.le_refl _) (grownBy_putObj' _ D _) hr⟩
    case stop =>
      rintro D cd pre W hD hpre ⟨rfl, h400, d1, d2, hB⟩ hK
      have hD2 : w.heap.size ≤ D := Nat.le_trans kwc.size hD
      have HR : Hid (dualErr l = ([], 3)) := by
        show dualErr l = _
        have := dualP_prefix l hpre
        unfold dualErr
        rw [if_neg (by simpa using hz), if_pos (by omega)]
      clear h400 hpre
      gi_wp2
      refine ⟨by simp, .inl ⟨_, _, rfl, run_takeDeferred hK, ?_⟩⟩
      have hr : ∀ r, some D = some r → w.heap.size ≤ r ∧ ∃ o : Obj, W.heap[r]? = some o ∧ o.isCells = false := fun r e => by cases e; exact ⟨hD2, _, hK, rfl⟩
      refine ⟨_, dualResults (boxK d1 (grownBy_putObj' _ D _) hr) (boxK d2 (grownBy_putObj' _ D _) hr) rfl rfl rfl, ?_⟩
      rw [HR.out]
      exact ⟨_, rfl, Own.nil _ _ (belK hB (Nat.le_refl _) (grownBy_putObj' _ D _) hr)⟩
  · have hzb : (validS l != 0) = true := by simpa using hz
    have HR : Hid (dualErr l = ([], validS l)) := by show dualErr l = _; unfold dualErr; rw [if_pos hz]
    clear hz
    gi_wp2
    have HS1 := Boxed.other (b1.set (.slice none 0 0)) (show w.heap.size + 1 ≠ w.heap.size + 1 + 1 by omega) (.int .i64 (validS l))
    have HS2 := (Boxed.other b2 (show w.heap.size + 1 + 1 ≠ w.heap.size + 1 by omega) (.slice none 0 0)).set (.int .i64 (validS l))
    refine ⟨_, dualResults HS1 HS2 rfl rfl rfl, ?_⟩
    rw [HR.out]
    exact ⟨_, rfl, Own.nil _ _ (Below.setCell (Below.setCell KB.out.below (by simp) _) (by simp; omega) _)⟩
end Go.Proofs.YteaehcaokcbehaaDoor
