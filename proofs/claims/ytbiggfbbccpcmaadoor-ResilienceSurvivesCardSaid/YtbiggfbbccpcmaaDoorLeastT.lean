/- transversal.Least. -/
import Derived.Test.YtbiggfbbccpcmaaDoorHits
namespace Go.Proofs.YtbiggfbbccpcmaaDoor
open Go.RowKit Go.Lib Go.Shelf
attribute [local go_sem] Oper.semAt_some

theorem keepsFrom {W W' : World} (h : Keeps W W') (B : Nat) : KeepsFrom B W W' :=
  ⟨h.size, fun k _ _ hk _ => (h.below.block k (Array.getElem?_eq_some_iff.1 hk).1).trans hk⟩
theorem boxedKeep {W W' : World} {B : Nat} {t : TypeId} {v : Value} (h : Boxed W B t v) (k : Keeps W W') : Boxed W' B t v := (k.below.block B h.lt).trans h
theorem boxedOwn {β : Type} (B : Nat) (t : TypeId) (v : Value) : Go.Own (fun (_ : β) W => Boxed W B t v) := by
  rintro s X Y row hv hg hrow
  refine hv.kept hg (fun e' => ?_)
  obtain ⟨o, ho, hc⟩ := hrow B e'.symm
  rw [show X.heap[B]? = _ from hv] at ho; cases ho; cases hc
theorem pureOwn {β : Type} (p : β → Prop) : Go.Own (fun (s : β) (_ : World) => p s) := fun _ _ _ _ h _ _ => h

/-- the first of the smallest transversals, and the error -/
def leastErr (l : List S) : S × Int :=
  if validS l ≠ 0 then (0#16, validS l) else match (subsetsL (supS l)).find? (hitS l) with
    | some s => (s, 0)
    | none => (0#16, 4)

theorem boxK {X Y : World} {B b : Nat} {t : TypeId} {v : Value} {row : Option Nat} (hv : Boxed X B t v) (hg : X.grownBy Y row) (hr : ∀ r, row = some r → b ≤ r ∧ ∃ o : Obj, X.heap[r]? = some o ∧ o.isCells = false) : Boxed Y B t v :=
  boxedOwn (β := Unit) B t v () X Y row hv hg (fun r e => (hr r e).2)
theorem belK {w X Y : World} {b : Nat} {row : Option Nat} (hv : Below w.heap.size w X) (hb : w.heap.size ≤ b) (hg : X.grownBy Y row) (hr : ∀ r, row = some r → b ≤ r ∧ ∃ o : Obj, X.heap[r]? = some o ∧ o.isCells = false) : Below w.heap.size w Y :=
  hv.grown hg hv.size (fun k e => Nat.le_trans hb (hr k e).1)
theorem kpS_b {n₀ B : Nat} {w : World} (hn : n₀ ≤ w.heap.size) (hB : B < w.heap.size) (W : World) (l : Nat) (o o' : Obj) (hl : w.heap.size ≤ l) (h : W.heap[l]? = some o) (hc : o.isCells = false) (_ : o.isWalk = false) : KpS n₀ B W (W.putObj l o') := by
  refine ⟨(Below.refl n₀ W).grown (grownBy_putObj' W l o') (by have := (Array.getElem?_eq_some_iff.1 h).1; omega) (fun k e => by cases e; omega), fun k cs hk => ?_, fun o2 h2 => ?_⟩
  · refine World.putObj_heap_other (fun e => ?_)
    subst e
    rw [h] at hk; cases hk; cases hc
  · exact (World.putObj_heap_other (by omega)).trans h2
theorem leastResults {W : World} {tmps : Array Value} {B1 B2 : Nat} {x e : Int} (h1 : Boxed W B1 31 (.int .u16 x)) (h2 : Boxed W B2 26 (.int .i64 e))
    (t1 : tmps.getD 2 undef = .pointer (some ⟨B1, 0, none⟩)) (t2 : tmps.getD 3 undef = .pointer (some ⟨B2, 0, none⟩)) :
    (results Tryd.f37 tmps).run Tryd.prog W = .ok (.tuple #[.int .u16 x, .int .i64 e]) W := by
  have c1 := h1.cell
  have c2 := h2.cell
  simp only [Array.getD_eq_getD_getElem?] at t1 t2
  simp [results, Tryd.f37, go_sem, t1, t2, c1, c2]

set_option maxRecDepth 100000 in
set_option maxHeartbeats 2000000 in
theorem leastT_any (a : Option Addr) (m c : Nat) (l : List S) (w : World) (hT : Tab w) (h : Rd w a m c 1 (sl l)) (hsm : validS l = 0 → small (supS l)) :
    Calls Tryd.prog 37 #[.slice a m c] w fun e w' => e = .returned (.tuple #[.int .u16 (sv (leastErr l).1), .int .i64 (leastErr l).2]) ∧ Keeps w w' := by
  have hv := fun W (k : Keeps w W) => valid_any a m c l W (h.keep k)
  have hu := fun W (k : Keeps w W) => support_any a m c l W (h.keep k)
  have hh := fun W (k : Keeps w W) s => hits_any a m c l s W (h.keep k)
  have hdd : ∀ j : Nat, (Fence.wide.depth.isSome = true → 1 ≤ j) := fun j h => by cases h
  have HV := Lib.hid hv; have HU := Lib.hid hu; have HH := Lib.hid hh; clear hv hu hh
  refine (callsIn_wide (n := 8)).1 ?_
  refine callsIn_of_wp_marks Tryd.func37 rfl trivial ?_ rfl
  simp only [Tryd.ntmps37, List.size_toArray, List.length_cons, List.length_nil, Nat.reduceAdd, Nat.reduceSub, Array.replicate_succ, Array.replicate_zero, List.push_toArray, List.append_toArray, List.nil_append, List.cons_append]
  gi_wp2
  have k0 : Keeps w (((w.alloc (.cells #[.slice a m c] 23)).alloc (.cells #[.int .u16 0] 31)).alloc (.cells #[.int .i64 0] 26)) := (((Keeps.refl w).alloc _).alloc _).alloc _
  have b0 : Boxed (((w.alloc (.cells #[.slice a m c] 23)).alloc (.cells #[.int .u16 0] 31)).alloc (.cells #[.int .i64 0] 26)) w.heap.size 23 (.slice a m c) := ((Boxed.new w _ _).alloc _).alloc _
  have b1 : Boxed (((w.alloc (.cells #[.slice a m c] 23)).alloc (.cells #[.int .u16 0] 31)).alloc (.cells #[.int .i64 0] 26)) (w.heap.size + 1) 31 (.int .u16 0) := by
    have := Boxed.new (w.alloc (.cells #[.slice a m c] 23)) 31 (.int .u16 0)
    rw [World.size_alloc] at this
    exact this.alloc _
  have b2 : Boxed (((w.alloc (.cells #[.slice a m c] 23)).alloc (.cells #[.int .u16 0] 31)).alloc (.cells #[.int .i64 0] 26)) (w.heap.size + 1 + 1) 26 (.int .i64 0) := by
    have := Boxed.new ((w.alloc (.cells #[.slice a m c] 23)).alloc (.cells #[.int .u16 0] 31)) 26 (.int .i64 0)
    rw [World.size_alloc, World.size_alloc] at this
    exact this
  refine ⟨trivial, ?_⟩
  refine (callsIn_wide.2 (HV.out _ k0)).mono ?_
  rintro e wb ⟨rfl, k1⟩
  have kb := k0.trans k1
  replace b0 := boxedKeep b0 k1
  replace b1 := boxedKeep b1 k1
  replace b2 := boxedKeep b2 k1
  have c0 := b0.cell
  have c1 := b1.cell; have f1 := b1.frozen
  have c2 := b2.cell; have f2 := b2.frozen
  have KB := Lib.hid kb
  clear k0 k1
  by_cases hz : validS l = 0
  · have hzb : (validS l != 0) = false := by simpa using hz
    have hsup := hsm hz
    gi_wp2
    refine ⟨trivial, ?_⟩
    refine (callsIn_wide.2 (HU.out _ KB.out)).mono ?_
    rintro e wb' ⟨rfl, rfl⟩
    gi_wp2
    refine ⟨trivial, ?_⟩
    refine (callsIn_wide.2 (subsets_any _ _)).mono ?_
    rintro e wc ⟨rfl, hwc⟩
    have kc : Keeps wb wc := hwc ▸ (Keeps.refl wb).alloc _
    have bS : Boxed wc wb.heap.size 31 (.int .u16 (sv (supS l))) := hwc ▸ Boxed.new wb _ _
    have hszc : wc.heap.size = wb.heap.size + 1 := by rw [hwc]; simp
    clear hwc
    replace b0 := boxedKeep b0 kc
    replace b1 := boxedKeep b1 kc
    replace b2 := boxedKeep b2 kc
    have kwc := KB.out.trans kc
    have hlt := b2.lt
    gi_wp2
    refine wpIn_rangeFunc_ownG rfl (by omega) (gf := 68) (lb := #[.pointer (some ⟨wb.heap.size, 0, none⟩)]) rfl trivial (enters_of Tryd.func68 (by kernel_rfl) rfl)
      (subsets_stops 7 w.heap.size wb.heap.size (supS l) hsup wc (hT.keep kwc) hT.lt kwc.size bS) KpS.trans ?hkb (Below.refl _ _) (fun _ => rfl)
      (fun pre W => (∀ y ∈ pre, hitS l y = false) ∧ Boxed W w.heap.size 23 (.slice a m c) ∧ Boxed W (w.heap.size + 1) 31 (.int .u16 0) ∧ Boxed W (w.heap.size + 1 + 1) 26 (.int .i64 0) ∧ Below w.heap.size w W)
      (fun cd pre W => cd = .ret ∧ (∃ p x, pre = p ++ [x] ∧ (∀ y ∈ p, hitS l y = false) ∧ hitS l x = true ∧ Boxed W (w.heap.size + 1) 31 (.int .u16 (sv x))) ∧ Boxed W (w.heap.size + 1 + 1) 26 (.int .i64 0) ∧ Below w.heap.size w W)
      ?hI ?hIx ?h0 ?a1 ?assign ?body ?done ?stop
    case hkb => exact fun W l' o o' h1 h2 h3 h4 => kpS_b kwc.size (by omega) W l' o o' h1 h2 h3 h4
    case hI => exact fun s A B row hs hg hr => ⟨hs.1, boxK hs.2.1 hg hr, boxK hs.2.2.1 hg hr, boxK hs.2.2.2.1 hg hr, belK hs.2.2.2.2 kwc.size hg hr⟩
    case hIx =>
      rintro cd s A B row ⟨h1, ⟨p, x, h2, h3, h4, h5⟩, h6, h7⟩ hg hr
      exact ⟨h1, ⟨p, x, h2, h3, h4, boxK h5 hg hr⟩, boxK h6 hg hr, belK h7 kwc.size hg hr⟩
    case h0 => exact ⟨by simp, b0, b1, b2, kwc⟩
    case a1 => exact fun x => { tmps := #[.slice a m c, .pointer (some ⟨w.heap.size, 0, none⟩), .pointer (some ⟨w.heap.size + 1, 0, none⟩), .pointer (some ⟨w.heap.size + 1 + 1, 0, none⟩), .int .i64 0, .int .u16 (sv x), .slice a m c, .int .i64 0, .int .i64 0, .bool false, undef, .slice a m c, .int .u16 (sv (supS l)), .func (.func 68) #[] #[.pointer (some ⟨wb.heap.size, 0, none⟩)], .int .u16 (sv x), undef, undef, undef, undef], defers := [] }
    case assign =>
      intro l' x W K hK
      unfold vs
      gi_wp2
      exact hK
    case body =>
      rintro l' pre x W ⟨hp, d0, d1, d2, hB⟩ _
      have e0 := d0.cell
      have e1 := d1.cell; have g1 := d1.frozen
      have e2 := d2.cell; have g2 := d2.frozen
      have HP := Lib.hid hp; clear hp
      gi_wp2
      refine ⟨trivial, ?_⟩
      refine (CallsIn.inRound l' (callsIn_wide.2 (HH.out W hB x))).mono ?_
      rintro e W' ⟨rfl, kW⟩
      replace d0 := boxedKeep d0 kW
      replace d1 := boxedKeep d1 kW
      replace d2 := boxedKeep d2 kW
      have e1' := d1.cell; have g1' := d1.frozen
      have e2' := d2.cell; have g2' := d2.frozen
      have kk : Below w.heap.size w W' := Keeps.trans hB kW
      have hsz := hB.size
      cases hit : hitS l x
      · gi_wp2
        refine ⟨keepsFrom kW _, KpS.of kW hsz, ?_, d0, d1, d2, kk⟩
        intro y hy
        rcases List.mem_append.1 hy with h1 | h1
        · exact HP.out y h1
        · rw [List.mem_singleton.1 h1]; exact hit
      · gi_wp2
        refine ⟨(keepsFrom kW _).trans ((KeepsFrom.trans ((KeepsOthers.setCell _ _ _).from _) ((KeepsOthers.setCell _ _ _).from _))), rfl, ⟨pre, x, rfl, HP.out, hit, Boxed.other (d1.set _) (by omega) _⟩, (Boxed.other d2 (by omega) _).set _, Below.setCell (Below.setCell kk (by simp) _) (by simp; omega) _⟩
    case done =>
      rintro D ys W hD rfl ⟨hp, d0, d1, d2, hB⟩ hK
      have e1 := d1.cell; have g1 := d1.frozen
      have e2 := d2.cell; have g2 := d2.frozen
      have HP := Lib.hid hp; clear hp
      have hD2 : w.heap.size ≤ D := Nat.le_trans kwc.size hD
      gi_wp2
      have x1 := Boxed.other (d1.set (.int .u16 0)) (show w.heap.size + 1 ≠ w.heap.size + 1 + 1 by omega) (.int .i64 4)
      have x2 := (Boxed.other d2 (show w.heap.size + 1 + 1 ≠ w.heap.size + 1 by omega) (.int .u16 0)).set (.int .i64 4)
      have kk : Below w.heap.size w ((W.setCell ⟨w.heap.size + 1, 0, none⟩ (.int .u16 0)).setCell ⟨w.heap.size + 1 + 1, 0, none⟩ (.int .i64 4)) := Below.setCell (Below.setCell hB (by simp) _) (by simp; omega) _
      have hK2 := ((KeepsOthers.setCell W ⟨w.heap.size + 1, 0, none⟩ (.int .u16 0)).trans (KeepsOthers.setCell _ ⟨w.heap.size + 1 + 1, 0, none⟩ (.int .i64 4))).same D _ hK rfl
      refine ⟨by simp, .inl ⟨_, _, rfl, run_takeDeferred hK2, ?_⟩⟩
      have hr : ∀ r, some D = some r → w.heap.size ≤ r ∧ ∃ o : Obj, ((W.setCell ⟨w.heap.size + 1, 0, none⟩ (.int .u16 0)).setCell ⟨w.heap.size + 1 + 1, 0, none⟩ (.int .i64 4)).heap[r]? = some o ∧ o.isCells = false := fun r e => by cases e; exact ⟨hD2, _, hK2, rfl⟩
      refine ⟨_, leastResults (boxK x1 (grownBy_putObj' _ D _) hr) (boxK x2 (grownBy_putObj' _ D _) hr) rfl rfl, ?_⟩
      have HR : leastErr l = (0#16, 4) := by
        unfold leastErr
        rw [if_neg (by simpa using hz), List.find?_eq_none.2 (fun y hy => by rw [HP.out y hy]; simp)]
      rw [HR]
      exact ⟨rfl, belK kk (Nat.le_refl _) (grownBy_putObj' _ D _) hr⟩
    case stop =>
      rintro D cd pre W hD hpre ⟨rfl, ⟨p, x, rfl, hp, hx, d1⟩, d2, hB⟩ hK
      have HP := Lib.hid hp; have HX := Lib.hid hx; have HPre := Lib.hid hpre
      clear hp hx hpre
      have hD2 : w.heap.size ≤ D := Nat.le_trans kwc.size hD
      gi_wp2
      refine ⟨by simp, .inl ⟨_, _, rfl, run_takeDeferred hK, ?_⟩⟩
      have hr : ∀ r, some D = some r → w.heap.size ≤ r ∧ ∃ o : Obj, W.heap[r]? = some o ∧ o.isCells = false := fun r e => by cases e; exact ⟨hD2, _, hK, rfl⟩
      refine ⟨_, leastResults (boxK d1 (grownBy_putObj' _ D _) hr) (boxK d2 (grownBy_putObj' _ D _) hr) rfl rfl, ?_⟩
      have HR : leastErr l = (x, 0) := by
        unfold leastErr
        obtain ⟨r, hr2⟩ := HPre.out
        rw [if_neg (by simpa using hz), ← hr2]
        have hp2 : p.find? (hitS l) = none := List.find?_eq_none.2 (fun y hy => by rw [HP.out y hy]; simp)
        simp [List.find?_append, hp2, HX.out]
      rw [HR]
      exact ⟨rfl, belK hB (Nat.le_refl _) (grownBy_putObj' _ D _) hr⟩
  · have hzb : (validS l != 0) = true := by simpa using hz
    have HR : Hid (leastErr l = (0#16, validS l)) := by show leastErr l = _; unfold leastErr; rw [if_pos hz]
    clear hz
    gi_wp2
    have HS1 := Boxed.other (b1.set (.int .u16 0)) (show w.heap.size + 1 ≠ w.heap.size + 1 + 1 by omega) (.int .i64 (validS l))
    have HS2 := (Boxed.other b2 (show w.heap.size + 1 + 1 ≠ w.heap.size + 1 by omega) (.int .u16 0)).set (.int .i64 (validS l))
    refine ⟨_, leastResults HS1 HS2 rfl rfl, ?_⟩
    rw [HR.out]
    exact ⟨rfl, Below.setCell (Below.setCell KB.out.below (by simp) _) (by simp; omega) _⟩
end Go.Proofs.YtbiggfbbccpcmaaDoor
