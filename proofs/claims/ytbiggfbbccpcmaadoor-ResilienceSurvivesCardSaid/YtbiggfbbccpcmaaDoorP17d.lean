/- set.Choose as an iterator; resilience.Worst. -/
import Derived.Maps.AppendAt
import Derived.Outline
import Derived.Test.YtbiggfbbccpcmaaDoorP17c
namespace Go.Proofs.YtbiggfbbccpcmaaDoor
open Go.RowKit Go.Lib Go.Shelf
attribute [local go_sem] Oper.semAt_some

set_option maxRecDepth 100000 in
set_option maxHeartbeats 2000000 in
theorem choose1_in (n l n₀ B B2 : Nat) (s : S) (k : Nat) (hs : small s) (hkm : k ≤ (members s).length) (J Jx : List S → World → Prop)
    (hJ : ∀ p A B, J p A → Keeps A B → J p B)
    (hY : ∀ m p x W, J p W → p.length < (chooseL s k).length → YieldAt Fence.wide m Tryd.prog l #[vs x] W fun e W' =>
      (e = .returned (.bool true) ∧ J (p ++ [x]) W' ∧ KpS n₀ B W W') ∨ (e = .returned (.bool false) ∧ Jx (p ++ [x]) W'))
    (W : World) (hT : Tab W) (hn : n₀ ≤ W.heap.size) (hB : Boxed W B 31 (.int .u16 (sv s))) (hB2 : Boxed W B2 3 (.int .i64 k)) (h0 : J [] W) :
    CallsIn Fence.wide n Tryd.prog 61 #[.func (.yield l) #[] #[], .pointer (some ⟨B, 0, none⟩), .pointer (some ⟨B2, 0, none⟩)] W fun e W' => (∃ v, e = .returned v) ∧
      ((∃ ys, ys = chooseL s k ∧ J ys W') ∨ (∃ pre, pre <+: chooseL s k ∧ Jx pre W')) := by
  have hdd : ∀ j : Nat, (Fence.wide.depth.isSome = true → 1 ≤ j) := fun j h => by cases h
  have hcon := choose_in (n - 1) l n₀ B (chooseL s k).length s k hs hkm J Jx hJ hY [] W hT hn h0 (by simp)
  have c1 := hB.cell; have c2 := hB2.cell
  have HC := Lib.hid hcon
  clear hcon hJ hY h0 hB hB2 hT
  refine callsIn_of_wp Tryd.func61 rfl trivial ?_ rfl
  simp only [Tryd.ntmps61, List.size_toArray, List.length_cons, List.length_nil, Nat.reduceAdd, Nat.reduceSub, Array.replicate_succ, Array.replicate_zero, List.push_toArray, List.append_toArray, List.nil_append, List.cons_append]
  gi_wp2
  refine ⟨trivial, hdd _, ?_⟩
  refine HC.out.mono ?_
  rintro e w2 (⟨rfl, hJ2, -⟩ | ⟨rfl, q, hq, hx⟩)
  · rw [List.nil_append] at hJ2
    have HJ := Lib.hid hJ2
    clear hJ2
    gi_wp2
    go_end0
    exact ⟨⟨_, rfl⟩, .inl ⟨_, rfl, HJ.out⟩⟩
  · rw [List.nil_append] at hx
    have HX := Lib.hid hx; have HQ := Lib.hid hq
    clear hx hq
    gi_wp2
    go_end0
    exact ⟨⟨_, rfl⟩, .inr ⟨_, HQ.out, HX.out⟩⟩
/-- what set.Choose hands back is an iterator over the subsets with k members -/
theorem choose_stops (n n₀ B B2 : Nat) (s : S) (k : Nat) (hs : small s) (hkm : k ≤ (members s).length) (w : World) (hT : Tab w) (hn : n₀ ≤ w.heap.size) (hB : Boxed w B 31 (.int .u16 (sv s))) (hB2 : Boxed w B2 3 (.int .i64 k)) :
    SeqStopsK Fence.wide n Tryd.prog 61 #[.pointer (some ⟨B, 0, none⟩), .pointer (some ⟨B2, 0, none⟩)] (fun x : S => #[vs x]) (KpS n₀ B) (fun ys => ys = chooseL s k) (fun pre => pre <+: chooseL s k) (chooseL s k).length w := fun l J Jx W hW hJ _ hY h0 =>
  choose1_in n l n₀ B B2 s k hs hkm J Jx
    (fun p A B' hp k => hJ p A B' none hp ⟨k.below.os, k.below.tape, k.below.output, k.below.size, fun i hi _ => k.below.block i hi⟩ (fun r e => by cases e))
    (fun m p x W1 hj hl => YieldAt.anyDepth rfl m (hY p x W1 hj hl)) W (hT.keep hW) (Nat.le_trans hn hW.size)
    ((hW.block B hB.lt).trans hB) ((hW.block B2 hB2.lt).trans hB2) h0
theorem choose_any (s : S) (k : Nat) (w : World) : Calls Tryd.prog 40 #[.int .u16 (sv s), .int .i64 k] w fun e w' => e = .returned (.func (.func 61) #[] #[.pointer (some ⟨w.heap.size, 0, none⟩), .pointer (some ⟨w.heap.size + 1, 0, none⟩)]) ∧ w' = (w.alloc (.cells #[.int .u16 (sv s)] 31)).alloc (.cells #[.int .i64 k] 3) := by
  go_enter Tryd.func40, Tryd.ntmps40
  go_wp2
  go_ret
  exact ⟨rfl, rfl⟩

/-- the least sets of failures that are not survived, and the error -/
def worstL (l : List S) (k : Nat) : List S := (chooseL (supS l) k).filter (hitS l)
def worstErr (l : List S) : List S × Int := if (leastErr l).2 ≠ 0 then ([], (leastErr l).2) else if 400 < (worstL l (cnt (leastErr l).1)).length then ([], 3) else (worstL l (cnt (leastErr l).1), 0)
theorem chooseL_len {s : S} {k : Nat} (hk : k ≤ (members s).length) : (chooseL s k).length ≤ 4096 := by
  rw [chooseL_eq s k hk, List.length_map]
  refine Nat.le_trans (List.length_filter_le _ _) ?_
  rw [List.length_range]
  exact Nat.pow_le_pow_right (n := 2) (j := 12) (by decide) (members_len s)
theorem leastErr_sub {l : List S} (h : (leastErr l).2 = 0) : validS l = 0 ∧ sub (leastErr l).1 (supS l) = true ∧ hitS l (leastErr l).1 = true := by
  unfold leastErr at h ⊢
  by_cases hz : validS l = 0
  · rw [if_neg (by simpa using hz)] at h ⊢
    cases hf : (subsetsL (supS l)).find? (hitS l) with
    | none => rw [hf] at h; exact absurd h (by decide)
    | some s =>
      have h1 := List.mem_of_find?_eq_some hf
      have h2 := List.find?_some hf
      exact ⟨hz, (mem_subsets (valid_small hz) s).1 h1, h2⟩
  · rw [if_pos hz] at h; exact absurd h hz

theorem worstResults {W : World} {tmps : Array Value} {v e : Value} (t1 : tmps.getD 2 undef = v) (t2 : tmps.getD 3 undef = e) :
    (results Tryd.f15 tmps).run Tryd.prog W = .ok (.tuple #[v, e]) W := by
  simp only [Array.getD_eq_getD_getElem?] at t1 t2
  simp [results, Tryd.f15, t1, t2]

set_option maxRecDepth 100000 in
set_option maxHeartbeats 2000000 in
theorem worst_any (a : Option Addr) (m c : Nat) (l : List S) (w : World) (hT : Tab w) (h : Rd w a m c 1 (sl l)) :
    Calls Tryd.prog 15 #[.slice a m c] w fun e w' => ∃ v, e = .returned (.tuple #[v, .int .i64 (worstErr l).2]) ∧ Own 31 1 w w' v (worstErr l).1.length (sl (worstErr l).1) := by
  have hl := fun W (k : Keeps w W) => leastT_any a m c l W (hT.keep k) (h.keep k) (fun hv => valid_small hv)
  have hu := fun W (k : Keeps w W) => support_any a m c l W (h.keep k)
  have hh := fun W (k : Keeps w W) s => hits_any a m c l s W (h.keep k)
  have hsb := fun he => leastErr_sub (l := l) he
  have hdd : ∀ j : Nat, (Fence.wide.depth.isSome = true → 1 ≤ j) := fun j h => by cases h
  obtain ⟨i0, hi, hz0, hz1, hz2⟩ := info_parts infoS
  have hw : worstErr l = if (leastErr l).2 ≠ 0 then ([], (leastErr l).2) else if 400 < (worstL l (cnt (leastErr l).1)).length then ([], 3) else (worstL l (cnt (leastErr l).1), 0) := rfl
  generalize leastErr l = r at *
  obtain ⟨ls, er⟩ := r
  simp only at *
  have HW := Lib.hid hw; clear hw
  have hcn := fun W => count_any ls W
  have HL := Lib.hid hl; have HU := Lib.hid hu; have HH := Lib.hid hh; have HSB := Lib.hid hsb; have HCN := Lib.hid hcn
  have HI1 := Lib.hid hi; have HI2 := Lib.hid hz0; have HI3 := Lib.hid hz1; have HI4 := Lib.hid hz2
  clear hl hu hh hsb hcn hi hz0 hz1 hz2
  refine (callsIn_wide (n := 8)).1 ?_
  refine callsIn_of_wp_marks Tryd.func15 rfl trivial ?_ rfl
  simp only [Tryd.ntmps15, List.size_toArray, List.length_cons, List.length_nil, Nat.reduceAdd, Nat.reduceSub, Array.replicate_succ, Array.replicate_zero, List.push_toArray, List.append_toArray, List.nil_append, List.cons_append]
  gi_wp2
  have k0 : Keeps w (w.alloc (.cells #[.slice a m c] 23)) := (Keeps.refl w).alloc _
  have b0 : Boxed (w.alloc (.cells #[.slice a m c] 23)) w.heap.size 23 (.slice a m c) := Boxed.new w _ _
  refine ⟨trivial, ?_⟩
  refine (callsIn_wide.2 (HL.out _ k0)).mono ?_
  rintro e wb ⟨rfl, k1⟩
  have kb := k0.trans k1
  replace b0 := boxedKeep b0 k1
  have c0 := b0.cell
  have KB := Lib.hid kb
  clear k0 k1
  by_cases hz : er = 0
  · subst hz
    obtain ⟨hv, hsub, -⟩ := HSB.out rfl
    have hsm := valid_small hv
    have hkm : cnt ls ≤ (members (supS l)).length := by rw [members_cnt hsm]; exact cnt_sub hsub
    have hlen := chooseL_len hkm
    clear hv hsub
    have c0a := (b0.alloc (.cells #[.slice none 0 0] 23)).cell
    gi_wp2
    refine ⟨trivial, ?_⟩
    refine (callsIn_wide.2 (HU.out _ (KB.out.alloc _))).mono ?_
    rintro e wb' ⟨rfl, rfl⟩
    gi_wp2
    refine ⟨trivial, ?_⟩
    refine (callsIn_wide.2 (HCN.out _)).mono ?_
    rintro e wb' ⟨rfl, nd, hwd⟩
    have kd : Keeps (wb.alloc (.cells #[.slice none 0 0] 23)) wb' := hwd ▸ (Keeps.refl _).drewN nd
    have hszd : wb'.heap.size = wb.heap.size + 1 := by rw [hwd]; show (wb.alloc _).heap.size = _; rw [World.size_alloc]
    clear hwd
    gi_wp2
    refine ⟨trivial, ?_⟩
    refine (callsIn_wide.2 (choose_any _ _ _)).mono ?_
    rintro e wc ⟨rfl, hwc⟩
    have kc : Keeps wb' wc := hwc ▸ ((Keeps.refl wb').alloc _).alloc _
    have bS : Boxed wc wb'.heap.size 31 (.int .u16 (sv (supS l))) := hwc ▸ (Boxed.new wb' _ _).alloc _
    have bK : Boxed wc (wb'.heap.size + 1) 3 (.int .i64 (cnt ls)) := by
      have := Boxed.new (wb'.alloc (.cells #[.int .u16 (sv (supS l))] 31)) 3 (.int .i64 (cnt ls))
      rw [World.size_alloc] at this
      exact hwc ▸ this
    have bO : Boxed wc wb.heap.size 23 (.slice none 0 0) := boxedKeep (boxedKeep (Boxed.new wb _ _) kd) kc
    have hszc : wc.heap.size = wb.heap.size + 1 + 1 + 1 := by rw [hwc]; simp; omega
    rw [hszd] at bS bK
    clear hwc
    have kbc : Keeps wb wc := (((Keeps.refl wb).alloc _).trans kd).trans kc
    have hlt0 := b0.lt
    replace b0 := boxedKeep b0 kbc
    have kwc := KB.out.trans kbc
    have hlt := b0.lt
    gi_wp2
    refine wpIn_rangeFunc_ownG rfl (by omega) (gf := 61) (lb := #[.pointer (some ⟨wb.heap.size + 1, 0, none⟩), .pointer (some ⟨wb.heap.size + 1 + 1, 0, none⟩)]) rfl trivial (enters_of Tryd.func61 (by kernel_rfl) rfl)
      (choose_stops 7 w.heap.size (wb.heap.size + 1) (wb.heap.size + 1 + 1) (supS l) (cnt ls) hsm hkm wc (hT.keep kwc) kwc.size bS bK) KpS.trans ?hkb (Below.refl _ _) (fun _ => rfl)
      (fun pre W => (∃ v, Boxed W wb.heap.size 23 v ∧ W.ownsRow wc.heap.size 31 1 v (pre.filter (hitS l)).length (sl (pre.filter (hitS l)))) ∧ Boxed W w.heap.size 23 (.slice a m c) ∧ Below w.heap.size w W ∧ wc.heap.size ≤ W.heap.size)
      (fun cd pre W => False)
      ?hI ?hIx ?h0 ?a1 ?assign ?body ?done ?stop
    case a1 => exact fun x => { tmps := #[.slice a m c, .pointer (some ⟨w.heap.size, 0, none⟩), .slice none 0 0, .int .i64 0, .int .u16 (sv ls), .int .i64 0, .pointer (some ⟨wb.heap.size, 0, none⟩), .int .u16 (sv x), .tuple #[.int .u16 (sv ls), .int .i64 0], .slice a m c, .tuple #[.int .u16 (sv ls), .int .i64 0], .int .u16 (sv ls), .int .i64 0, .int .i64 0, .bool false, undef, .slice a m c, .int .u16 (sv (supS l)), .int .u16 (sv ls), .int .i64 (cnt ls), .func (.func 61) #[] #[.pointer (some ⟨wb.heap.size + 1, 0, none⟩), .pointer (some ⟨wb.heap.size + 1 + 1, 0, none⟩)], .int .u16 (sv x), undef, undef, undef, undef, undef, undef, undef, undef, undef, undef, undef], defers := [] }
    case assign =>
      intro l' x W K hK
      unfold vs
      gi_wp2
      exact hK
    case hkb => exact fun W l' o o' h1 h2 h3 h4 => kpS_b kwc.size (by omega) W l' o o' h1 h2 h3 h4
    case hI =>
      rintro s A B row ⟨⟨v, hv, hrow⟩, h1, h4, h5⟩ hg hr
      refine ⟨⟨v, boxK hv hg hr, hrow.kept hg ?_⟩, boxK h1 hg hr, belK h4 kwc.size hg hr, Nat.le_trans h5 hg.size⟩
      rcases hrow.2 with ⟨rfl, _⟩ | ⟨g, cap, cur, rfl, _, hgb, _⟩
      · exact .inl rfl
      · refine .inr fun e' => ?_
        obtain ⟨_, o, ho, hc⟩ := hr g (by simpa [Value.ownBlock] using e'.symm)
        rw [hgb] at ho; cases ho; cases hc
    case hIx =>
      rintro cd s A B row hf
      exact hf.elim
    case h0 => exact ⟨⟨_, bO, World.ownsRow_nil _ _ _ _⟩, b0, kwc, Nat.le_refl _⟩
    case body =>
      rintro l' pre x W ⟨⟨v, hv, hrow⟩, d0, hB, hwcW⟩ hpl
      obtain ⟨va, vc, rfl, hvr⟩ := own_rd hrow
      have hst : (pre ++ [x]).filter (hitS l) = pre.filter (hitS l) ++ (if hitS l x then [x] else []) := by rw [List.filter_append]; simp [List.filter_cons]
      have hfl : (pre.filter (hitS l)).length ≤ pre.length := List.length_filter_le _ _
      have hpl2 : pre.length < (chooseL (supS l) (cnt ls)).length := hpl
      have hac : (pre.filter (hitS l)).length ≤ 4096 := by omega
      generalize pre.filter (hitS l) = acc at *
      have HST := Lib.hid hst; have HROW := Lib.hid hrow; have HAC := Lib.hid hac
      clear hst hvr hrow hfl hpl2 hpl hac
      have e0 := d0.cell
      gi_wp2
      refine ⟨trivial, ?_⟩
      refine (CallsIn.inRound l' (callsIn_wide.2 (HH.out W hB x))).mono ?_
      rintro e W2 ⟨rfl, kW2⟩
      have hv2 := boxedKeep hv kW2
      replace d0 := boxedKeep d0 kW2
      have kk2 : Below w.heap.size w W2 := Keeps.trans hB kW2
      have hsz := hB.size
      have hsz2 := kk2.size
      have HROW2 := Lib.hid (kW2.own HROW.out)
      have hc2 := hv2.cell; have hf2 := hv2.frozen
      cases hit : hitS l x
      · have hst : (pre ++ [x]).filter (hitS l) = acc := by rw [HST.out, hit]; simp
        have HS := Lib.hid hst; clear hst
        gi_wp2
        refine ⟨keepsFrom kW2 _, KpS.of kW2 hsz, ?_⟩
        dsimp only
        rw [HS.out]
        exact ⟨⟨_, hv2, HROW2.out⟩, d0, kk2, Nat.le_trans hwcW kW2.size⟩
      · have hst : (pre ++ [x]).filter (hitS l) = acc ++ [x] := by rw [HST.out, hit]; simp
        have HS := Lib.hid hst; clear hst
        have hi := HI1.out; have hz0 := HI2.out; have hz1 := HI3.out; have hz2 := HI4.out
        have hb1 : acc.length + 1 ≤ maxLen := by have := HAC.out; unfold maxLen; omega
        have hb2 : (acc.length + 1) * 2 ≤ 140737488355328 := by have := HAC.out; omega
        have hwc2 : wc.heap.size ≤ (W2.alloc (.cells #[.int .u16 (sv x)] 31)).heap.size := by have h2 := kW2.size; simp; omega
        have HB1 := Lib.hid hb1; have HB2 := Lib.hid hb2; have HWC := Lib.hid hwc2; clear hb1 hb2 hwc2
        have hbw : w.heap.size ≤ wb.heap.size := KB.out.size
        have happ : ∀ v' w1, w1.ownsRow wc.heap.size 31 1 v' (acc.length + 1) (sl acc ++ [.int .u16 (sv x)]) → (W2.alloc (.cells #[.int .u16 (sv x)] 31)).grownBy w1 (Value.slice va acc.length vc).ownBlock →
            Boxed w1 wb.heap.size 23 (.slice va acc.length vc) ∧ Hid (
            Boxed (w1.setCell ⟨wb.heap.size, 0, none⟩ v') wb.heap.size 23 v' ∧ (w1.setCell ⟨wb.heap.size, 0, none⟩ v').ownsRow wc.heap.size 31 1 v' (acc.length + 1) (sl acc ++ [.int .u16 (sv x)]) ∧
            KeepsFrom wc.heap.size W (w1.setCell ⟨wb.heap.size, 0, none⟩ v') ∧ KpS w.heap.size (wb.heap.size + 1) W (w1.setCell ⟨wb.heap.size, 0, none⟩ v') ∧ Below w.heap.size w (w1.setCell ⟨wb.heap.size, 0, none⟩ v') ∧
            Boxed (w1.setCell ⟨wb.heap.size, 0, none⟩ v') w.heap.size 23 (.slice a m c) ∧ wc.heap.size ≤ (w1.setCell ⟨wb.heap.size, 0, none⟩ v').heap.size) := by
          intro v' w1 hown' hgrow
          obtain ⟨hv1, hv3, _, hk2, hb2⟩ := hv2.appended (by decide) (ownWeak HROW2.out kwc.size) hsz2 hbw (ownWeak hown' kwc.size) hgrow
          have q0 := (d0.alloc (.cells #[.int .u16 (sv x)] 31)).kept hgrow (d0.not_row (by decide) HROW2.out)
          refine ⟨hv1, hv3, hown'.kept (grownBy_setCell' w1 _ v') (.inr (hv1.not_row (by decide) hown').symm), (keepsFrom kW2 _).trans (hk2.from _), (KpS.of kW2 hsz).trans (kpApp hv2 HROW2.out (by omega) (by omega) hgrow hb2), kk2.trans hb2, Boxed.other q0 (by omega) _, Nat.le_trans hwcW (Nat.le_trans kW2.size hb2.size)⟩
        have HAPP := Lib.hid happ; clear happ
        gi_wp2_with (gi_at_builtin; refine wpListIn_append_own _ rfl _ _ 23 rfl wc.heap.size 31 i0 (.int .u16 0) 1 2 Tryd.underlying23 hi hz0 hz1 hz2 rfl (by decide) _ _ _ rfl (HROW2.out.alloc _) ⟨W2.heap.size, 0, none⟩ 1 1 [.int .u16 (sv x)] rfl rfl (cell_one_new _ _ _) (by simp [Value.oneCell']) HB1.out HB2.out HWC.out ?_; intro v' w1 hown' hgrow _; obtain ⟨hq, hfin⟩ := HAPP.out v' w1 hown' hgrow; obtain ⟨g', cap', rfl⟩ := ownsRow_succ hown'; have hc1 := hq.cell; have hf1 := hq.frozen; have HHG := Lib.hid hgrow; clear hgrow; have HHO := Lib.hid hown'; clear hown')
        obtain ⟨p1, p2, p3, p4, p5, p6, p9⟩ := hfin.out
        refine ⟨p3, p4, ?_⟩
        dsimp only
        rw [HS.out]
        refine ⟨⟨_, p1, ?_⟩, p6, p5, p9⟩
        rw [sl_append, List.length_append]; exact p2
    case done =>
      rintro D ys W hD rfl ⟨⟨v, hv, hrow⟩, d0, hB, hwcW⟩ hK
      obtain ⟨va, vc, rfl, hvr⟩ := own_rd hrow
      have eO := hv.cell
      have hwl : worstL l (cnt ls) = (chooseL (supS l) (cnt ls)).filter (hitS l) := rfl
      rw [← hwl] at hrow hvr eO
      have HWL := Lib.hid hwl
      generalize worstL l (cnt ls) = acc at *
      have HROW := Lib.hid hrow; clear hrow hvr hwl
      have hr : ∀ r, some D = some r → w.heap.size ≤ r ∧ ∃ o : Obj, W.heap[r]? = some o ∧ o.isCells = false := fun r e => by cases e; exact ⟨Nat.le_trans kwc.size hD, _, hK, rfl⟩
      by_cases h4 : 400 < acc.length
      · have h5 : (400 : Int) < (acc.length : Int) := by omega
        have HR : Hid (worstErr l = ([], 3)) := by show _ = _; rw [HW.out, if_neg (by simp), if_pos h4]
        gi_wp2
        refine ⟨by simp, .inl ⟨_, _, rfl, run_takeDeferred hK, ?_⟩⟩
        refine ⟨_, worstResults rfl rfl, ?_⟩
        rw [HR.out]
        exact ⟨_, rfl, Own.nil _ _ (belK hB (Nat.le_refl _) (grownBy_putObj' _ D _) hr)⟩
      · have h5 : ¬ (400 : Int) < (acc.length : Int) := by omega
        have HR : Hid (worstErr l = (acc, 0)) := by show _ = _; rw [HW.out, if_neg (by simp), if_neg h4]
        gi_wp2
        refine ⟨by simp, .inl ⟨_, _, rfl, run_takeDeferred hK, ?_⟩⟩
        refine ⟨_, worstResults rfl rfl, ?_⟩
        rw [HR.out]
        exact ⟨_, rfl, ownsRow_putObj (ownWeak HROW.out kwc.size) _ hK rfl, belK hB (Nat.le_refl _) (grownBy_putObj' _ D _) hr⟩
    case stop =>
      rintro D cd pre W hD hpre hf hK
      exact hf.elim
  · have hzb : (er != 0) = true := by simpa using hz
    have HR : Hid (worstErr l = ([], er)) := by show worstErr l = _; rw [HW.out, if_pos hz]
    clear hz
    gi_wp2
    refine ⟨_, worstResults rfl rfl, ?_⟩
    rw [HR.out]
    exact ⟨_, rfl, Own.nil _ _ KB.out⟩
end Go.Proofs.YtbiggfbbccpcmaaDoor
