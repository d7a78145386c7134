/- Texts joined into one, what is needed of them (a program of ours). -/
import Derived.Test.YtijknodekomdfaaGreatDoorCKE
import Derived.Test.YtijknodekomdfaaGreatDoorCKD
import Derived.Maps.AppendAt
import Derived.Outline
import Derived.Test.YtijknodekomdfaaGreatDoorRevLay
import Derived.Test.YtijknodekomdfaaGreatDoorCKB
import Derived.Deep.RegionHeld3
namespace Go.Proofs.YtijknodekomdfaaGreatDoor
open Go.RowKit Go.Lib Go.Shelf
attribute [local go_sem] Oper.semAt_some

/-- what a round keeps: all below a mark but one block -/
structure KpO (n₀ Bo : Nat) (W W' : World) : Prop where
  size : W.heap.size ≤ W'.heap.size
  same : ∀ k, k < n₀ → k ≠ Bo → W'.heap[k]? = W.heap[k]?
theorem KpO.refl (n₀ Bo : Nat) (W : World) : KpO n₀ Bo W W := ⟨Nat.le_refl _, fun _ _ _ => rfl⟩
theorem KpO.trans {n₀ Bo : Nat} {X Y Z : World} (h : KpO n₀ Bo X Y) (k : KpO n₀ Bo Y Z) : KpO n₀ Bo X Z :=
  ⟨Nat.le_trans h.size k.size, fun i h1 h2 => (k.same i h1 h2).trans (h.same i h1 h2)⟩
theorem KpO.of {n₀ Bo : Nat} {W W' : World} (h : Keeps W W') (hn : n₀ ≤ W.heap.size) : KpO n₀ Bo W W' :=
  ⟨h.size, fun k hk _ => h.below.block k (by omega)⟩
theorem kpO_b {n₀ Bo : Nat} {w : World} (hn : n₀ ≤ w.heap.size) (W : World) (l : Nat) (o o' : Obj) (hl : w.heap.size ≤ l) (_ : W.heap[l]? = some o) (_ : o.isCells = false) (_ : o.isWalk = false) : KpO n₀ Bo W (W.putObj l o') :=
  ⟨by simp, fun k hk _ => World.putObj_heap_other (fun e => by omega)⟩
/-- the sets of a row with their indices, from the last on -/
def bwE (l : List S) (j : Nat) : Nat × S := (l.length - 1 - j, at_ l (l.length - 1 - j))
def bwL (l : List S) : List (Nat × S) := (List.range l.length).map (bwE l)
theorem bwL_len (l : List S) : (bwL l).length = l.length := by simp [bwL]
theorem bwL_take (l : List S) {k : Nat} (h : k < l.length) : (bwL l).take (k + 1) = (bwL l).take k ++ [bwE l k] := by
  rw [List.take_succ_eq_append_getElem (by rw [bwL_len]; exact h)]
  simp [bwL]

set_option maxRecDepth 100000 in
set_option maxHeartbeats 2000000 in
theorem backward_in (n lp n₀ Bo B : Nat) (l : List S) (a : Option Addr) (c : Nat) (J Jx : List (Nat × S) → World → Prop)
    (hY : ∀ m p x W, J p W → p.length < l.length → YieldAt Fence.wide m Tryz.prog lp #[.int .i64 (x.1 : Nat), vs x.2] W fun e W' =>
      (e = .returned (.bool true) ∧ J (p ++ [x]) W' ∧ KpO n₀ Bo W W') ∨ (e = .returned (.bool false) ∧ Jx (p ++ [x]) W'))
    (W : World) (hR : ∀ wr, KpO n₀ Bo W wr → Rd wr a l.length c 1 (sl l) ∧ wr.cell? ⟨B, 0, none⟩ = some (.slice a l.length c)) (h0 : J [] W) :
    CallsIn Fence.wide n Tryz.prog 233 #[.func (.yield lp) #[] #[], .pointer (some ⟨B, 0, none⟩)] W fun e W' => (∃ v, e = .returned v) ∧
      ((∃ ys, ys = bwL l ∧ J ys W') ∨ (∃ pre, pre <+: bwL l ∧ Jx pre W')) := by
  have hdd : ∀ j : Nat, (Fence.wide.depth.isSome = true → 1 ≤ j) := fun j h => by cases h
  obtain ⟨r0, c0⟩ := hR W (KpO.refl _ _ _)
  have sl0 := r0.small
  have HY := Lib.hid hY; have HR := Lib.hid hR; have H0 := Lib.hid h0
  clear hY hR h0 r0
  refine callsIn_of_wp Tryz.func233 rfl trivial ?_ rfl
  simp only [Tryz.ntmps233, List.size_toArray, List.length_cons, List.length_nil, Nat.reduceAdd, Nat.reduceSub, Array.replicate_succ, Array.replicate_zero, List.push_toArray, List.append_toArray, List.nil_append, List.cons_append]
  gi_wp2
  gi_loopw [3] (fun v wr => ∃ (k : Nat), k ≤ l.length ∧ v = .int .i64 ((l.length : Int) - 1 - k) ∧ KpO n₀ Bo W wr ∧ Hid (J ((bwL l).take k) wr)) (fun v _ => (intOf v + 1).toNat)
  case atStart => exact ⟨0, Nat.zero_le _, by simp, KpO.refl _ _ _, H0⟩
  case round =>
    obtain ⟨k, hk, rfl, hkp, hj⟩ := hrel
    rename World => wr
    obtain ⟨hr, c1⟩ := HR.out wr hkp
    by_cases hlt : k < l.length
    · have hge : (0 : Int) ≤ (l.length : Int) - 1 - k := by omega
      obtain ⟨q, hq⟩ : ∃ q, q = l.length - 1 - k := ⟨_, rfl⟩
      have hqz : (l.length : Int) - 1 - k = (q : Nat) := by omega
      have hc := hr.at (i := q) (by omega)
      have hs := hr.isSome (by omega)
      have hln : ((bwL l).take k).length < l.length := by rw [List.length_take, bwL_len]; omega
      obtain ⟨fn, tmps, assign, body, hy, hRo⟩ := HY.out (n - 1) ((bwL l).take k) (bwE l k) wr hj.out hln
      have he : bwE l k = (q, at_ l q) := by unfold bwE; rw [hq]
      rw [← bwL_take l hlt] at hRo
      rw [he] at hy
      simp only at hy
      unfold vs at hy
      have hql : q < l.length := by omega
      rw [hqz]
      have hq2 : (q : Int) - 1 = (l.length : Int) - 1 - (k + 1 : Nat) := by omega
      have HQ := Lib.hid hq2; have HE := Lib.hid he
      clear hge hqz hq hq2 he hln
      gi_wp2
      refine ⟨hdd _, ?_⟩
      refine hRo.mono ?_
      rintro e w3 (⟨rfl, hJ3, hK3⟩ | ⟨rfl, hJx3⟩)
      · have hK4 := hkp.trans hK3
        have HJ3 := Lib.hid hJ3
        clear hJ3 hRo hy hK3
        gi_wp2
        go_roundw
        case rel => exact ⟨k + 1, by omega, by first | exact congrArg (Value.int .i64) HQ.out | (rw [← HQ.out]; go_num), hK4, HJ3⟩
        case measure => simp [intOf]
      · have HC3 : (bwL l).take (k + 1) <+: bwL l := List.take_prefix _ _
        have HX := Lib.hid hJx3
        have HC4 := Lib.hid HC3
        clear HC3 hJx3 hRo hy
        gi_wp2
        exact bodyPost_ret (results_none rfl _ _ _) rfl ⟨⟨_, rfl⟩, .inr ⟨_, HC4.out, HX.out⟩⟩
    · have hkk : k = l.length := by omega
      have hlt0 : ¬ (0 : Int) ≤ (l.length : Int) - 1 - k := by omega
      have hfin : J (bwL l) wr := by have := hj.out; rw [hkk, List.take_of_length_le (by rw [bwL_len]; exact Nat.le_refl _)] at this; exact this
      have HF := Lib.hid hfin
      clear hfin hkk hj
      gi_wp2
      go_end0
      exact ⟨⟨_, rfl⟩, .inl HF.out⟩
/-- what slices.Backward hands back is an iterator over the row from its end -/
theorem backward_stops (n n₀ Bo B : Nat) (l : List S) (a : Option Addr) (c : Nat) (w : World) (hn : n₀ ≤ w.heap.size)
    (hR : ∀ wr : World, (∀ k, k < n₀ → k ≠ Bo → wr.heap[k]? = w.heap[k]?) → Rd wr a l.length c 1 (sl l) ∧ wr.cell? ⟨B, 0, none⟩ = some (.slice a l.length c)) :
    SeqStopsK Fence.wide n Tryz.prog 233 #[.pointer (some ⟨B, 0, none⟩)] (fun x : Nat × S => #[.int .i64 (x.1 : Nat), vs x.2]) (KpO n₀ Bo) (fun ys => ys = bwL l) (fun pre => pre <+: bwL l) l.length w := fun lp J Jx W hW _ _ hY h0 =>
  backward_in n lp n₀ Bo B l a c J Jx (fun m p x W1 hj hl => YieldAt.anyDepth rfl m (hY p x W1 hj hl)) W
    (fun wr hk => hR wr fun k h1 h2 => (hk.same k h1 h2).trans (hW.block k (by omega))) h0
theorem backward_any (a : Option Addr) (n c : Nat) (w : World) : Calls Tryz.prog 216 #[.slice a n c] w fun e w' => e = .returned (.func (.func 233) #[] #[.pointer (some ⟨w.heap.size, 0, none⟩)]) ∧ w' = w.alloc (.cells #[.slice a n c] 25) := by
  go_enter Tryz.func216, Tryz.ntmps216
  go_wp2
  go_ret
  exact ⟨rfl, rfl⟩
end Go.Proofs.YtijknodekomdfaaGreatDoor
namespace Go.Proofs.YtijknodekomdfaaGreatDoor
open Go.RowKit Go.Lib Go.Shelf Go.Sort
attribute [local go_sem] Oper.semAt_some

theorem reverse_any (w0 w : World) (v : Value) (l : List S) (h : Own 31 1 w0 w v l.length (sl l)) (hn : l.length ≤ 1000000) :
    Calls Tryz.prog 218 #[v] w fun e w' => e = .returned (.tuple #[]) ∧ Own 31 1 w0 w' v l.length (sl l.reverse) ∧ w.grownBy w' v.ownBlock := by
  have h0 := h
  rcases h.1.2 with ⟨rfl, hl⟩ | ⟨g, cap, cur, rfl, hb, hg, hnc, hcm, hcs, htake⟩
  · have hl0 : l = [] := List.eq_nil_of_length_eq_zero hl
    subst hl0
    refine Calls.mono (show Calls Tryz.prog 218 #[.slice none 0 0] w _ from AnyE.slices_Reverse_empty revS none 0 w) fun e w' ⟨he, hw⟩ => ⟨he, ?_⟩
    subst hw
    exact ⟨h0, World.grownBy.refl _ _⟩
  · obtain ⟨hH, hblk⟩ := own_holds h0
    refine Calls.mono (show Calls Tryz.prog 218 _ _ _ from AnyE.slices_Reverse revS vs (fun _ => rfl) g 0 cap l w hH (by omega)) fun e w' ⟨he, q, hw⟩ => ⟨he, ?_⟩
    have := own_put h0 l.reverse.toArray l.length (by simp) hnc q #[] (by simp; omega)
    rw [grow_empty] at this
    rw [List.take_of_length_le (by simp)] at this
    refine ⟨?_, ?_⟩
    · rw [hw]; exact this
    · subst hw
      have hheap : (putRow vs (Sort.ahead w q) g 0 l.reverse.toArray).heap = w.heap.modify g (onCells (putCells vs 0 l.reverse.toArray)) := rfl
      refine ⟨rfl, rfl, rfl, by rw [hheap]; simp, fun k hk hne => ?_⟩
      have hkg : g ≠ k := fun e => hne (by rw [e]; rfl)
      rw [hheap, Array.getElem?_modify, if_neg hkg]

def covB (out : List S) (s : S) : Bool := out.any fun x => s &&& ~~~x == 0#16
def gStep (acc : List S) (s : S) : List S := if covB acc s = true then acc else acc ++ [s]
def gFold (l : List (Nat × S)) : List S := l.foldl (fun acc x => gStep acc x.2) []
def greatP (l : List S) : List S := (gFold (bwL (sortS' l))).reverse
theorem gFold_snoc (l : List (Nat × S)) (x : Nat × S) : gFold (l ++ [x]) = gStep (gFold l) x.2 := by simp [gFold, List.foldl_append]
theorem gStep_le (acc : List S) (s : S) : (gStep acc s).length ≤ acc.length + 1 := by unfold gStep; split <;> simp
theorem gFold_foldl_le (l : List (Nat × S)) : ∀ acc : List S, (l.foldl (fun acc x => gStep acc x.2) acc).length ≤ acc.length + l.length := by
  induction l with
  | nil => intro acc; simp
  | cons x xs ih => intro acc; rw [List.foldl_cons]; have := ih (gStep acc x.2); have := gStep_le acc x.2; simp only [List.length_cons]; omega
theorem gFold_le (l : List (Nat × S)) : (gFold l).length ≤ l.length := by have := gFold_foldl_le l []; simpa [gFold] using this
theorem greatPred (s : S) (B : Nat) (l : List S) (w : World) (hc : w.cell? ⟨B, 0, none⟩ = some (.int .u16 (sv s))) :
    PredK Tryz.prog 217 #[.pointer (some ⟨B, 0, none⟩)] vs (fun x => s &&& ~~~x == 0#16) l w := fun W x _ hk => by
  have hc' := hk.cell hc
  have hcall := Lib.hid (contains_any x s)
  show Calls Tryz.prog 217 #[.int .u16 (sv x), .pointer (some ⟨B, 0, none⟩)] W _
  go_enter Tryz.func217, Tryz.ntmps217
  go_wp2_with fail
  refine (hcall.out _).mono ?_
  rintro e w' ⟨rfl, rfl⟩
  go_wp2_with fail
  go_ret
  exact ⟨rfl, Keeps.refl _⟩
theorem covers_call (a : Option Addr) (c : Nat) (acc : List S) (s : S) (B : Nat) (w : World) (h : Rd w a acc.length c 1 (sl acc)) (hc : w.cell? ⟨B, 0, none⟩ = some (.int .u16 (sv s))) :
    Calls Tryz.prog 46 #[.slice a acc.length c, .func (.func 217) #[] #[.pointer (some ⟨B, 0, none⟩)]] w fun e w' => e = .returned (.bool (covB acc s)) ∧ Keeps w w' :=
  containsFuncS_any a acc.length c acc w _ _ (fun x => s &&& ~~~x == 0#16) h (enters_of Tryz.func217 (by kernel_rfl) rfl) (greatPred s B acc w hc)
/-- a row of the call's own lies as it lay where its block does -/
theorem own_same {W W' : World} {b : Nat} {e : TypeId} {sz k : Nat} {v : Value} {xs : List Value} (h : W.ownsRow b e sz v k xs) (hs : ∀ r, v.ownBlock = some r → W'.heap[r]? = W.heap[r]?) : W'.ownsRow b e sz v k xs := by
  refine ⟨h.1, ?_⟩
  rcases h.2 with h1 | ⟨g, cap, cur, rfl, hb, hg, r⟩
  · exact .inl h1
  · exact .inr ⟨g, cap, cur, rfl, hb, (hs g rfl).trans hg, r⟩
theorem kpoApp {W w1 : World} {n₀ Bo : Nat} {v v' : Value} {e : TypeId} {k : Nat} {xs : List Value} {tmp : Obj} (hrow : W.ownsRow n₀ e 1 v k xs) (hn : n₀ ≤ W.heap.size)
    (hgrow : (W.alloc tmp).grownBy w1 v.ownBlock) : KpO n₀ Bo W (w1.setCell ⟨Bo, 0, none⟩ v') := by
  have h1 := hgrow.size
  rw [World.size_alloc] at h1
  refine ⟨by rw [World.size_setCell]; omega, fun k hk hne => ?_⟩
  rw [Below.heap_setCell _ _ _ _ hne, hgrow.block k (by rw [World.size_alloc]; omega) (fun e' => ?_), Below.heap_alloc _ _ _ (by omega)]
  rcases hrow.2 with ⟨rfl, _⟩ | ⟨g, cap, cur, rfl, hb, _, _⟩
  · cases e'
  · have e2 : k = g := by simpa [Value.ownBlock] using e'
    omega
theorem greatResults {W : World} {tmps : Array Value} {v : Value} (t1 : tmps.getD 2 undef = v) : (results Tryz.f188 tmps).run Tryz.prog W = .ok v W := by
  simp only [Array.getD_eq_getD_getElem?] at t1
  simp [results, Tryz.f188, t1]

set_option maxRecDepth 100000 in
set_option maxHeartbeats 3000000 in
theorem greatest_any (a : Option Addr) (m c : Nat) (l : List S) (w : World) (h : Rd w a m c 1 (sl l)) (hm : m ≤ 1000000) :
    Calls Tryz.prog 188 #[.slice a m c] w fun e w' => ∃ v, e = .returned v ∧ Own 31 1 w w' v (greatP l).length (sl (greatP l)) := by
  have hsr := fun W (k : Keeps w W) => sorted_any a m c l W (h.keep k) hm
  have hsl : (sortS' l).length ≤ 1000000 := by
    have h1 := compactL_le (msort l)
    have h2 := msort_length l
    have h3 := h.lenS
    unfold sortS'; omega
  have hdd : ∀ j : Nat, (Fence.wide.depth.isSome = true → 1 ≤ j) := fun j h => by cases h
  obtain ⟨i0, hi, hz0, hz1, hz2⟩ := info_parts infoS
  have hgp : greatP l = (gFold (bwL (sortS' l))).reverse := rfl
  generalize greatP l = res at *
  generalize sortS' l = t at *
  have HSR := Lib.hid hsr; have HGP := Lib.hid hgp
  have HI1 := Lib.hid hi; have HI2 := Lib.hid hz0; have HI3 := Lib.hid hz1; have HI4 := Lib.hid hz2
  clear hsr hgp hi hz0 hz1 hz2 h
  refine (callsIn_wide (n := 8)).1 ?_
  refine callsIn_of_wp_marks Tryz.func188 rfl trivial ?_ rfl
  simp only [Tryz.ntmps188, List.size_toArray, List.length_cons, List.length_nil, Nat.reduceAdd, Nat.reduceSub, Array.replicate_succ, Array.replicate_zero, List.push_toArray, List.append_toArray, List.nil_append, List.cons_append]
  gi_wp2
  have k0 : Keeps w (w.alloc (.cells #[.slice none 0 0] 25)) := (Keeps.refl w).alloc _
  have b0 : Boxed (w.alloc (.cells #[.slice none 0 0] 25)) w.heap.size 25 (.slice none 0 0) := Boxed.new w _ _
  refine ⟨trivial, ?_⟩
  refine (callsIn_wide.2 (HSR.out _ k0)).mono ?_
  rintro e wb ⟨v1, rfl, hO⟩
  obtain ⟨a1, c1, rfl, hR⟩ := hO.rd
  have hOr := hO.1
  have kb := k0.trans hO.2
  replace b0 := boxedKeep b0 hO.2
  have KB := Lib.hid kb
  have HO := Lib.hid hOr
  clear k0 hO kb hOr
  gi_wp2
  refine ⟨trivial, ?_⟩
  refine (callsIn_wide.2 (backward_any _ _ _ _)).mono ?_
  rintro e wc ⟨rfl, hwc⟩
  have kc : Keeps wb wc := hwc ▸ (Keeps.refl wb).alloc _
  have bS : Boxed wc wb.heap.size 25 (.slice a1 t.length c1) := hwc ▸ Boxed.new wb _ _
  have hszc : wc.heap.size = wb.heap.size + 1 := by rw [hwc]; simp
  clear hwc
  have hlt0 := b0.lt
  replace b0 := boxedKeep b0 kc
  have kwc := KB.out.trans kc
  have HOc := Lib.hid (kc.own HO.out)
  have hRall : ∀ wr : World, (∀ k, k < wc.heap.size → k ≠ w.heap.size → wr.heap[k]? = wc.heap[k]?) → Rd wr a1 t.length c1 1 (sl t) ∧ wr.cell? ⟨wb.heap.size, 0, none⟩ = some (.slice a1 t.length c1) := fun wr hk => by
    refine ⟨?_, ?_⟩
    · have hrow := own_same (W' := wr) HOc.out (fun r hr => by
        have hne := b0.not_row (by decide) HOc.out
        obtain ⟨g, rfl⟩ : ∃ g : Nat, r = g := ⟨r, rfl⟩
        have hrl : r < wc.heap.size := by
          rcases HOc.out.2 with ⟨h1, _⟩ | ⟨g, cap, cur, h1, _, hg, _⟩
          · rw [h1] at hr; cases hr
          · rw [h1] at hr; cases hr; exact (Array.getElem?_eq_some_iff.1 hg).1
        exact hk r hrl (fun e => hne (by rw [← e]; exact hr.symm)))
      obtain ⟨a', c', he, hr⟩ := own_rd hrow
      cases he
      exact hr
    · have e1 : wr.heap[wb.heap.size]? = wc.heap[wb.heap.size]? := hk _ (by omega) (by omega)
      exact Boxed.cell (show Boxed wr wb.heap.size 25 _ from e1.trans bS)
  have HRA := Lib.hid hRall
  clear hRall hR bS
  gi_wp2
  refine wpIn_rangeFunc_ownH rfl (by omega) (gf := 233) (lb := #[.pointer (some ⟨wb.heap.size, 0, none⟩)]) rfl trivial (enters_of Tryz.func233 (by kernel_rfl) rfl)
    (backward_stops 7 wc.heap.size w.heap.size wb.heap.size t a1 c1 wc (Nat.le_refl _) HRA.out) KpO.trans ?hkb (Below.refl _ _) (fun _ => rfl)
    (fun pre W => (∃ v, Boxed W w.heap.size 25 v ∧ W.ownsRow wc.heap.size 31 1 v (gFold pre).length (sl (gFold pre))) ∧ Below w.heap.size w W ∧ wc.heap.size ≤ W.heap.size)
    (fun cd pre W => False)
    ?hI ?hIx ?h0
    (fun x a' W => ∃ Bs, a' = { tmps := #[.slice a m c, undef, .slice none 0 0, .pointer (some ⟨w.heap.size, 0, none⟩), undef, .pointer (some ⟨Bs, 0, none⟩), .slice a m c, .slice a1 t.length c1, .func (.func 233) #[] #[.pointer (some ⟨wb.heap.size, 0, none⟩)], .int .i64 (x.1 : Nat), .int .u16 (sv x.2), undef, undef, undef, undef, undef, undef, undef, undef, undef, undef, undef], defers := [] } ∧ Boxed W Bs 31 (.int .u16 (sv x.2)) ∧ wc.heap.size ≤ Bs)
    ?hAx ?assign ?body ?done ?stop
  case hkb => exact fun W l' o o' h1 h2 h3 h4 => kpO_b (Nat.le_refl _) W l' o o' h1 h2 h3 h4
  case hI =>
    rintro s A B row ⟨⟨v, hv, hrow⟩, h4, h5⟩ hg hr
    refine ⟨⟨v, boxK hv hg hr, hrow.kept hg ?_⟩, belK h4 kwc.size hg hr, Nat.le_trans h5 hg.size⟩
    rcases hrow.2 with ⟨rfl, _⟩ | ⟨g, cap, cur, rfl, _, hgb, _⟩
    · exact .inl rfl
    · refine .inr fun e' => ?_
      obtain ⟨_, o, ho, hc⟩ := hr g (by simpa [Value.ownBlock] using e'.symm)
      rw [hgb] at ho; cases ho; cases hc
  case hIx =>
    rintro cd s A B row hf
    exact hf.elim
  case h0 => exact ⟨⟨_, b0, World.ownsRow_nil _ _ _ _⟩, kwc, Nat.le_refl _⟩
  case hAx =>
    rintro x a' _ A B row ⟨Bs, h1, h2, h3⟩ hg hr
    exact ⟨Bs, h1, boxK h2 hg hr, h3⟩
  case assign =>
    intro l' pre x W K ⟨⟨v, hv, hrow⟩, h4, h5⟩ hK
    have KA := (Keeps.refl W).alloc (.cells #[.int .u16 (sv x.2)] 31)
    have hfin := fun a' => hK a' (W.alloc (.cells #[.int .u16 (sv x.2)] 31)) (keepsFrom KA _) (KpO.of KA h5) ⟨⟨v, boxedKeep hv KA, KA.own hrow⟩, Below.trans h4 (KA.below.mono (Nat.le_trans kwc.size h5)), Nat.le_trans h5 KA.size⟩
    have HF := Lib.hid hfin
    clear hfin hK hv hrow h4 KA
    unfold vs
    gi_wp2
    exact HF.out _ ⟨W.heap.size, rfl, Boxed.new W _ _, h5⟩
  case body =>
    rintro l' pre x a' W - - ⟨⟨v, hv, hrow⟩, hB, hwcW⟩ ⟨Bs, rfl, hs, hBs⟩ hpl
    obtain ⟨va, vc, rfl, hvr⟩ := own_rd hrow
    have hst := gFold_snoc pre x
    have hfl := gFold_le pre
    have hac : (gFold pre).length ≤ 1000000 := by omega
    generalize gFold pre = acc at *
    have hcall := covers_call va vc acc x.2 Bs W hvr hs.cell
    have HST := Lib.hid hst; have HROW := Lib.hid hrow; have HAC := Lib.hid hac; have HCALL := Lib.hid hcall
    clear hst hvr hrow hfl hpl hac hcall
    have e0 := hv.cell
    gi_wp2
    refine ⟨trivial, ?_⟩
    refine (CallsIn.inRound l' (callsIn_wide.2 HCALL.out)).mono ?_
    rintro e W2 ⟨rfl, kW2⟩
    have hv2 := boxedKeep hv kW2
    have hs2 := boxedKeep hs kW2
    have hsz := hB.size
    have kk2 : Below w.heap.size w W2 := Keeps.trans hB kW2
    have hsz2 := kk2.size
    have HROW2 := Lib.hid (kW2.own HROW.out)
    have hc2 := hv2.cell; have hf2 := hv2.frozen
    have hc3 := hs2.cell
    clear e0
    cases hcv : covB acc x.2
    · have hst : gFold (pre ++ [x]) = acc ++ [x.2] := by rw [HST.out]; unfold gStep; rw [if_neg (by simp [hcv])]
      have HS := Lib.hid hst; clear hst
      have hi := HI1.out; have hz0 := HI2.out; have hz1 := HI3.out; have hz2 := HI4.out
      have hb1 : acc.length + 1 ≤ maxLen := by have := HAC.out; unfold maxLen; omega
      have hb2 : (acc.length + 1) * 2 ≤ 140737488355328 := by have := HAC.out; omega
      have hwc2 : wc.heap.size ≤ (W2.alloc (.cells #[.int .u16 (sv x.2)] 31)).heap.size := by have h2 := kW2.size; simp; omega
      have HB1 := Lib.hid hb1; have HB2 := Lib.hid hb2; have HWC := Lib.hid hwc2; clear hb1 hb2 hwc2
      have happ : ∀ v' w1, w1.ownsRow wc.heap.size 31 1 v' (acc.length + 1) (sl acc ++ [.int .u16 (sv x.2)]) → (W2.alloc (.cells #[.int .u16 (sv x.2)] 31)).grownBy w1 (Value.slice va acc.length vc).ownBlock →
          Boxed w1 w.heap.size 25 (.slice va acc.length vc) ∧ Hid (
          Boxed (w1.setCell ⟨w.heap.size, 0, none⟩ v') w.heap.size 25 v' ∧ (w1.setCell ⟨w.heap.size, 0, none⟩ v').ownsRow wc.heap.size 31 1 v' (acc.length + 1) (sl acc ++ [.int .u16 (sv x.2)]) ∧
          KeepsFrom wc.heap.size W (w1.setCell ⟨w.heap.size, 0, none⟩ v') ∧ KpO wc.heap.size w.heap.size W (w1.setCell ⟨w.heap.size, 0, none⟩ v') ∧ Below w.heap.size w (w1.setCell ⟨w.heap.size, 0, none⟩ v') ∧
          wc.heap.size ≤ (w1.setCell ⟨w.heap.size, 0, none⟩ v').heap.size) := by
        intro v' w1 hown' hgrow
        obtain ⟨hv1, hv3, _, hk2, hb2⟩ := hv2.appended (by decide) (ownWeak HROW2.out kwc.size) hsz2 (Nat.le_refl _) (ownWeak hown' kwc.size) hgrow
        have hn2 : wc.heap.size ≤ W2.heap.size := Nat.le_trans hwcW kW2.size
        refine ⟨hv1, hv3, hown'.kept (grownBy_setCell' w1 _ v') (.inr (hv1.not_row (by decide) hown').symm), (keepsFrom kW2 _).trans (hk2.from _), (KpO.of kW2 hwcW).trans (kpoApp HROW2.out hn2 hgrow), kk2.trans hb2, Nat.le_trans hn2 hb2.size⟩
      have HAPP := Lib.hid happ; clear happ
      gi_wp2_with (gi_at_builtin; refine wpListIn_append_own _ rfl _ _ 25 rfl wc.heap.size 31 i0 (.int .u16 0) 1 2 Tryz.underlying25 hi hz0 hz1 hz2 rfl (by decide) _ _ _ rfl (HROW2.out.alloc _) ⟨W2.heap.size, 0, none⟩ 1 1 [.int .u16 (sv x.2)] rfl rfl (cell_one_new _ _ _) (by simp [Value.oneCell']) HB1.out HB2.out HWC.out ?_; intro v' w1 hown' hgrow _; obtain ⟨hq, hfin⟩ := HAPP.out v' w1 hown' hgrow; obtain ⟨g', cap', rfl⟩ := ownsRow_succ hown'; have hc1 := hq.cell; have hf1 := hq.frozen; have HHG := Lib.hid hgrow; clear hgrow; have HHO := Lib.hid hown'; clear hown')
      obtain ⟨p1, p2, p3, p4, p5, p9⟩ := hfin.out
      refine ⟨p3, p4, ?_⟩
      dsimp only
      rw [HS.out]
      refine ⟨⟨_, p1, ?_⟩, p5, p9⟩
      rw [sl_append, List.length_append]; exact p2
    · have hst : gFold (pre ++ [x]) = acc := by rw [HST.out]; unfold gStep; rw [if_pos hcv]
      have HS := Lib.hid hst; clear hst
      gi_wp2
      refine ⟨keepsFrom kW2 _, KpO.of kW2 hwcW, ?_⟩
      dsimp only
      rw [HS.out]
      exact ⟨⟨_, hv2, HROW2.out⟩, kk2, Nat.le_trans hwcW kW2.size⟩
  case done =>
    rintro D ys W hD rfl ⟨⟨v, hv, hrow⟩, hB, hwcW⟩ hK
    have hal : (gFold (bwL t)).length ≤ 1000000 := by have := gFold_le (bwL t); rw [bwL_len] at this; omega
    have hres : res = (gFold (bwL t)).reverse := HGP.out
    generalize gFold (bwL t) = acc at *
    have hO : Own 31 1 w W v acc.length (sl acc) := ⟨ownWeak hrow kwc.size, hB⟩
    have hcall := reverse_any w W v acc hO hal
    have hne := hv.not_row (by decide) hrow
    have hKne : ∀ r, v.ownBlock = some r → r ≠ D := fun r hr e => by
      subst e
      rcases hrow.2 with ⟨rfl, _⟩ | ⟨g, cap, cur, rfl, _, hgb, _⟩
      · cases hr
      · cases hr; rw [hgb] at hK; cases hK
    obtain ⟨va, vc, rfl, _⟩ := own_rd hrow
    have e0 := hv.cell
    have HC := Lib.hid hcall; have HNE := Lib.hid hne; have HKN := Lib.hid hKne; have HRS := Lib.hid hres
    clear hcall hne hKne hres hrow hO
    gi_wp2
    refine ⟨trivial, ?_⟩
    refine (callsIn_wide.2 HC.out).mono ?_
    rintro e W2 ⟨rfl, hO2, hg2⟩
    have hv2 := hv.kept hg2 HNE.out
    have e1 := hv2.cell
    have hDl := (Array.getElem?_eq_some_iff.1 hK).1
    have hK2 : W2.heap[D]? = some (.deferred (some [])) := (hg2.block D hDl (fun e' => HKN.out D e'.symm rfl)).trans hK
    have HO2 := Lib.hid hO2
    clear hO2 hg2 e0
    gi_wp2
    refine ⟨by simp, .inl ⟨_, _, rfl, run_takeDeferred hK2, ?_⟩⟩
    refine ⟨_, greatResults rfl, ?_⟩
    rw [HRS.out, List.length_reverse]
    have hr : ∀ r, some D = some r → w.heap.size ≤ r ∧ ∃ o : Obj, W2.heap[r]? = some o ∧ o.isCells = false := fun r e => by cases e; exact ⟨Nat.le_trans kwc.size hD, _, hK2, rfl⟩
    exact ⟨_, rfl, ownsRow_putObj HO2.out.1 _ hK2 rfl, belK HO2.out.2 (Nat.le_refl _) (grownBy_putObj' _ D _) hr⟩
  case stop =>
    rintro D cd pre W hD hpre hf hK
    exact hf.elim

def maximalS (l : List S) : List S × Int := if l.any outS then ([], 7) else limS (greatP l)
set_option maxHeartbeats 400000 in
theorem chosenGreat_any (a : Option Addr) (n c : Nat) (l : List S) (w : World) (h : Rd w a n c 1 (sl l)) (hn : n ≤ 1000000) :
    Calls Tryz.prog 111 #[.slice a n c, .func (.func 188) #[] #[]] w fun e w' => RetS w (maximalS l) e w' := by
  have eg : ∀ args w, (callFunc 182 args).run Tryz.prog w = .ok (.enter 182 args) w := enters_of Tryz.func182 (by kernel_rfl) rfl
  have eL : ∀ args w, (callFunc 188 args).run Tryz.prog w = .ok (.enter 188 args) w := enters_of Tryz.func188 (by kernel_rfl) rfl
  have h1 := containsFuncS_any a n c l w 182 #[] outS h eg (outPred l w)
  have h2 := fun W (K : Keeps w W) => greatest_any a n c l W (h.keep K) hn
  have h3 := fun W v (hO : Own 31 1 w W v (greatP l).length (sl (greatP l))) => limited_any v (greatP l) w W hO
  unfold maximalS
  clear eg h
  cases hq : l.any outS with
  | true =>
    rw [hq] at h1
    rw [if_pos rfl]
    have H1 := Lib.hid h1; clear h1 h2 h3 hq
    go_enter Tryz.func111, Tryz.ntmps111
    go_wp2_with (go_at_call 46; refine H1.out.mono ?_; rintro e w1 ⟨rfl, K1⟩)
    go_ret2
    exact ⟨_, rfl, Own.nil _ _ K1⟩
  | false =>
    rw [hq] at h1
    rw [if_neg (by simp)]
    generalize greatP l = m at h2 h3 ⊢
    generalize hlm : limS m = r at h3 ⊢
    obtain ⟨rl, re⟩ := r
    have H1 := Lib.hid h1; have H2 := Lib.hid h2; have H3 := Lib.hid h3; clear h1 h2 h3 hq hlm
    go_enter Tryz.func111, Tryz.ntmps111
    go_wp2_with fail
    refine H1.out.mono ?_
    rintro e w1 ⟨rfl, K1⟩
    go_wp2_with fail
    refine (H2.out _ K1).mono ?_
    rintro e w2 ⟨v2, rfl, hO2⟩
    go_wp2_with fail
    refine (H3.out _ _ (hO2.since K1)).mono ?_
    rintro e w3 ⟨v3, rfl, hO3⟩
    go_wp2_with fail
    go_ret2
    exact ⟨_, rfl, hO3⟩
theorem maximal_any (a : Option Addr) (n c : Nat) (l : List S) (w : World) (h : Rd w a n c 1 (sl l)) (hn : n ≤ 1000000) :
    Calls Tryz.prog 131 #[.slice a n c] w fun e w' => RetS w (maximalS l) e w' := by
  have h1 := chosenGreat_any a n c l w h hn
  generalize maximalS l = r at h1 ⊢
  obtain ⟨rl, re⟩ := r
  have H1 := Lib.hid h1; clear h1 h
  go_enter Tryz.func131, Tryz.ntmps131
  go_wp2_with fail
  refine H1.out.mono ?_
  rintro e w1 ⟨v, rfl, hO⟩
  go_wp2_with fail
  go_ret2
  exact ⟨_, rfl, hO⟩
end Go.Proofs.YtijknodekomdfaaGreatDoor
namespace Go.Proofs.YtijknodekomdfaaGreatDoor
open Go.RowKit Go.Lib Go.Shelf

def mskF (M : S) (m : List F2) : List S := m.map fun x => x.1 &&& M
def byzS (M : S) (m : List F2) : List S := (maximalS (mskF M m)).1
theorem mskF_snoc (M : S) (m : List F2) (k : Nat) (h : k < m.length) : mskF M (m.take (k + 1)) = mskF M (m.take k) ++ [(fa m k).1 &&& M] := by
  unfold mskF; rw [take_fa m k h, List.map_append]; rfl
set_option maxRecDepth 20000 in
set_option maxHeartbeats 2000000 in
theorem byzantine_any (nm : ByteArray) (kd : Int) (M : S) {ar : Option Addr} {cr : Nat} {R : List S} {aw : Option Addr} {cw : Nat} {Q : List S} {af : Option Addr} {cf : Nat} {F : List F2} (a : Option Addr) (n c : Nat) (m : List F2) (w : World) (hm : Rd w a n c 2 (fl m)) (hn : n ≤ 1000000) :
    Calls Tryz.prog 70 #[.agg #[.string nm, .int .i64 kd, .int .u16 (sv M), .slice ar R.length cr, .slice aw Q.length cw, .slice af F.length cf], .slice a n c] w fun e w' => ∃ v, e = .returned v ∧ Own 31 1 w w' v (byzS M m).length (sl (byzS M m)) := by
  have K0 := (Keeps.refl w).alloc (.cells #[.string nm, .int .i64 kd, .int .u16 (sv M), .slice ar R.length cr, .slice aw Q.length cw, .slice af F.length cf] 36)
  have hb := BoxC.new w 36 nm kd M ar R.length cr aw Q.length cw af F.length cf
  obtain ⟨W0, hW0⟩ : ∃ W0, W0 = w.alloc (.cells #[.string nm, .int .i64 kd, .int .u16 (sv M), .slice ar R.length cr, .slice aw Q.length cw, .slice af F.length cf] 36) := ⟨_, rfl⟩
  rw [← hW0] at hb K0
  have c2 := hb.c2
  have L := hm.lenF
  subst L
  have hz := hm.keep K0
  have sz := hz.small
  have h3 := fun A C W (hR : Rd W A m.length C 1 (sl (mskF M m))) => maximal_any A m.length C (mskF M m) W hR hn
  have hml : (mskF M m).length = m.length := by simp [mskF]
  unfold byzS
  generalize hmx : maximalS (mskF M m) = r at *
  obtain ⟨rl, re⟩ := r
  have H3 := Lib.hid h3
  clear h3 hb hmx
  go_enter Tryz.func70, Tryz.ntmps70
  go_wp2
  rw [← hW0]
  clear hW0
  go_loopw [5, 12] (fun u v wr => ∃ k : Nat, k ≤ m.length ∧ v = .int .i64 k ∧ Own 31 1 W0 wr u k (sl (mskF M (m.take k)))) (fun _ v _ => m.length - (intOf v).toNat)
  case atStart => exact ⟨0, Nat.zero_le _, rfl, Own.nil _ _ (Keeps.refl _)⟩
  case round =>
    obtain ⟨k, hk, rfl, hO⟩ := hrel
    by_cases hlt : k < m.length
    · obtain ⟨a2, c22, rfl, hRa⟩ := hO.rd
      have hR := hz.keep hO.2
      have c0 := hR.f0 hlt
      have c1 := hR.f1' hlt
      have ha := hR.isSome (by omega)
      have hst := mskF_snoc M m k hlt
      have d2 := hO.2.cell c2
      obtain ⟨e0, e1⟩ := newF (fa m k) wr 34
      have KB := (Keeps.refl wr).alloc (.cells #[.int .u16 (sv (fa m k).1), .int .u16 (sv (fa m k).2)] 34)
      have d3 := KB.cell d2
      have hrd := rd_new 31 1 (wr.alloc (.cells #[.int .u16 (sv (fa m k).1), .int .u16 (sv (fa m k).2)] 34)) [.int .u16 (sv ((fa m k).1 &&& M))] 1 (by decide) rfl
      rw [World.size_alloc] at hrd
      have HRD := Lib.hid hrd
      clear hrd
      have HO := Lib.hid hO
      have HST := Lib.hid hst
      clear hO hst hR d2 hRa
      go_wp2_with (at_builtin; refine wp_app tyS rfl _ _ rfl ((HO.out.alloc _).alloc _) rfl rfl HRD.out (sl_oneCell [(fa m k).1 &&& M]) ?_ ?_)
      · omega
      · intro v' w3 hO3 _
        go_wp2
        go_roundw
        case rel =>
          refine ⟨k + 1, by omega, by go_num, ?_⟩
          rw [HST.out, sl_append]
          exact hO3
        case measure => simp [intOf]; omega
    · have hkk : k = m.length := by omega
      subst hkk
      rw [List.take_of_length_le (Nat.le_refl _)] at hO
      obtain ⟨a1, c1, rfl, hR⟩ := hO.rd
      have K1 := K0.trans hO.2
      clear hO
      go_wp2_with fail
      refine (H3.out _ _ _ hR).mono ?_
      rintro e w4 ⟨v4, rfl, hO4⟩
      go_wp2_with fail
      go_ret
      exact ⟨_, rfl, hO4.since K1⟩

def RetCE (r : CL × Int) (e : Ending) : Prop := e = .returned (.tuple #[vcl r.1, .int .i64 r.2])

/-- a block that holds a clash -/
def ClBox (w : World) (B : Nat) (x : CL) : Prop := w.heap[B]? = some (.cells #[.int .i64 x.1, .int .u16 (sv x.2.1), .int .u16 (sv x.2.2.1), .int .u16 (sv x.2.2.2)] 61 (0, 0))
theorem ClBox.keep {w w' : World} {B : Nat} {x : CL} (h : ClBox w B x) (k : Keeps w w') : ClBox w' B x := (k.below.block B (Array.getElem?_eq_some_iff.1 h).1).trans h
theorem ClBox.cells {w : World} {B : Nat} {x : CL} (h : ClBox w B x) : w.cell? ⟨B, 0, none⟩ = some (.int .i64 x.1) ∧ w.cell? ⟨B, 1, none⟩ = some (.int .u16 (sv x.2.1)) ∧ w.cell? ⟨B, 2, none⟩ = some (.int .u16 (sv x.2.2.1)) ∧ w.cell? ⟨B, 3, none⟩ = some (.int .u16 (sv x.2.2.2)) := by
  simp [World.cell?, show w.heap[B]? = _ from h]
theorem ClBox.frozen {w : World} {B : Nat} {x : CL} (h : ClBox w B x) : w.frozen? ⟨B, 0, none⟩ = false ∧ w.frozen? ⟨B, 1, none⟩ = false ∧ w.frozen? ⟨B, 2, none⟩ = false ∧ w.frozen? ⟨B, 3, none⟩ = false := by
  simp [World.frozen?, show w.heap[B]? = _ from h]
theorem heap_set {w : World} {B i : Nat} {c : Array Value} {t : TypeId} {fr : Nat × Nat} (h : w.heap[B]? = some (.cells c t fr)) (v : Value) : (w.setCell ⟨B, i, none⟩ v).heap[B]? = some (.cells (c.setIfInBounds i v) t fr) := by
  obtain ⟨hlt, hk⟩ := Array.getElem?_eq_some_iff.1 h
  show (w.heap.modify B _)[B]? = _
  rw [Array.getElem?_eq_getElem (by rw [Array.size_modify]; exact hlt), Array.getElem_modify_self, hk]
  simp
theorem ClBox.store {w : World} {B : Nat} {x : CL} (h : ClBox w B x) (y : CL) : ClBox ((((w.setCell ⟨B, 0, none⟩ (.int .i64 y.1)).setCell ⟨B, 1, none⟩ (.int .u16 (sv y.2.1))).setCell ⟨B, 2, none⟩ (.int .u16 (sv y.2.2.1))).setCell ⟨B, 3, none⟩ (.int .u16 (sv y.2.2.2))) B y :=
  heap_set (heap_set (heap_set (heap_set h _) _) _) _
theorem Keeps.setC {w W : World} (h : Keeps w W) {B : Nat} (hB : w.heap.size ≤ B) (i : Nat) (v : Value) : Keeps w (W.setCell ⟨B, i, none⟩ v) := Below.setCell h.below (by exact hB) v
theorem Keeps.set4 {w W : World} (h : Keeps w W) {B : Nat} (hB : w.heap.size ≤ B) (v0 v1 v2 v3 : Value) : Keeps w ((((W.setCell ⟨B, 0, none⟩ v0).setCell ⟨B, 1, none⟩ v1).setCell ⟨B, 2, none⟩ v2).setCell ⟨B, 3, none⟩ v3) :=
  (((h.setC hB 0 v0).setC hB 1 v1).setC hB 2 v2).setC hB 3 v3
theorem resBox {fn : Func} {p u : Tmp} (h : fn.results = #[.cell p 61, .tmp u]) {tmps : Array Value} {W : World} {B : Nat} {x : CL} {v : Value} (hB : ClBox W B x)
    (tp : tmps.getD p undef = .pointer (some ⟨B, 0, none⟩)) (tu : tmps.getD u undef = v) :
    (results fn tmps).run Tryz.prog W = .ok (.tuple #[vcl x, v]) W := by
  rw [results_cell_tmp h, tp, tu]
  obtain ⟨k0, k1, k2, k3⟩ := hB.cells
  simp [go_sem, vcl, asAddr, loadVar, loadCells, loadCellsFrom, k0, k1, k2, k3]
end Go.Proofs.YtijknodekomdfaaGreatDoor
namespace Go.Proofs.YtijknodekomdfaaGreatDoor
open Go.RowKit Go.Lib Go.Shelf

/-- the cells of a boxed configuration, as a condition on worlds -/
theorem BoxC.conj {w : World} {B : Nat} {nm : ByteArray} {kd : Int} {M : S} {ar : Option Addr} {nr cr : Nat} {aw : Option Addr} {nw cw : Nat} {af : Option Addr} {nf cf : Nat} (h : BoxC w B nm kd M ar nr cr aw nw cw af nf cf) :
    w.cell? ⟨B, 0, none⟩ = some (.string nm) ∧ w.cell? ⟨B, 1, none⟩ = some (.int .i64 kd) ∧ w.cell? ⟨B, 2, none⟩ = some (.int .u16 (sv M)) ∧ w.cell? ⟨B, 3, none⟩ = some (.slice ar nr cr) ∧ w.cell? ⟨B, 4, none⟩ = some (.slice aw nw cw) ∧ w.cell? ⟨B, 5, none⟩ = some (.slice af nf cf) :=
  ⟨h.c0, h.c1, h.c2, h.c3, h.c4, h.c5⟩
end Go.Proofs.YtijknodekomdfaaGreatDoor
namespace Go.Proofs.YtijknodekomdfaaGreatDoor
open Go.RowKit Go.Lib Go.Shelf

theorem dropF {l : List F2} {n i : Nat} (L : Hid (l.length = n)) (h : i < n) : l.drop i = fa l i :: l.drop (i + 1) := drop_fa l i (by have := L.out; omega)
end Go.Proofs.YtijknodekomdfaaGreatDoor
namespace Go.Proofs.YtijknodekomdfaaGreatDoor
open Go.RowKit Go.Lib Go.Shelf

end Go.Proofs.YtijknodekomdfaaGreatDoor
