/- slices.SortFunc and slices.Compact at rows of sets of the call's own; family.sorted. -/
import Derived.Test.YtbiggfbbccpcmaaDoorCompare
import Derived.Test.YtbiggfbbccpcmaaDoorSliceS
import Derived.Test.YtbiggfbbccpcmaaDoorSortLay
namespace Go.Proofs.YtbiggfbbccpcmaaDoor
open Go.RowKit Go.Lib Go.Shelf Go.Sort

def ltS (x y : S) : Bool := decide (cmpS x y < 0)
theorem ltS_iff (x y : S) : ltS x y = true ↔ cnt x < cnt y ∨ (cnt x = cnt y ∧ sv x < sv y) := by
  unfold ltS cmpS cmpI
  rw [decide_eq_true_eq]
  by_cases h : cnt x = cnt y
  · rw [if_pos h]; split <;> (try split) <;> omega
  · rw [if_neg h]; split <;> (try split) <;> omega
theorem ltS_f (x y : S) : ltS x y = false ↔ ¬ (cnt x < cnt y ∨ (cnt x = cnt y ∧ sv x < sv y)) := by
  rw [← ltS_iff]; simp
theorem swoS : SWO ltS where
  irrefl x := by rw [ltS_f]; omega
  trans x y z h1 h2 := by rw [ltS_iff] at *; omega
  ntrans x y z h1 h2 := by rw [ltS_f] at *; omega
theorem totS (x y : S) (h1 : ltS x y = false) (h2 : ltS y x = false) : x = y := by
  rw [ltS_f] at h1 h2
  exact sv_inj.1 (by omega)
def msort (l : List S) : List S := l.mergeSort fun x y => !ltS y x

theorem sl_eq (l : List S) : sl l = l.map vs := rfl
theorem own_put {e : TypeId} {w0 w : World} {g n cap : Nat} {l : List S} (h : Own e 1 w0 w (.slice (some ⟨g, 0, none⟩) n cap) n (sl l)) (d : Array S) (k : Nat) (hk : k ≤ d.size) (hkc : k ≤ cap) (q : Nat) (os : Array Obj) (hdn : d.size ≤ cap) :
    Own e 1 w0 (grow (putRow vs (Sort.ahead w q) g 0 d) os) (.slice (some ⟨g, 0, none⟩) k cap) k (sl (d.toList.take k)) := by
  obtain ⟨⟨h1, h2⟩, hK⟩ := h
  rcases h2 with ⟨h', _⟩ | ⟨g', cap', cur, h', hb, hg, hnc, hcm, hcs, htake⟩
  · simp at h'
  · simp only [Value.slice.injEq, Option.some.injEq, Addr.mk.injEq, and_true, true_and] at h'
    obtain ⟨rfl, rfl⟩ := h'
    have hgl := (Array.getElem?_eq_some_iff.1 hg).1
    have hheap : (grow (putRow vs (Sort.ahead w q) g 0 d) os).heap = (w.heap.modify g (onCells (putCells vs 0 d))) ++ os := rfl
    refine ⟨⟨by simp; omega, .inr ⟨g, cap, putCells vs 0 d cur, rfl, hb, ?_, hkc, hcm, ?_, ?_⟩⟩, ?_⟩
    · rw [hheap, Array.getElem?_append_left (by simpa using hgl), Array.getElem?_modify, if_pos rfl, hg]; rfl
    · simpa [putCells] using hcs
    · apply List.ext_getElem?
      intro j
      simp only [putCells, Array.toList_mapIdx, List.getElem?_take, List.getElem?_mapIdx, Array.getElem?_toList, sl, List.getElem?_map, Nat.mul_one]
      by_cases hj : j < k
      · have hjd : j < d.size := by omega
        have hjc : j < cur.size := by rw [hcs]; omega
        simp [hj, hjd, hjc, vs]
      · simp [hj]
    · refine ⟨hK.below.os, hK.below.tape, hK.below.output, ?_, fun i hi => ?_⟩
      · have := hK.size; rw [hheap]; simp; omega
      · have hs := hK.size
        rw [hheap, Array.getElem?_append_left (by simp; omega), Array.getElem?_modify, if_neg (by omega)]
        exact hK.below.block i hi
theorem own_holds {e : TypeId} {w0 w : World} {g n cap : Nat} {l : List S} (h : Own e 1 w0 w (.slice (some ⟨g, 0, none⟩) n cap) n (sl l)) : Holds vs w g 0 l.toArray ∧ g < w.heap.size := by
  have hl : l.length = n := by have := h.1.1; simpa using this
  refine ⟨fun j hj => ?_, (h.1.lt g rfl).2⟩
  have hj' : j < n := by simpa [hl] using hj
  refine ⟨?_, by rw [Nat.zero_add]; exact h.1.frozenAt j⟩
  rw [Nat.zero_add, h.1.cellAt j (by omega), sl]
  simp [show j < l.length by omega, vs]

theorem cmpLaysS (blk off size : Nat) (w : World) : CmpLays1 Tryd.prog 59 #[] vs cmpS blk off size w :=
  fun _ _ _ _ x y => (compare_grown x y _).mono fun _ _ h => h

theorem sortFunc_any (w0 w : World) (v : Value) (n : Nat) (l : List S) (h : Own 31 1 w0 w v n (sl l)) (hn : n ≤ 1000000) :
    Calls Tryd.prog 86 #[v, .func (.func 59) #[] #[]] w fun e w' => e = .returned (.tuple #[]) ∧ Own 31 1 w0 w' v n (sl (msort l)) := by
  have hl : l.length = n := by have := h.1.1; simpa using this
  have h0 := h
  rcases h.1.2 with ⟨rfl, rfl⟩ | ⟨g, cap, cur, rfl, hb, hg, hnc, hcm, hcs, htake⟩
  · have hl0 : l = [] := List.eq_nil_of_length_eq_zero hl
    subst hl0
    refine (AnyF.slices_SortFunc_none { sortS with } none 0 (.func (.func 59) #[] #[]) w).mono fun e w' ⟨he, hw⟩ => ⟨he, ?_⟩
    subst hw
    rw [show msort [] = [] from by simp [msort]]
    exact h0
  · obtain ⟨hH, hblk⟩ := own_holds h0
    have eg : ∀ args w, (callFunc 59 args).run Tryd.prog w = .ok (.enter 59 args) w := enters_of Tryd.func59 (by kernel_rfl) rfl
    have hcon := Any.slices_SortFunc_total sortS vs (fun _ => rfl) cmpS swoS 59 #[] g 0 cap l.toArray w eg (cmpLaysS g 0 l.toArray.size w) hH hblk (by simp; omega) totS
    have e1 : l.toArray.size = n := by simpa using hl
    rw [e1] at hcon
    refine Calls.mono (show Calls Tryd.prog 86 _ _ _ from hcon) fun e w' ⟨he, q, os, hw⟩ => ⟨he, ?_⟩
    subst hw
    have hms : (msort l).length = n := by rw [msort, List.length_mergeSort, hl]
    have := own_put h0 (msort l).toArray n (by simp; omega) hnc q os (by simp; omega)
    rw [List.take_of_length_le (by simp; omega)] at this
    exact this

/-- runs of equals, each once -/
def compactL (l : List S) : List S := compactUpTo l.toArray l.length
theorem compactL_le (l : List S) : (compactL l).length ≤ l.length := by
  unfold compactL compactUpTo
  rw [List.length_map]
  exact Nat.le_trans (List.length_filter_le _ _) (by simp)
theorem compactL_small (l : List S) (h : l.length < 2) : compactL l = l := by
  match l, h with
  | [], _ => rfl
  | [x], _ => rfl

theorem compact_any (w0 w : World) (v : Value) (n : Nat) (l : List S) (h : Own 31 1 w0 w v n (sl l)) (hn : n ≤ 1000000) :
    Calls Tryd.prog 87 #[v] w fun e w' => ∃ v', e = .returned v' ∧ Own 31 1 w0 w' v' (compactL l).length (sl (compactL l)) := by
  have hl : l.length = n := by have := h.1.1; simpa using this
  by_cases h2 : n < 2
  · rw [compactL_small l (by omega), hl]
    have H := Lib.hid h
    obtain ⟨a, c, rfl, _⟩ := h.rd
    have hlt : ((n : Int) < 2) := by omega
    clear h hl hn
    go_enter Tryd.func87, Tryd.ntmps87
    go_wp2
    go_ret
    exact ⟨_, rfl, H.out⟩
  · have h0 := h
    rcases h.1.2 with ⟨rfl, rfl⟩ | ⟨g, cap, cur, rfl, hb, hg, hnc, hcm, hcs, htake⟩
    · omega
    · obtain ⟨hH, hblk⟩ := own_holds h0
      have heq : EqlAt Tryd.prog 31 vs (fun x y => decide (x = y)) := ⟨fun x y w => by
        have := (EqlAt.intD Tryd.prog 31 .u16).1 (sv x) (sv y) w
        simpa [vs, sv_inj] using this, fun op a b x y w => by exact (EqlAt.intD Tryd.prog 31 .u16).2 op a b (sv x) (sv y) w⟩
      have hne : NeqAt Tryd.prog 31 vs (fun x y => decide (x = y)) := ⟨fun x y w => by
        have := (NeqAt.intD Tryd.prog 31 .u16).1 (sv x) (sv y) w
        simpa [vs, sv_inj] using this, fun op a b x y w => by exact (NeqAt.intD Tryd.prog 31 .u16).2 op a b (sv x) (sv y) w⟩
      have hcon := AnyE.slices_Compact compS vs (fun _ => rfl) heq hne 0#16 Tryd.zeroValue31 g 0 cap l.toArray w hH (by simp; omega) (by simp; omega)
      have e1 : l.toArray.size = n := by simpa using hl
      rw [e1] at hcon
      refine Calls.mono (show Calls Tryd.prog 87 _ _ _ from hcon) fun e w' ⟨he, q, hw⟩ => ?_
      have hcl : compactUpTo l.toArray n = compactL l := by unfold compactL; rw [hl]
      rw [hcl] at he hw
      have hle := compactL_le l
      refine ⟨_, he, ?_⟩
      subst hw
      have := own_put h0 (compactL l ++ List.replicate (n - (compactL l).length) 0#16).toArray (compactL l).length (by simp) (by omega) q #[] (by simp; omega)
      rw [grow_empty] at this
      simpa using this

/-- sorted, each once -/
def sortS' (l : List S) : List S := compactL (msort l)
theorem msort_length (l : List S) : (msort l).length = l.length := by rw [msort, List.length_mergeSort]

theorem sorted_any (a : Option Addr) (n c : Nat) (l : List S) (w : World) (h : Rd w a n c 1 (sl l)) (hn : n ≤ 1000000) :
    Calls Tryd.prog 81 #[.slice a n c] w fun e w' => ∃ v, e = .returned v ∧ Own 31 1 w w' v (sortS' l).length (sl (sortS' l)) := by
  have hl := h.lenS
  have hc := cloneS_any a n c (sl l) w h (sl_oneCell l) hn
  have hs := fun w1 v (hO : Own 31 1 w w1 v n (sl l)) => sortFunc_any w w1 v n l hO hn
  have hk := fun w1 v (hO : Own 31 1 w w1 v n (sl (msort l))) => compact_any w w1 v n (msort l) hO hn
  unfold sortS'
  generalize msort l = m at hs hk ⊢
  have HC := Lib.hid hc; have HS := Lib.hid hs; have HK := Lib.hid hk; clear hc hs hk hl h
  go_enter Tryd.func81, Tryd.ntmps81
  go_wp2_with fail
  refine HC.out.mono ?_
  rintro e w1 ⟨v1, rfl, hO⟩
  go_wp2_with fail
  refine (HS.out _ _ hO).mono ?_
  rintro e w2 ⟨rfl, hO2⟩
  go_wp2_with fail
  refine (HK.out _ _ hO2).mono ?_
  rintro e w3 ⟨v3, rfl, hO3⟩
  go_wp2_with fail
  go_ret
  exact ⟨_, rfl, hO3⟩
end Go.Proofs.YtbiggfbbccpcmaaDoor
