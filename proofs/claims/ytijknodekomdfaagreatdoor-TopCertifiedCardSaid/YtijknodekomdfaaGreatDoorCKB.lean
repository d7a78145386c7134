/- Texts joined into one, what is needed of them (a program of ours). -/
import Derived.Test.YtijknodekomdfaaGreatDoorCKA
import Derived.Test.YtijknodekomdfaaGreatDoorSortLay
namespace Go.Proofs.YtijknodekomdfaaGreatDoor
open Go.RowKit Go.Lib Go.Shelf Go.Sort

def ltS (x y : S) : Bool := decide (cmpS x y < 0)
theorem ltS_iff (x y : S) : ltS x y = true ↔ cnt x < cnt y ∨ (cnt x = cnt y ∧ sv x < sv y) := by
  unfold ltS cmpS cmpI
  rw [decide_eq_true_eq]
  by_cases h : cnt x = cnt y
  · rw [if_pos h]; split <;> (try split) <;> omega
  · rw [if_neg h]; split <;> (try split) <;> omega
theorem ltS_f (x y : S) : ltS x y = false ↔ ¬ (cnt x < cnt y ∨ (cnt x = cnt y ∧ sv x < sv y)) := by
  rw [← ltS_iff]; simp
theorem swoS : SWO ltS where
  irrefl x := by rw [ltS_f]; omega
  trans x y z h1 h2 := by rw [ltS_iff] at *; omega
  ntrans x y z h1 h2 := by rw [ltS_f] at *; omega
theorem totS (x y : S) (h1 : ltS x y = false) (h2 : ltS y x = false) : x = y := by
  rw [ltS_f] at h1 h2
  exact sv_inj.1 (by omega)
def msort (l : List S) : List S := l.mergeSort fun x y => !ltS y x

theorem own_put {e : TypeId} {w0 w : World} {g n cap : Nat} {l : List S} (h : Own e 1 w0 w (.slice (some ⟨g, 0, none⟩) n cap) n (sl l)) (d : Array S) (k : Nat) (hk : k ≤ d.size) (hkc : k ≤ cap) (q : Nat) (os : Array Obj) (hdn : d.size ≤ cap) :
    Own e 1 w0 (grow (putRow vs (Sort.ahead w q) g 0 d) os) (.slice (some ⟨g, 0, none⟩) k cap) k (sl (d.toList.take k)) := by
  obtain ⟨⟨h1, h2⟩, hK⟩ := h
  rcases h2 with ⟨h', _⟩ | ⟨g', cap', cur, h', hb, hg, hnc, hcm, hcs, htake⟩
  · simp at h'
  · simp only [Value.slice.injEq, Option.some.injEq, Addr.mk.injEq, and_true, true_and] at h'
    obtain ⟨rfl, rfl⟩ := h'
    have hgl := (Array.getElem?_eq_some_iff.1 hg).1
    have hheap : (grow (putRow vs (Sort.ahead w q) g 0 d) os).heap = (w.heap.modify g (onCells (putCells vs 0 d))) ++ os := rfl
    refine ⟨⟨by simp; omega, .inr ⟨g, cap, putCells vs 0 d cur, rfl, hb, ?_, hkc, hcm, ?_, ?_⟩⟩, ?_⟩
    · rw [hheap, Array.getElem?_append_left (by simpa using hgl), Array.getElem?_modify, if_pos rfl, hg]; rfl
    · simpa [putCells] using hcs
    · apply List.ext_getElem?
      intro j
      simp only [putCells, Array.toList_mapIdx, List.getElem?_take, List.getElem?_mapIdx, Array.getElem?_toList, sl, List.getElem?_map, Nat.mul_one]
      by_cases hj : j < k
      · have hjd : j < d.size := by omega
        have hjc : j < cur.size := by rw [hcs]; omega
        simp [hj, hjd, hjc, vs]
      · simp [hj]
    · refine ⟨hK.below.os, hK.below.tape, hK.below.output, ?_, fun i hi => ?_⟩
      · have := hK.size; rw [hheap]; simp; omega
      · have hs := hK.size
        rw [hheap, Array.getElem?_append_left (by simp; omega), Array.getElem?_modify, if_neg (by omega)]
        exact hK.below.block i hi
theorem own_holds {e : TypeId} {w0 w : World} {g n cap : Nat} {l : List S} (h : Own e 1 w0 w (.slice (some ⟨g, 0, none⟩) n cap) n (sl l)) : Holds vs w g 0 l.toArray ∧ g < w.heap.size := by
  have hl : l.length = n := by have := h.1.1; simpa using this
  refine ⟨fun j hj => ?_, (h.1.lt g rfl).2⟩
  have hj' : j < n := by simpa [hl] using hj
  refine ⟨?_, by rw [Nat.zero_add]; exact h.1.frozenAt j⟩
  rw [Nat.zero_add, h.1.cellAt j (by omega), sl]
  simp [show j < l.length by omega, vs]

theorem cmpLaysS (blk off size : Nat) (w : World) : CmpLays1 Tryz.prog 44 #[] vs cmpS blk off size w :=
  fun _ _ _ _ x y => (compare_grown x y _).mono fun _ _ h => h

theorem sortFunc_any (w0 w : World) (v : Value) (n : Nat) (l : List S) (h : Own 31 1 w0 w v n (sl l)) (hn : n ≤ 1000000) :
    Calls Tryz.prog 43 #[v, .func (.func 44) #[] #[]] w fun e w' => e = .returned (.tuple #[]) ∧ Own 31 1 w0 w' v n (sl (msort l)) := by
  have hl : l.length = n := by have := h.1.1; simpa using this
  have h0 := h
  rcases h.1.2 with ⟨rfl, rfl⟩ | ⟨g, cap, cur, rfl, hb, hg, hnc, hcm, hcs, htake⟩
  · have hl0 : l = [] := List.eq_nil_of_length_eq_zero hl
    subst hl0
    refine (AnyF.slices_SortFunc_none { sortS with } none 0 (.func (.func 44) #[] #[]) w).mono fun e w' ⟨he, hw⟩ => ⟨he, ?_⟩
    subst hw
    rw [show msort [] = [] from by simp [msort]]
    exact h0
  · obtain ⟨hH, hblk⟩ := own_holds h0
    have eg : ∀ args w, (callFunc 44 args).run Tryz.prog w = .ok (.enter 44 args) w := enters_of Tryz.func44 (by kernel_rfl) rfl
    have hcon := Any.slices_SortFunc_total sortS vs (fun _ => rfl) cmpS swoS 44 #[] g 0 cap l.toArray w eg (cmpLaysS g 0 l.toArray.size w) hH hblk (by simp; omega) totS
    have e1 : l.toArray.size = n := by simpa using hl
    rw [e1] at hcon
    refine Calls.mono (show Calls Tryz.prog 43 _ _ _ from hcon) fun e w' ⟨he, q, os, hw⟩ => ⟨he, ?_⟩
    subst hw
    have hms : (msort l).length = n := by rw [msort, List.length_mergeSort, hl]
    have := own_put h0 (msort l).toArray n (by simp; omega) hnc q os (by simp; omega)
    rw [List.take_of_length_le (by simp; omega)] at this
    exact this

/-- runs of equals, each once -/
def compactL (l : List S) : List S := compactUpTo l.toArray l.length
theorem compactL_le (l : List S) : (compactL l).length ≤ l.length := by
  unfold compactL compactUpTo
  rw [List.length_map]
  exact Nat.le_trans (List.length_filter_le _ _) (by simp)
theorem compactL_small (l : List S) (h : l.length < 2) : compactL l = l := by
  match l, h with
  | [], _ => rfl
  | [x], _ => rfl

theorem compact_any (w0 w : World) (v : Value) (n : Nat) (l : List S) (h : Own 31 1 w0 w v n (sl l)) (hn : n ≤ 1000000) :
    Calls Tryz.prog 45 #[v] w fun e w' => ∃ v', e = .returned v' ∧ Own 31 1 w0 w' v' (compactL l).length (sl (compactL l)) := by
  have hl : l.length = n := by have := h.1.1; simpa using this
  by_cases h2 : n < 2
  · rw [compactL_small l (by omega), hl]
    have H := Lib.hid h
    obtain ⟨a, c, rfl, _⟩ := h.rd
    have hlt : ((n : Int) < 2) := by omega
    clear h hl hn
    go_enter Tryz.func45, Tryz.ntmps45
    go_wp2
    go_ret
    exact ⟨_, rfl, H.out⟩
  · have h0 := h
    rcases h.1.2 with ⟨rfl, rfl⟩ | ⟨g, cap, cur, rfl, hb, hg, hnc, hcm, hcs, htake⟩
    · omega
    · obtain ⟨hH, hblk⟩ := own_holds h0
      have heq : EqlAt Tryz.prog 31 vs (fun x y => decide (x = y)) := ⟨fun x y w => by
        have := (EqlAt.intD Tryz.prog 31 .u16).1 (sv x) (sv y) w
        simpa [vs, sv_inj] using this, fun op a b x y w => by exact (EqlAt.intD Tryz.prog 31 .u16).2 op a b (sv x) (sv y) w⟩
      have hne : NeqAt Tryz.prog 31 vs (fun x y => decide (x = y)) := ⟨fun x y w => by
        have := (NeqAt.intD Tryz.prog 31 .u16).1 (sv x) (sv y) w
        simpa [vs, sv_inj] using this, fun op a b x y w => by exact (NeqAt.intD Tryz.prog 31 .u16).2 op a b (sv x) (sv y) w⟩
      have hcon := AnyE.slices_Compact compS vs (fun _ => rfl) heq hne 0#16 Tryz.zeroValue31 g 0 cap l.toArray w hH (by simp; omega) (by simp; omega)
      have e1 : l.toArray.size = n := by simpa using hl
      rw [e1] at hcon
      refine Calls.mono (show Calls Tryz.prog 45 _ _ _ from hcon) fun e w' ⟨he, q, hw⟩ => ?_
      have hcl : compactUpTo l.toArray n = compactL l := by unfold compactL; rw [hl]
      rw [hcl] at he hw
      have hle := compactL_le l
      refine ⟨_, he, ?_⟩
      subst hw
      have := own_put h0 (compactL l ++ List.replicate (n - (compactL l).length) 0#16).toArray (compactL l).length (by simp) (by omega) q #[] (by simp; omega)
      rw [grow_empty] at this
      simpa using this

/-- sorted, each once -/
def sortS' (l : List S) : List S := compactL (msort l)
theorem msort_length (l : List S) : (msort l).length = l.length := by rw [msort, List.length_mergeSort]

theorem sorted_any (a : Option Addr) (n c : Nat) (l : List S) (w : World) (h : Rd w a n c 1 (sl l)) (hn : n ≤ 1000000) :
    Calls Tryz.prog 183 #[.slice a n c] w fun e w' => ∃ v, e = .returned v ∧ Own 31 1 w w' v (sortS' l).length (sl (sortS' l)) := by
  have hl := h.lenS
  have hc := cloneS_any a n c (sl l) w h (sl_oneCell l) hn
  have hs := fun w1 v (hO : Own 31 1 w w1 v n (sl l)) => sortFunc_any w w1 v n l hO hn
  have hk := fun w1 v (hO : Own 31 1 w w1 v n (sl (msort l))) => compact_any w w1 v n (msort l) hO hn
  unfold sortS'
  generalize msort l = m at hs hk ⊢
  have HC := Lib.hid hc; have HS := Lib.hid hs; have HK := Lib.hid hk; clear hc hs hk hl h
  go_enter Tryz.func183, Tryz.ntmps183
  go_wp2_with fail
  refine HC.out.mono ?_
  rintro e w1 ⟨v1, rfl, hO⟩
  go_wp2_with fail
  refine (HS.out _ _ hO).mono ?_
  rintro e w2 ⟨rfl, hO2⟩
  go_wp2_with fail
  refine (HK.out _ _ hO2).mono ?_
  rintro e w3 ⟨v3, rfl, hO3⟩
  go_wp2_with fail
  go_ret
  exact ⟨_, rfl, hO3⟩
end Go.Proofs.YtijknodekomdfaaGreatDoor
namespace Go.Proofs.YtijknodekomdfaaGreatDoor
open Go.RowKit Go.Lib Go.Shelf

/-- a list accepts a set -/
def accS (f : List S) (s : S) : Bool := f.any fun x => x &&& ~~~s == 0#16

theorem contains_any (a b : S) (w : World) : Calls Tryz.prog 166 #[.int .u16 (sv a), .int .u16 (sv b)] w fun e w' => e = .returned (.bool (b &&& ~~~a == 0#16)) ∧ w = w' := by
  go_enter Tryz.func166, Tryz.ntmps166
  go_wp2
  go_ret
  exact ⟨rfl, rfl⟩

theorem acceptsPred (s : S) (B : Nat) (l : List S) (w : World) (hc : w.cell? ⟨B, 0, none⟩ = some (.int .u16 (sv s))) :
    PredK Tryz.prog 165 #[.pointer (some ⟨B, 0, none⟩)] vs (fun x => x &&& ~~~s == 0#16) l w := fun W x _ hk => by
  have hc' := hk.cell hc
  have hcall := Lib.hid (contains_any s x)
  show Calls Tryz.prog 165 #[.int .u16 (sv x), .pointer (some ⟨B, 0, none⟩)] W _
  go_enter Tryz.func165, Tryz.ntmps165
  go_wp2_with (go_at_call 166; refine (hcall.out _).mono ?_; rintro e w' ⟨rfl, rfl⟩)
  go_ret
  exact ⟨rfl, Keeps.refl _⟩

theorem accepts_any (a : Option Addr) (n c : Nat) (l : List S) (s : S) (w : World) (h : Rd w a n c 1 (sl l)) :
    Calls Tryz.prog 101 #[.slice a n c, .int .u16 (sv s)] w fun e w' => e = .returned (.bool (accS l s)) ∧ Keeps w w' := by
  have eg : ∀ args w, (callFunc 165 args).run Tryz.prog w = .ok (.enter 165 args) w := enters_of Tryz.func165 (by kernel_rfl) rfl
  have hK := (Keeps.refl w).alloc (.cells #[.int .u16 (sv s)] 31)
  have hcon := containsFuncS_any a n c l (w.alloc (.cells #[.int .u16 (sv s)] 31)) 165 #[.pointer (some ⟨w.heap.size, 0, none⟩)] (fun x => x &&& ~~~s == 0#16) (h.keep hK) eg
    (acceptsPred s w.heap.size l _ (by rw [World.cell?_alloc_at _ _ _ _ rfl]; rfl))
  change Calls _ _ _ _ (fun e w' => e = .returned (.bool (accS l s)) ∧ _) at hcon
  generalize accS l s = r at hcon ⊢
  have HC := Lib.hid hcon; clear hcon eg h
  go_enter Tryz.func101, Tryz.ntmps101
  go_wp2_with (go_at_call 46; refine HC.out.mono ?_; rintro e w' ⟨rfl, K2⟩)
  go_ret
  exact ⟨rfl, hK.trans K2⟩

/-- what least gathers -/
def leastR : List S → List S → List S
  | acc, [] => acc
  | acc, s :: rest => if accS acc s then leastR acc rest else leastR (acc ++ [s]) rest
/-- the minimal sets, as the program finds them -/
def leastP (l : List S) : List S := leastR [] (sortS' l)

/-- a list and an error number come back -/
def RetS (w0 : World) (r : List S × Int) (e : Ending) (w' : World) : Prop :=
  ∃ v, e = .returned (.tuple #[v, .int .i64 r.2]) ∧ Own 31 1 w0 w' v r.1.length (sl r.1)
def limS (l : List S) : List S × Int := if 400 < l.length then ([], 3) else (l, 0)
theorem limited_any (v : Value) (l : List S) (w0 w : World) (h : Own 31 1 w0 w v l.length (sl l)) :
    Calls Tryz.prog 127 #[v] w fun e w' => RetS w0 (limS l) e w' := by
  obtain ⟨a, c, rfl, hR⟩ := h.rd
  have H := Lib.hid h; clear h hR
  by_cases h4 : 400 < l.length
  · have e1 : limS l = ([], 3) := if_pos h4
    rw [e1]
    clear e1
    go_enter Tryz.func127, Tryz.ntmps127
    go_wp2
    go_ret2
    exact ⟨_, rfl, Own.nil _ _ H.out.2⟩
  · have e1 : limS l = (l, 0) := if_neg h4
    rw [e1]
    clear e1
    go_enter Tryz.func127, Tryz.ntmps127
    go_wp2
    go_ret2
    exact ⟨_, rfl, H.out⟩
end Go.Proofs.YtijknodekomdfaaGreatDoor
namespace Go.Proofs.YtijknodekomdfaaGreatDoor
open Go.RowKit Go.Lib Go.Shelf

theorem refContains_any (a b : S) (w : World) : Calls Tryz.prog 143 #[.int .u16 (sv a), .int .u16 (sv b)] w fun e w' => e = .returned (.bool (b &&& ~~~a == 0#16)) ∧ w' = w := by
  go_enter Tryz.func143, Tryz.ntmps143
  go_wp2
  go_ret
  exact ⟨rfl, rfl⟩

theorem before_any (a b : S) (w : World) : Calls Tryz.prog 192 #[.int .u16 (sv a), .int .u16 (sv b)] w fun e w' => e = .returned (.bool (ltS a b)) ∧ w' = w := by
  have h := ltS_iff a b
  by_cases hc : cnt a = cnt b
  · have hb : ((cnt a : Int) != (cnt b : Int)) = false := by simp [hc]
    have he : ltS a b = decide (sv a < sv b) := by rw [Bool.eq_iff_iff, h, decide_eq_true_eq]; omega
    rw [he]
    clear h he hc
    go_enter Tryz.func192, Tryz.ntmps192
    go_wp2_with fail
    refine (refSize_any a _).mono ?_
    rintro e w' ⟨rfl, rfl⟩
    go_wp2_with fail
    refine (refSize_any b _).mono ?_
    rintro e w' ⟨rfl, rfl⟩
    go_wp2_with fail
    go_ret
    exact ⟨rfl, rfl⟩
  · have hb : ((cnt a : Int) != (cnt b : Int)) = true := by rw [bne_iff_ne]; omega
    have he : ltS a b = decide (cnt a < cnt b) := by rw [Bool.eq_iff_iff, h, decide_eq_true_eq]; omega
    rw [he]
    clear h he hc
    go_enter Tryz.func192, Tryz.ntmps192
    go_wp2_with fail
    refine (refSize_any a _).mono ?_
    rintro e w' ⟨rfl, rfl⟩
    go_wp2_with fail
    refine (refSize_any b _).mono ?_
    rintro e w' ⟨rfl, rfl⟩
    go_wp2_with fail
    refine (refSize_any a _).mono ?_
    rintro e w' ⟨rfl, rfl⟩
    go_wp2_with fail
    refine (refSize_any b _).mono ?_
    rintro e w' ⟨rfl, rfl⟩
    go_wp2_with fail
    go_ret
    exact ⟨rfl, rfl⟩

end Go.Proofs.YtijknodekomdfaaGreatDoor
namespace Go.Proofs.YtijknodekomdfaaGreatDoor
open Go.RowKit Go.Lib Go.Shelf

/-- how many sets at the front come before x -/
def posS : List S → S → Nat
  | [], _ => 0
  | y :: ys, x => if ltS y x = true then posS ys x + 1 else 0
def insAt (l : List S) (k : Nat) (y : S) : List S := l.take k ++ y :: l.drop k
/-- insertion, unless it is there -/
def insU (l : List S) (x : S) : List S := if posS l x < l.length ∧ at_ l (posS l x) = x then l else insAt l (posS l x) x
/-- what Sorted gathers -/
def sortR : List S → List S → List S
  | acc, [] => acc
  | acc, x :: xs => sortR (insU acc x) xs
theorem insAt_length (l : List S) (k : Nat) (y : S) (h : k ≤ l.length) : (insAt l k y).length = l.length + 1 := by simp [insAt]; omega
theorem insAt_set (l : List S) (k : Nat) (y x : S) (h : k ≤ l.length) : (insAt l k y).set k x = insAt l k x := by
  unfold insAt
  rw [List.set_append_right _ _ (by simp; omega)]
  simp [Nat.min_eq_left h]
theorem insAt_shift (l : List S) (k : Nat) (y : S) (h : k + 1 ≤ l.length) : (insAt l (k + 1) y).set (k + 1) (at_ l k) = insAt l k (at_ l k) := by
  rw [insAt_set _ _ _ _ h]
  unfold insAt
  rw [take_at l k (by omega), drop_at l k (by omega)]
  simp
theorem at_insAt (l : List S) (k : Nat) (y : S) (h : k + 1 ≤ l.length) : at_ (insAt l (k + 1) y) k = at_ l k := by
  unfold insAt at_
  rw [List.getD_eq_getElem?_getD, List.getElem?_append_left (by simp; omega)]
  simp [List.getD_eq_getElem?_getD]
theorem insAt_shift' (l : List S) (k : Nat) (y : S) (h1 : 1 ≤ k) (h : k ≤ l.length) : (insAt l k y).set k (at_ l (k - 1)) = insAt l (k - 1) (at_ l (k - 1)) := by
  obtain ⟨q, rfl⟩ : ∃ q, k = q + 1 := ⟨k - 1, by omega⟩
  exact insAt_shift l q y h
theorem at_insAt' (l : List S) (k : Nat) (y : S) (h1 : 1 ≤ k) (h : k ≤ l.length) : at_ (insAt l k y) (k - 1) = at_ l (k - 1) := by
  obtain ⟨q, rfl⟩ : ∃ q, k = q + 1 := ⟨k - 1, by omega⟩
  exact at_insAt l q y h
theorem insAt_end (l : List S) (y : S) : insAt l l.length y = l ++ [y] := by simp [insAt]

/-- is no other set of s inside x? the sets from place k on; x stands at place i -/
def loneR (x : S) (i : Nat) : List S → Nat → Bool → Bool
  | [], _, r => r
  | y :: ys, k, r => loneR x i ys (k + 1) (r && !(decide (i ≠ k) && y &&& ~~~x == 0#16))
/-- what Least gathers -/
def minR (s : List S) : List S → Nat → List S → List S
  | [], _, acc => acc
  | x :: xs, i, acc => minR s xs (i + 1) (if loneR x i s 0 true = true then acc ++ [x] else acc)
def refLeast (l : List S) : List S := minR (sortR [] l) (sortR [] l) 0 []
theorem insU_length (l : List S) (x : S) : (insU l x).length ≤ l.length + 1 := by
  unfold insU insAt
  split
  · omega
  · simp; omega
theorem sortR_length (acc l : List S) : (sortR acc l).length ≤ acc.length + l.length := by
  induction l generalizing acc with
  | nil => simp [sortR]
  | cons x xs ih => have := ih (insU acc x); have := insU_length acc x; simp only [sortR, List.length_cons]; omega

end Go.Proofs.YtijknodekomdfaaGreatDoor
namespace Go.Proofs.YtijknodekomdfaaGreatDoor
open Go.RowKit Go.Lib

/-- y lies inside x -/
def sub (y x : S) : Bool := y &&& ~~~x == 0#16
theorem sub_iff (y x : S) : sub y x = true ↔ ∀ i, i < 16 → y.getLsbD i = true → x.getLsbD i = true := by
  unfold sub
  rw [beq_iff_eq]
  constructor
  · intro h i hi hy
    have := congrArg (fun z : S => z.getLsbD i) h
    simp [hy, hi] at this
    exact this
  · intro h
    apply BitVec.eq_of_getLsbD_eq
    intro i hi
    simp only [BitVec.getLsbD_and, BitVec.getLsbD_not, hi, decide_true, Bool.true_and, BitVec.getLsbD_zero]
    cases hy : y.getLsbD i with
    | false => rfl
    | true => rw [h i hi hy]; rfl
theorem sub_refl (x : S) : sub x x = true := (sub_iff x x).2 fun _ _ h => h
theorem sub_trans {x y z : S} (h1 : sub x y = true) (h2 : sub y z = true) : sub x z = true := by
  rw [sub_iff] at *; exact fun i hi h => h2 i hi (h1 i hi h)
theorem cntTo_sub {y x : S} (h : sub y x = true) (n : Nat) (hn : n ≤ 16) : cntTo y n ≤ cntTo x n ∧ (cntTo y n = cntTo x n → ∀ i, i < n → y.getLsbD i = x.getLsbD i) := by
  induction n with
  | zero => exact ⟨Nat.le_refl _, fun _ i hi => absurd hi (Nat.not_lt_zero _)⟩
  | succ n ih =>
    obtain ⟨h1, h2⟩ := ih (by omega)
    have hb := (sub_iff y x).1 h n (by omega)
    have ey := bit_eq y n
    have ex := bit_eq x n
    simp only [cntTo, ey, ex]
    cases hy : y.getLsbD n <;> cases hx : x.getLsbD n
    · simp
      exact ⟨h1, fun e i hi => by
        rcases Nat.lt_succ_iff_lt_or_eq.1 hi with h3 | rfl
        · exact h2 (by omega) i h3
        · rw [hy, hx]⟩
    · simp
      exact ⟨by omega, fun e => by omega⟩
    · rw [hy] at hb; rw [hx] at hb; simp at hb
    · simp
      exact ⟨h1, fun e i hi => by
        rcases Nat.lt_succ_iff_lt_or_eq.1 hi with h3 | rfl
        · exact h2 (by omega) i h3
        · rw [hy, hx]⟩
theorem cnt_sub {y x : S} (h : sub y x = true) : cnt y ≤ cnt x := (cntTo_sub h 16 (Nat.le_refl _)).1
theorem cnt_lt {y x : S} (h : sub y x = true) (hne : y ≠ x) : cnt y < cnt x := by
  obtain ⟨h1, h2⟩ := cntTo_sub h 16 (Nat.le_refl _)
  rcases Nat.lt_or_ge (cnt y) (cnt x) with h3 | h3
  · exact h3
  · exact absurd (BitVec.eq_of_getLsbD_eq fun i hi => h2 (Nat.le_antisymm h1 h3) i hi) hne
theorem sub_lt {y x : S} (h : sub y x = true) (hne : y ≠ x) : ltS y x = true := (ltS_iff y x).2 (.inl (cnt_lt h hne))

def Asc (l : List S) : Prop := l.Pairwise fun x y => ltS x y = true
theorem ltS_trans {x y z : S} (h1 : ltS x y = true) (h2 : ltS y z = true) : ltS x z = true := swoS.trans x y z h1 h2
theorem ltS_irrefl (x : S) : ltS x x = false := swoS.irrefl x
theorem ltS_asymm {x y : S} (h : ltS x y = true) : ltS y x = false := by
  cases h2 : ltS y x with
  | false => rfl
  | true => have := ltS_trans h h2; rw [ltS_irrefl] at this; cases this
theorem ltS_total (x y : S) : ltS x y = true ∨ x = y ∨ ltS y x = true := by
  cases h1 : ltS x y with
  | true => exact .inl rfl
  | false =>
    cases h2 : ltS y x with
    | true => exact .inr (.inr rfl)
    | false => exact .inr (.inl (totS x y h1 h2))
/-- Strictly sorted lists with the same members are one. -/
theorem asc_ext : ∀ {l m : List S}, Asc l → Asc m → (∀ x, x ∈ l ↔ x ∈ m) → l = m
  | [], [], _, _, _ => rfl
  | [], y :: ys, _, _, h => absurd ((h y).2 (by simp)) (by simp)
  | x :: xs, [], _, _, h => absurd ((h x).1 (by simp)) (by simp)
  | x :: xs, y :: ys, hl, hm, h => by
    obtain ⟨hx, hxs⟩ := List.pairwise_cons.1 hl
    obtain ⟨hy, hys⟩ := List.pairwise_cons.1 hm
    have e : x = y := by
      rcases List.mem_cons.1 ((h x).1 (by simp)) with e | e
      · exact e
      · rcases List.mem_cons.1 ((h y).2 (by simp)) with e2 | e2
        · exact e2.symm
        · have h1 := hx y e2
          have h2 := hy x e
          rw [ltS_asymm h1] at h2; cases h2
    subst e
    congr 1
    refine asc_ext hxs hys fun z => ⟨fun hz => ?_, fun hz => ?_⟩
    · rcases List.mem_cons.1 ((h z).1 (List.mem_cons_of_mem _ hz)) with e | e
      · subst e; have := hx z hz; rw [ltS_irrefl] at this; cases this
      · exact e
    · rcases List.mem_cons.1 ((h z).2 (List.mem_cons_of_mem _ hz)) with e | e
      · subst e; have := hy z hz; rw [ltS_irrefl] at this; cases this
      · exact e

theorem posS_le (l : List S) (x : S) : posS l x ≤ l.length := by
  induction l with
  | nil => simp [posS]
  | cons y ys ih => unfold posS; split <;> simp; omega
theorem posS_take (l : List S) (x : S) : ∀ y ∈ l.take (posS l x), ltS y x = true := by
  induction l with
  | nil => simp
  | cons y ys ih =>
    unfold posS
    split
    · rename_i h
      intro z hz
      simp only [List.take_succ_cons, List.mem_cons] at hz
      rcases hz with rfl | hz
      · exact h
      · exact ih z hz
    · simp
theorem posS_at (l : List S) (x : S) (h : posS l x < l.length) : ltS (at_ l (posS l x)) x = false := by
  induction l with
  | nil => simp at h
  | cons y ys ih =>
    unfold posS at h ⊢
    split
    · rename_i hy
      rw [if_pos hy] at h
      have := ih (by simpa using h)
      simpa [at_] using this
    · rename_i hy
      simpa [at_] using hy
theorem asc_drop {l : List S} (h : Asc l) (k : Nat) : Asc (l.drop k) := List.Pairwise.sublist (List.drop_sublist k l) h
theorem insU_asc {l : List S} (x : S) (h : Asc l) : Asc (insU l x) ∧ ∀ z, z ∈ insU l x ↔ z = x ∨ z ∈ l := by
  have hle := posS_le l x
  have htake := posS_take l x
  unfold insU
  split
  · rename_i hc
    refine ⟨h, fun z => ⟨.inr, fun hz => ?_⟩⟩
    rcases hz with rfl | hz
    · rw [← hc.2]; exact at_mem hc.1
    · exact hz
  · rename_i hc
    have hmem : ∀ z, z ∈ insAt l (posS l x) x ↔ z = x ∨ z ∈ l := fun z => by
      unfold insAt
      rw [List.mem_append, List.mem_cons]
      constructor
      · rintro (hz | rfl | hz)
        · exact .inr (List.mem_of_mem_take hz)
        · exact .inl rfl
        · exact .inr (List.mem_of_mem_drop hz)
      · rintro (rfl | hz)
        · exact .inr (.inl rfl)
        · rw [← List.take_append_drop (posS l x) l, List.mem_append] at hz
          rcases hz with hz | hz
          · exact .inl hz
          · exact .inr (.inr hz)
    refine ⟨?_, hmem⟩
    have hdrop : ∀ y ∈ l.drop (posS l x), ltS x y = true := fun y hy => by
      rcases Nat.lt_or_ge (posS l x) l.length with hlt | hge
      · have h1 := posS_at l x hlt
        have h2 : at_ l (posS l x) ≠ x := fun e => hc ⟨hlt, e⟩
        have h3 : ltS x (at_ l (posS l x)) = true := by
          rcases ltS_total (at_ l (posS l x)) x with h4 | h4 | h4
          · rw [h4] at h1; cases h1
          · exact absurd h4 h2
          · exact h4
        have h5 := asc_drop h (posS l x)
        rw [drop_at l _ hlt] at hy h5
        rcases List.mem_cons.1 hy with rfl | hy
        · exact h3
        · exact ltS_trans h3 ((List.pairwise_cons.1 h5).1 y hy)
      · rw [List.drop_eq_nil_iff.2 hge] at hy; simp at hy
    unfold insAt Asc
    rw [List.pairwise_append]
    refine ⟨List.Pairwise.sublist (List.take_sublist _ l) h, List.pairwise_cons.2 ⟨hdrop, asc_drop h _⟩, fun y hy z hz => ?_⟩
    rcases List.mem_cons.1 hz with rfl | hz
    · exact htake y hy
    · exact ltS_trans (htake y hy) (hdrop z hz)
theorem sortR_asc (l : List S) : ∀ {acc : List S}, Asc acc → Asc (sortR acc l) ∧ ∀ z, z ∈ sortR acc l ↔ z ∈ acc ∨ z ∈ l := by
  induction l with
  | nil => intro acc h; exact ⟨h, fun z => by simp [sortR]⟩
  | cons x xs ih =>
    intro acc h
    obtain ⟨h1, h2⟩ := insU_asc x h
    obtain ⟨h3, h4⟩ := ih h1
    refine ⟨h3, fun z => ?_⟩
    rw [sortR, h4, h2, List.mem_cons]
    constructor
    · rintro ((rfl | h) | h)
      · exact .inr (.inl rfl)
      · exact .inl h
      · exact .inr (.inr h)
    · rintro (h | rfl | h)
      · exact .inl (.inr h)
      · exact .inl (.inl rfl)
      · exact .inr h

theorem msort_mem (l : List S) (x : S) : x ∈ msort l ↔ x ∈ l := (List.mergeSort_perm l _).mem_iff
theorem msort_sorted (l : List S) : (msort l).Pairwise fun x y => ltS y x = false := by
  have h := List.pairwise_mergeSort (le := fun x y => !ltS y x) (fun a b c h1 h2 => by
    simp only [Bool.not_eq_true'] at *
    exact swoS.ntrans c b a h2 h1) (fun a b => by
    cases h1 : ltS b a <;> cases h2 : ltS a b <;> simp
    rw [ltS_asymm h1] at h2; cases h2) l
  exact h.imp fun {a b} h => by simpa using h
theorem bang_at (l : List S) (i : Nat) (h : i < l.length) : l.toArray[i]! = at_ l i := by
  simp [at_, h]
theorem compact_asc {l : List S} (h : l.Pairwise fun x y => ltS y x = false) : Asc (compactL l) ∧ ∀ z, z ∈ compactL l ↔ z ∈ l := by
  have hle : ∀ i j, i ≤ j → j < l.length → ltS (at_ l j) (at_ l i) = false := fun i j hij hj => by
    rcases Nat.lt_or_ge i j with h1 | h1
    · have := List.pairwise_iff_getElem.1 h i j (by omega) hj h1
      simpa [at_, show i < l.length by omega, hj] using this
    · obtain rfl : i = j := by omega
      exact ltS_irrefl _
  have key : ∀ m, m ≤ l.length → Asc (compactUpTo l.toArray m) ∧ ∀ z, z ∈ compactUpTo l.toArray m ↔ z ∈ l.take m := fun m => by
    induction m with
    | zero => intro _; exact ⟨List.Pairwise.nil, fun z => by simp [compactUpTo]⟩
    | succ m ih =>
      intro hm
      obtain ⟨h1, h2⟩ := ih (by omega)
      have hb : l.toArray[m]! = at_ l m := bang_at l m (by omega)
      rw [compactUpTo_succ, take_at l m (by omega), hb]
      cases hkp : keeps l.toArray m with
      | false =>
        have hk2 : ¬ (m = 0 ∨ at_ l m ≠ at_ l (m - 1)) := by
          unfold keeps at hkp
          rw [decide_eq_false_iff_not, hb] at hkp
          intro hc
          apply hkp
          rcases hc with hc | hc
          · exact .inl hc
          · rw [bang_at l (m - 1) (by omega)]; exact .inr hc
        simp only [Bool.false_eq_true, if_false, List.append_nil]
        refine ⟨h1, fun z => ?_⟩
        rw [h2, List.mem_append, List.mem_singleton]
        constructor
        · exact .inl
        · rintro (hz | hz)
          · exact hz
          · have hm0 : m ≠ 0 := fun e => hk2 (.inl e)
            have he : at_ l m = at_ l (m - 1) := by
              rcases Decidable.em (at_ l m = at_ l (m - 1)) with e | e
              · exact e
              · exact absurd (.inr e) hk2
            have : at_ l (m - 1) ∈ l.take m := by
              have e1 := take_at l (m - 1) (by omega)
              rw [show m - 1 + 1 = m from by omega] at e1
              rw [e1]; simp
            rw [hz, he]; exact this
      | true =>
        simp only [if_true]
        refine ⟨?_, fun z => by rw [List.mem_append, List.mem_append, h2]⟩
        unfold Asc
        rw [List.pairwise_append]
        refine ⟨h1, List.pairwise_singleton _ _, fun z hz y hy => ?_⟩
        rw [List.mem_singleton] at hy
        subst hy
        rw [h2] at hz
        obtain ⟨q, hq, rfl⟩ := List.getElem_of_mem hz
        have hqm : q < m := by simp at hq; omega
        have ez : (l.take m)[q] = at_ l q := by simp [at_, List.getD, show q < l.length by omega]
        rw [ez]
        have g1 := hle q m (by omega) (by omega)
        rcases ltS_total (at_ l q) (at_ l m) with g | g | g
        · exact g
        · exfalso
          have g2 := hle q (m - 1) (by omega) (by omega)
          have g3 := hle (m - 1) m (by omega) (by omega)
          rw [g] at g2
          have g4 := totS _ _ g2 g3
          unfold keeps at hkp
          rw [decide_eq_true_eq, hb, bang_at l (m - 1) (by omega)] at hkp
          rcases hkp with e | e
          · omega
          · exact e g4.symm
        · rw [g1] at g; cases g
  obtain ⟨k1, k2⟩ := key l.length (Nat.le_refl _)
  rw [List.take_of_length_le (Nat.le_refl _)] at k2
  exact ⟨k1, k2⟩
theorem sortS_asc (l : List S) : Asc (sortS' l) ∧ ∀ z, z ∈ sortS' l ↔ z ∈ l := by
  obtain ⟨h1, h2⟩ := compact_asc (msort_sorted l)
  exact ⟨h1, fun z => by rw [sortS', h2, msort_mem]⟩
/-- The program and the reference sort alike. -/
theorem sort_same (l : List S) : sortS' l = sortR [] l := by
  obtain ⟨h1, h2⟩ := sortS_asc l
  obtain ⟨h3, h4⟩ := sortR_asc l (acc := []) List.Pairwise.nil
  exact asc_ext h1 h3 fun x => by rw [h2, h4]; simp

/-- no other set of s lies inside x -/
def lone (s : List S) (x : S) : Bool := s.all fun y => decide (y = x) || !sub y x
theorem lone_iff (s : List S) (x : S) : lone s x = true ↔ ∀ y ∈ s, sub y x = true → y = x := by
  unfold lone
  rw [List.all_eq_true]
  constructor
  · intro h y hy hs
    have := h y hy
    rw [hs] at this
    simpa using this
  · intro h y hy
    cases hs : sub y x with
    | false => simp
    | true => simp [h y hy hs]
theorem below_lone (s : List S) : ∀ (n : Nat) (x : S), cnt x = n → x ∈ s → ∃ y ∈ s, lone s y = true ∧ sub y x = true := by
  intro n
  induction n using Nat.strongRecOn with
  | _ n ih =>
    intro x hx hm
    cases hl : lone s x with
    | true => exact ⟨x, hm, hl, sub_refl x⟩
    | false =>
      have : ¬ ∀ y ∈ s, sub y x = true → y = x := fun h => by rw [(lone_iff s x).2 h] at hl; cases hl
      simp only [Classical.not_forall] at this
      obtain ⟨y, hy, hs, hne⟩ := this
      have hlt := cnt_lt hs hne
      obtain ⟨z, hz, h1, h2⟩ := ih (cnt y) (by omega) y rfl hy
      exact ⟨z, hz, h1, sub_trans h2 hs⟩
theorem accS_iff (f : List S) (x : S) : accS f x = true ↔ ∃ y ∈ f, sub y x = true := by
  unfold accS sub; rw [List.any_eq_true]
theorem leastR_filter (s : List S) (hs : Asc s) : ∀ (rest pre acc : List S), s = pre ++ rest → acc = pre.filter (lone s) → leastR acc rest = s.filter (lone s) := by
  intro rest
  induction rest with
  | nil => intro pre acc h1 h2; rw [leastR, h2, h1]; simp
  | cons x xs ih =>
    intro pre acc h1 h2
    have hx : x ∈ s := by rw [h1]; simp
    have hord := hs
    rw [h1] at hord
    obtain ⟨-, hr, hpr⟩ := List.pairwise_append.1 hord
    have hacc : accS acc x = !lone s x := by
      cases hl : lone s x with
      | true =>
        rw [Bool.not_true, ← Bool.not_eq_true]
        intro hc
        obtain ⟨y, hy, hsub⟩ := (accS_iff _ _).1 hc
        rw [h2, List.mem_filter] at hy
        have hys : y ∈ s := by rw [h1]; exact List.mem_append_left _ hy.1
        have := (lone_iff s x).1 hl y hys hsub
        subst this
        have h3 := hpr y hy.1 y (by simp)
        rw [ltS_irrefl] at h3; cases h3
      | false =>
        rw [Bool.not_false]
        obtain ⟨y, hy, h3, h4⟩ := below_lone s _ x rfl hx
        have hne : y ≠ x := fun e => by rw [e, hl] at h3; cases h3
        have hlt := sub_lt h4 hne
        refine (accS_iff _ _).2 ⟨y, ?_, h4⟩
        rw [h2, List.mem_filter]
        refine ⟨?_, h3⟩
        rw [h1, List.mem_append, List.mem_cons] at hy
        rcases hy with hy | rfl | hy
        · exact hy
        · exact absurd rfl hne
        · have := (List.pairwise_cons.1 hr).1 y hy
          rw [ltS_asymm hlt] at this; cases this
    rw [leastR, hacc]
    cases hl : lone s x with
    | true =>
      simp only [Bool.not_true, Bool.false_eq_true, if_false]
      exact ih (pre ++ [x]) _ (by rw [h1]; simp) (by rw [h2, List.filter_append]; simp [hl])
    | false =>
      simp only [Bool.not_false, if_true]
      exact ih (pre ++ [x]) _ (by rw [h1]; simp) (by rw [h2, List.filter_append]; simp [hl])
theorem leastP_filter (l : List S) : leastP l = (sortS' l).filter (lone (sortS' l)) :=
  leastR_filter _ (sortS_asc l).1 _ [] [] rfl rfl

theorem asc_ne {s : List S} (h : Asc s) {i k : Nat} (hi : i < s.length) (hk : k < s.length) : i ≠ k ↔ at_ s i ≠ at_ s k := by
  have e : ∀ j (hj : j < s.length), at_ s j = s[j] := fun j hj => by simp [at_, List.getD, hj]
  constructor
  · intro hne heq
    rw [e i hi, e k hk] at heq
    rcases Nat.lt_or_ge i k with h1 | h1
    · have := List.pairwise_iff_getElem.1 h i k hi hk h1
      rw [heq, ltS_irrefl] at this; cases this
    · have := List.pairwise_iff_getElem.1 h k i hk hi (by omega)
      rw [heq, ltS_irrefl] at this; cases this
  · intro hne heq; subst heq; exact hne rfl
theorem loneR_all (s : List S) (hs : Asc s) (i : Nat) (hi : i < s.length) : ∀ (k : Nat) (r : Bool), k ≤ s.length → loneR (at_ s i) i (s.drop k) k r = (r && (s.drop k).all fun y => decide (y = at_ s i) || !sub y (at_ s i)) := by
  intro k r hk
  induction hn : s.length - k generalizing k r with
  | zero => rw [List.drop_eq_nil_iff.2 (by omega)]; simp [loneR]
  | succ n ih =>
    rw [drop_at s k (by omega), loneR, ih (k + 1) _ (by omega) (by omega), List.all_cons]
    have hne := asc_ne hs hi (show k < s.length by omega)
    show (r && !(decide (i ≠ k) && sub (at_ s k) (at_ s i)) && _) = _
    rw [Bool.and_assoc]
    congr 2
    by_cases he : i = k
    · subst he; simp
    · have h2 : at_ s k ≠ at_ s i := fun e => (hne.1 he) e.symm
      simp [he, h2]
theorem minR_filter (s : List S) (hs : Asc s) : ∀ (i : Nat) (acc : List S), i ≤ s.length → acc = (s.take i).filter (lone s) → minR s (s.drop i) i acc = s.filter (lone s) := by
  intro i acc hi h
  induction hn : s.length - i generalizing i acc with
  | zero => rw [List.drop_eq_nil_iff.2 (by omega), minR, h, List.take_of_length_le (by omega)]
  | succ n ih =>
    rw [drop_at s i (by omega), minR]
    have hl := loneR_all s hs i (by omega) 0 true (Nat.zero_le _)
    rw [List.drop_zero, Bool.true_and] at hl
    have hl2 : loneR (at_ s i) i s 0 true = lone s (at_ s i) := hl
    rw [hl2]
    refine ih (i + 1) _ (by omega) ?_ (by omega)
    rw [take_at s i (by omega), List.filter_append, h]
    cases hx : lone s (at_ s i) with
    | true => simp [hx]
    | false => simp [hx]
theorem refLeast_filter (l : List S) : refLeast l = (sortS' l).filter (lone (sortS' l)) := by
  unfold refLeast
  rw [← sort_same]
  exact minR_filter _ (sortS_asc l).1 0 [] (Nat.zero_le _) (by simp)
/-- The program and the reference find the same minimal sets. -/
theorem least_same (l : List S) : leastP l = refLeast l := by rw [leastP_filter, refLeast_filter]
end Go.Proofs.YtijknodekomdfaaGreatDoor
namespace Go.Proofs.YtijknodekomdfaaGreatDoor
open Go.RowKit Go.Lib Go.Shelf

@[go_sem] theorem sv_and_out (x : S) : bits .and .u16 (sv x) 61440 = sv (x &&& 61440#16) := by
  have : (61440 : Int) = sv 61440#16 := rfl
  rw [this, sv_and]
def outS (s : S) : Bool := s &&& 61440#16 != 0#16
theorem outPred (l : List S) (w : World) : PredK Tryz.prog 182 #[] vs outS l w := fun W x _ _ => by
  show Calls Tryz.prog 182 #[.int .u16 (sv x)] W _
  go_enter Tryz.func182, Tryz.ntmps182
  go_wp2
  go_ret
  exact ⟨rfl, Keeps.refl _⟩

end Go.Proofs.YtijknodekomdfaaGreatDoor
namespace Go.Proofs.YtijknodekomdfaaGreatDoor
open Go.RowKit Go.Lib

theorem sv_ofInt (z : Int) (h0 : 0 ≤ z) (h1 : z ≤ 65535) : sv (BitVec.ofInt 16 z) = z := by
  unfold sv; rw [BitVec.toNat_ofInt]; omega
theorem bounds16 {z : Int} (h : (Lit.int .u16 z).wf = true) : 0 ≤ z ∧ z ≤ 65535 := by
  simp [Lit.wf, IntKind.min, IntKind.max, IntKind.signed, IntKind.bits] at h
  omega
end Go.Proofs.YtijknodekomdfaaGreatDoor
