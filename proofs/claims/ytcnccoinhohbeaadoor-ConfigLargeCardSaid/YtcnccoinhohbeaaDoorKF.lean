/- Texts joined into one (wip/bin/pack.py): Backw, Great, Trust2, Trust3, SliceF, Live. -/
import Derived.Test.YtcnccoinhohbeaaDoorKE
import Derived.Test.YtcnccoinhohbeaaDoorKD
import Derived.Maps.AppendAt
import Derived.Outline
import Derived.Test.YtcnccoinhohbeaaDoorRevLay
import Derived.Test.YtcnccoinhohbeaaDoorKB
import Derived.Deep.RegionHeld3
/- slices.Backward as an iterator over a row of sets. -/
namespace Go.Proofs.YtcnccoinhohbeaaDoor
open Go.RowKit Go.Lib Go.Shelf
attribute [local go_sem] Oper.semAt_some

/-- what a round keeps: all below a mark but one block -/
structure KpO (n₀ Bo : Nat) (W W' : World) : Prop where
  size : W.heap.size ≤ W'.heap.size
  same : ∀ k, k < n₀ → k ≠ Bo → W'.heap[k]? = W.heap[k]?
theorem KpO.refl (n₀ Bo : Nat) (W : World) : KpO n₀ Bo W W := ⟨Nat.le_refl _, fun _ _ _ => rfl⟩
theorem KpO.trans {n₀ Bo : Nat} {X Y Z : World} (h : KpO n₀ Bo X Y) (k : KpO n₀ Bo Y Z) : KpO n₀ Bo X Z :=
  ⟨Nat.le_trans h.size k.size, fun i h1 h2 => (k.same i h1 h2).trans (h.same i h1 h2)⟩
theorem KpO.of {n₀ Bo : Nat} {W W' : World} (h : Keeps W W') (hn : n₀ ≤ W.heap.size) : KpO n₀ Bo W W' :=
  ⟨h.size, fun k hk _ => h.below.block k (by omega)⟩
theorem kpO_b {n₀ Bo : Nat} {w : World} (hn : n₀ ≤ w.heap.size) (W : World) (l : Nat) (o o' : Obj) (hl : w.heap.size ≤ l) (_ : W.heap[l]? = some o) (_ : o.isCells = false) (_ : o.isWalk = false) : KpO n₀ Bo W (W.putObj l o') :=
  ⟨by simp, fun k hk _ => World.putObj_heap_other (fun e => by omega)⟩
/-- the sets of a row with their indices, from the last on -/
def bwE (l : List S) (j : Nat) : Nat × S := (l.length - 1 - j, at_ l (l.length - 1 - j))
def bwL (l : List S) : List (Nat × S) := (List.range l.length).map (bwE l)
theorem bwL_len (l : List S) : (bwL l).length = l.length := by simp [bwL]
theorem bwL_take (l : List S) {k : Nat} (h : k < l.length) : (bwL l).take (k + 1) = (bwL l).take k ++ [bwE l k] := by
  rw [List.take_succ_eq_append_getElem (by rw [bwL_len]; exact h)]
  simp [bwL]

end Go.Proofs.YtcnccoinhohbeaaDoor
/- slices.Reverse at a row of the call's own; family.greatest, Maximal. -/
namespace Go.Proofs.YtcnccoinhohbeaaDoor
open Go.RowKit Go.Lib Go.Shelf Go.Sort
attribute [local go_sem] Oper.semAt_some

/-! ### the maximal sets -/
def covB (out : List S) (s : S) : Bool := out.any fun x => s &&& ~~~x == 0#16
def gStep (acc : List S) (s : S) : List S := if covB acc s = true then acc else acc ++ [s]
def gFold (l : List (Nat × S)) : List S := l.foldl (fun acc x => gStep acc x.2) []
def greatP (l : List S) : List S := (gFold (bwL (sortS' l))).reverse
theorem gFold_snoc (l : List (Nat × S)) (x : Nat × S) : gFold (l ++ [x]) = gStep (gFold l) x.2 := by simp [gFold, List.foldl_append]
theorem gStep_le (acc : List S) (s : S) : (gStep acc s).length ≤ acc.length + 1 := by unfold gStep; split <;> simp
theorem gFold_foldl_le (l : List (Nat × S)) : ∀ acc : List S, (l.foldl (fun acc x => gStep acc x.2) acc).length ≤ acc.length + l.length := by
  induction l with
  | nil => intro acc; simp
  | cons x xs ih => intro acc; rw [List.foldl_cons]; have := ih (gStep acc x.2); have := gStep_le acc x.2; simp only [List.length_cons]; omega
theorem gFold_le (l : List (Nat × S)) : (gFold l).length ≤ l.length := by have := gFold_foldl_le l []; simpa [gFold] using this
/-- a row of the call's own lies as it lay where its block does -/
theorem own_same {W W' : World} {b : Nat} {e : TypeId} {sz k : Nat} {v : Value} {xs : List Value} (h : W.ownsRow b e sz v k xs) (hs : ∀ r, v.ownBlock = some r → W'.heap[r]? = W.heap[r]?) : W'.ownsRow b e sz v k xs := by
  refine ⟨h.1, ?_⟩
  rcases h.2 with h1 | ⟨g, cap, cur, rfl, hb, hg, r⟩
  · exact .inl h1
  · exact .inr ⟨g, cap, cur, rfl, hb, (hs g rfl).trans hg, r⟩
theorem kpoApp {W w1 : World} {n₀ Bo : Nat} {v v' : Value} {e : TypeId} {k : Nat} {xs : List Value} {tmp : Obj} (hrow : W.ownsRow n₀ e 1 v k xs) (hn : n₀ ≤ W.heap.size)
    (hgrow : (W.alloc tmp).grownBy w1 v.ownBlock) : KpO n₀ Bo W (w1.setCell ⟨Bo, 0, none⟩ v') := by
  have h1 := hgrow.size
  rw [World.size_alloc] at h1
  refine ⟨by rw [World.size_setCell]; omega, fun k hk hne => ?_⟩
  rw [Below.heap_setCell _ _ _ _ hne, hgrow.block k (by rw [World.size_alloc]; omega) (fun e' => ?_), Below.heap_alloc _ _ _ (by omega)]
  rcases hrow.2 with ⟨rfl, _⟩ | ⟨g, cap, cur, rfl, hb, _, _⟩
  · cases e'
  · have e2 : k = g := by simpa [Value.ownBlock] using e'
    omega
def maximalS (l : List S) : List S × Int := if l.any outS then ([], 7) else limS (greatP l)
end Go.Proofs.YtcnccoinhohbeaaDoor
/- trust: byzantine, Clash, Sound, Accepts. -/
namespace Go.Proofs.YtcnccoinhohbeaaDoor
open Go.RowKit Go.Lib Go.Shelf

def mskF (M : S) (m : List F2) : List S := m.map fun x => x.1 &&& M
def byzS (M : S) (m : List F2) : List S := (maximalS (mskF M m)).1
theorem mskF_snoc (M : S) (m : List F2) (k : Nat) (h : k < m.length) : mskF M (m.take (k + 1)) = mskF M (m.take k) ++ [(fa m k).1 &&& M] := by
  unfold mskF; rw [take_fa m k h, List.map_append]; rfl
theorem tyS' : STy Tryd.prog 29 28 1 2 := tyS
/-! ### Clash, Sound, Accepts -/
def crash1 (byz : List S) : Option S := byz.find? fun b => b != 0#16
/-- what Clash computes of a valid client -/
def clashC (kd : Int) (wt M : S) (R Q : List S) (m : List F2) : Option CL :=
  match (if kd = 1 then crash1 (byzS M m) else none) with
  | some b => some (3, 0#16, 0#16, b)
  | none => rulesS kd wt (byzS M m) R Q
def clashS (kd : Int) (wt M : S) (R Q : List S) (F m : List F2) : CL × Int :=
  if tvS kd M R Q F m ≠ 0 then (cl0, tvS kd M R Q F m) else match clashC kd wt M R Q m with | some x => (x, 0) | none => (cl0, 13)
def RetCE (r : CL × Int) (e : Ending) : Prop := e = .returned (.tuple #[vcl r.1, .int .i64 r.2])

/-- a block that holds a clash -/
def ClBox (w : World) (B : Nat) (x : CL) : Prop := w.heap[B]? = some (.cells #[.int .i64 x.1, .int .u16 (sv x.2.1), .int .u16 (sv x.2.2.1), .int .u16 (sv x.2.2.2)] 42 (0, 0))
theorem ClBox.keep {w w' : World} {B : Nat} {x : CL} (h : ClBox w B x) (k : Keeps w w') : ClBox w' B x := (k.below.block B (Array.getElem?_eq_some_iff.1 h).1).trans h
theorem ClBox.cells {w : World} {B : Nat} {x : CL} (h : ClBox w B x) : w.cell? ⟨B, 0, none⟩ = some (.int .i64 x.1) ∧ w.cell? ⟨B, 1, none⟩ = some (.int .u16 (sv x.2.1)) ∧ w.cell? ⟨B, 2, none⟩ = some (.int .u16 (sv x.2.2.1)) ∧ w.cell? ⟨B, 3, none⟩ = some (.int .u16 (sv x.2.2.2)) := by
  simp [World.cell?, show w.heap[B]? = _ from h]
theorem ClBox.frozen {w : World} {B : Nat} {x : CL} (h : ClBox w B x) : w.frozen? ⟨B, 0, none⟩ = false ∧ w.frozen? ⟨B, 1, none⟩ = false ∧ w.frozen? ⟨B, 2, none⟩ = false ∧ w.frozen? ⟨B, 3, none⟩ = false := by
  simp [World.frozen?, show w.heap[B]? = _ from h]
theorem heap_set {w : World} {B i : Nat} {c : Array Value} {t : TypeId} {fr : Nat × Nat} (h : w.heap[B]? = some (.cells c t fr)) (v : Value) : (w.setCell ⟨B, i, none⟩ v).heap[B]? = some (.cells (c.setIfInBounds i v) t fr) := by
  obtain ⟨hlt, hk⟩ := Array.getElem?_eq_some_iff.1 h
  show (w.heap.modify B _)[B]? = _
  rw [Array.getElem?_eq_getElem (by rw [Array.size_modify]; exact hlt), Array.getElem_modify_self, hk]
  simp
theorem ClBox.store {w : World} {B : Nat} {x : CL} (h : ClBox w B x) (y : CL) : ClBox ((((w.setCell ⟨B, 0, none⟩ (.int .i64 y.1)).setCell ⟨B, 1, none⟩ (.int .u16 (sv y.2.1))).setCell ⟨B, 2, none⟩ (.int .u16 (sv y.2.2.1))).setCell ⟨B, 3, none⟩ (.int .u16 (sv y.2.2.2))) B y :=
  heap_set (heap_set (heap_set (heap_set h _) _) _) _
theorem Keeps.setC {w W : World} (h : Keeps w W) {B : Nat} (hB : w.heap.size ≤ B) (i : Nat) (v : Value) : Keeps w (W.setCell ⟨B, i, none⟩ v) := Below.setCell h.below (by exact hB) v
theorem Keeps.set4 {w W : World} (h : Keeps w W) {B : Nat} (hB : w.heap.size ≤ B) (v0 v1 v2 v3 : Value) : Keeps w ((((W.setCell ⟨B, 0, none⟩ v0).setCell ⟨B, 1, none⟩ v1).setCell ⟨B, 2, none⟩ v2).setCell ⟨B, 3, none⟩ v3) :=
  (((h.setC hB 0 v0).setC hB 1 v1).setC hB 2 v2).setC hB 3 v3
theorem resBox {fn : Func} {p u : Tmp} (h : fn.results = #[.cell p 42, .tmp u]) {tmps : Array Value} {W : World} {B : Nat} {x : CL} {v : Value} (hB : ClBox W B x)
    (tp : tmps.getD p undef = .pointer (some ⟨B, 0, none⟩)) (tu : tmps.getD u undef = v) :
    (results fn tmps).run Tryd.prog W = .ok (.tuple #[vcl x, v]) W := by
  rw [results_cell_tmp h, tp, tu]
  obtain ⟨k0, k1, k2, k3⟩ := hB.cells
  simp [go_sem, vcl, asAddr, loadVar, loadCells, loadCellsFrom, k0, k1, k2, k3]
end Go.Proofs.YtcnccoinhohbeaaDoor
/- trust: Sound, Accepts; models: Tolerates, Stronger, Covers, Live. -/
namespace Go.Proofs.YtcnccoinhohbeaaDoor
open Go.RowKit Go.Lib Go.Shelf

def soundS (kd : Int) (wt M : S) (R Q : List S) (F m : List F2) : Bool := (clashS kd wt M R Q F m).2 == 13
/-- the cells of a boxed configuration, as a condition on worlds -/
theorem BoxC.conj {w : World} {B : Nat} {nm : ByteArray} {kd : Int} {M : S} {ar : Option Addr} {nr cr : Nat} {aw : Option Addr} {nw cw : Nat} {af : Option Addr} {nf cf : Nat} (h : BoxC w B nm kd M ar nr cr aw nw cw af nf cf) :
    w.cell? ⟨B, 0, none⟩ = some (.string nm) ∧ w.cell? ⟨B, 1, none⟩ = some (.int .i64 kd) ∧ w.cell? ⟨B, 2, none⟩ = some (.int .u16 (sv M)) ∧ w.cell? ⟨B, 3, none⟩ = some (.slice ar nr cr) ∧ w.cell? ⟨B, 4, none⟩ = some (.slice aw nw cw) ∧ w.cell? ⟨B, 5, none⟩ = some (.slice af nf cf) :=
  ⟨h.c0, h.c1, h.c2, h.c3, h.c4, h.c5⟩
def accS28 (kd : Int) (wt M : S) (R Q : List S) (F m : List F2) (s : S) : Bool := tvS kd M R Q F m == 0 && accT s wt (byzS M m) R
end Go.Proofs.YtcnccoinhohbeaaDoor
/- slices.IndexFunc and ContainsFunc over lists of faults; fault.Tolerates; trust.Stronger, Covers, Live. -/
namespace Go.Proofs.YtcnccoinhohbeaaDoor
open Go.RowKit Go.Lib Go.Shelf

theorem dropF {l : List F2} {n i : Nat} (L : Hid (l.length = n)) (h : i < n) : l.drop i = fa l i :: l.drop (i + 1) := drop_fa l i (by have := L.out; omega)
theorem dropFN {l : List F2} {n i : Nat} (L : Hid (l.length = n)) (h : ¬ i < n) : l.drop i = [] := List.drop_eq_nil_iff.2 (by have := L.out; omega)
/-! ### models -/
def tolF (m : List F2) (a : F2) : Bool := m.any fun b => covF b a
def strS (a b : List F2) : Bool := !(b.any fun f => !tolF a f)
def covS (m : List F2) (s : S) : Bool := m.any fun f => s &&& ~~~f.1 == 0#16
end Go.Proofs.YtcnccoinhohbeaaDoor
/- trust.Live. -/
namespace Go.Proofs.YtcnccoinhohbeaaDoor
open Go.RowKit Go.Lib Go.Shelf

def livP (wt M : S) (byz R : List S) (f : F2) : Bool := !accT (M &&& ~~~(f.1 ||| f.2)) wt byz R
def livS (kd : Int) (wt M : S) (R Q : List S) (F m : List F2) : Bool := tvS kd M R Q F m == 0 && !(m.any (livP wt M (byzS M m) R))
end Go.Proofs.YtcnccoinhohbeaaDoor
