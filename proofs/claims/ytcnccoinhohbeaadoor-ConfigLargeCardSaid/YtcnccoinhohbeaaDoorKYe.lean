/- Texts joined into one (wip/bin/pack.py): IT27, SliceI, ProveM, CRows. -/
import Derived.Test.YtcnccoinhohbeaaDoorKT
import Derived.Test.YtcnccoinhohbeaaDoorKU
import Derived.Test.YtcnccoinhohbeaaDoorKA
import Derived.Test.YtcnccoinhohbeaaDoorKH
import Derived.Lib.QuietBelow
import Derived.Test.YtcnccoinhohbeaaDoorKYc
import Derived.Test.YtcnccoinhohbeaaDoorKYa
/- Rows of certificates: slices of api.Common. -/
namespace Go.Proofs.YtcnccoinhohbeaaDoor
open Go.RowKit Go.Lib Go.Shelf

def vit (x : It) : Value := .agg #[.int .i64 x.1, .int .u16 (sv x.2.1), .int .u16 (sv x.2.2.1), .int .u16 (sv x.2.2.2.1), .int .i64 x.2.2.2.2]
def itl (l : List It) : List Value := l.flatMap fun x => [.int .i64 x.1, .int .u16 (sv x.2.1), .int .u16 (sv x.2.2.1), .int .u16 (sv x.2.2.2.1), .int .i64 x.2.2.2.2]
def it0 : It := (0, 0#16, 0#16, 0#16, 0)
def ia (l : List It) (i : Nat) : It := l.getD i it0
theorem length_itl (l : List It) : (itl l).length = l.length * 5 := by
  induction l with
  | nil => rfl
  | cons x xs ih => unfold itl at *; rw [List.flatMap_cons, List.length_append, ih]; simp; omega
theorem itl_append (l m : List It) : itl (l ++ m) = itl l ++ itl m := by unfold itl; rw [List.flatMap_append]
theorem ia_succ (x : It) (l : List It) (i : Nat) : ia (x :: l) (i + 1) = ia l i := by simp [ia, List.getD]
theorem itl_at (l : List It) : ∀ (i : Nat), i < l.length → (itl l)[i * 5]? = some (.int .i64 (ia l i).1) ∧ (itl l)[i * 5 + 1]? = some (.int .u16 (sv (ia l i).2.1)) ∧ (itl l)[i * 5 + 2]? = some (.int .u16 (sv (ia l i).2.2.1)) ∧ (itl l)[i * 5 + 3]? = some (.int .u16 (sv (ia l i).2.2.2.1)) ∧ (itl l)[i * 5 + 4]? = some (.int .i64 (ia l i).2.2.2.2) := by
  induction l with
  | nil => intro i h; simp at h
  | cons x xs ih =>
    intro i h
    cases i with
    | zero => exact ⟨rfl, rfl, rfl, rfl, rfl⟩
    | succ i =>
      have := ih i (by simpa using h)
      rw [ia_succ]
      unfold itl at *
      rw [List.flatMap_cons, show (i + 1) * 5 = i * 5 + 5 by omega]
      exact this
theorem drop_ia (l : List It) (i : Nat) (h : i < l.length) : l.drop i = ia l i :: l.drop (i + 1) := by
  rw [List.drop_eq_getElem_cons h]; simp [ia, List.getD, h]
theorem take_ia (l : List It) (i : Nat) (h : i < l.length) : l.take (i + 1) = l.take i ++ [ia l i] := by
  rw [List.take_succ_eq_append_getElem h]; simp [ia, List.getD, h]
theorem ia_mem {l : List It} {i : Nat} (h : i < l.length) : ia l i ∈ l := by simp [ia, List.getD, h]
theorem Rd.lenI {w : World} {a : Option Addr} {n c : Nat} {l : List It} (h : Rd w a n c 5 (itl l)) : l.length = n := by have := h.len; rw [length_itl] at this; omega
theorem Rd.i {w : World} {a : Option Addr} {n c : Nat} {l : List It} (h : Rd w a n c 5 (itl l)) {i : Nat} (hi : i < n) :
    w.cell? (adr a (i * 5)) = some (.int .i64 (ia l i).1) ∧ w.cell? (adr a (i * 5 + 1)) = some (.int .u16 (sv (ia l i).2.1)) ∧ w.cell? (adr a (i * 5 + 2)) = some (.int .u16 (sv (ia l i).2.2.1)) ∧ w.cell? (adr a (i * 5 + 3)) = some (.int .u16 (sv (ia l i).2.2.2.1)) ∧ w.cell? (adr a (i * 5 + 4)) = some (.int .i64 (ia l i).2.2.2.2) := by
  obtain ⟨h0, h1, h2, h3, h4⟩ := itl_at l i (by rw [h.lenI]; exact hi)
  exact ⟨h.cell _ _ h0, h.cell _ _ h1, h.cell _ _ h2, h.cell _ _ h3, h.cell _ _ h4⟩
theorem Rd.i' {w : World} {a : Option Addr} {n c : Nat} {l : List It} (h : Rd w a n c 5 (itl l)) {i : Nat} (hi : i < n) :
    w.cell? ⟨(adr a (i * 5)).block, (adr a (i * 5)).off + 1, none⟩ = some (.int .u16 (sv (ia l i).2.1)) ∧ w.cell? ⟨(adr a (i * 5)).block, (adr a (i * 5)).off + 2, none⟩ = some (.int .u16 (sv (ia l i).2.2.1)) ∧ w.cell? ⟨(adr a (i * 5)).block, (adr a (i * 5)).off + 3, none⟩ = some (.int .u16 (sv (ia l i).2.2.2.1)) ∧ w.cell? ⟨(adr a (i * 5)).block, (adr a (i * 5)).off + 4, none⟩ = some (.int .i64 (ia l i).2.2.2.2) := by
  obtain ⟨h0, h1, h2, h3, h4⟩ := h.i hi
  rw [adr_plus a _ 1 (by omega), adr_plus a _ 2 (by omega), adr_plus a _ 3 (by omega), adr_plus a _ 4 (by omega)]
  exact ⟨h1, h2, h3, h4⟩
theorem infoIt : (Tryd.prog.info? 70).map (fun i => (i.zero, i.size, i.bytes)) = some (some (.agg #[.int .i64 0, .int .u16 0, .int .u16 0, .int .u16 0, .int .i64 0]), 5, 24) := by kernel_rfl
theorem tyIt : STy Tryd.prog 45 70 5 24 := STy.of Tryd.underlying45 infoIt rfl (by decide) (by decide)
theorem itl_oneCell (l : List It) : ∀ v ∈ itl l, v.oneCell' = true := fun v hv => by
  unfold itl at hv
  obtain ⟨x, _, hx⟩ := List.mem_flatMap.1 hv
  simp at hx
  rcases hx with rfl | rfl | rfl | rfl | rfl <;> rfl
theorem cB5 {w : World} {B : Nat} {T : TypeId} {v0 v1 v2 v3 v4 : Value} (h : Blk w B T #[v0, v1, v2, v3, v4]) :
    (w.cell? ⟨B, 0, none⟩ = some v0 ∧ w.cell? ⟨B, 1, none⟩ = some v1 ∧ w.cell? ⟨B, 2, none⟩ = some v2 ∧ w.cell? ⟨B, 3, none⟩ = some v3 ∧ w.cell? ⟨B, 4, none⟩ = some v4) :=
  ⟨h.cell 0 rfl, h.cell 1 rfl, h.cell 2 rfl, h.cell 3 rfl, h.cell 4 rfl⟩
/-- what a call that gives a certificate came back with -/
def RetPr (w : World) (r : List It × Int) (e : Ending) (w' : World) : Prop := ∃ v, e = .returned (.tuple #[v, .int .i64 r.2]) ∧ Own 70 5 w w' v r.1.length (itl r.1)
end Go.Proofs.YtcnccoinhohbeaaDoor
/- slices.IndexFunc and slices.ContainsFunc at rows of certificates. -/
namespace Go.Proofs.YtcnccoinhohbeaaDoor
open Go.RowKit Go.Lib Go.Shelf

theorem dropI {l : List It} {n i : Nat} (L : Hid (l.length = n)) (h : i < n) : l.drop i = ia l i :: l.drop (i + 1) := drop_ia l i (by have := L.out; omega)
theorem dropIN {l : List It} {n i : Nat} (L : Hid (l.length = n)) (h : ¬ i < n) : l.drop i = [] := List.drop_eq_nil_iff.2 (by have := L.out; omega)
set_option maxHeartbeats 800000 in
theorem indexFuncI_any (a : Option Addr) (n c : Nat) (l : List It) (w : World) (g : Nat) (lb : Array Value) (p : It → Bool) (h : Rd w a n c 5 (itl l))
    (eg : ∀ args w, (callFunc g args).run Tryd.prog w = .ok (.enter g args) w) (hp : PredK Tryd.prog g lb vit p l w) :
    Calls Tryd.prog 70 #[.slice a n c, .func (.func g) #[] lb] w fun e w' => e = .returned (.int .i64 (idxFrom p l 0)) ∧ Keeps w w' := by
  have s1 := h.small
  have l1 := h.lenI
  have L1 := Lib.hid l1; clear l1
  have HP := Lib.hid hp; clear hp
  go_enter Tryd.func70, Tryd.ntmps70
  go_wp2
  go_loopw [8] (fun v wr => ∃ k : Nat, k ≤ n ∧ v = .int .i64 k ∧ Keeps w wr ∧ Hid (idxFrom p l 0 = idxFrom p (l.drop k) k)) (fun v _ => n - (RowKit.intOf v).toNat)
  case atStart => exact ⟨0, Nat.zero_le _, rfl, Keeps.refl _, rfl⟩
  case round =>
    obtain ⟨k, hk, rfl, K1, HI⟩ := hrel
    by_cases hlt : k < n
    · obtain ⟨hc, _⟩ := (h.keep K1).i hlt
      obtain ⟨hc1, hc2, hc3, hc4⟩ := (h.keep K1).i' hlt
      have ha := h.isSome (by omega)
      have hcall := HP.out wr (ia l k) (ia_mem (by have := L1.out; omega)) K1
      unfold vit at hcall
      have HC := Lib.hid hcall; clear hcall
      cases hq : p (ia l k) with
      | true =>
        rw [hq] at HC
        have HQ := Lib.hid hq; clear hq
        go_wp2_with (go_at_fn g; refine (HC.out).mono ?_; rintro e w' ⟨rfl, K2⟩)
        go_ret
        exact ⟨by rw [HI.out, dropI L1 hlt, idxFrom, if_pos HQ.out]; rfl, K1.trans K2⟩
      | false =>
        rw [hq] at HC
        have HQ := Lib.hid hq; clear hq
        go_wp2_with (go_at_fn g; refine (HC.out).mono ?_; rintro e w' ⟨rfl, K2⟩)
        go_roundw
        case rel => exact ⟨k + 1, by omega, by go_num, K1.trans K2, hrfl <| by rw [HI.out, dropI L1 hlt, idxFrom, if_neg (by rw [HQ.out]; simp)]⟩
        case measure => simp [RowKit.intOf]; omega
    · go_wp2
      go_ret
      exact ⟨by rw [HI.out, dropIN L1 hlt, idxFrom]; rfl, K1⟩

set_option maxHeartbeats 800000 in
theorem containsFuncI_any (a : Option Addr) (n c : Nat) (l : List It) (w : World) (g : Nat) (lb : Array Value) (p : It → Bool) (h : Rd w a n c 5 (itl l))
    (eg : ∀ args w, (callFunc g args).run Tryd.prog w = .ok (.enter g args) w) (hp : PredK Tryd.prog g lb vit p l w) :
    Calls Tryd.prog 38 #[.slice a n c, .func (.func g) #[] lb] w fun e w' => e = .returned (.bool (l.any p)) ∧ Keeps w w' := by
  have HX := Lib.hid (idxFrom_any p l 0)
  have hcon := indexFuncI_any a n c l w g lb p h eg hp
  generalize idxFrom p l 0 = r at hcon HX
  have HC := Lib.hid hcon; clear hcon eg hp h
  go_enter Tryd.func38, Tryd.ntmps38
  go_wp2_with (go_at_call 70; refine HC.out.mono ?_; rintro e w' ⟨rfl, K2⟩)
  go_ret
  exact ⟨by rw [← HX.out]; rfl, K2⟩
end Go.Proofs.YtcnccoinhohbeaaDoor
/- Layer 27: certificates (plain laws). -/
namespace Go.Proofs.YtcnccoinhohbeaaDoor
open Go.RowKit Go.Lib Go.Shelf

theorem idxOf_lt (s : S) : ∀ (l : List S) (k : Nat), s ∈ l → (k : Int) ≤ idxOf s l k ∧ idxOf s l k < (k + l.length : Nat)
  | [], _, h => by simp at h
  | x :: xs, k, h => by
    rw [idxOf]
    by_cases e : s = x
    · rw [if_pos (by simpa using e)]
      exact ⟨by omega, by rw [List.length_cons]; omega⟩
    · rw [if_neg (by simpa using e)]
      have hm : s ∈ xs := by
        rcases List.mem_cons.1 h with h | h
        · exact absurd h e
        · exact h
      have := idxOf_lt s xs (k + 1) hm
      rw [List.length_cons]
      omega
theorem idxOf_app (s : S) : ∀ (pre : List S) (rest : List S) (k : Nat), s ∉ pre → idxOf s (pre ++ rest) k = idxOf s rest (k + pre.length)
  | [], rest, k, _ => by simp
  | x :: xs, rest, k, h => by
    rw [List.cons_append, idxOf, if_neg (by simp; intro e; exact h (by rw [e]; exact List.mem_cons_self ..)), idxOf_app s xs rest (k + 1) (fun g => h (List.mem_cons_of_mem _ g)), List.length_cons]
    congr 1; omega
theorem idxOf_pre (s : S) : ∀ (pre rest : List S) (k : Nat), s ∈ pre → idxOf s (pre ++ rest) k < (k + pre.length : Nat)
  | [], _, _, h => by simp at h
  | x :: xs, rest, k, h => by
    rw [List.cons_append, idxOf]
    by_cases e : s = x
    · rw [if_pos (by simpa using e), List.length_cons]; omega
    · rw [if_neg (by simpa using e)]
      have hm : s ∈ xs := by
        rcases List.mem_cons.1 h with h | h
        · exact absurd h e
        · exact h
      have := idxOf_pre s xs rest (k + 1) hm
      rw [List.length_cons]; omega
/-- the rows that the program gathers -/
def keepI (Q : List S) (x : It) : Bool := x.1 == 1 || decide (idxOf x.2.1 Q 0 ≤ idxOf x.2.2.1 Q 0)
def rowsP (wt : S) (byz R Q : List S) : List It := (allL wt byz R Q).filter (keepI Q)
/-- a row of the reference with its least server -/
def withS (wt : S) (x : CL) : It := (x.1, x.2.1, x.2.2.1, x.2.2.2, cmnS (x.2.1 &&& x.2.2.1 &&& ~~~(badC wt x)))
theorem withS1 (wt r q b : S) : withS wt (1, r, q, b) = it1 wt r q b := by
  unfold withS it1 badC
  simp only [if_true]
  rw [BitVec.not_or, ← BitVec.and_assoc]
theorem withS2 (wt p q b : S) : withS wt (2, p, q, b) = it2 p q b := by
  unfold withS it2 badC
  rw [if_neg (show ¬ ((2 : Int) = 1) by decide)]
theorem rowC_withS (wt : S) (byz : List S) (p q : S) : (rowC byz p q).map (withS wt) = al2 byz p q := by
  unfold rowC al2
  rw [List.map_map, show (withS wt ∘ fun b => ((2, p, q, b) : CL)) = it2 p q from funext fun b => withS2 wt p q b]
theorem filter_all {α : Type} {l : List α} {p : α → Bool} (h : ∀ x ∈ l, p x = true) : l.filter p = l := List.filter_eq_self.2 h
theorem filter_none {α : Type} {l : List α} {p : α → Bool} (h : ∀ x ∈ l, p x = false) : l.filter p = [] := by
  rw [List.filter_eq_nil_iff]; intro x hx; rw [h x hx]; simp
theorem al2_mem {byz : List S} {p q : S} {x : It} (h : x ∈ al2 byz p q) : x.1 = 2 ∧ x.2.1 = p ∧ x.2.2.1 = q := by
  unfold al2 at h
  obtain ⟨b, _, rfl⟩ := List.mem_map.1 h
  exact ⟨rfl, rfl, rfl⟩
theorem keep2 (Q : List S) {byz : List S} {p q : S} (b : Bool) (hb : decide (idxOf p Q 0 ≤ idxOf q Q 0) = b) : ∀ x ∈ al2 byz p q, keepI Q x = b := fun x hx => by
  obtain ⟨h1, h2, h3⟩ := al2_mem hx
  unfold keepI
  rw [h1, h2, h3, hb]; rfl
theorem rows2_keep (wt : S) (byz : List S) : ∀ (rest pre : List S), (pre ++ rest).Nodup → ((rest.flatMap fun p => (pre ++ rest).flatMap (al2 byz p)).filter (keepI (pre ++ rest))) = (rows2 byz rest).map (withS wt)
  | [], pre, _ => by simp [rows2]
  | p :: ps, pre, hnd => by
    rw [rows2, List.map_append, List.flatMap_cons, List.filter_append]
    have hp : p ∉ pre := fun h => (List.nodup_append.1 hnd).2.2 p h p (List.mem_cons_self ..) rfl
    have hip : idxOf p (pre ++ p :: ps) 0 = (pre.length : Int) := by
      rw [idxOf_app p pre _ 0 hp, idxOf, if_pos (by simp)]; simp
    congr 1
    · -- the rows of p
      rw [List.flatMap_append, List.filter_append]
      have h1 : (pre.flatMap (al2 byz p)).filter (keepI (pre ++ p :: ps)) = [] := by
        refine filter_none (fun x hx => ?_)
        obtain ⟨q, hq, hx⟩ := List.mem_flatMap.1 hx
        refine keep2 _ false ?_ x hx
        have := idxOf_pre q pre (p :: ps) 0 hq
        rw [hip]
        simp; omega
      have h2 : ((p :: ps).flatMap (al2 byz p)).filter (keepI (pre ++ p :: ps)) = (p :: ps).flatMap (al2 byz p) := by
        refine filter_all (fun x hx => ?_)
        obtain ⟨q, hq, hx⟩ := List.mem_flatMap.1 hx
        refine keep2 _ true ?_ x hx
        have hq' : q ∉ pre := fun h => (List.nodup_append.1 hnd).2.2 q h q hq rfl
        rw [hip, idxOf_app q pre _ 0 hq']
        have := (idxOf_lt q (p :: ps) (0 + pre.length) hq).1
        rw [decide_eq_true_eq]; omega
      rw [h1, h2, List.nil_append, List.map_flatMap]
      congr 1
      funext q
      exact (rowC_withS wt byz p q).symm
    · have e : pre ++ p :: ps = (pre ++ [p]) ++ ps := by simp
      rw [e]
      exact rows2_keep wt byz ps (pre ++ [p]) (by rw [← e]; exact hnd)
theorem rowsP_eq (wt : S) (byz R Q : List S) (hQ : Q.Nodup) : rowsP wt byz R Q = (rowsR byz R Q).map (withS wt) := by
  unfold rowsP allL rowsR rows1
  rw [List.filter_append, List.map_append]
  congr 1
  · rw [filter_all]
    · rw [List.map_flatMap]
      congr 1
      funext r
      rw [List.map_flatMap]
      congr 1
      funext q
      unfold al1 rowA
      rw [List.map_map]
      congr 1
      funext b
      exact (withS1 wt r q b).symm
    · intro x hx
      obtain ⟨r, _, hx⟩ := List.mem_flatMap.1 hx
      obtain ⟨q, _, hx⟩ := List.mem_flatMap.1 hx
      unfold al1 at hx
      obtain ⟨b, _, rfl⟩ := List.mem_map.1 hx
      rfl
  · exact rows2_keep wt byz Q [] hQ
/-- a row without a server is a clash -/
theorem withS_neg (wt : S) (x : CL) : negI (withS wt x) = violC wt x := by
  unfold negI withS violC
  simp only
  rw [cmn_neg]
theorem find_any {α : Type} (f : α → Bool) : ∀ l : List α, (l.find? f).isSome = l.any f
  | [] => rfl
  | x :: xs => by
    rw [List.find?_cons, List.any_cons]
    cases h : f x
    · simpa using find_any f xs
    · rfl
theorem rowsP_neg (wt : S) (byz R Q : List S) (hQ : Q.Nodup) : (rowsP wt byz R Q).any negI = (firstR wt byz R Q).isSome := by
  rw [rowsP_eq wt byz R Q hQ, List.any_map]
  unfold firstR
  rw [show (negI ∘ withS wt) = violC wt by funext x; exact withS_neg wt x, find_any]
theorem valid_nodup {l : List S} (h : validS l = 0) : l.Nodup := by
  have := ((valid_iff l).1 h).asc
  refine List.Pairwise.imp ?_ this
  intro a b hab e
  rw [e, ltS_irrefl] at hab; cases hab
end Go.Proofs.YtcnccoinhohbeaaDoor
/- config.rows. -/
namespace Go.Proofs.YtcnccoinhohbeaaDoor
open Go.RowKit Go.Lib Go.Shelf

theorem KpX.grown {bad : Nat → Obj → Prop} {W W' : World} {row : Option Nat} (h : W.grownBy W' row) (hb : ∀ k o, some k = row → W.heap[k]? = some o → bad k o) : KpX bad W W' :=
  ⟨h.os, h.tape, h.output, h.size, fun k o hk hn => by
    by_cases e : some k = row
    · exact absurd (hb k o e hk) hn
    · rw [h.block k (Array.getElem?_eq_some_iff.1 hk).1 e]; exact hk⟩
theorem Own.setOther {e : TypeId} {sz : Nat} {w0 w : World} {v : Value} {n : Nat} {xs : List Value} (h : Own e sz w0 w v n xs) {B : Nat} {T : TypeId} {cs : Array Value} (hB : Blk w B T cs) (hT : T ≠ e) (hle : w0.heap.size ≤ B) (i : Nat) (u : Value) : Own e sz w0 (w.setCell ⟨B, i, none⟩ u) v n xs := by
  obtain ⟨⟨h1, h2⟩, hk⟩ := h
  refine ⟨⟨h1, ?_⟩, keeps_set hk hle i u⟩
  rcases h2 with ⟨a, b⟩ | ⟨g, cap, cur, hv, hg, hh, r⟩
  · exact Or.inl ⟨a, b⟩
  · refine Or.inr ⟨g, cap, cur, hv, hg, ?_, r⟩
    have hne : g ≠ B := by
      rintro rfl
      unfold Blk at hB
      rw [hB] at hh
      injection hh with hh
      injection hh with _ hh2
      exact hT hh2
    rw [Below.heap_setCell _ _ _ _ (by simpa using hne)]; exact hh
/-- a variable's block lies beside a row of another type that grows -/
theorem Blk.grown {w w' : World} {B : Nat} {T e : TypeId} {cs : Array Value} (h : Blk w B T cs) {sz : Nat} {w0 : World} {v : Value} {n : Nat} {xs : List Value} (hO : Own e sz w0 w v n xs) (hT : T ≠ e) (hg : w.grownBy w' v.ownBlock) : Blk w' B T cs := by
  have hne : some B ≠ v.ownBlock := by
    intro hb
    rcases hO.1.2 with ⟨rfl, _⟩ | ⟨g, cap, cur, rfl, _, hh, _⟩
    · cases hb
    · injection hb with hb
      subst hb
      unfold Blk at h
      rw [h] at hh
      injection hh with hh
      injection hh with _ hh2
      exact hT hh2
  unfold Blk
  rw [hg.block B h.lt hne]; exact h
def badR (n0 : Nat) (k : Nat) (o : Obj) : Prop := n0 ≤ k ∧ ((∃ cs, o = .cells cs 45) ∨ ∃ cs, o = .cells cs 70)
theorem badR_own {w0 w : World} {v : Value} {n sz : Nat} {xs : List Value} (hO : Own 70 sz w0 w v n xs) (k : Nat) (o : Obj) (hk : some k = v.ownBlock) (ho : w.heap[k]? = some o) : badR w0.heap.size k o := by
  rcases hO.1.2 with ⟨rfl, _⟩ | ⟨g, cap, cur, rfl, hg, hh, _⟩
  · cases hk
  · injection hk with hk
    subst hk
    rw [hh] at ho
    injection ho with ho
    exact ⟨hg, Or.inr ⟨_, ho.symm⟩⟩
def rInv (w0 : World) (B : Nat) (Q : List S) (l : List It) (W : World) : Prop :=
  ∃ v, Blk W B 45 #[v] ∧ Own 70 5 w0 W v (l.filter (keepI Q)).length (itl (l.filter (keepI Q)))
theorem keep_snoc (Q : List S) (l : List It) (x : It) : (l ++ [x]).filter (keepI Q) = l.filter (keepI Q) ++ (if keepI Q x = true then [x] else []) := by
  rw [List.filter_append]; cases h : keepI Q x <;> simp [h]
theorem keepI_def (Q : List S) (r : Int) (a b z : S) (s : Int) : keepI Q (r, a, b, z, s) = (r == 1 || decide (idxOf a Q 0 ≤ idxOf b Q 0)) := rfl
set_option maxRecDepth 20000 in
set_option maxHeartbeats 4000000 in
theorem rowStep {nm : ByteArray} (kd : Int) (M : S) {ar : Option Addr} {cr : Nat} {R : List S} {aw : Option Addr} {cw : Nat} {Q : List S} {af : Option Addr} {cf : Nat} {F : List F2} (w0 : World) (C B : Nat) (hB : w0.heap.size ≤ B) (hb : Blk w0 C 31 #[.string nm, .int .i64 kd, .int .u16 (sv M), .slice ar R.length cr, .slice aw Q.length cw, .slice af F.length cf]) (h : RowC w0 ar cr R aw cw Q af cf F) (l : List It) (x : It) (W : World) (hl : l.length ≤ 9000000) (hI : rInv w0 B Q l W) :
    Calls Tryd.prog 68 (argsI x ++ #[.pointer (some ⟨C, 0, none⟩), .pointer (some ⟨B, 0, none⟩)]) W fun e w' => e = .returned (.bool true) ∧ rInv w0 B Q (l ++ [x]) w' ∧ KpX (badR w0.heap.size) W w' := by
  obtain ⟨v, hBk, hO⟩ := hI
  have hfl : (l.filter (keepI Q)).length ≤ 9000000 := Nat.le_trans (List.length_filter_le _ _) hl
  have hsn := keep_snoc Q l x
  unfold rInv
  rw [hsn]
  obtain ⟨r, a, b, z, s⟩ := x
  have hkd := keepI_def Q r a b z s
  obtain ⟨a2, c2, rfl, _⟩ := hO.rd
  have KW := hO.2
  have q1 := fun d os => Calls.regrown_of ((index_any aw Q.length cw Q a (Sort.grow (redrawn W d) os) ((h.rd.q.keep KW).keep (grow_keeps d os))).mono fun e w' ⟨he, hw⟩ => ⟨he, hw ▸ Keeps.refl _⟩)
  have q2 := fun d os => Calls.regrown_of ((index_any aw Q.length cw Q b (Sort.grow (redrawn W d) os) ((h.rd.q.keep KW).keep (grow_keeps d os))).mono fun e w' ⟨he, hw⟩ => ⟨he, hw ▸ Keeps.refl _⟩)
  have r4 := cell_regrown ((hb.keep KW).c6).2.2.2.2.1
  generalize idxOf a Q 0 = ia_ at *
  generalize idxOf b Q 0 = ib_ at *
  generalize (l.filter (keepI Q)) = acc at *
  generalize keepI Q (r, a, b, z, s) = kp at *
  have HB := Lib.hid hBk; have HO := Lib.hid hO; have H1 := Lib.hid q1; have H2 := Lib.hid q2
  clear hBk hO q1 q2 hb h hsn hl
  unfold argsI
  show Calls _ _ #[.int .i64 r, .int .u16 (sv a), .int .u16 (sv b), .int .u16 (sv z), .int .i64 s, .pointer (some ⟨C, 0, none⟩), .pointer (some ⟨B, 0, none⟩)] W _
  have hcs : ((r == 1) = true ∧ kp = true) ∨ ((r == 1) = false ∧ decide (ia_ ≤ ib_) = true ∧ kp = true) ∨ ((r == 1) = false ∧ decide (ia_ ≤ ib_) = false ∧ kp = false) := by
    rw [hkd]
    cases (r == 1) <;> cases decide (ia_ ≤ ib_) <;> simp
  clear hkd
  rcases hcs with ⟨e1, rfl⟩ | ⟨e1, e2, rfl⟩ | ⟨e1, e2, rfl⟩
  rotate_right
  · rw [if_neg (by simp), List.append_nil]
    go_enter Tryd.func68, Tryd.ntmps68
    go_wp2_with fail
    refine wp_region_quiet_below (by kernel_rfl) (by kernel_rfl) ?_
    repeat (first | go_big_quiet_step (first | with_reducible exact H1.out _ _ | with_reducible exact H2.out _ _) | quiet_step (first | with_reducible exact H1.out _ _ | with_reducible exact H2.out _ _))
    refine wpQuiet_nil ?_
    intro _ hw'
    obtain ⟨⟨dq, osq⟩, hw''⟩ := hw'
    subst hw''
    have kz := grow_keeps (w := W) dq osq
    clear r4
    generalize Sort.grow (redrawn W dq) osq = wz at *
    go_wp2_with fail
    go_ret
    exact ⟨rfl, ⟨_, HB.out.keep kz, HO.out.keep kz⟩, KpX.of kz⟩
  all_goals
    rw [if_pos rfl, List.length_append, itl_append]
    go_enter Tryd.func68, Tryd.ntmps68
    go_wp2_with fail
    refine wp_region_quiet_below (by kernel_rfl) (by kernel_rfl) ?_
    repeat (first | go_big_quiet_step (first | with_reducible exact H1.out _ _ | with_reducible exact H2.out _ _) | quiet_step (first | with_reducible exact H1.out _ _ | with_reducible exact H2.out _ _))
    refine wpQuiet_nil ?_
    intro _ hw'
    obtain ⟨⟨dq, osq⟩, hw''⟩ := hw'
    subst hw''
    have kz := grow_keeps (w := W) dq osq
    clear r4
    generalize Sort.grow (redrawn W dq) osq = wz at *
    have HBz := Lib.hid (HB.out.keep kz)
    have HOz := Lib.hid (HO.out.keep kz)
    have cB := HBz.out.cell 0 rfl
    have HRD := Lib.hid (rd_new 70 5 wz [.int .i64 r, .int .u16 (sv a), .int .u16 (sv b), .int .u16 (sv z), .int .i64 s] 1 (by decide) rfl)
    have hbnd : acc.length + 1 ≤ 10000000 := by omega
    clear e1 hfl
    try clear e2
    go_wp2_with (at_builtin; refine wp_app tyIt rfl _ _ rfl (HOz.out.alloc _) rfl rfl HRD.out (itl_oneCell [(r, a, b, z, s)]) hbnd ?_)
    intro v' w3 hO3 hgr
    obtain ⟨a3, c3, rfl, _⟩ := hO3.rd
    have b3 := (HBz.out.keep ((Keeps.refl _).alloc _)).grown (HOz.out.alloc _) (by decide) hgr
    have d0 := b3.cell 0 rfl
    have f0 := b3.frozen 0
    have HO3 := Lib.hid hO3; have HG := Lib.hid hgr; have HB3 := Lib.hid b3
    clear hO3 hgr b3 cB
    go_wp2_with fail
    go_ret
    refine ⟨rfl, ⟨_, HB3.out.set 0 _, HO3.out.setOther HB3.out (by decide) hB 0 _⟩, ?_⟩
    refine (((KpX.of kz).trans (KpX.of ((Keeps.refl wz).alloc _))).trans (KpX.grown HG.out (badR_own (HOz.out.alloc _)))).trans ?_
    exact KpX.set HB3.out ⟨hB, Or.inl ⟨_, rfl⟩⟩ 0 _
set_option maxRecDepth 20000 in
set_option maxHeartbeats 4000000 in
theorem cRows_any (nm : ByteArray) (kd : Int) (wt M : S) {ar : Option Addr} {cr : Nat} {R : List S} {aw : Option Addr} {cw : Nat} {Q : List S} {af : Option Addr} {cf : Nat} {F : List F2} (w : World) (hT : Tab w) (h : RowC w ar cr R aw cw Q af cf F) (hn : F.length ≤ 1000000) (hbig : (allL wt (byz27 kd M F) R Q).length ≤ 9000000) :
    Calls Tryd.prog 37 #[.agg #[.string nm, .int .i64 kd, .int .u16 (sv M), .slice ar R.length cr, .slice aw Q.length cw, .slice af F.length cf], .int .u16 (sv wt)] w fun e w' => ∃ v, e = .returned v ∧ Own 70 5 w w' v (rowsP wt (byz27 kd M F) R Q).length (itl (rowsP wt (byz27 kd M F) R Q)) := by
  have K0 := (Keeps.refl w).alloc (.cells #[.string nm, .int .i64 kd, .int .u16 (sv M), .slice ar R.length cr, .slice aw Q.length cw, .slice af F.length cf] 31)
  have hb := Blk.new w 31 #[.string nm, .int .i64 kd, .int .u16 (sv M), .slice ar R.length cr, .slice aw Q.length cw, .slice af F.length cf]
  obtain ⟨W1, hW1⟩ : ∃ W0, W0 = w.alloc (.cells #[.string nm, .int .i64 kd, .int .u16 (sv M), .slice ar R.length cr, .slice aw Q.length cw, .slice af F.length cf] 31) := ⟨_, rfl⟩
  rw [← hW1] at hb K0
  have hsz : W1.heap.size = w.heap.size + 1 := by rw [hW1, World.size_alloc]
  have k2 := (Keeps.refl W1).alloc (.cells #[.slice none 0 0] 45)
  have hx := Blk.new W1 45 #[.slice none 0 0]
  obtain ⟨W2, hW2⟩ : ∃ W2, W2 = W1.alloc (.cells #[.slice none 0 0] 45) := ⟨_, rfl⟩
  rw [← hW2] at hx k2
  have hC1 := h.keep K0
  have hC2 := hC1.keep k2
  have K2 := K0.trans k2
  have eg : ∀ args w, (callFunc 68 args).run Tryd.prog w = .ok (.enter 68 args) w := enters_of Tryd.func68 (by kernel_rfl) rfl
  have hlt := (hT.keep K2).lt
  have hlt1 := (hT.keep K0).lt
  have hcall := all_any nm kd M wt 68 #[.pointer (some ⟨w.heap.size, 0, none⟩), .pointer (some ⟨W1.heap.size, 0, none⟩)] (fun _ => true) (badR W1.heap.size) (rInv W1 W1.heap.size Q) (byz27 kd M F) W2 (hT.keep K2) hC2
      (by rintro k cs ⟨_, ⟨c, hc⟩ | ⟨c, hc⟩⟩ <;> simp at hc) (by rintro k cs ⟨_, ⟨c, hc⟩ | ⟨c, hc⟩⟩ <;> simp at hc) (by rintro k cs ⟨_, ⟨c, hc⟩ | ⟨c, hc⟩⟩ <;> simp at hc)
      (by rintro o ⟨hc, _⟩; omega)
      (fun l W W' hl hk => by obtain ⟨v, h1, h2⟩ := hl; exact ⟨v, h1.keep hk, h2.keep hk⟩) eg
      (fun l x W _ hr hi => rowStep kd M W1 w.heap.size W1.heap.size (Nat.le_refl _) hb hC1 l x W (by obtain ⟨rest, hr⟩ := hr; have := congrArg List.length hr; rw [List.length_append] at this; omega) hi)
      ⟨_, hx, Own.nil _ _ k2⟩ (fun W' k' => cByz_any nm kd M W' (hC2.keep k').f.rd hn)
  have hup : upTo (fun _ => true) (allL wt (byz27 kd M F) R Q) = allL wt (byz27 kd M F) R Q := upTo_all _ _ (by simp)
  rw [hup] at hcall
  have hres : ∀ W, rInv W1 W1.heap.size Q (allL wt (byz27 kd M F) R Q) W → ∃ v, Blk W W1.heap.size 45 #[v] ∧ Own 70 5 W1 W v (rowsP wt (byz27 kd M F) R Q).length (itl (rowsP wt (byz27 kd M F) R Q)) := fun W hi => hi
  rw [hsz] at hcall hres
  have HC := Lib.hid hcall; have HR := Lib.hid hres
  have cc := Lib.hid (hb.keep k2)
  have hb2 := hb.keep k2
  obtain ⟨c0, c1, c2, c3, c4, c5⟩ := hb2.c6
  generalize rowsP wt (byz27 kd M F) R Q = res at *
  generalize allL wt (byz27 kd M F) R Q = al at *
  clear hcall hres hup eg hT h hC1 hC2 hb hb2 hx hbig
  go_enter Tryd.func37, Tryd.ntmps37
  go_wp2_with fail
  rw [← hW1, ← hW2]
  clear hW1 hW2 c0 c1 c2 c3 c4 c5
  refine HC.out.mono ?_
  rintro e w5 ⟨rfl, hI5, K5⟩
  obtain ⟨v, hB5, hO5⟩ := HR.out _ hI5
  have d0 := hB5.cell 0 rfl
  obtain ⟨a5, c5', rfl, _⟩ := hO5.rd
  have HO := Lib.hid hO5
  clear hI5 hO5 hB5
  go_wp2_with fail
  go_ret
  exact ⟨_, rfl, HO.out.since K0⟩
end Go.Proofs.YtcnccoinhohbeaaDoor
