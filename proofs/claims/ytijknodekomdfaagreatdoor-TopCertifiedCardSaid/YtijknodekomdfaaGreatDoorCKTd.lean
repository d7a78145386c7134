/- Texts joined into one, what is needed of them (a program of ours). -/
import Derived.Test.YtijknodekomdfaaGreatDoorCKT
import Derived.Test.YtijknodekomdfaaGreatDoorCKU
import Derived.Test.YtijknodekomdfaaGreatDoorCKA
import Derived.Lib.QuietBelow
import Derived.Test.YtijknodekomdfaaGreatDoorCKYc
import Derived.Test.YtijknodekomdfaaGreatDoorCKYa
import Derived.Test.YtijknodekomdfaaGreatDoorCKYe
namespace Go.Proofs.YtijknodekomdfaaGreatDoor
open Go.RowKit Go.Lib Go.Shelf

def vit (x : It) : Value := .agg #[.int .i64 x.1, .int .u16 (sv x.2.1), .int .u16 (sv x.2.2.1), .int .u16 (sv x.2.2.2.1), .int .i64 x.2.2.2.2]
def itl (l : List It) : List Value := l.flatMap fun x => [.int .i64 x.1, .int .u16 (sv x.2.1), .int .u16 (sv x.2.2.1), .int .u16 (sv x.2.2.2.1), .int .i64 x.2.2.2.2]
def it0 : It := (0, 0#16, 0#16, 0#16, 0)
def ia (l : List It) (i : Nat) : It := l.getD i it0
theorem length_itl (l : List It) : (itl l).length = l.length * 5 := by
  induction l with
  | nil => rfl
  | cons x xs ih => unfold itl at *; rw [List.flatMap_cons, List.length_append, ih]; simp; omega
theorem itl_append (l m : List It) : itl (l ++ m) = itl l ++ itl m := by unfold itl; rw [List.flatMap_append]
theorem ia_succ (x : It) (l : List It) (i : Nat) : ia (x :: l) (i + 1) = ia l i := by simp [ia, List.getD]
theorem itl_at (l : List It) : ∀ (i : Nat), i < l.length → (itl l)[i * 5]? = some (.int .i64 (ia l i).1) ∧ (itl l)[i * 5 + 1]? = some (.int .u16 (sv (ia l i).2.1)) ∧ (itl l)[i * 5 + 2]? = some (.int .u16 (sv (ia l i).2.2.1)) ∧ (itl l)[i * 5 + 3]? = some (.int .u16 (sv (ia l i).2.2.2.1)) ∧ (itl l)[i * 5 + 4]? = some (.int .i64 (ia l i).2.2.2.2) := by
  induction l with
  | nil => intro i h; simp at h
  | cons x xs ih =>
    intro i h
    cases i with
    | zero => exact ⟨rfl, rfl, rfl, rfl, rfl⟩
    | succ i =>
      have := ih i (by simpa using h)
      rw [ia_succ]
      unfold itl at *
      rw [List.flatMap_cons, show (i + 1) * 5 = i * 5 + 5 by omega]
      exact this
theorem drop_ia (l : List It) (i : Nat) (h : i < l.length) : l.drop i = ia l i :: l.drop (i + 1) := by
  rw [List.drop_eq_getElem_cons h]; simp [ia, List.getD, h]
theorem ia_mem {l : List It} {i : Nat} (h : i < l.length) : ia l i ∈ l := by simp [ia, List.getD, h]
theorem Rd.lenI {w : World} {a : Option Addr} {n c : Nat} {l : List It} (h : Rd w a n c 5 (itl l)) : l.length = n := by have := h.len; rw [length_itl] at this; omega
theorem Rd.i {w : World} {a : Option Addr} {n c : Nat} {l : List It} (h : Rd w a n c 5 (itl l)) {i : Nat} (hi : i < n) :
    w.cell? (adr a (i * 5)) = some (.int .i64 (ia l i).1) ∧ w.cell? (adr a (i * 5 + 1)) = some (.int .u16 (sv (ia l i).2.1)) ∧ w.cell? (adr a (i * 5 + 2)) = some (.int .u16 (sv (ia l i).2.2.1)) ∧ w.cell? (adr a (i * 5 + 3)) = some (.int .u16 (sv (ia l i).2.2.2.1)) ∧ w.cell? (adr a (i * 5 + 4)) = some (.int .i64 (ia l i).2.2.2.2) := by
  obtain ⟨h0, h1, h2, h3, h4⟩ := itl_at l i (by rw [h.lenI]; exact hi)
  exact ⟨h.cell _ _ h0, h.cell _ _ h1, h.cell _ _ h2, h.cell _ _ h3, h.cell _ _ h4⟩
theorem Rd.i' {w : World} {a : Option Addr} {n c : Nat} {l : List It} (h : Rd w a n c 5 (itl l)) {i : Nat} (hi : i < n) :
    w.cell? ⟨(adr a (i * 5)).block, (adr a (i * 5)).off + 1, none⟩ = some (.int .u16 (sv (ia l i).2.1)) ∧ w.cell? ⟨(adr a (i * 5)).block, (adr a (i * 5)).off + 2, none⟩ = some (.int .u16 (sv (ia l i).2.2.1)) ∧ w.cell? ⟨(adr a (i * 5)).block, (adr a (i * 5)).off + 3, none⟩ = some (.int .u16 (sv (ia l i).2.2.2.1)) ∧ w.cell? ⟨(adr a (i * 5)).block, (adr a (i * 5)).off + 4, none⟩ = some (.int .i64 (ia l i).2.2.2.2) := by
  obtain ⟨h0, h1, h2, h3, h4⟩ := h.i hi
  rw [adr_plus a _ 1 (by omega), adr_plus a _ 2 (by omega), adr_plus a _ 3 (by omega), adr_plus a _ 4 (by omega)]
  exact ⟨h1, h2, h3, h4⟩
theorem infoIt : (Tryz.prog.info? 101).map (fun i => (i.zero, i.size, i.bytes)) = some (some (.agg #[.int .i64 0, .int .u16 0, .int .u16 0, .int .u16 0, .int .i64 0]), 5, 24) := by kernel_rfl
theorem tyIt : STy Tryz.prog 37 101 5 24 := STy.of Tryz.underlying37 infoIt rfl (by decide) (by decide)
theorem itl_oneCell (l : List It) : ∀ v ∈ itl l, v.oneCell' = true := fun v hv => by
  unfold itl at hv
  obtain ⟨x, _, hx⟩ := List.mem_flatMap.1 hv
  simp at hx
  rcases hx with rfl | rfl | rfl | rfl | rfl <;> rfl
theorem cB5 {w : World} {B : Nat} {T : TypeId} {v0 v1 v2 v3 v4 : Value} (h : Blk w B T #[v0, v1, v2, v3, v4]) :
    (w.cell? ⟨B, 0, none⟩ = some v0 ∧ w.cell? ⟨B, 1, none⟩ = some v1 ∧ w.cell? ⟨B, 2, none⟩ = some v2 ∧ w.cell? ⟨B, 3, none⟩ = some v3 ∧ w.cell? ⟨B, 4, none⟩ = some v4) :=
  ⟨h.cell 0 rfl, h.cell 1 rfl, h.cell 2 rfl, h.cell 3 rfl, h.cell 4 rfl⟩
/-- what a call that gives a certificate came back with -/
def RetPr (w : World) (r : List It × Int) (e : Ending) (w' : World) : Prop := ∃ v, e = .returned (.tuple #[v, .int .i64 r.2]) ∧ Own 101 5 w w' v r.1.length (itl r.1)
end Go.Proofs.YtijknodekomdfaaGreatDoor
namespace Go.Proofs.YtijknodekomdfaaGreatDoor
open Go.RowKit Go.Lib Go.Shelf

theorem dropI {l : List It} {n i : Nat} (L : Hid (l.length = n)) (h : i < n) : l.drop i = ia l i :: l.drop (i + 1) := drop_ia l i (by have := L.out; omega)
theorem dropIN {l : List It} {n i : Nat} (L : Hid (l.length = n)) (h : ¬ i < n) : l.drop i = [] := List.drop_eq_nil_iff.2 (by have := L.out; omega)
set_option maxHeartbeats 800000 in
theorem indexFuncI_any (a : Option Addr) (n c : Nat) (l : List It) (w : World) (g : Nat) (lb : Array Value) (p : It → Bool) (h : Rd w a n c 5 (itl l))
    (eg : ∀ args w, (callFunc g args).run Tryz.prog w = .ok (.enter g args) w) (hp : PredK Tryz.prog g lb vit p l w) :
    Calls Tryz.prog 116 #[.slice a n c, .func (.func g) #[] lb] w fun e w' => e = .returned (.int .i64 (idxFrom p l 0)) ∧ Keeps w w' := by
  have s1 := h.small
  have l1 := h.lenI
  have L1 := Lib.hid l1; clear l1
  have HP := Lib.hid hp; clear hp
  go_enter Tryz.func116, Tryz.ntmps116
  go_wp2
  go_loopw [8] (fun v wr => ∃ k : Nat, k ≤ n ∧ v = .int .i64 k ∧ Keeps w wr ∧ Hid (idxFrom p l 0 = idxFrom p (l.drop k) k)) (fun v _ => n - (RowKit.intOf v).toNat)
  case atStart => exact ⟨0, Nat.zero_le _, rfl, Keeps.refl _, rfl⟩
  case round =>
    obtain ⟨k, hk, rfl, K1, HI⟩ := hrel
    by_cases hlt : k < n
    · obtain ⟨hc, _⟩ := (h.keep K1).i hlt
      obtain ⟨hc1, hc2, hc3, hc4⟩ := (h.keep K1).i' hlt
      have ha := h.isSome (by omega)
      have hcall := HP.out wr (ia l k) (ia_mem (by have := L1.out; omega)) K1
      unfold vit at hcall
      have HC := Lib.hid hcall; clear hcall
      cases hq : p (ia l k) with
      | true =>
        rw [hq] at HC
        have HQ := Lib.hid hq; clear hq
        go_wp2_with (go_at_fn g; refine (HC.out).mono ?_; rintro e w' ⟨rfl, K2⟩)
        go_ret
        exact ⟨by rw [HI.out, dropI L1 hlt, idxFrom, if_pos HQ.out]; rfl, K1.trans K2⟩
      | false =>
        rw [hq] at HC
        have HQ := Lib.hid hq; clear hq
        go_wp2_with (go_at_fn g; refine (HC.out).mono ?_; rintro e w' ⟨rfl, K2⟩)
        go_roundw
        case rel => exact ⟨k + 1, by omega, by go_num, K1.trans K2, hrfl <| by rw [HI.out, dropI L1 hlt, idxFrom, if_neg (by rw [HQ.out]; simp)]⟩
        case measure => simp [RowKit.intOf]; omega
    · go_wp2
      go_ret
      exact ⟨by rw [HI.out, dropIN L1 hlt, idxFrom]; rfl, K1⟩

set_option maxHeartbeats 800000 in
theorem containsFuncI_any (a : Option Addr) (n c : Nat) (l : List It) (w : World) (g : Nat) (lb : Array Value) (p : It → Bool) (h : Rd w a n c 5 (itl l))
    (eg : ∀ args w, (callFunc g args).run Tryz.prog w = .ok (.enter g args) w) (hp : PredK Tryz.prog g lb vit p l w) :
    Calls Tryz.prog 52 #[.slice a n c, .func (.func g) #[] lb] w fun e w' => e = .returned (.bool (l.any p)) ∧ Keeps w w' := by
  have HX := Lib.hid (idxFrom_any p l 0)
  have hcon := indexFuncI_any a n c l w g lb p h eg hp
  generalize idxFrom p l 0 = r at hcon HX
  have HC := Lib.hid hcon; clear hcon eg hp h
  go_enter Tryz.func52, Tryz.ntmps52
  go_wp2_with (go_at_call 116; refine HC.out.mono ?_; rintro e w' ⟨rfl, K2⟩)
  go_ret
  exact ⟨by rw [← HX.out]; rfl, K2⟩
end Go.Proofs.YtijknodekomdfaaGreatDoor
namespace Go.Proofs.YtijknodekomdfaaGreatDoor
open Go.RowKit Go.Lib Go.Shelf

theorem KpX.grown {bad : Nat → Obj → Prop} {W W' : World} {row : Option Nat} (h : W.grownBy W' row) (hb : ∀ k o, some k = row → W.heap[k]? = some o → bad k o) : KpX bad W W' :=
  ⟨h.os, h.tape, h.output, h.size, fun k o hk hn => by
    by_cases e : some k = row
    · exact absurd (hb k o e hk) hn
    · rw [h.block k (Array.getElem?_eq_some_iff.1 hk).1 e]; exact hk⟩
theorem Own.setOther {e : TypeId} {sz : Nat} {w0 w : World} {v : Value} {n : Nat} {xs : List Value} (h : Own e sz w0 w v n xs) {B : Nat} {T : TypeId} {cs : Array Value} (hB : Blk w B T cs) (hT : T ≠ e) (hle : w0.heap.size ≤ B) (i : Nat) (u : Value) : Own e sz w0 (w.setCell ⟨B, i, none⟩ u) v n xs := by
  obtain ⟨⟨h1, h2⟩, hk⟩ := h
  refine ⟨⟨h1, ?_⟩, keeps_set hk hle i u⟩
  rcases h2 with ⟨a, b⟩ | ⟨g, cap, cur, hv, hg, hh, r⟩
  · exact Or.inl ⟨a, b⟩
  · refine Or.inr ⟨g, cap, cur, hv, hg, ?_, r⟩
    have hne : g ≠ B := by
      rintro rfl
      unfold Blk at hB
      rw [hB] at hh
      injection hh with hh
      injection hh with _ hh2
      exact hT hh2
    rw [Below.heap_setCell _ _ _ _ (by simpa using hne)]; exact hh
/-- a variable's block lies beside a row of another type that grows -/
theorem Blk.grown {w w' : World} {B : Nat} {T e : TypeId} {cs : Array Value} (h : Blk w B T cs) {sz : Nat} {w0 : World} {v : Value} {n : Nat} {xs : List Value} (hO : Own e sz w0 w v n xs) (hT : T ≠ e) (hg : w.grownBy w' v.ownBlock) : Blk w' B T cs := by
  have hne : some B ≠ v.ownBlock := by
    intro hb
    rcases hO.1.2 with ⟨rfl, _⟩ | ⟨g, cap, cur, rfl, _, hh, _⟩
    · cases hb
    · injection hb with hb
      subst hb
      unfold Blk at h
      rw [h] at hh
      injection hh with hh
      injection hh with _ hh2
      exact hT hh2
  unfold Blk
  rw [hg.block B h.lt hne]; exact h
def badR (n0 : Nat) (k : Nat) (o : Obj) : Prop := n0 ≤ k ∧ ((∃ cs, o = .cells cs 37) ∨ ∃ cs, o = .cells cs 101)
theorem badR_own {w0 w : World} {v : Value} {n sz : Nat} {xs : List Value} (hO : Own 101 sz w0 w v n xs) (k : Nat) (o : Obj) (hk : some k = v.ownBlock) (ho : w.heap[k]? = some o) : badR w0.heap.size k o := by
  rcases hO.1.2 with ⟨rfl, _⟩ | ⟨g, cap, cur, rfl, hg, hh, _⟩
  · cases hk
  · injection hk with hk
    subst hk
    rw [hh] at ho
    injection ho with ho
    exact ⟨hg, Or.inr ⟨_, ho.symm⟩⟩
def rInv (w0 : World) (B : Nat) (Q : List S) (l : List It) (W : World) : Prop :=
  ∃ v, Blk W B 37 #[v] ∧ Own 101 5 w0 W v (l.filter (keepI Q)).length (itl (l.filter (keepI Q)))
theorem keep_snoc (Q : List S) (l : List It) (x : It) : (l ++ [x]).filter (keepI Q) = l.filter (keepI Q) ++ (if keepI Q x = true then [x] else []) := by
  rw [List.filter_append]; cases h : keepI Q x <;> simp [h]
theorem keepI_def (Q : List S) (r : Int) (a b z : S) (s : Int) : keepI Q (r, a, b, z, s) = (r == 1 || decide (idxOf a Q 0 ≤ idxOf b Q 0)) := rfl
set_option maxRecDepth 20000 in
set_option maxHeartbeats 4000000 in
theorem rowStep {nm : ByteArray} (kd : Int) (M : S) {ar : Option Addr} {cr : Nat} {R : List S} {aw : Option Addr} {cw : Nat} {Q : List S} {af : Option Addr} {cf : Nat} {F : List F2} (w0 : World) (C B : Nat) (hB : w0.heap.size ≤ B) (hb : Blk w0 C 36 #[.string nm, .int .i64 kd, .int .u16 (sv M), .slice ar R.length cr, .slice aw Q.length cw, .slice af F.length cf]) (h : RowC w0 ar cr R aw cw Q af cf F) (l : List It) (x : It) (W : World) (hl : l.length ≤ 9000000) (hI : rInv w0 B Q l W) :
    Calls Tryz.prog 114 (argsI x ++ #[.pointer (some ⟨C, 0, none⟩), .pointer (some ⟨B, 0, none⟩)]) W fun e w' => e = .returned (.bool true) ∧ rInv w0 B Q (l ++ [x]) w' ∧ KpX (badR w0.heap.size) W w' := by
  obtain ⟨v, hBk, hO⟩ := hI
  have hfl : (l.filter (keepI Q)).length ≤ 9000000 := Nat.le_trans (List.length_filter_le _ _) hl
  have hsn := keep_snoc Q l x
  unfold rInv
  rw [hsn]
  obtain ⟨r, a, b, z, s⟩ := x
  have hkd := keepI_def Q r a b z s
  obtain ⟨a2, c2, rfl, _⟩ := hO.rd
  have KW := hO.2
  have q1 := fun d os => Calls.regrown_of ((index_any aw Q.length cw Q a (Sort.grow (redrawn W d) os) ((h.rd.q.keep KW).keep (grow_keeps d os))).mono fun e w' ⟨he, hw⟩ => ⟨he, hw ▸ Keeps.refl _⟩)
  have q2 := fun d os => Calls.regrown_of ((index_any aw Q.length cw Q b (Sort.grow (redrawn W d) os) ((h.rd.q.keep KW).keep (grow_keeps d os))).mono fun e w' ⟨he, hw⟩ => ⟨he, hw ▸ Keeps.refl _⟩)
  have r4 := cell_regrown ((hb.keep KW).c6).2.2.2.2.1
  generalize idxOf a Q 0 = ia_ at *
  generalize idxOf b Q 0 = ib_ at *
  generalize (l.filter (keepI Q)) = acc at *
  generalize keepI Q (r, a, b, z, s) = kp at *
  have HB := Lib.hid hBk; have HO := Lib.hid hO; have H1 := Lib.hid q1; have H2 := Lib.hid q2
  clear hBk hO q1 q2 hb h hsn hl
  unfold argsI
  show Calls _ _ #[.int .i64 r, .int .u16 (sv a), .int .u16 (sv b), .int .u16 (sv z), .int .i64 s, .pointer (some ⟨C, 0, none⟩), .pointer (some ⟨B, 0, none⟩)] W _
  have hcs : ((r == 1) = true ∧ kp = true) ∨ ((r == 1) = false ∧ decide (ia_ ≤ ib_) = true ∧ kp = true) ∨ ((r == 1) = false ∧ decide (ia_ ≤ ib_) = false ∧ kp = false) := by
    rw [hkd]
    cases (r == 1) <;> cases decide (ia_ ≤ ib_) <;> simp
  clear hkd
  rcases hcs with ⟨e1, rfl⟩ | ⟨e1, e2, rfl⟩ | ⟨e1, e2, rfl⟩
  rotate_right
  · rw [if_neg (by simp), List.append_nil]
    go_enter Tryz.func114, Tryz.ntmps114
    go_wp2_with fail
    refine wp_region_quiet_below (by kernel_rfl) (by kernel_rfl) ?_
    repeat (first | go_big_quiet_step (first | with_reducible exact H1.out _ _ | with_reducible exact H2.out _ _) | quiet_step (first | with_reducible exact H1.out _ _ | with_reducible exact H2.out _ _))
    refine wpQuiet_nil ?_
    intro _ hw'
    obtain ⟨⟨dq, osq⟩, hw''⟩ := hw'
    subst hw''
    have kz := grow_keeps (w := W) dq osq
    clear r4
    generalize Sort.grow (redrawn W dq) osq = wz at *
    go_wp2_with fail
    go_ret
    exact ⟨rfl, ⟨_, HB.out.keep kz, HO.out.keep kz⟩, KpX.of kz⟩
  all_goals
    rw [if_pos rfl, List.length_append, itl_append]
    go_enter Tryz.func114, Tryz.ntmps114
    go_wp2_with fail
    refine wp_region_quiet_below (by kernel_rfl) (by kernel_rfl) ?_
    repeat (first | go_big_quiet_step (first | with_reducible exact H1.out _ _ | with_reducible exact H2.out _ _) | quiet_step (first | with_reducible exact H1.out _ _ | with_reducible exact H2.out _ _))
    refine wpQuiet_nil ?_
    intro _ hw'
    obtain ⟨⟨dq, osq⟩, hw''⟩ := hw'
    subst hw''
    have kz := grow_keeps (w := W) dq osq
    clear r4
    generalize Sort.grow (redrawn W dq) osq = wz at *
    have HBz := Lib.hid (HB.out.keep kz)
    have HOz := Lib.hid (HO.out.keep kz)
    have cB := HBz.out.cell 0 rfl
    have HRD := Lib.hid (rd_new 101 5 wz [.int .i64 r, .int .u16 (sv a), .int .u16 (sv b), .int .u16 (sv z), .int .i64 s] 1 (by decide) rfl)
    have hbnd : acc.length + 1 ≤ 10000000 := by omega
    clear e1 hfl
    try clear e2
    go_wp2_with (at_builtin; refine wp_app tyIt rfl _ _ rfl (HOz.out.alloc _) rfl rfl HRD.out (itl_oneCell [(r, a, b, z, s)]) hbnd ?_)
    intro v' w3 hO3 hgr
    obtain ⟨a3, c3, rfl, _⟩ := hO3.rd
    have b3 := (HBz.out.keep ((Keeps.refl _).alloc _)).grown (HOz.out.alloc _) (by decide) hgr
    have d0 := b3.cell 0 rfl
    have f0 := b3.frozen 0
    have HO3 := Lib.hid hO3; have HG := Lib.hid hgr; have HB3 := Lib.hid b3
    clear hO3 hgr b3 cB
    go_wp2_with fail
    go_ret
    refine ⟨rfl, ⟨_, HB3.out.set 0 _, HO3.out.setOther HB3.out (by decide) hB 0 _⟩, ?_⟩
    refine (((KpX.of kz).trans (KpX.of ((Keeps.refl wz).alloc _))).trans (KpX.grown HG.out (badR_own (HOz.out.alloc _)))).trans ?_
    exact KpX.set HB3.out ⟨hB, Or.inl ⟨_, rfl⟩⟩ 0 _
set_option maxRecDepth 20000 in
set_option maxHeartbeats 4000000 in
theorem cRows_any (nm : ByteArray) (kd : Int) (wt M : S) {ar : Option Addr} {cr : Nat} {R : List S} {aw : Option Addr} {cw : Nat} {Q : List S} {af : Option Addr} {cf : Nat} {F : List F2} (w : World) (hT : Tab w) (h : RowC w ar cr R aw cw Q af cf F) (hn : F.length ≤ 1000000) (hbig : (allL wt (byz27 kd M F) R Q).length ≤ 9000000) :
    Calls Tryz.prog 51 #[.agg #[.string nm, .int .i64 kd, .int .u16 (sv M), .slice ar R.length cr, .slice aw Q.length cw, .slice af F.length cf], .int .u16 (sv wt)] w fun e w' => ∃ v, e = .returned v ∧ Own 101 5 w w' v (rowsP wt (byz27 kd M F) R Q).length (itl (rowsP wt (byz27 kd M F) R Q)) := by
  have K0 := (Keeps.refl w).alloc (.cells #[.string nm, .int .i64 kd, .int .u16 (sv M), .slice ar R.length cr, .slice aw Q.length cw, .slice af F.length cf] 36)
  have hb := Blk.new w 36 #[.string nm, .int .i64 kd, .int .u16 (sv M), .slice ar R.length cr, .slice aw Q.length cw, .slice af F.length cf]
  obtain ⟨W1, hW1⟩ : ∃ W0, W0 = w.alloc (.cells #[.string nm, .int .i64 kd, .int .u16 (sv M), .slice ar R.length cr, .slice aw Q.length cw, .slice af F.length cf] 36) := ⟨_, rfl⟩
  rw [← hW1] at hb K0
  have hsz : W1.heap.size = w.heap.size + 1 := by rw [hW1, World.size_alloc]
  have k2 := (Keeps.refl W1).alloc (.cells #[.slice none 0 0] 37)
  have hx := Blk.new W1 37 #[.slice none 0 0]
  obtain ⟨W2, hW2⟩ : ∃ W2, W2 = W1.alloc (.cells #[.slice none 0 0] 37) := ⟨_, rfl⟩
  rw [← hW2] at hx k2
  have hC1 := h.keep K0
  have hC2 := hC1.keep k2
  have K2 := K0.trans k2
  have eg : ∀ args w, (callFunc 114 args).run Tryz.prog w = .ok (.enter 114 args) w := enters_of Tryz.func114 (by kernel_rfl) rfl
  have hlt := (hT.keep K2).lt
  have hlt1 := (hT.keep K0).lt
  have hcall := all_any nm kd M wt 114 #[.pointer (some ⟨w.heap.size, 0, none⟩), .pointer (some ⟨W1.heap.size, 0, none⟩)] (fun _ => true) (badR W1.heap.size) (rInv W1 W1.heap.size Q) (byz27 kd M F) W2 (hT.keep K2) hC2
      (by rintro k cs ⟨_, ⟨c, hc⟩ | ⟨c, hc⟩⟩ <;> simp at hc) (by rintro k cs ⟨_, ⟨c, hc⟩ | ⟨c, hc⟩⟩ <;> simp at hc) (by rintro k cs ⟨_, ⟨c, hc⟩ | ⟨c, hc⟩⟩ <;> simp at hc)
      (by rintro o ⟨hc, _⟩; omega)
      (fun l W W' hl hk => by obtain ⟨v, h1, h2⟩ := hl; exact ⟨v, h1.keep hk, h2.keep hk⟩) eg
      (fun l x W _ hr hi => rowStep kd M W1 w.heap.size W1.heap.size (Nat.le_refl _) hb hC1 l x W (by obtain ⟨rest, hr⟩ := hr; have := congrArg List.length hr; rw [List.length_append] at this; omega) hi)
      ⟨_, hx, Own.nil _ _ k2⟩ (fun W' k' => cByz_any nm kd M W' (hC2.keep k').f.rd hn)
  have hup : upTo (fun _ => true) (allL wt (byz27 kd M F) R Q) = allL wt (byz27 kd M F) R Q := upTo_all _ _ (by simp)
  rw [hup] at hcall
  have hres : ∀ W, rInv W1 W1.heap.size Q (allL wt (byz27 kd M F) R Q) W → ∃ v, Blk W W1.heap.size 37 #[v] ∧ Own 101 5 W1 W v (rowsP wt (byz27 kd M F) R Q).length (itl (rowsP wt (byz27 kd M F) R Q)) := fun W hi => hi
  rw [hsz] at hcall hres
  have HC := Lib.hid hcall; have HR := Lib.hid hres
  have cc := Lib.hid (hb.keep k2)
  have hb2 := hb.keep k2
  obtain ⟨c0, c1, c2, c3, c4, c5⟩ := hb2.c6
  generalize rowsP wt (byz27 kd M F) R Q = res at *
  generalize allL wt (byz27 kd M F) R Q = al at *
  clear hcall hres hup eg hT h hC1 hC2 hb hb2 hx hbig
  go_enter Tryz.func51, Tryz.ntmps51
  go_wp2_with fail
  rw [← hW1, ← hW2]
  clear hW1 hW2 c0 c1 c2 c3 c4 c5
  refine HC.out.mono ?_
  rintro e w5 ⟨rfl, hI5, K5⟩
  obtain ⟨v, hB5, hO5⟩ := HR.out _ hI5
  have d0 := hB5.cell 0 rfl
  obtain ⟨a5, c5', rfl, _⟩ := hO5.rd
  have HO := Lib.hid hO5
  clear hI5 hO5 hB5
  go_wp2_with fail
  go_ret
  exact ⟨_, rfl, HO.out.since K0⟩
end Go.Proofs.YtijknodekomdfaaGreatDoor
namespace Go.Proofs.YtijknodekomdfaaGreatDoor
open Go.RowKit Go.Lib Go.Shelf

theorem negPred (l : List It) (w : World) : PredK Tryz.prog 53 #[] vit negI l w := fun W x _ hk => by
  have K := (Keeps.refl W).alloc (.cells #[.int .i64 x.1, .int .u16 (sv x.2.1), .int .u16 (sv x.2.2.1), .int .u16 (sv x.2.2.2.1), .int .i64 x.2.2.2.2] 101)
  obtain ⟨d0, d1, d2, d3, d4⟩ := cB5 (Blk.new W 101 #[.int .i64 x.1, .int .u16 (sv x.2.1), .int .u16 (sv x.2.2.1), .int .u16 (sv x.2.2.2.1), .int .i64 x.2.2.2.2])
  obtain ⟨r, a, b, z, s⟩ := x
  unfold negI
  show Calls Tryz.prog 53 #[.agg #[.int .i64 r, .int .u16 (sv a), .int .u16 (sv b), .int .u16 (sv z), .int .i64 s]] W _
  go_enter Tryz.func53, Tryz.ntmps53
  go_wp2_with fail
  go_ret
  exact ⟨rfl, K⟩
theorem wrap_nat (n : Nat) (h : n ≤ 1000000000000000000) : IntKind.i64.wrap (n : Int) = n := by rw [IntKind.wrap_i64]; omega
theorem pro_eq (kd : Int) (wt M : S) (R Q : List S) (F : List F2) (e : Int) (he : e = cvS kd M R Q F) (byz : List S) (hb : byz = byz27 kd M F) (ps : List It) (hp : ps = rowsP wt byz R Q) (q : Bool) (hq : q = ps.any negI) :
    proS kd wt M R Q F = if e ≠ 0 then ([], e) else if 20000 < cntR byz R Q then ([], 3) else if q = true then ([], 12) else (ps, 0) := by
  subst he; subst hb; subst hp; subst hq; rfl
theorem all_len (wt : S) (byz R Q : List S) (hz : (if at_ byz 0 = 0#16 then 0 else byz.length) = nzc byz) (h : ¬ 20000 < cntR byz R Q) : (allL wt byz R Q).length ≤ 9000000 := by
  unfold cntR at h
  rw [hz] at h
  have h1 : (R.flatMap fun r => Q.flatMap (al1 wt byz r)).length = R.length * (Q.length * byz.length) := flatMap_count R _ _ (fun r => flatMap_count Q _ _ (fun q => by unfold al1; rw [List.length_map]))
  have h2 : (Q.flatMap fun p => Q.flatMap (al2 byz p)).length = Q.length * (Q.length * nzc byz) := flatMap_count Q _ _ (fun r => flatMap_count Q _ _ (fun q => by unfold al2 nzc; rw [List.length_map]))
  unfold allL
  rw [List.length_append, h1, h2, ← Nat.mul_assoc, ← Nat.mul_assoc]
  generalize R.length * Q.length * byz.length = x at *
  have h3 : Q.length * (Q.length + 1) / 2 * nzc byz ≤ 20000 := by omega
  have h4 : Q.length * Q.length * nzc byz ≤ 2 * (Q.length * (Q.length + 1) / 2 * nzc byz) := by
    rw [← Nat.mul_assoc]
    refine Nat.mul_le_mul_right _ ?_
    have : Q.length * (Q.length + 1) = Q.length * Q.length + Q.length := by rw [Nat.mul_add, Nat.mul_one]
    have he : 2 ∣ Q.length * (Q.length + 1) := by
      rcases Nat.mod_two_eq_zero_or_one Q.length with h0 | h0
      · exact Nat.dvd_trans (Nat.dvd_of_mod_eq_zero h0) (Nat.dvd_mul_right _ _)
      · exact Nat.dvd_trans (Nat.dvd_of_mod_eq_zero (by omega)) (Nat.dvd_mul_left _ _)
    omega
  omega
set_option maxRecDepth 20000 in
set_option maxHeartbeats 6000000 in
theorem cProve_any {nm : ByteArray} [NmOk nm] (kd : Int) (wt M : S) {ar : Option Addr} {cr : Nat} {R : List S} {aw : Option Addr} {cw : Nat} {Q : List S} {af : Option Addr} {cf : Nat} {F : List F2} (w : World) (hT : Tab w) (h : RowC w ar cr R aw cw Q af cf F) (hR : R.length ≤ 4096) (hQ : Q.length ≤ 4096) (hn : F.length ≤ 100000) :
    Calls Tryz.prog 12 #[.agg #[.string nm, .int .i64 kd, .int .u16 (sv M), .slice ar R.length cr, .slice aw Q.length cw, .slice af F.length cf], .int .u16 (sv wt)] w fun e w' => RetPr w (proS kd wt M R Q F) e w' := by
  have K0 := (Keeps.refl w).alloc (.cells #[.string nm, .int .i64 kd, .int .u16 (sv M), .slice ar R.length cr, .slice aw Q.length cw, .slice af F.length cf] 36)
  have hb := BoxC.new w 36 nm kd M ar R.length cr aw Q.length cw af F.length cf
  obtain ⟨W1, hW1⟩ : ∃ W0, W0 = w.alloc (.cells #[.string nm, .int .i64 kd, .int .u16 (sv M), .slice ar R.length cr, .slice aw Q.length cw, .slice af F.length cf] 36) := ⟨_, rfl⟩
  rw [← hW1] at hb K0
  have h1 := fun W (k : Keeps w W) => configValid_any (nm := nm) kd M W (h.keep k).rd
  have h2 := fun W (k : Keeps w W) => cByz_any nm kd M (ar := ar) (cr := cr) (R := R) (aw := aw) (cw := cw) (Q := Q) W ((h.keep k).f.rd) (by omega)
  have h3 := fun hbig W (k : Keeps w W) => cRows_any nm kd wt M W (hT.keep k) (h.keep k) (by omega) hbig
  have h4 := fun A C (l : List It) W (hl : Rd W A l.length C 5 (itl l)) => containsFuncI_any A l.length C l W 53 #[] negI hl (enters_of Tryz.func53 (by kernel_rfl) rfl) (negPred l W)
  have hzz : cvS kd M R Q F = 0 → 0 < (byz27 kd M F).length ∧ (if at_ (byz27 kd M F) 0 = 0#16 then 0 else (byz27 kd M F).length) = nzc (byz27 kd M F) := fun hc => bad_nz kd M (fv_pos (cv_parts hc).2.2.2.2)
  have hbl := byz27_le kd M F
  obtain ⟨er, her⟩ : ∃ e, e = cvS kd M R Q F := ⟨_, rfl⟩
  obtain ⟨byz, hby⟩ : ∃ e, e = byz27 kd M F := ⟨_, rfl⟩
  obtain ⟨ps, hps⟩ : ∃ e, e = rowsP wt byz R Q := ⟨_, rfl⟩
  obtain ⟨q, hq⟩ : ∃ e, e = ps.any negI := ⟨_, rfl⟩
  rw [pro_eq kd wt M R Q F er her byz hby ps hps q hq]
  have h4' := fun A C W (hl : Rd W A ps.length C 5 (itl ps)) => h4 A C ps W hl
  rw [← hq] at h4'
  rw [← her] at hzz
  simp only [← her] at h1
  simp only [← hby] at h2 h3 hzz hbl
  simp only [← hps] at h3
  have hal := fun hz hc => all_len wt byz R Q hz hc
  have hcn : cntR byz R Q = R.length * Q.length * byz.length + Q.length * (Q.length + 1) / 2 * (if at_ byz 0 = 0#16 then 0 else byz.length) := rfl
  generalize cntR byz R Q = cn at *
  generalize allL wt byz R Q = al at *
  clear h4 hps hq hby her h hT
  have H1 := Lib.hid h1; have H2 := Lib.hid h2; have H3 := Lib.hid h3; have H4 := Lib.hid h4'; have HAL := Lib.hid hal; have HCN := Lib.hid hcn; have HZZ := Lib.hid hzz
  have HFA := Lib.hid (fun (W : World) (k : Keeps W1 W) => (hb.keep k).conj)
  clear h1 h2 h3 h4' hal hcn hzz
  generalize R.length = nr at *
  generalize Q.length = nq at *
  generalize F.length = nf at *
  obtain ⟨c0, c1, c2, c3, c4, c5⟩ := hb.conj
  clear hb
  have hcs : er = 0 ∨ er ≠ 0 ∧ (er != 0) = true ∧ (er == 0) = false := by
    by_cases hz : er = 0
    · exact .inl hz
    · exact .inr ⟨hz, by simpa using hz, by simpa using hz⟩
  rcases hcs with rfl | ⟨hne, hb1, hb2⟩
  rotate_left
  · rw [if_pos hne]
    go_enter Tryz.func12, Tryz.ntmps12
    go_wp2_with fail
    rw [← hW1]
    clear hW1 c0 c1 c2 c3 c4 c5 hne
    refine (H1.out _ K0).mono ?_
    rintro e w3 ⟨rfl, K1⟩
    go_wp2_with fail
    go_ret2
    exact ⟨_, rfl, Own.nil _ _ (K0.trans K1)⟩
  rw [if_neg (by simp)]
  obtain ⟨res, hres⟩ : ∃ r, r = if 20000 < cn then (([], 3) : List It × Int) else if q = true then ([], 12) else (ps, 0) := ⟨_, rfl⟩
  rw [← hres]
  have HRES := Lib.hid hres
  clear hres
  obtain ⟨hp, hz⟩ := HZZ.out rfl
  have HZ := Lib.hid hz
  clear hz HZZ
  go_enter Tryz.func12, Tryz.ntmps12
  go_wp2_with fail
  rw [← hW1]
  clear hW1 c0 c1 c2 c3 c4 c5
  refine (H1.out _ K0).mono ?_
  rintro e w3 ⟨rfl, J⟩
  obtain ⟨c0, c1, c2, c3, c4, c5⟩ := HFA.out _ J
  go_wp2_with fail
  clear c0 c1 c2 c3 c4 c5
  go_region_held3 (fun w' => w'.cell? ⟨w.heap.size, 0, none⟩ = some (.string nm) ∧ w'.cell? ⟨w.heap.size, 1, none⟩ = some (.int .i64 kd) ∧ w'.cell? ⟨w.heap.size, 2, none⟩ = some (.int .u16 (sv M)) ∧ w'.cell? ⟨w.heap.size, 3, none⟩ = some (.slice ar nr cr) ∧ w'.cell? ⟨w.heap.size, 4, none⟩ = some (.slice aw nq cw) ∧ w'.cell? ⟨w.heap.size, 5, none⟩ = some (.slice af nf cf)) (first | with_reducible exact HFA.out _ J.drew | with_reducible exact HFA.out _ J | go_keep) ((go_at_call 50; refine (H2.out _ (K0.trans J.drew)).mono ?_; rintro e W7 ⟨v7, rfl, hO7⟩; obtain ⟨a7, c7, rfl, hR7⟩ := hO7.rd; replace J := Keeps.trans J.drew hO7.2))
  have x0 := hR7.at hp
  have y0 := hR7.isSome hp
  have hp' : (0 : Int) < (byz.length : Int) := by omega
  have HC := Lib.hid (HFA.out _ J)
  obtain ⟨c0, c1, c2, c3, c4, c5⟩ := HC.out
  -- the count
  have w1 : IntKind.i64.wrap ((nr : Int) * (nq : Int)) = ((nr * nq : Nat) : Int) := by
    have := Nat.mul_le_mul hR hQ
    rw [← Int.natCast_mul]; exact wrap_nat _ (by omega)
  have b1 : nr * nq ≤ 4096 * 4096 := Nat.mul_le_mul hR hQ
  have b2 : nr * nq * byz.length ≤ 4096 * 4096 * 100001 := Nat.mul_le_mul b1 (by omega)
  have b3 : nq * (nq + 1) ≤ 4096 * 4097 := Nat.mul_le_mul hQ (by omega)
  have w2 : IntKind.i64.wrap (((nr * nq : Nat) : Int) * (byz.length : Int)) = ((nr * nq * byz.length : Nat) : Int) := by
    rw [← Int.natCast_mul]; exact wrap_nat _ (by omega)
  have w3 : IntKind.i64.wrap ((nq : Int) + 1) = ((nq + 1 : Nat) : Int) := by
    rw [show ((nq : Int) + 1) = ((nq + 1 : Nat) : Int) by omega]; exact wrap_nat _ (by omega)
  have w4 : IntKind.i64.wrap ((nq : Int) * ((nq + 1 : Nat) : Int)) = ((nq * (nq + 1) : Nat) : Int) := by
    rw [← Int.natCast_mul]; exact wrap_nat _ (by omega)
  have w5 : IntKind.i64.wrap (((nq * (nq + 1) : Nat) : Int).tdiv 2) = ((nq * (nq + 1) / 2 : Nat) : Int) := by
    rw [show ((nq * (nq + 1) : Nat) : Int).tdiv 2 = ((nq * (nq + 1) / 2 : Nat) : Int) from rfl]; exact wrap_nat _ (by omega)
  have b5 : ∀ bad, bad ≤ byz.length → nq * (nq + 1) / 2 * bad ≤ 4096 * 4097 * 100001 := fun bad hb => Nat.mul_le_mul (by omega) (by omega)
  have w6 : ∀ bad, bad ≤ byz.length → IntKind.i64.wrap (((nq * (nq + 1) / 2 : Nat) : Int) * (bad : Int)) = ((nq * (nq + 1) / 2 * bad : Nat) : Int) := fun bad hb => by
    have := b5 bad hb
    rw [← Int.natCast_mul]; exact wrap_nat _ (by omega)
  have w7 : ∀ bad, bad ≤ byz.length → IntKind.i64.wrap (((nr * nq * byz.length : Nat) : Int) + ((nq * (nq + 1) / 2 * bad : Nat) : Int)) = ((nr * nq * byz.length + nq * (nq + 1) / 2 * bad : Nat) : Int) := fun bad hb => by
    have := b5 bad hb
    rw [← Int.natCast_add]; exact wrap_nat _ (by omega)
  obtain ⟨p1, hp1⟩ : ∃ p : Int, p = ((nr * nq : Nat) : Int) := ⟨_, rfl⟩
  obtain ⟨p2, hp2⟩ : ∃ p : Int, p = ((nr * nq * byz.length : Nat) : Int) := ⟨_, rfl⟩
  obtain ⟨p3, hp3⟩ : ∃ p : Int, p = ((nq + 1 : Nat) : Int) := ⟨_, rfl⟩
  obtain ⟨p4, hp4⟩ : ∃ p : Int, p = ((nq * (nq + 1) : Nat) : Int) := ⟨_, rfl⟩
  obtain ⟨p5, hp5⟩ : ∃ p : Int, p = ((nq * (nq + 1) / 2 : Nat) : Int) := ⟨_, rfl⟩
  rw [← hp1] at w1 w2
  rw [← hp2] at w2 w7
  rw [← hp3] at w3 w4
  rw [← hp4] at w4 w5
  rw [← hp5] at w5 w6
  have W6 := Lib.hid w6; have W7 := Lib.hid w7
  clear w6 w7 b1 b2 b3 b5 hp1 hp2 hp3 hp4 hp5
  have cont : ∀ bad : Nat, bad ≤ byz.length → (if at_ byz 0 = 0#16 then 0 else byz.length) = bad → cn = nr * nq * byz.length + nq * (nq + 1) / 2 * bad := fun bad _ hb => by rw [HCN.out, hb]
  have CONT := Lib.hid cont
  clear cont
  have fin : ∀ bad : Nat, bad ≤ byz.length → (if at_ byz 0 = 0#16 then 0 else byz.length) = bad → ∃ p6 : Int, IntKind.i64.wrap (p5 * (bad : Int)) = p6 ∧ IntKind.i64.wrap (p2 + p6) = (cn : Int) := fun bad hb he => ⟨_, W6.out bad hb, by rw [W7.out bad hb, CONT.out bad hb he]⟩
  have FIN := Lib.hid fin
  clear fin W6 W7 CONT HCN
  have KK := K0.trans J
  cases hz0 : (at_ byz 0 == 0#16)
  · have hz1 : ¬ at_ byz 0 = 0#16 := by simpa using hz0
    obtain ⟨p6, e6, e7⟩ := FIN.out byz.length (Nat.le_refl _) (by rw [if_neg hz1])
    have HZ1 := Lib.hid hz1
    clear hz1
    by_cases hc : 20000 < cn
    · have hr : res = ([], 3) := by rw [HRES.out, if_pos hc]
      have HR := Lib.hid hr
      clear hr HRES
      have hd : decide ((20000 : Int) < (cn : Int)) = true := by simp; omega
      clear hc
      go_wp2_with fail
      go_ret2
      rw [HR.out]
      exact ⟨_, rfl, Own.nil _ _ KK⟩
    · have hr : res = if q = true then ([], 12) else (ps, 0) := by rw [HRES.out, if_neg hc]
      have HR := Lib.hid hr
      clear hr HRES
      have hd : decide ((20000 : Int) < (cn : Int)) = false := by simp; omega
      have hcall := H3.out (HAL.out HZ.out hc) _ KK
      have HCA := Lib.hid hcall
      clear hcall hc
      go_wp2_with fail
      clear c0 c1 c2 c3 c4 c5 x0 y0
      refine HCA.out.mono ?_
      rintro e w9 ⟨v9, rfl, hO9⟩
      obtain ⟨a9, c9, rfl, hR9⟩ := hO9.rd
      have hcf := H4.out _ _ _ hR9
      have HO := Lib.hid hO9; have HCF := Lib.hid hcf
      clear hO9 hR9 hcf
      cases q
      all_goals
        go_wp2_with fail
        refine HCF.out.mono ?_
        rintro e w10 ⟨rfl, K10⟩
        go_wp2_with fail
        go_ret2
      · rw [HR.out, if_neg (by simp)]
        exact ⟨_, rfl, (HO.out.keep K10).since KK⟩
      · rw [HR.out]; first | rw [if_pos trivial] | rw [if_pos rfl]
        exact ⟨_, rfl, Own.nil _ _ (KK.trans (HO.out.2.trans K10))⟩
  · have hz1 : at_ byz 0 = 0#16 := by simpa using hz0
    obtain ⟨p6, e6, e7⟩ := FIN.out 0 (Nat.zero_le _) (by rw [if_pos hz1])
    have e6' : IntKind.i64.wrap (p5 * 0) = p6 := e6
    have HZ1 := Lib.hid hz1
    have hp6 : p6 = 0 := by rw [← e6', Int.mul_zero]; rfl
    subst hp6
    have e8 : IntKind.i64.wrap p2 = (cn : Int) := by rw [← e7, Int.add_zero]
    clear hz1 e6 e6'
    by_cases hc : 20000 < cn
    · have hr : res = ([], 3) := by rw [HRES.out, if_pos hc]
      have HR := Lib.hid hr
      clear hr HRES
      have hd : decide ((20000 : Int) < (cn : Int)) = true := by simp; omega
      clear hc
      go_wp2_with fail
      go_ret2
      rw [HR.out]
      exact ⟨_, rfl, Own.nil _ _ KK⟩
    · have hr : res = if q = true then ([], 12) else (ps, 0) := by rw [HRES.out, if_neg hc]
      have HR := Lib.hid hr
      clear hr HRES
      have hd : decide ((20000 : Int) < (cn : Int)) = false := by simp; omega
      have hcall := H3.out (HAL.out HZ.out hc) _ KK
      have HCA := Lib.hid hcall
      clear hcall hc
      go_wp2_with fail
      clear c0 c1 c2 c3 c4 c5 x0 y0
      refine HCA.out.mono ?_
      rintro e w9 ⟨v9, rfl, hO9⟩
      obtain ⟨a9, c9, rfl, hR9⟩ := hO9.rd
      have hcf := H4.out _ _ _ hR9
      have HO := Lib.hid hO9; have HCF := Lib.hid hcf
      clear hO9 hR9 hcf
      cases q
      all_goals
        go_wp2_with fail
        refine HCF.out.mono ?_
        rintro e w10 ⟨rfl, K10⟩
        go_wp2_with fail
        go_ret2
      · rw [HR.out, if_neg (by simp)]
        exact ⟨_, rfl, (HO.out.keep K10).since KK⟩
      · rw [HR.out]; first | rw [if_pos trivial] | rw [if_pos rfl]
        exact ⟨_, rfl, Own.nil _ _ (KK.trans (HO.out.2.trans K10))⟩
end Go.Proofs.YtijknodekomdfaaGreatDoor
