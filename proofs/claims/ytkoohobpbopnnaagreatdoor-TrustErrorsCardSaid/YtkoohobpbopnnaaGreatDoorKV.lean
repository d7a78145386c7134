/- Texts joined into one (wip/bin/pack.py): Bad27, Bad28. -/
import Derived.Test.YtkoohobpbopnnaaGreatDoorKJ
import Derived.Test.YtkoohobpbopnnaaGreatDoorKF
import Derived.Test.YtkoohobpbopnnaaGreatDoorKH
import Derived.Lib.QuietBelow
/- A configuration with a bad name: both Valid. -/
namespace Go.Proofs.YtkoohobpbopnnaaGreatDoor
open Go.RowKit Go.Lib Go.Shelf

set_option maxRecDepth 20000 in
theorem badValid_any (nm : ByteArray) (hnm : nmB nm = false) (kd : Int) (M : S) {ar : Option Addr} {nr cr : Nat} {aw : Option Addr} {nq cw : Nat} {af : Option Addr} {nf cf : Nat} (w : World) :
    Calls Tryz.prog 42 #[.agg #[.string nm, .int .i64 kd, .int .u16 (sv M), .slice ar nr cr, .slice aw nq cw, .slice af nf cf]] w fun e w' => e = .returned (.int .i64 1) ∧ Keeps w w' := by
  have K0 := (Keeps.refl w).alloc (.cells #[.string nm, .int .i64 kd, .int .u16 (sv M), .slice ar nr cr, .slice aw nq cw, .slice af nf cf] 32)
  have hb := BoxC.new w 32 nm kd M ar nr cr aw nq cw af nf cf
  obtain ⟨W1, hW1⟩ : ∃ W0, W0 = w.alloc (.cells #[.string nm, .int .i64 kd, .int .u16 (sv M), .slice ar nr cr, .slice aw nq cw, .slice af nf cf] 32) := ⟨_, rfl⟩
  rw [← hW1] at hb K0
  obtain ⟨c0, c1, c2, c3, c4, c5⟩ := hb.conj
  have h1 := fun W => isNameN_any nm W
  rw [hnm] at h1
  have H1 := Lib.hid h1
  clear h1 hb
  go_enter Tryz.func42, Tryz.ntmps42
  go_wp2_with fail
  rw [← hW1]
  clear hW1
  refine (H1.out _).mono ?_
  rintro e w2 ⟨rfl, rfl⟩
  go_wp2_with fail
  go_ret
  exact ⟨rfl, K0⟩
set_option maxRecDepth 20000 in
theorem rBadValid_any (nm : ByteArray) (hnm : nmB nm = false) (kd : Int) (M : S) {ar : Option Addr} {nr cr : Nat} {aw : Option Addr} {nq cw : Nat} {af : Option Addr} {nf cf : Nat} (w : World) :
    Calls Tryz.prog 29 #[.agg #[.string nm, .int .i64 kd, .int .u16 (sv M), .slice ar nr cr, .slice aw nq cw, .slice af nf cf]] w fun e w' => e = .returned (.int .i64 1) ∧ Keeps w w' := by
  have K0 := (Keeps.refl w).alloc (.cells #[.string nm, .int .i64 kd, .int .u16 (sv M), .slice ar nr cr, .slice aw nq cw, .slice af nf cf] 32)
  have hb := BoxC.new w 32 nm kd M ar nr cr aw nq cw af nf cf
  obtain ⟨W1, hW1⟩ : ∃ W0, W0 = w.alloc (.cells #[.string nm, .int .i64 kd, .int .u16 (sv M), .slice ar nr cr, .slice aw nq cw, .slice af nf cf] 32) := ⟨_, rfl⟩
  rw [← hW1] at hb K0
  obtain ⟨c0, c1, c2, c3, c4, c5⟩ := hb.conj
  have h1 := fun W => rIsName_any nm W
  rw [hnm] at h1
  have H1 := Lib.hid h1
  clear h1 hb
  go_enter Tryz.func29, Tryz.ntmps29
  go_wp2_with fail
  rw [← hW1]
  clear hW1
  refine (H1.out _).mono ?_
  rintro e w2 ⟨rfl, rfl⟩
  go_wp2_with fail
  go_ret
  exact ⟨rfl, K0⟩
/-- is a configuration short? -/
def fewB (nm : ByteArray) (nr nq nf : Nat) : Bool := decide (nm.size ≤ 100) && (decide (nr ≤ 20) && (decide (nq ≤ 20) && decide (nf ≤ 20)))
set_option maxRecDepth 20000 in
theorem few27_any (nm : ByteArray) (kd : Int) (M : S) {ar : Option Addr} {nr cr : Nat} {aw : Option Addr} {nq cw : Nat} {af : Option Addr} {nf cf : Nat} (w : World) :
    Calls Tryz.prog 28 #[.agg #[.string nm, .int .i64 kd, .int .u16 (sv M), .slice ar nr cr, .slice aw nq cw, .slice af nf cf]] w fun e w' => e = .returned (.bool (fewB nm nr nq nf)) ∧ Keeps w w' := by
  have K0 := (Keeps.refl w).alloc (.cells #[.string nm, .int .i64 kd, .int .u16 (sv M), .slice ar nr cr, .slice aw nq cw, .slice af nf cf] 32)
  have hb := BoxC.new w 32 nm kd M ar nr cr aw nq cw af nf cf
  obtain ⟨W1, hW1⟩ : ∃ W0, W0 = w.alloc (.cells #[.string nm, .int .i64 kd, .int .u16 (sv M), .slice ar nr cr, .slice aw nq cw, .slice af nf cf] 32) := ⟨_, rfl⟩
  rw [← hW1] at hb K0
  obtain ⟨c0, c1, c2, c3, c4, c5⟩ := hb.conj
  unfold fewB
  by_cases h1 : nm.size ≤ 100
  · by_cases h2 : nr ≤ 20
    · by_cases h3 : nq ≤ 20
      · by_cases h4 : nf ≤ 20
        all_goals
          have g1 : (nm.size : Int) ≤ 100 := by omega
          have g2 : (nr : Int) ≤ 20 := by omega
          have g3 : (nq : Int) ≤ 20 := by omega
          have g4 : ((nf : Int) ≤ 20) = (nf ≤ 20) := by rw [eq_iff_iff]; omega
          simp only [h1, h2, h3, h4, decide_true, decide_false, Bool.true_and]
          go_enter Tryz.func28, Tryz.ntmps28
          go_wp2_with fail
          rw [← hW1]
          clear hW1
          go_ret
          exact ⟨rfl, K0⟩
      · have g1 : (nm.size : Int) ≤ 100 := by omega
        have g2 : (nr : Int) ≤ 20 := by omega
        have g3 : ¬ (nq : Int) ≤ 20 := by omega
        simp only [h1, h2, h3, decide_true, decide_false, Bool.true_and, Bool.false_and]
        go_enter Tryz.func28, Tryz.ntmps28
        go_wp2_with fail
        rw [← hW1]
        clear hW1
        go_ret
        exact ⟨rfl, K0⟩
    · have g1 : (nm.size : Int) ≤ 100 := by omega
      have g2 : ¬ (nr : Int) ≤ 20 := by omega
      simp only [h1, h2, decide_true, decide_false, Bool.true_and, Bool.false_and]
      go_enter Tryz.func28, Tryz.ntmps28
      go_wp2_with fail
      rw [← hW1]
      clear hW1
      go_ret
      exact ⟨rfl, K0⟩
  · have g1 : ¬ (nm.size : Int) ≤ 100 := by omega
    simp only [h1, decide_false, Bool.false_and]
    go_enter Tryz.func28, Tryz.ntmps28
    go_wp2_with fail
    rw [← hW1]
    clear hW1
    go_ret
    exact ⟨rfl, K0⟩
end Go.Proofs.YtkoohobpbopnnaaGreatDoor
/- A client of a configuration with a bad name. -/
namespace Go.Proofs.YtkoohobpbopnnaaGreatDoor
open Go.RowKit Go.Lib Go.Shelf

set_option maxRecDepth 20000 in
theorem badTv_any (nm : ByteArray) (hnm : nmB nm = false) (kd : Int) (M : S) {ar : Option Addr} {nr cr : Nat} {aw : Option Addr} {nq cw : Nat} {af : Option Addr} {nf cf : Nat} (a : Option Addr) (n c : Nat) (w : World) :
    Calls Tryz.prog 38 #[.agg #[.string nm, .int .i64 kd, .int .u16 (sv M), .slice ar nr cr, .slice aw nq cw, .slice af nf cf], .slice a n c] w fun e w' => e = .returned (.int .i64 1) ∧ Keeps w w' := by
  have K0 := (Keeps.refl w).alloc (.cells #[.string nm, .int .i64 kd, .int .u16 (sv M), .slice ar nr cr, .slice aw nq cw, .slice af nf cf] 32)
  have hb := BoxC.new w 32 nm kd M ar nr cr aw nq cw af nf cf
  obtain ⟨W1, hW1⟩ : ∃ W0, W0 = w.alloc (.cells #[.string nm, .int .i64 kd, .int .u16 (sv M), .slice ar nr cr, .slice aw nq cw, .slice af nf cf] 32) := ⟨_, rfl⟩
  rw [← hW1] at hb K0
  obtain ⟨c0, c1, c2, c3, c4, c5⟩ := hb.conj
  have h1 := fun W => badValid_any nm hnm kd M (ar := ar) (nr := nr) (cr := cr) (aw := aw) (nq := nq) (cw := cw) (af := af) (nf := nf) (cf := cf) W
  have H1 := Lib.hid h1
  clear h1 hb
  go_enter Tryz.func38, Tryz.ntmps38
  go_wp2_with fail
  rw [← hW1]
  clear hW1
  refine (H1.out _).mono ?_
  rintro e w2 ⟨rfl, K1⟩
  go_wp2_with fail
  go_ret
  first | exact ⟨rfl, K0.trans K1⟩ | exact ⟨rfl, (K0.alloc _).trans K1⟩
set_option maxRecDepth 20000 in
theorem rBadErr_any (nm : ByteArray) (hnm : nmB nm = false) (kd : Int) (M : S) {ar : Option Addr} {nr cr : Nat} {aw : Option Addr} {nq cw : Nat} {af : Option Addr} {nf cf : Nat} (a : Option Addr) (n c : Nat) (w : World) :
    Calls Tryz.prog 27 #[.agg #[.string nm, .int .i64 kd, .int .u16 (sv M), .slice ar nr cr, .slice aw nq cw, .slice af nf cf], .slice a n c] w fun e w' => e = .returned (.int .i64 1) ∧ Keeps w w' := by
  have K0 := (Keeps.refl w).alloc (.cells #[.string nm, .int .i64 kd, .int .u16 (sv M), .slice ar nr cr, .slice aw nq cw, .slice af nf cf] 32)
  have hb := BoxC.new w 32 nm kd M ar nr cr aw nq cw af nf cf
  obtain ⟨W1, hW1⟩ : ∃ W0, W0 = w.alloc (.cells #[.string nm, .int .i64 kd, .int .u16 (sv M), .slice ar nr cr, .slice aw nq cw, .slice af nf cf] 32) := ⟨_, rfl⟩
  rw [← hW1] at hb K0
  obtain ⟨c0, c1, c2, c3, c4, c5⟩ := hb.conj
  have h1 := fun W => rBadValid_any nm hnm kd M (ar := ar) (nr := nr) (cr := cr) (aw := aw) (nq := nq) (cw := cw) (af := af) (nf := nf) (cf := cf) W
  have H1 := Lib.hid h1
  clear h1 hb
  go_enter Tryz.func27, Tryz.ntmps27
  go_wp2_with fail
  rw [← hW1]
  clear hW1
  refine (H1.out _).mono ?_
  rintro e w2 ⟨rfl, K1⟩
  go_wp2_with fail
  go_ret
  first | exact ⟨rfl, K0.trans K1⟩ | exact ⟨rfl, (K0.alloc _).trans K1⟩
set_option maxRecDepth 20000 in
set_option maxHeartbeats 1000000 in
theorem badClash_any (nm : ByteArray) (hnm : nmB nm = false) (kd : Int) (wt M : S) {ar : Option Addr} {nr cr : Nat} {aw : Option Addr} {nq cw : Nat} {af : Option Addr} {nf cf : Nat} (a : Option Addr) (n c : Nat) (w : World) :
    Calls Tryz.prog 13 #[.agg #[.string nm, .int .i64 kd, .int .u16 (sv M), .slice ar nr cr, .slice aw nq cw, .slice af nf cf], .int .u16 (sv wt), .slice a n c] w fun e w' => RetCE (cl0, 1) e ∧ Keeps w w' := by
  have K0 := (Keeps.refl w).alloc (.cells #[.string nm, .int .i64 kd, .int .u16 (sv M), .slice ar nr cr, .slice aw nq cw, .slice af nf cf] 32)
  have hb := BoxC.new w 32 nm kd M ar nr cr aw nq cw af nf cf
  obtain ⟨W1, hW1⟩ : ∃ W0, W0 = w.alloc (.cells #[.string nm, .int .i64 kd, .int .u16 (sv M), .slice ar nr cr, .slice aw nq cw, .slice af nf cf] 32) := ⟨_, rfl⟩
  rw [← hW1] at hb K0
  obtain ⟨c0, c1, c2, c3, c4, c5⟩ := hb.conj
  clear c0 c1 c2 c3 c4 c5
  have hsz : W1.heap.size = w.heap.size + 1 := by rw [hW1, World.size_alloc]
  have k2 := (Keeps.refl W1).alloc (.cells #[.int .i64 0, .int .u16 0, .int .u16 0, .int .u16 0] 37)
  have hx : ClBox (W1.alloc (.cells #[.int .i64 0, .int .u16 0, .int .u16 0, .int .u16 0] 37)) (w.heap.size + 1) cl0 := by rw [← hsz]; exact World.alloc_heap_new W1 _
  obtain ⟨W2, hW2⟩ : ∃ W2, W2 = W1.alloc (.cells #[.int .i64 0, .int .u16 0, .int .u16 0, .int .u16 0] 37) := ⟨_, rfl⟩
  rw [← hW2] at hx k2
  replace hb := hb.keep k2
  replace K0 := K0.trans k2
  have h1 := fun W => badTv_any nm hnm kd M (ar := ar) (nr := nr) (cr := cr) (aw := aw) (nq := nq) (cw := cw) (af := af) (nf := nf) (cf := cf) a n c W
  have H1 := Lib.hid h1
  obtain ⟨c0, c1, c2, c3, c4, c5⟩ := hb.conj
  clear h1 hb
  go_enter Tryz.func13, Tryz.ntmps13
  go_wp2_with fail
  rw [← hW1, ← hW2]
  clear hW1 hW2 hsz k2 c0 c1 c2 c3 c4 c5
  refine (H1.out _).mono ?_
  rintro e w3 ⟨rfl, K1⟩
  have x3 := hx.keep K1
  replace K1 := K0.trans K1
  obtain ⟨f0, f1, f2, f3⟩ := x3.frozen
  obtain ⟨g0, g1, g2, g3⟩ := x3.cells
  have X3 := Lib.hid x3
  clear x3 hx
  go_wp2_with fail
  exact bodyPost_ret (resBox rfl (X3.out.store cl0) rfl rfl) rfl ⟨by rfl, K1.set4 (Nat.le_succ _) _ _ _ _⟩
set_option maxRecDepth 20000 in
theorem badSound_any (nm : ByteArray) (hnm : nmB nm = false) (kd : Int) (wt M : S) {ar : Option Addr} {nr cr : Nat} {aw : Option Addr} {nq cw : Nat} {af : Option Addr} {nf cf : Nat} (a : Option Addr) (n c : Nat) (w : World) :
    Calls Tryz.prog 15 #[.agg #[.string nm, .int .i64 kd, .int .u16 (sv M), .slice ar nr cr, .slice aw nq cw, .slice af nf cf], .int .u16 (sv wt), .slice a n c] w fun e w' => e = .returned (.bool false) ∧ Keeps w w' := by
  have K0 := (Keeps.refl w).alloc (.cells #[.string nm, .int .i64 kd, .int .u16 (sv M), .slice ar nr cr, .slice aw nq cw, .slice af nf cf] 32)
  have h1 := fun W => badClash_any nm hnm kd wt M (ar := ar) (nr := nr) (cr := cr) (aw := aw) (nq := nq) (cw := cw) (af := af) (nf := nf) (cf := cf) a n c W
  unfold RetCE at h1
  simp only [vcl, cl0] at h1
  have H1 := Lib.hid h1
  clear h1
  go_enter Tryz.func15, Tryz.ntmps15
  go_wp2_with fail
  refine (H1.out _).mono ?_
  rintro e w2 ⟨rfl, K1⟩
  go_wp2_with fail
  go_ret
  exact ⟨rfl, (K0.trans K1).alloc _⟩
set_option maxRecDepth 20000 in
theorem badLive_any (nm : ByteArray) (hnm : nmB nm = false) (kd : Int) (wt M : S) {ar : Option Addr} {nr cr : Nat} {aw : Option Addr} {nq cw : Nat} {af : Option Addr} {nf cf : Nat} (a : Option Addr) (n c : Nat) (w : World) :
    Calls Tryz.prog 25 #[.agg #[.string nm, .int .i64 kd, .int .u16 (sv M), .slice ar nr cr, .slice aw nq cw, .slice af nf cf], .int .u16 (sv wt), .slice a n c] w fun e w' => e = .returned (.bool false) ∧ Keeps w w' := by
  have K0 := (Keeps.refl w).alloc (.cells #[.string nm, .int .i64 kd, .int .u16 (sv M), .slice ar nr cr, .slice aw nq cw, .slice af nf cf] 32)
  have hb := BoxC.new w 32 nm kd M ar nr cr aw nq cw af nf cf
  obtain ⟨W1, hW1⟩ : ∃ W0, W0 = w.alloc (.cells #[.string nm, .int .i64 kd, .int .u16 (sv M), .slice ar nr cr, .slice aw nq cw, .slice af nf cf] 32) := ⟨_, rfl⟩
  rw [← hW1] at hb K0
  obtain ⟨c0, c1, c2, c3, c4, c5⟩ := hb.conj
  have h1 := fun W => badTv_any nm hnm kd M (ar := ar) (nr := nr) (cr := cr) (aw := aw) (nq := nq) (cw := cw) (af := af) (nf := nf) (cf := cf) a n c W
  have H1 := Lib.hid h1
  clear h1 hb
  go_enter Tryz.func25, Tryz.ntmps25
  go_wp2_with fail
  rw [← hW1]
  clear hW1
  refine (H1.out _).mono ?_
  rintro e w2 ⟨rfl, K1⟩
  go_wp2_with fail
  go_ret
  first | exact ⟨rfl, K0.trans K1⟩ | exact ⟨rfl, (K0.alloc _).trans K1⟩
set_option maxRecDepth 20000 in
set_option maxHeartbeats 1000000 in
theorem badAcc_any (nm : ByteArray) (hnm : nmB nm = false) (kd : Int) (wt M s : S) {ar : Option Addr} {nr cr : Nat} {aw : Option Addr} {nq cw : Nat} {af : Option Addr} {nf cf : Nat} (a : Option Addr) (n c : Nat) (w : World) :
    Calls Tryz.prog 20 #[.agg #[.string nm, .int .i64 kd, .int .u16 (sv M), .slice ar nr cr, .slice aw nq cw, .slice af nf cf], .int .u16 (sv wt), .slice a n c, .int .u16 (sv s)] w fun e w' => e = .returned (.bool false) ∧ Keeps w w' := by
  have K0 := (Keeps.refl w).alloc (.cells #[.string nm, .int .i64 kd, .int .u16 (sv M), .slice ar nr cr, .slice aw nq cw, .slice af nf cf] 32)
  have hb := BoxC.new w 32 nm kd M ar nr cr aw nq cw af nf cf
  obtain ⟨W1, hW1⟩ : ∃ W0, W0 = w.alloc (.cells #[.string nm, .int .i64 kd, .int .u16 (sv M), .slice ar nr cr, .slice aw nq cw, .slice af nf cf] 32) := ⟨_, rfl⟩
  rw [← hW1] at hb K0
  obtain ⟨c0, c1, c2, c3, c4, c5⟩ := hb.conj
  have h1 := fun W => badTv_any nm hnm kd M (ar := ar) (nr := nr) (cr := cr) (aw := aw) (nq := nq) (cw := cw) (af := af) (nf := nf) (cf := cf) a n c W
  have H1 := Lib.hid h1; have HB := Lib.hid hb
  have k9 := (Keeps.refl W1).drew
  clear h1 hb c0 c1 c2 c3 c4 c5
  go_enter Tryz.func20, Tryz.ntmps20
  go_wp2_with fail
  rw [← hW1]
  clear hW1
  have hv := fun d os => Calls.regrown_of (H1.out (Sort.grow (redrawn W1 d) os))
  have HV := Lib.hid hv
  have d0 := cell_regrown HB.out.c0; have d1 := cell_regrown HB.out.c1; have d2 := cell_regrown HB.out.c2; have d3 := cell_regrown HB.out.c3; have d4 := cell_regrown HB.out.c4; have d5 := cell_regrown HB.out.c5
  clear hv
  refine wp_region_quiet_below (by kernel_rfl) (by kernel_rfl) ?_
  repeat (first | go_big_quiet_step (exact HV.out _ _) | quiet_step (exact HV.out _ _))
  refine wpQuiet_nil ?_
  intro _ hw'
  obtain ⟨⟨dq, osq⟩, hw''⟩ := hw'
  subst hw''
  have KF := K0.trans (grow_keeps dq osq)
  clear d0 d1 d2 d3 d4 d5
  generalize Sort.grow (redrawn W1 dq) osq = wz at *
  go_wp2_with fail
  go_ret
  exact ⟨rfl, KF⟩
set_option maxRecDepth 20000 in
theorem badCommits_any (nm : ByteArray) (hnm : nmB nm = false) (kd : Int) (wt M : S) {ar : Option Addr} {nr cr : Nat} {aw : Option Addr} {nq cw : Nat} {af : Option Addr} {nf cf : Nat} (a : Option Addr) (n c : Nat) (w : World) :
    Calls Tryz.prog 23 #[.agg #[.string nm, .int .i64 kd, .int .u16 (sv M), .slice ar nr cr, .slice aw nq cw, .slice af nf cf], .int .u16 (sv wt), .slice a n c] w fun e w' => RetS w ([], 1) e w' := by
  have K0 := (Keeps.refl w).alloc (.cells #[.string nm, .int .i64 kd, .int .u16 (sv M), .slice ar nr cr, .slice aw nq cw, .slice af nf cf] 32)
  have hb := BoxC.new w 32 nm kd M ar nr cr aw nq cw af nf cf
  obtain ⟨W1, hW1⟩ : ∃ W0, W0 = w.alloc (.cells #[.string nm, .int .i64 kd, .int .u16 (sv M), .slice ar nr cr, .slice aw nq cw, .slice af nf cf] 32) := ⟨_, rfl⟩
  rw [← hW1] at hb K0
  obtain ⟨c0, c1, c2, c3, c4, c5⟩ := hb.conj
  have h1 := fun W => badTv_any nm hnm kd M (ar := ar) (nr := nr) (cr := cr) (aw := aw) (nq := nq) (cw := cw) (af := af) (nf := nf) (cf := cf) a n c W
  have H1 := Lib.hid h1
  clear h1 hb
  go_enter Tryz.func23, Tryz.ntmps23
  go_wp2_with fail
  rw [← hW1]
  clear hW1
  refine (H1.out _).mono ?_
  rintro e w2 ⟨rfl, K1⟩
  go_wp2_with fail
  first
  | exact bodyPost_ret (comResults rfl rfl) rfl ⟨_, rfl, Own.nil _ _ ((K0.alloc _).trans K1)⟩
  | exact bodyPost_ret (comResults rfl rfl) rfl ⟨_, rfl, Own.nil _ _ (K0.trans K1)⟩
set_option maxRecDepth 20000 in
theorem badLimits_any (nm : ByteArray) (hnm : nmB nm = false) (kd : Int) (wt M : S) {ar : Option Addr} {nr cr : Nat} {aw : Option Addr} {nq cw : Nat} {af : Option Addr} {nf cf : Nat} (w : World) :
    Calls Tryz.prog 16 #[.agg #[.string nm, .int .i64 kd, .int .u16 (sv M), .slice ar nr cr, .slice aw nq cw, .slice af nf cf], .int .u16 (sv wt)] w fun e w' => RetS w ([], 1) e w' := by
  have K0 := (Keeps.refl w).alloc (.cells #[.string nm, .int .i64 kd, .int .u16 (sv M), .slice ar nr cr, .slice aw nq cw, .slice af nf cf] 32)
  have hb := BoxC.new w 32 nm kd M ar nr cr aw nq cw af nf cf
  obtain ⟨W1, hW1⟩ : ∃ W0, W0 = w.alloc (.cells #[.string nm, .int .i64 kd, .int .u16 (sv M), .slice ar nr cr, .slice aw nq cw, .slice af nf cf] 32) := ⟨_, rfl⟩
  rw [← hW1] at hb K0
  obtain ⟨c0, c1, c2, c3, c4, c5⟩ := hb.conj
  have h1 := fun W => badValid_any nm hnm kd M (ar := ar) (nr := nr) (cr := cr) (aw := aw) (nq := nq) (cw := cw) (af := af) (nf := nf) (cf := cf) W
  have H1 := Lib.hid h1
  clear h1 hb
  go_enter Tryz.func16, Tryz.ntmps16
  go_wp2_with fail
  rw [← hW1]
  clear hW1
  refine (H1.out _).mono ?_
  rintro e w2 ⟨rfl, K1⟩
  go_wp2_with fail
  first
  | exact bodyPost_ret (limResults rfl rfl) rfl ⟨_, rfl, Own.nil _ _ ((K0.alloc _).trans K1)⟩
  | exact bodyPost_ret (limResults rfl rfl) rfl ⟨_, rfl, Own.nil _ _ (K0.trans K1)⟩
end Go.Proofs.YtkoohobpbopnnaaGreatDoor
