/- Texts joined into one (wip/bin/pack.py): Bad27, Er27. -/
import Derived.Test.YtcnccoinhohbeaaDoorKJ
import Derived.Test.YtcnccoinhohbeaaDoorKF
import Derived.Lib.QuietBelow
import Derived.Test.YtcnccoinhohbeaaDoorKYg
/- A configuration with a bad name: both Valid. -/
namespace Go.Proofs.YtcnccoinhohbeaaDoor
open Go.RowKit Go.Lib Go.Shelf

set_option maxRecDepth 20000 in
theorem badValid_any (nm : ByteArray) (hnm : nmB nm = false) (kd : Int) (M : S) {ar : Option Addr} {nr cr : Nat} {aw : Option Addr} {nq cw : Nat} {af : Option Addr} {nf cf : Nat} (w : World) :
    Calls Tryd.prog 13 #[.agg #[.string nm, .int .i64 kd, .int .u16 (sv M), .slice ar nr cr, .slice aw nq cw, .slice af nf cf]] w fun e w' => e = .returned (.int .i64 1) ∧ Keeps w w' := by
  have K0 := (Keeps.refl w).alloc (.cells #[.string nm, .int .i64 kd, .int .u16 (sv M), .slice ar nr cr, .slice aw nq cw, .slice af nf cf] 31)
  have hb := BoxC.new w 31 nm kd M ar nr cr aw nq cw af nf cf
  obtain ⟨W1, hW1⟩ : ∃ W0, W0 = w.alloc (.cells #[.string nm, .int .i64 kd, .int .u16 (sv M), .slice ar nr cr, .slice aw nq cw, .slice af nf cf] 31) := ⟨_, rfl⟩
  rw [← hW1] at hb K0
  obtain ⟨c0, c1, c2, c3, c4, c5⟩ := hb.conj
  have h1 := fun W => isNameN_any nm W
  rw [hnm] at h1
  have H1 := Lib.hid h1
  clear h1 hb
  go_enter Tryd.func13, Tryd.ntmps13
  go_wp2_with fail
  rw [← hW1]
  clear hW1
  refine (H1.out _).mono ?_
  rintro e w2 ⟨rfl, rfl⟩
  go_wp2_with fail
  go_ret
  exact ⟨rfl, K0⟩
set_option maxRecDepth 20000 in
theorem rBadValid_any (nm : ByteArray) (hnm : nmB nm = false) (kd : Int) (M : S) {ar : Option Addr} {nr cr : Nat} {aw : Option Addr} {nq cw : Nat} {af : Option Addr} {nf cf : Nat} (w : World) :
    Calls Tryd.prog 12 #[.agg #[.string nm, .int .i64 kd, .int .u16 (sv M), .slice ar nr cr, .slice aw nq cw, .slice af nf cf]] w fun e w' => e = .returned (.int .i64 1) ∧ Keeps w w' := by
  have K0 := (Keeps.refl w).alloc (.cells #[.string nm, .int .i64 kd, .int .u16 (sv M), .slice ar nr cr, .slice aw nq cw, .slice af nf cf] 31)
  have hb := BoxC.new w 31 nm kd M ar nr cr aw nq cw af nf cf
  obtain ⟨W1, hW1⟩ : ∃ W0, W0 = w.alloc (.cells #[.string nm, .int .i64 kd, .int .u16 (sv M), .slice ar nr cr, .slice aw nq cw, .slice af nf cf] 31) := ⟨_, rfl⟩
  rw [← hW1] at hb K0
  obtain ⟨c0, c1, c2, c3, c4, c5⟩ := hb.conj
  have h1 := fun W => rIsName_any nm W
  rw [hnm] at h1
  have H1 := Lib.hid h1
  clear h1 hb
  go_enter Tryd.func12, Tryd.ntmps12
  go_wp2_with fail
  rw [← hW1]
  clear hW1
  refine (H1.out _).mono ?_
  rintro e w2 ⟨rfl, rfl⟩
  go_wp2_with fail
  go_ret
  exact ⟨rfl, K0⟩
/-- is a configuration short? -/
def fewB (nm : ByteArray) (nr nq nf : Nat) : Bool := decide (nm.size ≤ 100) && (decide (nr ≤ 20) && (decide (nq ≤ 20) && decide (nf ≤ 20)))
set_option maxRecDepth 20000 in
theorem few27_any (nm : ByteArray) (kd : Int) (M : S) {ar : Option Addr} {nr cr : Nat} {aw : Option Addr} {nq cw : Nat} {af : Option Addr} {nf cf : Nat} (w : World) :
    Calls Tryd.prog 11 #[.agg #[.string nm, .int .i64 kd, .int .u16 (sv M), .slice ar nr cr, .slice aw nq cw, .slice af nf cf]] w fun e w' => e = .returned (.bool (fewB nm nr nq nf)) ∧ Keeps w w' := by
  have K0 := (Keeps.refl w).alloc (.cells #[.string nm, .int .i64 kd, .int .u16 (sv M), .slice ar nr cr, .slice aw nq cw, .slice af nf cf] 31)
  have hb := BoxC.new w 31 nm kd M ar nr cr aw nq cw af nf cf
  obtain ⟨W1, hW1⟩ : ∃ W0, W0 = w.alloc (.cells #[.string nm, .int .i64 kd, .int .u16 (sv M), .slice ar nr cr, .slice aw nq cw, .slice af nf cf] 31) := ⟨_, rfl⟩
  rw [← hW1] at hb K0
  obtain ⟨c0, c1, c2, c3, c4, c5⟩ := hb.conj
  unfold fewB
  by_cases h1 : nm.size ≤ 100
  · by_cases h2 : nr ≤ 20
    · by_cases h3 : nq ≤ 20
      · by_cases h4 : nf ≤ 20
        all_goals
          have g1 : (nm.size : Int) ≤ 100 := by omega
          have g2 : (nr : Int) ≤ 20 := by omega
          have g3 : (nq : Int) ≤ 20 := by omega
          have g4 : ((nf : Int) ≤ 20) = (nf ≤ 20) := by rw [eq_iff_iff]; omega
          simp only [h1, h2, h3, h4, decide_true, decide_false, Bool.true_and]
          go_enter Tryd.func11, Tryd.ntmps11
          go_wp2_with fail
          rw [← hW1]
          clear hW1
          go_ret
          exact ⟨rfl, K0⟩
      · have g1 : (nm.size : Int) ≤ 100 := by omega
        have g2 : (nr : Int) ≤ 20 := by omega
        have g3 : ¬ (nq : Int) ≤ 20 := by omega
        simp only [h1, h2, h3, decide_true, decide_false, Bool.true_and, Bool.false_and]
        go_enter Tryd.func11, Tryd.ntmps11
        go_wp2_with fail
        rw [← hW1]
        clear hW1
        go_ret
        exact ⟨rfl, K0⟩
    · have g1 : (nm.size : Int) ≤ 100 := by omega
      have g2 : ¬ (nr : Int) ≤ 20 := by omega
      simp only [h1, h2, decide_true, decide_false, Bool.true_and, Bool.false_and]
      go_enter Tryd.func11, Tryd.ntmps11
      go_wp2_with fail
      rw [← hW1]
      clear hW1
      go_ret
      exact ⟨rfl, K0⟩
  · have g1 : ¬ (nm.size : Int) ≤ 100 := by omega
    simp only [h1, decide_false, Bool.false_and]
    go_enter Tryd.func11, Tryd.ntmps11
    go_wp2_with fail
    rw [← hW1]
    clear hW1
    go_ret
    exact ⟨rfl, K0⟩
end Go.Proofs.YtcnccoinhohbeaaDoor
/- What the functions of layer 27 answer where Valid gives an error. -/
namespace Go.Proofs.YtcnccoinhohbeaaDoor
open Go.RowKit Go.Lib Go.Shelf

set_option maxRecDepth 20000 in
set_option maxHeartbeats 1000000 in
theorem eClash_any (nm : ByteArray) (kd : Int) (wt M : S) {ar : Option Addr} {nr cr : Nat} {aw : Option Addr} {nq cw : Nat} {af : Option Addr} {nf cf : Nat} (w : World) (er : Int) (hne : er ≠ 0) (hv : ∀ W, Keeps w W → Calls Tryd.prog 13 #[.agg #[.string nm, .int .i64 kd, .int .u16 (sv M), .slice ar nr cr, .slice aw nq cw, .slice af nf cf]] W fun e w' => e = .returned (.int .i64 er) ∧ Keeps W w') :
    Calls Tryd.prog 14 #[.agg #[.string nm, .int .i64 kd, .int .u16 (sv M), .slice ar nr cr, .slice aw nq cw, .slice af nf cf], .int .u16 (sv wt)] w fun e w' => RetCE (cl0, er) e ∧ Keeps w w' := by
  have hb1 : (er != 0) = true := by simpa using hne
  have K0 := (Keeps.refl w).alloc (.cells #[.string nm, .int .i64 kd, .int .u16 (sv M), .slice ar nr cr, .slice aw nq cw, .slice af nf cf] 31)
  have hb := BoxC.new w 31 nm kd M ar nr cr aw nq cw af nf cf
  obtain ⟨W1, hW1⟩ : ∃ W0, W0 = w.alloc (.cells #[.string nm, .int .i64 kd, .int .u16 (sv M), .slice ar nr cr, .slice aw nq cw, .slice af nf cf] 31) := ⟨_, rfl⟩
  rw [← hW1] at hb K0
  have H1 := Lib.hid hv
  have hsz : W1.heap.size = w.heap.size + 1 := by rw [hW1, World.size_alloc]
  have k2 := (Keeps.refl W1).alloc (.cells #[.int .i64 0, .int .u16 0, .int .u16 0, .int .u16 0] 42)
  have hx := Blk.new W1 42 #[.int .i64 0, .int .u16 0, .int .u16 0, .int .u16 0]
  rw [hsz] at hx
  obtain ⟨W2, hW2⟩ : ∃ W2, W2 = W1.alloc (.cells #[.int .i64 0, .int .u16 0, .int .u16 0, .int .u16 0] 42) := ⟨_, rfl⟩
  rw [← hW2] at hx k2
  replace hb := hb.keep k2
  replace K0 := K0.trans k2
  have HX : ClBox W2 (w.heap.size + 1) cl0 := hx
  clear hx
  obtain ⟨c0, c1, c2, c3, c4, c5⟩ := hb.conj
  clear hb hv hne
  go_enter Tryd.func14, Tryd.ntmps14
  go_wp2_with fail
  rw [← hW1, ← hW2]
  clear hW1 c0 c1 c2 c3 c4 c5
  refine (H1.out _ K0).mono ?_
  rintro e w3 ⟨rfl, K1⟩
  have x3 := HX.keep K1
  obtain ⟨f0, f1, f2, f3⟩ := x3.frozen
  obtain ⟨g0, g1, g2, g3⟩ := x3.cells
  have X3 := Lib.hid x3
  clear x3 HX hsz k2 hW2
  go_wp2_with fail
  exact bodyPost_ret (resBox rfl (X3.out.store cl0) rfl rfl) rfl ⟨by unfold RetCE; rfl, (K0.trans K1).set4 (Nat.le_succ _) _ _ _ _⟩

set_option maxRecDepth 20000 in
set_option maxHeartbeats 1000000 in
theorem eDead_any (nm : ByteArray) (kd : Int) (M : S) {ar : Option Addr} {nr cr : Nat} {aw : Option Addr} {nq cw : Nat} {af : Option Addr} {nf cf : Nat} (w : World) (er : Int) (hne : er ≠ 0) (hv : ∀ W, Keeps w W → Calls Tryd.prog 13 #[.agg #[.string nm, .int .i64 kd, .int .u16 (sv M), .slice ar nr cr, .slice aw nq cw, .slice af nf cf]] W fun e w' => e = .returned (.int .i64 er) ∧ Keeps W w') :
    Calls Tryd.prog 8 #[.agg #[.string nm, .int .i64 kd, .int .u16 (sv M), .slice ar nr cr, .slice aw nq cw, .slice af nf cf]] w fun e w' => RetFE ((0#16, 0#16), er) e ∧ Keeps w w' := by
  have hb1 : (er != 0) = true := by simpa using hne
  have K0 := (Keeps.refl w).alloc (.cells #[.string nm, .int .i64 kd, .int .u16 (sv M), .slice ar nr cr, .slice aw nq cw, .slice af nf cf] 31)
  have hb := BoxC.new w 31 nm kd M ar nr cr aw nq cw af nf cf
  obtain ⟨W1, hW1⟩ : ∃ W0, W0 = w.alloc (.cells #[.string nm, .int .i64 kd, .int .u16 (sv M), .slice ar nr cr, .slice aw nq cw, .slice af nf cf] 31) := ⟨_, rfl⟩
  rw [← hW1] at hb K0
  have H1 := Lib.hid hv
  have hsz : W1.heap.size = w.heap.size + 1 := by rw [hW1, World.size_alloc]
  have k2 := (Keeps.refl W1).alloc (.cells #[.int .u16 0, .int .u16 0] 34)
  have hx := Blk.new W1 34 #[.int .u16 0, .int .u16 0]
  rw [hsz] at hx
  obtain ⟨W2, hW2⟩ : ∃ W2, W2 = W1.alloc (.cells #[.int .u16 0, .int .u16 0] 34) := ⟨_, rfl⟩
  rw [← hW2] at hx k2
  replace hb := hb.keep k2
  replace K0 := K0.trans k2
  have HX : FBox W2 (w.heap.size + 1) (0#16, 0#16) := hx
  clear hx
  obtain ⟨c0, c1, c2, c3, c4, c5⟩ := hb.conj
  clear hb hv hne
  go_enter Tryd.func8, Tryd.ntmps8
  go_wp2_with fail
  rw [← hW1, ← hW2]
  clear hW1 c0 c1 c2 c3 c4 c5
  refine (H1.out _ K0).mono ?_
  rintro e w3 ⟨rfl, K1⟩
  have x3 := HX.keep K1
  obtain ⟨f0, f1⟩ := x3.frozen
  obtain ⟨g0, g1⟩ := x3.cells
  have X3 := Lib.hid x3
  clear x3 HX hsz k2 hW2
  go_wp2_with fail
  exact bodyPost_ret (resBoxF rfl (X3.out.store (0#16, 0#16)) rfl rfl) rfl ⟨by unfold RetFE; rfl, (K0.trans K1).set2 (Nat.le_succ _) _ _⟩

set_option maxRecDepth 20000 in
set_option maxHeartbeats 1000000 in
theorem eProve_any (nm : ByteArray) (kd : Int) (wt M : S) {ar : Option Addr} {nr cr : Nat} {aw : Option Addr} {nq cw : Nat} {af : Option Addr} {nf cf : Nat} (w : World) (er : Int) (hne : er ≠ 0) (hv : ∀ W, Keeps w W → Calls Tryd.prog 13 #[.agg #[.string nm, .int .i64 kd, .int .u16 (sv M), .slice ar nr cr, .slice aw nq cw, .slice af nf cf]] W fun e w' => e = .returned (.int .i64 er) ∧ Keeps W w') :
    Calls Tryd.prog 15 #[.agg #[.string nm, .int .i64 kd, .int .u16 (sv M), .slice ar nr cr, .slice aw nq cw, .slice af nf cf], .int .u16 (sv wt)] w fun e w' => e = .returned (.tuple #[.slice none 0 0, .int .i64 er]) ∧ Keeps w w' := by
  have hb1 : (er != 0) = true := by simpa using hne
  have K0 := (Keeps.refl w).alloc (.cells #[.string nm, .int .i64 kd, .int .u16 (sv M), .slice ar nr cr, .slice aw nq cw, .slice af nf cf] 31)
  have hb := BoxC.new w 31 nm kd M ar nr cr aw nq cw af nf cf
  obtain ⟨W1, hW1⟩ : ∃ W0, W0 = w.alloc (.cells #[.string nm, .int .i64 kd, .int .u16 (sv M), .slice ar nr cr, .slice aw nq cw, .slice af nf cf] 31) := ⟨_, rfl⟩
  rw [← hW1] at hb K0
  have H1 := Lib.hid hv
  obtain ⟨c0, c1, c2, c3, c4, c5⟩ := hb.conj
  clear hb hv hne
  go_enter Tryd.func15, Tryd.ntmps15
  go_wp2_with fail
  rw [← hW1]
  clear hW1 c0 c1 c2 c3 c4 c5
  refine (H1.out _ K0).mono ?_
  rintro e w3 ⟨rfl, K1⟩
  go_wp2_with fail
  go_ret2
  exact ⟨rfl, K0.trans K1⟩

set_option maxRecDepth 20000 in
set_option maxHeartbeats 1000000 in
theorem eTol_any (nm : ByteArray) (kd : Int) (z M : S) {ar : Option Addr} {nr cr : Nat} {aw : Option Addr} {nq cw : Nat} {af : Option Addr} {nf cf : Nat} (w : World) (er : Int) (hne : er ≠ 0) (hv : ∀ W, Keeps w W → Calls Tryd.prog 13 #[.agg #[.string nm, .int .i64 kd, .int .u16 (sv M), .slice ar nr cr, .slice aw nq cw, .slice af nf cf]] W fun e w' => e = .returned (.int .i64 er) ∧ Keeps W w') :
    Calls Tryd.prog 18 #[.agg #[.string nm, .int .i64 kd, .int .u16 (sv M), .slice ar nr cr, .slice aw nq cw, .slice af nf cf], .int .u16 (sv z)] w fun e w' => e = .returned (.bool false) ∧ Keeps w w' := by
  have hb1 : (er != 0) = true := by simpa using hne
  have K0 := (Keeps.refl w).alloc (.cells #[.string nm, .int .i64 kd, .int .u16 (sv M), .slice ar nr cr, .slice aw nq cw, .slice af nf cf] 31)
  have hb := BoxC.new w 31 nm kd M ar nr cr aw nq cw af nf cf
  obtain ⟨W1, hW1⟩ : ∃ W0, W0 = w.alloc (.cells #[.string nm, .int .i64 kd, .int .u16 (sv M), .slice ar nr cr, .slice aw nq cw, .slice af nf cf] 31) := ⟨_, rfl⟩
  rw [← hW1] at hb K0
  have H1 := Lib.hid hv
  have hb2 : (er == 0) = false := by simpa using hne
  have hsz : W1.heap.size = w.heap.size + 1 := by rw [hW1, World.size_alloc]
  have k2 := (Keeps.refl W1).alloc (.cells #[.int .u16 (sv z)] 28)
  have hx := Blk.new W1 28 #[.int .u16 (sv z)]
  rw [hsz] at hx
  obtain ⟨W2, hW2⟩ : ∃ W2, W2 = W1.alloc (.cells #[.int .u16 (sv z)] 28) := ⟨_, rfl⟩
  rw [← hW2] at hx k2
  replace hb := hb.keep k2
  replace K0 := K0.trans k2
  obtain ⟨c0, c1, c2, c3, c4, c5⟩ := hb.conj
  clear hb hv hne
  go_enter Tryd.func18, Tryd.ntmps18
  go_wp2_with fail
  rw [← hW1, ← hW2]
  clear hW1 c0 c1 c2 c3 c4 c5
  refine (H1.out _ K0).mono ?_
  rintro e w3 ⟨rfl, K1⟩
  clear hsz k2 hW2 hx
  go_wp2_with fail
  go_ret
  exact ⟨rfl, K0.trans K1⟩

set_option maxRecDepth 20000 in
set_option maxHeartbeats 1000000 in
theorem eCheck_any (nm : ByteArray) (kd : Int) (wt M : S) {ar : Option Addr} {nr cr : Nat} {aw : Option Addr} {nq cw : Nat} {af : Option Addr} {nf cf : Nat} {al : Option Addr} {nl cl : Nat} (w : World) (er : Int) (hne : er ≠ 0) (hv : ∀ W, Keeps w W → Calls Tryd.prog 13 #[.agg #[.string nm, .int .i64 kd, .int .u16 (sv M), .slice ar nr cr, .slice aw nq cw, .slice af nf cf]] W fun e w' => e = .returned (.int .i64 er) ∧ Keeps W w') :
    Calls Tryd.prog 19 #[.agg #[.string nm, .int .i64 kd, .int .u16 (sv M), .slice ar nr cr, .slice aw nq cw, .slice af nf cf], .int .u16 (sv wt), .slice al nl cl] w fun e w' => e = .returned (.bool false) ∧ Keeps w w' := by
  have hb1 : (er != 0) = true := by simpa using hne
  have K0 := (Keeps.refl w).alloc (.cells #[.string nm, .int .i64 kd, .int .u16 (sv M), .slice ar nr cr, .slice aw nq cw, .slice af nf cf] 31)
  have hb := BoxC.new w 31 nm kd M ar nr cr aw nq cw af nf cf
  obtain ⟨W1, hW1⟩ : ∃ W0, W0 = w.alloc (.cells #[.string nm, .int .i64 kd, .int .u16 (sv M), .slice ar nr cr, .slice aw nq cw, .slice af nf cf] 31) := ⟨_, rfl⟩
  rw [← hW1] at hb K0
  have H1 := Lib.hid hv
  have hsz : W1.heap.size = w.heap.size + 1 := by rw [hW1, World.size_alloc]
  have k2 := (Keeps.refl W1).alloc (.cells #[.int .u16 (sv wt)] 28)
  have hx := Blk.new W1 28 #[.int .u16 (sv wt)]
  rw [hsz] at hx
  obtain ⟨W2, hW2⟩ : ∃ W2, W2 = W1.alloc (.cells #[.int .u16 (sv wt)] 28) := ⟨_, rfl⟩
  rw [← hW2] at hx k2
  replace hb := hb.keep k2
  replace K0 := K0.trans k2
  obtain ⟨c0, c1, c2, c3, c4, c5⟩ := hb.conj
  clear hb hv hne
  go_enter Tryd.func19, Tryd.ntmps19
  go_wp2_with fail
  rw [← hW1, ← hW2]
  clear hW1 c0 c1 c2 c3 c4 c5
  refine (H1.out _ K0).mono ?_
  rintro e w3 ⟨rfl, K1⟩
  clear hsz k2 hW2 hx
  go_wp2_with fail
  go_ret
  exact ⟨rfl, K0.trans K1⟩

set_option maxRecDepth 20000 in
set_option maxHeartbeats 1000000 in
theorem eIs_any (nm : ByteArray) (kd x0 : Int) (wt M x1 x2 x3 : S) {ar : Option Addr} {nr cr : Nat} {aw : Option Addr} {nq cw : Nat} {af : Option Addr} {nf cf : Nat} (w : World) (er : Int) (hne : er ≠ 0) (hv : ∀ W, Keeps w W → Calls Tryd.prog 13 #[.agg #[.string nm, .int .i64 kd, .int .u16 (sv M), .slice ar nr cr, .slice aw nq cw, .slice af nf cf]] W fun e w' => e = .returned (.int .i64 er) ∧ Keeps W w') :
    Calls Tryd.prog 17 #[.agg #[.string nm, .int .i64 kd, .int .u16 (sv M), .slice ar nr cr, .slice aw nq cw, .slice af nf cf], .int .u16 (sv wt), .agg #[.int .i64 x0, .int .u16 (sv x1), .int .u16 (sv x2), .int .u16 (sv x3)]] w fun e w' => e = .returned (.bool false) ∧ Keeps w w' := by
  have hb1 : (er != 0) = true := by simpa using hne
  have K0 := (Keeps.refl w).alloc (.cells #[.string nm, .int .i64 kd, .int .u16 (sv M), .slice ar nr cr, .slice aw nq cw, .slice af nf cf] 31)
  have hb := BoxC.new w 31 nm kd M ar nr cr aw nq cw af nf cf
  obtain ⟨W1, hW1⟩ : ∃ W0, W0 = w.alloc (.cells #[.string nm, .int .i64 kd, .int .u16 (sv M), .slice ar nr cr, .slice aw nq cw, .slice af nf cf] 31) := ⟨_, rfl⟩
  rw [← hW1] at hb K0
  have H1 := Lib.hid hv
  have hsz : W1.heap.size = w.heap.size + 1 := by rw [hW1, World.size_alloc]
  have k2 := (Keeps.refl W1).alloc (.cells #[.int .i64 x0, .int .u16 (sv x1), .int .u16 (sv x2), .int .u16 (sv x3)] 42)
  have hx := Blk.new W1 42 #[.int .i64 x0, .int .u16 (sv x1), .int .u16 (sv x2), .int .u16 (sv x3)]
  rw [hsz] at hx
  obtain ⟨W2, hW2⟩ : ∃ W2, W2 = W1.alloc (.cells #[.int .i64 x0, .int .u16 (sv x1), .int .u16 (sv x2), .int .u16 (sv x3)] 42) := ⟨_, rfl⟩
  rw [← hW2] at hx k2
  replace hb := hb.keep k2
  replace K0 := K0.trans k2
  have hv' := fun d os => Calls.regrown_of (H1.out (Sort.grow (redrawn W2 d) os) (K0.trans (grow_keeps d os)))
  have HV := Lib.hid hv'
  have d0 := cell_regrown hb.c0; have d1 := cell_regrown hb.c1; have d2 := cell_regrown hb.c2; have d3 := cell_regrown hb.c3; have d4 := cell_regrown hb.c4; have d5 := cell_regrown hb.c5
  clear hv' hv hb hx hne
  go_enter Tryd.func17, Tryd.ntmps17
  go_wp2_with fail
  rw [← hW1, ← hW2]
  clear hW1 hW2 hsz k2
  refine wp_region_quiet_below (by kernel_rfl) (by kernel_rfl) ?_
  repeat (first | go_big_quiet_step (exact HV.out _ _) | quiet_step (exact HV.out _ _))
  refine wpQuiet_nil ?_
  intro _ hw'
  obtain ⟨⟨dq, osq⟩, hw''⟩ := hw'
  subst hw''
  have KF := K0.trans (grow_keeps dq osq)
  clear d0 d1 d2 d3 d4 d5
  generalize Sort.grow (redrawn W2 dq) osq = wz at *
  go_wp2_with fail
  go_ret
  exact ⟨rfl, KF⟩

set_option maxRecDepth 20000 in
set_option maxHeartbeats 1000000 in
theorem eSafe_any (nm : ByteArray) (kd : Int) (wt M : S) {ar : Option Addr} {nr cr : Nat} {aw : Option Addr} {nq cw : Nat} {af : Option Addr} {nf cf : Nat} (w : World) (er : Int) (h13 : (er == 13) = false) (hne : er ≠ 0) (hv : ∀ W, Keeps w W → Calls Tryd.prog 13 #[.agg #[.string nm, .int .i64 kd, .int .u16 (sv M), .slice ar nr cr, .slice aw nq cw, .slice af nf cf]] W fun e w' => e = .returned (.int .i64 er) ∧ Keeps W w') :
    Calls Tryd.prog 16 #[.agg #[.string nm, .int .i64 kd, .int .u16 (sv M), .slice ar nr cr, .slice aw nq cw, .slice af nf cf], .int .u16 (sv wt)] w fun e w' => e = .returned (.bool false) ∧ Keeps w w' := by
  have K0 := (Keeps.refl w).alloc (.cells #[.string nm, .int .i64 kd, .int .u16 (sv M), .slice ar nr cr, .slice aw nq cw, .slice af nf cf] 31)
  have h1 := fun W (k : Keeps w W) => eClash_any nm kd wt M (ar := ar) (nr := nr) (cr := cr) (aw := aw) (nq := nq) (cw := cw) (af := af) (nf := nf) (cf := cf) W er hne (fun W' k' => hv W' (k.trans k'))
  unfold RetCE at h1
  simp only [vcl, cl0] at h1
  have H1 := Lib.hid h1
  clear h1 hv hne
  go_enter Tryd.func16, Tryd.ntmps16
  go_wp2_with fail
  refine (H1.out _ K0).mono ?_
  rintro e w2 ⟨rfl, K1⟩
  go_wp2_with fail
  go_ret
  exact ⟨rfl, (K0.trans K1).alloc _⟩

set_option maxRecDepth 20000 in
set_option maxHeartbeats 1000000 in
theorem eLive_any (nm : ByteArray) (kd : Int) (M : S) {ar : Option Addr} {nr cr : Nat} {aw : Option Addr} {nq cw : Nat} {af : Option Addr} {nf cf : Nat} (w : World) (er : Int) (h13 : (er == 13) = false) (hne : er ≠ 0) (hv : ∀ W, Keeps w W → Calls Tryd.prog 13 #[.agg #[.string nm, .int .i64 kd, .int .u16 (sv M), .slice ar nr cr, .slice aw nq cw, .slice af nf cf]] W fun e w' => e = .returned (.int .i64 er) ∧ Keeps W w') :
    Calls Tryd.prog 10 #[.agg #[.string nm, .int .i64 kd, .int .u16 (sv M), .slice ar nr cr, .slice aw nq cw, .slice af nf cf]] w fun e w' => e = .returned (.bool false) ∧ Keeps w w' := by
  have K0 := (Keeps.refl w).alloc (.cells #[.string nm, .int .i64 kd, .int .u16 (sv M), .slice ar nr cr, .slice aw nq cw, .slice af nf cf] 31)
  have h1 := fun W (k : Keeps w W) => eDead_any nm kd M (ar := ar) (nr := nr) (cr := cr) (aw := aw) (nq := nq) (cw := cw) (af := af) (nf := nf) (cf := cf) W er hne (fun W' k' => hv W' (k.trans k'))
  unfold RetFE at h1
  simp only [vf] at h1
  have H1 := Lib.hid h1
  clear h1 hv hne
  go_enter Tryd.func10, Tryd.ntmps10
  go_wp2_with fail
  refine (H1.out _ K0).mono ?_
  rintro e w2 ⟨rfl, K1⟩
  go_wp2_with fail
  go_ret
  exact ⟨rfl, by first | exact K0.trans K1 | exact (K0.trans K1).alloc _⟩
end Go.Proofs.YtcnccoinhohbeaaDoor
