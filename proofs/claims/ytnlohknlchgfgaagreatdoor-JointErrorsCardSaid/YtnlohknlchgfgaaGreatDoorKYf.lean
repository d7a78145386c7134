/- Texts joined into one (wip/bin/pack.py): Bad27. -/
import Derived.Test.YtnlohknlchgfgaaGreatDoorKJ
import Derived.Test.YtnlohknlchgfgaaGreatDoorKF
/- A configuration with a bad name: both Valid. -/
namespace Go.Proofs.YtnlohknlchgfgaaGreatDoor
open Go.RowKit Go.Lib Go.Shelf

set_option maxRecDepth 20000 in
theorem badValid_any (nm : ByteArray) (hnm : nmB nm = false) (kd : Int) (M : S) {ar : Option Addr} {nr cr : Nat} {aw : Option Addr} {nq cw : Nat} {af : Option Addr} {nf cf : Nat} (w : World) :
    Calls Tryz.prog 57 #[.agg #[.string nm, .int .i64 kd, .int .u16 (sv M), .slice ar nr cr, .slice aw nq cw, .slice af nf cf]] w fun e w' => e = .returned (.int .i64 1) ∧ Keeps w w' := by
  have K0 := (Keeps.refl w).alloc (.cells #[.string nm, .int .i64 kd, .int .u16 (sv M), .slice ar nr cr, .slice aw nq cw, .slice af nf cf] 32)
  have hb := BoxC.new w 32 nm kd M ar nr cr aw nq cw af nf cf
  obtain ⟨W1, hW1⟩ : ∃ W0, W0 = w.alloc (.cells #[.string nm, .int .i64 kd, .int .u16 (sv M), .slice ar nr cr, .slice aw nq cw, .slice af nf cf] 32) := ⟨_, rfl⟩
  rw [← hW1] at hb K0
  obtain ⟨c0, c1, c2, c3, c4, c5⟩ := hb.conj
  have h1 := fun W => isNameN_any nm W
  rw [hnm] at h1
  have H1 := Lib.hid h1
  clear h1 hb
  go_enter Tryz.func57, Tryz.ntmps57
  go_wp2_with fail
  rw [← hW1]
  clear hW1
  refine (H1.out _).mono ?_
  rintro e w2 ⟨rfl, rfl⟩
  go_wp2_with fail
  go_ret
  exact ⟨rfl, K0⟩
set_option maxRecDepth 20000 in
theorem rBadValid_any (nm : ByteArray) (hnm : nmB nm = false) (kd : Int) (M : S) {ar : Option Addr} {nr cr : Nat} {aw : Option Addr} {nq cw : Nat} {af : Option Addr} {nf cf : Nat} (w : World) :
    Calls Tryz.prog 21 #[.agg #[.string nm, .int .i64 kd, .int .u16 (sv M), .slice ar nr cr, .slice aw nq cw, .slice af nf cf]] w fun e w' => e = .returned (.int .i64 1) ∧ Keeps w w' := by
  have K0 := (Keeps.refl w).alloc (.cells #[.string nm, .int .i64 kd, .int .u16 (sv M), .slice ar nr cr, .slice aw nq cw, .slice af nf cf] 32)
  have hb := BoxC.new w 32 nm kd M ar nr cr aw nq cw af nf cf
  obtain ⟨W1, hW1⟩ : ∃ W0, W0 = w.alloc (.cells #[.string nm, .int .i64 kd, .int .u16 (sv M), .slice ar nr cr, .slice aw nq cw, .slice af nf cf] 32) := ⟨_, rfl⟩
  rw [← hW1] at hb K0
  obtain ⟨c0, c1, c2, c3, c4, c5⟩ := hb.conj
  have h1 := fun W => rIsName_any nm W
  rw [hnm] at h1
  have H1 := Lib.hid h1
  clear h1 hb
  go_enter Tryz.func21, Tryz.ntmps21
  go_wp2_with fail
  rw [← hW1]
  clear hW1
  refine (H1.out _).mono ?_
  rintro e w2 ⟨rfl, rfl⟩
  go_wp2_with fail
  go_ret
  exact ⟨rfl, K0⟩
/-- is a configuration short? -/
def fewB (nm : ByteArray) (nr nq nf : Nat) : Bool := decide (nm.size ≤ 100) && (decide (nr ≤ 20) && (decide (nq ≤ 20) && decide (nf ≤ 20)))
set_option maxRecDepth 20000 in
theorem few27_any (nm : ByteArray) (kd : Int) (M : S) {ar : Option Addr} {nr cr : Nat} {aw : Option Addr} {nq cw : Nat} {af : Option Addr} {nf cf : Nat} (w : World) :
    Calls Tryz.prog 20 #[.agg #[.string nm, .int .i64 kd, .int .u16 (sv M), .slice ar nr cr, .slice aw nq cw, .slice af nf cf]] w fun e w' => e = .returned (.bool (fewB nm nr nq nf)) ∧ Keeps w w' := by
  have K0 := (Keeps.refl w).alloc (.cells #[.string nm, .int .i64 kd, .int .u16 (sv M), .slice ar nr cr, .slice aw nq cw, .slice af nf cf] 32)
  have hb := BoxC.new w 32 nm kd M ar nr cr aw nq cw af nf cf
  obtain ⟨W1, hW1⟩ : ∃ W0, W0 = w.alloc (.cells #[.string nm, .int .i64 kd, .int .u16 (sv M), .slice ar nr cr, .slice aw nq cw, .slice af nf cf] 32) := ⟨_, rfl⟩
  rw [← hW1] at hb K0
  obtain ⟨c0, c1, c2, c3, c4, c5⟩ := hb.conj
  unfold fewB
  by_cases h1 : nm.size ≤ 100
  · by_cases h2 : nr ≤ 20
    · by_cases h3 : nq ≤ 20
      · by_cases h4 : nf ≤ 20
        all_goals
          have g1 : (nm.size : Int) ≤ 100 := by omega
          have g2 : (nr : Int) ≤ 20 := by omega
          have g3 : (nq : Int) ≤ 20 := by omega
          have g4 : ((nf : Int) ≤ 20) = (nf ≤ 20) := by rw [eq_iff_iff]; omega
          simp only [h1, h2, h3, h4, decide_true, decide_false, Bool.true_and]
          go_enter Tryz.func20, Tryz.ntmps20
          go_wp2_with fail
          rw [← hW1]
          clear hW1
          go_ret
          exact ⟨rfl, K0⟩
      · have g1 : (nm.size : Int) ≤ 100 := by omega
        have g2 : (nr : Int) ≤ 20 := by omega
        have g3 : ¬ (nq : Int) ≤ 20 := by omega
        simp only [h1, h2, h3, decide_true, decide_false, Bool.true_and, Bool.false_and]
        go_enter Tryz.func20, Tryz.ntmps20
        go_wp2_with fail
        rw [← hW1]
        clear hW1
        go_ret
        exact ⟨rfl, K0⟩
    · have g1 : (nm.size : Int) ≤ 100 := by omega
      have g2 : ¬ (nr : Int) ≤ 20 := by omega
      simp only [h1, h2, decide_true, decide_false, Bool.true_and, Bool.false_and]
      go_enter Tryz.func20, Tryz.ntmps20
      go_wp2_with fail
      rw [← hW1]
      clear hW1
      go_ret
      exact ⟨rfl, K0⟩
  · have g1 : ¬ (nm.size : Int) ≤ 100 := by omega
    simp only [h1, decide_false, Bool.false_and]
    go_enter Tryz.func20, Tryz.ntmps20
    go_wp2_with fail
    rw [← hW1]
    clear hW1
    go_ret
    exact ⟨rfl, K0⟩
end Go.Proofs.YtnlohknlchgfgaaGreatDoor
