/- Texts joined into one (wip/bin/pack.py): Bad27. -/
import Derived.Test.YtijknodekomdfaaGreatDoorKJ
import Derived.Test.YtijknodekomdfaaGreatDoorKF
/- A configuration with a bad name: both Valid. -/
namespace Go.Proofs.YtijknodekomdfaaGreatDoor
open Go.RowKit Go.Lib Go.Shelf

set_option maxRecDepth 20000 in
theorem badValid_any (nm : ByteArray) (hnm : nmB nm = false) (kd : Int) (M : S) {ar : Option Addr} {nr cr : Nat} {aw : Option Addr} {nq cw : Nat} {af : Option Addr} {nf cf : Nat} (w : World) :
    Calls Tryz.prog 13 #[.agg #[.string nm, .int .i64 kd, .int .u16 (sv M), .slice ar nr cr, .slice aw nq cw, .slice af nf cf]] w fun e w' => e = .returned (.int .i64 1) ∧ Keeps w w' := by
  have K0 := (Keeps.refl w).alloc (.cells #[.string nm, .int .i64 kd, .int .u16 (sv M), .slice ar nr cr, .slice aw nq cw, .slice af nf cf] 36)
  have hb := BoxC.new w 36 nm kd M ar nr cr aw nq cw af nf cf
  obtain ⟨W1, hW1⟩ : ∃ W0, W0 = w.alloc (.cells #[.string nm, .int .i64 kd, .int .u16 (sv M), .slice ar nr cr, .slice aw nq cw, .slice af nf cf] 36) := ⟨_, rfl⟩
  rw [← hW1] at hb K0
  obtain ⟨c0, c1, c2, c3, c4, c5⟩ := hb.conj
  have h1 := fun W => isNameN_any nm W
  rw [hnm] at h1
  have H1 := Lib.hid h1
  clear h1 hb
  go_enter Tryz.func13, Tryz.ntmps13
  go_wp2_with fail
  rw [← hW1]
  clear hW1
  refine (H1.out _).mono ?_
  rintro e w2 ⟨rfl, rfl⟩
  go_wp2_with fail
  go_ret
  exact ⟨rfl, K0⟩
/-- is a configuration short? -/
def fewB (nm : ByteArray) (nr nq nf : Nat) : Bool := decide (nm.size ≤ 100) && (decide (nr ≤ 20) && (decide (nq ≤ 20) && decide (nf ≤ 20)))
end Go.Proofs.YtijknodekomdfaaGreatDoor
