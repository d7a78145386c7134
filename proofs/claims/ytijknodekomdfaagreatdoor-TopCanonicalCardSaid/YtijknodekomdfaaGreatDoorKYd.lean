/- Texts joined into one (wip/bin/pack.py): CAvo. -/
import Derived.Test.YtijknodekomdfaaGreatDoorKA
import Derived.Test.YtijknodekomdfaaGreatDoorKYa
import Derived.Test.YtijknodekomdfaaGreatDoorKU
/- config.avoids, config.Tolerates. -/
namespace Go.Proofs.YtijknodekomdfaaGreatDoor
open Go.RowKit Go.Lib Go.Shelf

theorem avoPred (s : S) (B : Nat) (l : List S) (w : World) (h0 : w.cell? ⟨B, 0, none⟩ = some (.int .u16 (sv s))) :
    PredK Tryz.prog 186 #[.pointer (some ⟨B, 0, none⟩)] vs (fun t => s &&& t == 0#16) l w := fun W x _ hk => by
  have c0 := hk.cell h0
  show Calls Tryz.prog 186 #[.int .u16 (sv x), .pointer (some ⟨B, 0, none⟩)] W _
  go_enter Tryz.func186, Tryz.ntmps186
  go_wp2_with fail
  go_ret
  exact ⟨rfl, Keeps.refl _⟩
theorem avo_and (l : List S) (s : S) : avo l s = l.any fun t => s &&& t == 0#16 := by
  unfold avo; congr 1; funext t; rw [BitVec.and_comm]
theorem avoids_any (a : Option Addr) (n c : Nat) (l : List S) (s : S) (w : World) (h : Rd w a n c 1 (sl l)) :
    Calls Tryz.prog 125 #[.slice a n c, .int .u16 (sv s)] w fun e w' => e = .returned (.bool (avo l s)) ∧ Keeps w w' := by
  have K := (Keeps.refl w).alloc (.cells #[.int .u16 (sv s)] 31)
  have hcon := containsFuncS_any a n c l _ 186 #[.pointer (some ⟨w.heap.size, 0, none⟩)] (fun t => s &&& t == 0#16) (h.keep K) (enters_of Tryz.func186 (by kernel_rfl) rfl) (avoPred s w.heap.size l _ (by rw [World.cell?_alloc_at _ _ _ _ rfl]; rfl))
  rw [avo_and]
  generalize (l.any fun t => s &&& t == 0#16) = r at hcon ⊢
  have HC := Lib.hid hcon; clear hcon h
  go_enter Tryz.func125, Tryz.ntmps125
  go_wp2_with fail
  refine HC.out.mono ?_
  rintro e w' ⟨rfl, K2⟩
  go_wp2_with fail
  go_ret
  exact ⟨rfl, K.trans K2⟩
end Go.Proofs.YtijknodekomdfaaGreatDoor
