/- The reference's Contains and Before. -/
import Derived.Test.YtbiggfbbccpcmaaDoorSort
namespace Go.Proofs.YtbiggfbbccpcmaaDoor
open Go.RowKit Go.Lib Go.Shelf

theorem refContains_any (a b : S) (w : World) : Calls Tryd.prog 46 #[.int .u16 (sv a), .int .u16 (sv b)] w fun e w' => e = .returned (.bool (b &&& ~~~a == 0#16)) ∧ w' = w := by
  go_enter Tryd.func46, Tryd.ntmps46
  go_wp2
  go_ret
  exact ⟨rfl, rfl⟩

theorem before_any (a b : S) (w : World) : Calls Tryd.prog 57 #[.int .u16 (sv a), .int .u16 (sv b)] w fun e w' => e = .returned (.bool (ltS a b)) ∧ w' = w := by
  have h := ltS_iff a b
  by_cases hc : cnt a = cnt b
  · have hb : ((cnt a : Int) != (cnt b : Int)) = false := by simp [hc]
    have he : ltS a b = decide (sv a < sv b) := by rw [Bool.eq_iff_iff, h, decide_eq_true_eq]; omega
    rw [he]
    clear h he hc
    go_enter Tryd.func57, Tryd.ntmps57
    go_wp2_with fail
    refine (refSize_any a _).mono ?_
    rintro e w' ⟨rfl, rfl⟩
    go_wp2_with fail
    refine (refSize_any b _).mono ?_
    rintro e w' ⟨rfl, rfl⟩
    go_wp2_with fail
    go_ret
    exact ⟨rfl, rfl⟩
  · have hb : ((cnt a : Int) != (cnt b : Int)) = true := by rw [bne_iff_ne]; omega
    have he : ltS a b = decide (cnt a < cnt b) := by rw [Bool.eq_iff_iff, h, decide_eq_true_eq]; omega
    rw [he]
    clear h he hc
    go_enter Tryd.func57, Tryd.ntmps57
    go_wp2_with fail
    refine (refSize_any a _).mono ?_
    rintro e w' ⟨rfl, rfl⟩
    go_wp2_with fail
    refine (refSize_any b _).mono ?_
    rintro e w' ⟨rfl, rfl⟩
    go_wp2_with fail
    refine (refSize_any a _).mono ?_
    rintro e w' ⟨rfl, rfl⟩
    go_wp2_with fail
    refine (refSize_any b _).mono ?_
    rintro e w' ⟨rfl, rfl⟩
    go_wp2_with fail
    go_ret
    exact ⟨rfl, rfl⟩

end Go.Proofs.YtbiggfbbccpcmaaDoor
