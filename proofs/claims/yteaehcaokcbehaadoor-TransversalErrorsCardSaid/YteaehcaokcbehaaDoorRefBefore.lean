/- The reference's Contains and Before. -/
import Derived.Test.YteaehcaokcbehaaDoorSort
namespace Go.Proofs.YteaehcaokcbehaaDoor
open Go.RowKit Go.Lib Go.Shelf

theorem refContains_any (a b : S) (w : World) : Calls Tryd.prog 69 #[.int .u16 (sv a), .int .u16 (sv b)] w fun e w' => e = .returned (.bool (b &&& ~~~a == 0#16)) ∧ w' = w := by
  go_enter Tryd.func69, Tryd.ntmps69
  go_wp2
  go_ret
  exact ⟨rfl, rfl⟩

theorem before_any (a b : S) (w : World) : Calls Tryd.prog 68 #[.int .u16 (sv a), .int .u16 (sv b)] w fun e w' => e = .returned (.bool (ltS a b)) ∧ w' = w := by
  have h := ltS_iff a b
  by_cases hc : cnt a = cnt b
  · have hb : ((cnt a : Int) != (cnt b : Int)) = false := by simp [hc]
    have he : ltS a b = decide (sv a < sv b) := by rw [Bool.eq_iff_iff, h, decide_eq_true_eq]; omega
    rw [he]
    clear h he hc
    go_enter Tryd.func68, Tryd.ntmps68
    go_wp2_with fail
    refine (refSize_any a _).mono ?_
    rintro e w' ⟨rfl, rfl⟩
    go_wp2_with fail
    refine (refSize_any b _).mono ?_
    rintro e w' ⟨rfl, rfl⟩
    go_wp2_with fail
    go_ret
    exact ⟨rfl, rfl⟩
  · have hb : ((cnt a : Int) != (cnt b : Int)) = true := by rw [bne_iff_ne]; omega
    have he : ltS a b = decide (cnt a < cnt b) := by rw [Bool.eq_iff_iff, h, decide_eq_true_eq]; omega
    rw [he]
    clear h he hc
    go_enter Tryd.func68, Tryd.ntmps68
    go_wp2_with fail
    refine (refSize_any a _).mono ?_
    rintro e w' ⟨rfl, rfl⟩
    go_wp2_with fail
    refine (refSize_any b _).mono ?_
    rintro e w' ⟨rfl, rfl⟩
    go_wp2_with fail
    refine (refSize_any a _).mono ?_
    rintro e w' ⟨rfl, rfl⟩
    go_wp2_with fail
    refine (refSize_any b _).mono ?_
    rintro e w' ⟨rfl, rfl⟩
    go_wp2_with fail
    go_ret
    exact ⟨rfl, rfl⟩

end Go.Proofs.YteaehcaokcbehaaDoor
