/- Texts joined into one (wip/bin/pack.py): R27e. -/
import Derived.Lib.QuietBelow
import Derived.Test.YtcnccoinhohbeaaDoorKT
import Derived.Test.YtcnccoinhohbeaaDoorKU
/- The reference's In, Avoids, Tolerates. -/
namespace Go.Proofs.YtcnccoinhohbeaaDoor
open Go.RowKit Go.Lib Go.Shelf

set_option maxRecDepth 20000 in
theorem rAvo_any (a : Option Addr) (n c : Nat) (l : List S) (s : S) (w : World) (h : Rd w a n c 1 (sl l)) :
    Calls Tryd.prog 27 #[.slice a n c, .int .u16 (sv s)] w fun e w' => e = .returned (.bool (avo l s)) ∧ w = w' := by
  have L := h.lenS
  subst L
  have sm := h.small
  have hres : (avo l s) = l.any fun x => x &&& s == 0#16 := rfl
  have HRES := Lib.hid hres
  clear hres
  generalize (avo l s) = res at *
  go_enter Tryd.func27, Tryd.ntmps27
  go_wp2_with fail
  go_loop [5] (fun v => ∃ i : Nat, i ≤ l.length ∧ v = .int .i64 i ∧ Hid (res = (l.drop i).any fun x => x &&& s == 0#16)) (fun v => l.length - (RowKit.intOf v).toNat)
  case atStart => exact ⟨0, Nat.zero_le _, rfl, HRES.out⟩
  case round =>
    obtain ⟨i, hi, rfl, HI⟩ := hrel
    by_cases hlt : i < l.length
    · have g0 := h.at hlt
      have hs := h.isSome (by omega)
      have hst := HI.out
      rw [drop_at l i hlt, List.any_cons] at hst
      generalize at_ l i = x at *
      cases hq : (x &&& s == 0#16)
      all_goals
        rw [hq] at hst
        simp only [Bool.false_or, Bool.true_or] at hst
        have HS := Lib.hid hst
        clear hst HI
        go_wp2_with fail
      · go_round
        case rel => exact ⟨i + 1, by omega, by go_num, HS⟩
        case measure => simp [RowKit.intOf]; omega
      · go_ret
        rw [HS.out]
        exact ⟨rfl, rfl⟩
    · have hst := HI.out
      rw [List.drop_eq_nil_of_le (by omega), List.any_nil] at hst
      have HS := Lib.hid hst
      clear hst HI
      go_wp2_with fail
      go_ret
      rw [HS.out]
      exact ⟨rfl, rfl⟩

end Go.Proofs.YtcnccoinhohbeaaDoor
