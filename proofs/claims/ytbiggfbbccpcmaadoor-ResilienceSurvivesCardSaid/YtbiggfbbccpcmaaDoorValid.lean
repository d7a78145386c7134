/- family.Valid, family.Support. -/
import Derived.Test.YtbiggfbbccpcmaaDoorFam
namespace Go.Proofs.YtbiggfbbccpcmaaDoor
open Go.RowKit Go.Lib Go.Shelf

@[go_sem] theorem sv_and_out (x : S) : bits .and .u16 (sv x) 61440 = sv (x &&& 61440#16) := by
  have : (61440 : Int) = sv 61440#16 := rfl
  rw [this, sv_and]

theorem Rd.takeS {w : World} {a : Option Addr} {n c : Nat} {l : List S} (h : Rd w a n c 1 (sl l)) {i : Nat} (hi : i ≤ n) : Rd w a i c 1 (sl (l.take i)) := by
  have hl := h.lenS
  refine ⟨by simp; omega, by have := h.nc; omega, h.cm, fun h0 => h.isSome (by omega), fun j u hu => ?_⟩
  rw [sl_take, List.getElem?_take] at hu
  split at hu
  · exact h.cell j u hu
  · cases hu
/-- the union -/
def supR : S → List S → S
  | acc, [] => acc
  | acc, s :: rest => supR (acc ||| s) rest
def supS (l : List S) : S := supR 0#16 l

theorem support_any (a : Option Addr) (n c : Nat) (l : List S) (w : World) (h : Rd w a n c 1 (sl l)) :
    Calls Tryd.prog 41 #[.slice a n c] w fun e w' => e = .returned (.int .u16 (sv (supS l))) ∧ w = w' := by
  have L := Lib.hid h.lenS
  have s1 := h.small
  go_enter Tryd.func41, Tryd.ntmps41
  go_wp2
  go_loopw [3, 8] (fun u v wr => ∃ (k : Nat) (acc : S), k ≤ n ∧ v = .int .i64 k ∧ u = .int .u16 (sv acc) ∧ w = wr ∧ Hid (supS l = supR acc (l.drop k))) (fun _ v _ => n - (intOf v).toNat)
  case atStart => exact ⟨0, 0#16, Nat.zero_le _, rfl, rfl, rfl, rfl⟩
  case round =>
    obtain ⟨k, acc, hk, rfl, rfl, rfl, HI⟩ := hrel
    by_cases hlt : k < n
    · have hc := h.at hlt
      have hs := h.isSome (by omega)
      have HJ : Hid (supS l = supR (acc ||| at_ l k) (l.drop (k + 1))) := by have := HI.out; rw [dropH L hlt] at this; exact this
      clear HI
      go_wp2
      go_roundw
      case rel => exact ⟨k + 1, _, by omega, rfl, rfl, trivial, HJ⟩
      case measure => simp [intOf]; omega
    · have HJ : Hid (supS l = acc) := by have := HI.out; rw [dropN L hlt] at this; exact this
      clear HI
      go_wp2
      go_ret
      rw [HJ.out]
      exact ⟨rfl, rfl⟩

/-- the first pass: the error of range or of order -/
def val1 : Option S → List S → Int
  | _, [] => 0
  | p, s :: rest => if s &&& 61440#16 != 0#16 then 7 else if (match p with | none => false | some q => decide (0 ≤ cmpS q s)) then 1 else val1 (some s) rest
/-- the second pass: a set that contains an earlier one -/
def val2 : List S → List S → Int
  | _, [] => 0
  | pre, s :: rest => if accS pre s then 1 else val2 (pre ++ [s]) rest
def validS (l : List S) : Int := if l.length > 400 then 3 else if val1 none l = 0 then val2 [] l else val1 none l
def prevS (l : List S) (k : Nat) : Option S := if k = 0 then none else some (at_ l (k - 1))

set_option maxHeartbeats 1000000 in
theorem valid_any (a : Option Addr) (n c : Nat) (l : List S) (w : World) (h : Rd w a n c 1 (sl l)) :
    Calls Tryd.prog 36 #[.slice a n c] w fun e w' => e = .returned (.int .i64 (validS l)) ∧ Keeps w w' := by
  have L := Lib.hid h.lenS
  have s1 := h.small
  have hcmp := fun x y W => compare_any x y W
  have HC := Lib.hid hcmp; clear hcmp
  by_cases h400 : n > 400
  · have hv : validS l = 3 := by unfold validS; rw [if_pos (by have := L.out; omega)]
    rw [hv]
    have h1 : (400 : Int) < n := by omega
    clear hv h400
    go_enter Tryd.func36, Tryd.ntmps36
    go_wp2
    go_ret
    exact ⟨rfl, Keeps.refl _⟩
  · have hv : Hid (validS l = if val1 none l = 0 then val2 [] l else val1 none l) := by show validS l = _; unfold validS; rw [if_neg (by have := L.out; omega)]
    have h1 : ¬ (400 : Int) < n := by omega
    go_enter Tryd.func36, Tryd.ntmps36
    go_wp2
    go_loopw [12] (fun v wr => ∃ (k : Nat), k ≤ n ∧ v = .int .i64 k ∧ Keeps w wr ∧ Hid (val1 none l = val1 (prevS l k) (l.drop k))) (fun v _ => n - (intOf v).toNat)
    case atStart => exact ⟨0, Nat.zero_le _, rfl, Keeps.refl _, rfl⟩
    case round =>
      obtain ⟨k, hk, rfl, K1, HI⟩ := hrel
      by_cases hlt : k < n
      · have hc := (h.keep K1).at hlt
        have hs := (h.keep K1).isSome (by omega)
        have hst := HI.out
        rw [dropH L hlt] at hst
        by_cases hout : (at_ l k &&& 61440#16 != 0#16) = true
        · have HV : Hid (validS l = 7) := by
            have e : val1 none l = 7 := by rw [hst]; unfold val1; rw [if_pos hout]
            show validS l = 7; rw [hv.out, e]; rfl
          clear hst HI
          go_wp2
          go_ret
          rw [HV.out]
          exact ⟨rfl, K1⟩
        · have hout' : (at_ l k &&& 61440#16 != 0#16) = false := by simpa using hout
          rcases Nat.eq_zero_or_pos k with rfl | hp
          · have HJ : Hid (val1 none l = val1 (prevS l 1) (l.drop 1)) := by
              show _ = _
              rw [hst]; conv => lhs; unfold val1
              rw [if_neg hout]; rfl
            clear hst HI hout
            go_wp2
            go_roundw
            case rel => exact ⟨1, by omega, rfl, K1, HJ⟩
            case measure => simp [intOf]; omega
          · have hcp := (h.keep K1).at (show k - 1 < n by omega)
            have hk0 : (0 : Int) < k := by omega
            have hprev : prevS l k = some (at_ l (k - 1)) := by unfold prevS; rw [if_neg (by omega)]
            rw [hprev] at hst
            by_cases hge : 0 ≤ cmpS (at_ l (k - 1)) (at_ l k)
            · have HV : Hid (validS l = 1) := by
                have e : val1 none l = 1 := by rw [hst]; unfold val1; rw [if_neg hout, if_pos (by simpa using hge)]
                show validS l = 1; rw [hv.out, e]; rfl
              clear hst HI hprev
              go_wp2_with (go_at_call 59; refine (HC.out _ _ _).mono ?_; rintro e w2 ⟨rfl, K2⟩)
              go_ret
              rw [HV.out]
              exact ⟨rfl, K1.trans K2⟩
            · have HJ : Hid (val1 none l = val1 (prevS l (k + 1)) (l.drop (k + 1))) := by
                show _ = _
                rw [hst]; conv => lhs; unfold val1
                rw [if_neg hout, if_neg (by simpa using hge)]
                unfold prevS; rw [if_neg (by omega)]; rfl
              clear hst HI hprev
              go_wp2_with (go_at_call 59; refine (HC.out _ _ _).mono ?_; rintro e w2 ⟨rfl, K2⟩)
              go_roundw
              case rel => exact ⟨k + 1, by omega, rfl, K1.trans K2, HJ⟩
              case measure => simp [intOf]; omega
      · have HV1 : Hid (validS l = val2 [] l) := by
          have e : val1 none l = 0 := by have := HI.out; rw [dropN L hlt] at this; simpa [val1] using this
          show validS l = _; rw [hv.out, if_pos e]
        have hkn : n = k := by omega
        subst hkn
        clear HI
        go_wp2
        go_loopw [37] (fun v wx => ∃ (i : Nat), i ≤ n ∧ v = .int .i64 i ∧ Keeps w wx ∧ Hid (val2 [] l = val2 (l.take i) (l.drop i))) (fun v _ => n - (intOf v).toNat)
        case atStart => exact ⟨0, Nat.zero_le _, rfl, K1, rfl⟩
        case round =>
          obtain ⟨i, hi, rfl, K2, HI⟩ := hrel
          by_cases hlt2 : i < n
          · have hc := (h.keep K2).at hlt2
            have hs := (h.keep K2).isSome (by omega)
            have hacc := accepts_any a i c (l.take i) (at_ l i) wr ((h.keep K2).takeS (by omega))
            have hst := HI.out
            rw [dropH L hlt2] at hst
            have HA := Lib.hid hacc
            have hnc := h.nc
            have hcm := h.cm
            by_cases hac : accS (l.take i) (at_ l i) = true
            · have HV : Hid (validS l = 1) := by
                have e : val2 [] l = 1 := by rw [hst]; unfold val2; rw [if_pos hac]
                show validS l = 1; rw [HV1.out, e]
              clear hst HI hacc
              go_wp2_with (go_at_call 50; refine HA.out.mono ?_; rintro e w2 ⟨rfl, K3⟩)
              go_ret
              rw [HV.out]
              exact ⟨rfl, K2.trans K3⟩
            · have HJ : Hid (val2 [] l = val2 (l.take (i + 1)) (l.drop (i + 1))) := by
                show _ = _
                rw [hst]; conv => lhs; unfold val2
                rw [if_neg hac, takeH L hlt2]
              have hac' : accS (l.take i) (at_ l i) = false := by simpa using hac
              clear hst HI hacc hac
              go_wp2_with (go_at_call 50; refine HA.out.mono ?_; rintro e w2 ⟨rfl, K3⟩)
              go_roundw
              case rel => exact ⟨i + 1, by omega, rfl, K2.trans K3, HJ⟩
              case measure => simp [intOf]; omega
          · have HV : Hid (validS l = 0) := by
              have e : val2 [] l = 0 := by have := HI.out; rw [dropN L hlt2] at this; simpa [val2] using this
              show validS l = 0; rw [HV1.out, e]
            clear HI
            go_wp2
            go_ret
            rw [HV.out]
            exact ⟨rfl, K2⟩
end Go.Proofs.YtbiggfbbccpcmaaDoor
