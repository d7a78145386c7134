/- The reference's Valid, and of the layer transversal: Dual, IsDual, Least, Minimal, Coterie, starred, Dominated, Made. -/
import Derived.Test.YtbiggfbbccpcmaaDoorR09b
import Derived.Test.YtbiggfbbccpcmaaDoorRefBefore
namespace Go.Proofs.YtbiggfbbccpcmaaDoor
open Go.RowKit Go.Lib Go.Shelf

/-! ### Valid -/
theorem out_small (x : S) : (x &&& 61440#16) = 0#16 ↔ small x := by
  constructor
  · intro h
    refine Nat.lt_pow_two_of_testBit (n := 12) _ fun i hi => ?_
    rcases Nat.lt_or_ge i 16 with h1 | h1
    · have h2 : (x &&& 61440#16).getLsbD i = false := by rw [h]; simp
      rw [BitVec.getLsbD_and] at h2
      have h3 : (61440#16).getLsbD i = true := by
        have : i = 12 ∨ i = 13 ∨ i = 14 ∨ i = 15 := by omega
        rcases this with rfl | rfl | rfl | rfl <;> decide
      rw [h3, Bool.and_true] at h2
      exact h2
    · exact Nat.testBit_lt_two_pow (Nat.lt_of_lt_of_le x.isLt (Nat.pow_le_pow_right (n := 2) (by decide) h1))
  · intro h
    apply BitVec.eq_of_getLsbD_eq
    intro i hi
    rw [BitVec.getLsbD_and, BitVec.getLsbD_zero]
    cases hx : x.getLsbD i with
    | false => rfl
    | true =>
      have h1 := small_bit h hx
      have : ∀ j : Fin 12, (61440#16).getLsbD j.val = false := by decide
      rw [this ⟨i, h1⟩]; rfl
theorem out_lt (x : S) : decide (sv x < 4096) = !(x &&& 61440#16 != 0#16) := by
  rw [Bool.eq_iff_iff, decide_eq_true_eq]
  have h := out_small x
  unfold small at h
  have e : sv x < 4096 ↔ x.toNat < 4096 := by unfold sv; omega
  rw [e, ← h]; simp
theorem range_any (x : S) (w : World) : Calls Tryd.prog 56 #[.int .u16 (sv x)] w fun e w' => e = .returned (.bool (!(x &&& 61440#16 != 0#16))) ∧ w' = w := by
  rw [← out_lt]
  go_enter Tryd.func56, Tryd.ntmps56
  go_wp2
  go_ret
  exact ⟨rfl, rfl⟩
theorem loneR_false (x : S) (i : Nat) : ∀ (l : List S) (k : Nat), loneR x i l k false = false
  | [], _ => rfl
  | y :: ys, k => by rw [loneR, Bool.false_and, loneR_false x i ys]
/-- the second pass of the reference's Valid -/
def rv2 (s : List S) : List S → Nat → Int
  | [], _ => 0
  | x :: xs, i => if loneR x i s 0 true = true then rv2 s xs (i + 1) else 1
def rvalS (l : List S) : Int := if l.length > 400 then 3 else if val1 none l = 0 then rv2 l l 0 else val1 none l
theorem cmp_lt (x y : S) : decide (0 ≤ cmpS x y) = !ltS x y := by
  unfold ltS; rw [← decide_not]; congr 1; rw [Int.not_lt]

set_option maxHeartbeats 1600000 in
theorem rValid_any (a : Option Addr) (n c : Nat) (l : List S) (w : World) (h : Rd w a n c 1 (sl l)) :
    Calls Tryd.prog 34 #[.slice a n c] w fun e w' => e = .returned (.int .i64 (rvalS l)) ∧ Keeps w w' := by
  have L := Lib.hid h.lenS
  have s1 := h.small
  have HR := Lib.hid (fun x W => range_any x W)
  have HB := Lib.hid (fun x y W => before_any x y W)
  have HC := Lib.hid (fun x y W => refContains_any x y W)
  by_cases h400 : n > 400
  · have hv : rvalS l = 3 := by unfold rvalS; rw [if_pos (by have := L.out; omega)]
    rw [hv]
    have h1 : (400 : Int) < n := by omega
    clear hv h400
    go_enter Tryd.func34, Tryd.ntmps34
    go_wp2
    go_ret
    exact ⟨rfl, Keeps.refl _⟩
  · have hv : Hid (rvalS l = if val1 none l = 0 then rv2 l l 0 else val1 none l) := by show rvalS l = _; unfold rvalS; rw [if_neg (by have := L.out; omega)]
    have h1 : ¬ (400 : Int) < n := by omega
    go_enter Tryd.func34, Tryd.ntmps34
    go_wp2
    go_loopw [3] (fun v wr => ∃ (k : Nat), k ≤ n ∧ v = .int .i64 k ∧ Keeps w wr ∧ Hid (val1 none l = val1 (prevS l k) (l.drop k))) (fun v _ => n - (intOf v).toNat)
    case atStart => exact ⟨0, Nat.zero_le _, rfl, Keeps.refl _, rfl⟩
    case round =>
      obtain ⟨k, hk, rfl, K1, HI⟩ := hrel
      by_cases hlt : k < n
      · have hc := (h.keep K1).at hlt
        have hs := (h.keep K1).isSome (by omega)
        have hst := HI.out
        rw [dropH L hlt] at hst
        have hra := HR.out (at_ l k) wr
        by_cases hout : (at_ l k &&& 61440#16 != 0#16) = true
        · have HV : Hid (rvalS l = 7) := by
            have e : val1 none l = 7 := by rw [hst]; unfold val1; rw [if_pos hout]
            show rvalS l = 7; rw [hv.out, e]; rfl
          rw [hout] at hra
          have HRA := Lib.hid hra
          clear hst HI hra
          go_wp2_with (go_at_call 56; refine HRA.out.mono ?_; rintro e w2 ⟨rfl, rfl⟩)
          go_ret
          rw [HV.out]
          exact ⟨rfl, K1⟩
        · have hout' : (at_ l k &&& 61440#16 != 0#16) = false := by simpa using hout
          rw [hout'] at hra
          have HRA := Lib.hid hra
          clear hra
          rcases Nat.eq_zero_or_pos k with rfl | hp
          · have HJ : Hid (val1 none l = val1 (prevS l 1) (l.drop 1)) := by
              show _ = _
              rw [hst]; conv => lhs; unfold val1
              rw [if_neg hout]; rfl
            clear hst HI hout
            go_wp2_with (first | (go_at_call 56; refine HRA.out.mono ?_; rintro e w2 ⟨rfl, rfl⟩) | go_quiet (fail))
            go_roundw
            case rel => exact ⟨1, by omega, rfl, by first | exact K1 | exact K1.drewN _, HJ⟩
            case measure => simp [intOf]; omega
          · have hcp := (h.keep K1).at (show k - 1 < n by omega)
            have hk0 : (0 : Int) < k := by omega
            have hk0' : decide ((0 : Int) < k) = true := by simpa using hk0
            have hprev : prevS l k = some (at_ l (k - 1)) := by unfold prevS; rw [if_neg (by omega)]
            rw [hprev] at hst
            have hbe := HB.out (at_ l (k - 1)) (at_ l k)
            have hsub : IntKind.i64.wrap ((k : Int) - 1) = ((k - 1 : Nat) : Int) := by rw [IntWalk.i64_in _ (by omega)]; omega
            have hge := cmp_lt (at_ l (k - 1)) (at_ l k)
            cases hlts : ltS (at_ l (k - 1)) (at_ l k) with
            | false =>
              rw [hlts] at hbe hge
              have HV : Hid (rvalS l = 1) := by
                have e : val1 none l = 1 := by rw [hst]; unfold val1; rw [if_neg hout]; exact if_pos hge
                show rvalS l = 1; rw [hv.out, e]; rfl
              have HBE := Lib.hid hbe
              clear hst HI hprev hbe hge hlts hout
              go_wp2_with (first | (go_at_call 56; refine HRA.out.mono ?_; rintro e w2 ⟨rfl, rfl⟩) | go_quiet ((go_at_call 57; exact Calls.quiet_of_same (HBE.out _))))
              go_ret
              rw [HV.out]
              exact ⟨rfl, K1.drewN _⟩
            | true =>
              rw [hlts] at hbe hge
              have HJ : Hid (val1 none l = val1 (prevS l (k + 1)) (l.drop (k + 1))) := by
                show _ = _
                rw [hst]; conv => lhs; unfold val1
                rw [if_neg hout, if_neg (show ¬ (decide (0 ≤ cmpS (at_ l (k - 1)) (at_ l k))) = true by rw [hge]; simp)]
                unfold prevS; rw [if_neg (by omega)]; rfl
              have HBE := Lib.hid hbe
              clear hst HI hprev hbe hge hlts hout
              go_wp2_with (first | (go_at_call 56; refine HRA.out.mono ?_; rintro e w2 ⟨rfl, rfl⟩) | go_quiet ((go_at_call 57; exact Calls.quiet_of_same (HBE.out _))))
              go_roundw
              case rel => exact ⟨k + 1, by omega, rfl, K1.drewN _, HJ⟩
              case measure => simp [intOf]; omega
      · have HV1 : Hid (rvalS l = rv2 l l 0) := by
          have e : val1 none l = 0 := by have := HI.out; rw [dropN L hlt] at this; simpa [val1] using this
          show rvalS l = _; rw [hv.out, if_pos e]
        clear HI
        go_wp2
        go_loopw [4] (fun v wx => ∃ (i : Nat), i ≤ n ∧ v = .int .i64 i ∧ Keeps w wx ∧ Hid (rv2 l l 0 = rv2 l (l.drop i) i)) (fun v _ => n - (intOf v).toNat)
        case atStart => exact ⟨0, Nat.zero_le _, rfl, K1, rfl⟩
        case round =>
          obtain ⟨i, hi, rfl, K2, HI⟩ := hrel
          by_cases hlt2 : i < n
          · have hst := HI.out
            rw [dropH L hlt2, rv2] at hst
            have HST := Lib.hid hst; clear hst HI
            obtain ⟨wo, rfl⟩ : ∃ wo : World, wo = wr := ⟨_, rfl⟩
            go_wp2
            go_loopw [5] (fun v wx => ∃ (k : Nat), k ≤ n ∧ v = .int .i64 k ∧ Keeps wo wx ∧ Hid (loneR (at_ l i) i l 0 true = loneR (at_ l i) i (l.drop k) k true)) (fun v _ => n - (intOf v).toNat)
            case atStart => exact ⟨0, Nat.zero_le _, rfl, Keeps.refl _, rfl⟩
            case round =>
              obtain ⟨j, hj, rfl, K3, HL⟩ := hrel
              by_cases hlj : j < n
              · have hci := (h.keep (K2.trans K3)).at hlt2
                have hcj := (h.keep (K2.trans K3)).at hlj
                have hs2 := h.isSome (by omega)
                have hst := HL.out
                rw [dropH L hlj, loneR] at hst
                by_cases hij : i = j
                · have hbb : ((i : Int) != (j : Int)) = false := by simp [hij]
                  have HJ : Hid (loneR (at_ l i) i l 0 true = loneR (at_ l i) i (l.drop (j + 1)) (j + 1) true) := by show _ = _; rw [hst]; simp [hij]
                  clear hst HL hij
                  go_wp2_with (go_quiet (fail))
                  go_roundw
                  case rel => exact ⟨j + 1, by omega, by go_num, K3.drewN _, HJ⟩
                  case measure => simp [intOf]; omega
                · have hbb : ((i : Int) != (j : Int)) = true := by rw [bne_iff_ne]; omega
                  have hcon := HC.out (at_ l i) (at_ l j)
                  cases hq : (at_ l j &&& ~~~at_ l i == 0#16) with
                  | true =>
                    rw [hq] at hcon
                    have HV : Hid (rvalS l = 1) := by
                      show _ = _
                      rw [HV1.out, HST.out, if_neg]
                      rw [hst, hq]; simp [hij, loneR_false]
                    have HCO := Lib.hid hcon
                    clear hst HL hij hcon hq
                    go_wp2_with (go_quiet ((go_at_call 46; exact Calls.quiet_of_same (HCO.out _))))
                    go_ret
                    rw [HV.out]
                    exact ⟨rfl, (K2.trans K3).drewN _⟩
                  | false =>
                    rw [hq] at hcon
                    have HJ : Hid (loneR (at_ l i) i l 0 true = loneR (at_ l i) i (l.drop (j + 1)) (j + 1) true) := by show _ = _; rw [hst, hq]; simp
                    have HCO := Lib.hid hcon
                    clear hst HL hij hcon hq
                    go_wp2_with (go_quiet ((go_at_call 46; exact Calls.quiet_of_same (HCO.out _))))
                    go_roundw
                    case rel => exact ⟨j + 1, by omega, by go_num, K3.drewN _, HJ⟩
                    case measure => simp [intOf]; omega
              · have HJ : Hid (rv2 l l 0 = rv2 l (l.drop (i + 1)) (i + 1)) := by
                  show _ = _
                  rw [HST.out, if_pos]
                  rw [HL.out, dropN L hlj]; rfl
                clear HL HST
                go_wp2
                go_roundw
                case rel => exact ⟨i + 1, by omega, by go_num, K2.trans K3, HJ⟩
                case measure => simp [intOf]; omega
          · have HV : Hid (rvalS l = 0) := by
              have e : rv2 l l 0 = 0 := by have := HI.out; rw [dropN L hlt2] at this; simpa [rv2] using this
              show rvalS l = 0; rw [HV1.out, e]
            clear HI
            go_wp2
            go_ret
            rw [HV.out]
            exact ⟨rfl, K2⟩

/-! ### Dual, IsDual, Least -/
def rdualErr (l : List S) : List S × Int := if rvalS l ≠ 0 then ([], rvalS l) else if 400 < (rdualS l).length then ([], 3) else (rdualS l, 0)
def risDual (l g : List S) : Bool := (rdualErr l).2 == 0 && eqS (rdualErr l).1 g
/-- the first that hits -/
def firstHit (f : List S) : List S → S × Int
  | [] => (0#16, 4)
  | x :: xs => if hitS f x then (x, 0) else firstHit f xs
def rleastErr (l : List S) : S × Int := if rvalS l ≠ 0 then (0#16, rvalS l) else firstHit l (refSubs (supS l))
def RetE (r : S × Int) (e : Ending) : Prop := e = .returned (.tuple #[.int .u16 (sv r.1), .int .i64 r.2])
end Go.Proofs.YtbiggfbbccpcmaaDoor
