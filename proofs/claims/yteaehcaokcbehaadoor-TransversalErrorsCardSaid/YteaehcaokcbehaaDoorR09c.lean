/- The reference's Valid, and of the layer transversal: Dual, IsDual, Least, Minimal, Coterie, starred, Dominated, Made. -/
import Derived.Test.YteaehcaokcbehaaDoorR09b
import Derived.Test.YteaehcaokcbehaaDoorRefBefore
namespace Go.Proofs.YteaehcaokcbehaaDoor
open Go.RowKit Go.Lib Go.Shelf

/-! ### Valid -/
theorem out_small (x : S) : (x &&& 61440#16) = 0#16 ↔ small x := by
  constructor
  · intro h
    refine Nat.lt_pow_two_of_testBit (n := 12) _ fun i hi => ?_
    rcases Nat.lt_or_ge i 16 with h1 | h1
    · have h2 : (x &&& 61440#16).getLsbD i = false := by rw [h]; simp
      rw [BitVec.getLsbD_and] at h2
      have h3 : (61440#16).getLsbD i = true := by
        have : i = 12 ∨ i = 13 ∨ i = 14 ∨ i = 15 := by omega
        rcases this with rfl | rfl | rfl | rfl <;> decide
      rw [h3, Bool.and_true] at h2
      exact h2
    · exact Nat.testBit_lt_two_pow (Nat.lt_of_lt_of_le x.isLt (Nat.pow_le_pow_right (n := 2) (by decide) h1))
  · intro h
    apply BitVec.eq_of_getLsbD_eq
    intro i hi
    rw [BitVec.getLsbD_and, BitVec.getLsbD_zero]
    cases hx : x.getLsbD i with
    | false => rfl
    | true =>
      have h1 := small_bit h hx
      have : ∀ j : Fin 12, (61440#16).getLsbD j.val = false := by decide
      rw [this ⟨i, h1⟩]; rfl
theorem out_lt (x : S) : decide (sv x < 4096) = !(x &&& 61440#16 != 0#16) := by
  rw [Bool.eq_iff_iff, decide_eq_true_eq]
  have h := out_small x
  unfold small at h
  have e : sv x < 4096 ↔ x.toNat < 4096 := by unfold sv; omega
  rw [e, ← h]; simp
theorem range_any (x : S) (w : World) : Calls Tryd.prog 67 #[.int .u16 (sv x)] w fun e w' => e = .returned (.bool (!(x &&& 61440#16 != 0#16))) ∧ w' = w := by
  rw [← out_lt]
  go_enter Tryd.func67, Tryd.ntmps67
  go_wp2
  go_ret
  exact ⟨rfl, rfl⟩
theorem loneR_false (x : S) (i : Nat) : ∀ (l : List S) (k : Nat), loneR x i l k false = false
  | [], _ => rfl
  | y :: ys, k => by rw [loneR, Bool.false_and, loneR_false x i ys]
/-- the second pass of the reference's Valid -/
def rv2 (s : List S) : List S → Nat → Int
  | [], _ => 0
  | x :: xs, i => if loneR x i s 0 true = true then rv2 s xs (i + 1) else 1
def rvalS (l : List S) : Int := if l.length > 400 then 3 else if val1 none l = 0 then rv2 l l 0 else val1 none l
theorem cmp_lt (x y : S) : decide (0 ≤ cmpS x y) = !ltS x y := by
  unfold ltS; rw [← decide_not]; congr 1; rw [Int.not_lt]

set_option maxHeartbeats 1600000 in
theorem rValid_any (a : Option Addr) (n c : Nat) (l : List S) (w : World) (h : Rd w a n c 1 (sl l)) :
    Calls Tryd.prog 51 #[.slice a n c] w fun e w' => e = .returned (.int .i64 (rvalS l)) ∧ Keeps w w' := by
  have L := Lib.hid h.lenS
  have s1 := h.small
  have HR := Lib.hid (fun x W => range_any x W)
  have HB := Lib.hid (fun x y W => before_any x y W)
  have HC := Lib.hid (fun x y W => refContains_any x y W)
  by_cases h400 : n > 400
  · have hv : rvalS l = 3 := by unfold rvalS; rw [if_pos (by have := L.out; omega)]
    rw [hv]
    have h1 : (400 : Int) < n := by omega
    clear hv h400
    go_enter Tryd.func51, Tryd.ntmps51
    go_wp2
    go_ret
    exact ⟨rfl, Keeps.refl _⟩
  · have hv : Hid (rvalS l = if val1 none l = 0 then rv2 l l 0 else val1 none l) := by show rvalS l = _; unfold rvalS; rw [if_neg (by have := L.out; omega)]
    have h1 : ¬ (400 : Int) < n := by omega
    go_enter Tryd.func51, Tryd.ntmps51
    go_wp2
    go_loopw [3] (fun v wr => ∃ (k : Nat), k ≤ n ∧ v = .int .i64 k ∧ Keeps w wr ∧ Hid (val1 none l = val1 (prevS l k) (l.drop k))) (fun v _ => n - (intOf v).toNat)
    case atStart => exact ⟨0, Nat.zero_le _, rfl, Keeps.refl _, rfl⟩
    case round =>
      obtain ⟨k, hk, rfl, K1, HI⟩ := hrel
      by_cases hlt : k < n
      · have hc := (h.keep K1).at hlt
        have hs := (h.keep K1).isSome (by omega)
        have hst := HI.out
        rw [dropH L hlt] at hst
        have hra := HR.out (at_ l k) wr
        by_cases hout : (at_ l k &&& 61440#16 != 0#16) = true
        · have HV : Hid (rvalS l = 7) := by
            have e : val1 none l = 7 := by rw [hst]; unfold val1; rw [if_pos hout]
            show rvalS l = 7; rw [hv.out, e]; rfl
          rw [hout] at hra
          have HRA := Lib.hid hra
          clear hst HI hra
          go_wp2_with (go_at_call 67; refine HRA.out.mono ?_; rintro e w2 ⟨rfl, rfl⟩)
          go_ret
          rw [HV.out]
          exact ⟨rfl, K1⟩
        · have hout' : (at_ l k &&& 61440#16 != 0#16) = false := by simpa using hout
          rw [hout'] at hra
          have HRA := Lib.hid hra
          clear hra
          rcases Nat.eq_zero_or_pos k with rfl | hp
          · have HJ : Hid (val1 none l = val1 (prevS l 1) (l.drop 1)) := by
              show _ = _
              rw [hst]; conv => lhs; unfold val1
              rw [if_neg hout]; rfl
            clear hst HI hout
            go_wp2_with (first | (go_at_call 67; refine HRA.out.mono ?_; rintro e w2 ⟨rfl, rfl⟩) | go_quiet (fail))
            go_roundw
            case rel => exact ⟨1, by omega, rfl, by first | exact K1 | exact K1.drewN _, HJ⟩
            case measure => simp [intOf]; omega
          · have hcp := (h.keep K1).at (show k - 1 < n by omega)
            have hk0 : (0 : Int) < k := by omega
            have hk0' : decide ((0 : Int) < k) = true := by simpa using hk0
            have hprev : prevS l k = some (at_ l (k - 1)) := by unfold prevS; rw [if_neg (by omega)]
            rw [hprev] at hst
            have hbe := HB.out (at_ l (k - 1)) (at_ l k)
            have hsub : IntKind.i64.wrap ((k : Int) - 1) = ((k - 1 : Nat) : Int) := by rw [IntWalk.i64_in _ (by omega)]; omega
            have hge := cmp_lt (at_ l (k - 1)) (at_ l k)
            cases hlts : ltS (at_ l (k - 1)) (at_ l k) with
            | false =>
              rw [hlts] at hbe hge
              have HV : Hid (rvalS l = 1) := by
                have e : val1 none l = 1 := by rw [hst]; unfold val1; rw [if_neg hout]; exact if_pos hge
                show rvalS l = 1; rw [hv.out, e]; rfl
              have HBE := Lib.hid hbe
              clear hst HI hprev hbe hge hlts hout
              go_wp2_with (first | (go_at_call 67; refine HRA.out.mono ?_; rintro e w2 ⟨rfl, rfl⟩) | go_quiet ((go_at_call 68; exact Calls.quiet_of_same (HBE.out _))))
              go_ret
              rw [HV.out]
              exact ⟨rfl, K1.drewN _⟩
            | true =>
              rw [hlts] at hbe hge
              have HJ : Hid (val1 none l = val1 (prevS l (k + 1)) (l.drop (k + 1))) := by
                show _ = _
                rw [hst]; conv => lhs; unfold val1
                rw [if_neg hout, if_neg (show ¬ (decide (0 ≤ cmpS (at_ l (k - 1)) (at_ l k))) = true by rw [hge]; simp)]
                unfold prevS; rw [if_neg (by omega)]; rfl
              have HBE := Lib.hid hbe
              clear hst HI hprev hbe hge hlts hout
              go_wp2_with (first | (go_at_call 67; refine HRA.out.mono ?_; rintro e w2 ⟨rfl, rfl⟩) | go_quiet ((go_at_call 68; exact Calls.quiet_of_same (HBE.out _))))
              go_roundw
              case rel => exact ⟨k + 1, by omega, rfl, K1.drewN _, HJ⟩
              case measure => simp [intOf]; omega
      · have HV1 : Hid (rvalS l = rv2 l l 0) := by
          have e : val1 none l = 0 := by have := HI.out; rw [dropN L hlt] at this; simpa [val1] using this
          show rvalS l = _; rw [hv.out, if_pos e]
        clear HI
        go_wp2
        go_loopw [4] (fun v wx => ∃ (i : Nat), i ≤ n ∧ v = .int .i64 i ∧ Keeps w wx ∧ Hid (rv2 l l 0 = rv2 l (l.drop i) i)) (fun v _ => n - (intOf v).toNat)
        case atStart => exact ⟨0, Nat.zero_le _, rfl, K1, rfl⟩
        case round =>
          obtain ⟨i, hi, rfl, K2, HI⟩ := hrel
          by_cases hlt2 : i < n
          · have hst := HI.out
            rw [dropH L hlt2, rv2] at hst
            have HST := Lib.hid hst; clear hst HI
            obtain ⟨wo, rfl⟩ : ∃ wo : World, wo = wr := ⟨_, rfl⟩
            go_wp2
            go_loopw [5] (fun v wx => ∃ (k : Nat), k ≤ n ∧ v = .int .i64 k ∧ Keeps wo wx ∧ Hid (loneR (at_ l i) i l 0 true = loneR (at_ l i) i (l.drop k) k true)) (fun v _ => n - (intOf v).toNat)
            case atStart => exact ⟨0, Nat.zero_le _, rfl, Keeps.refl _, rfl⟩
            case round =>
              obtain ⟨j, hj, rfl, K3, HL⟩ := hrel
              by_cases hlj : j < n
              · have hci := (h.keep (K2.trans K3)).at hlt2
                have hcj := (h.keep (K2.trans K3)).at hlj
                have hs2 := h.isSome (by omega)
                have hst := HL.out
                rw [dropH L hlj, loneR] at hst
                by_cases hij : i = j
                · have hbb : ((i : Int) != (j : Int)) = false := by simp [hij]
                  have HJ : Hid (loneR (at_ l i) i l 0 true = loneR (at_ l i) i (l.drop (j + 1)) (j + 1) true) := by show _ = _; rw [hst]; simp [hij]
                  clear hst HL hij
                  go_wp2_with (go_quiet (fail))
                  go_roundw
                  case rel => exact ⟨j + 1, by omega, by go_num, K3.drewN _, HJ⟩
                  case measure => simp [intOf]; omega
                · have hbb : ((i : Int) != (j : Int)) = true := by rw [bne_iff_ne]; omega
                  have hcon := HC.out (at_ l i) (at_ l j)
                  cases hq : (at_ l j &&& ~~~at_ l i == 0#16) with
                  | true =>
                    rw [hq] at hcon
                    have HV : Hid (rvalS l = 1) := by
                      show _ = _
                      rw [HV1.out, HST.out, if_neg]
                      rw [hst, hq]; simp [hij, loneR_false]
                    have HCO := Lib.hid hcon
                    clear hst HL hij hcon hq
                    go_wp2_with (go_quiet ((go_at_call 69; exact Calls.quiet_of_same (HCO.out _))))
                    go_ret
                    rw [HV.out]
                    exact ⟨rfl, (K2.trans K3).drewN _⟩
                  | false =>
                    rw [hq] at hcon
                    have HJ : Hid (loneR (at_ l i) i l 0 true = loneR (at_ l i) i (l.drop (j + 1)) (j + 1) true) := by show _ = _; rw [hst, hq]; simp
                    have HCO := Lib.hid hcon
                    clear hst HL hij hcon hq
                    go_wp2_with (go_quiet ((go_at_call 69; exact Calls.quiet_of_same (HCO.out _))))
                    go_roundw
                    case rel => exact ⟨j + 1, by omega, by go_num, K3.drewN _, HJ⟩
                    case measure => simp [intOf]; omega
              · have HJ : Hid (rv2 l l 0 = rv2 l (l.drop (i + 1)) (i + 1)) := by
                  show _ = _
                  rw [HST.out, if_pos]
                  rw [HL.out, dropN L hlj]; rfl
                clear HL HST
                go_wp2
                go_roundw
                case rel => exact ⟨i + 1, by omega, by go_num, K2.trans K3, HJ⟩
                case measure => simp [intOf]; omega
          · have HV : Hid (rvalS l = 0) := by
              have e : rv2 l l 0 = 0 := by have := HI.out; rw [dropN L hlt2] at this; simpa [rv2] using this
              show rvalS l = 0; rw [HV1.out, e]
            clear HI
            go_wp2
            go_ret
            rw [HV.out]
            exact ⟨rfl, K2⟩

/-! ### Dual, IsDual, Least -/
def rdualErr (l : List S) : List S × Int := if rvalS l ≠ 0 then ([], rvalS l) else if 400 < (rdualS l).length then ([], 3) else (rdualS l, 0)
theorem rDual_any (a : Option Addr) (n c : Nat) (l : List S) (w : World) (h : Rd w a n c 1 (sl l)) :
    Calls Tryd.prog 30 #[.slice a n c] w fun e w' => RetS w (rdualErr l) e w' := by
  have hv := rValid_any a n c l w h
  have hd := fun W (k : Keeps w W) => rdual_any a n c l W (h.keep k)
  unfold rdualErr
  generalize rvalS l = vl at *
  generalize rdualS l = d at *
  have HV := Lib.hid hv; have HD := Lib.hid hd; clear hv hd h
  by_cases hz : vl = 0
  · subst hz
    by_cases h4 : 400 < d.length
    · rw [if_neg (by simp), if_pos h4]
      have h5 : (400 : Int) < d.length := by omega
      go_enter Tryd.func30, Tryd.ntmps30
      go_wp2_with fail
      refine HV.out.mono ?_
      rintro e w1 ⟨rfl, K1⟩
      go_wp2_with fail
      refine (HD.out _ K1).mono ?_
      rintro e w2 ⟨v2, rfl, hO⟩
      obtain ⟨a2, c2, rfl, hR⟩ := hO.rd
      go_wp2_with fail
      go_ret2
      exact ⟨_, rfl, Own.nil _ _ (K1.trans hO.2)⟩
    · rw [if_neg (by simp), if_neg h4]
      have h5 : ¬ (400 : Int) < d.length := by omega
      go_enter Tryd.func30, Tryd.ntmps30
      go_wp2_with fail
      refine HV.out.mono ?_
      rintro e w1 ⟨rfl, K1⟩
      go_wp2_with fail
      refine (HD.out _ K1).mono ?_
      rintro e w2 ⟨v2, rfl, hO⟩
      obtain ⟨a2, c2, rfl, hR⟩ := hO.rd
      go_wp2_with fail
      go_ret2
      exact ⟨_, rfl, hO.since K1⟩
  · rw [if_pos hz]
    have hb : (vl != 0) = true := by simpa using hz
    go_enter Tryd.func30, Tryd.ntmps30
    go_wp2_with fail
    refine HV.out.mono ?_
    rintro e w1 ⟨rfl, K1⟩
    go_wp2_with fail
    go_ret2
    exact ⟨_, rfl, Own.nil _ _ K1⟩

def risDual (l g : List S) : Bool := (rdualErr l).2 == 0 && eqS (rdualErr l).1 g
theorem rIsDual_any (a : Option Addr) (n c : Nat) (l : List S) (a2 : Option Addr) (n2 c2 : Nat) (g : List S) (w : World) (h : Rd w a n c 1 (sl l)) (h2 : Rd w a2 n2 c2 1 (sl g)) :
    Calls Tryd.prog 32 #[.slice a n c, .slice a2 n2 c2] w fun e w' => e = .returned (.bool (risDual l g)) ∧ Keeps w w' := by
  have hd := rDual_any a n c l w h
  unfold risDual
  generalize rdualErr l = r at hd ⊢
  obtain ⟨d, er⟩ := r
  unfold RetS at hd
  simp only at hd ⊢
  have he := fun W (k : Keeps w W) a3 c3 (hr : Rd W a3 d.length c3 1 (sl d)) => rSame_any a3 d.length c3 d a2 n2 c2 g W hr (h2.keep k)
  have HD := Lib.hid hd; have HE := Lib.hid he; clear hd he h h2
  by_cases hz : er = 0
  · subst hz
    go_enter Tryd.func32, Tryd.ntmps32
    go_wp2_with fail
    refine HD.out.mono ?_
    rintro e w1 ⟨v1, rfl, hO⟩
    obtain ⟨a3, c3, rfl, hR⟩ := hO.rd
    go_wp2_with fail
    refine (HE.out w1 hO.2 a3 c3 hR).mono ?_
    rintro e w2 ⟨rfl, K2⟩
    go_wp2_with fail
    go_ret
    exact ⟨by simp, hO.2.trans K2⟩
  · have hb : (er == 0) = false := by simpa using hz
    go_enter Tryd.func32, Tryd.ntmps32
    go_wp2_with fail
    refine HD.out.mono ?_
    rintro e w1 ⟨v1, rfl, hO⟩
    obtain ⟨a3, c3, rfl, hR⟩ := hO.rd
    go_wp2_with fail
    go_ret
    exact ⟨by simp [hz], hO.2⟩

/-- the first that hits -/
def firstHit (f : List S) : List S → S × Int
  | [] => (0#16, 4)
  | x :: xs => if hitS f x then (x, 0) else firstHit f xs
def rleastErr (l : List S) : S × Int := if rvalS l ≠ 0 then (0#16, rvalS l) else firstHit l (refSubs (supS l))
def RetE (r : S × Int) (e : Ending) : Prop := e = .returned (.tuple #[.int .u16 (sv r.1), .int .i64 r.2])
set_option maxHeartbeats 800000 in
theorem rLeast_any (a : Option Addr) (n c : Nat) (l : List S) (w : World) (h : Rd w a n c 1 (sl l)) :
    Calls Tryd.prog 37 #[.slice a n c] w fun e w' => RetE (rleastErr l) e ∧ Keeps w w' := by
  have hv := rValid_any a n c l w h
  have hsup := fun W (k : Keeps w W) => rSupport_any a n c l W (h.keep k)
  have hsub := fun W => rSubs_any (supS l) W
  unfold rleastErr
  generalize rvalS l = vl at *
  generalize supS l = s at *
  generalize refSubs s = m at *
  have HV := Lib.hid hv; have HSU := Lib.hid hsup; have HSB := Lib.hid hsub; clear hv hsup hsub
  by_cases hz : vl = 0
  · subst hz
    rw [if_neg (by simp)]
    go_enter Tryd.func37, Tryd.ntmps37
    go_wp2_with fail
    refine HV.out.mono ?_
    rintro e w0 ⟨rfl, K0⟩
    go_wp2_with fail
    refine (HSU.out _ K0).mono ?_
    rintro e w' ⟨rfl, rfl⟩
    go_wp2_with fail
    refine (HSB.out _).mono ?_
    rintro e w1 ⟨v1, rfl, hO⟩
    obtain ⟨a1, c1, rfl, hR⟩ := hO.rd
    have s1 := hR.small
    have K1 := K0.trans hO.2
    go_wp2_with fail
    go_loopw [6] (fun v wr => ∃ (k : Nat), k ≤ m.length ∧ v = .int .i64 k ∧ w1 = wr ∧ Hid (firstHit l m = firstHit l (m.drop k))) (fun v _ => m.length - (intOf v).toNat)
    case atStart => exact ⟨0, Nat.zero_le _, rfl, rfl, rfl⟩
    case round =>
      obtain ⟨k, hk, rfl, rfl, HI⟩ := hrel
      by_cases hlt : k < m.length
      · have hc := hR.at hlt
        have ha := hR.isSome (by omega)
        have hhit := rHits_any a n c l (at_ m k) w1 (h.keep K1)
        have hst := HI.out
        rw [drop_at m k hlt, firstHit] at hst
        cases hq : hitS l (at_ m k) with
        | true =>
          rw [hq] at hhit hst
          have HH := Lib.hid hhit
          have HST : Hid (firstHit l m = (at_ m k, 0)) := hst
          clear hhit hst hq HI
          go_wp2_with (go_at_call 18; refine HH.out.mono ?_; rintro e w2 ⟨rfl, rfl⟩)
          go_ret2
          exact ⟨by unfold RetE; rw [HST.out]; rfl, K1⟩
        | false =>
          rw [hq] at hhit hst
          have HH := Lib.hid hhit
          have HST : Hid (firstHit l m = firstHit l (m.drop (k + 1))) := hst
          clear hhit hst hq HI
          go_wp2_with (go_at_call 18; refine HH.out.mono ?_; rintro e w2 ⟨rfl, rfl⟩)
          go_roundw
          case rel => exact ⟨k + 1, by omega, by go_num, trivial, HST⟩
          case measure => simp [intOf]; omega
      · have HST : Hid (firstHit l m = (0#16, 4)) := by show _ = _; rw [HI.out, drop_all m k (by omega)]; rfl
        clear HI
        go_wp2
        go_ret2
        exact ⟨by unfold RetE; rw [HST.out]; rfl, K1⟩
  · rw [if_pos hz]
    have hb : (vl != 0) = true := by simpa using hz
    go_enter Tryd.func37, Tryd.ntmps37
    go_wp2_with fail
    refine HV.out.mono ?_
    rintro e w1 ⟨rfl, K1⟩
    go_wp2_with fail
    go_ret2
    exact ⟨rfl, K1⟩
end Go.Proofs.YteaehcaokcbehaaDoor
