/- The reference of the layer resilience: Classes, After, Worst. -/
import Derived.Test.YtbiggfbbccpcmaaDoorR17c
namespace Go.Proofs.YtbiggfbbccpcmaaDoor
open Go.RowKit Go.Lib Go.Shelf

/-- the class of i, and whether i is the first in it -/
def rclIn (l : List S) (i : Nat) : Nat → Nat → Bool → S → Bool × S
  | 0, _, f, c => (f, c)
  | q + 1, k, f, c => if rsymS l i k = true then rclIn l i q (k + 1) (f && decide (i ≤ k)) (c ||| (1#16 <<< k)) else rclIn l i q (k + 1) f c
def rclR (l : List S) (n : Nat) : Nat → Nat → List S → List S
  | 0, _, out => out
  | q + 1, i, out => rclR l n q (i + 1) (if (rclIn l i n 0 true 0#16).1 = true then out ++ [(rclIn l i n 0 true 0#16).2] else out)
def rclsErr (l : List S) (n : Int) : List S × Int := if givenErr l n ≠ 0 then ([], givenErr l n) else (rclR l n.toNat n.toNat 0 [], 0)
set_option maxHeartbeats 1600000 in
theorem rClasses_any (a : Option Addr) (m c : Nat) (l : List S) (n : Int) (w : World) (h : Rd w a m c 1 (sl l)) :
    Calls Tryd.prog 24 #[.slice a m c, .int .i64 n] w fun e w' => RetS w (rclsErr l n) e w' := by
  have hg := given_any a m c l n w h
  have hgr := fun he => given_range (l := l) (n := n) he
  have hsy := fun i k W (K : Keeps w W) => rSymmetric_any a m c l i k W (h.keep K)
  unfold rclsErr
  generalize givenErr l n = er at *
  have HG := Lib.hid hg; have HS := Lib.hid hsy
  clear hg hsy h
  by_cases hz : er = 0
  · subst hz
    rw [if_neg (by simp)]
    obtain ⟨-, n0, n1, -⟩ := hgr rfl
    clear hgr
    obtain ⟨n, rfl⟩ : ∃ k : Nat, n = k := ⟨n.toNat, by omega⟩
    rw [Int.toNat_natCast]
    have n2 : n ≤ 12 := by omega
    go_enter Tryd.func24, Tryd.ntmps24
    go_wp2_with fail
    refine HG.out.mono ?_
    rintro e w1 ⟨rfl, K1⟩
    go_wp2_with fail
    go_loopw [7, 8] (fun u v wr => ∃ (i : Nat) (out : List S), i ≤ n ∧ v = .int .i64 i ∧ out.length ≤ i ∧ Own 31 1 w1 wr u out.length (sl out) ∧ Hid (rclR l n n 0 [] = rclR l n (n - i) i out)) (fun _ v _ => n - (intOf v).toNat)
    case atStart => exact ⟨0, [], Nat.zero_le _, rfl, Nat.zero_le _, Own.nil _ _ (Keeps.refl _), rfl⟩
    case round =>
      obtain ⟨i, out, hi, rfl, hol, hB, HI⟩ := hrel
      by_cases hlt : i < n
      · have hst := HI.out
        rw [show n - i = (n - (i + 1)) + 1 by omega, rclR] at hst
        have HST := Lib.hid hst; clear hst HI
        obtain ⟨wo, rfl⟩ : ∃ wo : World, wo = wr := ⟨_, rfl⟩
        go_wp2_with fail
        go_loopw [9, 10, 11] (fun f cl v wx => ∃ (k : Nat) (b : Bool) (acc : S), k ≤ n ∧ v = .int .i64 k ∧ f = .bool b ∧ cl = .int .u16 (sv acc) ∧ Keeps wo wx ∧ Hid (rclIn l i n 0 true 0#16 = rclIn l i (n - k) k b acc)) (fun _ _ v _ => n - (intOf v).toNat)
        case atStart => exact ⟨0, true, 0#16, Nat.zero_le _, rfl, rfl, rfl, Keeps.refl _, rfl⟩
        case round =>
          obtain ⟨k, b, acc, hk, rfl, rfl, rfl, K3, HK⟩ := hrel
          by_cases hkn : k < n
          · have hst := HK.out
            rw [show n - k = (n - (k + 1)) + 1 by omega, rclIn] at hst
            have hcall := HS.out i k wr ((K1.trans hB.2).trans K3)
            cases hq : rsymS l i k with
            | true =>
              rw [hq] at hcall hst
              have HCALL := Lib.hid hcall
              cases b with
              | true =>
                have HST2 : Hid (rclIn l i n 0 true 0#16 = rclIn l i (n - (k + 1)) (k + 1) (decide (i ≤ k)) (acc ||| (1#16 <<< k))) := by show _ = _; rw [hst]; simp
                clear hst hcall hq HK
                have hdi : decide ((i : Int) ≤ (k : Int)) = decide (i ≤ k) := by rw [decide_eq_decide]; omega
                go_wp2_with fail
                refine HCALL.out.mono ?_
                rintro e w5 ⟨rfl, K5⟩
                go_wp2_with fail
                go_roundw
                case rel => exact ⟨k + 1, decide (i ≤ k), acc ||| (1#16 <<< k), by omega, by go_num, by first | rfl | rw [← hdi] | simp, rfl, K3.trans K5, HST2⟩
                case measure => simp [intOf]; omega
              | false =>
                have HST2 : Hid (rclIn l i n 0 true 0#16 = rclIn l i (n - (k + 1)) (k + 1) false (acc ||| (1#16 <<< k))) := by show _ = _; rw [hst]; simp
                clear hst hcall hq HK
                go_wp2_with fail
                refine HCALL.out.mono ?_
                rintro e w5 ⟨rfl, K5⟩
                go_wp2_with fail
                go_roundw
                case rel => exact ⟨k + 1, false, acc ||| (1#16 <<< k), by omega, by go_num, rfl, rfl, K3.trans K5, HST2⟩
                case measure => simp [intOf]; omega
            | false =>
              rw [hq] at hcall hst
              have HCALL := Lib.hid hcall
              have HST2 : Hid (rclIn l i n 0 true 0#16 = rclIn l i (n - (k + 1)) (k + 1) b acc) := by show _ = _; rw [hst]; simp
              clear hst hcall hq HK
              go_wp2_with fail
              refine HCALL.out.mono ?_
              rintro e w5 ⟨rfl, K5⟩
              go_wp2_with fail
              go_roundw
              case rel => exact ⟨k + 1, b, acc, by omega, by go_num, rfl, rfl, K3.trans K5, HST2⟩
              case measure => simp [intOf]; omega
          · have hkk : k = n := by omega
            have hcl : rclIn l i n 0 true 0#16 = (b, acc) := by rw [HK.out, hkk, Nat.sub_self]; rfl
            have hB2 := hB.keep K3
            have hst := HST.out
            rw [hcl] at hst
            cases b with
            | true =>
              have HST2 : Hid (rclR l n n 0 [] = rclR l n (n - (i + 1)) (i + 1) (out ++ [acc])) := by show _ = _; rw [hst]; simp
              clear HK HST hcl hkk hst
              go_wp2_with (at_builtin; refine wp_app tyS rfl _ _ rfl (hB2.alloc _) rfl rfl (rd_new _ 1 _ [.int .u16 (sv acc)] 1 (by decide) rfl) (sl_oneCell [acc]) (by omega) ?_)
              intro v' w5 hO5 _
              go_wp2_with fail
              go_roundw
              case rel => exact ⟨i + 1, out ++ [acc], by omega, by go_num, by simp; omega, hO5.snoc, HST2⟩
              case measure => simp [intOf]; omega
            | false =>
              have HST2 : Hid (rclR l n n 0 [] = rclR l n (n - (i + 1)) (i + 1) out) := by show _ = _; rw [hst]; simp
              clear HK HST hcl hkk hst
              go_wp2_with fail
              go_roundw
              case rel => exact ⟨i + 1, out, by omega, by go_num, by omega, hB2, HST2⟩
              case measure => simp [intOf]; omega
      · have HST : Hid (rclR l n n 0 [] = out) := by show _ = _; rw [HI.out, show n - i = 0 by omega]; rfl
        clear HI
        go_wp2_with fail
        go_ret2
        exact ⟨_, rfl, by rw [HST.out]; exact hB.since K1⟩
  · rw [if_pos hz]
    have hb : (er != 0) = true := by simpa using hz
    clear hgr
    go_enter Tryd.func24, Tryd.ntmps24
    go_wp2_with fail
    refine HG.out.mono ?_
    rintro e w1 ⟨rfl, K1⟩
    go_wp2_with fail
    go_ret2
    exact ⟨_, rfl, Own.nil _ _ K1⟩

def rafterErr (l : List S) (fs : S) : Int × Int := if rvalS l ≠ 0 then (0, rvalS l) else if l.length = 0 then (0, 9) else if (leftS l fs).length = 0 then (-1, 0) else rofErr (leftS l fs)
theorem leftS_snoc (l : List S) (fs : S) (k : Nat) (h : k < l.length) : leftS (l.take (k + 1)) fs = leftS (l.take k) fs ++ (if at_ l k &&& fs == 0#16 then [at_ l k] else []) := by
  unfold leftS; rw [take_at l k h, List.filter_append]; simp [List.filter_cons]
set_option maxHeartbeats 800000 in
theorem rAfter_any (a : Option Addr) (n c : Nat) (l : List S) (fs : S) (w : World) (h : Rd w a n c 1 (sl l)) (hn : n ≤ 1000000) :
    Calls Tryd.prog 32 #[.slice a n c, .int .u16 (sv fs)] w fun e w' => RetI (rafterErr l fs) e ∧ Keeps w w' := by
  have hv := rValid_any a n c l w h
  have hof := fun W a c (hr : Rd W a (leftS l fs).length c 1 (sl (leftS l fs))) => rOf_any a _ c (leftS l fs) W hr
  have L := h.lenS
  have LN := Lib.hid L
  have hw : rafterErr l fs = if rvalS l ≠ 0 then (0, rvalS l) else if l.length = 0 then (0, 9) else if (leftS l fs).length = 0 then (-1, 0) else rofErr (leftS l fs) := rfl
  rw [L] at hw
  generalize rvalS l = vl at *
  have HW := Lib.hid hw; clear hw
  have HV := Lib.hid hv; have HO := Lib.hid hof; have H := Lib.hid h
  have s1 := h.small
  clear hv hof h L
  by_cases hz : vl = 0
  · subst hz
    by_cases h0 : n = 0
    · subst h0
      have HR : Hid (rafterErr l fs = (0, 9)) := by show _ = _; rw [HW.out, if_neg (by simp), if_pos rfl]
      go_enter Tryd.func32, Tryd.ntmps32
      go_wp2_with fail
      refine HV.out.mono ?_
      rintro e w1 ⟨rfl, K1⟩
      go_wp2_with fail
      go_ret2
      exact ⟨by unfold RetI; rw [HR.out]; rfl, K1⟩
    · have h0b : ((n : Int) == 0) = false := by rw [beq_eq_false_iff_ne]; omega
      go_enter Tryd.func32, Tryd.ntmps32
      go_wp2_with fail
      refine HV.out.mono ?_
      rintro e w1 ⟨rfl, K1⟩
      go_wp2_with fail
      go_loopw [7, 8] (fun u v wr => ∃ k : Nat, k ≤ n ∧ v = .int .i64 k ∧ Own 31 1 w1 wr u (leftS (l.take k) fs).length (sl (leftS (l.take k) fs))) (fun _ v _ => n - (intOf v).toNat)
      case atStart => exact ⟨0, Nat.zero_le _, rfl, Own.nil _ _ (Keeps.refl _)⟩
      case round =>
        obtain ⟨k, hk, rfl, hA⟩ := hrel
        by_cases hlt : k < n
        · have hc := (H.out.keep (K1.trans hA.2)).at hlt
          have hs := H.out.isSome (by omega)
          have hst := leftS_snoc l fs k (by have := LN.out; omega)
          have hle : (leftS (l.take k) fs).length ≤ k := Nat.le_trans (List.length_filter_le _ _) (by simp; omega)
          generalize leftS (l.take k) fs = acc at *
          cases hq : (at_ l k &&& fs == 0#16) with
          | true =>
            have HST : Hid (leftS (l.take (k + 1)) fs = acc ++ [at_ l k]) := by show _ = _; rw [hst, hq]; simp
            clear hst
            go_wp2_with (at_builtin; refine wp_app tyS rfl _ _ rfl (hA.alloc _) rfl rfl (rd_new _ 1 _ [.int .u16 (sv (at_ l k))] 1 (by decide) rfl) (sl_oneCell [at_ l k]) (by omega) ?_)
            intro v' w5 hO5 _
            go_wp2_with fail
            go_roundw
            case rel => exact ⟨k + 1, by omega, by go_num, by rw [HST.out]; exact hO5.snoc⟩
            case measure => simp [intOf]; omega
          | false =>
            have HST : Hid (leftS (l.take (k + 1)) fs = acc) := by show _ = _; rw [hst, hq]; simp
            clear hst
            go_wp2_with fail
            go_roundw
            case rel => exact ⟨k + 1, by omega, by go_num, by rw [HST.out]; exact hA⟩
            case measure => simp [intOf]; omega
        · have hall : l.take k = l := List.take_of_length_le (by have := LN.out; omega)
          rw [hall] at hA
          have hw := HW.out
          rw [if_neg (by simp), if_neg h0] at hw
          generalize leftS l fs = lf at *
          generalize rofErr lf = r at *
          obtain ⟨x, z⟩ := r
          have hof := HO.out
          unfold RetI at hof
          simp only at hof
          have HO2 := Lib.hid hof
          obtain ⟨a3, c3, rfl, hR⟩ := hA.rd
          have hR2 := Lib.hid hR
          clear hall hof
          by_cases hlf : lf.length = 0
          · rw [if_pos hlf] at hw
            have HR := Lib.hid hw
            have hlb : ((lf.length : Int) == 0) = true := by rw [hlf]; rfl
            clear hlf hw
            go_wp2_with fail
            go_ret2
            exact ⟨by unfold RetI; rw [HR.out]; rfl, K1.trans hA.2⟩
          · rw [if_neg hlf] at hw
            have HR := Lib.hid hw
            have hlb : ((lf.length : Int) == 0) = false := by rw [beq_eq_false_iff_ne]; omega
            clear hlf hw
            go_wp2_with fail
            refine (HO2.out _ _ _ hR2.out).mono ?_
            rintro e w4 ⟨rfl, K4⟩
            go_wp2_with fail
            go_ret2
            exact ⟨by unfold RetI; rw [HR.out]; rfl, (K1.trans hA.2).trans K4⟩
  · have HR : Hid (rafterErr l fs = (0, vl)) := by show rafterErr l fs = _; rw [HW.out, if_pos hz]
    have hb : (vl != 0) = true := by simpa using hz
    go_enter Tryd.func32, Tryd.ntmps32
    go_wp2_with fail
    refine HV.out.mono ?_
    rintro e w1 ⟨rfl, K1⟩
    go_wp2_with fail
    go_ret2
    exact ⟨by unfold RetI; rw [HR.out]; rfl, K1⟩
end Go.Proofs.YtbiggfbbccpcmaaDoor
