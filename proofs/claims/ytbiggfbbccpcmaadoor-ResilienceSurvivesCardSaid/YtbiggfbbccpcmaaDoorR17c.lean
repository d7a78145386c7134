/- The reference of the layer resilience: Idle, Symmetric, Classes, After. -/
import Derived.Deep.RegionHeld3
import Derived.Test.YtbiggfbbccpcmaaDoorR17b
namespace Go.Proofs.YtbiggfbbccpcmaaDoor
open Go.RowKit Go.Lib Go.Shelf

def ridleErr (l : List S) (n : Int) : S × Int := if givenErr l n ≠ 0 then (0#16, givenErr l n) else (fullS n.toNat &&& ~~~supS (rminS l), 0)
theorem given_range {l : List S} {n : Int} (h : givenErr l n = 0) : rvalS l = 0 ∧ 0 ≤ n ∧ n ≤ 12 ∧ ¬ (2 : Int) ^ n.toNat ≤ sv (supS l) := by
  unfold givenErr at h
  by_cases hz : rvalS l = 0
  · rw [if_neg (by simpa using hz)] at h
    by_cases hn : n < 0 ∨ 12 < n
    · rw [if_pos hn] at h; exact absurd h (by decide)
    · rw [if_neg hn] at h
      by_cases hge : (2 : Int) ^ n.toNat ≤ sv (supS l)
      · rw [if_pos hge] at h; exact absurd h (by decide)
      · exact ⟨hz, by omega, by omega, hge⟩
  · rw [if_pos hz] at h; exact absurd h hz
theorem rIdle_any (a : Option Addr) (m c : Nat) (l : List S) (n : Int) (w : World) (h : Rd w a m c 1 (sl l)) :
    Calls Tryd.prog 28 #[.slice a m c, .int .i64 n] w fun e w' => RetE (ridleErr l n) e ∧ Keeps w w' := by
  have hg := given_any a m c l n w h
  have hm := fun W (k : Keeps w W) => rMinimal_any a m c l W (h.keep k)
  have hgr := fun he => given_range (l := l) (n := n) he
  unfold ridleErr
  generalize givenErr l n = er at *
  generalize rminS l = d at *
  have hs := fun W a c (hr : Rd W a d.length c 1 (sl d)) => rSupport_any a d.length c d W hr
  generalize supS d = sd at *
  have HG := Lib.hid hg; have HM := Lib.hid hm; have HS := Lib.hid hs
  clear hg hm hs h
  by_cases hz : er = 0
  · subst hz
    rw [if_neg (by simp)]
    obtain ⟨-, n0, n1, -⟩ := hgr rfl
    clear hgr
    obtain ⟨k, rfl⟩ : ∃ k : Nat, n = k := ⟨n.toNat, by omega⟩
    rw [Int.toNat_natCast]
    have hk : k ≤ 12 := by omega
    have hfd : fullS k = (1#16 <<< k) - 1#16 := rfl
    rw [hfd]
    clear hfd
    go_enter Tryd.func28, Tryd.ntmps28
    go_wp2_with fail
    refine HG.out.mono ?_
    rintro e w1 ⟨rfl, K1⟩
    go_wp2_with (go_region_held3 (fun _ => True) (exact trivial) ((first | (go_at_call 35; refine (HM.out _ (by first | exact K1 | exact K1.drew)).mono ?_; rintro e w2 ⟨v2, rfl, hO⟩; obtain ⟨a2, c2, rfl, hR⟩ := hO.rd) | (go_at_call 44; refine (HS.out _ _ _ hR).mono ?_; rintro e w3 ⟨rfl, rfl⟩))))
    all_goals go_wp2_with fail
    all_goals go_ret2
    all_goals exact ⟨rfl, K1.drew.trans hO.2⟩
  · rw [if_pos hz]
    have hb : (er != 0) = true := by simpa using hz
    clear hgr
    go_enter Tryd.func28, Tryd.ntmps28
    go_wp2_with fail
    refine HG.out.mono ?_
    rintro e w1 ⟨rfl, K1⟩
    go_wp2_with fail
    go_ret2
    exact ⟨rfl, K1⟩

/-- is the exchanged set in the list? -/
def fdR (y : S) : List S → Bool → Bool
  | [], b => b
  | x :: xs, b => fdR y xs (b || x == y)
theorem fdR_eq (y : S) : ∀ (l : List S) (b : Bool), fdR y l b = (b || l.contains y)
  | [], b => by simp [fdR]
  | x :: xs, b => by rw [fdR, fdR_eq y xs, contains_cons, Bool.or_assoc]
def rsyR (m : List S) (i k : Nat) : List S → Bool
  | [] => true
  | x :: xs => if fdR (rexS x i k) m false = true then rsyR m i k xs else false
def rsymS (l : List S) (i k : Int) : Bool := rvalS l == 0 && (decide (0 ≤ i) && (decide (i < 12) && (decide (0 ≤ k) && (decide (k < 12) && rsyR (rminS l) i.toNat k.toNat (rminS l)))))
set_option maxHeartbeats 1600000 in
theorem rSymmetric_any (a : Option Addr) (n c : Nat) (l : List S) (i k : Int) (w : World) (h : Rd w a n c 1 (sl l)) :
    Calls Tryd.prog 26 #[.slice a n c, .int .i64 i, .int .i64 k] w fun e w' => e = .returned (.bool (rsymS l i k)) ∧ Keeps w w' := by
  have hv := rValid_any a n c l w h
  have hm := fun W (k : Keeps w W) => rMinimal_any a n c l W (h.keep k)
  unfold rsymS
  generalize rvalS l = vl at *
  generalize rminS l = m at *
  have HV := Lib.hid hv; have HM := Lib.hid hm
  clear hv hm h
  by_cases hz : vl = 0
  · subst hz
    by_cases i0 : i < 0
    · have e0 : decide (i < 0) = true := by simpa using i0
      go_enter Tryd.func26, Tryd.ntmps26
      go_wp2_with fail
      refine HV.out.mono ?_
      rintro e w1 ⟨rfl, K1⟩
      go_wp2_with fail
      go_ret
      exact ⟨by simp; intros; omega, K1⟩
    · have e0 : decide (i < 0) = false := by simpa using i0
      by_cases i1 : 12 ≤ i
      · have e2 : decide (12 ≤ i) = true := by simpa using i1
        go_enter Tryd.func26, Tryd.ntmps26
        go_wp2_with fail
        refine HV.out.mono ?_
        rintro e w1 ⟨rfl, K1⟩
        go_wp2_with fail
        go_ret
        exact ⟨by simp; intros; omega, K1⟩
      · have e2 : decide (12 ≤ i) = false := by simpa using i1
        by_cases k0 : k < 0
        · have e3 : decide (k < 0) = true := by simpa using k0
          go_enter Tryd.func26, Tryd.ntmps26
          go_wp2_with fail
          refine HV.out.mono ?_
          rintro e w1 ⟨rfl, K1⟩
          go_wp2_with fail
          go_ret
          exact ⟨by simp; intros; omega, K1⟩
        · have e3 : decide (k < 0) = false := by simpa using k0
          by_cases k1 : 12 ≤ k
          · have e4 : decide (12 ≤ k) = true := by simpa using k1
            go_enter Tryd.func26, Tryd.ntmps26
            go_wp2_with fail
            refine HV.out.mono ?_
            rintro e w1 ⟨rfl, K1⟩
            go_wp2_with fail
            go_ret
            exact ⟨by simp; intros; omega, K1⟩
          · have e4 : decide (12 ≤ k) = false := by simpa using k1
            obtain ⟨i, rfl⟩ : ∃ j : Nat, i = j := ⟨i.toNat, by omega⟩
            obtain ⟨k, rfl⟩ : ∃ j : Nat, k = j := ⟨k.toNat, by omega⟩
            have r1 : decide ((0 : Int) ≤ (i : Int)) = true := by simp
            have r2 : decide ((i : Int) < 12) = true := by rw [decide_eq_true_eq]; omega
            have r3 : decide ((0 : Int) ≤ (k : Int)) = true := by simp
            have r4 : decide ((k : Int) < 12) = true := by rw [decide_eq_true_eq]; omega
            rw [r1, r2, r3, r4, Int.toNat_natCast, Int.toNat_natCast]
            have hi15 : i ≤ 15 := by omega
            have hk15 : k ≤ 15 := by omega
            have HEX := Lib.hid fun s W => rExchanged_any s i k W hi15 hk15
            clear r1 r2 r3 r4
            go_enter Tryd.func26, Tryd.ntmps26
            go_wp2_with fail
            refine HV.out.mono ?_
            rintro e w1 ⟨rfl, K1⟩
            go_wp2_with fail
            refine (HM.out _ K1).mono ?_
            rintro e w2 ⟨v2, rfl, hO⟩
            obtain ⟨a2, c2, rfl, hR⟩ := hO.rd
            have K2 := K1.trans hO.2
            have s1 := hR.small
            go_wp2_with fail
            go_loopw [8] (fun v wr => ∃ (x : Nat), x ≤ m.length ∧ v = .int .i64 x ∧ Keeps w2 wr ∧ Hid (rsyR m i k m = rsyR m i k (m.drop x))) (fun v _ => m.length - (intOf v).toNat)
            case atStart => exact ⟨0, Nat.zero_le _, rfl, Keeps.refl _, rfl⟩
            case round =>
              obtain ⟨x, hx, rfl, K3, HI⟩ := hrel
              by_cases hlt : x < m.length
              · have hst := HI.out
                rw [drop_at m x hlt, rsyR] at hst
                have HST := Lib.hid hst; clear hst HI
                obtain ⟨wo, rfl⟩ : ∃ wo : World, wo = wr := ⟨_, rfl⟩
                go_wp2_with fail
                go_loopw [9, 10] (fun u v wx => ∃ (y : Nat) (b : Bool), y ≤ m.length ∧ v = .int .i64 y ∧ u = .bool b ∧ Keeps wo wx ∧ Hid (fdR (rexS (at_ m x) i k) m false = fdR (rexS (at_ m x) i k) (m.drop y) b)) (fun _ v _ => m.length - (intOf v).toNat)
                case atStart => exact ⟨0, false, Nat.zero_le _, rfl, rfl, Keeps.refl _, rfl⟩
                case round =>
                  obtain ⟨y, b, hy, rfl, rfl, K4, HJ⟩ := hrel
                  by_cases hly : y < m.length
                  · have hcx := (hR.keep (K3.trans K4)).at hlt
                    have hcy := (hR.keep (K3.trans K4)).at hly
                    have hs := hR.isSome (by omega)
                    have hst := HJ.out
                    rw [drop_at m y hly, fdR] at hst
                    cases b with
                    | true =>
                      have HK : Hid (fdR (rexS (at_ m x) i k) m false = fdR (rexS (at_ m x) i k) (m.drop (y + 1)) true) := by show _ = _; rw [hst]; rfl
                      clear hst HJ
                      go_wp2_with (go_quiet (fail))
                      go_roundw
                      case rel => exact ⟨y + 1, true, by omega, by go_num, rfl, K4.drewN _, HK⟩
                      case measure => simp [intOf]; omega
                    | false =>
                      have HK : Hid (fdR (rexS (at_ m x) i k) m false = fdR (rexS (at_ m x) i k) (m.drop (y + 1)) (at_ m y == rexS (at_ m x) i k)) := by show _ = _; rw [hst, Bool.false_or]
                      have hex := HEX.out (at_ m x)
                      generalize rexS (at_ m x) i k = z at *
                      have HX := Lib.hid hex
                      clear hst HJ hex
                      go_wp2_with (go_quiet ((go_at_call 53; exact Calls.quiet_of (HX.out _))))
                      go_roundw
                      case rel => exact ⟨y + 1, _, by omega, by go_num, rfl, K4.drewN _, HK⟩
                      case measure => simp [intOf]; omega
                  · have hfd : fdR (rexS (at_ m x) i k) m false = b := by rw [HJ.out, drop_all m y (by omega)]; rfl
                    cases b with
                    | true =>
                      have HK : Hid (rsyR m i k m = rsyR m i k (m.drop (x + 1))) := by show _ = _; rw [HST.out, hfd]; rfl
                      clear HJ hfd HST
                      go_wp2_with fail
                      go_roundw
                      case rel => exact ⟨x + 1, by omega, by go_num, K3.trans K4, HK⟩
                      case measure => simp [intOf]; omega
                    | false =>
                      have HK : Hid (rsyR m i k m = false) := by show _ = _; rw [HST.out, hfd]; rfl
                      clear HJ hfd HST
                      go_wp2_with fail
                      go_ret
                      rw [HK.out]
                      exact ⟨rfl, (K2.trans K3).trans K4⟩
              · have HK : Hid (rsyR m i k m = true) := by show _ = _; rw [HI.out, drop_all m x (by omega)]; rfl
                clear HI
                go_wp2_with fail
                go_ret
                rw [HK.out]
                exact ⟨rfl, K2.trans K3⟩
  · have hb : (vl != 0) = true := by simpa using hz
    have hb2 : (vl == 0) = false := by simpa using hz
    rw [hb2]
    go_enter Tryd.func26, Tryd.ntmps26
    go_wp2_with fail
    refine HV.out.mono ?_
    rintro e w1 ⟨rfl, K1⟩
    go_wp2_with fail
    go_ret
    exact ⟨by simp, K1⟩
end Go.Proofs.YtbiggfbbccpcmaaDoor
