/- The reference of the layer resilience: Accepts, survived, Of, given, Idle, exchanged, Symmetric, Classes, After. -/
import Derived.Test.YtbiggfbbccpcmaaDoorP17c
namespace Go.Proofs.YtbiggfbbccpcmaaDoor
open Go.RowKit Go.Lib Go.Shelf

theorem rAcc8_any (a : Option Addr) (n c : Nat) (l : List S) (s : S) (w : World) (h : Rd w a n c 1 (sl l)) :
    Calls Tryd.prog 18 #[.slice a n c, .int .u16 (sv s)] w fun e w' => e = .returned (.bool (accS l s)) ∧ w = w' := by
  have L := Lib.hid h.lenS
  have s1 := h.small
  have HC := Lib.hid (fun x W => refContains_any s x W)
  go_enter Tryd.func18, Tryd.ntmps18
  go_wp2
  go_loopw [5] (fun v wr => ∃ (k : Nat), k ≤ n ∧ v = .int .i64 k ∧ w = wr ∧ Hid (accS l s = accS (l.drop k) s)) (fun v _ => n - (intOf v).toNat)
  case atStart => exact ⟨0, Nat.zero_le _, rfl, rfl, rfl⟩
  case round =>
    obtain ⟨k, hk, rfl, rfl, HI⟩ := hrel
    by_cases hlt : k < n
    · have hc := h.at hlt
      have hs := h.isSome (by omega)
      have hst := HI.out
      rw [dropH L hlt, accS_cons] at hst
      have hcon := HC.out (at_ l k) w
      cases hq : (at_ l k &&& ~~~s == 0#16) with
      | true =>
        rw [hq] at hcon
        have HJ : Hid (accS l s = true) := by show _ = _; rw [hst, hq]; rfl
        have HX := Lib.hid hcon
        clear hst HI hq hcon
        go_wp2_with (go_at_call 46; refine HX.out.mono ?_; rintro e w2 ⟨rfl, rfl⟩)
        go_ret
        rw [HJ.out]
        exact ⟨rfl, rfl⟩
      | false =>
        rw [hq] at hcon
        have HJ : Hid (accS l s = accS (l.drop (k + 1)) s) := by show _ = _; rw [hst, hq]; rfl
        have HX := Lib.hid hcon
        clear hst HI hq hcon
        go_wp2_with (go_at_call 46; refine HX.out.mono ?_; rintro e w2 ⟨rfl, rfl⟩)
        go_roundw
        case rel => exact ⟨k + 1, by omega, rfl, trivial, HJ⟩
        case measure => simp [intOf]; omega
    · have HJ : Hid (accS l s = false) := by show _ = _; rw [HI.out, dropN L hlt]; rfl
      clear HI
      go_wp2
      go_ret
      rw [HJ.out]
      exact ⟨rfl, rfl⟩

/-- the least number of failures that is not survived, less one -/
def survR (f : List S) (s : S) : List S → Int → Int
  | [], b => b
  | x :: xs, b => survR f s xs (if accS f (s &&& ~~~x) = false ∧ (cnt x : Int) - 1 < b then (cnt x : Int) - 1 else b)
def survS (f : List S) : Int := survR f (supS f) (refSubs (supS f)) (cnt (supS f))
theorem survived_any (a : Option Addr) (n c : Nat) (l : List S) (w : World) (h : Rd w a n c 1 (sl l)) :
    Calls Tryd.prog 39 #[.slice a n c] w fun e w' => e = .returned (.int .i64 (survS l)) ∧ Keeps w w' := by
  have hsup := rSupport_any a n c l w h
  have hsub := fun W => rSubs_any (supS l) W
  have hsz := fun x W => refSize_any x W
  have hcs := cnt_le (supS l)
  unfold survS
  generalize supS l = s at *
  generalize refSubs s = m at *
  have HSU := Lib.hid hsup; have HSB := Lib.hid hsub; have HSZ := Lib.hid hsz; clear hsup hsub hsz
  go_enter Tryd.func39, Tryd.ntmps39
  go_wp2_with fail
  refine HSU.out.mono ?_
  rintro e w' ⟨rfl, rfl⟩
  go_wp2_with fail
  refine (HSB.out _).mono ?_
  rintro e w1 ⟨v1, rfl, hO⟩
  obtain ⟨a1, c1, rfl, hR⟩ := hO.rd
  have s1 := hR.small
  go_wp2_with fail
  refine (HSZ.out _ _).mono ?_
  rintro e w' ⟨rfl, rfl⟩
  go_wp2_with fail
  go_loopw [5, 6] (fun u v wr => ∃ (k : Nat) (b : Int), k ≤ m.length ∧ v = .int .i64 k ∧ u = .int .i64 b ∧ -1 ≤ b ∧ b ≤ 16 ∧ w1 = wr ∧ Hid (survR l s m (cnt s) = survR l s (m.drop k) b)) (fun _ v _ => m.length - (intOf v).toNat)
  case atStart => exact ⟨0, _, Nat.zero_le _, rfl, rfl, by omega, by omega, rfl, rfl⟩
  case round =>
    obtain ⟨k, b, hk, rfl, rfl, hb0, hb1, rfl, HI⟩ := hrel
    by_cases hlt : k < m.length
    · have hc := hR.at hlt
      have hs := hR.isSome (by omega)
      have hst := HI.out
      rw [drop_at m k hlt, survR] at hst
      have hac := rAcc8_any a n c l (s &&& ~~~at_ m k) w1 (h.keep hO.2)
      have hcn := cnt_le (at_ m k)
      cases hq : accS l (s &&& ~~~at_ m k) with
      | true =>
        rw [hq] at hac
        have HJ : Hid (survR l s m (cnt s) = survR l s (m.drop (k + 1)) b) := by show _ = _; rw [hst, hq]; simp
        have HA := Lib.hid hac
        clear hst HI hq hac
        go_wp2_with fail
        refine HA.out.mono ?_
        rintro e w2 ⟨rfl, rfl⟩
        go_wp2_with fail
        go_roundw
        case rel => exact ⟨k + 1, b, by omega, rfl, rfl, hb0, hb1, trivial, HJ⟩
        case measure => simp [intOf]; omega
      | false =>
        rw [hq] at hac
        have HA := Lib.hid hac
        by_cases hlb : (cnt (at_ m k) : Int) - 1 < b
        · have HJ : Hid (survR l s m (cnt s) = survR l s (m.drop (k + 1)) ((cnt (at_ m k) : Int) - 1)) := by show _ = _; rw [hst, hq, if_pos ⟨rfl, hlb⟩]
          have hd : decide ((cnt (at_ m k) : Int) - 1 < b) = true := by simpa using hlb
          clear hst HI hq hac
          go_wp2_with fail
          refine HA.out.mono ?_
          rintro e w2 ⟨rfl, rfl⟩
          go_wp2_with fail
          refine (HSZ.out _ _).mono ?_
          rintro e w2 ⟨rfl, rfl⟩
          go_wp2_with fail
          refine (HSZ.out _ _).mono ?_
          rintro e w2 ⟨rfl, rfl⟩
          go_wp2_with fail
          go_roundw
          case rel => exact ⟨k + 1, _, by omega, rfl, rfl, by omega, by omega, trivial, HJ⟩
          case measure => simp [intOf]; omega
        · have HJ : Hid (survR l s m (cnt s) = survR l s (m.drop (k + 1)) b) := by show _ = _; rw [hst, hq, if_neg (fun e => hlb e.2)]
          have hd : decide ((cnt (at_ m k) : Int) - 1 < b) = false := by simpa using hlb
          clear hst HI hq hac
          go_wp2_with fail
          refine HA.out.mono ?_
          rintro e w2 ⟨rfl, rfl⟩
          go_wp2_with fail
          refine (HSZ.out _ _).mono ?_
          rintro e w2 ⟨rfl, rfl⟩
          go_wp2_with fail
          go_roundw
          case rel => exact ⟨k + 1, b, by omega, rfl, rfl, hb0, hb1, trivial, HJ⟩
          case measure => simp [intOf]; omega
    · have HJ : Hid (survR l s m (cnt s) = b) := by show _ = _; rw [HI.out, drop_all m k (by omega)]; rfl
      clear HI
      go_wp2_with fail
      go_ret
      rw [HJ.out]
      exact ⟨rfl, hO.2⟩

def rofErr (l : List S) : Int × Int := if rvalS l ≠ 0 then (0, rvalS l) else if l.length = 0 then (0, 9) else if at_ l 0 = 0#16 then (0, 4) else (survS l, 0)
theorem rOf_any (a : Option Addr) (n c : Nat) (l : List S) (w : World) (h : Rd w a n c 1 (sl l)) :
    Calls Tryd.prog 14 #[.slice a n c] w fun e w' => RetI (rofErr l) e ∧ Keeps w w' := by
  have hv := rValid_any a n c l w h
  have hs := fun W (k : Keeps w W) => survived_any a n c l W (h.keep k)
  have L := h.lenS
  have hcell := fun W (k : Keeps w W) (h0 : 0 < n) => (h.keep k).at h0
  have hsome := fun (h0 : 0 < n) => h.isSome h0
  unfold rofErr
  rw [L]
  generalize rvalS l = vl at *
  generalize survS l = sv0 at *
  generalize at_ l 0 = x at *
  have HV := Lib.hid hv; have HS := Lib.hid hs
  clear hv hs h L
  by_cases hz : vl = 0
  · subst hz
    rw [if_neg (by simp)]
    by_cases h0 : n = 0
    · subst h0
      rw [if_pos rfl]
      clear hcell hsome
      go_enter Tryd.func14, Tryd.ntmps14
      go_wp2_with fail
      refine HV.out.mono ?_
      rintro e w1 ⟨rfl, K1⟩
      go_wp2_with fail
      go_ret2
      exact ⟨rfl, K1⟩
    · rw [if_neg h0]
      have h0b : ((n : Int) == 0) = false := by rw [beq_eq_false_iff_ne]; omega
      have h0p : 0 < n := by omega
      have hsm := hsome h0p
      have HCE := Lib.hid fun W k => hcell W k h0p
      clear hcell hsome
      by_cases hx : x = 0#16
      · rw [if_pos hx]
        have hxb : (x == 0#16) = true := by simpa using hx
        clear hx
        go_enter Tryd.func14, Tryd.ntmps14
        go_wp2_with fail
        refine HV.out.mono ?_
        rintro e w1 ⟨rfl, K1⟩
        have hc := HCE.out _ K1
        go_wp2_with fail
        go_ret2
        exact ⟨rfl, K1⟩
      · rw [if_neg hx]
        have hxb : (x == 0#16) = false := by simpa using hx
        clear hx
        go_enter Tryd.func14, Tryd.ntmps14
        go_wp2_with fail
        refine HV.out.mono ?_
        rintro e w1 ⟨rfl, K1⟩
        have hc := HCE.out _ K1
        go_wp2_with fail
        refine (HS.out _ K1).mono ?_
        rintro e w2 ⟨rfl, K2⟩
        go_wp2_with fail
        go_ret2
        exact ⟨rfl, K1.trans K2⟩
  · rw [if_pos hz]
    have hb : (vl != 0) = true := by simpa using hz
    clear hcell hsome
    go_enter Tryd.func14, Tryd.ntmps14
    go_wp2_with fail
    refine HV.out.mono ?_
    rintro e w1 ⟨rfl, K1⟩
    go_wp2_with fail
    go_ret2
    exact ⟨rfl, K1⟩
end Go.Proofs.YtbiggfbbccpcmaaDoor
