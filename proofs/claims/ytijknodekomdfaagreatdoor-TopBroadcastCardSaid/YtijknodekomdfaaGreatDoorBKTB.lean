/- Texts joined into one, what is needed of them (a program of ours). -/
import Derived.Test.YtijknodekomdfaaGreatDoorBKTA
import Derived.Test.YtijknodekomdfaaGreatDoorBKU
import Derived.Test.YtijknodekomdfaaGreatDoorBKH
namespace Go.Proofs.YtijknodekomdfaaGreatDoor
open Go.RowKit Go.Lib

end Go.Proofs.YtijknodekomdfaaGreatDoor
namespace Go.Proofs.YtijknodekomdfaaGreatDoor
open Go.RowKit Go.Lib Go.Shelf

def idxOf (s : S) : List S → Nat → Int
  | [], _ => -1
  | x :: xs, k => if s == x then (k : Int) else idxOf s xs (k + 1)
theorem idxOf_mem (s : S) (l : List S) (k : Nat) : decide (0 ≤ idxOf s l k) = l.contains s := by
  induction l generalizing k with
  | nil => simp [idxOf]
  | cons x xs ih =>
    unfold idxOf
    by_cases h : s = x
    · simp [h]
    · have := ih (k + 1)
      simp only [List.contains_eq_mem] at this ⊢
      simp [h, this]

theorem index_any (a : Option Addr) (n c : Nat) (l : List S) (s : S) (w : World) (h : Rd w a n c 1 (sl l)) :
    Calls Tryz.prog 115 #[.slice a n c, .int .u16 (sv s)] w fun e w' => e = .returned (.int .i64 (idxOf s l 0)) ∧ w = w' := by
  have L := Lib.hid h.lenS
  have s1 := h.small
  go_enter Tryz.func115, Tryz.ntmps115
  go_wp2
  go_loopw [8] (fun v wr => ∃ (k : Nat), k ≤ n ∧ v = .int .i64 k ∧ w = wr ∧ Hid (idxOf s l 0 = idxOf s (l.drop k) k)) (fun v _ => n - (intOf v).toNat)
  case atStart => exact ⟨0, Nat.zero_le _, rfl, rfl, rfl⟩
  case round =>
    obtain ⟨k, hk, rfl, rfl, HI⟩ := hrel
    by_cases hlt : k < n
    · have hc := h.at hlt
      have hs := h.isSome (by omega)
      have hst := HI.out
      rw [dropH L hlt] at hst
      by_cases hxy : (s == at_ l k) = true
      · have HJ : Hid (idxOf s l 0 = k) := by show _ = _; rw [hst]; unfold idxOf; rw [if_pos hxy]
        clear hst HI
        go_wp2
        go_ret
        rw [HJ.out]
        exact ⟨rfl, rfl⟩
      · have HJ : Hid (idxOf s l 0 = idxOf s (l.drop (k + 1)) (k + 1)) := by
          show _ = _; rw [hst]; conv => lhs; unfold idxOf
          rw [if_neg hxy]
        have hxy' : (s == at_ l k) = false := by simpa using hxy
        clear hst HI hxy
        go_wp2
        go_roundw
        case rel => exact ⟨k + 1, by omega, rfl, trivial, HJ⟩
        case measure => simp [intOf]; omega
    · have HJ : Hid (idxOf s l 0 = -1) := by show _ = _; rw [HI.out, dropN L hlt]; rfl
      clear HI
      go_wp2
      go_ret
      rw [HJ.out]
      exact ⟨rfl, rfl⟩

theorem contains_s_any (a : Option Addr) (n c : Nat) (l : List S) (s : S) (w : World) (h : Rd w a n c 1 (sl l)) :
    Calls Tryz.prog 78 #[.slice a n c, .int .u16 (sv s)] w fun e w' => e = .returned (.bool (l.contains s)) ∧ w = w' := by
  have hi := index_any a n c l s w h
  have hm := idxOf_mem s l 0
  generalize idxOf s l 0 = i at *
  generalize l.contains s = b at *
  subst hm
  have HI := Lib.hid hi; clear hi h
  go_enter Tryz.func78, Tryz.ntmps78
  go_wp2_with (go_at_call 115; refine HI.out.mono ?_; rintro e w' ⟨rfl, rfl⟩)
  go_ret
  exact ⟨rfl, rfl⟩
end Go.Proofs.YtijknodekomdfaaGreatDoor
namespace Go.Proofs.YtijknodekomdfaaGreatDoor
open Go.RowKit Go.Lib Go.Shelf

def outS (s : S) : Bool := s &&& 61440#16 != 0#16
def minimalS (l : List S) : List S × Int := if l.any outS then ([], 7) else limS (leastP l)

theorem outPred (l : List S) (w : World) : PredK Tryz.prog 182 #[] vs outS l w := fun W x _ _ => by
  show Calls Tryz.prog 182 #[.int .u16 (sv x)] W _
  go_enter Tryz.func182, Tryz.ntmps182
  go_wp2
  go_ret
  exact ⟨rfl, Keeps.refl _⟩

set_option maxHeartbeats 400000 in
theorem chosenLeast_any (a : Option Addr) (n c : Nat) (l : List S) (w : World) (h : Rd w a n c 1 (sl l)) (hn : n ≤ 1000000) :
    Calls Tryz.prog 111 #[.slice a n c, .func (.func 112) #[] #[]] w fun e w' => RetS w (minimalS l) e w' := by
  have eg : ∀ args w, (callFunc 182 args).run Tryz.prog w = .ok (.enter 182 args) w := enters_of Tryz.func182 (by kernel_rfl) rfl
  have eL : ∀ args w, (callFunc 112 args).run Tryz.prog w = .ok (.enter 112 args) w := enters_of Tryz.func112 (by kernel_rfl) rfl
  have h1 := containsFuncS_any a n c l w 182 #[] outS h eg (outPred l w)
  have h2 := fun W (K : Keeps w W) => least_any a n c l W (h.keep K) hn
  have h3 := fun W v (hO : Own 31 1 w W v (leastP l).length (sl (leastP l))) => limited_any v (leastP l) w W hO
  unfold minimalS
  clear eg h
  cases hq : l.any outS with
  | true =>
    rw [hq] at h1
    rw [if_pos rfl]
    have H1 := Lib.hid h1; clear h1 h2 h3 hq
    go_enter Tryz.func111, Tryz.ntmps111
    go_wp2_with (go_at_call 46; refine H1.out.mono ?_; rintro e w1 ⟨rfl, K1⟩)
    go_ret2
    exact ⟨_, rfl, Own.nil _ _ K1⟩
  | false =>
    rw [hq] at h1
    rw [if_neg (by simp)]
    generalize leastP l = m at h2 h3 ⊢
    generalize hlm : limS m = r at h3 ⊢
    obtain ⟨rl, re⟩ := r
    have H1 := Lib.hid h1; have H2 := Lib.hid h2; have H3 := Lib.hid h3; clear h1 h2 h3 hq hlm
    go_enter Tryz.func111, Tryz.ntmps111
    go_wp2_with fail
    refine H1.out.mono ?_
    rintro e w1 ⟨rfl, K1⟩
    go_wp2_with fail
    refine (H2.out _ K1).mono ?_
    rintro e w2 ⟨v2, rfl, hO2⟩
    go_wp2_with fail
    refine (H3.out _ _ (hO2.since K1)).mono ?_
    rintro e w3 ⟨v3, rfl, hO3⟩
    go_wp2_with fail
    go_ret2
    exact ⟨_, rfl, hO3⟩

theorem minimal_any (a : Option Addr) (n c : Nat) (l : List S) (w : World) (h : Rd w a n c 1 (sl l)) (hn : n ≤ 1000000) :
    Calls Tryz.prog 48 #[.slice a n c] w fun e w' => RetS w (minimalS l) e w' := by
  have h1 := chosenLeast_any a n c l w h hn
  generalize minimalS l = r at h1 ⊢
  obtain ⟨rl, re⟩ := r
  have H1 := Lib.hid h1; clear h1 h
  go_enter Tryz.func48, Tryz.ntmps48
  go_wp2_with fail
  refine H1.out.mono ?_
  rintro e w1 ⟨v, rfl, hO⟩
  go_wp2_with fail
  go_ret2
  exact ⟨_, rfl, hO⟩

end Go.Proofs.YtijknodekomdfaaGreatDoor
namespace Go.Proofs.YtijknodekomdfaaGreatDoor
open Go.RowKit Go.Lib Go.Shelf

end Go.Proofs.YtijknodekomdfaaGreatDoor
namespace Go.Proofs.YtijknodekomdfaaGreatDoor
open Go.RowKit Go.Lib Go.Shelf

/-- the first disjoint pair -/
def disIn (x : S) : List S → Option S
  | [] => none
  | y :: ys => if x &&& y == 0#16 then some y else disIn x ys
def disR : List S → List S → S × S × Int
  | [], _ => (0#16, 0#16, 13)
  | x :: xs, g => match disIn x g with
    | some y => (x, y, 0)
    | none => disR xs g
end Go.Proofs.YtijknodekomdfaaGreatDoor
namespace Go.Proofs.YtijknodekomdfaaGreatDoor
open Go.RowKit Go.Lib Go.Shelf

end Go.Proofs.YtijknodekomdfaaGreatDoor
namespace Go.Proofs.YtijknodekomdfaaGreatDoor
open Go.RowKit Go.Lib Go.Shelf

/-- a pair and an error number come back -/
def RetP (r : S × S × Int) (e : Ending) : Prop := e = .returned (.tuple #[.int .u16 (sv r.1), .int .u16 (sv r.2.1), .int .i64 r.2.2])
set_option maxHeartbeats 800000 in
theorem disjoint_any (a : Option Addr) (n c : Nat) (l : List S) (a2 : Option Addr) (n2 c2 : Nat) (g : List S) (w : World) (h : Rd w a n c 1 (sl l)) (h2 : Rd w a2 n2 c2 1 (sl g)) :
    Calls Tryz.prog 148 #[.slice a n c, .slice a2 n2 c2] w fun e w' => RetP (disR l g) e ∧ w = w' := by
  have L := Lib.hid h.lenS
  have L2 := Lib.hid h2.lenS
  have s1 := h.small
  have s2 := h2.small
  go_enter Tryz.func148, Tryz.ntmps148
  go_wp2
  go_loopw [13] (fun v wr => ∃ (k : Nat), k ≤ n ∧ v = .int .i64 k ∧ w = wr ∧ Hid (disR l g = disR (l.drop k) g)) (fun v _ => n - (intOf v).toNat)
  case atStart => exact ⟨0, Nat.zero_le _, rfl, rfl, rfl⟩
  case round =>
    obtain ⟨k, hk, rfl, rfl, HI⟩ := hrel
    by_cases hlt : k < n
    · have hc := h.at hlt
      have hs := h.isSome (by omega)
      have hst := HI.out
      rw [dropH L hlt] at hst
      have HST := Lib.hid hst; clear hst HI
      go_wp2
      go_loopw [19] (fun v wr => ∃ (i : Nat), i ≤ n2 ∧ v = .int .i64 i ∧ w = wr ∧ Hid (disIn (at_ l k) g = disIn (at_ l k) (g.drop i))) (fun v _ => n2 - (intOf v).toNat)
      case atStart => exact ⟨0, Nat.zero_le _, rfl, rfl, rfl⟩
      case round =>
        obtain ⟨i, hi, rfl, rfl, HJ⟩ := hrel
        by_cases hlt2 : i < n2
        · have hc2 := h2.at hlt2
          have hs2 := h2.isSome (by omega)
          have hst2 := HJ.out
          rw [dropH L2 hlt2, disIn] at hst2
          cases hq : (at_ l k &&& at_ g i == 0#16) with
          | true =>
            have HV : Hid (disR l g = (at_ l k, at_ g i, 0)) := by show _ = _; rw [HST.out, disR, hst2, hq]; rfl
            clear hst2 HJ HST
            go_wp2
            go_ret3
            exact ⟨by unfold RetP; rw [HV.out]; try rfl, rfl⟩
          | false =>
            have HJ2 : Hid (disIn (at_ l k) g = disIn (at_ l k) (g.drop (i + 1))) := by show _ = _; rw [hst2, hq]; rfl
            clear hst2 HJ
            go_wp2
            go_roundw
            case rel => exact ⟨i + 1, by omega, rfl, trivial, HJ2⟩
            case measure => simp [intOf]; omega
        · have HJ2 : Hid (disR l g = disR (l.drop (k + 1)) g) := by
            show _ = _; rw [HST.out, disR]
            have : disIn (at_ l k) g = none := by rw [HJ.out, dropN L2 hlt2]; rfl
            rw [this]
          clear HJ HST
          go_wp2
          go_roundw
          case rel => exact ⟨k + 1, by omega, rfl, trivial, HJ2⟩
          case measure => simp [intOf]; omega
    · have HV : Hid (disR l g = (0#16, 0#16, 13)) := by show _ = _; rw [HI.out, dropN L hlt]; rfl
      clear HI
      go_wp2
      go_ret3
      exact ⟨by unfold RetP; rw [HV.out]; try rfl, rfl⟩

end Go.Proofs.YtijknodekomdfaaGreatDoor
