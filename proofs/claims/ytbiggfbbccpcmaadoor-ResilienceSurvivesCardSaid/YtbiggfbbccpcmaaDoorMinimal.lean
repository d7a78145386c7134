/- family.Minimal. -/
import Derived.Test.YtbiggfbbccpcmaaDoorFam
namespace Go.Proofs.YtbiggfbbccpcmaaDoor
open Go.RowKit Go.Lib Go.Shelf

@[go_sem] theorem sv_and_out (x : S) : bits .and .u16 (sv x) 61440 = sv (x &&& 61440#16) := by
  have : (61440 : Int) = sv 61440#16 := rfl
  rw [this, sv_and]
def outS (s : S) : Bool := s &&& 61440#16 != 0#16
def minimalS (l : List S) : List S × Int := if l.any outS then ([], 7) else limS (leastP l)

theorem outPred (l : List S) (w : World) : PredK Tryd.prog 79 #[] vs outS l w := fun W x _ _ => by
  show Calls Tryd.prog 79 #[.int .u16 (sv x)] W _
  go_enter Tryd.func79, Tryd.ntmps79
  go_wp2
  go_ret
  exact ⟨rfl, Keeps.refl _⟩

set_option maxHeartbeats 400000 in
theorem chosenLeast_any (a : Option Addr) (n c : Nat) (l : List S) (w : World) (h : Rd w a n c 1 (sl l)) (hn : n ≤ 1000000) :
    Calls Tryd.prog 66 #[.slice a n c, .func (.func 67) #[] #[]] w fun e w' => RetS w (minimalS l) e w' := by
  have eg : ∀ args w, (callFunc 79 args).run Tryd.prog w = .ok (.enter 79 args) w := enters_of Tryd.func79 (by kernel_rfl) rfl
  have eL : ∀ args w, (callFunc 67 args).run Tryd.prog w = .ok (.enter 67 args) w := enters_of Tryd.func67 (by kernel_rfl) rfl
  have h1 := containsFuncS_any a n c l w 79 #[] outS h eg (outPred l w)
  have h2 := fun W (K : Keeps w W) => least_any a n c l W (h.keep K) hn
  have h3 := fun W v (hO : Own 31 1 w W v (leastP l).length (sl (leastP l))) => limited_any v (leastP l) w W hO
  unfold minimalS
  clear eg h
  cases hq : l.any outS with
  | true =>
    rw [hq] at h1
    rw [if_pos rfl]
    have H1 := Lib.hid h1; clear h1 h2 h3 hq
    go_enter Tryd.func66, Tryd.ntmps66
    go_wp2_with (go_at_call 63; refine H1.out.mono ?_; rintro e w1 ⟨rfl, K1⟩)
    go_ret2
    exact ⟨_, rfl, Own.nil _ _ K1⟩
  | false =>
    rw [hq] at h1
    rw [if_neg (by simp)]
    generalize leastP l = m at h2 h3 ⊢
    generalize hlm : limS m = r at h3 ⊢
    obtain ⟨rl, re⟩ := r
    have H1 := Lib.hid h1; have H2 := Lib.hid h2; have H3 := Lib.hid h3; clear h1 h2 h3 hq hlm
    go_enter Tryd.func66, Tryd.ntmps66
    go_wp2_with fail
    refine H1.out.mono ?_
    rintro e w1 ⟨rfl, K1⟩
    go_wp2_with fail
    refine (H2.out _ K1).mono ?_
    rintro e w2 ⟨v2, rfl, hO2⟩
    go_wp2_with fail
    refine (H3.out _ _ (hO2.since K1)).mono ?_
    rintro e w3 ⟨v3, rfl, hO3⟩
    go_wp2_with fail
    go_ret2
    exact ⟨_, rfl, hO3⟩

theorem minimal_any (a : Option Addr) (n c : Nat) (l : List S) (w : World) (h : Rd w a n c 1 (sl l)) (hn : n ≤ 1000000) :
    Calls Tryd.prog 48 #[.slice a n c] w fun e w' => RetS w (minimalS l) e w' := by
  have h1 := chosenLeast_any a n c l w h hn
  generalize minimalS l = r at h1 ⊢
  obtain ⟨rl, re⟩ := r
  have H1 := Lib.hid h1; clear h1 h
  go_enter Tryd.func48, Tryd.ntmps48
  go_wp2_with fail
  refine H1.out.mono ?_
  rintro e w1 ⟨v, rfl, hO⟩
  go_wp2_with fail
  go_ret2
  exact ⟨_, rfl, hO⟩

end Go.Proofs.YtbiggfbbccpcmaaDoor
