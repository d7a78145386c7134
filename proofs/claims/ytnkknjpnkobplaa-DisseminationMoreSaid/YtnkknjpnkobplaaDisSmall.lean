/- Small functions of the layer dissemination, and Same. -/
import Derived.Test.YtnkknjpnkobplaaDisBad
import Derived.Test.YtnkknjpnkobplaaDisMask
import Derived.Test.YtnkknjpnkobplaaSliceS
namespace Go.Proofs.Ytnkknjpnkobplaa
open Go.RowKit Go.Lib Go.Shelf

theorem few_any (a : Option Addr) (n c : Nat) (w : World) :
    Calls Try.prog 11 #[.slice a n c] w fun e w' => e = .returned (.bool (decide ((n : Int) ≤ 20))) ∧ w = w' := by
  go_enter Try.func11, Try.ntmps11
  go_wp2
  go_ret
  exact ⟨rfl, rfl⟩

theorem full_any (n : Int) (w : World) (h0 : 0 ≤ n) (h1 : n ≤ 15) :
    Calls Try.prog 31 #[.int .i64 n] w fun e w' => e = .returned (.int .u16 (sv (fullS n.toNat))) ∧ w = w' := by
  go_enter Try.func31, Try.ntmps31
  go_wp2
  go_ret
  exact ⟨rfl, rfl⟩

def disOK (b f : List S) : Bool := (fi b f).isNone
def maskOK (b f : List S) : Bool := (mi b f).isNone

theorem dis_any (a1 : Option Addr) (n1 c1 : Nat) (a2 : Option Addr) (n2 c2 : Nat) (f b : List S) (w : World) (h1 : Rd w a1 n1 c1 1 (sl f)) (h2 : Rd w a2 n2 c2 1 (sl b)) :
    Calls Try.prog 15 #[.slice a1 n1 c1, .slice a2 n2 c2] w fun e w' => e = .returned (.bool (disOK b f)) ∧ w = w' := by
  have hc := badDis_any a1 n1 c1 a2 n2 c2 f b w h1 h2
  unfold disOK
  generalize fi b f = r at hc ⊢
  have HC := Lib.hid hc; clear hc h1 h2
  cases r with
  | none =>
    go_enter Try.func15, Try.ntmps15
    go_wp2_with (go_at_call 12; refine HC.out.mono ?_; rintro e w' ⟨rfl, hw⟩; subst hw; unfold resD)
    go_ret
    exact ⟨rfl, rfl⟩
  | some q =>
    obtain ⟨x, y, z⟩ := q
    go_enter Try.func15, Try.ntmps15
    go_wp2_with (go_at_call 12; refine HC.out.mono ?_; rintro e w' ⟨rfl, hw⟩; subst hw; unfold resD)
    go_ret
    exact ⟨rfl, rfl⟩

theorem mask_any (a1 : Option Addr) (n1 c1 : Nat) (a2 : Option Addr) (n2 c2 : Nat) (f b : List S) (w : World) (h1 : Rd w a1 n1 c1 1 (sl f)) (h2 : Rd w a2 n2 c2 1 (sl b)) :
    Calls Try.prog 18 #[.slice a1 n1 c1, .slice a2 n2 c2] w fun e w' => e = .returned (.bool (maskOK b f)) ∧ w = w' := by
  have hc := badMask_any a1 n1 c1 a2 n2 c2 f b w h1 h2
  unfold maskOK
  generalize mi b f = r at hc ⊢
  have HC := Lib.hid hc; clear hc h1 h2
  cases r with
  | none =>
    go_enter Try.func18, Try.ntmps18
    go_wp2_with (go_at_call 16; refine HC.out.mono ?_; rintro e w' ⟨rfl, hw⟩; subst hw; unfold resM)
    go_ret
    exact ⟨rfl, rfl⟩
  | some q =>
    obtain ⟨x, y, z, u⟩ := q
    go_enter Try.func18, Try.ntmps18
    go_wp2_with (go_at_call 16; refine HC.out.mono ?_; rintro e w' ⟨rfl, hw⟩; subst hw; unfold resM)
    go_ret
    exact ⟨rfl, rfl⟩

def sameS (l m : List S) : Bool := l == m
theorem same_step {l m : List S} {k n : Nat} (hl : l.length = n) (hm : m.length = n) (hk : k < n) : (l.drop k == m.drop k) = (at_ l k == at_ m k && l.drop (k + 1) == m.drop (k + 1)) := by
  rw [drop_at l k (by omega), drop_at m k (by omega)]; rfl

set_option maxHeartbeats 400000 in
theorem same_any (a1 : Option Addr) (n1 c1 : Nat) (a2 : Option Addr) (n2 c2 : Nat) (f b : List S) (w : World) (h1 : Rd w a1 n1 c1 1 (sl f)) (h2 : Rd w a2 n2 c2 1 (sl b)) :
    Calls Try.prog 21 #[.slice a1 n1 c1, .slice a2 n2 c2] w fun e w' => e = .returned (.bool (f == b)) ∧ Keeps w w' := by
  have s1 := h1.small; have s2 := h2.small; have l1 := h1.lenS; have l2 := h2.lenS
  by_cases hn : n1 = n2
  · subst hn
    have HS := Lib.hid (@same_step f b · n1 l1 l2)
    have L1 := Lib.hid l1; have L2 := Lib.hid l2; clear l1 l2
    have hb : ((n1 : Int) != (n1 : Int)) = false := by simp
    go_enter Try.func21, Try.ntmps21
    go_wp2
    go_loopw [5] (fun v wr => ∃ k : Nat, k ≤ n1 ∧ v = .int .i64 k ∧ Keeps w wr ∧ Hid ((f == b) = (f.drop k == b.drop k))) (fun v _ => n1 - (intOf v).toNat)
    case atStart => exact ⟨0, Nat.zero_le _, rfl, Keeps.refl _, rfl⟩
    case round =>
      obtain ⟨k, hk, rfl, K1, HI⟩ := hrel
      by_cases hlt : k < n1
      · have hc := (h1.keep K1).at hlt
        have hd := (h2.keep K1).at hlt
        have ha := h1.isSome (by omega)
        have hb2 := h2.isSome (by omega)
        cases hq : (at_ f k == at_ b k) with
        | true =>
          have hq' : (at_ f k != at_ b k) = false := by simp [bne, hq]
          go_wp2
          go_quiet (fail)
          go_wp2
          go_roundw
          case rel => exact ⟨k + 1, by omega, by go_num, K1.drewN _, hrfl <| by rw [HI.out, HS.out k hlt, hq, Bool.true_and]⟩
          case measure => simp [intOf]; omega
        | false =>
          have hq' : (at_ f k != at_ b k) = true := by simp [bne, hq]
          go_wp2
          go_quiet (fail)
          go_wp2
          go_ret
          exact ⟨ret_eq (by rw [HI.out, HS.out k hlt, hq, Bool.false_and]; rfl), K1.drewN _⟩
      · go_wp2
        go_ret
        exact ⟨ret_eq (by rw [HI.out, dropN L1 hlt, dropN L2 hlt]; rfl), K1⟩
  · have hb : ((n1 : Int) != (n2 : Int)) = true := by simp; omega
    have hr : (f == b) = false := by
      rw [beq_eq_false_iff_ne]; intro h; rw [h] at l1; omega
    have HR := Lib.hid hr; clear hr
    clear l1 l2
    go_enter Try.func21, Try.ntmps21
    go_wp2
    go_ret
    exact ⟨ret_eq (by rw [HR.out]; rfl), Keeps.refl _⟩
end Go.Proofs.Ytnkknjpnkobplaa
