/- The reference of the layer transversal: dual, Same, Cross, Disjoint, Few; the program's Disjoint. -/
import Derived.Test.YtbiggfbbccpcmaaDoorR09a
namespace Go.Proofs.YtbiggfbbccpcmaaDoor
open Go.RowKit Go.Lib Go.Shelf

/-- what the reference's dual gathers -/
def rdualR (f : List S) : List S → List S → List S
  | acc, [] => acc
  | acc, s :: rest => rdualR f (if hitS f s && !accS acc s then acc ++ [s] else acc) rest
def rdualS (f : List S) : List S := rdualR f [] (refSubs (supS f))
theorem refSubs_len (s : S) : (refSubs s).length ≤ 1200000 := by
  have h1 := refSTo_len s (cnt s + 1)
  have h2 := cnt_le s
  unfold refSubs
  have h3 : (cnt s + 1) * 65536 ≤ 17 * 65536 := Nat.mul_le_mul_right _ (by omega)
  omega

theorem eqFrom_cons (x y : S) (xs ys : List S) : eqFrom (x :: xs) (y :: ys) = ((x == y) && eqFrom xs ys) := by
  rw [eqFrom]; cases h : x == y <;> simp [bne, h]
set_option maxHeartbeats 800000 in
theorem rSame_any (a : Option Addr) (n c : Nat) (l : List S) (a2 : Option Addr) (n2 c2 : Nat) (l2 : List S) (w : World) (h : Rd w a n c 1 (sl l)) (h2 : Rd w a2 n2 c2 1 (sl l2)) :
    Calls Tryd.prog 17 #[.slice a n c, .slice a2 n2 c2] w fun e w' => e = .returned (.bool (eqS l l2)) ∧ Keeps w w' := by
  have L := Lib.hid h.lenS
  have L2 := Lib.hid h2.lenS
  have s1 := h.small
  by_cases hn : n = n2
  · subst hn
    have he : Hid (eqS l l2 = eqFrom l l2) := by show _ = _; unfold eqS; rw [if_neg (by have := L.out; have := L2.out; simp; omega)]
    go_enter Tryd.func17, Tryd.ntmps17
    go_wp2
    go_loopw [5] (fun v wr => ∃ (k : Nat), k ≤ n ∧ v = .int .i64 k ∧ Keeps w wr ∧ Hid (eqS l l2 = eqFrom (l.drop k) (l2.drop k))) (fun v _ => n - (intOf v).toNat)
    case atStart => exact ⟨0, Nat.zero_le _, rfl, Keeps.refl _, he⟩
    case round =>
      obtain ⟨k, hk, rfl, K1, HI⟩ := hrel
      by_cases hlt : k < n
      · have hc := (h.keep K1).at hlt
        have hc2 := (h2.keep K1).at hlt
        have hs := h.isSome (by omega)
        have hs2 := h2.isSome (by omega)
        have hst := HI.out
        rw [dropH L hlt, dropH L2 hlt, eqFrom_cons] at hst
        cases hxy : (at_ l k == at_ l2 k) with
        | true =>
          have HJ : Hid (eqS l l2 = eqFrom (l.drop (k + 1)) (l2.drop (k + 1))) := by show _ = _; rw [hst, hxy]; rfl
          have hxy' : (at_ l k != at_ l2 k) = false := by simp [bne, hxy]
          clear hst HI hxy
          go_wp2_with (go_quiet (fail))
          go_roundw
          case rel => exact ⟨k + 1, by omega, rfl, by first | exact K1 | exact K1.drew | exact K1.drewN _, HJ⟩
          case measure => simp [intOf]; omega
        | false =>
          have HJ : Hid (eqS l l2 = false) := by show _ = _; rw [hst, hxy]; rfl
          have hxy' : (at_ l k != at_ l2 k) = true := by simp [bne, hxy]
          clear hst HI hxy
          go_wp2_with (go_quiet (fail))
          go_ret
          rw [HJ.out]
          exact ⟨rfl, by first | exact K1 | exact K1.drew | exact K1.drewN _⟩
      · have HJ : Hid (eqS l l2 = true) := by
          show _ = _
          rw [HI.out, dropN L hlt]; simp [eqFrom]
        clear HI
        go_wp2
        go_ret
        rw [HJ.out]
        exact ⟨rfl, K1⟩
  · have he : eqS l l2 = false := by unfold eqS; rw [if_pos (by have := L.out; have := L2.out; simp; omega)]
    rw [he]
    have hb : ((n : Int) != (n2 : Int)) = true := by rw [bne_iff_ne]; omega
    clear he
    go_enter Tryd.func17, Tryd.ntmps17
    go_wp2
    go_ret
    exact ⟨rfl, Keeps.refl _⟩

theorem crossS_cons (x : S) (xs g : List S) : crossS (x :: xs) g = (hitS g x && crossS xs g) := by simp [crossS]
/-- a pair and an error number come back -/
def RetP (r : S × S × Int) (e : Ending) : Prop := e = .returned (.tuple #[.int .u16 (sv r.1), .int .u16 (sv r.2.1), .int .i64 r.2.2])
theorem few_any (a : Option Addr) (n c : Nat) (w : World) :
    Calls Tryd.prog 33 #[.slice a n c] w fun e w' => e = .returned (.bool (decide ((n : Int) ≤ 30))) ∧ w = w' := by
  go_enter Tryd.func33, Tryd.ntmps33
  go_wp2
  go_ret
  exact ⟨rfl, rfl⟩
theorem few_yes (a : Option Addr) (n c : Nat) (w : World) (h : n ≤ 30) : Calls Tryd.prog 33 #[.slice a n c] w fun e w' => e = .returned (.bool true) ∧ w = w' :=
  (few_any a n c w).mono fun e w' ⟨he, hw⟩ => ⟨by rw [he, decide_eq_true (by omega)], hw⟩
theorem few_no (a : Option Addr) (n c : Nat) (w : World) (h : ¬ n ≤ 30) : Calls Tryd.prog 33 #[.slice a n c] w fun e w' => e = .returned (.bool false) ∧ w = w' :=
  (few_any a n c w).mono fun e w' ⟨he, hw⟩ => ⟨by rw [he, decide_eq_false (by omega)], hw⟩
end Go.Proofs.YtbiggfbbccpcmaaDoor
