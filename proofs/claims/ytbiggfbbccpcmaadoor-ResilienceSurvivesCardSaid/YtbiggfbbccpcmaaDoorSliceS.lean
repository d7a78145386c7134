/- slices.Clone, slices.IndexFunc and slices.ContainsFunc at lists of sets. -/
import Derived.Test.YtbiggfbbccpcmaaDoorBase
import Derived.Test.YtbiggfbbccpcmaaDoorProg
import Derived.Lib.SliceRun
import Derived.Shelf.Abstract
namespace Go.Proofs.YtbiggfbbccpcmaaDoor
open Go.RowKit Go.Lib Go.Shelf

theorem infoS : (Tryd.prog.info? 31).map (fun i => (i.zero, i.size, i.bytes)) = some (some (.int .u16 0), 1, 2) := by kernel_rfl
theorem tyS : STy Tryd.prog 23 31 1 2 := STy.of Tryd.underlying23 infoS rfl (by decide) (by decide)
theorem eqNilS (w : World) (a : Option Addr) (n c n' c' : Nat) : (binOp .eql 23 (.slice a n c) (.slice none n' c')).run Tryd.prog w = .ok (.bool a.isNone) w := Lib.run_eql_slice_nil w _ _ a n c n' c' Tryd.underlying23

set_option maxHeartbeats 800000 in
theorem cloneS_any (a : Option Addr) (n c : Nat) (xs : List Value) (w : World) (h : Rd w a n c 1 xs) (h1 : ∀ u ∈ xs, u.oneCell' = true) (hb : n ≤ 1000000) :
    Calls Tryd.prog 13 #[.slice a n c] w fun e w' => ∃ v, e = .returned v ∧ w'.ownsRow w.heap.size 31 1 v n xs ∧ Keeps w w' := by
  have q := eqNilS
  obtain ⟨i0, hi, hz0, hz1, hz2⟩ := info_parts infoS
  have hl := h.len
  cases a with
  | none =>
    have hn : n = 0 := by
      rcases Nat.eq_zero_or_pos n with h0 | h0
      · exact h0
      · exact absurd (h.isSome h0) (by simp)
    subst hn
    have hx : xs = [] := List.eq_nil_of_length_eq_zero (by simpa using hl)
    subst hx
    clear hl h
    go_enter Tryd.func13, Tryd.ntmps13
    go_wp2
    go_ret
    exact ⟨_, rfl, World.ownsRow_nil _ _ _ _, Keeps.refl _⟩
  | some ad =>
    have HL := Lib.hid hl; clear hl
    have hk : Keeps w (w.alloc (.cells #[] 31)) := (Keeps.refl w).alloc _
    go_enter Tryd.func13, Tryd.ntmps13
    go_wp2_with (at_builtin; refine wpList_append_own _ rfl _ _ 23 rfl w.heap.size 31 i0 (.int .u16 0) 1 2 Tryd.underlying23 hi hz0 hz1 hz2 rfl (by decide) _ _ _ rfl (World.ownsRow_made w #[] 0 (Nat.le_refl _) (Nat.zero_le _) (by simp)) ad n c xs rfl ?qc1 ?qc2 ?qc3 ?qc4 ?qc5 ?qc6 ?_)
    case qc1 => exact HL.out
    case qc2 => exact fun j u hj => hk.cell (h.cell j u hj)
    case qc3 => exact h1
    case qc4 => unfold maxLen; omega
    case qc5 => omega
    case qc6 => simp
    intro v' w1 hown hgrow hnil
    go_wp2
    go_ret
    exact ⟨v', rfl, by simpa using hown, ((Below.refl _ w).alloc (Nat.le_refl _) _).grown hgrow (by simp) (by intro k hk; simp [Value.ownBlock] at hk; omega)⟩

/-- 'p' is what a function value answers, at each element of a list, in each world that keeps what lay in w. -/
def PredK {α : Type} (P : Program) (g : Nat) (lb : Array Value) (enc : α → Value) (p : α → Bool) (l : List α) (w : World) : Prop :=
  ∀ W x, x ∈ l → Keeps w W → Calls P g (#[enc x] ++ lb) W fun e w' => e = .returned (.bool (p x)) ∧ Keeps W w'

def idxFrom {α : Type} (p : α → Bool) : List α → Nat → Int
  | [], _ => -1
  | x :: xs, k => if p x = true then (k : Int) else idxFrom p xs (k + 1)
theorem idxFrom_any {α : Type} (p : α → Bool) (l : List α) (k : Nat) : decide (0 ≤ idxFrom p l k) = l.any p := by
  induction l generalizing k with
  | nil => simp [idxFrom]
  | cons x xs ih =>
    unfold idxFrom
    by_cases h : p x = true
    · simp [h]
    · simp [h, ih]
theorem at_mem {l : List S} {i : Nat} (h : i < l.length) : at_ l i ∈ l := by simp [at_, List.getD, h]

set_option maxHeartbeats 800000 in
theorem indexFuncS_any (a : Option Addr) (n c : Nat) (l : List S) (w : World) (g : Nat) (lb : Array Value) (p : S → Bool) (h : Rd w a n c 1 (sl l))
    (eg : ∀ args w, (callFunc g args).run Tryd.prog w = .ok (.enter g args) w) (hp : PredK Tryd.prog g lb vs p l w) :
    Calls Tryd.prog 74 #[.slice a n c, .func (.func g) #[] lb] w fun e w' => e = .returned (.int .i64 (idxFrom p l 0)) ∧ Keeps w w' := by
  have s1 := h.small
  have l1 := h.lenS
  have L1 := Lib.hid l1; clear l1
  have HP := Lib.hid hp; clear hp
  go_enter Tryd.func74, Tryd.ntmps74
  go_wp2
  go_loopw [8] (fun v wr => ∃ k : Nat, k ≤ n ∧ v = .int .i64 k ∧ Keeps w wr ∧ Hid (idxFrom p l 0 = idxFrom p (l.drop k) k)) (fun v _ => n - (intOf v).toNat)
  case atStart => exact ⟨0, Nat.zero_le _, rfl, Keeps.refl _, rfl⟩
  case round =>
    obtain ⟨k, hk, rfl, K1, HI⟩ := hrel
    by_cases hlt : k < n
    · have hc := (h.keep K1).at hlt
      have ha := h.isSome (by omega)
      have hcall := HP.out wr (at_ l k) (at_mem (by have := L1.out; omega)) K1
      unfold vs at hcall
      have HC := Lib.hid hcall; clear hcall
      cases hq : p (at_ l k) with
      | true =>
        rw [hq] at HC
        have HQ := Lib.hid hq; clear hq
        go_wp2_with (go_at_fn g; refine (HC.out).mono ?_; rintro e w' ⟨rfl, K2⟩)
        go_ret
        exact ⟨by rw [HI.out, dropH L1 hlt, idxFrom, if_pos HQ.out]; rfl, K1.trans K2⟩
      | false =>
        rw [hq] at HC
        have HQ := Lib.hid hq; clear hq
        go_wp2_with (go_at_fn g; refine (HC.out).mono ?_; rintro e w' ⟨rfl, K2⟩)
        go_roundw
        case rel => exact ⟨k + 1, by omega, by go_num, K1.trans K2, hrfl <| by rw [HI.out, dropH L1 hlt, idxFrom, if_neg (by rw [HQ.out]; simp)]⟩
        case measure => simp [intOf]; omega
    · go_wp2
      go_ret
      exact ⟨by rw [HI.out, dropN L1 hlt, idxFrom]; rfl, K1⟩

set_option maxHeartbeats 800000 in
theorem containsFuncS_any (a : Option Addr) (n c : Nat) (l : List S) (w : World) (g : Nat) (lb : Array Value) (p : S → Bool) (h : Rd w a n c 1 (sl l))
    (eg : ∀ args w, (callFunc g args).run Tryd.prog w = .ok (.enter g args) w) (hp : PredK Tryd.prog g lb vs p l w) :
    Calls Tryd.prog 63 #[.slice a n c, .func (.func g) #[] lb] w fun e w' => e = .returned (.bool (l.any p)) ∧ Keeps w w' := by
  have HX := Lib.hid (idxFrom_any p l 0)
  have hcon := indexFuncS_any a n c l w g lb p h eg hp
  generalize idxFrom p l 0 = r at hcon HX
  have HC := Lib.hid hcon; clear hcon eg hp h
  go_enter Tryd.func63, Tryd.ntmps63
  go_wp2_with (go_at_call 74; refine HC.out.mono ?_; rintro e w' ⟨rfl, K2⟩)
  go_ret
  exact ⟨by rw [← HX.out]; rfl, K2⟩
end Go.Proofs.YtbiggfbbccpcmaaDoor
