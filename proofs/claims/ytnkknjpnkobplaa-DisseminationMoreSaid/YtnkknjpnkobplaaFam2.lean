/- family.Minimal; dissemination.Canonical. -/
import Derived.Test.YtnkknjpnkobplaaFam
import Derived.Test.YtnkknjpnkobplaaDisCov2
namespace Go.Proofs.Ytnkknjpnkobplaa
open Go.RowKit Go.Lib Go.Shelf

@[go_sem] theorem sv_and_out (x : S) : bits .and .u16 (sv x) 61440 = sv (x &&& 61440#16) := by
  have : (61440 : Int) = sv 61440#16 := rfl
  rw [this, sv_and]
def outS (s : S) : Bool := s &&& 61440#16 != 0#16
def minimalS (l : List S) : List S × Int := if l.any outS then ([], 7) else limS (leastP l)

theorem outPred (l : List S) (w : World) : PredK Try.prog 42 #[] vs outS l w := fun W x _ _ => by
  show Calls Try.prog 42 #[.int .u16 (sv x)] W _
  go_enter Try.func42, Try.ntmps42
  go_wp2
  go_ret
  exact ⟨rfl, Keeps.refl _⟩

set_option maxHeartbeats 400000 in
theorem chosenLeast_any (a : Option Addr) (n c : Nat) (l : List S) (w : World) (h : Rd w a n c 1 (sl l)) (hn : n ≤ 1000000) :
    Calls Try.prog 38 #[.slice a n c, .func (.func 39) #[] #[]] w fun e w' => RetS w (minimalS l) e w' := by
  have eg : ∀ args w, (callFunc 42 args).run Try.prog w = .ok (.enter 42 args) w := enters_of Try.func42 (by kernel_rfl) rfl
  have eL : ∀ args w, (callFunc 39 args).run Try.prog w = .ok (.enter 39 args) w := enters_of Try.func39 (by kernel_rfl) rfl
  have h1 := containsFuncS_any a n c l w 42 #[] outS h eg (outPred l w)
  have h2 := fun W (K : Keeps w W) => least_any a n c l W (h.keep K) hn
  have h3 := fun W v (hO : Own 26 1 w W v (leastP l).length (sl (leastP l))) => limited_any v (leastP l) w W hO
  unfold minimalS
  clear eg h
  cases hq : l.any outS with
  | true =>
    rw [hq] at h1
    rw [if_pos rfl]
    have H1 := Lib.hid h1; clear h1 h2 h3 hq
    go_enter Try.func38, Try.ntmps38
    go_wp2_with (go_at_call 32; refine H1.out.mono ?_; rintro e w1 ⟨rfl, K1⟩)
    go_ret2
    exact ⟨_, rfl, Own.nil _ _ K1⟩
  | false =>
    rw [hq] at h1
    rw [if_neg (by simp)]
    generalize leastP l = m at h2 h3 ⊢
    generalize hlm : limS m = r at h3 ⊢
    obtain ⟨rl, re⟩ := r
    have H1 := Lib.hid h1; have H2 := Lib.hid h2; have H3 := Lib.hid h3; clear h1 h2 h3 hq hlm
    go_enter Try.func38, Try.ntmps38
    go_wp2_with fail
    refine H1.out.mono ?_
    rintro e w1 ⟨rfl, K1⟩
    go_wp2_with fail
    refine (H2.out _ K1).mono ?_
    rintro e w2 ⟨v2, rfl, hO2⟩
    go_wp2_with fail
    refine (H3.out _ _ (hO2.since K1)).mono ?_
    rintro e w3 ⟨v3, rfl, hO3⟩
    go_wp2_with fail
    go_ret2
    exact ⟨_, rfl, hO3⟩

theorem minimal_any (a : Option Addr) (n c : Nat) (l : List S) (w : World) (h : Rd w a n c 1 (sl l)) (hn : n ≤ 1000000) :
    Calls Try.prog 35 #[.slice a n c] w fun e w' => RetS w (minimalS l) e w' := by
  have h1 := chosenLeast_any a n c l w h hn
  generalize minimalS l = r at h1 ⊢
  obtain ⟨rl, re⟩ := r
  have H1 := Lib.hid h1; clear h1 h
  go_enter Try.func35, Try.ntmps35
  go_wp2_with fail
  refine H1.out.mono ?_
  rintro e w1 ⟨v, rfl, hO⟩
  go_wp2_with fail
  go_ret2
  exact ⟨_, rfl, hO⟩

/-- the complements among n servers -/
def compl (n : Nat) (b : List S) : List S := b.map fun x => fullS n &&& ~~~x
theorem compl_snoc (n : Nat) (b : List S) (k : Nat) (h : k < b.length) : compl n (b.take (k + 1)) = compl n (b.take k) ++ [fullS n &&& ~~~at_ b k] := by
  rw [take_at b k h]; simp [compl]
def canonS (n : Int) (b : List S) : List S × Int := if n < 0 ∨ 12 < n then ([], 7) else minimalS (compl n.toNat b)

set_option maxHeartbeats 800000 in
theorem canonical_any (n : Int) (a : Option Addr) (m c : Nat) (b : List S) (w : World) (h : Rd w a m c 1 (sl b)) (hm : m ≤ 1000000) :
    Calls Try.prog 26 #[.int .i64 n, .slice a m c] w fun e w' => RetS w (canonS n b) e w' := by
  by_cases hbad : n < 0 ∨ 12 < n
  · have e1 : canonS n b = ([], 7) := if_pos hbad
    rw [e1]; clear e1 h
    have fin : ∀ e w', e = Ending.returned (.tuple #[.slice none 0 0, .int .i64 7]) → w = w' → RetS w ([], 7) e w' := fun e w' he hw => by
      subst he; subst hw; exact ⟨_, rfl, Own.nil _ _ (Keeps.refl w)⟩
    have FIN := Lib.hid fin; clear fin
    by_cases c1 : n < 0
    · go_enter Try.func26, Try.ntmps26
      go_wp2
      go_ret2
      exact FIN.out _ _ rfl rfl
    have c2 : 12 < n := by omega
    go_enter Try.func26, Try.ntmps26
    go_wp2
    go_ret2
    exact FIN.out _ _ rfl rfl
  · have n0 : 0 ≤ n := by omega
    have n1 : n ≤ 12 := by omega
    have e1 : canonS n b = minimalS (compl n.toNat b) := if_neg hbad
    rw [e1]; clear e1 hbad
    have s1 := h.small; have l1 := h.lenS
    have hcl : (compl n.toNat b).length = m := by simp [compl, l1]
    have hcon := fun W v (hO : Own 26 1 w W v m (sl (compl n.toNat b))) => show Calls Try.prog 35 #[v] W (fun e w' => RetS w (minimalS (compl n.toNat b)) e w') by
      obtain ⟨a', c', rfl, hR⟩ := hO.rd
      exact (minimal_any a' m c' _ W hR hm).mono fun e w' ⟨v', he, hO'⟩ => ⟨v', he, hO'.since hO.2⟩
    generalize hmn : minimalS (compl n.toNat b) = r at hcon ⊢
    obtain ⟨rl, re⟩ := r
    have HC := Lib.hid hcon; have L1 := Lib.hid l1; have HL := Lib.hid hcl; clear hcon l1 hmn hcl
    have hf : sv (1#16 <<< n.toNat - 1#16) = sv (fullS n.toNat) := rfl
    go_enter Try.func26, Try.ntmps26
    go_wp2_with fail
    go_loopw [6, 17] (fun u v wr => ∃ k : Nat, k ≤ m ∧ v = .int .i64 k ∧ Own 26 1 w wr u k (sl (compl n.toNat (b.take k)))) (fun _ v _ => m - (intOf v).toNat)
    case atStart => exact ⟨0, Nat.zero_le _, rfl, Own.nil _ _ (Keeps.refl _)⟩
    case round =>
      obtain ⟨k, hk, rfl, hA⟩ := hrel
      by_cases hlt : k < m
      · have hc := (h.keep hA.2).at hlt
        have ha := h.isSome (by omega)
        obtain ⟨a2, c2, rfl, hRa⟩ := hA.rd
        go_wp2_with (at_builtin; refine wp_app tyS rfl _ _ rfl (hA.alloc _) rfl rfl (rd_new _ 1 _ [.int .u16 (sv (fullS n.toNat &&& ~~~at_ b k))] 1 (by decide) rfl) (sl_oneCell [fullS n.toNat &&& ~~~at_ b k]) ?_ ?_)
        · omega
        · intro v' w3 hO3 _
          go_wp2
          go_roundw
          case rel => exact ⟨k + 1, by omega, by go_num, by rw [compl_snoc _ _ _ (by have := L1.out; omega), sl_append]; exact hO3⟩
          case measure => simp [intOf]; omega
      · have hkm : k = m := by omega
        subst hkm
        rw [List.take_of_length_le (by have := L1.out; omega)] at hA
        go_wp2_with (go_at_call 35; refine (HC.out _ _ hA).mono ?_; rintro e w1 ⟨v, rfl, hO⟩)
        go_ret2
        exact ⟨_, rfl, hO⟩

/-- sets restricted to n servers -/
def withinS (n : Nat) (b : List S) : List S := b.map fun x => x &&& fullS n
theorem withinS_snoc (n : Nat) (b : List S) (k : Nat) (h : k < b.length) : withinS n (b.take (k + 1)) = withinS n (b.take k) ++ [at_ b k &&& fullS n] := by
  rw [take_at b k h]; simp [withinS]

set_option maxHeartbeats 800000 in
/-- sets restricted to n servers -/
theorem within_any (n : Int) (a : Option Addr) (m c : Nat) (b : List S) (w : World) (h : Rd w a m c 1 (sl b)) (hm : m ≤ 1000000) (n0 : 0 ≤ n) (n1 : n ≤ 15) :
    Calls Try.prog 28 #[.slice a m c, .int .i64 n] w fun e w' => ∃ v, e = .returned v ∧ Own 26 1 w w' v m (sl (withinS n.toNat b)) := by
  have s1 := h.small; have l1 := h.lenS
  have L1 := Lib.hid l1; clear l1
  have hf : sv (1#16 <<< n.toNat - 1#16) = sv (fullS n.toNat) := rfl
  go_enter Try.func28, Try.ntmps28
  go_wp2_with fail
  go_loopw [5, 10] (fun u v wr => ∃ k : Nat, k ≤ m ∧ v = .int .i64 k ∧ Own 26 1 w wr u k (sl (withinS n.toNat (b.take k)))) (fun _ v _ => m - (intOf v).toNat)
  case atStart => exact ⟨0, Nat.zero_le _, rfl, Own.nil _ _ (Keeps.refl _)⟩
  case round =>
    obtain ⟨k, hk, rfl, hA⟩ := hrel
    by_cases hlt : k < m
    · have hc := (h.keep hA.2).at hlt
      have ha := h.isSome (by omega)
      obtain ⟨a2, c2, rfl, hRa⟩ := hA.rd
      go_wp2_with (at_builtin; refine wp_app tyS rfl _ _ rfl (hA.alloc _) rfl rfl (rd_new _ 1 _ [.int .u16 (sv (at_ b k &&& fullS n.toNat))] 1 (by decide) rfl) (sl_oneCell [at_ b k &&& fullS n.toNat]) ?_ ?_)
      · omega
      · intro v' w3 hO3 _
        go_wp2
        go_roundw
        case rel => exact ⟨k + 1, by omega, by go_num, by rw [withinS_snoc _ _ _ (by have := L1.out; omega), sl_append]; exact hO3⟩
        case measure => simp [intOf]; omega
    · go_wp2
      go_ret
      have hkm : k = m := by omega
      subst hkm
      rw [List.take_of_length_le (by have := L1.out; omega)] at hA
      exact ⟨_, rfl, hA⟩
end Go.Proofs.Ytnkknjpnkobplaa
