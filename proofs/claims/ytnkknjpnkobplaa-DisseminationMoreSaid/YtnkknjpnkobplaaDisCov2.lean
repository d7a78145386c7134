/- Cover and Free of the program and of the reference. -/
import Derived.Test.YtnkknjpnkobplaaDisCover
import Derived.Test.YtnkknjpnkobplaaFam
namespace Go.Proofs.Ytnkknjpnkobplaa
open Go.RowKit Go.Lib Go.Shelf

/-- the first cover by s, s + 1, .. sets: r numbers to try -/
def covFrom (b : List S) (m : S) : Nat → Nat → Option (List S)
  | 0, _ => none
  | r + 1, s => match cov b s m with | some l => some l | none => covFrom b m r (s + 1)
def covPair : Option (List S) → List S × Int
  | some l => (l, 0)
  | none => ([], 13)
def covRes (n : Int) (b : List S) (k : Int) : List S × Int :=
  if n < 0 ∨ 12 < n ∨ k < 0 ∨ 4 < k then ([], 7) else covPair (covFrom b (fullS n.toNat) (k.toNat + 1) 0)
theorem covRes_bad {n : Int} {b : List S} {k : Int} (h : n < 0 ∨ 12 < n ∨ k < 0 ∨ 4 < k) : covRes n b k = ([], 7) := if_pos h
theorem covRes_good {n : Int} {b : List S} {k : Int} (h : ¬ (n < 0 ∨ 12 < n ∨ k < 0 ∨ 4 < k)) : covRes n b k = covPair (covFrom b (fullS n.toNat) (k.toNat + 1) 0) := if_neg h

set_option maxHeartbeats 1000000 in
theorem Cover_any (a : Option Addr) (m c : Nat) (b : List S) (w : World) (n k : Int) (h : Rd w a m c 1 (sl b)) (hm : m ≤ 1000000) :
    Calls Try.prog 19 #[.int .i64 n, .slice a m c, .int .i64 k] w fun e w' => RetS w (covRes n b k) e w' := by
  by_cases hbad : n < 0 ∨ 12 < n ∨ k < 0 ∨ 4 < k
  · rw [covRes_bad hbad]
    have fin : ∀ e w', e = Ending.returned (.tuple #[.slice none 0 0, .int .i64 7]) → w = w' → RetS w ([], 7) e w' := fun e w' he hw => by
      subst he; subst hw; exact ⟨_, rfl, Own.nil _ _ (Keeps.refl w)⟩
    have FIN := Lib.hid fin; clear fin h
    by_cases c1 : n < 0
    · go_enter Try.func19, Try.ntmps19
      go_wp2
      go_ret2
      exact FIN.out _ _ rfl rfl
    by_cases c2 : 12 < n
    · go_enter Try.func19, Try.ntmps19
      go_wp2
      go_ret2
      exact FIN.out _ _ rfl rfl
    by_cases c3 : k < 0
    · go_enter Try.func19, Try.ntmps19
      go_wp2
      go_ret2
      exact FIN.out _ _ rfl rfl
    have c4 : 4 < k := by omega
    go_enter Try.func19, Try.ntmps19
    go_wp2
    go_ret2
    exact FIN.out _ _ rfl rfl
  · have n0 : 0 ≤ n := by omega
    have n1 : n ≤ 12 := by omega
    have k0 : 0 ≤ k := by omega
    have k1 : k ≤ 4 := by omega
    rw [covRes_good hbad]
    clear hbad
    obtain ⟨K, rfl⟩ := Int.eq_ofNat_of_zero_le k0
    rw [Int.toNat_natCast]
    have hf : sv (1#16 <<< n.toNat - 1#16) = sv (fullS n.toNat) := rfl
    go_enter Try.func19, Try.ntmps19
    go_wp2
    go_loopw [27] (fun v wr => ∃ i : Nat, i ≤ K + 1 ∧ v = .int .i64 i ∧ Keeps w wr ∧ Hid (covFrom b (fullS n.toNat) (K + 1) 0 = covFrom b (fullS n.toNat) (K + 1 - i) i)) (fun v _ => K + 1 - (intOf v).toNat)
    case atStart => exact ⟨0, by omega, rfl, Keeps.refl _, rfl⟩
    case round =>
      obtain ⟨i, hi, rfl, K1, HI⟩ := hrel
      by_cases hlt : i < K + 1
      · have hcall := cover_any i a m c b wr 0 (i : Int) (fullS n.toNat) (h.keep K1) (by omega) (by omega) (by omega) (by omega) (by omega) hm
        rw [Int.toNat_natCast, show (0 : Int).toNat = 0 from rfl, List.drop_zero] at hcall
        have hs : covFrom b (fullS n.toNat) (K + 1 - i) i = match cov b i (fullS n.toNat) with | some l => some l | none => covFrom b (fullS n.toNat) (K + 1 - (i + 1)) (i + 1) := by
          rw [show K + 1 - i = (K + 1 - (i + 1)) + 1 from by omega]; rfl
        have HS := Lib.hid hs; clear hs
        cases hq : cov b i (fullS n.toNat) with
        | none =>
          rw [hq] at hcall
          have HQ := Lib.hid hq; have HC := Lib.hid hcall; clear hq hcall
          go_wp2_with (go_at_call 29; refine HC.out.mono ?_; rintro e w' ⟨v, rfl, hO⟩; simp only [Option.isSome_none])
          go_roundw
          case rel => exact ⟨i + 1, by omega, by go_num, K1.trans hO.2, hrfl <| by rw [HI.out, HS.out, HQ.out]⟩
          case measure => simp [intOf]; omega
        | some q =>
          rw [hq] at hcall
          have HQ := Lib.hid hq; have HC := Lib.hid hcall; clear hq hcall
          go_wp2_with (go_at_call 29; refine HC.out.mono ?_; rintro e w' ⟨v, rfl, hO⟩; simp only [Option.isSome_some])
          go_ret2
          rw [HI.out, HS.out, HQ.out]
          exact ⟨v, rfl, hO.since K1⟩
      · go_wp2
        go_ret2
        rw [HI.out, show K + 1 - i = 0 from by omega]
        exact ⟨_, rfl, Own.nil _ _ K1⟩
set_option maxHeartbeats 1000000 in
theorem refCover_any (a : Option Addr) (m c : Nat) (b : List S) (w : World) (n k : Int) (h : Rd w a m c 1 (sl b)) (hm : m ≤ 1000000) :
    Calls Try.prog 20 #[.int .i64 n, .slice a m c, .int .i64 k] w fun e w' => RetS w (covRes n b k) e w' := by
  by_cases hbad : n < 0 ∨ 12 < n ∨ k < 0 ∨ 4 < k
  · rw [covRes_bad hbad]
    have fin : ∀ e w', e = Ending.returned (.tuple #[.slice none 0 0, .int .i64 7]) → w = w' → RetS w ([], 7) e w' := fun e w' he hw => by
      subst he; subst hw; exact ⟨_, rfl, Own.nil _ _ (Keeps.refl w)⟩
    have FIN := Lib.hid fin; clear fin h
    by_cases c1 : n < 0
    · go_enter Try.func20, Try.ntmps20
      go_wp2
      go_ret2
      exact FIN.out _ _ rfl rfl
    by_cases c2 : 12 < n
    · go_enter Try.func20, Try.ntmps20
      go_wp2
      go_ret2
      exact FIN.out _ _ rfl rfl
    by_cases c3 : k < 0
    · go_enter Try.func20, Try.ntmps20
      go_wp2
      go_ret2
      exact FIN.out _ _ rfl rfl
    have c4 : 4 < k := by omega
    go_enter Try.func20, Try.ntmps20
    go_wp2
    go_ret2
    exact FIN.out _ _ rfl rfl
  · have n0 : 0 ≤ n := by omega
    have n1 : n ≤ 12 := by omega
    have k0 : 0 ≤ k := by omega
    have k1 : k ≤ 4 := by omega
    rw [covRes_good hbad]
    clear hbad
    obtain ⟨K, rfl⟩ := Int.eq_ofNat_of_zero_le k0
    rw [Int.toNat_natCast]
    have hf : sv (1#16 <<< n.toNat - 1#16) = sv (fullS n.toNat) := rfl
    go_enter Try.func20, Try.ntmps20
    go_wp2
    go_loopw [8] (fun v wr => ∃ i : Nat, i ≤ K + 1 ∧ v = .int .i64 i ∧ Keeps w wr ∧ Hid (covFrom b (fullS n.toNat) (K + 1) 0 = covFrom b (fullS n.toNat) (K + 1 - i) i)) (fun v _ => K + 1 - (intOf v).toNat)
    case atStart => exact ⟨0, by omega, rfl, Keeps.refl _, rfl⟩
    case round =>
      obtain ⟨i, hi, rfl, K1, HI⟩ := hrel
      by_cases hlt : i < K + 1
      · have hcall := covers_any i a m c b wr 0 (i : Int) (fullS n.toNat) (h.keep K1) (by omega) (by omega) (by omega) (by omega) (by omega) hm
        rw [Int.toNat_natCast, show (0 : Int).toNat = 0 from rfl, List.drop_zero] at hcall
        have hs : covFrom b (fullS n.toNat) (K + 1 - i) i = match cov b i (fullS n.toNat) with | some l => some l | none => covFrom b (fullS n.toNat) (K + 1 - (i + 1)) (i + 1) := by
          rw [show K + 1 - i = (K + 1 - (i + 1)) + 1 from by omega]; rfl
        have HS := Lib.hid hs; clear hs
        cases hq : cov b i (fullS n.toNat) with
        | none =>
          rw [hq] at hcall
          have HQ := Lib.hid hq; have HC := Lib.hid hcall; clear hq hcall
          go_wp2_with (first | (go_at_call 31; refine (full_any n _ n0 (by omega)).mono ?_; rintro e w' ⟨rfl, rfl⟩) | (go_at_call 30; refine HC.out.mono ?_; rintro e w' ⟨v, rfl, hO⟩; simp only [Option.isSome_none]))
          go_roundw
          case rel => exact ⟨i + 1, by omega, by go_num, K1.trans hO.2, hrfl <| by rw [HI.out, HS.out, HQ.out]⟩
          case measure => simp [intOf]; omega
        | some q =>
          rw [hq] at hcall
          have HQ := Lib.hid hq; have HC := Lib.hid hcall; clear hq hcall
          go_wp2_with (first | (go_at_call 31; refine (full_any n _ n0 (by omega)).mono ?_; rintro e w' ⟨rfl, rfl⟩) | (go_at_call 30; refine HC.out.mono ?_; rintro e w' ⟨v, rfl, hO⟩; simp only [Option.isSome_some]))
          go_ret2
          rw [HI.out, HS.out, HQ.out]
          exact ⟨v, rfl, hO.since K1⟩
      · go_wp2
        go_ret2
        rw [HI.out, show K + 1 - i = 0 from by omega]
        exact ⟨_, rfl, Own.nil _ _ K1⟩

theorem free_any (a : Option Addr) (m c : Nat) (b : List S) (w : World) (n k : Int) (h : Rd w a m c 1 (sl b)) (hm : m ≤ 1000000) :
    Calls Try.prog 22 #[.int .i64 n, .slice a m c, .int .i64 k] w fun e w' => e = .returned (.bool ((covRes n b k).2 == 13)) ∧ Keeps w w' := by
  have hc := Cover_any a m c b w n k h hm
  generalize covRes n b k = r at hc ⊢
  have HC := Lib.hid hc; clear hc h
  obtain ⟨l, x⟩ := r
  go_enter Try.func22, Try.ntmps22
  go_wp2_with (go_at_call 19; refine HC.out.mono ?_; rintro e w' ⟨v, rfl, hO⟩)
  go_ret
  exact ⟨rfl, hO.2⟩

theorem refFree_any (a : Option Addr) (m c : Nat) (b : List S) (w : World) (n k : Int) (h : Rd w a m c 1 (sl b)) (hm : m ≤ 1000000) :
    Calls Try.prog 23 #[.int .i64 n, .slice a m c, .int .i64 k] w fun e w' => e = .returned (.bool ((covRes n b k).2 == 13)) ∧ Keeps w w' := by
  have hc := refCover_any a m c b w n k h hm
  generalize covRes n b k = r at hc ⊢
  have HC := Lib.hid hc; clear hc h
  obtain ⟨l, x⟩ := r
  go_enter Try.func23, Try.ntmps23
  go_wp2_with (go_at_call 20; refine HC.out.mono ?_; rintro e w' ⟨v, rfl, hO⟩)
  go_ret
  exact ⟨rfl, hO.2⟩
end Go.Proofs.Ytnkknjpnkobplaa
