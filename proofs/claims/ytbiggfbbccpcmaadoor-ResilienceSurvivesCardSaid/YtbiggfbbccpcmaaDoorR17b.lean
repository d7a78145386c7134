/- The reference of the layer resilience: Worst, given, Idle, exchanged, Symmetric. -/
import Derived.Test.YtbiggfbbccpcmaaDoorR17
namespace Go.Proofs.YtbiggfbbccpcmaaDoor
open Go.RowKit Go.Lib Go.Shelf

theorem pow_i64 (k : Nat) (h : k ≤ 12) : (1 : Int) ≤ 2 ^ k ∧ (2 : Int) ^ k ≤ 4096 := by
  have : ∀ j : Fin 13, (1 : Int) ≤ 2 ^ j.val ∧ (2 : Int) ^ j.val ≤ 4096 := by decide
  exact this ⟨k, by omega⟩
theorem wrap64_in (z : Int) (h0 : 0 ≤ z) (h1 : z ≤ 100000) : wrap64 z = z := by unfold wrap64; omega
def givenErr (l : List S) (n : Int) : Int := if rvalS l ≠ 0 then rvalS l else if n < 0 ∨ 12 < n then 7 else if (2 : Int) ^ n.toNat ≤ sv (supS l) then 7 else 0
theorem given_any (a : Option Addr) (m c : Nat) (l : List S) (n : Int) (w : World) (h : Rd w a m c 1 (sl l)) :
    Calls Tryd.prog 51 #[.slice a m c, .int .i64 n] w fun e w' => e = .returned (.int .i64 (givenErr l n)) ∧ Keeps w w' := by
  have hv := rValid_any a m c l w h
  have hs := fun W (k : Keeps w W) => (rSupport_any a m c l W (h.keep k)).mono fun e w' ⟨p, q⟩ => (⟨p, q.symm⟩ : e = _ ∧ w' = W)
  have hb := sv_bound (supS l)
  unfold givenErr
  generalize rvalS l = vl at *
  generalize supS l = s at *
  have HV := Lib.hid hv; have HS := Lib.hid hs
  obtain ⟨b0, b1⟩ := hb
  clear hv hs h
  by_cases hz : vl = 0
  · subst hz
    rw [if_neg (by simp)]
    by_cases hn : n < 0 ∨ 12 < n
    · rw [if_pos hn]
      rcases Int.lt_or_le n 0 with h1 | h1
      · clear hn
        have h2 : decide (n < 0) = true := by simpa using h1
        go_enter Tryd.func51, Tryd.ntmps51
        go_wp2_with fail
        refine HV.out.mono ?_
        rintro e w1 ⟨rfl, K1⟩
        go_wp2_with (go_quiet (fail))
        go_ret
        exact ⟨rfl, K1.drewN _⟩
      · have h2 : decide (n < 0) = false := by simpa using h1
        have h3 : (12 : Int) < n := by omega
        have h4 : decide ((12 : Int) < n) = true := by simpa using h3
        clear hn
        go_enter Tryd.func51, Tryd.ntmps51
        go_wp2_with fail
        refine HV.out.mono ?_
        rintro e w1 ⟨rfl, K1⟩
        go_wp2_with (go_quiet (fail))
        go_ret
        exact ⟨rfl, K1.drewN _⟩
    · rw [if_neg hn]
      obtain ⟨k, rfl⟩ : ∃ k : Nat, n = k := ⟨n.toNat, by omega⟩
      have hk : k ≤ 12 := by omega
      have h2 : decide ((k : Int) < 0) = false := by simp
      have h3 : ¬ (12 : Int) < k := by omega
      have h4 : decide ((12 : Int) < k) = false := by simpa using h3
      rw [Int.toNat_natCast]
      obtain ⟨p0, p1⟩ := pow_i64 k hk
      have k0 : (0 : Int) ≤ (k : Int) := by omega
      have k1 : (k : Int) ≤ 12 := by omega
      have hw : IntKind.i64.wrap ((2 : Int) ^ k) = 2 ^ k := IntWalk.i64_in _ (by omega)
      have hw2 : wrap64 ((2 : Int) ^ k) = 2 ^ k := wrap64_in _ (by omega) (by omega)
      have hw3 : IntKind.i64.wrap (sv s) = sv s := IntWalk.i64_in _ (by omega)
      clear hn
      by_cases hge : (2 : Int) ^ k ≤ sv s
      · rw [if_pos hge]
        have hgd : decide ((2 : Int) ^ k ≤ sv s) = true := by simpa using hge
        go_enter Tryd.func51, Tryd.ntmps51
        go_wp2_with fail
        refine HV.out.mono ?_
        rintro e w1 ⟨rfl, K1⟩
        go_wp2_with (go_quiet ((go_at_call 44; exact Calls.quiet_of_same (HS.out _ (K1.drewN _)))))
        go_ret
        exact ⟨rfl, K1.drewN _⟩
      · rw [if_neg hge]
        have hgd : decide ((2 : Int) ^ k ≤ sv s) = false := by simpa using hge
        go_enter Tryd.func51, Tryd.ntmps51
        go_wp2_with fail
        refine HV.out.mono ?_
        rintro e w1 ⟨rfl, K1⟩
        go_wp2_with (go_quiet ((go_at_call 44; exact Calls.quiet_of_same (HS.out _ (K1.drewN _)))))
        go_ret
        exact ⟨rfl, K1.drewN _⟩
  · rw [if_pos hz]
    have hb : (vl != 0) = true := by simpa using hz
    go_enter Tryd.func51, Tryd.ntmps51
    go_wp2_with fail
    refine HV.out.mono ?_
    rintro e w1 ⟨rfl, K1⟩
    go_wp2_with fail
    go_ret
    exact ⟨rfl, K1⟩

/-- two servers exchanged, as the reference says it -/
def rexS (s : S) (i k : Nat) : S := (s &&& ~~~((1#16 <<< i) ||| (1#16 <<< k))) ||| (((s >>> i) &&& 1#16) <<< k) ||| (((s >>> k) &&& 1#16) <<< i)
theorem rExchanged_any (s : S) (i k : Nat) (w : World) (hi : i ≤ 15) (hk : k ≤ 15) :
    Calls Tryd.prog 53 #[.int .u16 (sv s), .int .i64 i, .int .i64 k] w fun e w' => e = .returned (.int .u16 (sv (rexS s i k))) ∧ ∃ n, w' = w.drewN n := by
  unfold rexS
  have i0 : (0 : Int) ≤ (i : Int) := by omega
  have k0 : (0 : Int) ≤ (k : Int) := by omega
  have i1 : (i : Int) ≤ 15 := by omega
  have k1 : (k : Int) ≤ 15 := by omega
  go_enter Tryd.func53, Tryd.ntmps53
  go_wp2_with (go_quiet (fail))
  go_ret
  exact ⟨rfl, by first | exact ⟨_, rfl⟩ | exact ⟨_, World.drewN_drewN _ _ _⟩⟩
end Go.Proofs.YtbiggfbbccpcmaaDoor
