/- The number of servers of a set: bits.OnesCount16, set.Count, Size; the order of sets. -/
import Derived.Test.YtbiggfbbccpcmaaDoorBase
import Derived.Test.YtbiggfbbccpcmaaDoorProg
import Derived.Lib.BitFns
import Derived.Lib.Strings
namespace Go.Proofs.YtbiggfbbccpcmaaDoor
open Go.RowKit Go.Lib

@[go_sem] theorem sv_and_255 (x : S) : bits .and .u16 (sv x) 255 = sv x % 256 := by
  have : (255 : Int) = sv 255#16 := rfl
  rw [this, sv_and]; unfold sv
  rw [BitVec.toNat_and]
  have := Nat.and_two_pow_sub_one_eq_mod x.toNat 8
  simp at this ⊢; omega
@[go_sem] theorem sv_and_1 (x : S) : bits .and .u16 (sv x) 1 = sv (x &&& 1#16) := by
  have : (1 : Int) = sv 1#16 := rfl
  rw [this, sv_and]
/-- the first n bits' number -/
def cntTo (x : S) : Nat → Nat
  | 0 => 0
  | n + 1 => cntTo x n + (x.toNat >>> n) % 2
/-- the number of servers of a set -/
def cnt (x : S) : Nat := cntTo x 16
theorem cntTo_le (x : S) (n : Nat) : cntTo x n ≤ n := by
  induction n with
  | zero => exact Nat.le_refl _
  | succ n ih => unfold cntTo; omega
theorem cnt_le (x : S) : cnt x ≤ 16 := cntTo_le x 16
def bits8 (n : Nat) : Nat := n % 2 + n / 2 % 2 + n / 4 % 2 + n / 8 % 2 + n / 16 % 2 + n / 32 % 2 + n / 64 % 2 + n / 128 % 2
theorem pop8_bits : ∀ n : Fin 256, pop8 (n.val : Int) = (bits8 n.val : Int) := by decide +kernel
theorem pop8_at (i : Int) (h0 : 0 ≤ i) (h1 : i ≤ 255) : pop8 i = (bits8 i.toNat : Int) := by
  have := pop8_bits ⟨i.toNat, by omega⟩
  simp only [Int.toNat_of_nonneg h0] at this
  exact this
theorem bits8_lo (n : Nat) : bits8 (n % 256) = bits8 n := by
  unfold bits8
  have l0 : n % 256 % 2 = n % 2 := by omega
  have l1 : n % 256 / 2 % 2 = n / 2 % 2 := by omega
  have l2 : n % 256 / 4 % 2 = n / 4 % 2 := by omega
  have l3 : n % 256 / 8 % 2 = n / 8 % 2 := by omega
  have l4 : n % 256 / 16 % 2 = n / 16 % 2 := by omega
  have l5 : n % 256 / 32 % 2 = n / 32 % 2 := by omega
  have l6 : n % 256 / 64 % 2 = n / 64 % 2 := by omega
  have l7 : n % 256 / 128 % 2 = n / 128 % 2 := by omega
  rw [l0, l1, l2, l3, l4, l5, l6, l7]
theorem bits8_hi (n : Nat) : bits8 (n / 256) = n / 256 % 2 + n / 512 % 2 + n / 1024 % 2 + n / 2048 % 2 + n / 4096 % 2 + n / 8192 % 2 + n / 16384 % 2 + n / 32768 % 2 := by
  unfold bits8
  have u1 : n / 256 / 2 = n / 512 := by rw [Nat.div_div_eq_div_mul]
  have u2 : n / 256 / 4 = n / 1024 := by rw [Nat.div_div_eq_div_mul]
  have u3 : n / 256 / 8 = n / 2048 := by rw [Nat.div_div_eq_div_mul]
  have u4 : n / 256 / 16 = n / 4096 := by rw [Nat.div_div_eq_div_mul]
  have u5 : n / 256 / 32 = n / 8192 := by rw [Nat.div_div_eq_div_mul]
  have u6 : n / 256 / 64 = n / 16384 := by rw [Nat.div_div_eq_div_mul]
  have u7 : n / 256 / 128 = n / 32768 := by rw [Nat.div_div_eq_div_mul]
  rw [u1, u2, u3, u4, u5, u6, u7]
theorem cnt_bytes (x : S) : cnt x = bits8 (x.toNat / 256) + bits8 (x.toNat % 256) := by
  rw [bits8_lo, bits8_hi, Nat.add_comm]
  unfold bits8 cnt
  simp only [cntTo, Nat.shiftRight_eq_div_pow, Nat.reducePow, Nat.zero_add, Nat.div_one]
  generalize x.toNat = n
  simp only [Nat.add_assoc]
theorem pop_sum (x : S) : pop8 (sv x / 256) + pop8 (sv x % 256) = (cnt x : Int) := by
  have hb := sv_bound x
  rw [pop8_at _ (by omega) (by omega), pop8_at _ (by omega) (by omega), cnt_bytes]
  have e1 : (sv x / 256).toNat = x.toNat / 256 := by unfold sv; omega
  have e2 : (sv x % 256).toNat = x.toNat % 256 := by unfold sv; omega
  rw [e1, e2]; omega

set_option maxHeartbeats 1000000 in
theorem onesCount_any (x : S) (w : World) : Calls Tryd.prog 60 #[.int .u16 (sv x)] w fun e w' => e = .returned (.int .i64 (cnt x)) ∧ ∃ n, w' = w.drewN n := by
  have hb := sv_bound x
  have h1 : 0 ≤ sv x := hb.1
  have h2 : sv x < 65536 := hb.2
  have h3 : 0 ≤ sv x / 256 := by omega
  have h4 : sv x / 256 ≤ 255 := by omega
  have h5 : 0 ≤ sv x % 256 := by omega
  have h6 : sv x % 256 ≤ 255 := by omega
  clear hb
  have hs := Lib.hid (pop_sum x)
  have hc := cnt_le x
  go_enter Tryd.func60, Tryd.ntmps60
  go_wp2
  go_quiet (fail)
  go_wp2
  go_ret
  refine ⟨ret_eq ?_, _, rfl⟩
  have e := hs.out
  simp
  omega

theorem count_any (x : S) (w : World) : Calls Tryd.prog 38 #[.int .u16 (sv x)] w fun e w' => e = .returned (.int .i64 (cnt x)) ∧ ∃ n, w' = w.drewN n := by
  have hc := Lib.hid (onesCount_any x w)
  go_enter Tryd.func38, Tryd.ntmps38
  go_wp2_with (go_at_call 60; refine hc.out.mono ?_; rintro e w' ⟨rfl, n, rfl⟩)
  go_ret
  exact ⟨rfl, n, rfl⟩

theorem sv_bit (x : S) (k : Nat) : sv ((x >>> k) &&& 1#16) = (((x.toNat >>> k) % 2 : Nat) : Int) := by
  unfold sv
  rw [BitVec.toNat_and, BitVec.toNat_ushiftRight]
  simp [Nat.and_one_is_mod]

set_option maxHeartbeats 400000 in
theorem refSize_any (x : S) (w : World) : Calls Tryd.prog 19 #[.int .u16 (sv x)] w fun e w' => e = .returned (.int .i64 (cnt x)) ∧ w = w' := by
  go_enter Tryd.func19, Tryd.ntmps19
  go_wp2
  go_loop [3, 4] (fun n i => ∃ k : Nat, k ≤ 16 ∧ i = .int .i64 k ∧ n = .int .i64 (cntTo x k)) (fun _ i => 16 - (intOf i).toNat)
  case atStart => exact ⟨0, Nat.zero_le _, rfl, rfl⟩
  case round =>
    obtain ⟨k, hk, rfl, rfl⟩ := hrel
    have hl := cntTo_le x k
    by_cases hlt : k < 16
    · have hb := sv_bit x k
      have b0 : 0 ≤ sv ((x >>> k) &&& 1#16) := by rw [hb]; omega
      have b1 : sv ((x >>> k) &&& 1#16) ≤ 1 := by rw [hb]; omega
      have HB := Lib.hid hb; clear hb
      go_wp2
      go_round
      case rel => exact ⟨k + 1, by omega, by go_num, by rw [HB.out, cntTo]; go_num⟩
      case measure => simp [intOf]; omega
    · go_wp2
      go_ret
      obtain rfl : k = 16 := by omega
      exact ⟨rfl, rfl⟩
end Go.Proofs.YtbiggfbbccpcmaaDoor
