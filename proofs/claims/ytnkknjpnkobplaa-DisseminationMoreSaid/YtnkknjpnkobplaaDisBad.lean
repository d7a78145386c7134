/- The first violation of the dissemination property, as the program and the reference find it. -/
import Derived.Test.YtnkknjpnkobplaaBase
import Derived.Test.YtnkknjpnkobplaaProg
namespace Go.Proofs.Ytnkknjpnkobplaa
open Go.RowKit Go.Lib

def fk (x y : S) : List S → Option S
  | [] => none
  | z :: zs => if x &&& y &&& ~~~z == 0#16 then some z else fk x y zs
def fj (x : S) (b : List S) : List S → Option (S × S)
  | [] => none
  | y :: ys => match fk x y b with | some z => some (y, z) | none => fj x b ys
def fi (b : List S) : List S → Option (S × S × S)
  | [] => none
  | x :: xs => match fj x b (x :: xs) with | some (y, z) => some (x, y, z) | none => fi b xs
def resD : Option (S × S × S) → Value
  | some (x, y, z) => .tuple #[.int .u16 (sv x), .int .u16 (sv y), .int .u16 (sv z), .int .i64 0]
  | none => .tuple #[.int .u16 0, .int .u16 0, .int .u16 0, .int .i64 13]

set_option maxHeartbeats 800000 in
theorem badDis_any (a1 : Option Addr) (n1 c1 : Nat) (a2 : Option Addr) (n2 c2 : Nat) (f b : List S) (w : World) (h1 : Rd w a1 n1 c1 1 (sl f)) (h2 : Rd w a2 n2 c2 1 (sl b)) :
    Calls Try.prog 12 #[.slice a1 n1 c1, .slice a2 n2 c2] w fun e w' => e = .returned (resD (fi b f)) ∧ w' = w := by
  have s1 := h1.small; have s2 := h2.small; have l1 := h1.lenS; have l2 := h2.lenS; have nc := h1.nc
  have L1 := Lib.hid l1; have L2 := Lib.hid l2; clear l1 l2
  go_enter Try.func12, Try.ntmps12
  go_wp2
  go_loop [16] (fun i => ∃ k : Nat, k ≤ n1 ∧ i = .int .i64 k ∧ Hid (fi b f = fi b (f.drop k))) (fun i => n1 - (intOf i).toNat)
  case atStart => exact ⟨0, Nat.zero_le _, rfl, rfl⟩
  case round =>
    obtain ⟨i, hi, rfl, HI⟩ := hrel
    by_cases hlt : i < n1
    · have hci := h1.at hlt
      have ha := h1.isSome (by omega)
      go_wp2
      go_loop [25] (fun v => ∃ k : Nat, k ≤ n1 - i ∧ v = .int .i64 k ∧ Hid (fj (at_ f i) b (f.drop i) = fj (at_ f i) b (f.drop (i + k)))) (fun v => n1 - i - (intOf v).toNat)
      case atStart => exact ⟨0, Nat.zero_le _, rfl, rfl⟩
      case round =>
        obtain ⟨j, hj, rfl, HJ⟩ := hrel
        by_cases hlj : j < n1 - i
        · have hcj := h1.at_sub hi hlj
          have hb := (h1.drop (i := i) hi).isSome (by omega)
          go_wp2
          go_loop [31] (fun v => ∃ k : Nat, k ≤ n2 ∧ v = .int .i64 k ∧ Hid (fk (at_ f i) (at_ f (i + j)) b = fk (at_ f i) (at_ f (i + j)) (b.drop k))) (fun v => n2 - (intOf v).toNat)
          case atStart => exact ⟨0, Nat.zero_le _, rfl, rfl⟩
          case round =>
            obtain ⟨k, hk, rfl, HK⟩ := hrel
            by_cases hlk : k < n2
            · have hck := h2.at hlk
              have hb2 := h2.isSome (by omega)
              by_cases hv : (at_ f i &&& at_ f (i + j) &&& ~~~at_ b k == 0#16) = true
              · go_wp2
                (try simp only [Exit.inBlock, Exit.then]); refine bodyPost_ret (results_4 rfl _ _ _) rfl ⟨ret_eq ?_, rfl⟩
                rw [HI.out, drop_at f i (by have := L1.out; omega), fi, ← drop_at f i (by have := L1.out; omega), HJ.out, drop_at f (i + j) (by have := L1.out; omega), fj, HK.out, drop_at b k (by have := L2.out; omega), fk, if_pos hv]
                rfl
              · go_wp2
                go_round
                case rel => exact ⟨k + 1, by omega, by go_num, hrfl <| by rw [HK.out, drop_at b k (by have := L2.out; omega), fk, if_neg hv]⟩
                case measure => simp [intOf]; omega
            · go_wp2
              go_round
              case rel => exact ⟨j + 1, by omega, by go_num, hrfl <| by rw [HJ.out, drop_at f (i + j) (by have := L1.out; omega), fj, HK.out, drop_all b k (by have := L2.out; omega), fk, Nat.add_assoc]⟩
              case measure => simp [intOf]; omega
        · go_wp2
          go_round
          case rel => exact ⟨i + 1, by omega, by go_num, hrfl <| by rw [HI.out, drop_at f i (by have := L1.out; omega), fi, ← drop_at f i (by have := L1.out; omega), HJ.out, drop_all f (i + j) (by have := L1.out; omega), fj]⟩
          case measure => simp [intOf]; omega
    · go_wp2
      (try simp only [Exit.inBlock, Exit.then]); refine bodyPost_ret (results_4 rfl _ _ _) rfl ⟨ret_eq ?_, rfl⟩
      rw [HI.out, drop_all f i (by have := L1.out; omega)]
      rfl

set_option maxHeartbeats 800000 in
theorem refBadDis_any (a1 : Option Addr) (n1 c1 : Nat) (a2 : Option Addr) (n2 c2 : Nat) (f b : List S) (w : World) (h1 : Rd w a1 n1 c1 1 (sl f)) (h2 : Rd w a2 n2 c2 1 (sl b)) :
    Calls Try.prog 14 #[.slice a1 n1 c1, .slice a2 n2 c2] w fun e w' => e = .returned (resD (fi b f)) ∧ Keeps w w' := by
  have s1 := h1.small; have s2 := h2.small; have l1 := h1.lenS; have l2 := h2.lenS
  have L1 := Lib.hid l1; have L2 := Lib.hid l2; clear l1 l2
  go_enter Try.func14, Try.ntmps14
  go_wp2
  go_loopw [8] (fun i wr => ∃ k : Nat, k ≤ n1 ∧ i = .int .i64 k ∧ Keeps w wr ∧ Hid (fi b f = fi b (f.drop k))) (fun i _ => n1 - (intOf i).toNat)
  case atStart => exact ⟨0, Nat.zero_le _, rfl, Keeps.refl _, rfl⟩
  case round =>
    obtain ⟨i, hi, rfl, K1, HI⟩ := hrel
    by_cases hlt : i < n1
    · go_wp2
      obtain ⟨wo, rfl⟩ : ∃ wo : World, wo = wr := ⟨_, rfl⟩
      go_loopw [9] (fun v wr => ∃ k : Nat, i ≤ k ∧ k ≤ n1 ∧ v = .int .i64 k ∧ Keeps w wr ∧ Hid (fj (at_ f i) b (f.drop i) = fj (at_ f i) b (f.drop k))) (fun v _ => n1 - (intOf v).toNat)
      case atStart => exact ⟨i, Nat.le_refl _, by omega, rfl, K1, rfl⟩
      case round =>
        obtain ⟨j, hij, hj, rfl, K2, HJ⟩ := hrel
        by_cases hlj : j < n1
        · go_wp2
          obtain ⟨wo, rfl⟩ : ∃ wo : World, wo = wr := ⟨_, rfl⟩
          go_loopw [10] (fun v wr => ∃ k : Nat, k ≤ n2 ∧ v = .int .i64 k ∧ Keeps w wr ∧ Hid (fk (at_ f i) (at_ f j) b = fk (at_ f i) (at_ f j) (b.drop k))) (fun v _ => n2 - (intOf v).toNat)
          case atStart => exact ⟨0, Nat.zero_le _, rfl, K2, rfl⟩
          case round =>
            obtain ⟨k, hk, rfl, K3, HK⟩ := hrel
            by_cases hlk : k < n2
            · have hci := (h1.keep K3).at hlt
              have hcj := (h1.keep K3).at hlj
              have hck := (h2.keep K3).at hlk
              have ha := h1.isSome (by omega)
              have hb := h2.isSome (by omega)
              by_cases hv : (at_ f i &&& at_ f j &&& ~~~at_ b k == 0#16) = true
              · go_wp2
                go_quiet (fail)
                go_wp2
                go_quiet (fail)
                go_wp2
                (try simp only [Exit.inBlock, Exit.then]); refine bodyPost_ret (results_4 rfl _ _ _) rfl ⟨ret_eq ?_, (K3.drewN _).drewN _⟩
                rw [HI.out, dropH L1 hlt, fi, ← dropH L1 hlt, HJ.out, dropH L1 hlj, fj, HK.out, dropH L2 hlk, fk, if_pos hv]
                rfl
              · go_wp2
                go_quiet (fail)
                go_wp2
                go_roundw
                case rel => exact ⟨k + 1, by omega, by go_num, K3.drewN _, hrfl <| by rw [HK.out, dropH L2 hlk, fk, if_neg hv]⟩
                case measure => simp [intOf]; omega
            · go_wp2
              go_roundw
              case rel => exact ⟨j + 1, by omega, by omega, by go_num, K3, hrfl <| by rw [HJ.out, dropH L1 hlj, fj, HK.out, dropN L2 hlk, fk]⟩
              case measure => simp [intOf]; omega
        · go_wp2
          go_roundw
          case rel => exact ⟨i + 1, by omega, by go_num, K2, hrfl <| by rw [HI.out, dropH L1 hlt, fi, ← dropH L1 hlt, HJ.out, dropN L1 hlj, fj]⟩
          case measure => simp [intOf]; omega
    · go_wp2
      (try simp only [Exit.inBlock, Exit.then]); refine bodyPost_ret (results_4 rfl _ _ _) rfl ⟨ret_eq ?_, K1⟩
      rw [HI.out, dropN L1 hlt]
      rfl
end Go.Proofs.Ytnkknjpnkobplaa
