/- The first violation of the masking property, as the program and the reference find it. -/
import Derived.Test.YtnkknjpnkobplaaBase
import Derived.Test.YtnkknjpnkobplaaProg
namespace Go.Proofs.Ytnkknjpnkobplaa
open Go.RowKit Go.Lib

def ml (x y p : S) : List S → Option S
  | [] => none
  | z :: zs => if x &&& y &&& ~~~(p ||| z) == 0#16 then some z else ml x y p zs
def mk (x y : S) : List S → Option (S × S)
  | [] => none
  | p :: ps => match ml x y p (p :: ps) with | some z => some (p, z) | none => mk x y ps
def mj (x : S) (b : List S) : List S → Option (S × S × S)
  | [] => none
  | y :: ys => match mk x y b with | some (p, z) => some (y, p, z) | none => mj x b ys
def mi (b : List S) : List S → Option (S × S × S × S)
  | [] => none
  | x :: xs => match mj x b (x :: xs) with | some (y, p, z) => some (x, y, p, z) | none => mi b xs
def resM : Option (S × S × S × S) → Value
  | some (x, y, p, z) => .tuple #[.int .u16 (sv x), .int .u16 (sv y), .int .u16 (sv p), .int .u16 (sv z), .int .i64 0]
  | none => .tuple #[.int .u16 0, .int .u16 0, .int .u16 0, .int .u16 0, .int .i64 13]

set_option maxHeartbeats 1600000 in
theorem badMask_any (a1 : Option Addr) (n1 c1 : Nat) (a2 : Option Addr) (n2 c2 : Nat) (f b : List S) (w : World) (h1 : Rd w a1 n1 c1 1 (sl f)) (h2 : Rd w a2 n2 c2 1 (sl b)) :
    Calls Try.prog 16 #[.slice a1 n1 c1, .slice a2 n2 c2] w fun e w' => e = .returned (resM (mi b f)) ∧ w' = w := by
  have s1 := h1.small; have s2 := h2.small; have l1 := h1.lenS; have l2 := h2.lenS; have nc := h1.nc; have nc2 := h2.nc
  have L1 := Lib.hid l1; have L2 := Lib.hid l2; clear l1 l2
  go_enter Try.func16, Try.ntmps16
  go_wp2
  go_loop [19] (fun i => ∃ k : Nat, k ≤ n1 ∧ i = .int .i64 k ∧ Hid (mi b f = mi b (f.drop k))) (fun i => n1 - (intOf i).toNat)
  case atStart => exact ⟨0, Nat.zero_le _, rfl, rfl⟩
  case round =>
    obtain ⟨i, hi, rfl, HI⟩ := hrel
    by_cases hlt : i < n1
    · have hci := h1.at hlt
      have ha := h1.isSome (by omega)
      go_wp2
      go_loop [28] (fun v => ∃ k : Nat, k ≤ n1 - i ∧ v = .int .i64 k ∧ Hid (mj (at_ f i) b (f.drop i) = mj (at_ f i) b (f.drop (i + k)))) (fun v => n1 - i - (intOf v).toNat)
      case atStart => exact ⟨0, Nat.zero_le _, rfl, rfl⟩
      case round =>
        obtain ⟨j, hj, rfl, HJ⟩ := hrel
        by_cases hlj : j < n1 - i
        · have hcj := h1.at_sub hi hlj
          have hb := (h1.drop (i := i) hi).isSome (by omega)
          go_wp2
          go_loop [34] (fun v => ∃ k : Nat, k ≤ n2 ∧ v = .int .i64 k ∧ Hid (mk (at_ f i) (at_ f (i + j)) b = mk (at_ f i) (at_ f (i + j)) (b.drop k))) (fun v => n2 - (intOf v).toNat)
          case atStart => exact ⟨0, Nat.zero_le _, rfl, rfl⟩
          case round =>
            obtain ⟨k, hk, rfl, HK⟩ := hrel
            by_cases hlk : k < n2
            · have hck := h2.at hlk
              have hb2 := h2.isSome (by omega)
              go_wp2
              go_loop [43] (fun v => ∃ l : Nat, l ≤ n2 - k ∧ v = .int .i64 l ∧ Hid (ml (at_ f i) (at_ f (i + j)) (at_ b k) (b.drop k) = ml (at_ f i) (at_ f (i + j)) (at_ b k) (b.drop (k + l)))) (fun v => n2 - k - (intOf v).toNat)
              case atStart => exact ⟨0, Nat.zero_le _, rfl, rfl⟩
              case round =>
                obtain ⟨l, hl, rfl, HL⟩ := hrel
                by_cases hll : l < n2 - k
                · have hcl := h2.at_sub hk hll
                  have hb3 := (h2.drop (i := k) hk).isSome (by omega)
                  by_cases hv : (at_ f i &&& at_ f (i + j) &&& ~~~(at_ b k ||| at_ b (k + l)) == 0#16) = true
                  · go_wp2
                    (try simp only [Exit.inBlock, Exit.then]); refine bodyPost_ret (results_5 rfl _ _ _) rfl ⟨ret_eq ?_, rfl⟩
                    rw [HI.out, dropH L1 hlt, mi, ← dropH L1 hlt, HJ.out, dropH2 L1 hlj, mj, HK.out, dropH L2 hlk, mk, ← dropH L2 hlk, HL.out, dropH2 L2 hll, ml, if_pos hv]
                    rfl
                  · go_wp2
                    go_round
                    case rel => exact ⟨l + 1, by omega, by go_num, hrfl <| by rw [HL.out, dropH2 L2 hll, ml, if_neg hv]⟩
                    case measure => simp [intOf]; omega
                · go_wp2
                  go_round
                  case rel => exact ⟨k + 1, by omega, by go_num, hrfl <| by rw [HK.out, dropH L2 hlk, mk, ← dropH L2 hlk, HL.out, dropN2 L2 hll, ml]⟩
                  case measure => simp [intOf]; omega
            · go_wp2
              go_round
              case rel => exact ⟨j + 1, by omega, by go_num, hrfl <| by rw [HJ.out, dropH2 L1 hlj, mj, HK.out, dropN L2 hlk, mk]⟩
              case measure => simp [intOf]; omega
        · go_wp2
          go_round
          case rel => exact ⟨i + 1, by omega, by go_num, hrfl <| by rw [HI.out, dropH L1 hlt, mi, ← dropH L1 hlt, HJ.out, dropN2 L1 hlj, mj]⟩
          case measure => simp [intOf]; omega
    · go_wp2
      (try simp only [Exit.inBlock, Exit.then]); refine bodyPost_ret (results_5 rfl _ _ _) rfl ⟨ret_eq ?_, rfl⟩
      rw [HI.out, dropN L1 hlt]
      rfl

set_option maxHeartbeats 1600000 in
theorem refBadMask_any (a1 : Option Addr) (n1 c1 : Nat) (a2 : Option Addr) (n2 c2 : Nat) (f b : List S) (w : World) (h1 : Rd w a1 n1 c1 1 (sl f)) (h2 : Rd w a2 n2 c2 1 (sl b)) :
    Calls Try.prog 17 #[.slice a1 n1 c1, .slice a2 n2 c2] w fun e w' => e = .returned (resM (mi b f)) ∧ Keeps w w' := by
  have s1 := h1.small; have s2 := h2.small; have l1 := h1.lenS; have l2 := h2.lenS
  have L1 := Lib.hid l1; have L2 := Lib.hid l2; clear l1 l2
  go_enter Try.func17, Try.ntmps17
  go_wp2
  go_loopw [9] (fun i wr => ∃ k : Nat, k ≤ n1 ∧ i = .int .i64 k ∧ Keeps w wr ∧ Hid (mi b f = mi b (f.drop k))) (fun i _ => n1 - (intOf i).toNat)
  case atStart => exact ⟨0, Nat.zero_le _, rfl, Keeps.refl _, rfl⟩
  case round =>
    obtain ⟨i, hi, rfl, K1, HI⟩ := hrel
    by_cases hlt : i < n1
    · go_wp2
      obtain ⟨wo, rfl⟩ : ∃ wo : World, wo = wr := ⟨_, rfl⟩
      go_loopw [10] (fun v wr => ∃ k : Nat, i ≤ k ∧ k ≤ n1 ∧ v = .int .i64 k ∧ Keeps w wr ∧ Hid (mj (at_ f i) b (f.drop i) = mj (at_ f i) b (f.drop k))) (fun v _ => n1 - (intOf v).toNat)
      case atStart => exact ⟨i, Nat.le_refl _, by omega, rfl, K1, rfl⟩
      case round =>
        obtain ⟨j, hij, hj, rfl, K2, HJ⟩ := hrel
        by_cases hlj : j < n1
        · go_wp2
          obtain ⟨wo, rfl⟩ : ∃ wo : World, wo = wr := ⟨_, rfl⟩
          go_loopw [11] (fun v wr => ∃ k : Nat, k ≤ n2 ∧ v = .int .i64 k ∧ Keeps w wr ∧ Hid (mk (at_ f i) (at_ f j) b = mk (at_ f i) (at_ f j) (b.drop k))) (fun v _ => n2 - (intOf v).toNat)
          case atStart => exact ⟨0, Nat.zero_le _, rfl, K2, rfl⟩
          case round =>
            obtain ⟨k, hk, rfl, K3, HK⟩ := hrel
            by_cases hlk : k < n2
            · go_wp2
              obtain ⟨wo, rfl⟩ : ∃ wo : World, wo = wr := ⟨_, rfl⟩
              go_loopw [12] (fun v wr => ∃ l : Nat, k ≤ l ∧ l ≤ n2 ∧ v = .int .i64 l ∧ Keeps w wr ∧ Hid (ml (at_ f i) (at_ f j) (at_ b k) (b.drop k) = ml (at_ f i) (at_ f j) (at_ b k) (b.drop l))) (fun v _ => n2 - (intOf v).toNat)
              case atStart => exact ⟨k, Nat.le_refl _, by omega, rfl, K3, rfl⟩
              case round =>
                obtain ⟨l, hkl, hl, rfl, K4, HL⟩ := hrel
                by_cases hll : l < n2
                · have hci := (h1.keep K4).at hlt
                  have hcj := (h1.keep K4).at hlj
                  have hck := (h2.keep K4).at hlk
                  have hcl := (h2.keep K4).at hll
                  have ha := h1.isSome (by omega)
                  have hb := h2.isSome (by omega)
                  by_cases hv : (at_ f i &&& at_ f j &&& ~~~(at_ b k ||| at_ b l) == 0#16) = true
                  · go_wp2
                    go_quiet (fail)
                    go_wp2
                    go_quiet (fail)
                    go_wp2
                    (try simp only [Exit.inBlock, Exit.then]); refine bodyPost_ret (results_5 rfl _ _ _) rfl ⟨ret_eq ?_, (K4.drewN _).drewN _⟩
                    rw [HI.out, dropH L1 hlt, mi, ← dropH L1 hlt, HJ.out, dropH L1 hlj, mj, HK.out, dropH L2 hlk, mk, ← dropH L2 hlk, HL.out, dropH L2 hll, ml, if_pos hv]
                    rfl
                  · go_wp2
                    go_quiet (fail)
                    go_wp2
                    go_roundw
                    case rel => exact ⟨l + 1, by omega, by omega, by go_num, K4.drewN _, hrfl <| by rw [HL.out, dropH L2 hll, ml, if_neg hv]⟩
                    case measure => simp [intOf]; omega
                · go_wp2
                  go_roundw
                  case rel => exact ⟨k + 1, by omega, by go_num, K4, hrfl <| by rw [HK.out, dropH L2 hlk, mk, ← dropH L2 hlk, HL.out, dropN L2 hll, ml]⟩
                  case measure => simp [intOf]; omega
            · go_wp2
              go_roundw
              case rel => exact ⟨j + 1, by omega, by omega, by go_num, K3, hrfl <| by rw [HJ.out, dropH L1 hlj, mj, HK.out, dropN L2 hlk, mk]⟩
              case measure => simp [intOf]; omega
        · go_wp2
          go_roundw
          case rel => exact ⟨i + 1, by omega, by go_num, K2, hrfl <| by rw [HI.out, dropH L1 hlt, mi, ← dropH L1 hlt, HJ.out, dropN L1 hlj, mj]⟩
          case measure => simp [intOf]; omega
    · go_wp2
      (try simp only [Exit.inBlock, Exit.then]); refine bodyPost_ret (results_5 rfl _ _ _) rfl ⟨ret_eq ?_, K1⟩
      rw [HI.out, dropN L1 hlt]
      rfl
end Go.Proofs.Ytnkknjpnkobplaa
