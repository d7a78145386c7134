/- The reference of the layer resilience: Influence, Numbers. -/
import Derived.Test.YtbiggfbbccpcmaaDoorR17e
import Derived.Test.YtbiggfbbccpcmaaDoorP17e
namespace Go.Proofs.YtbiggfbbccpcmaaDoor
open Go.RowKit Go.Lib Go.Shelf

theorem i64_and_nat (a b : Nat) (ha : a < 65536) (hb : b < 65536) : bits .and .i64 (a : Int) (b : Int) = ((a &&& b : Nat) : Int) := by
  have h1 : (BitVec.ofInt 64 (a : Int)).toNat = a := by
    rw [BitVec.ofInt_natCast, BitVec.toNat_ofNat]; exact Nat.mod_eq_of_lt (by omega)
  have h2 : (BitVec.ofInt 64 (b : Int)).toNat = b := by
    rw [BitVec.ofInt_natCast, BitVec.toNat_ofNat]; exact Nat.mod_eq_of_lt (by omega)
  have hx : a &&& b ≤ a := Nat.and_le_left
  show IntKind.i64.wrap ((BitVec.ofInt 64 (a : Int) &&& BitVec.ofInt 64 (b : Int)).toNat : Int) = _
  rw [BitVec.toNat_and, h1, h2, IntKind.wrap_i64]
  omega
theorem i64_or_nat (a b : Nat) (ha : a < 65536) (hb : b < 65536) : bits .or .i64 (a : Int) (b : Int) = ((a ||| b : Nat) : Int) := by
  have h1 : (BitVec.ofInt 64 (a : Int)).toNat = a := by
    rw [BitVec.ofInt_natCast, BitVec.toNat_ofNat]; exact Nat.mod_eq_of_lt (by omega)
  have h2 : (BitVec.ofInt 64 (b : Int)).toNat = b := by
    rw [BitVec.ofInt_natCast, BitVec.toNat_ofNat]; exact Nat.mod_eq_of_lt (by omega)
  have hx : a ||| b < 2 ^ 16 := Nat.or_lt_two_pow (by omega) (by omega)
  show IntKind.i64.wrap ((BitVec.ofInt 64 (a : Int) ||| BitVec.ofInt 64 (b : Int)).toNat : Int) = _
  rw [BitVec.toNat_or, h1, h2, IntKind.wrap_i64]
  omega
theorem bit_i64 (x i : Nat) (hx : x < 65536) : (bits .and .i64 ((x : Int) / 2 ^ i) 1 == 0) = ((BitVec.ofNat 16 x >>> i) &&& 1#16 == 0#16) := by
  have e1 : (x : Int) / 2 ^ i = ((x >>> i : Nat) : Int) := by rw [Nat.shiftRight_eq_div_pow]; simp
  have hle : x >>> i ≤ x := by rw [Nat.shiftRight_eq_div_pow]; exact Nat.div_le_self _ _
  rw [e1, show (1 : Int) = ((1 : Nat) : Int) from rfl, i64_and_nat _ _ (by omega) (by omega), ← sv_beq0, sv_bit, Nat.and_one_is_mod, BitVec.toNat_ofNat, Nat.mod_eq_of_lt (show x < 2 ^ 16 by omega)]
theorem or_i64 (x i : Nat) (hx : x < 4096) (hi : i < 12) : bits .or .i64 (x : Int) (2 ^ i) = ((x ||| 2 ^ i : Nat) : Int) ∧ x ||| 2 ^ i < 4096 ∧ ((x ||| 2 ^ i : Nat) : Int) = sv (BitVec.ofNat 16 x ||| (1#16 <<< i)) := by
  have h2 : 2 ^ i < 4096 := Nat.lt_of_lt_of_le (Nat.pow_lt_pow_right (by decide) hi) (by decide)
  have hx2 : x ||| 2 ^ i < 2 ^ 12 := Nat.or_lt_two_pow (by omega) (by omega)
  refine ⟨?_, hx2, ?_⟩
  · rw [show ((2 : Int) ^ i) = ((2 ^ i : Nat) : Int) by simp, i64_or_nat _ _ (by omega) (by omega)]
  · unfold sv
    rw [BitVec.toNat_or, BitVec.toNat_ofNat, BitVec.toNat_shiftLeft, Nat.shiftLeft_eq, Nat.mod_eq_of_lt (show x < 2 ^ 16 by omega)]
    have : (1#16).toNat * 2 ^ i % 2 ^ 16 = 2 ^ i := by
      rw [show (1#16).toNat = 1 from rfl, Nat.one_mul]; exact Nat.mod_eq_of_lt (by omega)
    rw [this]

def rinC (l : List S) (i : Nat) : Nat → Nat
  | 0 => 0
  | q + 1 => rinC l i q + if decides l i (BitVec.ofNat 16 q) then 1 else 0
theorem rinC_le (l : List S) (i : Nat) : ∀ q, rinC l i q ≤ q
  | 0 => Nat.le_refl _
  | q + 1 => by have := rinC_le l i q; rw [rinC]; split <;> omega
def rinL (l : List S) (n : Nat) : Nat → List Nat
  | 0 => []
  | i + 1 => rinL l n i ++ [rinC l i (2 ^ n)]
theorem rinL_len (l : List S) (n : Nat) : ∀ i, (rinL l n i).length = i
  | 0 => rfl
  | i + 1 => by rw [rinL, List.length_append, rinL_len l n i]; rfl
def rinflErr (l : List S) (n : Int) : List Nat × Int := if givenErr l n ≠ 0 then ([], givenErr l n) else (rinL l n.toNat n.toNat, 0)
theorem tyI64 : STy Tryd.prog 39 2 1 8 := STy.of Tryd.underlying39 info64 rfl (by decide) (by decide)
set_option maxHeartbeats 3200000 in
theorem rInfluence_any (a : Option Addr) (m c : Nat) (l : List S) (n : Int) (w : World) (h : Rd w a m c 1 (sl l)) :
    Calls Tryd.prog 21 #[.slice a m c, .int .i64 n] w fun e w' => ∃ v, e = .returned (.tuple #[v, .int .i64 (rinflErr l n).2]) ∧ Own 2 1 w w' v (rinflErr l n).1.length (il (rinflErr l n).1) := by
  have hg := given_any a m c l n w h
  have hgr := fun he => given_range (l := l) (n := n) he
  have hac := fun W (K : Keeps w W) s => rAcc8_any a m c l s W (h.keep K)
  have hw : rinflErr l n = if givenErr l n ≠ 0 then ([], givenErr l n) else (rinL l n.toNat n.toNat, 0) := rfl
  generalize givenErr l n = er at *
  have HG := Lib.hid hg; have HA := Lib.hid hac; have HW := Lib.hid hw
  clear hg hac h hw
  by_cases hz : er = 0
  · subst hz
    obtain ⟨-, n0, n1, -⟩ := hgr rfl
    clear hgr
    obtain ⟨n, rfl⟩ : ∃ k : Nat, n = k := ⟨n.toNat, by omega⟩
    have HR : Hid (rinflErr l n = (rinL l n n, 0)) := by show _ = _; rw [HW.out, if_neg (by simp), Int.toNat_natCast]
    have n2 : n ≤ 12 := by omega
    obtain ⟨p0, p1⟩ := pow_i64 n n2
    have pN : ((2 : Int) ^ n) = ((2 ^ n : Nat) : Int) := by simp
    have pw : 2 ^ n ≤ 4096 := by rw [pN] at p1; omega
    have HPN := Lib.hid pN
    have hw1 : IntKind.i64.wrap ((2 : Int) ^ n) = 2 ^ n := IntWalk.i64_in _ (by omega)
    have hw2 : wrap64 ((2 : Int) ^ n) = 2 ^ n := wrap64_in _ (by omega) (by omega)
    clear pN
    go_enter Tryd.func21, Tryd.ntmps21
    go_wp2_with fail
    refine HG.out.mono ?_
    rintro e w1 ⟨rfl, K1⟩
    go_wp2_with fail
    go_loopw [7, 8] (fun u v wr => ∃ (i : Nat), i ≤ n ∧ v = .int .i64 i ∧ Own 2 1 w1 wr u i (il (rinL l n i))) (fun _ v _ => n - (intOf v).toNat)
    case atStart => exact ⟨0, Nat.zero_le _, rfl, Own.nil _ _ (Keeps.refl _)⟩
    case round =>
      obtain ⟨i, hi, rfl, hB⟩ := hrel
      by_cases hlt : i < n
      · obtain ⟨wo, rfl⟩ : ∃ wo : World, wo = wr := ⟨_, rfl⟩
        have i0 : (0 : Int) ≤ (i : Int) := by omega
        have i1 : (i : Int) ≤ 12 := by omega
        obtain ⟨q0, q1⟩ := pow_i64 i (by omega)
        have hq1 : IntKind.i64.wrap ((2 : Int) ^ i) = 2 ^ i := IntWalk.i64_in _ (by omega)
        have hq2 : wrap64 ((2 : Int) ^ i) = 2 ^ i := wrap64_in _ (by omega) (by omega)
        go_wp2_with fail
        go_loopw [9, 10] (fun u v wx => ∃ (x : Nat), x ≤ 2 ^ n ∧ v = .int .i64 x ∧ u = .int .i64 (rinC l i x) ∧ wo = wx) (fun _ v _ => 2 ^ n - (intOf v).toNat)
        case atStart => exact ⟨0, Nat.zero_le _, rfl, rfl, rfl⟩
        case round =>
          obtain ⟨x, hx, rfl, rfl, rfl⟩ := hrel
          have hcl := rinC_le l i x
          by_cases hxn : x < 2 ^ n
          · have hx4 : x < 4096 := by omega
            have hxi : (x : Int) < 2 ^ n := by rw [HPN.out]; omega
            have hdx : decide ((x : Int) < 2 ^ n) = true := by simpa using hxi
            have hbit := bit_i64 x i (by omega)
            obtain ⟨o1, o2, o3⟩ := or_i64 x i hx4 (by omega)
            have hxv : (x : Int) = sv (BitVec.ofNat 16 x) := by rw [sv_lit x (by omega)]
            have hst : rinC l i (x + 1) = rinC l i x + if decides l i (BitVec.ofNat 16 x) then 1 else 0 := rfl
            have ha1 := HA.out wo (K1.trans hB.2) (BitVec.ofNat 16 x)
            have ha2 := HA.out wo (K1.trans hB.2) (BitVec.ofNat 16 x ||| (1#16 <<< i))
            rw [← hxv] at ha1
            rw [← o3] at ha2
            have o4 : ((x ||| 2 ^ i : Nat) : Int) ≤ 4095 := by omega
            have o5 : (0 : Int) ≤ ((x ||| 2 ^ i : Nat) : Int) := by omega
            generalize hy : x ||| 2 ^ i = y at *
            have HST := Lib.hid hst; have HX := Lib.hid hxv; have HO3 := Lib.hid o3; have HY := Lib.hid hy
            clear hst hxv o3 hy
            cases hb : ((BitVec.ofNat 16 x >>> i) &&& 1#16 == 0#16) with
            | false =>
              rw [hb] at hbit
              have HS2 : Hid (rinC l i (x + 1) = rinC l i x) := by show _ = _; rw [HST.out]; unfold decides; rw [hb]; simp
              clear ha1 ha2 hb
              go_wp2_with fail
              go_roundw
              case rel => exact ⟨x + 1, by omega, by go_num, by rw [HS2.out], trivial⟩
              case measure => simp [intOf]; omega
            | true =>
              rw [hb] at hbit
              cases hc1 : accS l (BitVec.ofNat 16 x) with
              | true =>
                rw [hc1] at ha1
                have HS2 : Hid (rinC l i (x + 1) = rinC l i x) := by show _ = _; rw [HST.out]; unfold decides; rw [hc1]; simp
                have HA1 := Lib.hid ha1
                clear ha1 ha2 hb hc1
                go_wp2_with fail
                refine HA1.out.mono ?_
                rintro e w2 ⟨rfl, rfl⟩
                go_wp2_with fail
                go_roundw
                case rel => exact ⟨x + 1, by omega, by go_num, by rw [HS2.out], trivial⟩
                case measure => simp [intOf]; omega
              | false =>
                rw [hc1] at ha1
                have hdd : decides l i (BitVec.ofNat 16 x) = accS l (BitVec.ofNat 16 x ||| (1#16 <<< i)) := by unfold decides; rw [hc1, hb]; rfl
                rw [← hdd] at ha2
                cases hc2 : decides l i (BitVec.ofNat 16 x) with
                | false =>
                  rw [hc2] at ha2
                  have HS2 : Hid (rinC l i (x + 1) = rinC l i x) := by show _ = _; rw [HST.out, hc2]; simp
                  have HA1 := Lib.hid ha1; have HA2 := Lib.hid ha2
                  clear ha1 ha2 hb hc1 hc2 hdd
                  go_wp2_with fail
                  refine HA1.out.mono ?_
                  rintro e w2 ⟨rfl, rfl⟩
                  go_wp2_with fail
                  refine HA2.out.mono ?_
                  rintro e w2 ⟨rfl, rfl⟩
                  go_wp2_with fail
                  go_roundw
                  case rel => exact ⟨x + 1, by omega, by go_num, by rw [HS2.out], trivial⟩
                  case measure => simp [intOf]; omega
                | true =>
                  rw [hc2] at ha2
                  have HS2 : Hid (rinC l i (x + 1) = rinC l i x + 1) := by show _ = _; rw [HST.out, hc2]; simp
                  have HA1 := Lib.hid ha1; have HA2 := Lib.hid ha2
                  clear ha1 ha2 hb hc1 hc2 hdd
                  go_wp2_with fail
                  refine HA1.out.mono ?_
                  rintro e w2 ⟨rfl, rfl⟩
                  go_wp2_with fail
                  refine HA2.out.mono ?_
                  rintro e w2 ⟨rfl, rfl⟩
                  go_wp2_with fail
                  go_roundw
                  case rel => exact ⟨x + 1, by omega, by go_num, by rw [HS2.out]; go_num, trivial⟩
                  case measure => simp [intOf]; omega
          · have hxe : x = 2 ^ n := by omega
            have hxi : ¬ (x : Int) < 2 ^ n := by rw [HPN.out]; omega
            have hdx : decide ((x : Int) < 2 ^ n) = false := by simpa using hxi
            have HXE := Lib.hid hxe
            have hll := rinL_len l n i
            have HLL := Lib.hid hll
            clear hxe hll
            go_wp2_with (at_builtin; refine wp_app tyI64 rfl _ _ rfl (hB.alloc _) rfl rfl (rd_new _ 1 _ [.int .i64 (rinC l i x)] 1 (by decide) rfl) (il_oneCell [rinC l i x]) (by omega) ?_)
            intro v' w5 hO5 _
            go_wp2_with fail
            go_roundw
            case rel => exact ⟨i + 1, by omega, by go_num, by rw [rinL, il_snoc, ← HXE.out]; exact hO5⟩
            case measure => simp [intOf]; omega
      · have hin : i = n := by omega
        have HIN := Lib.hid hin
        clear hin
        go_wp2_with fail
        go_ret2
        rw [HR.out]
        refine ⟨_, rfl, ?_⟩
        have h5 := hB.since K1
        rw [HIN.out] at h5
        rw [rinL_len]
        exact h5
  · have HR : Hid (rinflErr l n = ([], er)) := by show rinflErr l n = _; rw [HW.out, if_pos hz]
    have hb : (er != 0) = true := by simpa using hz
    clear hgr
    go_enter Tryd.func21, Tryd.ntmps21
    go_wp2_with fail
    refine HG.out.mono ?_
    rintro e w1 ⟨rfl, K1⟩
    go_wp2_with fail
    go_ret2
    rw [HR.out]
    exact ⟨_, rfl, Own.nil _ _ K1⟩

def eqN : List Nat → List Nat → Bool
  | x :: xs, y :: ys => if x != y then false else eqN xs ys
  | _, _ => true
def sameN (l m : List Nat) : Bool := if l.length != m.length then false else eqN l m
theorem eqN_refl : ∀ l : List Nat, eqN l l = true
  | [] => rfl
  | x :: xs => by rw [eqN]; simp [eqN_refl xs]
theorem sameN_refl (l : List Nat) : sameN l l = true := by unfold sameN; simp [eqN_refl]
theorem Rd.atN {w : World} {a : Option Addr} {n c : Nat} {l : List Nat} (h : Rd w a n c 1 (il l)) {i : Nat} (hi : i < n) : w.cell? (adr a i) = some (.int .i64 ((im l i : Nat) : Int)) :=
  h.cell i _ (il_at l i (by have := h.len; rw [length_il] at this; omega))
theorem Rd.lenN {w : World} {a : Option Addr} {n c : Nat} {l : List Nat} (h : Rd w a n c 1 (il l)) : l.length = n := by have := h.len; rw [length_il] at this; omega
theorem dropMH {l : List Nat} {n i : Nat} (L : Hid (l.length = n)) (h : i < n) : l.drop i = im l i :: l.drop (i + 1) := drop_im l i (by have := L.out; omega)
theorem dropMN {l : List Nat} {n i : Nat} (L : Hid (l.length = n)) (h : ¬ i < n) : l.drop i = [] := List.drop_eq_nil_iff.2 (by have := L.out; omega)
set_option maxHeartbeats 800000 in
theorem numbers_any (a : Option Addr) (n c : Nat) (l : List Nat) (a2 : Option Addr) (n2 c2 : Nat) (l2 : List Nat) (w : World) (h : Rd w a n c 1 (il l)) (h2 : Rd w a2 n2 c2 1 (il l2)) :
    Calls Tryd.prog 22 #[.slice a n c, .slice a2 n2 c2] w fun e w' => e = .returned (.bool (sameN l l2)) ∧ Keeps w w' := by
  have L := Lib.hid h.lenN
  have L2 := Lib.hid h2.lenN
  have s1 := h.small
  by_cases hn : n = n2
  · subst hn
    have he : Hid (sameN l l2 = eqN l l2) := by show _ = _; unfold sameN; rw [if_neg (by have := L.out; have := L2.out; simp; omega)]
    go_enter Tryd.func22, Tryd.ntmps22
    go_wp2
    go_loopw [5] (fun v wr => ∃ (k : Nat), k ≤ n ∧ v = .int .i64 k ∧ Keeps w wr ∧ Hid (sameN l l2 = eqN (l.drop k) (l2.drop k))) (fun v _ => n - (intOf v).toNat)
    case atStart => exact ⟨0, Nat.zero_le _, rfl, Keeps.refl _, he⟩
    case round =>
      obtain ⟨k, hk, rfl, K1, HI⟩ := hrel
      by_cases hlt : k < n
      · have hc := (h.keep K1).atN hlt
        have hc2 := (h2.keep K1).atN hlt
        have hs := h.isSome (by omega)
        have hs2 := h2.isSome (by omega)
        have hst := HI.out
        rw [dropMH L hlt, dropMH L2 hlt, eqN] at hst
        by_cases hxy : im l k = im l2 k
        · have HJ : Hid (sameN l l2 = eqN (l.drop (k + 1)) (l2.drop (k + 1))) := by show _ = _; rw [hst, hxy]; simp
          have hb : (((im l k : Nat) : Int) != ((im l2 k : Nat) : Int)) = false := by rw [hxy]; simp
          clear hst HI hxy
          go_wp2_with (go_quiet (fail))
          go_roundw
          case rel => exact ⟨k + 1, by omega, rfl, K1.drewN _, HJ⟩
          case measure => simp [intOf]; omega
        · have HJ : Hid (sameN l l2 = false) := by show _ = _; rw [hst, if_pos (by simpa using hxy)]
          have hb : (((im l k : Nat) : Int) != ((im l2 k : Nat) : Int)) = true := by rw [bne_iff_ne]; omega
          clear hst HI hxy
          go_wp2_with (go_quiet (fail))
          go_ret
          rw [HJ.out]
          exact ⟨rfl, K1.drewN _⟩
      · have HJ : Hid (sameN l l2 = true) := by
          show _ = _
          rw [HI.out, dropMN L hlt]; simp [eqN]
        clear HI
        go_wp2
        go_ret
        rw [HJ.out]
        exact ⟨rfl, K1⟩
  · have he : sameN l l2 = false := by unfold sameN; rw [if_pos (by have := L.out; have := L2.out; simp; omega)]
    rw [he]
    have hb : ((n : Int) != (n2 : Int)) = true := by rw [bne_iff_ne]; omega
    clear he
    go_enter Tryd.func22, Tryd.ntmps22
    go_wp2
    go_ret
    exact ⟨rfl, Keeps.refl _⟩
end Go.Proofs.YtbiggfbbccpcmaaDoor
