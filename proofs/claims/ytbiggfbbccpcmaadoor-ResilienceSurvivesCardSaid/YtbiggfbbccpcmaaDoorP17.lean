/- resilience: Of, Critical, among, Idle, exchanged, symmetric, Symmetric. -/
import Derived.Test.YtbiggfbbccpcmaaDoorExtM
namespace Go.Proofs.YtbiggfbbccpcmaaDoor
open Go.RowKit Go.Lib Go.Shelf

theorem bits_xor_u16_nat (a b : Nat) (ha : a < 65536) (hb : b < 65536) : bits .xor .u16 (a : Int) (b : Int) = ((a ^^^ b : Nat) : Int) := by
  have hx : a ^^^ b < 2 ^ 16 := Nat.xor_lt_two_pow (by omega) (by omega)
  have h1 : (BitVec.ofInt 16 (a : Int)).toNat = a := by
    rw [BitVec.ofInt_natCast, BitVec.toNat_ofNat]; exact Nat.mod_eq_of_lt (by omega)
  have h2 : (BitVec.ofInt 16 (b : Int)).toNat = b := by
    rw [BitVec.ofInt_natCast, BitVec.toNat_ofNat]; exact Nat.mod_eq_of_lt (by omega)
  show IntKind.u16.wrap ((BitVec.ofInt 16 (a : Int) ^^^ BitVec.ofInt 16 (b : Int)).toNat : Int) = _
  rw [BitVec.toNat_xor, h1, h2, IntKind.wrap_u16]
  omega
@[go_sem] theorem sv_xor (x y : S) : bits .xor .u16 (sv x) (sv y) = sv (x ^^^ y) := by
  unfold sv; rw [bits_xor_u16_nat _ _ x.isLt y.isLt, BitVec.toNat_xor]

@[go_sem] theorem sv_beq1 (x : S) : (sv x == 1) = (x == 1#16) := by
  have : (1 : Int) = sv 1#16 := rfl
  rw [this, sv_beq]
theorem least_ok {l : List S} (h : validS l = 0) : minimalS l = (l, 0) := by
  have hf := (valid_iff l).1 h
  have := leastP_self hf.asc hf.anti
  rw [minimalS_ok hf.low (by rw [this]; exact hf.len), this]

/-- the resilience, and the error -/
def ofErr (l : List S) : Int × Int := if validS l ≠ 0 then (0, validS l) else if l.length = 0 then (0, 9) else if (leastErr l).2 ≠ 0 then (0, (leastErr l).2) else ((cnt (leastErr l).1 : Int) - 1, 0)
def RetI (r : Int × Int) (e : Ending) : Prop := e = .returned (.tuple #[.int .i64 r.1, .int .i64 r.2])
theorem of_any (a : Option Addr) (n c : Nat) (l : List S) (w : World) (hT : Tab w) (h : Rd w a n c 1 (sl l)) :
    Calls Tryd.prog 12 #[.slice a n c] w fun e w' => RetI (ofErr l) e ∧ Keeps w w' := by
  have hv := valid_any a n c l w h
  have hl := fun W (k : Keeps w W) => leastT_any a n c l W (hT.keep k) (h.keep k) (fun hv => valid_small hv)
  have L := h.lenS
  unfold ofErr
  rw [L]
  generalize validS l = vl at *
  generalize leastErr l = r at *
  obtain ⟨s, er⟩ := r
  simp only at hl ⊢
  have hcn := cnt_le s
  have hcount := fun W => count_any s W
  have HV := Lib.hid hv; have HL := Lib.hid hl; have HC := Lib.hid hcount
  clear hv hl hcount h hT L
  by_cases hz : vl = 0
  · subst hz
    rw [if_neg (by simp)]
    by_cases h0 : n = 0
    · subst h0
      rw [if_pos rfl]
      go_enter Tryd.func12, Tryd.ntmps12
      go_wp2_with fail
      refine HV.out.mono ?_
      rintro e w1 ⟨rfl, K1⟩
      go_wp2_with fail
      go_ret2
      exact ⟨rfl, K1⟩
    · rw [if_neg h0]
      have h0b : ((n : Int) == 0) = false := by rw [beq_eq_false_iff_ne]; omega
      by_cases he : er = 0
      · subst he
        rw [if_neg (by simp)]
        go_enter Tryd.func12, Tryd.ntmps12
        go_wp2_with fail
        refine HV.out.mono ?_
        rintro e w1 ⟨rfl, K1⟩
        go_wp2_with fail
        refine (HL.out _ K1).mono ?_
        rintro e w2 ⟨rfl, K2⟩
        go_wp2_with fail
        refine (HC.out _).mono ?_
        rintro e w3 ⟨rfl, nd, rfl⟩
        go_wp2_with fail
        go_ret2
        exact ⟨rfl, (K1.trans K2).drewN _⟩
      · rw [if_pos he]
        have hb : (er != 0) = true := by simpa using he
        go_enter Tryd.func12, Tryd.ntmps12
        go_wp2_with fail
        refine HV.out.mono ?_
        rintro e w1 ⟨rfl, K1⟩
        go_wp2_with fail
        refine (HL.out _ K1).mono ?_
        rintro e w2 ⟨rfl, K2⟩
        go_wp2_with fail
        go_ret2
        exact ⟨rfl, K1.trans K2⟩
  · rw [if_pos hz]
    have hb : (vl != 0) = true := by simpa using hz
    go_enter Tryd.func12, Tryd.ntmps12
    go_wp2_with fail
    refine HV.out.mono ?_
    rintro e w1 ⟨rfl, K1⟩
    go_wp2_with fail
    go_ret2
    exact ⟨rfl, K1⟩

/-- the common servers -/
def critR : S → List S → S
  | acc, [] => acc
  | acc, s :: rest => critR (acc &&& s) rest
def critS (l : List S) : S := critR 65535#16 l
theorem critical_any (a : Option Addr) (n c : Nat) (l : List S) (w : World) (h : Rd w a n c 1 (sl l)) :
    Calls Tryd.prog 29 #[.slice a n c] w fun e w' => e = .returned (.int .u16 (sv (critS l))) ∧ w = w' := by
  have L := Lib.hid h.lenS
  have s1 := h.small
  go_enter Tryd.func29, Tryd.ntmps29
  go_wp2
  go_loopw [3, 8] (fun u v wr => ∃ (k : Nat) (acc : S), k ≤ n ∧ v = .int .i64 k ∧ u = .int .u16 (sv acc) ∧ w = wr ∧ Hid (critS l = critR acc (l.drop k))) (fun _ v _ => n - (intOf v).toNat)
  case atStart => exact ⟨0, 65535#16, Nat.zero_le _, rfl, rfl, rfl, rfl⟩
  case round =>
    obtain ⟨k, acc, hk, rfl, rfl, rfl, HI⟩ := hrel
    by_cases hlt : k < n
    · have hc := h.at hlt
      have hs := h.isSome (by omega)
      have HJ : Hid (critS l = critR (acc &&& at_ l k) (l.drop (k + 1))) := by have := HI.out; rw [dropH L hlt] at this; exact this
      clear HI
      go_wp2
      go_roundw
      case rel => exact ⟨k + 1, _, by omega, rfl, rfl, trivial, HJ⟩
      case measure => simp [intOf]; omega
    · have HJ : Hid (critS l = acc) := by have := HI.out; rw [dropN L hlt] at this; exact this
      clear HI
      go_wp2
      go_ret
      rw [HJ.out]
      exact ⟨rfl, rfl⟩
theorem rCritical_any (a : Option Addr) (n c : Nat) (l : List S) (w : World) (h : Rd w a n c 1 (sl l)) :
    Calls Tryd.prog 30 #[.slice a n c] w fun e w' => e = .returned (.int .u16 (sv (critS l))) ∧ w = w' := by
  have L := Lib.hid h.lenS
  have s1 := h.small
  go_enter Tryd.func30, Tryd.ntmps30
  go_wp2
  go_loopw [3, 4] (fun u v wr => ∃ (k : Nat) (acc : S), k ≤ n ∧ v = .int .i64 k ∧ u = .int .u16 (sv acc) ∧ w = wr ∧ Hid (critS l = critR acc (l.drop k))) (fun _ v _ => n - (intOf v).toNat)
  case atStart => exact ⟨0, 65535#16, Nat.zero_le _, rfl, rfl, rfl, rfl⟩
  case round =>
    obtain ⟨k, acc, hk, rfl, rfl, rfl, HI⟩ := hrel
    by_cases hlt : k < n
    · have hc := h.at hlt
      have hs := h.isSome (by omega)
      have HJ : Hid (critS l = critR (acc &&& at_ l k) (l.drop (k + 1))) := by have := HI.out; rw [dropH L hlt] at this; exact this
      clear HI
      go_wp2
      go_roundw
      case rel => exact ⟨k + 1, _, by omega, rfl, rfl, trivial, HJ⟩
      case measure => simp [intOf]; omega
    · have HJ : Hid (critS l = acc) := by have := HI.out; rw [dropN L hlt] at this; exact this
      clear HI
      go_wp2
      go_ret
      rw [HJ.out]
      exact ⟨rfl, rfl⟩

/-- the first n servers, for a family among them -/
def amongErr (l : List S) (n : Int) : S × Int := if validS l ≠ 0 then (0#16, validS l) else if n < 0 ∨ 12 < n then (0#16, 7) else if (supS l &&& ~~~fullS n.toNat != 0#16) = true then (0#16, 7) else (fullS n.toNat, 0)
theorem among_any (a : Option Addr) (m c : Nat) (l : List S) (n : Int) (w : World) (h : Rd w a m c 1 (sl l)) :
    Calls Tryd.prog 47 #[.slice a m c, .int .i64 n] w fun e w' => RetE (amongErr l n) e ∧ Keeps w w' := by
  have hv := valid_any a m c l w h
  have hs := fun W (k : Keeps w W) => support_any a m c l W (h.keep k)
  unfold amongErr
  generalize validS l = vl at *
  generalize supS l = s at *
  have HV := Lib.hid hv; have HS := Lib.hid hs
  clear hv hs h
  by_cases hz : vl = 0
  · subst hz
    rw [if_neg (by simp)]
    by_cases hn : n < 0 ∨ 12 < n
    · rw [if_pos hn]
      rcases Int.lt_or_le n 0 with h1 | h1
      · clear hn
        have h2 : decide (n < 0) = true := by simpa using h1
        go_enter Tryd.func47, Tryd.ntmps47
        go_wp2_with fail
        refine HV.out.mono ?_
        rintro e w1 ⟨rfl, K1⟩
        go_wp2_with fail
        go_ret2
        exact ⟨rfl, K1⟩
      · have h2 : decide (n < 0) = false := by simpa using h1
        have h3 : (12 : Int) < n := by omega
        have h4 : decide ((12 : Int) < n) = true := by simpa using h3
        clear hn
        go_enter Tryd.func47, Tryd.ntmps47
        go_wp2_with fail
        refine HV.out.mono ?_
        rintro e w1 ⟨rfl, K1⟩
        go_wp2_with fail
        go_ret2
        exact ⟨rfl, K1⟩
    · rw [if_neg hn]
      obtain ⟨k, rfl⟩ : ∃ k : Nat, n = k := ⟨n.toNat, by omega⟩
      have hk : k ≤ 12 := by omega
      have h2 : decide ((k : Int) < 0) = false := by simp
      have h3 : ¬ (12 : Int) < k := by omega
      have h4 : decide ((12 : Int) < k) = false := by simpa using h3
      rw [Int.toNat_natCast]
      clear hn
      have hfd : fullS k = (1#16 <<< k) - 1#16 := rfl
      rw [hfd]
      clear hfd
      by_cases hout : (s &&& ~~~((1#16 <<< k) - 1#16) != 0#16) = true
      · rw [if_pos hout]
        go_enter Tryd.func47, Tryd.ntmps47
        go_wp2_with fail
        refine HV.out.mono ?_
        rintro e w1 ⟨rfl, K1⟩
        go_wp2_with fail
        refine (HS.out _ K1).mono ?_
        rintro e w2 ⟨rfl, rfl⟩
        go_wp2_with fail
        go_ret2
        exact ⟨rfl, K1⟩
      · rw [if_neg hout]
        have hout' : (s &&& ~~~((1#16 <<< k) - 1#16) != 0#16) = false := by simpa using hout
        clear hout
        go_enter Tryd.func47, Tryd.ntmps47
        go_wp2_with fail
        refine HV.out.mono ?_
        rintro e w1 ⟨rfl, K1⟩
        go_wp2_with fail
        refine (HS.out _ K1).mono ?_
        rintro e w2 ⟨rfl, rfl⟩
        go_wp2_with fail
        go_ret2
        exact ⟨rfl, K1⟩
  · rw [if_pos hz]
    have hb : (vl != 0) = true := by simpa using hz
    go_enter Tryd.func47, Tryd.ntmps47
    go_wp2_with fail
    refine HV.out.mono ?_
    rintro e w1 ⟨rfl, K1⟩
    go_wp2_with fail
    go_ret2
    exact ⟨rfl, K1⟩
theorem among_valid {l : List S} {n : Int} (h : (amongErr l n).2 = 0) : validS l = 0 ∧ 0 ≤ n ∧ n ≤ 12 ∧ (amongErr l n).1 = fullS n.toNat ∧ supS l &&& ~~~fullS n.toNat = 0#16 := by
  unfold amongErr at h ⊢
  by_cases hz : validS l = 0
  · rw [if_neg (by simpa using hz)] at h ⊢
    by_cases hn : n < 0 ∨ 12 < n
    · rw [if_pos hn] at h; exact absurd h (by decide)
    · rw [if_neg hn] at h ⊢
      by_cases hout : (supS l &&& ~~~fullS n.toNat != 0#16) = true
      · rw [if_pos hout] at h; exact absurd h (by decide)
      · rw [if_neg hout]; exact ⟨hz, by omega, by omega, rfl, by simpa using hout⟩
  · rw [if_pos hz] at h; exact absurd h hz

/-- the servers in no minimal set -/
def idleErr (l : List S) (n : Int) : S × Int := if (amongErr l n).2 ≠ 0 then (0#16, (amongErr l n).2) else ((amongErr l n).1 &&& ~~~supS l, 0)
theorem idle_any (a : Option Addr) (m c : Nat) (l : List S) (n : Int) (w : World) (h : Rd w a m c 1 (sl l)) (hm : m ≤ 1000000) :
    Calls Tryd.prog 27 #[.slice a m c, .int .i64 n] w fun e w' => RetE (idleErr l n) e ∧ Keeps w w' := by
  have ha := among_any a m c l n w h
  have hmi := fun (he : (amongErr l n).2 = 0) W (k : Keeps w W) => minimal_any a m c l W (h.keep k) hm
  have hok := fun (he : (amongErr l n).2 = 0) => least_ok (among_valid he).1
  unfold idleErr
  unfold RetE at ha
  generalize amongErr l n = r at *
  obtain ⟨s, er⟩ := r
  simp only at *
  by_cases he : er = 0
  · subst he
    rw [if_neg (by simp)]
    have h1 := hmi rfl
    rw [hok rfl] at h1
    unfold RetS at h1
    simp only at h1
    have hs := fun W a c (hr : Rd W a l.length c 1 (sl l)) => support_any a l.length c l W hr
    have HA := Lib.hid ha; have H1 := Lib.hid h1; have HS := Lib.hid hs
    clear ha hmi hok h1 hs h
    go_enter Tryd.func27, Tryd.ntmps27
    go_wp2_with fail
    refine HA.out.mono ?_
    rintro e w1 ⟨rfl, K1⟩
    go_wp2_with fail
    refine (H1.out _ K1).mono ?_
    rintro e w2 ⟨v2, rfl, hO⟩
    obtain ⟨a2, c2, rfl, hR⟩ := hO.rd
    go_wp2_with fail
    refine (HS.out _ _ _ hR).mono ?_
    rintro e w3 ⟨rfl, rfl⟩
    go_wp2_with fail
    go_ret2
    exact ⟨rfl, K1.trans hO.2⟩
  · rw [if_pos he]
    have hb : (er != 0) = true := by simpa using he
    have HA := Lib.hid ha
    clear ha hmi hok h
    go_enter Tryd.func27, Tryd.ntmps27
    go_wp2_with fail
    refine HA.out.mono ?_
    rintro e w1 ⟨rfl, K1⟩
    go_wp2_with fail
    go_ret2
    exact ⟨rfl, K1⟩

/-- two servers exchanged -/
def exS (s : S) (i k : Nat) : S := if ((s >>> i) &&& 1#16 != (s >>> k) &&& 1#16) = true then s ^^^ ((1#16 <<< i) ||| (1#16 <<< k)) else s
theorem exchanged_any (s : S) (i k : Nat) (w : World) (hi : i ≤ 15) (hk : k ≤ 15) :
    Calls Tryd.prog 73 #[.int .u16 (sv s), .int .i64 i, .int .i64 k] w fun e w' => e = .returned (.int .u16 (sv (exS s i k))) ∧ ∃ n, w' = w.drewN n := by
  unfold exS
  have i0 : (0 : Int) ≤ (i : Int) := by omega
  have k0 : (0 : Int) ≤ (k : Int) := by omega
  have i1 : (i : Int) ≤ 15 := by omega
  have k1 : (k : Int) ≤ 15 := by omega
  by_cases hq : ((s >>> i) &&& 1#16 != (s >>> k) &&& 1#16) = true
  · rw [if_pos hq]
    go_enter Tryd.func73, Tryd.ntmps73
    go_wp2_with (go_quiet (fail))
    go_ret
    exact ⟨rfl, _, World.drewN_drewN _ _ _⟩
  · rw [if_neg hq]
    have hq' : ((s >>> i) &&& 1#16 != (s >>> k) &&& 1#16) = false := by simpa using hq
    clear hq
    go_enter Tryd.func73, Tryd.ntmps73
    go_wp2_with (go_quiet (fail))
    go_ret
    exact ⟨rfl, _, rfl⟩
end Go.Proofs.YtbiggfbbccpcmaaDoor
