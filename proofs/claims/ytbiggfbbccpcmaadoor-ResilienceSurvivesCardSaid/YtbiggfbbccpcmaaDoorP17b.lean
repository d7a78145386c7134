/- resilience: symmetric, Symmetric, Classes. -/
import Derived.Test.YtbiggfbbccpcmaaDoorP17
namespace Go.Proofs.YtbiggfbbccpcmaaDoor
open Go.RowKit Go.Lib Go.Shelf

/-- two servers are exchangeable in a list -/
def symB (m : List S) (i k : Nat) : Bool := !(m.any fun s => !m.contains (exS s i k))
theorem symPred (m l : List S) (i k : Nat) (hi : i ≤ 15) (hk : k ≤ 15) (a : Option Addr) (n c : Nat) (B1 B2 B3 : Nat) (w : World) (h : Rd w a n c 1 (sl m))
    (h1 : w.cell? ⟨B1, 0, none⟩ = some (.slice a n c)) (h2 : w.cell? ⟨B2, 0, none⟩ = some (.int .i64 i)) (h3 : w.cell? ⟨B3, 0, none⟩ = some (.int .i64 k)) :
    PredK Tryd.prog 71 #[.pointer (some ⟨B1, 0, none⟩), .pointer (some ⟨B2, 0, none⟩), .pointer (some ⟨B3, 0, none⟩)] vs (fun s => !m.contains (exS s i k)) l w := fun W x _ hk' => by
  have c1 := hk'.cell h1; have c2 := hk'.cell h2; have c3 := hk'.cell h3
  have hex := fun W => exchanged_any x i k W hi hk
  generalize hxe : exS x i k = y at hex
  have hcon := fun V (K : Keeps W V) => (contains_s_any a n c m y V ((h.keep hk').keep K)).mono fun e w' ⟨p, q⟩ => (⟨p, q.symm⟩ : e = _ ∧ w' = V)
  generalize hr : m.contains y = r at hcon
  have HX := Lib.hid hxe; have HR := Lib.hid hr; have HE := Lib.hid hex; have HC := Lib.hid hcon
  clear hxe hr hex hcon
  show Calls Tryd.prog 71 #[.int .u16 (sv x), .pointer (some ⟨B1, 0, none⟩), .pointer (some ⟨B2, 0, none⟩), .pointer (some ⟨B3, 0, none⟩)] W _
  go_enter Tryd.func71, Tryd.ntmps71
  go_wp2_with (go_quiet ((first | (go_at_call 73; exact Calls.quiet_of (HE.out _)) | (go_at_call 72; exact Calls.quiet_of_same (HC.out _ ((Keeps.refl _).drewN _))))))
  go_ret
  exact ⟨by show Ending.returned (.bool (!r)) = .returned (.bool (!m.contains (exS x i k))); rw [HX.out, HR.out], (Keeps.refl _).drewN _⟩
theorem symmetric_any (a : Option Addr) (n c : Nat) (m : List S) (i k : Nat) (w : World) (h : Rd w a n c 1 (sl m)) (hi : i ≤ 15) (hk : k ≤ 15) :
    Calls Tryd.prog 52 #[.slice a n c, .int .i64 i, .int .i64 k] w fun e w' => e = .returned (.bool (symB m i k)) ∧ Keeps w w' := by
  have eg : ∀ args w, (callFunc 71 args).run Tryd.prog w = .ok (.enter 71 args) w := enters_of Tryd.func71 (by kernel_rfl) rfl
  have hK : Keeps w (((w.alloc (.cells #[.slice a n c] 23)).alloc (.cells #[.int .i64 i] 3)).alloc (.cells #[.int .i64 k] 3)) := (((Keeps.refl w).alloc _).alloc _).alloc _
  have b1 := (((Boxed.new w 23 (.slice a n c)).alloc (.cells #[.int .i64 i] 3)).alloc (.cells #[.int .i64 k] 3)).cell
  have b2 := ((Boxed.new (w.alloc (.cells #[.slice a n c] 23)) 3 (.int .i64 i)).alloc (.cells #[.int .i64 k] 3)).cell
  have b3 := (Boxed.new ((w.alloc (.cells #[.slice a n c] 23)).alloc (.cells #[.int .i64 i] 3)) 3 (.int .i64 k)).cell
  simp only [World.size_alloc] at b2 b3
  have hcon := containsFuncS_any a n c m _ 71 #[.pointer (some ⟨w.heap.size, 0, none⟩), .pointer (some ⟨w.heap.size + 1, 0, none⟩), .pointer (some ⟨w.heap.size + 1 + 1, 0, none⟩)] (fun s => !m.contains (exS s i k)) (h.keep hK) eg
    (symPred m m i k hi hk a n c w.heap.size (w.heap.size + 1) (w.heap.size + 1 + 1) _ (h.keep hK) b1 b2 b3)
  unfold symB
  generalize (m.any fun s => !m.contains (exS s i k)) = r at hcon ⊢
  have HC := Lib.hid hcon
  clear hcon eg h b1 b2 b3
  go_enter Tryd.func52, Tryd.ntmps52
  go_wp2_with fail
  refine HC.out.mono ?_
  rintro e w' ⟨rfl, K2⟩
  go_wp2_with fail
  go_ret
  exact ⟨rfl, hK.trans K2⟩

/-- whether two numbers are those of exchangeable servers -/
def symS (l : List S) (i k : Int) : Bool := validS l == 0 && (decide (0 ≤ i) && (decide (i < 12) && (decide (0 ≤ k) && (decide (k < 12) && symB l i.toNat k.toNat))))
theorem symmetricX_any (a : Option Addr) (n c : Nat) (l : List S) (i k : Int) (w : World) (h : Rd w a n c 1 (sl l)) (hn : n ≤ 1000000) :
    Calls Tryd.prog 25 #[.slice a n c, .int .i64 i, .int .i64 k] w fun e w' => e = .returned (.bool (symS l i k)) ∧ Keeps w w' := by
  have hv := valid_any a n c l w h
  have hmi := fun (he : validS l = 0) W (k : Keeps w W) => minimal_any a n c l W (h.keep k) hn
  have hok := fun (he : validS l = 0) => least_ok he
  unfold symS
  generalize validS l = vl at *
  by_cases hz : vl = 0
  · subst hz
    have h1 := hmi rfl
    rw [hok rfl] at h1
    unfold RetS at h1
    simp only at h1
    have HV := Lib.hid hv; have H1 := Lib.hid h1
    clear hv hmi hok h1 h
    by_cases i0 : i < 0
    · have e0 : decide (i < 0) = true := by simpa using i0
      go_enter Tryd.func25, Tryd.ntmps25
      go_wp2_with fail
      refine HV.out.mono ?_
      rintro e w1 ⟨rfl, K1⟩
      go_wp2_with fail
      go_ret
      exact ⟨by simp; intros; omega, K1⟩
    · have e0 : decide (i < 0) = false := by simpa using i0
      by_cases i1 : 12 ≤ i
      · have e2 : decide (12 ≤ i) = true := by simpa using i1
        go_enter Tryd.func25, Tryd.ntmps25
        go_wp2_with fail
        refine HV.out.mono ?_
        rintro e w1 ⟨rfl, K1⟩
        go_wp2_with fail
        go_ret
        exact ⟨by simp; intros; omega, K1⟩
      · have e2 : decide (12 ≤ i) = false := by simpa using i1
        by_cases k0 : k < 0
        · have e3 : decide (k < 0) = true := by simpa using k0
          go_enter Tryd.func25, Tryd.ntmps25
          go_wp2_with fail
          refine HV.out.mono ?_
          rintro e w1 ⟨rfl, K1⟩
          go_wp2_with fail
          go_ret
          exact ⟨by simp; intros; omega, K1⟩
        · have e3 : decide (k < 0) = false := by simpa using k0
          by_cases k1 : 12 ≤ k
          · have e4 : decide (12 ≤ k) = true := by simpa using k1
            go_enter Tryd.func25, Tryd.ntmps25
            go_wp2_with fail
            refine HV.out.mono ?_
            rintro e w1 ⟨rfl, K1⟩
            go_wp2_with fail
            go_ret
            exact ⟨by simp; intros; omega, K1⟩
          · have e4 : decide (12 ≤ k) = false := by simpa using k1
            obtain ⟨i, rfl⟩ : ∃ j : Nat, i = j := ⟨i.toNat, by omega⟩
            obtain ⟨k, rfl⟩ : ∃ j : Nat, k = j := ⟨k.toNat, by omega⟩
            have hs := fun W a c (hr : Rd W a l.length c 1 (sl l)) => symmetric_any a l.length c l i k W hr (by omega) (by omega)
            have r1 : decide ((0 : Int) ≤ (i : Int)) = true := by simp
            have r2 : decide ((i : Int) < 12) = true := by rw [decide_eq_true_eq]; omega
            have r3 : decide ((0 : Int) ≤ (k : Int)) = true := by simp
            have r4 : decide ((k : Int) < 12) = true := by rw [decide_eq_true_eq]; omega
            rw [r1, r2, r3, r4, Int.toNat_natCast, Int.toNat_natCast]
            generalize symB l i k = q at *
            have HS := Lib.hid hs
            clear hs r1 r2 r3 r4
            go_enter Tryd.func25, Tryd.ntmps25
            go_wp2_with fail
            refine HV.out.mono ?_
            rintro e w1 ⟨rfl, K1⟩
            go_wp2_with fail
            refine (H1.out _ K1).mono ?_
            rintro e w2 ⟨v2, rfl, hO⟩
            obtain ⟨a2, c2, rfl, hR⟩ := hO.rd
            go_wp2_with fail
            refine (HS.out _ _ _ hR).mono ?_
            rintro e w3 ⟨rfl, K3⟩
            go_wp2_with fail
            go_ret
            exact ⟨by simp, (K1.trans hO.2).trans K3⟩
  · have hb : (vl != 0) = true := by simpa using hz
    have hb2 : (vl == 0) = false := by simpa using hz
    rw [hb2]
    have HV := Lib.hid hv
    clear hv hmi hok h
    go_enter Tryd.func25, Tryd.ntmps25
    go_wp2_with fail
    refine HV.out.mono ?_
    rintro e w1 ⟨rfl, K1⟩
    go_wp2_with fail
    go_ret
    exact ⟨by simp, K1⟩

/-- the class of i: the servers k, k + 1, .. that are exchangeable with it -/
def clsIn (m : List S) (i : Nat) : Nat → Nat → S → S
  | 0, _, acc => acc
  | c + 1, k, acc => clsIn m i c (k + 1) (if symB m i k = true then acc ||| (1#16 <<< k) else acc)
def clsR (m : List S) (n : Nat) : Nat → Nat → S → List S → List S
  | 0, _, _, out => out
  | c + 1, i, d, out => if ((d >>> i) &&& 1#16 == 1#16) = true then clsR m n c (i + 1) d out else clsR m n c (i + 1) (d ||| clsIn m i (n - i) i 0#16) (out ++ [clsIn m i (n - i) i 0#16])
def clsErr (l : List S) (n : Int) : List S × Int := if (amongErr l n).2 ≠ 0 then ([], (amongErr l n).2) else (clsR l n.toNat n.toNat 0 0#16 [], 0)
set_option maxHeartbeats 1600000 in
theorem classes_any (a : Option Addr) (m c : Nat) (l : List S) (n : Int) (w : World) (h : Rd w a m c 1 (sl l)) (hm : m ≤ 1000000) :
    Calls Tryd.prog 23 #[.slice a m c, .int .i64 n] w fun e w' => RetS w (clsErr l n) e w' := by
  have ha := among_any a m c l n w h
  have hmi := fun (he : (amongErr l n).2 = 0) W (k : Keeps w W) => minimal_any a m c l W (h.keep k) hm
  have hok := fun (he : (amongErr l n).2 = 0) => least_ok (among_valid he).1
  have hnn := fun (he : (amongErr l n).2 = 0) => And.intro (among_valid he).2.1 (among_valid he).2.2.1
  unfold clsErr
  unfold RetE at ha
  generalize amongErr l n = r at *
  obtain ⟨s, er⟩ := r
  simp only at *
  by_cases he : er = 0
  · subst he
    rw [if_neg (by simp)]
    have h1 := hmi rfl
    rw [hok rfl] at h1
    unfold RetS at h1
    simp only at h1
    obtain ⟨n0, n1⟩ := hnn rfl
    obtain ⟨n, rfl⟩ : ∃ j : Nat, n = j := ⟨n.toNat, by omega⟩
    rw [Int.toNat_natCast]
    have n2 : n ≤ 12 := by omega
    have hsy := fun W a c i k (hi : i < n) (hk : k < n) (hr : Rd W a l.length c 1 (sl l)) => symmetric_any a l.length c l i k W hr (by omega) (by omega)
    have HA := Lib.hid ha; have H1 := Lib.hid h1; have HS := Lib.hid hsy
    clear ha hmi hok h1 hsy h hnn
    go_enter Tryd.func23, Tryd.ntmps23
    go_wp2_with fail
    refine HA.out.mono ?_
    rintro e w1 ⟨rfl, K1⟩
    go_wp2_with fail
    refine (H1.out _ K1).mono ?_
    rintro e w2 ⟨v2, rfl, hO⟩
    obtain ⟨a2, c2, rfl, hR⟩ := hO.rd
    have K2 := K1.trans hO.2
    go_wp2_with fail
    go_loopw [10, 11, 33] (fun u d v wr => ∃ (i : Nat) (out : List S) (dn : S), i ≤ n ∧ v = .int .i64 i ∧ d = .int .u16 (sv dn) ∧ out.length ≤ i ∧ Own 31 1 w2 wr u out.length (sl out) ∧ Hid (clsR l n n 0 0#16 [] = clsR l n (n - i) i dn out)) (fun _ _ v _ => n - (intOf v).toNat)
    case atStart => exact ⟨0, [], 0#16, Nat.zero_le _, rfl, rfl, Nat.zero_le _, Own.nil _ _ (Keeps.refl _), rfl⟩
    case round =>
      obtain ⟨i, out, dn, hi, rfl, rfl, hol, hB, HI⟩ := hrel
      by_cases hlt : i < n
      · have hst := HI.out
        rw [show n - i = (n - (i + 1)) + 1 by omega, clsR] at hst
        by_cases hd : ((dn >>> i) &&& 1#16 == 1#16) = true
        · rw [if_pos hd] at hst
          have HST := Lib.hid hst; clear hst HI
          go_wp2_with fail
          go_roundw
          case rel => exact ⟨i + 1, out, dn, by omega, by go_num, rfl, by omega, hB, HST⟩
          case measure => simp [intOf]; omega
        · rw [if_neg hd] at hst
          have hd' : ((dn >>> i) &&& 1#16 == 1#16) = false := by simpa using hd
          have HST := Lib.hid hst; clear hst HI hd
          obtain ⟨wo, rfl⟩ : ∃ wo : World, wo = wr := ⟨_, rfl⟩
          go_wp2_with fail
          go_loopw [13, 14] (fun u v wx => ∃ (k : Nat) (acc : S), i ≤ k ∧ k ≤ n ∧ v = .int .i64 k ∧ u = .int .u16 (sv acc) ∧ Keeps wo wx ∧ Hid (clsIn l i (n - i) i 0#16 = clsIn l i (n - k) k acc)) (fun _ v _ => n - (intOf v).toNat)
          case atStart => exact ⟨i, 0#16, Nat.le_refl _, by omega, rfl, rfl, Keeps.refl _, rfl⟩
          case round =>
            obtain ⟨k, acc, hik, hk, rfl, rfl, K3, HK⟩ := hrel
            by_cases hkn : k < n
            · have hst := HK.out
              rw [show n - k = (n - (k + 1)) + 1 by omega, clsIn] at hst
              have hcall := HS.out wr _ _ i k hlt hkn (hR.keep (hB.2.trans K3))
              cases hq : symB l i k with
              | true =>
                rw [hq] at hcall hst
                have HCALL := Lib.hid hcall
                have HST2 : Hid (clsIn l i (n - i) i 0#16 = clsIn l i (n - (k + 1)) (k + 1) (acc ||| (1#16 <<< k))) := by show _ = _; rw [hst]; simp
                clear hst hcall hq HK
                go_wp2_with fail
                refine HCALL.out.mono ?_
                rintro e w5 ⟨rfl, K5⟩
                go_wp2_with fail
                go_roundw
                case rel => exact ⟨k + 1, acc ||| (1#16 <<< k), by omega, by omega, by go_num, rfl, K3.trans K5, HST2⟩
                case measure => simp [intOf]; omega
              | false =>
                rw [hq] at hcall hst
                have HCALL := Lib.hid hcall
                have HST2 : Hid (clsIn l i (n - i) i 0#16 = clsIn l i (n - (k + 1)) (k + 1) acc) := by show _ = _; rw [hst]; simp
                clear hst hcall hq HK
                go_wp2_with fail
                refine HCALL.out.mono ?_
                rintro e w5 ⟨rfl, K5⟩
                go_wp2_with fail
                go_roundw
                case rel => exact ⟨k + 1, acc, by omega, by omega, by go_num, rfl, K3.trans K5, HST2⟩
                case measure => simp [intOf]; omega
            · have hkk : k = n := by omega
              have hcl : clsIn l i (n - i) i 0#16 = acc := by rw [HK.out, hkk, Nat.sub_self]; rfl
              have HST2 : Hid (clsR l n n 0 0#16 [] = clsR l n (n - (i + 1)) (i + 1) (dn ||| acc) (out ++ [acc])) := by show _ = _; rw [HST.out, hcl]
              clear HK HST hcl hkk
              have hB2 := hB.keep K3
              go_wp2_with (at_builtin; refine wp_app tyS rfl _ _ rfl (hB2.alloc _) rfl rfl (rd_new _ 1 _ [.int .u16 (sv acc)] 1 (by decide) rfl) (sl_oneCell [acc]) (by omega) ?_)
              intro v' w5 hO5 _
              go_wp2_with fail
              go_roundw
              case rel => exact ⟨i + 1, out ++ [acc], dn ||| acc, by omega, by go_num, rfl, by simp; omega, hO5.snoc, HST2⟩
              case measure => simp [intOf]; omega
      · have HST : Hid (clsR l n n 0 0#16 [] = out) := by show _ = _; rw [HI.out, show n - i = 0 by omega]; rfl
        clear HI
        go_wp2_with fail
        go_ret2
        exact ⟨_, rfl, by rw [HST.out]; exact hB.since K2⟩
  · rw [if_pos he]
    have hb : (er != 0) = true := by simpa using he
    have HA := Lib.hid ha
    clear ha hmi hok h hnn
    go_enter Tryd.func23, Tryd.ntmps23
    go_wp2_with fail
    refine HA.out.mono ?_
    rintro e w1 ⟨rfl, K1⟩
    go_wp2_with fail
    go_ret2
    exact ⟨_, rfl, Own.nil _ _ K1⟩
end Go.Proofs.YtbiggfbbccpcmaaDoor
