/- The reference of the layer resilience: Worst. -/
import Derived.Test.YtbiggfbbccpcmaaDoorR17d
import Derived.Test.YtbiggfbbccpcmaaDoorP17d
namespace Go.Proofs.YtbiggfbbccpcmaaDoor
open Go.RowKit Go.Lib Go.Shelf

/-- what the reference's Worst gathers -/
def rwKeep (l : List S) (acc : List S) (x : S) : Bool := hitS l x && (decide (acc.length = 0) || decide (cnt (at_ acc 0) = cnt x))
def rwR (l : List S) : List S → List S → List S
  | acc, [] => acc
  | acc, x :: xs => rwR l (if rwKeep l acc x = true then acc ++ [x] else acc) xs
def rworstErr (l : List S) : List S × Int := if rvalS l ≠ 0 then ([], rvalS l) else if 0 < l.length ∧ at_ l 0 = 0#16 then ([], 4) else if 400 < (rwR l [] (refSubs (supS l))).length then ([], 3) else (rwR l [] (refSubs (supS l)), 0)
set_option maxHeartbeats 3200000 in
theorem rWorst_any (a : Option Addr) (n c : Nat) (l : List S) (w : World) (h : Rd w a n c 1 (sl l)) :
    Calls Tryd.prog 16 #[.slice a n c] w fun e w' => RetS w (rworstErr l) e w' := by
  have hv := rValid_any a n c l w h
  have hsup := fun W (k : Keeps w W) => rSupport_any a n c l W (h.keep k)
  have hsub := fun W => rSubs_any (supS l) W
  have hlen := refSubs_len (supS l)
  have L := h.lenS
  have hcell := fun W (k : Keeps w W) (h0 : 0 < n) => (h.keep k).at h0
  have hsome := fun (h0 : 0 < n) => h.isSome h0
  have hhit := fun W (K : Keeps w W) s => (rHits_any a n c l s W (h.keep K)).mono fun e w' ⟨p, q⟩ => (⟨p, q.symm⟩ : e = _ ∧ w' = W)
  have hsz := fun x W => (refSize_any x W).mono fun e w' ⟨p, q⟩ => (⟨p, q.symm⟩ : e = _ ∧ w' = W)
  have hw : rworstErr l = if rvalS l ≠ 0 then ([], rvalS l) else if 0 < l.length ∧ at_ l 0 = 0#16 then ([], 4) else if 400 < (rwR l [] (refSubs (supS l))).length then ([], 3) else (rwR l [] (refSubs (supS l)), 0) := rfl
  rw [L] at hw
  generalize rvalS l = vl at *
  generalize supS l = s at *
  generalize refSubs s = m at *
  generalize at_ l 0 = x0 at *
  have HV := Lib.hid hv; have HSU := Lib.hid hsup; have HSB := Lib.hid hsub; have HW := Lib.hid hw; have HH := Lib.hid hhit; have HSZ := Lib.hid hsz
  clear hv hsup hsub hw hhit hsz h L
  by_cases hz : vl = 0
  · subst hz
    by_cases h0 : 0 < n ∧ x0 = 0#16
    · have HR : Hid (rworstErr l = ([], 4)) := by show _ = _; rw [HW.out, if_neg (by simp), if_pos h0]
      obtain ⟨h0p, hx⟩ := h0
      have hsm := hsome h0p
      have HCE := Lib.hid fun W k => hcell W k h0p
      have hxb : (x0 == 0#16) = true := by simpa using hx
      have hni : (0 : Int) < (n : Int) := by omega
      clear hcell hsome hx
      go_enter Tryd.func16, Tryd.ntmps16
      go_wp2_with fail
      refine HV.out.mono ?_
      rintro e w1 ⟨rfl, K1⟩
      have hc := HCE.out _ K1
      go_wp2_with fail
      go_ret2
      unfold RetS
      rw [HR.out]
      exact ⟨_, rfl, Own.nil _ _ K1⟩
    · have hw := HW.out
      rw [if_neg (by simp), if_neg h0] at hw
      have hx : n = 0 ∨ (0 < n ∧ x0 ≠ 0#16) := by
        rcases Nat.eq_zero_or_pos n with h1 | h1
        · exact .inl h1
        · exact .inr ⟨h1, fun e => h0 ⟨h1, e⟩⟩
      have HW2 := Lib.hid hw
      clear hw h0 HW
      rcases hx with rfl | ⟨h0p, hx⟩
      · clear hcell hsome
        go_enter Tryd.func16, Tryd.ntmps16
        go_wp2_with fail
        refine HV.out.mono ?_
        rintro e w1 ⟨rfl, K1⟩
        go_wp2_with fail
        refine (HSU.out _ K1).mono ?_
        rintro e w' ⟨rfl, rfl⟩
        go_wp2_with fail
        refine (HSB.out _).mono ?_
        rintro e w2 ⟨v2, rfl, hO⟩
        obtain ⟨a2, c2, rfl, hR⟩ := hO.rd
        have s1 := hR.small
        have K2 := K1.trans hO.2
        go_wp2_with fail
        go_loopw [5, 7] (fun u v wr => ∃ (k : Nat) (acc : List S), k ≤ m.length ∧ v = .int .i64 k ∧ acc.length ≤ k ∧ Own 31 1 w2 wr u acc.length (sl acc) ∧ Hid (rwR l [] m = rwR l acc (m.drop k))) (fun _ v _ => m.length - (intOf v).toNat)
        case atStart => exact ⟨0, [], Nat.zero_le _, rfl, Nat.zero_le _, Own.nil _ _ (Keeps.refl _), rfl⟩
        case round =>
          obtain ⟨k, acc, hk, rfl, hak, hA, HI⟩ := hrel
          by_cases hlt : k < m.length
          · have hcm := (hR.keep hA.2).at hlt
            have hs := hR.isSome (by omega)
            obtain ⟨a3, c3, rfl, hRa⟩ := hA.rd
            have hhit := fun W (K : Keeps wr W) => HH.out W ((K2.trans hA.2).trans K) (at_ m k)
            have hst := HI.out
            rw [drop_at m k hlt, rwR] at hst
            cases hq : hitS l (at_ m k) with
            | false =>
              rw [hq] at hhit
              have HST : Hid (rwR l [] m = rwR l acc (m.drop (k + 1))) := by show _ = _; rw [hst]; unfold rwKeep; rw [hq]; rfl
              have HX := Lib.hid hhit
              clear hst hhit HI hq
              go_wp2_with (go_quiet ((go_at_call 45; exact Calls.quiet_of_same (HX.out _ ((Keeps.refl _).drewN _)))))
              go_roundw
              case rel => exact ⟨k + 1, acc, by omega, by go_num, by omega, hA.keep ((Keeps.refl _).drewN _), HST⟩
              case measure => simp [intOf]; omega
            | true =>
              rw [hq] at hhit
              have HX := Lib.hid hhit
              by_cases ha0 : acc.length = 0
              · have HST : Hid (rwR l [] m = rwR l (acc ++ [at_ m k]) (m.drop (k + 1))) := by show _ = _; rw [hst]; unfold rwKeep; rw [hq, decide_eq_true ha0]; rfl
                have hab : ((acc.length : Int) == 0) = true := by rw [ha0]; rfl
                clear hst hhit HI hq ha0
                go_wp2_with (first | (go_quiet ((go_at_call 45; exact Calls.quiet_of_same (HX.out _ ((Keeps.refl _).drewN _))))) | (at_builtin; refine wp_app tyS rfl _ _ rfl ((hA.keep ((Keeps.refl _).drewN _)).alloc _) rfl rfl (rd_new _ 1 _ [.int .u16 (sv (at_ m k))] 1 (by decide) rfl) (sl_oneCell [at_ m k]) (by omega) ?_))
                intro v' w5 hO5 _
                go_wp2_with fail
                go_roundw
                case rel => exact ⟨k + 1, acc ++ [at_ m k], by omega, by go_num, by simp; omega, hO5.snoc, HST⟩
                case measure => simp [intOf]; omega
              · have hab : ((acc.length : Int) == 0) = false := by rw [beq_eq_false_iff_ne]; omega
                have hca := hRa.at (show 0 < acc.length by omega)
                have hsa := hRa.isSome (by omega)
                have hap : (0 : Int) < (acc.length : Int) := by omega
                generalize hx0 : at_ acc 0 = y at *
                cases hqc : decide (cnt y = cnt (at_ m k)) with
                | true =>
                  have HST : Hid (rwR l [] m = rwR l (acc ++ [at_ m k]) (m.drop (k + 1))) := by show _ = _; rw [hst]; unfold rwKeep; rw [hq, hx0, hqc]; simp
                  have hcc : ((cnt y : Int) == (cnt (at_ m k) : Int)) = true := by rw [decide_eq_true_eq] at hqc; rw [hqc]; simp
                  clear hst hhit HI hq ha0 hqc hx0
                  go_wp2_with (first | (go_quiet ((first | (go_at_call 45; exact Calls.quiet_of_same (HX.out _ ((Keeps.refl _).drewN _))) | (go_at_call 19; exact Calls.quiet_of_same (HSZ.out _ _))))) | (at_builtin; refine wp_app tyS rfl _ _ rfl ((hA.keep ((Keeps.refl _).drewN _)).alloc _) rfl rfl (rd_new _ 1 _ [.int .u16 (sv (at_ m k))] 1 (by decide) rfl) (sl_oneCell [at_ m k]) (by omega) ?_))
                  intro v' w5 hO5 _
                  go_wp2_with fail
                  go_roundw
                  case rel => exact ⟨k + 1, acc ++ [at_ m k], by omega, by go_num, by simp; omega, hO5.snoc, HST⟩
                  case measure => simp [intOf]; omega
                | false =>
                  have HST : Hid (rwR l [] m = rwR l acc (m.drop (k + 1))) := by show _ = _; rw [hst]; unfold rwKeep; rw [hq, hx0, hqc, decide_eq_false ha0]; rfl
                  have hcc : ((cnt y : Int) == (cnt (at_ m k) : Int)) = false := by rw [decide_eq_false_iff_not] at hqc; rw [beq_eq_false_iff_ne]; omega
                  clear hst hhit HI hq ha0 hqc hx0
                  go_wp2_with (go_quiet ((first | (go_at_call 45; exact Calls.quiet_of_same (HX.out _ ((Keeps.refl _).drewN _))) | (go_at_call 19; exact Calls.quiet_of_same (HSZ.out _ _)))))
                  go_roundw
                  case rel => exact ⟨k + 1, acc, by omega, by go_num, by omega, hA.keep ((Keeps.refl _).drewN _), HST⟩
                  case measure => simp [intOf]; omega
          · have hfin : rwR l [] m = acc := by rw [HI.out, drop_all m k (by omega)]; rfl
            have hw := HW2.out
            rw [hfin] at hw
            obtain ⟨a3, c3, rfl, hRa⟩ := hA.rd
            by_cases h4 : 400 < acc.length
            · rw [if_pos h4] at hw
              have HR := Lib.hid hw
              have h5 : (400 : Int) < acc.length := by omega
              clear hw hfin HI
              go_wp2_with fail
              go_ret2
              unfold RetS
              rw [HR.out]
              exact ⟨_, rfl, Own.nil _ _ (K2.trans hA.2)⟩
            · rw [if_neg h4] at hw
              have HR := Lib.hid hw
              have h5 : ¬ (400 : Int) < acc.length := by omega
              clear hw hfin HI
              go_wp2_with fail
              go_ret2
              unfold RetS
              rw [HR.out]
              exact ⟨_, rfl, hA.since K2⟩
      · have hni : (0 : Int) < (n : Int) := by omega
        have hxb : (x0 == 0#16) = false := by simpa using hx
        have hsm := hsome h0p
        have HCE := Lib.hid fun W k => hcell W k h0p
        clear hcell hsome hx
        go_enter Tryd.func16, Tryd.ntmps16
        go_wp2_with fail
        refine HV.out.mono ?_
        rintro e w1 ⟨rfl, K1⟩
        have hc := HCE.out _ K1
        go_wp2_with fail
        refine (HSU.out _ K1).mono ?_
        rintro e w' ⟨rfl, rfl⟩
        go_wp2_with fail
        refine (HSB.out _).mono ?_
        rintro e w2 ⟨v2, rfl, hO⟩
        obtain ⟨a2, c2, rfl, hR⟩ := hO.rd
        have s1 := hR.small
        have K2 := K1.trans hO.2
        clear hc
        go_wp2_with fail
        go_loopw [5, 7] (fun u v wr => ∃ (k : Nat) (acc : List S), k ≤ m.length ∧ v = .int .i64 k ∧ acc.length ≤ k ∧ Own 31 1 w2 wr u acc.length (sl acc) ∧ Hid (rwR l [] m = rwR l acc (m.drop k))) (fun _ v _ => m.length - (intOf v).toNat)
        case atStart => exact ⟨0, [], Nat.zero_le _, rfl, Nat.zero_le _, Own.nil _ _ (Keeps.refl _), rfl⟩
        case round =>
          obtain ⟨k, acc, hk, rfl, hak, hA, HI⟩ := hrel
          by_cases hlt : k < m.length
          · have hcm := (hR.keep hA.2).at hlt
            have hs := hR.isSome (by omega)
            obtain ⟨a3, c3, rfl, hRa⟩ := hA.rd
            have hhit := fun W (K : Keeps wr W) => HH.out W ((K2.trans hA.2).trans K) (at_ m k)
            have hst := HI.out
            rw [drop_at m k hlt, rwR] at hst
            cases hq : hitS l (at_ m k) with
            | false =>
              rw [hq] at hhit
              have HST : Hid (rwR l [] m = rwR l acc (m.drop (k + 1))) := by show _ = _; rw [hst]; unfold rwKeep; rw [hq]; rfl
              have HX := Lib.hid hhit
              clear hst hhit HI hq
              go_wp2_with (go_quiet ((go_at_call 45; exact Calls.quiet_of_same (HX.out _ ((Keeps.refl _).drewN _)))))
              go_roundw
              case rel => exact ⟨k + 1, acc, by omega, by go_num, by omega, hA.keep ((Keeps.refl _).drewN _), HST⟩
              case measure => simp [intOf]; omega
            | true =>
              rw [hq] at hhit
              have HX := Lib.hid hhit
              by_cases ha0 : acc.length = 0
              · have HST : Hid (rwR l [] m = rwR l (acc ++ [at_ m k]) (m.drop (k + 1))) := by show _ = _; rw [hst]; unfold rwKeep; rw [hq, decide_eq_true ha0]; rfl
                have hab : ((acc.length : Int) == 0) = true := by rw [ha0]; rfl
                clear hst hhit HI hq ha0
                go_wp2_with (first | (go_quiet ((go_at_call 45; exact Calls.quiet_of_same (HX.out _ ((Keeps.refl _).drewN _))))) | (at_builtin; refine wp_app tyS rfl _ _ rfl ((hA.keep ((Keeps.refl _).drewN _)).alloc _) rfl rfl (rd_new _ 1 _ [.int .u16 (sv (at_ m k))] 1 (by decide) rfl) (sl_oneCell [at_ m k]) (by omega) ?_))
                intro v' w5 hO5 _
                go_wp2_with fail
                go_roundw
                case rel => exact ⟨k + 1, acc ++ [at_ m k], by omega, by go_num, by simp; omega, hO5.snoc, HST⟩
                case measure => simp [intOf]; omega
              · have hab : ((acc.length : Int) == 0) = false := by rw [beq_eq_false_iff_ne]; omega
                have hca := hRa.at (show 0 < acc.length by omega)
                have hsa := hRa.isSome (by omega)
                have hap : (0 : Int) < (acc.length : Int) := by omega
                generalize hx0 : at_ acc 0 = y at *
                cases hqc : decide (cnt y = cnt (at_ m k)) with
                | true =>
                  have HST : Hid (rwR l [] m = rwR l (acc ++ [at_ m k]) (m.drop (k + 1))) := by show _ = _; rw [hst]; unfold rwKeep; rw [hq, hx0, hqc]; simp
                  have hcc : ((cnt y : Int) == (cnt (at_ m k) : Int)) = true := by rw [decide_eq_true_eq] at hqc; rw [hqc]; simp
                  clear hst hhit HI hq ha0 hqc hx0
                  go_wp2_with (first | (go_quiet ((first | (go_at_call 45; exact Calls.quiet_of_same (HX.out _ ((Keeps.refl _).drewN _))) | (go_at_call 19; exact Calls.quiet_of_same (HSZ.out _ _))))) | (at_builtin; refine wp_app tyS rfl _ _ rfl ((hA.keep ((Keeps.refl _).drewN _)).alloc _) rfl rfl (rd_new _ 1 _ [.int .u16 (sv (at_ m k))] 1 (by decide) rfl) (sl_oneCell [at_ m k]) (by omega) ?_))
                  intro v' w5 hO5 _
                  go_wp2_with fail
                  go_roundw
                  case rel => exact ⟨k + 1, acc ++ [at_ m k], by omega, by go_num, by simp; omega, hO5.snoc, HST⟩
                  case measure => simp [intOf]; omega
                | false =>
                  have HST : Hid (rwR l [] m = rwR l acc (m.drop (k + 1))) := by show _ = _; rw [hst]; unfold rwKeep; rw [hq, hx0, hqc, decide_eq_false ha0]; rfl
                  have hcc : ((cnt y : Int) == (cnt (at_ m k) : Int)) = false := by rw [decide_eq_false_iff_not] at hqc; rw [beq_eq_false_iff_ne]; omega
                  clear hst hhit HI hq ha0 hqc hx0
                  go_wp2_with (go_quiet ((first | (go_at_call 45; exact Calls.quiet_of_same (HX.out _ ((Keeps.refl _).drewN _))) | (go_at_call 19; exact Calls.quiet_of_same (HSZ.out _ _)))))
                  go_roundw
                  case rel => exact ⟨k + 1, acc, by omega, by go_num, by omega, hA.keep ((Keeps.refl _).drewN _), HST⟩
                  case measure => simp [intOf]; omega
          · have hfin : rwR l [] m = acc := by rw [HI.out, drop_all m k (by omega)]; rfl
            have hw := HW2.out
            rw [hfin] at hw
            obtain ⟨a3, c3, rfl, hRa⟩ := hA.rd
            by_cases h4 : 400 < acc.length
            · rw [if_pos h4] at hw
              have HR := Lib.hid hw
              have h5 : (400 : Int) < acc.length := by omega
              clear hw hfin HI
              go_wp2_with fail
              go_ret2
              unfold RetS
              rw [HR.out]
              exact ⟨_, rfl, Own.nil _ _ (K2.trans hA.2)⟩
            · rw [if_neg h4] at hw
              have HR := Lib.hid hw
              have h5 : ¬ (400 : Int) < acc.length := by omega
              clear hw hfin HI
              go_wp2_with fail
              go_ret2
              unfold RetS
              rw [HR.out]
              exact ⟨_, rfl, hA.since K2⟩
  · have HR : Hid (rworstErr l = ([], vl)) := by show rworstErr l = _; rw [HW.out, if_pos hz]
    have hb : (vl != 0) = true := by simpa using hz
    clear hcell hsome HW
    go_enter Tryd.func16, Tryd.ntmps16
    go_wp2_with fail
    refine HV.out.mono ?_
    rintro e w1 ⟨rfl, K1⟩
    go_wp2_with fail
    go_ret2
    unfold RetS
    rw [HR.out]
    exact ⟨_, rfl, Own.nil _ _ K1⟩
end Go.Proofs.YtbiggfbbccpcmaaDoor
