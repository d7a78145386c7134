/- Texts joined into one, what is needed of them (a program of ours). -/
import Derived.Test.YtijknodekomdfaaGreatDoorCKG
import Derived.Test.YtijknodekomdfaaGreatDoorCKB
import Derived.Test.YtijknodekomdfaaGreatDoorCKE
import Derived.Test.YtijknodekomdfaaGreatDoorCKC
namespace Go.Proofs.YtijknodekomdfaaGreatDoor
open Go.RowKit Go.Lib Go.Shelf
attribute [local go_sem] Oper.semAt_some

end Go.Proofs.YtijknodekomdfaaGreatDoor
namespace Go.Proofs.YtijknodekomdfaaGreatDoor
open Go.RowKit Go.Lib Go.Shelf

set_option maxHeartbeats 1600000 in
theorem refSorted_any (a : Option Addr) (n c : Nat) (l : List S) (w : World) (h : Rd w a n c 1 (sl l)) (hn : n ≤ 1000000) :
    Calls Tryz.prog 142 #[.slice a n c] w fun e w' => ∃ v, e = .returned v ∧ Own 31 1 w w' v (sortR [] l).length (sl (sortR [] l)) := by
  have s1 := h.small; have l1 := h.lenS
  have L1 := Lib.hid l1; clear l1
  go_enter Tryz.func142, Tryz.ntmps142
  go_wp2
  go_loopw [3, 4] (fun u v wr => ∃ (i : Nat) (acc : List S), i ≤ n ∧ v = .int .i64 i ∧ acc.length ≤ i ∧ Own 31 1 w wr u acc.length (sl acc) ∧ Hid (sortR [] l = sortR acc (l.drop i))) (fun _ v _ => n - (RowKit.intOf v).toNat)
  case atStart => exact ⟨0, [], Nat.zero_le _, rfl, Nat.zero_le _, Own.nil _ _ (Keeps.refl _), rfl⟩
  case round =>
    obtain ⟨i, acc, hi, rfl, hai, hA, HI⟩ := hrel
    by_cases hlt : i < n
    · obtain ⟨wo, rfl⟩ : ∃ wo : World, wo = wr := ⟨_, rfl⟩
      obtain ⟨a2, c2, rfl, hRa⟩ := hA.rd
      go_wp2
      go_loopw [5] (fun v wr => ∃ p : Nat, p ≤ acc.length ∧ v = .int .i64 p ∧ Keeps wo wr ∧ Hid (posS acc (at_ l i) = posS (acc.drop p) (at_ l i) + p)) (fun v _ => acc.length - (RowKit.intOf v).toNat)
      case atStart => exact ⟨0, Nat.zero_le _, rfl, Keeps.refl _, rfl⟩
      case round =>
        obtain ⟨p, hp, rfl, K1, HP⟩ := hrel
        have hA1 := hA.keep K1
        have hR1 := hRa.keep K1
        have hr := h.keep hA1.2
        have hci := hr.at hlt
        have ha := h.isSome (by omega)
        by_cases hpl : p < acc.length
        · have hcp := hR1.at hpl
          have ha2 := hR1.isSome (by omega)
          have hbef := fun W => before_any (at_ acc p) (at_ l i) W
          have hdp := drop_at acc p hpl
          cases hq : ltS (at_ acc p) (at_ l i) with
          | true =>
            rw [hq] at hbef
            have HB := Lib.hid hbef; have HQ := Lib.hid hq; have HD := Lib.hid hdp; clear hbef hq hdp
            go_wp2
            go_quiet ((go_at_call 192; exact Calls.quiet_of_same (HB.out _)))
            go_wp2
            go_roundw
            case rel => exact ⟨p + 1, by omega, by go_num, K1.drewN _, hrfl <| by rw [HP.out, HD.out, posS, if_pos HQ.out]; omega⟩
            case measure => simp [RowKit.intOf]; omega
          | false =>
            rw [hq] at hbef
            have HB := Lib.hid hbef; have HQ := Lib.hid hq; have HD := Lib.hid hdp; clear hbef hq hdp
            have hpos : Hid (posS acc (at_ l i) = p) := hrfl <| by rw [HP.out, HD.out, posS, if_neg (by rw [HQ.out]; simp)]; omega
            cases he : (at_ acc p == at_ l i) with
            | true =>
              have HE : Hid ((at_ acc p == at_ l i) = true) := he
              go_wp2
              go_quiet ((go_at_call 192; exact Calls.quiet_of_same (HB.out _)))
              go_wp2
              go_quiet (fail)
              go_wp2
              go_roundw
              case rel => exact ⟨i + 1, acc, by omega, by go_num, by omega, hA1.keep ((Keeps.refl _).drewN _), hrfl <| by rw [HI.out, dropH L1 hlt, sortR, insU, hpos.out, if_pos ⟨hpl, by simpa using HE.out⟩]⟩
              case measure => simp [RowKit.intOf]; omega
            | false =>
              have HNE : Hid (¬ (p < acc.length ∧ at_ acc p = at_ l i)) := fun hh => by rw [hh.2] at he; simp at he
              have HE : Hid ((at_ acc p == at_ l i) = false) := he
              go_wp2
              go_quiet ((go_at_call 192; exact Calls.quiet_of_same (HB.out _)))
              go_wp2
              go_quiet (fail)
              go_wp2_with (at_builtin; refine wp_app tyS rfl _ _ rfl ((hA1.keep ((Keeps.refl _).drewN _)).alloc _) rfl rfl (rd_new _ 1 _ [.int .u16 0] 1 (by decide) rfl) (sl_oneCell [0#16]) ?_ ?_)
              · omega
              · intro v' w3 hO3 _
                obtain ⟨g, cap, rfl, hcap, hcm⟩ := hO3.some (by omega)
                have hX : Own 31 1 w w3 (.slice (some ⟨g, 0, none⟩) (acc.length + 1) cap) (acc.length + 1) (sl (insAt acc acc.length 0#16)) := by rw [insAt_end, sl_append]; exact hO3
                clear hO3
                have hlen : acc.length + 1 ≤ 1000001 := by omega
                go_wp2
                go_loopw [6] (fun v wr => ∃ (k : Nat) (y : S), p ≤ k ∧ k ≤ acc.length ∧ v = .int .i64 k ∧ Own 31 1 w wr (.slice (some ⟨g, 0, none⟩) (acc.length + 1) cap) (acc.length + 1) (sl (insAt acc k y))) (fun v _ => (RowKit.intOf v).toNat)
                case atStart => exact ⟨acc.length, 0#16, by omega, by omega, by go_num, hX⟩
                case round =>
                  obtain ⟨k, y, hpk, hka, rfl, hX2⟩ := hrel
                  by_cases hkp : p < k
                  · have k1 : 1 ≤ k := by omega
                    obtain ⟨f1a, f1b⟩ := hX2.at (k := k - 1) (by omega)
                    rw [at_insAt' _ _ _ k1 hka] at f1a
                    obtain ⟨f2a, f2b⟩ := hX2.at (k := k) (by omega)
                    have hX3 := hX2.store k (at_ acc (k - 1))
                    rw [insAt_shift' _ _ _ k1 hka] at hX3
                    go_wp2
                    go_roundw
                    case rel => exact ⟨k - 1, at_ acc (k - 1), by omega, by omega, by go_num, hX3⟩
                    case measure => simp [RowKit.intOf]; omega
                  · have hke : k = p := by omega
                    subst hke
                    obtain ⟨f2a, f2b⟩ := hX2.at (k := k) (by omega)
                    have hX3 := hX2.store k (at_ l i)
                    rw [insAt_set _ _ _ _ hka] at hX3
                    have hci3 := (h.keep hX2.2).at hlt
                    go_wp2
                    go_roundw
                    case rel => exact ⟨i + 1, insAt acc k (at_ l i), by omega, by go_num, by rw [insAt_length _ _ _ hka]; omega, by rw [insAt_length _ _ _ hka]; exact hX3, hrfl <| by rw [HI.out, dropH L1 hlt, sortR, insU, hpos.out, if_neg HNE.out]⟩
                    case measure => simp [RowKit.intOf]; omega
        · have hpe : p = acc.length := by omega
          subst hpe
          have hpos : Hid (posS acc (at_ l i) = acc.length) := hrfl <| by rw [HP.out, drop_all acc acc.length (Nat.le_refl _), posS]; omega
          have HNE : Hid (¬ (acc.length < acc.length ∧ at_ acc acc.length = at_ l i)) := fun hh => Nat.lt_irrefl _ hh.1
          go_wp2
          go_quiet (fail)
          go_wp2
          go_quiet (fail)
          go_wp2_with (at_builtin; refine wp_app tyS rfl _ _ rfl ((hA1.keep ((Keeps.refl _).drewN _)).alloc _) rfl rfl (rd_new _ 1 _ [.int .u16 0] 1 (by decide) rfl) (sl_oneCell [0#16]) ?_ ?_)
          · omega
          · intro v' w3 hO3 _
            obtain ⟨g, cap, rfl, hcap, hcm⟩ := hO3.some (by omega)
            have hX : Own 31 1 w w3 (.slice (some ⟨g, 0, none⟩) (acc.length + 1) cap) (acc.length + 1) (sl (insAt acc acc.length 0#16)) := by rw [insAt_end, sl_append]; exact hO3
            clear hO3
            have hlen : acc.length + 1 ≤ 1000001 := by omega
            go_wp2
            go_loopw [6] (fun v wr => ∃ (k : Nat) (y : S), acc.length ≤ k ∧ k ≤ acc.length ∧ v = .int .i64 k ∧ Own 31 1 w wr (.slice (some ⟨g, 0, none⟩) (acc.length + 1) cap) (acc.length + 1) (sl (insAt acc k y))) (fun v _ => (RowKit.intOf v).toNat)
            case atStart => exact ⟨acc.length, 0#16, by omega, by omega, by go_num, hX⟩
            case round =>
              obtain ⟨k, y, hpk, hka, rfl, hX2⟩ := hrel
              by_cases hkp : acc.length < k
              · exact absurd hkp (by omega)
              · have hke : k = acc.length := by omega
                subst hke
                obtain ⟨f2a, f2b⟩ := hX2.at (k := acc.length) (by omega)
                have hX3 := hX2.store acc.length (at_ l i)
                rw [insAt_set _ _ _ _ hka] at hX3
                have hci3 := (h.keep hX2.2).at hlt
                go_wp2
                go_roundw
                case rel => exact ⟨i + 1, insAt acc acc.length (at_ l i), by omega, by go_num, by rw [insAt_length _ _ _ hka]; omega, by rw [insAt_length _ _ _ hka]; exact hX3, hrfl <| by rw [HI.out, dropH L1 hlt, sortR, insU, hpos.out, if_neg HNE.out]⟩
                case measure => simp [RowKit.intOf]; omega
    · go_wp2
      go_ret
      refine ⟨_, rfl, ?_⟩
      rw [HI.out, dropN L1 hlt, sortR]
      exact hA

set_option maxHeartbeats 1600000 in
theorem refLeast_any (a : Option Addr) (n c : Nat) (l : List S) (w : World) (h : Rd w a n c 1 (sl l)) (hn : n ≤ 1000000) :
    Calls Tryz.prog 79 #[.slice a n c] w fun e w' => ∃ v, e = .returned v ∧ Own 31 1 w w' v (refLeast l).length (sl (refLeast l)) := by
  have hs := refSorted_any a n c l w h hn
  have hlen : (sortR [] l).length ≤ 1000000 := by
    have h1 := sortR_length [] l
    have h3 := h.lenS
    simp at h1; omega
  unfold refLeast
  generalize sortR [] l = m at hs hlen ⊢
  have HS := Lib.hid hs; clear hs h
  go_enter Tryz.func79, Tryz.ntmps79
  go_wp2_with fail
  refine HS.out.mono ?_
  rintro e w1 ⟨v1, rfl, hO⟩
  obtain ⟨a1, c1, rfl, hR⟩ := hO.rd
  have s1 := hR.small
  go_wp2_with fail
  go_loopw [3, 5] (fun u v wr => ∃ (i : Nat) (acc : List S), i ≤ m.length ∧ v = .int .i64 i ∧ acc.length ≤ i ∧ Own 31 1 w1 wr u acc.length (sl acc) ∧ Hid (minR m m 0 [] = minR m (m.drop i) i acc)) (fun _ v _ => m.length - (RowKit.intOf v).toNat)
  case atStart => exact ⟨0, [], Nat.zero_le _, rfl, Nat.zero_le _, Own.nil _ _ (Keeps.refl _), rfl⟩
  case round =>
    obtain ⟨i, acc, hi, rfl, hai, hA, HI⟩ := hrel
    by_cases hlt : i < m.length
    · obtain ⟨wo, rfl⟩ : ∃ wo : World, wo = wr := ⟨_, rfl⟩
      have ha := hR.isSome (by omega)
      have hdi := drop_at m i hlt
      have HDI := Lib.hid hdi; clear hdi
      go_wp2
      go_loopw [6, 7] (fun u v wr => ∃ (k : Nat) (r : Bool), k ≤ m.length ∧ v = .int .i64 k ∧ u = .bool r ∧ Keeps wo wr ∧ Hid (loneR (at_ m i) i m 0 true = loneR (at_ m i) i (m.drop k) k r)) (fun _ v _ => m.length - (RowKit.intOf v).toNat)
      case atStart => exact ⟨0, true, Nat.zero_le _, rfl, rfl, Keeps.refl _, rfl⟩
      case round =>
        obtain ⟨k, r, hk, rfl, rfl, K1, HL⟩ := hrel
        by_cases hlk : k < m.length
        · have hci := (hR.keep (hA.keep K1).2).at hlt
          have hck := (hR.keep (hA.keep K1).2).at hlk
          have hdk := drop_at m k hlk
          have HDK := Lib.hid hdk; clear hdk
          have hcon := fun W => refContains_any (at_ m i) (at_ m k) W
          by_cases hik : i = k
          · have hbb : ((i : Int) != (k : Int)) = false := by simp [hik]
            have HIK := Lib.hid hik; clear hik hcon
            go_wp2
            go_quiet (fail)
            go_wp2
            go_roundw
            case rel => exact ⟨k + 1, r, by omega, by go_num, rfl, K1.drewN _, hrfl <| by rw [HL.out, HDK.out, loneR]; simp [HIK.out]⟩
            case measure => simp [RowKit.intOf]; omega
          · have hbb : ((i : Int) != (k : Int)) = true := by rw [bne_iff_ne]; omega
            have HIK := Lib.hid hik; clear hik
            cases hq : (at_ m k &&& ~~~at_ m i == 0#16) with
            | true =>
              rw [hq] at hcon
              have HC := Lib.hid hcon; have HQ := Lib.hid hq; clear hcon hq
              go_wp2
              go_quiet ((go_at_call 143; exact Calls.quiet_of_same (HC.out _)))
              go_wp2
              go_roundw
              case rel => exact ⟨k + 1, false, by omega, by go_num, rfl, K1.drewN _, hrfl <| by rw [HL.out, HDK.out, loneR, HQ.out]; simp [HIK.out]⟩
              case measure => simp [RowKit.intOf]; omega
            | false =>
              rw [hq] at hcon
              have HC := Lib.hid hcon; have HQ := Lib.hid hq; clear hcon hq
              go_wp2
              go_quiet ((go_at_call 143; exact Calls.quiet_of_same (HC.out _)))
              go_wp2
              go_roundw
              case rel => exact ⟨k + 1, r, by omega, by go_num, rfl, K1.drewN _, hrfl <| by rw [HL.out, HDK.out, loneR, HQ.out]; simp⟩
              case measure => simp [RowKit.intOf]; omega
        · have HL2 : Hid (loneR (at_ m i) i m 0 true = r) := hrfl <| by rw [HL.out, drop_all m k (by omega), loneR]
          have hA1 := hA.keep K1
          cases r with
          | true =>
            obtain ⟨a2, c2, rfl, hRa⟩ := hA.rd
            have hci := (hR.keep hA1.2).at hlt
            go_wp2_with (at_builtin; refine wp_app tyS rfl _ _ rfl (hA1.alloc _) rfl rfl (rd_new _ 1 _ [.int .u16 (sv (at_ m i))] 1 (by decide) rfl) (sl_oneCell [at_ m i]) ?_ ?_)
            · omega
            · intro v' w3 hO3 _
              go_wp2
              go_roundw
              case rel => exact ⟨i + 1, acc ++ [at_ m i], by omega, by go_num, by simp; omega, hO3.snoc, hrfl <| by rw [HI.out, HDI.out, minR, if_pos HL2.out]⟩
              case measure => simp [RowKit.intOf]; omega
          | false =>
            go_wp2
            go_roundw
            case rel => exact ⟨i + 1, acc, by omega, by go_num, by omega, hA1, hrfl <| by rw [HI.out, HDI.out, minR, if_neg (by rw [HL2.out]; simp)]⟩
            case measure => simp [RowKit.intOf]; omega
    · go_wp2
      go_ret
      refine ⟨_, rfl, ?_⟩
      rw [HI.out, drop_all m i (by omega), minR]
      exact hA.since hO.2
end Go.Proofs.YtijknodekomdfaaGreatDoor
namespace Go.Proofs.YtijknodekomdfaaGreatDoor
open Go.RowKit Go.Lib Go.Shelf

def eqFrom : List S → List S → Bool
  | x :: xs, y :: ys => if x != y then false else eqFrom xs ys
  | _, _ => true
def eqS (l m : List S) : Bool := if l.length != m.length then false else eqFrom l m
set_option maxHeartbeats 800000 in
theorem equal_any (a : Option Addr) (n c : Nat) (l : List S) (a2 : Option Addr) (n2 c2 : Nat) (l2 : List S) (w : World) (h : Rd w a n c 1 (sl l)) (h2 : Rd w a2 n2 c2 1 (sl l2)) :
    Calls Tryz.prog 41 #[.slice a n c, .slice a2 n2 c2] w fun e w' => e = .returned (.bool (eqS l l2)) ∧ Keeps w w' := by
  have L := Lib.hid h.lenS
  have L2 := Lib.hid h2.lenS
  have s1 := h.small
  by_cases hn : n = n2
  · subst hn
    have he : Hid (eqS l l2 = eqFrom l l2) := by show _ = _; unfold eqS; rw [if_neg (by have := L.out; have := L2.out; simp; omega)]
    go_enter Tryz.func41, Tryz.ntmps41
    go_wp2
    go_loopw [13] (fun v wr => ∃ (k : Nat), k ≤ n ∧ v = .int .i64 k ∧ Keeps w wr ∧ Hid (eqS l l2 = eqFrom (l.drop k) (l2.drop k))) (fun v _ => n - (intOf v).toNat)
    case atStart => exact ⟨0, Nat.zero_le _, rfl, Keeps.refl _, he⟩
    case round =>
      obtain ⟨k, hk, rfl, K1, HI⟩ := hrel
      by_cases hlt : k < n
      · have hc := (h.keep K1).at hlt
        have hc2 := (h2.keep K1).at hlt
        have hs := h.isSome (by omega)
        have hs2 := h2.isSome (by omega)
        have hst := HI.out
        rw [dropH L hlt, dropH L2 hlt] at hst
        by_cases hxy : (at_ l k != at_ l2 k) = true
        · have HJ : Hid (eqS l l2 = false) := by show _ = _; rw [hst]; unfold eqFrom; rw [if_pos hxy]
          clear hst HI
          go_wp2_with (go_quiet (fail))
          go_ret
          rw [HJ.out]
          exact ⟨rfl, by first | exact K1 | exact K1.drew | exact K1.drewN _⟩
        · have HJ : Hid (eqS l l2 = eqFrom (l.drop (k + 1)) (l2.drop (k + 1))) := by
            show _ = _
            rw [hst]; conv => lhs; unfold eqFrom
            rw [if_neg hxy]
          have hxy' : (at_ l k != at_ l2 k) = false := by simpa using hxy
          clear hst HI hxy
          go_wp2_with (go_quiet (fail))
          go_roundw
          case rel => exact ⟨k + 1, by omega, rfl, by first | exact K1 | exact K1.drew | exact K1.drewN _, HJ⟩
          case measure => simp [intOf]; omega
      · have HJ : Hid (eqS l l2 = true) := by
          show _ = _
          rw [HI.out, dropN L hlt]; simp [eqFrom]
        clear HI
        go_wp2
        go_ret
        rw [HJ.out]
        exact ⟨rfl, K1⟩
  · have he : eqS l l2 = false := by unfold eqS; rw [if_pos (by have := L.out; have := L2.out; simp; omega)]
    rw [he]
    have hb : ((n : Int) != (n2 : Int)) = true := by rw [bne_iff_ne]; omega
    clear he
    go_enter Tryz.func41, Tryz.ntmps41
    go_wp2
    go_ret
    exact ⟨rfl, Keeps.refl _⟩

def idxOf (s : S) : List S → Nat → Int
  | [], _ => -1
  | x :: xs, k => if s == x then (k : Int) else idxOf s xs (k + 1)
theorem idxOf_mem (s : S) (l : List S) (k : Nat) : decide (0 ≤ idxOf s l k) = l.contains s := by
  induction l generalizing k with
  | nil => simp [idxOf]
  | cons x xs ih =>
    unfold idxOf
    by_cases h : s = x
    · simp [h]
    · have := ih (k + 1)
      simp only [List.contains_eq_mem] at this ⊢
      simp [h, this]

theorem index_any (a : Option Addr) (n c : Nat) (l : List S) (s : S) (w : World) (h : Rd w a n c 1 (sl l)) :
    Calls Tryz.prog 115 #[.slice a n c, .int .u16 (sv s)] w fun e w' => e = .returned (.int .i64 (idxOf s l 0)) ∧ w = w' := by
  have L := Lib.hid h.lenS
  have s1 := h.small
  go_enter Tryz.func115, Tryz.ntmps115
  go_wp2
  go_loopw [8] (fun v wr => ∃ (k : Nat), k ≤ n ∧ v = .int .i64 k ∧ w = wr ∧ Hid (idxOf s l 0 = idxOf s (l.drop k) k)) (fun v _ => n - (intOf v).toNat)
  case atStart => exact ⟨0, Nat.zero_le _, rfl, rfl, rfl⟩
  case round =>
    obtain ⟨k, hk, rfl, rfl, HI⟩ := hrel
    by_cases hlt : k < n
    · have hc := h.at hlt
      have hs := h.isSome (by omega)
      have hst := HI.out
      rw [dropH L hlt] at hst
      by_cases hxy : (s == at_ l k) = true
      · have HJ : Hid (idxOf s l 0 = k) := by show _ = _; rw [hst]; unfold idxOf; rw [if_pos hxy]
        clear hst HI
        go_wp2
        go_ret
        rw [HJ.out]
        exact ⟨rfl, rfl⟩
      · have HJ : Hid (idxOf s l 0 = idxOf s (l.drop (k + 1)) (k + 1)) := by
          show _ = _; rw [hst]; conv => lhs; unfold idxOf
          rw [if_neg hxy]
        have hxy' : (s == at_ l k) = false := by simpa using hxy
        clear hst HI hxy
        go_wp2
        go_roundw
        case rel => exact ⟨k + 1, by omega, rfl, trivial, HJ⟩
        case measure => simp [intOf]; omega
    · have HJ : Hid (idxOf s l 0 = -1) := by show _ = _; rw [HI.out, dropN L hlt]; rfl
      clear HI
      go_wp2
      go_ret
      rw [HJ.out]
      exact ⟨rfl, rfl⟩

theorem contains_s_any (a : Option Addr) (n c : Nat) (l : List S) (s : S) (w : World) (h : Rd w a n c 1 (sl l)) :
    Calls Tryz.prog 78 #[.slice a n c, .int .u16 (sv s)] w fun e w' => e = .returned (.bool (l.contains s)) ∧ w = w' := by
  have hi := index_any a n c l s w h
  have hm := idxOf_mem s l 0
  generalize idxOf s l 0 = i at *
  generalize l.contains s = b at *
  subst hm
  have HI := Lib.hid hi; clear hi h
  go_enter Tryz.func78, Tryz.ntmps78
  go_wp2_with (go_at_call 115; refine HI.out.mono ?_; rintro e w' ⟨rfl, rfl⟩)
  go_ret
  exact ⟨rfl, rfl⟩
end Go.Proofs.YtijknodekomdfaaGreatDoor
namespace Go.Proofs.YtijknodekomdfaaGreatDoor
open Go.RowKit Go.Lib Go.Shelf

end Go.Proofs.YtijknodekomdfaaGreatDoor
namespace Go.Proofs.YtijknodekomdfaaGreatDoor
open Go.RowKit Go.Lib Go.Shelf

end Go.Proofs.YtijknodekomdfaaGreatDoor
namespace Go.Proofs.YtijknodekomdfaaGreatDoor
open Go.RowKit Go.Lib Go.Shelf

end Go.Proofs.YtijknodekomdfaaGreatDoor
namespace Go.Proofs.YtijknodekomdfaaGreatDoor
open Go.RowKit Go.Lib Go.Shelf

end Go.Proofs.YtijknodekomdfaaGreatDoor
namespace Go.Proofs.YtijknodekomdfaaGreatDoor
open Go.RowKit Go.Lib Go.Shelf

theorem small_bit9 {s : S} (h : small s) {i : Nat} (hb : s.getLsbD i = true) : i < 12 := by
  rcases Nat.lt_or_ge i 12 with h1 | h1
  · exact h1
  · exfalso
    have h2 : s.toNat < 2 ^ i := Nat.lt_of_lt_of_le h (Nat.pow_le_pow_right (n := 2) (by decide) h1)
    have h3 : s.toNat.testBit i = false := Nat.testBit_lt_two_pow h2
    have h4 : s.toNat.testBit i = true := hb
    rw [h3] at h4; cases h4
theorem out_small (x : S) : (x &&& 61440#16) = 0#16 ↔ small x := by
  constructor
  · intro h
    refine Nat.lt_pow_two_of_testBit (n := 12) _ fun i hi => ?_
    rcases Nat.lt_or_ge i 16 with h1 | h1
    · have h2 : (x &&& 61440#16).getLsbD i = false := by rw [h]; simp
      rw [BitVec.getLsbD_and] at h2
      have h3 : (61440#16).getLsbD i = true := by
        have : i = 12 ∨ i = 13 ∨ i = 14 ∨ i = 15 := by omega
        rcases this with rfl | rfl | rfl | rfl <;> decide
      rw [h3, Bool.and_true] at h2
      exact h2
    · exact Nat.testBit_lt_two_pow (Nat.lt_of_lt_of_le x.isLt (Nat.pow_le_pow_right (n := 2) (by decide) h1))
  · intro h
    apply BitVec.eq_of_getLsbD_eq
    intro i hi
    rw [BitVec.getLsbD_and, BitVec.getLsbD_zero]
    cases hx : x.getLsbD i with
    | false => rfl
    | true =>
      have h1 := small_bit9 h hx
      have : ∀ j : Fin 12, (61440#16).getLsbD j.val = false := by decide
      rw [this ⟨i, h1⟩]; rfl
theorem cmp_lt (x y : S) : decide (0 ≤ cmpS x y) = !ltS x y := by
  unfold ltS; rw [← decide_not]; congr 1; rw [Int.not_lt]

theorem val1_cons (q s : S) (rest : List S) : val1 (some q) (s :: rest) = if (s &&& 61440#16 != 0#16) = true then 7 else if decide (0 ≤ cmpS q s) = true then 1 else val1 (some s) rest := by rw [val1]
theorem val1_head (s : S) (rest : List S) : val1 none (s :: rest) = if (s &&& 61440#16 != 0#16) = true then 7 else val1 (some s) rest := by rw [val1]; simp
theorem val1_zero : ∀ (l : List S) (q : S), val1 (some q) l = 0 ↔ (∀ x ∈ l, small x) ∧ Asc (q :: l)
  | [], q => by simp [val1, Asc]
  | s :: rest, q => by
    have ih := val1_zero rest s
    rw [val1_cons]
    have ho := out_small s
    by_cases hs : small s
    · have h0 : ¬ (s &&& 61440#16 != 0#16) = true := by rw [ho.2 hs]; simp
      rw [if_neg h0, cmp_lt]
      cases hq : ltS q s with
      | false =>
        simp only [Bool.not_false, if_true]
        constructor
        · intro h; exact absurd h (by decide)
        · rintro ⟨-, h⟩
          have := (List.pairwise_cons.1 h).1 s (by simp)
          rw [hq] at this; cases this
      | true =>
        simp only [Bool.not_true, Bool.false_eq_true, if_false]
        rw [ih]
        constructor
        · rintro ⟨h1, h2⟩
          refine ⟨fun x hx => ?_, List.pairwise_cons.2 ⟨fun y hy => ?_, h2⟩⟩
          · rcases List.mem_cons.1 hx with rfl | hx
            · exact hs
            · exact h1 x hx
          · rcases List.mem_cons.1 hy with rfl | hy
            · exact hq
            · exact ltS_trans hq ((List.pairwise_cons.1 h2).1 y hy)
        · rintro ⟨h1, h2⟩
          exact ⟨fun x hx => h1 x (List.mem_cons_of_mem _ hx), (List.pairwise_cons.1 h2).2⟩
    · have h0 : (s &&& 61440#16 != 0#16) = true := by rw [bne_iff_ne]; exact fun e => hs (ho.1 e)
      rw [if_pos h0]
      constructor
      · intro h; exact absurd h (by decide)
      · rintro ⟨h, -⟩; exact absurd (h s (by simp)) hs
theorem val1_none (l : List S) : val1 none l = 0 ↔ (∀ x ∈ l, small x) ∧ Asc l := by
  cases l with
  | nil => simp [val1, Asc]
  | cons s rest =>
    rw [val1_head]
    have ho := out_small s
    by_cases hs : small s
    · have h0 : ¬ (s &&& 61440#16 != 0#16) = true := by rw [ho.2 hs]; simp
      rw [if_neg h0, val1_zero]
      constructor
      · rintro ⟨h1, h2⟩
        refine ⟨fun x hx => ?_, h2⟩
        rcases List.mem_cons.1 hx with rfl | hx
        · exact hs
        · exact h1 x hx
      · rintro ⟨h1, h2⟩
        exact ⟨fun x hx => h1 x (List.mem_cons_of_mem _ hx), h2⟩
    · have h0 : (s &&& 61440#16 != 0#16) = true := by rw [bne_iff_ne]; exact fun e => hs (ho.1 e)
      rw [if_pos h0]
      constructor
      · intro h; exact absurd h (by decide)
      · rintro ⟨h, -⟩; exact absurd (h s (by simp)) hs
theorem val2_zero : ∀ (l pre : List S), Asc (pre ++ l) → (val2 pre l = 0 ↔ ∀ y ∈ l, ∀ x ∈ pre ++ l, sub x y = true → x = y)
  | [], pre, _ => by simp [val2]
  | s :: rest, pre, h => by
    have e : pre ++ s :: rest = (pre ++ [s]) ++ rest := by simp
    have ih := val2_zero rest (pre ++ [s]) (by rw [← e]; exact h)
    obtain ⟨-, hr, hpr⟩ := List.pairwise_append.1 h
    have key : accS pre s = false ↔ ∀ x ∈ pre ++ s :: rest, sub x s = true → x = s := by
      rw [← Bool.not_eq_true, accS_iff]
      constructor
      · intro hn x hx hsub
        rw [List.mem_append, List.mem_cons] at hx
        rcases hx with hx | rfl | hx
        · exact absurd ⟨x, hx, hsub⟩ hn
        · rfl
        · refine Classical.byContradiction fun hne => ?_
          have h1 := sub_lt hsub hne
          have h2 := (List.pairwise_cons.1 hr).1 x hx
          rw [ltS_asymm h1] at h2; cases h2
      · rintro hall ⟨x, hx, hsub⟩
        have := hall x (by simp [hx]) hsub
        subst this
        have h2 := hpr x hx x (by simp)
        rw [ltS_irrefl] at h2; cases h2
    unfold val2
    cases ha : accS pre s with
    | true =>
      simp only [if_true]
      constructor
      · intro h; exact absurd h (by decide)
      · intro hall
        have := key.2 (hall s (by simp))
        rw [ha] at this; cases this
    | false =>
      simp only [Bool.false_eq_true, if_false]
      rw [ih, ← e]
      constructor
      · intro hall y hy
        rcases List.mem_cons.1 hy with rfl | hy
        · exact key.1 ha
        · exact hall y hy
      · intro hall y hy; exact hall y (List.mem_cons_of_mem _ hy)
theorem val2_01 : ∀ (l pre : List S), val2 pre l = 0 ∨ val2 pre l = 1
  | [], pre => .inl rfl
  | s :: rest, pre => by
    unfold val2
    split
    · exact .inr rfl
    · exact val2_01 rest _
end Go.Proofs.YtijknodekomdfaaGreatDoor
namespace Go.Proofs.YtijknodekomdfaaGreatDoor
open Go.RowKit Go.Lib Go.Shelf

end Go.Proofs.YtijknodekomdfaaGreatDoor
namespace Go.Proofs.YtijknodekomdfaaGreatDoor
open Go.RowKit Go.Lib Go.Shelf

theorem supR_bit (i : Nat) : ∀ (l : List S) (acc : S), (supR acc l).getLsbD i = (acc.getLsbD i || l.any fun x => x.getLsbD i)
  | [], acc => by simp [supR]
  | x :: xs, acc => by rw [supR, supR_bit i xs, BitVec.getLsbD_or, List.any_cons, Bool.or_assoc]
theorem supS_bit (l : List S) (i : Nat) : (supS l).getLsbD i = true ↔ ∃ x ∈ l, x.getLsbD i = true := by
  unfold supS; rw [supR_bit]; simp
theorem sub_sup {f : List S} {x : S} (h : x ∈ f) : sub x (supS f) = true := (sub_iff _ _).2 fun i _ hb => (supS_bit f i).2 ⟨x, h, hb⟩
theorem small_of_sub {x y : S} (h : sub x y = true) (hy : small y) : small x := Nat.lt_of_le_of_lt (sub_le h) hy
theorem small_iff (x : S) : small x ↔ ∀ i, i < 16 → x.getLsbD i = true → i < 12 := by
  constructor
  · intro h i _ hb; exact small_bit h hb
  · intro h
    refine Nat.lt_pow_two_of_testBit (n := 12) _ fun i hi => ?_
    cases hx : x.toNat.testBit i with
    | false => rfl
    | true =>
      rcases Nat.lt_or_ge i 16 with h1 | h1
      · have := h i h1 hx; omega
      · rw [Nat.testBit_lt_two_pow (Nat.lt_of_lt_of_le x.isLt (Nat.pow_le_pow_right (n := 2) (by decide) h1))] at hx; cases hx
def D (f : List S) : List S := dualP f (subsetsL (supS f))
def Anti (f : List S) : Prop := ∀ x ∈ f, ∀ y ∈ f, sub x y = true → x = y
structure Fam (f : List S) : Prop where
  len : f.length ≤ 400
  low : ∀ x ∈ f, small x
  asc : Asc f
  anti : Anti f
theorem valid_iff (f : List S) : validS f = 0 ↔ Fam f := by
  unfold validS
  by_cases h4 : f.length > 400
  · rw [if_pos h4]
    exact ⟨fun h => absurd h (by decide), fun h => absurd h.len (by omega)⟩
  · rw [if_neg h4]
    by_cases h1 : val1 none f = 0
    · rw [if_pos h1]
      obtain ⟨a, b⟩ := (val1_none f).1 h1
      rw [val2_zero f [] b]
      constructor
      · intro h; exact ⟨by omega, a, b, fun x hx y hy => h y hy x hx⟩
      · intro h y hy x hx; exact h.anti x hx y hy
    · rw [if_neg h1]
      exact ⟨fun h => absurd h h1, fun h => absurd ((val1_none f).2 ⟨h.low, h.asc⟩) h1⟩
end Go.Proofs.YtijknodekomdfaaGreatDoor
