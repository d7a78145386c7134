/- The reference of the layer transversal: dual, Same, Cross, Disjoint, Few; the program's Disjoint. -/
import Derived.Test.YteaehcaokcbehaaDoorR09a
namespace Go.Proofs.YteaehcaokcbehaaDoor
open Go.RowKit Go.Lib Go.Shelf

/-- what the reference's dual gathers -/
def rdualR (f : List S) : List S → List S → List S
  | acc, [] => acc
  | acc, s :: rest => rdualR f (if hitS f s && !accS acc s then acc ++ [s] else acc) rest
def rdualS (f : List S) : List S := rdualR f [] (refSubs (supS f))
theorem refSubs_len (s : S) : (refSubs s).length ≤ 1200000 := by
  have h1 := refSTo_len s (cnt s + 1)
  have h2 := cnt_le s
  unfold refSubs
  have h3 : (cnt s + 1) * 65536 ≤ 17 * 65536 := Nat.mul_le_mul_right _ (by omega)
  omega

set_option maxHeartbeats 800000 in
theorem rdual_any (a : Option Addr) (n c : Nat) (l : List S) (w : World) (h : Rd w a n c 1 (sl l)) :
    Calls Tryd.prog 54 #[.slice a n c] w fun e w' => ∃ v, e = .returned v ∧ Own 24 1 w w' v (rdualS l).length (sl (rdualS l)) := by
  have hsup := rSupport_any a n c l w h
  have hsub := fun W => rSubs_any (supS l) W
  have hlen := refSubs_len (supS l)
  unfold rdualS
  generalize supS l = s at *
  generalize refSubs s = m at *
  have HSU := Lib.hid hsup; have HSB := Lib.hid hsub; clear hsup hsub
  go_enter Tryd.func54, Tryd.ntmps54
  go_wp2_with fail
  refine HSU.out.mono ?_
  rintro e w' ⟨rfl, rfl⟩
  go_wp2_with fail
  refine (HSB.out _).mono ?_
  rintro e w1 ⟨v1, rfl, hO⟩
  obtain ⟨a1, c1, rfl, hR⟩ := hO.rd
  have s1 := hR.small
  go_wp2_with fail
  go_loopw [3, 5] (fun u v wr => ∃ (k : Nat) (acc : List S), k ≤ m.length ∧ v = .int .i64 k ∧ acc.length ≤ k ∧ Own 24 1 w1 wr u acc.length (sl acc) ∧ Hid (rdualR l [] m = rdualR l acc (m.drop k))) (fun _ v _ => m.length - (intOf v).toNat)
  case atStart => exact ⟨0, [], Nat.zero_le _, rfl, Nat.zero_le _, Own.nil _ _ (Keeps.refl _), rfl⟩
  case round =>
    obtain ⟨k, acc, hk, rfl, hak, hA, HI⟩ := hrel
    by_cases hlt : k < m.length
    · have hc := (hR.keep hA.2).at hlt
      have ha := hR.isSome (by omega)
      have hr := h.keep (hO.2.trans hA.2)
      obtain ⟨a2, c2, rfl, hRa⟩ := hA.rd
      have hhit := rHits_any a n c l (at_ m k) wr hr
      have hacc := rAccepts_any a2 acc.length c2 acc (at_ m k) wr hRa
      have hst := HI.out
      rw [drop_at m k hlt, rdualR] at hst
      have HN : Hid (acc.length + 1 ≤ 10000000) := by show _ ≤ _; omega
      cases hq : hitS l (at_ m k) with
      | false =>
        rw [hq] at hhit hst
        have HH := Lib.hid hhit; have HST := Lib.hid hst; clear hhit hst hacc hq HI
        go_wp2_with (go_at_call 18; refine HH.out.mono ?_; rintro e w2 ⟨rfl, rfl⟩)
        go_roundw
        case rel => exact ⟨k + 1, acc, by omega, by go_num, by omega, hA, hrfl <| by rw [HST.out]; rfl⟩
        case measure => simp [intOf]; omega
      | true =>
        cases hq2 : accS acc (at_ m k) with
        | true =>
          rw [hq] at hhit hst; rw [hq2] at hacc hst
          have HH := Lib.hid hhit; have HA := Lib.hid hacc; have HST := Lib.hid hst; clear hhit hst hacc hq hq2 HI
          go_wp2_with fail
          refine HH.out.mono ?_
          rintro e w2 ⟨rfl, rfl⟩
          go_wp2_with fail
          refine HA.out.mono ?_
          rintro e w2 ⟨rfl, rfl⟩
          go_wp2_with fail
          go_roundw
          case rel => exact ⟨k + 1, acc, by omega, by go_num, by omega, hA, hrfl <| by rw [HST.out]; rfl⟩
          case measure => simp [intOf]; omega
        | false =>
          rw [hq] at hhit hst; rw [hq2] at hacc hst
          have HH := Lib.hid hhit; have HA := Lib.hid hacc; have HST := Lib.hid hst; clear hhit hst hacc hq hq2 HI
          go_wp2_with fail
          refine HH.out.mono ?_
          rintro e w2 ⟨rfl, rfl⟩
          go_wp2_with fail
          refine HA.out.mono ?_
          rintro e w2 ⟨rfl, rfl⟩
          go_wp2_with (at_builtin; refine wp_app tyS rfl _ _ rfl (hA.alloc _) rfl rfl (rd_new _ 1 _ [.int .u16 (sv (at_ m k))] 1 (by decide) rfl) (sl_oneCell [at_ m k]) HN.out ?_)
          intro v' w3 hO3 _
          go_wp2
          go_roundw
          case rel => exact ⟨k + 1, acc ++ [at_ m k], by omega, by go_num, by simp; omega, hO3.snoc, hrfl <| by rw [HST.out]; rfl⟩
          case measure => simp [intOf]; omega
    · go_wp2
      go_ret
      refine ⟨_, rfl, ?_⟩
      rw [HI.out, drop_all m k (by omega), rdualR]
      exact hA.since hO.2

theorem eqFrom_cons (x y : S) (xs ys : List S) : eqFrom (x :: xs) (y :: ys) = ((x == y) && eqFrom xs ys) := by
  rw [eqFrom]; cases h : x == y <;> simp [bne, h]
set_option maxHeartbeats 800000 in
theorem rSame_any (a : Option Addr) (n c : Nat) (l : List S) (a2 : Option Addr) (n2 c2 : Nat) (l2 : List S) (w : World) (h : Rd w a n c 1 (sl l)) (h2 : Rd w a2 n2 c2 1 (sl l2)) :
    Calls Tryd.prog 28 #[.slice a n c, .slice a2 n2 c2] w fun e w' => e = .returned (.bool (eqS l l2)) ∧ Keeps w w' := by
  have L := Lib.hid h.lenS
  have L2 := Lib.hid h2.lenS
  have s1 := h.small
  by_cases hn : n = n2
  · subst hn
    have he : Hid (eqS l l2 = eqFrom l l2) := by show _ = _; unfold eqS; rw [if_neg (by have := L.out; have := L2.out; simp; omega)]
    go_enter Tryd.func28, Tryd.ntmps28
    go_wp2
    go_loopw [5] (fun v wr => ∃ (k : Nat), k ≤ n ∧ v = .int .i64 k ∧ Keeps w wr ∧ Hid (eqS l l2 = eqFrom (l.drop k) (l2.drop k))) (fun v _ => n - (intOf v).toNat)
    case atStart => exact ⟨0, Nat.zero_le _, rfl, Keeps.refl _, he⟩
    case round =>
      obtain ⟨k, hk, rfl, K1, HI⟩ := hrel
      by_cases hlt : k < n
      · have hc := (h.keep K1).at hlt
        have hc2 := (h2.keep K1).at hlt
        have hs := h.isSome (by omega)
        have hs2 := h2.isSome (by omega)
        have hst := HI.out
        rw [dropH L hlt, dropH L2 hlt, eqFrom_cons] at hst
        cases hxy : (at_ l k == at_ l2 k) with
        | true =>
          have HJ : Hid (eqS l l2 = eqFrom (l.drop (k + 1)) (l2.drop (k + 1))) := by show _ = _; rw [hst, hxy]; rfl
          have hxy' : (at_ l k != at_ l2 k) = false := by simp [bne, hxy]
          clear hst HI hxy
          go_wp2_with (go_quiet (fail))
          go_roundw
          case rel => exact ⟨k + 1, by omega, rfl, by first | exact K1 | exact K1.drew | exact K1.drewN _, HJ⟩
          case measure => simp [intOf]; omega
        | false =>
          have HJ : Hid (eqS l l2 = false) := by show _ = _; rw [hst, hxy]; rfl
          have hxy' : (at_ l k != at_ l2 k) = true := by simp [bne, hxy]
          clear hst HI hxy
          go_wp2_with (go_quiet (fail))
          go_ret
          rw [HJ.out]
          exact ⟨rfl, by first | exact K1 | exact K1.drew | exact K1.drewN _⟩
      · have HJ : Hid (eqS l l2 = true) := by
          show _ = _
          rw [HI.out, dropN L hlt]; simp [eqFrom]
        clear HI
        go_wp2
        go_ret
        rw [HJ.out]
        exact ⟨rfl, K1⟩
  · have he : eqS l l2 = false := by unfold eqS; rw [if_pos (by have := L.out; have := L2.out; simp; omega)]
    rw [he]
    have hb : ((n : Int) != (n2 : Int)) = true := by rw [bne_iff_ne]; omega
    clear he
    go_enter Tryd.func28, Tryd.ntmps28
    go_wp2
    go_ret
    exact ⟨rfl, Keeps.refl _⟩

theorem crossS_cons (x : S) (xs g : List S) : crossS (x :: xs) g = (hitS g x && crossS xs g) := by simp [crossS]
theorem rCross_any (a : Option Addr) (n c : Nat) (l : List S) (a2 : Option Addr) (n2 c2 : Nat) (g : List S) (w : World) (h : Rd w a n c 1 (sl l)) (h2 : Rd w a2 n2 c2 1 (sl g)) :
    Calls Tryd.prog 35 #[.slice a n c, .slice a2 n2 c2] w fun e w' => e = .returned (.bool (crossS l g)) ∧ w = w' := by
  have L := Lib.hid h.lenS
  have s1 := h.small
  have hh := fun x => rHits_any a2 n2 c2 g x w h2
  have HH := Lib.hid hh; clear hh
  go_enter Tryd.func35, Tryd.ntmps35
  go_wp2
  go_loopw [5] (fun v wr => ∃ (k : Nat), k ≤ n ∧ v = .int .i64 k ∧ w = wr ∧ Hid (crossS l g = crossS (l.drop k) g)) (fun v _ => n - (intOf v).toNat)
  case atStart => exact ⟨0, Nat.zero_le _, rfl, rfl, rfl⟩
  case round =>
    obtain ⟨k, hk, rfl, rfl, HI⟩ := hrel
    by_cases hlt : k < n
    · have hc := h.at hlt
      have hs := h.isSome (by omega)
      have hst := HI.out
      rw [dropH L hlt, crossS_cons] at hst
      have hx := HH.out (at_ l k)
      cases hq : hitS g (at_ l k) with
      | true =>
        have HJ : Hid (crossS l g = crossS (l.drop (k + 1)) g) := by show _ = _; rw [hst, hq]; rfl
        rw [hq] at hx
        have HX := Lib.hid hx
        clear hst HI hq hx
        go_wp2_with (go_at_call 18; refine HX.out.mono ?_; rintro e w2 ⟨rfl, rfl⟩)
        go_roundw
        case rel => exact ⟨k + 1, by omega, rfl, trivial, HJ⟩
        case measure => simp [intOf]; omega
      | false =>
        have HJ : Hid (crossS l g = false) := by show _ = _; rw [hst, hq]; rfl
        rw [hq] at hx
        have HX := Lib.hid hx
        clear hst HI hq hx
        go_wp2_with (go_at_call 18; refine HX.out.mono ?_; rintro e w2 ⟨rfl, rfl⟩)
        go_ret
        rw [HJ.out]
        exact ⟨rfl, rfl⟩
    · have HJ : Hid (crossS l g = true) := by show _ = _; rw [HI.out, dropN L hlt]; rfl
      clear HI
      go_wp2
      go_ret
      rw [HJ.out]
      exact ⟨rfl, rfl⟩

/-- a pair and an error number come back -/
def RetP (r : S × S × Int) (e : Ending) : Prop := e = .returned (.tuple #[.int .u16 (sv r.1), .int .u16 (sv r.2.1), .int .i64 r.2.2])
set_option maxHeartbeats 800000 in
theorem disjoint_any (a : Option Addr) (n c : Nat) (l : List S) (a2 : Option Addr) (n2 c2 : Nat) (g : List S) (w : World) (h : Rd w a n c 1 (sl l)) (h2 : Rd w a2 n2 c2 1 (sl g)) :
    Calls Tryd.prog 33 #[.slice a n c, .slice a2 n2 c2] w fun e w' => RetP (disR l g) e ∧ w = w' := by
  have L := Lib.hid h.lenS
  have L2 := Lib.hid h2.lenS
  have s1 := h.small
  have s2 := h2.small
  go_enter Tryd.func33, Tryd.ntmps33
  go_wp2
  go_loopw [13] (fun v wr => ∃ (k : Nat), k ≤ n ∧ v = .int .i64 k ∧ w = wr ∧ Hid (disR l g = disR (l.drop k) g)) (fun v _ => n - (intOf v).toNat)
  case atStart => exact ⟨0, Nat.zero_le _, rfl, rfl, rfl⟩
  case round =>
    obtain ⟨k, hk, rfl, rfl, HI⟩ := hrel
    by_cases hlt : k < n
    · have hc := h.at hlt
      have hs := h.isSome (by omega)
      have hst := HI.out
      rw [dropH L hlt] at hst
      have HST := Lib.hid hst; clear hst HI
      go_wp2
      go_loopw [19] (fun v wr => ∃ (i : Nat), i ≤ n2 ∧ v = .int .i64 i ∧ w = wr ∧ Hid (disIn (at_ l k) g = disIn (at_ l k) (g.drop i))) (fun v _ => n2 - (intOf v).toNat)
      case atStart => exact ⟨0, Nat.zero_le _, rfl, rfl, rfl⟩
      case round =>
        obtain ⟨i, hi, rfl, rfl, HJ⟩ := hrel
        by_cases hlt2 : i < n2
        · have hc2 := h2.at hlt2
          have hs2 := h2.isSome (by omega)
          have hst2 := HJ.out
          rw [dropH L2 hlt2, disIn] at hst2
          cases hq : (at_ l k &&& at_ g i == 0#16) with
          | true =>
            have HV : Hid (disR l g = (at_ l k, at_ g i, 0)) := by show _ = _; rw [HST.out, disR, hst2, hq]; rfl
            clear hst2 HJ HST
            go_wp2
            go_ret3
            exact ⟨by unfold RetP; rw [HV.out]; try rfl, rfl⟩
          | false =>
            have HJ2 : Hid (disIn (at_ l k) g = disIn (at_ l k) (g.drop (i + 1))) := by show _ = _; rw [hst2, hq]; rfl
            clear hst2 HJ
            go_wp2
            go_roundw
            case rel => exact ⟨i + 1, by omega, rfl, trivial, HJ2⟩
            case measure => simp [intOf]; omega
        · have HJ2 : Hid (disR l g = disR (l.drop (k + 1)) g) := by
            show _ = _; rw [HST.out, disR]
            have : disIn (at_ l k) g = none := by rw [HJ.out, dropN L2 hlt2]; rfl
            rw [this]
          clear HJ HST
          go_wp2
          go_roundw
          case rel => exact ⟨k + 1, by omega, rfl, trivial, HJ2⟩
          case measure => simp [intOf]; omega
    · have HV : Hid (disR l g = (0#16, 0#16, 13)) := by show _ = _; rw [HI.out, dropN L hlt]; rfl
      clear HI
      go_wp2
      go_ret3
      exact ⟨by unfold RetP; rw [HV.out]; try rfl, rfl⟩

set_option maxHeartbeats 800000 in
theorem rDisjoint_any (a : Option Addr) (n c : Nat) (l : List S) (a2 : Option Addr) (n2 c2 : Nat) (g : List S) (w : World) (h : Rd w a n c 1 (sl l)) (h2 : Rd w a2 n2 c2 1 (sl g)) :
    Calls Tryd.prog 34 #[.slice a n c, .slice a2 n2 c2] w fun e w' => RetP (disR l g) e ∧ Keeps w w' := by
  have L := Lib.hid h.lenS
  have L2 := Lib.hid h2.lenS
  have s1 := h.small
  have s2 := h2.small
  go_enter Tryd.func34, Tryd.ntmps34
  go_wp2
  go_loopw [7] (fun v wr => ∃ (k : Nat), k ≤ n ∧ v = .int .i64 k ∧ Keeps w wr ∧ Hid (disR l g = disR (l.drop k) g)) (fun v _ => n - (intOf v).toNat)
  case atStart => exact ⟨0, Nat.zero_le _, rfl, Keeps.refl _, rfl⟩
  case round =>
    obtain ⟨k, hk, rfl, K1, HI⟩ := hrel
    by_cases hlt : k < n
    · have hst := HI.out
      rw [dropH L hlt] at hst
      have HST := Lib.hid hst; clear hst HI
      go_wp2
      go_loopw [8] (fun v wr => ∃ (i : Nat), i ≤ n2 ∧ v = .int .i64 i ∧ Keeps w wr ∧ Hid (disIn (at_ l k) g = disIn (at_ l k) (g.drop i))) (fun v _ => n2 - (intOf v).toNat)
      case atStart => exact ⟨0, Nat.zero_le _, rfl, K1, rfl⟩
      case round =>
        obtain ⟨i, hi, rfl, K2, HJ⟩ := hrel
        by_cases hlt2 : i < n2
        · have hc := (h.keep K2).at hlt
          have hs := h.isSome (by omega)
          have hc2 := (h2.keep K2).at hlt2
          have hs2 := h2.isSome (by omega)
          have hst2 := HJ.out
          rw [dropH L2 hlt2, disIn] at hst2
          cases hq : (at_ l k &&& at_ g i == 0#16) with
          | true =>
            have HV : Hid (disR l g = (at_ l k, at_ g i, 0)) := by show _ = _; rw [HST.out, disR, hst2, hq]; rfl
            clear hst2 HJ HST
            go_wp2_with (go_quiet (fail))
            go_ret3
            refine ⟨by unfold RetP; rw [HV.out]; try rfl, ?_⟩
            first | exact (K2.drewN _).drewN _ | exact K2.drewN _
          | false =>
            have HJ2 : Hid (disIn (at_ l k) g = disIn (at_ l k) (g.drop (i + 1))) := by show _ = _; rw [hst2, hq]; rfl
            clear hst2 HJ
            go_wp2_with (go_quiet (fail))
            go_roundw
            case rel => exact ⟨i + 1, by omega, rfl, K2.drewN _, HJ2⟩
            case measure => simp [intOf]; omega
        · have HJ2 : Hid (disR l g = disR (l.drop (k + 1)) g) := by
            show _ = _; rw [HST.out, disR]
            have : disIn (at_ l k) g = none := by rw [HJ.out, dropN L2 hlt2]; rfl
            rw [this]
          clear HJ HST
          go_wp2
          go_roundw
          case rel => exact ⟨k + 1, by omega, rfl, K2, HJ2⟩
          case measure => simp [intOf]; omega
    · have HV : Hid (disR l g = (0#16, 0#16, 13)) := by show _ = _; rw [HI.out, dropN L hlt]; rfl
      clear HI
      go_wp2
      go_ret3
      exact ⟨by unfold RetP; rw [HV.out]; try rfl, K1⟩

theorem few_any (a : Option Addr) (n c : Nat) (w : World) :
    Calls Tryd.prog 21 #[.slice a n c] w fun e w' => e = .returned (.bool (decide ((n : Int) ≤ 30))) ∧ w = w' := by
  go_enter Tryd.func21, Tryd.ntmps21
  go_wp2
  go_ret
  exact ⟨rfl, rfl⟩
theorem few_yes (a : Option Addr) (n c : Nat) (w : World) (h : n ≤ 30) : Calls Tryd.prog 21 #[.slice a n c] w fun e w' => e = .returned (.bool true) ∧ w = w' :=
  (few_any a n c w).mono fun e w' ⟨he, hw⟩ => ⟨by rw [he, decide_eq_true (by omega)], hw⟩
theorem few_no (a : Option Addr) (n c : Nat) (w : World) (h : ¬ n ≤ 30) : Calls Tryd.prog 21 #[.slice a n c] w fun e w' => e = .returned (.bool false) ∧ w = w' :=
  (few_any a n c w).mono fun e w' ⟨he, hw⟩ => ⟨by rw [he, decide_eq_false (by omega)], hw⟩
end Go.Proofs.YteaehcaokcbehaaDoor
