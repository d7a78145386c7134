/- The reference of the layer transversal: count, Support, Subsets, Hits, accepts, dual, Same, has, Cross, Disjoint, Few. -/
import Derived.Test.YtbiggfbbccpcmaaDoorEmb
import Derived.Test.YtbiggfbbccpcmaaDoorCot2
namespace Go.Proofs.YtbiggfbbccpcmaaDoor
open Go.RowKit Go.Lib Go.Shelf

set_option maxHeartbeats 400000 in
theorem rCount_any (x : S) (w : World) : Calls Tryd.prog 65 #[.int .u16 (sv x)] w fun e w' => e = .returned (.int .i64 (cnt x)) ∧ w = w' := by
  go_enter Tryd.func65, Tryd.ntmps65
  go_wp2
  go_loop [3, 4] (fun n i => ∃ k : Nat, k ≤ 16 ∧ i = .int .i64 k ∧ n = .int .i64 (cntTo x k)) (fun _ i => 16 - (intOf i).toNat)
  case atStart => exact ⟨0, Nat.zero_le _, rfl, rfl⟩
  case round =>
    obtain ⟨k, hk, rfl, rfl⟩ := hrel
    have hl := cntTo_le x k
    by_cases hlt : k < 16
    · have hb := sv_bit x k
      have b0 : 0 ≤ sv ((x >>> k) &&& 1#16) := by rw [hb]; omega
      have b1 : sv ((x >>> k) &&& 1#16) ≤ 1 := by rw [hb]; omega
      have HB := Lib.hid hb; clear hb
      go_wp2
      go_round
      case rel => exact ⟨k + 1, by omega, by go_num, by rw [HB.out, cntTo]; go_num⟩
      case measure => simp [intOf]; omega
    · go_wp2
      go_ret
      obtain rfl : k = 16 := by omega
      exact ⟨rfl, rfl⟩

theorem rSupport_any (a : Option Addr) (n c : Nat) (l : List S) (w : World) (h : Rd w a n c 1 (sl l)) :
    Calls Tryd.prog 44 #[.slice a n c] w fun e w' => e = .returned (.int .u16 (sv (supS l))) ∧ w = w' := by
  have L := Lib.hid h.lenS
  have s1 := h.small
  go_enter Tryd.func44, Tryd.ntmps44
  go_wp2
  go_loopw [3, 4] (fun u v wr => ∃ (k : Nat) (acc : S), k ≤ n ∧ v = .int .i64 k ∧ u = .int .u16 (sv acc) ∧ w = wr ∧ Hid (supS l = supR acc (l.drop k))) (fun _ v _ => n - (intOf v).toNat)
  case atStart => exact ⟨0, 0#16, Nat.zero_le _, rfl, rfl, rfl, rfl⟩
  case round =>
    obtain ⟨k, acc, hk, rfl, rfl, rfl, HI⟩ := hrel
    by_cases hlt : k < n
    · have hc := h.at hlt
      have hs := h.isSome (by omega)
      have HJ : Hid (supS l = supR (acc ||| at_ l k) (l.drop (k + 1))) := by have := HI.out; rw [dropH L hlt] at this; exact this
      clear HI
      go_wp2
      go_roundw
      case rel => exact ⟨k + 1, _, by omega, rfl, rfl, trivial, HJ⟩
      case measure => simp [intOf]; omega
    · have HJ : Hid (supS l = acc) := by have := HI.out; rw [dropN L hlt] at this; exact this
      clear HI
      go_wp2
      go_ret
      rw [HJ.out]
      exact ⟨rfl, rfl⟩

theorem hitS_cons (x : S) (xs : List S) (s : S) : hitS (x :: xs) s = (!(x &&& s == 0#16) && hitS xs s) := by simp [hitS]
theorem accS_cons (x : S) (xs : List S) (s : S) : accS (x :: xs) s = ((x &&& ~~~s == 0#16) || accS xs s) := by simp [accS]
theorem rHits_any (a : Option Addr) (n c : Nat) (l : List S) (s : S) (w : World) (h : Rd w a n c 1 (sl l)) :
    Calls Tryd.prog 45 #[.slice a n c, .int .u16 (sv s)] w fun e w' => e = .returned (.bool (hitS l s)) ∧ w = w' := by
  have L := Lib.hid h.lenS
  have s1 := h.small
  go_enter Tryd.func45, Tryd.ntmps45
  go_wp2
  go_loopw [5] (fun v wr => ∃ (k : Nat), k ≤ n ∧ v = .int .i64 k ∧ w = wr ∧ Hid (hitS l s = hitS (l.drop k) s)) (fun v _ => n - (intOf v).toNat)
  case atStart => exact ⟨0, Nat.zero_le _, rfl, rfl, rfl⟩
  case round =>
    obtain ⟨k, hk, rfl, rfl, HI⟩ := hrel
    by_cases hlt : k < n
    · have hc := h.at hlt
      have hs := h.isSome (by omega)
      have hst := HI.out
      rw [dropH L hlt, hitS_cons] at hst
      cases hq : (at_ l k &&& s == 0#16) with
      | true =>
        have HJ : Hid (hitS l s = false) := by show _ = _; rw [hst, hq]; rfl
        clear hst HI
        go_wp2
        go_ret
        rw [HJ.out]
        exact ⟨rfl, rfl⟩
      | false =>
        have HJ : Hid (hitS l s = hitS (l.drop (k + 1)) s) := by show _ = _; rw [hst, hq]; rfl
        clear hst HI
        go_wp2
        go_roundw
        case rel => exact ⟨k + 1, by omega, rfl, trivial, HJ⟩
        case measure => simp [intOf]; omega
    · have HJ : Hid (hitS l s = true) := by show _ = _; rw [HI.out, dropN L hlt]; rfl
      clear HI
      go_wp2
      go_ret
      rw [HJ.out]
      exact ⟨rfl, rfl⟩

theorem rAccepts_any (a : Option Addr) (n c : Nat) (l : List S) (s : S) (w : World) (h : Rd w a n c 1 (sl l)) :
    Calls Tryd.prog 58 #[.slice a n c, .int .u16 (sv s)] w fun e w' => e = .returned (.bool (accS l s)) ∧ w = w' := by
  have L := Lib.hid h.lenS
  have s1 := h.small
  go_enter Tryd.func58, Tryd.ntmps58
  go_wp2
  go_loopw [5] (fun v wr => ∃ (k : Nat), k ≤ n ∧ v = .int .i64 k ∧ w = wr ∧ Hid (accS l s = accS (l.drop k) s)) (fun v _ => n - (intOf v).toNat)
  case atStart => exact ⟨0, Nat.zero_le _, rfl, rfl, rfl⟩
  case round =>
    obtain ⟨k, hk, rfl, rfl, HI⟩ := hrel
    by_cases hlt : k < n
    · have hc := h.at hlt
      have hs := h.isSome (by omega)
      have hst := HI.out
      rw [dropH L hlt, accS_cons] at hst
      cases hq : (at_ l k &&& ~~~s == 0#16) with
      | true =>
        have HJ : Hid (accS l s = true) := by show _ = _; rw [hst, hq]; rfl
        clear hst HI
        go_wp2
        go_ret
        rw [HJ.out]
        exact ⟨rfl, rfl⟩
      | false =>
        have HJ : Hid (accS l s = accS (l.drop (k + 1)) s) := by show _ = _; rw [hst, hq]; rfl
        clear hst HI
        go_wp2
        go_roundw
        case rel => exact ⟨k + 1, by omega, rfl, trivial, HJ⟩
        case measure => simp [intOf]; omega
    · have HJ : Hid (accS l s = false) := by show _ = _; rw [HI.out, dropN L hlt]; rfl
      clear HI
      go_wp2
      go_ret
      rw [HJ.out]
      exact ⟨rfl, rfl⟩

theorem contains_cons (x : S) (xs : List S) (s : S) : (x :: xs).contains s = ((x == s) || xs.contains s) := by
  rw [List.contains_cons, Bool.beq_comm]
set_option maxHeartbeats 1600000 in
theorem rSubs_any (s : S) (w : World) : Calls Tryd.prog 43 #[.int .u16 (sv s)] w fun e w' => ∃ v, e = .returned v ∧ Own 31 1 w w' v (refSubs s).length (sl (refSubs s)) := by
  have hcn := cnt_le s
  have HC := Lib.hid (fun x W => rCount_any x W)
  have HL := Lib.hid (refSTo_len s)
  have HL2 := Lib.hid (refCTo_len s)
  have hlt16 := s.isLt
  have hb0 : 0 ≤ sv s := (sv_bound s).1
  have hb1 : sv s ≤ 65535 := by have := (sv_bound s).2; omega
  have hSn : sv s = (s.toNat : Int) := rfl
  have HSN := Lib.hid hSn; clear hSn
  unfold refSubs
  go_enter Tryd.func43, Tryd.ntmps43
  go_wp2
  go_loopw [3, 4] (fun u v wr => ∃ k : Nat, k ≤ cnt s + 1 ∧ v = .int .i64 k ∧ Own 31 1 w wr u (refSTo s k).length (sl (refSTo s k))) (fun _ v _ => 20 - (intOf v).toNat)
  case atStart => exact ⟨0, Nat.zero_le _, rfl, Own.nil _ _ (Keeps.refl _)⟩
  case round =>
    obtain ⟨k, hk, rfl, hA⟩ := hrel
    by_cases hle : k ≤ cnt s
    · have hle' : (k : Int) ≤ (cnt s : Int) := by omega
      go_wp2_with fail
      refine (HC.out _ _).mono ?_
      rintro e w' ⟨rfl, rfl⟩
      go_wp2
      go_loopw [3, 5] (fun u v wx => ∃ x : Nat, x ≤ s.toNat + 1 ∧ v = .int .i64 x ∧ Own 31 1 w wx u (refSTo s k ++ refCTo s k x).length (sl (refSTo s k ++ refCTo s k x))) (fun _ v _ => 70000 - (intOf v).toNat)
      case atStart => exact ⟨0, Nat.zero_le _, rfl, by rw [refCTo, List.append_nil]; exact hA⟩
      case round =>
        obtain ⟨x, hx, rfl, hB⟩ := hrel
        by_cases hxs : x ≤ s.toNat
        · have hxs' : (x : Int) ≤ sv s := by rw [HSN.out]; omega
          have hx5 : x ≤ 65535 := by omega
          have hxv : (x : Int) = sv (BitVec.ofNat 16 x) := by rw [sv_lit x (by omega)]
          have hand : bits .andNot .u16 (x : Int) (sv s) = sv (BitVec.ofNat 16 x &&& ~~~s) := by rw [← sv_andNot, ← hxv]
          have hcx := fun W => HC.out (BitVec.ofNat 16 x) W
          rw [← hxv] at hcx
          have HCX := Lib.hid hcx; have HXV := Lib.hid hxv; clear hcx hxv
          have hN : (refSTo s k ++ refCTo s k x).length + 1 ≤ 10000000 := by
            have h1 := HL.out k; have h2 := HL2.out k x
            rw [List.length_append]; omega
          have HN := Lib.hid hN; clear hN
          have HST : Hid (refSTo s k ++ refCTo s k (x + 1) = (refSTo s k ++ refCTo s k x) ++ (if sub (BitVec.ofNat 16 x) s && cnt (BitVec.ofNat 16 x) == k then [BitVec.ofNat 16 x] else [])) := by
            show _ = _; rw [refCTo, List.append_assoc]
          cases hsub : sub (BitVec.ofNat 16 x) s with
          | false =>
            have hq : (BitVec.ofNat 16 x &&& ~~~s == 0#16) = false := hsub
            have HJ : Hid (refSTo s k ++ refCTo s k (x + 1) = refSTo s k ++ refCTo s k x) := by show _ = _; rw [HST.out, hsub]; simp
            clear HST hsub
            go_wp2_with (go_quiet (fail))
            go_roundw
            case rel => exact ⟨x + 1, by omega, by go_num, by rw [HJ.out]; exact hB⟩
            case measure => simp [intOf]; omega
          | true =>
            have hq : (BitVec.ofNat 16 x &&& ~~~s == 0#16) = true := hsub
            cases hck : (cnt (BitVec.ofNat 16 x) == k) with
            | false =>
              have HJ : Hid (refSTo s k ++ refCTo s k (x + 1) = refSTo s k ++ refCTo s k x) := by show _ = _; rw [HST.out, hsub, hck]; simp
              have hck' : ((cnt (BitVec.ofNat 16 x) : Int) == (k : Int)) = false := by
                rw [beq_eq_false_iff_ne] at hck ⊢; omega
              clear HST hsub hck
              go_wp2_with (go_at_call 65; refine (HCX.out _).mono ?_; rintro e w' ⟨rfl, rfl⟩)
              go_roundw
              case rel => exact ⟨x + 1, by omega, by go_num, by rw [HJ.out]; exact hB⟩
              case measure => simp [intOf]; omega
            | true =>
              have HJ : Hid (refSTo s k ++ refCTo s k (x + 1) = (refSTo s k ++ refCTo s k x) ++ [BitVec.ofNat 16 x]) := by show _ = _; rw [HST.out, hsub, hck]; simp
              have hck' : ((cnt (BitVec.ofNat 16 x) : Int) == (k : Int)) = true := by
                rw [beq_iff_eq] at hck ⊢; omega
              clear HST hsub hck
              go_wp2_with (first | (go_at_call 65; refine (HCX.out _).mono ?_; rintro e w' ⟨rfl, rfl⟩) | (at_builtin; refine wp_app tyS rfl _ _ rfl (hB.alloc _) rfl rfl (rd_new _ 1 _ [.int .u16 (x : Int)] 1 (by decide) rfl) (fun u hu => by rw [List.mem_singleton.1 hu]; rfl) HN.out ?_))
              intro v' w3 hO3 _
              have hO4 : Own 31 1 w w3 v' ((refSTo s k ++ refCTo s k x).length + 1) (sl (refSTo s k ++ refCTo s k x) ++ [.int .u16 (sv (BitVec.ofNat 16 x))]) := by rw [← HXV.out, List.length_append]; exact hO3
              clear hO3
              go_wp2
              go_roundw
              case rel => exact ⟨x + 1, by omega, by go_num, by rw [HJ.out]; exact hO4.snoc⟩
              case measure => simp [intOf]; omega
        · have hxs' : ¬ (x : Int) ≤ sv s := by rw [HSN.out]; omega
          have hxe : x = s.toNat + 1 := by omega
          have HX := Lib.hid hxe; clear hxe
          go_wp2
          go_roundw
          case rel => exact ⟨k + 1, by omega, by go_num, by have h3 := hB; rw [HX.out] at h3; exact h3⟩
          case measure => simp [intOf]; omega
    · have hle' : ¬ (k : Int) ≤ (cnt s : Int) := by omega
      have hke : k = cnt s + 1 := by omega
      have HK := Lib.hid hke; clear hke
      go_wp2_with fail
      refine (HC.out _ _).mono ?_
      rintro e w' ⟨rfl, rfl⟩
      go_wp2
      go_ret
      refine ⟨_, rfl, ?_⟩
      rw [← HK.out]
      exact hA
end Go.Proofs.YtbiggfbbccpcmaaDoor
