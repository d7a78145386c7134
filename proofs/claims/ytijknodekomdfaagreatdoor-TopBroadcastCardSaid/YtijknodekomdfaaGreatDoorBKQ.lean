/- Texts joined into one, what is needed of them (a program of ours). -/
import Derived.Test.YtijknodekomdfaaGreatDoorBKC
import Derived.Test.YtijknodekomdfaaGreatDoorBKH
namespace Go.Proofs.YtijknodekomdfaaGreatDoor
open Go.RowKit Go.Lib Go.Shelf

/-- the subsets of s with k members among the first x numbers -/
def chTo (s : S) (k : Nat) : Nat → List S
  | 0 => []
  | x + 1 => chTo s k x ++ (if (BitVec.ofNat 16 x &&& ~~~s == 0#16) && decide (cnt (BitVec.ofNat 16 x) = k) then [BitVec.ofNat 16 x] else [])
theorem chTo_len (s : S) (k : Nat) : ∀ x, (chTo s k x).length ≤ x
  | 0 => Nat.le_refl _
  | x + 1 => by
    have := chTo_len s k x
    rw [chTo, List.length_append]
    split <;> simp <;> omega
/-- all subsets of s with k members -/
def chooseA (s : S) (k : Nat) : List S := chTo s k 65536
theorem chooseA_eq (s : S) (k : Nat) : ∀ x, x = 65536 → chTo s k x = chooseA s k := fun x h => by rw [h, chooseA]
set_option maxHeartbeats 1600000 in
set_option maxRecDepth 100000 in
theorem choose7_any (s : S) (k : Nat) (w : World) : Calls Tryz.prog 80 #[.int .u16 (sv s), .int .i64 k] w fun e w' => ∃ v, e = .returned v ∧ Own 31 1 w w' v (chooseA s k).length (sl (chooseA s k)) := by
  have HA := Lib.hid (chooseA_eq s k)
  generalize chooseA s k = res at *
  have HL := Lib.hid (chTo_len s k)
  go_enter Tryz.func80, Tryz.ntmps80
  go_wp2
  go_loopw [5, 6] (fun u v wr => ∃ x : Nat, x ≤ 65536 ∧ v = .int .i64 x ∧ Own 31 1 w wr u (chTo s k x).length (sl (chTo s k x))) (fun _ v _ => 65536 - (RowKit.intOf v).toNat)
  case atStart => exact ⟨0, Nat.zero_le _, rfl, Own.nil _ _ (Keeps.refl _)⟩
  case round =>
    obtain ⟨x, hx, rfl, hO⟩ := hrel
    obtain ⟨a2, c2, rfl, hRa⟩ := hO.rd
    by_cases hlt : x < 65536
    · have hxv : (x : Int) = sv (BitVec.ofNat 16 x) := by rw [sv_lit x (by omega)]
      have hx5 : x ≤ 65535 := by omega
      have h1 := fun W => within7_any (BitVec.ofNat 16 x) s W
      have h2 := fun W => count7_any (BitVec.ofNat 16 x) W
      rw [← hxv] at h1 h2
      have hst : chTo s k (x + 1) = chTo s k x ++ (if (BitVec.ofNat 16 x &&& ~~~s == 0#16) && decide (cnt (BitVec.ofNat 16 x) = k) then [BitVec.ofNat 16 x] else []) := rfl
      have hN : (chTo s k x).length + 1 ≤ 10000000 := by have := HL.out x; omega
      have HXV := Lib.hid hxv; have HN := Lib.hid hN; have HO := Lib.hid hO
      have hwr : IntKind.u16.wrap (x : Int) = (x : Int) := by rw [IntKind.wrap_u16]; omega
      have hxi : (x : Int) < 65536 := by omega
      have hwi : IntKind.i64.wrap ((x : Int) + 1) = ((x + 1 : Nat) : Int) := by rw [IntWalk.i64_in _ (by omega)]; omega
      have HX5 := Lib.hid hx5
      clear hxv hN hO hRa hlt hx hx5
      cases hq : (BitVec.ofNat 16 x &&& ~~~s == 0#16)
      · rw [hq] at h1
        rw [hq, Bool.false_and, if_neg (by simp), List.append_nil] at hst
        have H1 := Lib.hid h1; have HST := Lib.hid hst
        clear h1 h2 hst hq
        go_wp2_with fail
        refine (H1.out _).mono ?_
        rintro e w2 ⟨rfl, rfl⟩
        go_wp2_with fail
        go_roundw
        case rel => exact ⟨x + 1, by have := HX5.out; omega, by first | go_num | rfl, by rw [HST.out]; exact HO.out⟩
        case measure => have := HX5.out; simp [RowKit.intOf]; omega
      · rw [hq] at h1
        rw [hq, Bool.true_and] at hst
        by_cases hc : cnt (BitVec.ofNat 16 x) = k
        · rw [hc] at h2
          rw [if_pos (by simpa using hc)] at hst
          have hkb : ((k : Int) == (k : Int)) = true := by simp
          have H1 := Lib.hid h1; have H2 := Lib.hid h2; have HST := Lib.hid hst
          clear h1 h2 hst hq hc
          go_wp2_with fail
          refine (H1.out _).mono ?_
          rintro e w2 ⟨rfl, rfl⟩
          go_wp2_with fail
          refine (H2.out _).mono ?_
          rintro e w2 ⟨rfl, K2⟩
          go_wp2_with (at_builtin; refine wp_app tyS rfl _ _ rfl ((HO.out.keep K2).alloc _) rfl rfl (rd_new _ 1 _ [.int .u16 x] 1 (by decide) rfl) (by intro u hu; simp at hu; subst hu; rfl) HN.out ?_)
          intro v' w3 hO3 _
          go_wp2
          go_roundw
          case rel =>
            refine ⟨x + 1, by have := HX5.out; omega, by first | go_num | rfl, ?_⟩
            rw [HST.out, sl_append, List.length_append]
            have e1 : sl [BitVec.ofNat 16 x] = [.int .u16 (x : Int)] := by simp only [sl, List.map]; rw [← HXV.out]
            rw [e1]
            exact hO3
          case measure => have := HX5.out; simp [RowKit.intOf]; omega
        · rw [if_neg (by simpa using hc), List.append_nil] at hst
          have hkb : ((cnt (BitVec.ofNat 16 x) : Int) == (k : Int)) = false := by rw [beq_eq_false_iff_ne]; omega
          have H1 := Lib.hid h1; have H2 := Lib.hid h2; have HST := Lib.hid hst
          clear h1 h2 hst hq hc
          generalize cnt (BitVec.ofNat 16 x) = q at *
          go_wp2_with fail
          refine (H1.out _).mono ?_
          rintro e w2 ⟨rfl, rfl⟩
          go_wp2_with fail
          refine (H2.out _).mono ?_
          rintro e w2 ⟨rfl, K2⟩
          go_wp2_with fail
          go_roundw
          case rel => exact ⟨x + 1, by have := HX5.out; omega, by first | go_num | rfl, by rw [HST.out]; exact HO.out.keep K2⟩
          case measure => have := HX5.out; simp [RowKit.intOf]; omega
    · have hkk : x = 65536 := by omega
      have hnl : ¬ ((x : Int) < 65536) := by omega
      have hrl := HA.out x hkk
      have HRL := Lib.hid hrl
      have HO := Lib.hid hO
      clear hO hRa hkk hrl hlt hx
      go_wp2
      go_ret
      rw [← HRL.out]
      exact ⟨_, rfl, HO.out⟩
end Go.Proofs.YtijknodekomdfaaGreatDoor
namespace Go.Proofs.YtijknodekomdfaaGreatDoor
open Go.RowKit Go.Lib Go.Shelf

theorem refContains_any (a b : S) (w : World) : Calls Tryz.prog 143 #[.int .u16 (sv a), .int .u16 (sv b)] w fun e w' => e = .returned (.bool (b &&& ~~~a == 0#16)) ∧ w' = w := by
  go_enter Tryz.func143, Tryz.ntmps143
  go_wp2
  go_ret
  exact ⟨rfl, rfl⟩

theorem before_any (a b : S) (w : World) : Calls Tryz.prog 192 #[.int .u16 (sv a), .int .u16 (sv b)] w fun e w' => e = .returned (.bool (ltS a b)) ∧ w' = w := by
  have h := ltS_iff a b
  by_cases hc : cnt a = cnt b
  · have hb : ((cnt a : Int) != (cnt b : Int)) = false := by simp [hc]
    have he : ltS a b = decide (sv a < sv b) := by rw [Bool.eq_iff_iff, h, decide_eq_true_eq]; omega
    rw [he]
    clear h he hc
    go_enter Tryz.func192, Tryz.ntmps192
    go_wp2_with fail
    refine (refSize_any a _).mono ?_
    rintro e w' ⟨rfl, rfl⟩
    go_wp2_with fail
    refine (refSize_any b _).mono ?_
    rintro e w' ⟨rfl, rfl⟩
    go_wp2_with fail
    go_ret
    exact ⟨rfl, rfl⟩
  · have hb : ((cnt a : Int) != (cnt b : Int)) = true := by rw [bne_iff_ne]; omega
    have he : ltS a b = decide (cnt a < cnt b) := by rw [Bool.eq_iff_iff, h, decide_eq_true_eq]; omega
    rw [he]
    clear h he hc
    go_enter Tryz.func192, Tryz.ntmps192
    go_wp2_with fail
    refine (refSize_any a _).mono ?_
    rintro e w' ⟨rfl, rfl⟩
    go_wp2_with fail
    refine (refSize_any b _).mono ?_
    rintro e w' ⟨rfl, rfl⟩
    go_wp2_with fail
    refine (refSize_any a _).mono ?_
    rintro e w' ⟨rfl, rfl⟩
    go_wp2_with fail
    refine (refSize_any b _).mono ?_
    rintro e w' ⟨rfl, rfl⟩
    go_wp2_with fail
    go_ret
    exact ⟨rfl, rfl⟩

end Go.Proofs.YtijknodekomdfaaGreatDoor
namespace Go.Proofs.YtijknodekomdfaaGreatDoor
open Go.RowKit Go.Lib Go.Shelf

/-- how many sets at the front come before x -/
def posS : List S → S → Nat
  | [], _ => 0
  | y :: ys, x => if ltS y x = true then posS ys x + 1 else 0
def insAt (l : List S) (k : Nat) (y : S) : List S := l.take k ++ y :: l.drop k
/-- insertion, unless it is there -/
def insU (l : List S) (x : S) : List S := if posS l x < l.length ∧ at_ l (posS l x) = x then l else insAt l (posS l x) x
/-- what Sorted gathers -/
def sortR : List S → List S → List S
  | acc, [] => acc
  | acc, x :: xs => sortR (insU acc x) xs
theorem insAt_length (l : List S) (k : Nat) (y : S) (h : k ≤ l.length) : (insAt l k y).length = l.length + 1 := by simp [insAt]; omega
theorem insAt_set (l : List S) (k : Nat) (y x : S) (h : k ≤ l.length) : (insAt l k y).set k x = insAt l k x := by
  unfold insAt
  rw [List.set_append_right _ _ (by simp; omega)]
  simp [Nat.min_eq_left h]
theorem insAt_shift (l : List S) (k : Nat) (y : S) (h : k + 1 ≤ l.length) : (insAt l (k + 1) y).set (k + 1) (at_ l k) = insAt l k (at_ l k) := by
  rw [insAt_set _ _ _ _ h]
  unfold insAt
  rw [take_at l k (by omega), drop_at l k (by omega)]
  simp
theorem at_insAt (l : List S) (k : Nat) (y : S) (h : k + 1 ≤ l.length) : at_ (insAt l (k + 1) y) k = at_ l k := by
  unfold insAt at_
  rw [List.getD_eq_getElem?_getD, List.getElem?_append_left (by simp; omega)]
  simp [List.getD_eq_getElem?_getD]
theorem insAt_shift' (l : List S) (k : Nat) (y : S) (h1 : 1 ≤ k) (h : k ≤ l.length) : (insAt l k y).set k (at_ l (k - 1)) = insAt l (k - 1) (at_ l (k - 1)) := by
  obtain ⟨q, rfl⟩ : ∃ q, k = q + 1 := ⟨k - 1, by omega⟩
  exact insAt_shift l q y h
theorem at_insAt' (l : List S) (k : Nat) (y : S) (h1 : 1 ≤ k) (h : k ≤ l.length) : at_ (insAt l k y) (k - 1) = at_ l (k - 1) := by
  obtain ⟨q, rfl⟩ : ∃ q, k = q + 1 := ⟨k - 1, by omega⟩
  exact at_insAt l q y h
theorem insAt_end (l : List S) (y : S) : insAt l l.length y = l ++ [y] := by simp [insAt]

/-- is no other set of s inside x? the sets from place k on; x stands at place i -/
def loneR (x : S) (i : Nat) : List S → Nat → Bool → Bool
  | [], _, r => r
  | y :: ys, k, r => loneR x i ys (k + 1) (r && !(decide (i ≠ k) && y &&& ~~~x == 0#16))
/-- what Least gathers -/
def minR (s : List S) : List S → Nat → List S → List S
  | [], _, acc => acc
  | x :: xs, i, acc => minR s xs (i + 1) (if loneR x i s 0 true = true then acc ++ [x] else acc)
def refLeast (l : List S) : List S := minR (sortR [] l) (sortR [] l) 0 []
theorem insU_length (l : List S) (x : S) : (insU l x).length ≤ l.length + 1 := by
  unfold insU insAt
  split
  · omega
  · simp; omega
theorem sortR_length (acc l : List S) : (sortR acc l).length ≤ acc.length + l.length := by
  induction l generalizing acc with
  | nil => simp [sortR]
  | cons x xs ih => have := ih (insU acc x); have := insU_length acc x; simp only [sortR, List.length_cons]; omega

end Go.Proofs.YtijknodekomdfaaGreatDoor
namespace Go.Proofs.YtijknodekomdfaaGreatDoor
open Go.RowKit Go.Lib Go.Shelf

set_option maxHeartbeats 1600000 in
theorem refSorted_any (a : Option Addr) (n c : Nat) (l : List S) (w : World) (h : Rd w a n c 1 (sl l)) (hn : n ≤ 1000000) :
    Calls Tryz.prog 142 #[.slice a n c] w fun e w' => ∃ v, e = .returned v ∧ Own 31 1 w w' v (sortR [] l).length (sl (sortR [] l)) := by
  have s1 := h.small; have l1 := h.lenS
  have L1 := Lib.hid l1; clear l1
  go_enter Tryz.func142, Tryz.ntmps142
  go_wp2
  go_loopw [3, 4] (fun u v wr => ∃ (i : Nat) (acc : List S), i ≤ n ∧ v = .int .i64 i ∧ acc.length ≤ i ∧ Own 31 1 w wr u acc.length (sl acc) ∧ Hid (sortR [] l = sortR acc (l.drop i))) (fun _ v _ => n - (RowKit.intOf v).toNat)
  case atStart => exact ⟨0, [], Nat.zero_le _, rfl, Nat.zero_le _, Own.nil _ _ (Keeps.refl _), rfl⟩
  case round =>
    obtain ⟨i, acc, hi, rfl, hai, hA, HI⟩ := hrel
    by_cases hlt : i < n
    · obtain ⟨wo, rfl⟩ : ∃ wo : World, wo = wr := ⟨_, rfl⟩
      obtain ⟨a2, c2, rfl, hRa⟩ := hA.rd
      go_wp2
      go_loopw [5] (fun v wr => ∃ p : Nat, p ≤ acc.length ∧ v = .int .i64 p ∧ Keeps wo wr ∧ Hid (posS acc (at_ l i) = posS (acc.drop p) (at_ l i) + p)) (fun v _ => acc.length - (RowKit.intOf v).toNat)
      case atStart => exact ⟨0, Nat.zero_le _, rfl, Keeps.refl _, rfl⟩
      case round =>
        obtain ⟨p, hp, rfl, K1, HP⟩ := hrel
        have hA1 := hA.keep K1
        have hR1 := hRa.keep K1
        have hr := h.keep hA1.2
        have hci := hr.at hlt
        have ha := h.isSome (by omega)
        by_cases hpl : p < acc.length
        · have hcp := hR1.at hpl
          have ha2 := hR1.isSome (by omega)
          have hbef := fun W => before_any (at_ acc p) (at_ l i) W
          have hdp := drop_at acc p hpl
          cases hq : ltS (at_ acc p) (at_ l i) with
          | true =>
            rw [hq] at hbef
            have HB := Lib.hid hbef; have HQ := Lib.hid hq; have HD := Lib.hid hdp; clear hbef hq hdp
            go_wp2
            go_quiet ((go_at_call 192; exact Calls.quiet_of_same (HB.out _)))
            go_wp2
            go_roundw
            case rel => exact ⟨p + 1, by omega, by go_num, K1.drewN _, hrfl <| by rw [HP.out, HD.out, posS, if_pos HQ.out]; omega⟩
            case measure => simp [RowKit.intOf]; omega
          | false =>
            rw [hq] at hbef
            have HB := Lib.hid hbef; have HQ := Lib.hid hq; have HD := Lib.hid hdp; clear hbef hq hdp
            have hpos : Hid (posS acc (at_ l i) = p) := hrfl <| by rw [HP.out, HD.out, posS, if_neg (by rw [HQ.out]; simp)]; omega
            cases he : (at_ acc p == at_ l i) with
            | true =>
              have HE : Hid ((at_ acc p == at_ l i) = true) := he
              go_wp2
              go_quiet ((go_at_call 192; exact Calls.quiet_of_same (HB.out _)))
              go_wp2
              go_quiet (fail)
              go_wp2
              go_roundw
              case rel => exact ⟨i + 1, acc, by omega, by go_num, by omega, hA1.keep ((Keeps.refl _).drewN _), hrfl <| by rw [HI.out, dropH L1 hlt, sortR, insU, hpos.out, if_pos ⟨hpl, by simpa using HE.out⟩]⟩
              case measure => simp [RowKit.intOf]; omega
            | false =>
              have HNE : Hid (¬ (p < acc.length ∧ at_ acc p = at_ l i)) := fun hh => by rw [hh.2] at he; simp at he
              have HE : Hid ((at_ acc p == at_ l i) = false) := he
              go_wp2
              go_quiet ((go_at_call 192; exact Calls.quiet_of_same (HB.out _)))
              go_wp2
              go_quiet (fail)
              go_wp2_with (at_builtin; refine wp_app tyS rfl _ _ rfl ((hA1.keep ((Keeps.refl _).drewN _)).alloc _) rfl rfl (rd_new _ 1 _ [.int .u16 0] 1 (by decide) rfl) (sl_oneCell [0#16]) ?_ ?_)
              · omega
              · intro v' w3 hO3 _
                obtain ⟨g, cap, rfl, hcap, hcm⟩ := hO3.some (by omega)
                have hX : Own 31 1 w w3 (.slice (some ⟨g, 0, none⟩) (acc.length + 1) cap) (acc.length + 1) (sl (insAt acc acc.length 0#16)) := by rw [insAt_end, sl_append]; exact hO3
                clear hO3
                have hlen : acc.length + 1 ≤ 1000001 := by omega
                go_wp2
                go_loopw [6] (fun v wr => ∃ (k : Nat) (y : S), p ≤ k ∧ k ≤ acc.length ∧ v = .int .i64 k ∧ Own 31 1 w wr (.slice (some ⟨g, 0, none⟩) (acc.length + 1) cap) (acc.length + 1) (sl (insAt acc k y))) (fun v _ => (RowKit.intOf v).toNat)
                case atStart => exact ⟨acc.length, 0#16, by omega, by omega, by go_num, hX⟩
                case round =>
                  obtain ⟨k, y, hpk, hka, rfl, hX2⟩ := hrel
                  by_cases hkp : p < k
                  · have k1 : 1 ≤ k := by omega
                    obtain ⟨f1a, f1b⟩ := hX2.at (k := k - 1) (by omega)
                    rw [at_insAt' _ _ _ k1 hka] at f1a
                    obtain ⟨f2a, f2b⟩ := hX2.at (k := k) (by omega)
                    have hX3 := hX2.store k (at_ acc (k - 1))
                    rw [insAt_shift' _ _ _ k1 hka] at hX3
                    go_wp2
                    go_roundw
                    case rel => exact ⟨k - 1, at_ acc (k - 1), by omega, by omega, by go_num, hX3⟩
                    case measure => simp [RowKit.intOf]; omega
                  · have hke : k = p := by omega
                    subst hke
                    obtain ⟨f2a, f2b⟩ := hX2.at (k := k) (by omega)
                    have hX3 := hX2.store k (at_ l i)
                    rw [insAt_set _ _ _ _ hka] at hX3
                    have hci3 := (h.keep hX2.2).at hlt
                    go_wp2
                    go_roundw
                    case rel => exact ⟨i + 1, insAt acc k (at_ l i), by omega, by go_num, by rw [insAt_length _ _ _ hka]; omega, by rw [insAt_length _ _ _ hka]; exact hX3, hrfl <| by rw [HI.out, dropH L1 hlt, sortR, insU, hpos.out, if_neg HNE.out]⟩
                    case measure => simp [RowKit.intOf]; omega
        · have hpe : p = acc.length := by omega
          subst hpe
          have hpos : Hid (posS acc (at_ l i) = acc.length) := hrfl <| by rw [HP.out, drop_all acc acc.length (Nat.le_refl _), posS]; omega
          have HNE : Hid (¬ (acc.length < acc.length ∧ at_ acc acc.length = at_ l i)) := fun hh => Nat.lt_irrefl _ hh.1
          go_wp2
          go_quiet (fail)
          go_wp2
          go_quiet (fail)
          go_wp2_with (at_builtin; refine wp_app tyS rfl _ _ rfl ((hA1.keep ((Keeps.refl _).drewN _)).alloc _) rfl rfl (rd_new _ 1 _ [.int .u16 0] 1 (by decide) rfl) (sl_oneCell [0#16]) ?_ ?_)
          · omega
          · intro v' w3 hO3 _
            obtain ⟨g, cap, rfl, hcap, hcm⟩ := hO3.some (by omega)
            have hX : Own 31 1 w w3 (.slice (some ⟨g, 0, none⟩) (acc.length + 1) cap) (acc.length + 1) (sl (insAt acc acc.length 0#16)) := by rw [insAt_end, sl_append]; exact hO3
            clear hO3
            have hlen : acc.length + 1 ≤ 1000001 := by omega
            go_wp2
            go_loopw [6] (fun v wr => ∃ (k : Nat) (y : S), acc.length ≤ k ∧ k ≤ acc.length ∧ v = .int .i64 k ∧ Own 31 1 w wr (.slice (some ⟨g, 0, none⟩) (acc.length + 1) cap) (acc.length + 1) (sl (insAt acc k y))) (fun v _ => (RowKit.intOf v).toNat)
            case atStart => exact ⟨acc.length, 0#16, by omega, by omega, by go_num, hX⟩
            case round =>
              obtain ⟨k, y, hpk, hka, rfl, hX2⟩ := hrel
              by_cases hkp : acc.length < k
              · exact absurd hkp (by omega)
              · have hke : k = acc.length := by omega
                subst hke
                obtain ⟨f2a, f2b⟩ := hX2.at (k := acc.length) (by omega)
                have hX3 := hX2.store acc.length (at_ l i)
                rw [insAt_set _ _ _ _ hka] at hX3
                have hci3 := (h.keep hX2.2).at hlt
                go_wp2
                go_roundw
                case rel => exact ⟨i + 1, insAt acc acc.length (at_ l i), by omega, by go_num, by rw [insAt_length _ _ _ hka]; omega, by rw [insAt_length _ _ _ hka]; exact hX3, hrfl <| by rw [HI.out, dropH L1 hlt, sortR, insU, hpos.out, if_neg HNE.out]⟩
                case measure => simp [RowKit.intOf]; omega
    · go_wp2
      go_ret
      refine ⟨_, rfl, ?_⟩
      rw [HI.out, dropN L1 hlt, sortR]
      exact hA

set_option maxHeartbeats 1600000 in
theorem refLeast_any (a : Option Addr) (n c : Nat) (l : List S) (w : World) (h : Rd w a n c 1 (sl l)) (hn : n ≤ 1000000) :
    Calls Tryz.prog 79 #[.slice a n c] w fun e w' => ∃ v, e = .returned v ∧ Own 31 1 w w' v (refLeast l).length (sl (refLeast l)) := by
  have hs := refSorted_any a n c l w h hn
  have hlen : (sortR [] l).length ≤ 1000000 := by
    have h1 := sortR_length [] l
    have h3 := h.lenS
    simp at h1; omega
  unfold refLeast
  generalize sortR [] l = m at hs hlen ⊢
  have HS := Lib.hid hs; clear hs h
  go_enter Tryz.func79, Tryz.ntmps79
  go_wp2_with fail
  refine HS.out.mono ?_
  rintro e w1 ⟨v1, rfl, hO⟩
  obtain ⟨a1, c1, rfl, hR⟩ := hO.rd
  have s1 := hR.small
  go_wp2_with fail
  go_loopw [3, 5] (fun u v wr => ∃ (i : Nat) (acc : List S), i ≤ m.length ∧ v = .int .i64 i ∧ acc.length ≤ i ∧ Own 31 1 w1 wr u acc.length (sl acc) ∧ Hid (minR m m 0 [] = minR m (m.drop i) i acc)) (fun _ v _ => m.length - (RowKit.intOf v).toNat)
  case atStart => exact ⟨0, [], Nat.zero_le _, rfl, Nat.zero_le _, Own.nil _ _ (Keeps.refl _), rfl⟩
  case round =>
    obtain ⟨i, acc, hi, rfl, hai, hA, HI⟩ := hrel
    by_cases hlt : i < m.length
    · obtain ⟨wo, rfl⟩ : ∃ wo : World, wo = wr := ⟨_, rfl⟩
      have ha := hR.isSome (by omega)
      have hdi := drop_at m i hlt
      have HDI := Lib.hid hdi; clear hdi
      go_wp2
      go_loopw [6, 7] (fun u v wr => ∃ (k : Nat) (r : Bool), k ≤ m.length ∧ v = .int .i64 k ∧ u = .bool r ∧ Keeps wo wr ∧ Hid (loneR (at_ m i) i m 0 true = loneR (at_ m i) i (m.drop k) k r)) (fun _ v _ => m.length - (RowKit.intOf v).toNat)
      case atStart => exact ⟨0, true, Nat.zero_le _, rfl, rfl, Keeps.refl _, rfl⟩
      case round =>
        obtain ⟨k, r, hk, rfl, rfl, K1, HL⟩ := hrel
        by_cases hlk : k < m.length
        · have hci := (hR.keep (hA.keep K1).2).at hlt
          have hck := (hR.keep (hA.keep K1).2).at hlk
          have hdk := drop_at m k hlk
          have HDK := Lib.hid hdk; clear hdk
          have hcon := fun W => refContains_any (at_ m i) (at_ m k) W
          by_cases hik : i = k
          · have hbb : ((i : Int) != (k : Int)) = false := by simp [hik]
            have HIK := Lib.hid hik; clear hik hcon
            go_wp2
            go_quiet (fail)
            go_wp2
            go_roundw
            case rel => exact ⟨k + 1, r, by omega, by go_num, rfl, K1.drewN _, hrfl <| by rw [HL.out, HDK.out, loneR]; simp [HIK.out]⟩
            case measure => simp [RowKit.intOf]; omega
          · have hbb : ((i : Int) != (k : Int)) = true := by rw [bne_iff_ne]; omega
            have HIK := Lib.hid hik; clear hik
            cases hq : (at_ m k &&& ~~~at_ m i == 0#16) with
            | true =>
              rw [hq] at hcon
              have HC := Lib.hid hcon; have HQ := Lib.hid hq; clear hcon hq
              go_wp2
              go_quiet ((go_at_call 143; exact Calls.quiet_of_same (HC.out _)))
              go_wp2
              go_roundw
              case rel => exact ⟨k + 1, false, by omega, by go_num, rfl, K1.drewN _, hrfl <| by rw [HL.out, HDK.out, loneR, HQ.out]; simp [HIK.out]⟩
              case measure => simp [RowKit.intOf]; omega
            | false =>
              rw [hq] at hcon
              have HC := Lib.hid hcon; have HQ := Lib.hid hq; clear hcon hq
              go_wp2
              go_quiet ((go_at_call 143; exact Calls.quiet_of_same (HC.out _)))
              go_wp2
              go_roundw
              case rel => exact ⟨k + 1, r, by omega, by go_num, rfl, K1.drewN _, hrfl <| by rw [HL.out, HDK.out, loneR, HQ.out]; simp⟩
              case measure => simp [RowKit.intOf]; omega
        · have HL2 : Hid (loneR (at_ m i) i m 0 true = r) := hrfl <| by rw [HL.out, drop_all m k (by omega), loneR]
          have hA1 := hA.keep K1
          cases r with
          | true =>
            obtain ⟨a2, c2, rfl, hRa⟩ := hA.rd
            have hci := (hR.keep hA1.2).at hlt
            go_wp2_with (at_builtin; refine wp_app tyS rfl _ _ rfl (hA1.alloc _) rfl rfl (rd_new _ 1 _ [.int .u16 (sv (at_ m i))] 1 (by decide) rfl) (sl_oneCell [at_ m i]) ?_ ?_)
            · omega
            · intro v' w3 hO3 _
              go_wp2
              go_roundw
              case rel => exact ⟨i + 1, acc ++ [at_ m i], by omega, by go_num, by simp; omega, hO3.snoc, hrfl <| by rw [HI.out, HDI.out, minR, if_pos HL2.out]⟩
              case measure => simp [RowKit.intOf]; omega
          | false =>
            go_wp2
            go_roundw
            case rel => exact ⟨i + 1, acc, by omega, by go_num, by omega, hA1, hrfl <| by rw [HI.out, HDI.out, minR, if_neg (by rw [HL2.out]; simp)]⟩
            case measure => simp [RowKit.intOf]; omega
    · go_wp2
      go_ret
      refine ⟨_, rfl, ?_⟩
      rw [HI.out, drop_all m i (by omega), minR]
      exact hA.since hO.2
end Go.Proofs.YtijknodekomdfaaGreatDoor
