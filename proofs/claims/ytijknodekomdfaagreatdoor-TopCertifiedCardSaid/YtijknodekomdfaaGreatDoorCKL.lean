/- Texts joined into one, what is needed of them (a program of ours). -/
import Derived.Test.YtijknodekomdfaaGreatDoorCKI
import Derived.Test.YtijknodekomdfaaGreatDoorCKJ
namespace Go.Proofs.YtijknodekomdfaaGreatDoor
open Go.RowKit Go.Lib Go.Shelf

/-- the subsets of s with k members among the first x numbers -/
def chTo (s : S) (k : Nat) : Nat → List S
  | 0 => []
  | x + 1 => chTo s k x ++ (if (BitVec.ofNat 16 x &&& ~~~s == 0#16) && decide (cnt (BitVec.ofNat 16 x) = k) then [BitVec.ofNat 16 x] else [])
theorem chTo_len (s : S) (k : Nat) : ∀ x, (chTo s k x).length ≤ x
  | 0 => Nat.le_refl _
  | x + 1 => by
    have := chTo_len s k x
    rw [chTo, List.length_append]
    split <;> simp <;> omega
/-- all subsets of s with k members -/
def chooseA (s : S) (k : Nat) : List S := chTo s k 65536
theorem chooseA_eq (s : S) (k : Nat) : ∀ x, x = 65536 → chTo s k x = chooseA s k := fun x h => by rw [h, chooseA]
set_option maxHeartbeats 1600000 in
set_option maxRecDepth 100000 in
theorem choose7_any (s : S) (k : Nat) (w : World) : Calls Tryz.prog 80 #[.int .u16 (sv s), .int .i64 k] w fun e w' => ∃ v, e = .returned v ∧ Own 31 1 w w' v (chooseA s k).length (sl (chooseA s k)) := by
  have HA := Lib.hid (chooseA_eq s k)
  generalize chooseA s k = res at *
  have HL := Lib.hid (chTo_len s k)
  go_enter Tryz.func80, Tryz.ntmps80
  go_wp2
  go_loopw [5, 6] (fun u v wr => ∃ x : Nat, x ≤ 65536 ∧ v = .int .i64 x ∧ Own 31 1 w wr u (chTo s k x).length (sl (chTo s k x))) (fun _ v _ => 65536 - (RowKit.intOf v).toNat)
  case atStart => exact ⟨0, Nat.zero_le _, rfl, Own.nil _ _ (Keeps.refl _)⟩
  case round =>
    obtain ⟨x, hx, rfl, hO⟩ := hrel
    obtain ⟨a2, c2, rfl, hRa⟩ := hO.rd
    by_cases hlt : x < 65536
    · have hxv : (x : Int) = sv (BitVec.ofNat 16 x) := by rw [sv_lit x (by omega)]
      have hx5 : x ≤ 65535 := by omega
      have h1 := fun W => within7_any (BitVec.ofNat 16 x) s W
      have h2 := fun W => count7_any (BitVec.ofNat 16 x) W
      rw [← hxv] at h1 h2
      have hst : chTo s k (x + 1) = chTo s k x ++ (if (BitVec.ofNat 16 x &&& ~~~s == 0#16) && decide (cnt (BitVec.ofNat 16 x) = k) then [BitVec.ofNat 16 x] else []) := rfl
      have hN : (chTo s k x).length + 1 ≤ 10000000 := by have := HL.out x; omega
      have HXV := Lib.hid hxv; have HN := Lib.hid hN; have HO := Lib.hid hO
      have hwr : IntKind.u16.wrap (x : Int) = (x : Int) := by rw [IntKind.wrap_u16]; omega
      have hxi : (x : Int) < 65536 := by omega
      have hwi : IntKind.i64.wrap ((x : Int) + 1) = ((x + 1 : Nat) : Int) := by rw [IntWalk.i64_in _ (by omega)]; omega
      have HX5 := Lib.hid hx5
      clear hxv hN hO hRa hlt hx hx5
      cases hq : (BitVec.ofNat 16 x &&& ~~~s == 0#16)
      · rw [hq] at h1
        rw [hq, Bool.false_and, if_neg (by simp), List.append_nil] at hst
        have H1 := Lib.hid h1; have HST := Lib.hid hst
        clear h1 h2 hst hq
        go_wp2_with fail
        refine (H1.out _).mono ?_
        rintro e w2 ⟨rfl, rfl⟩
        go_wp2_with fail
        go_roundw
        case rel => exact ⟨x + 1, by have := HX5.out; omega, by first | go_num | rfl, by rw [HST.out]; exact HO.out⟩
        case measure => have := HX5.out; simp [RowKit.intOf]; omega
      · rw [hq] at h1
        rw [hq, Bool.true_and] at hst
        by_cases hc : cnt (BitVec.ofNat 16 x) = k
        · rw [hc] at h2
          rw [if_pos (by simpa using hc)] at hst
          have hkb : ((k : Int) == (k : Int)) = true := by simp
          have H1 := Lib.hid h1; have H2 := Lib.hid h2; have HST := Lib.hid hst
          clear h1 h2 hst hq hc
          go_wp2_with fail
          refine (H1.out _).mono ?_
          rintro e w2 ⟨rfl, rfl⟩
          go_wp2_with fail
          refine (H2.out _).mono ?_
          rintro e w2 ⟨rfl, K2⟩
          go_wp2_with (at_builtin; refine wp_app tyS rfl _ _ rfl ((HO.out.keep K2).alloc _) rfl rfl (rd_new _ 1 _ [.int .u16 x] 1 (by decide) rfl) (by intro u hu; simp at hu; subst hu; rfl) HN.out ?_)
          intro v' w3 hO3 _
          go_wp2
          go_roundw
          case rel =>
            refine ⟨x + 1, by have := HX5.out; omega, by first | go_num | rfl, ?_⟩
            rw [HST.out, sl_append, List.length_append]
            have e1 : sl [BitVec.ofNat 16 x] = [.int .u16 (x : Int)] := by simp only [sl, List.map]; rw [← HXV.out]
            rw [e1]
            exact hO3
          case measure => have := HX5.out; simp [RowKit.intOf]; omega
        · rw [if_neg (by simpa using hc), List.append_nil] at hst
          have hkb : ((cnt (BitVec.ofNat 16 x) : Int) == (k : Int)) = false := by rw [beq_eq_false_iff_ne]; omega
          have H1 := Lib.hid h1; have H2 := Lib.hid h2; have HST := Lib.hid hst
          clear h1 h2 hst hq hc
          generalize cnt (BitVec.ofNat 16 x) = q at *
          go_wp2_with fail
          refine (H1.out _).mono ?_
          rintro e w2 ⟨rfl, rfl⟩
          go_wp2_with fail
          refine (H2.out _).mono ?_
          rintro e w2 ⟨rfl, K2⟩
          go_wp2_with fail
          go_roundw
          case rel => exact ⟨x + 1, by have := HX5.out; omega, by first | go_num | rfl, by rw [HST.out]; exact HO.out.keep K2⟩
          case measure => have := HX5.out; simp [RowKit.intOf]; omega
    · have hkk : x = 65536 := by omega
      have hnl : ¬ ((x : Int) < 65536) := by omega
      have hrl := HA.out x hkk
      have HRL := Lib.hid hrl
      have HO := Lib.hid hO
      clear hO hRa hkk hrl hlt hx
      go_wp2
      go_ret
      rw [← HRL.out]
      exact ⟨_, rfl, HO.out⟩
end Go.Proofs.YtijknodekomdfaaGreatDoor
namespace Go.Proofs.YtijknodekomdfaaGreatDoor
open Go.RowKit Go.Lib Go.Shelf

/-- the sets that are not empty of a cut list -/
def cutN (all : S) (l : List S) : List S := (l.map fun x => x &&& all).filter fun x => x != 0#16
def kOf (l : List S) (n : Nat) : Nat := if 0 < l.length then 1 + (at_ l 0).toNat % n else n
def orAll (all : S) (l : List S) : List S := if l.length = 0 then [all] else l
def setsR (mode : Int) (l : List S) (n : Nat) : List S :=
  if mode % 2 = 1 then chooseA (fullS n) (kOf l n) else refLeast (orAll (fullS n) (cutN (fullS n) (l.take 6)))
theorem cutN_snoc (all : S) (l : List S) (k : Nat) (h : k < l.length) : cutN all (l.take (k + 1)) = cutN all (l.take k) ++ (if (at_ l k &&& all != 0#16) = true then [at_ l k &&& all] else []) := by
  unfold cutN
  rw [take_at l k h, List.map_append, List.filter_append]
  simp [List.filter_cons]
theorem cutN_le (all : S) (l : List S) : (cutN all l).length ≤ l.length := by
  unfold cutN
  refine Nat.le_trans (List.length_filter_le _ _) ?_
  simp
set_option maxRecDepth 20000 in
set_option maxHeartbeats 600000 in
theorem sets_any (kd N md : Int) (d3 d4 d5 : Value) (a : Option Addr) (c : Nat) (l : List S) (n : Nat) (w : World) (h : Rd w a l.length c 1 (sl l)) (h1 : 1 ≤ n) (h12 : n ≤ 12) (hm0 : 0 ≤ md) (hm1 : md ≤ 255) :
    Calls Tryz.prog 63 #[.agg #[.int .u8 kd, .int .u8 N, .int .u8 md, d3, d4, d5], .slice a l.length c, .int .i64 n] w fun e w' => ∃ v, e = .returned v ∧ Own 31 1 w w' v (setsR md l n).length (sl (setsR md l n)) := by
  have K0 := (Keeps.refl w).alloc (.cells #[.int .u8 kd, .int .u8 N, .int .u8 md, d3, d4, d5] 48)
  have hb : (w.alloc (.cells #[.int .u8 kd, .int .u8 N, .int .u8 md, d3, d4, d5] 48)).cell? ⟨w.heap.size, 2, none⟩ = some (.int .u8 md) := by rw [World.cell?_alloc_at _ _ _ _ rfl]; rfl
  have hr := h.keep K0
  have sn := hr.small
  have hch := fun k W => choose7_any (1#16 <<< n - 1#16) k W
  have hfs : fullS n = 1#16 <<< n - 1#16 := rfl
  have hrl := fun A C (m : List S) W (hR : Rd W A m.length C 1 (sl m)) (hm : m.length ≤ 1000000) => refLeast_any A m.length C m W hR hm
  unfold setsR
  rw [hfs]
  generalize chooseA (1#16 <<< n - 1#16) = chf at *
  have HCH := Lib.hid hch; have HRL := Lib.hid hrl
  clear hch hrl hfs
  by_cases hmd : md % 2 = 1
  · rw [if_pos hmd]
    have hmb : (md % 2 == 1) = true := by simpa using hmd
    clear hmd
    by_cases h0 : 0 < l.length
    · have hc0 := hr.at h0
      have hs0 := hr.isSome h0
      have h0i : (0 : Int) < (l.length : Int) := by omega
      have hnn : (n : Int) ≠ 0 := by omega
      have hko : kOf l n = 1 + (at_ l 0).toNat % n := by unfold kOf; rw [if_pos h0]
      have hkv : (sv (at_ l 0)).tmod (n : Int) = (((at_ l 0).toNat % n : Nat) : Int) := by
        show ((at_ l 0).toNat : Int).tmod (n : Int) = _
        rw [Int.tmod_eq_emod_of_nonneg (by omega)]; omega
      have hsb := sv_bound (at_ l 0)
      have hw : wrap64 (sv (at_ l 0)) = sv (at_ l 0) := IntWalk.wrap64_in _ (by omega)
      have hkb : (at_ l 0).toNat % n < n := Nat.mod_lt _ (by omega)
      rw [hko]
      generalize (at_ l 0).toNat % n = q at *
      have hcall := HCH.out (1 + q)
      rw [show ((1 + q : Nat) : Int) = 1 + (q : Int) by omega] at hcall
      have HC := Lib.hid hcall
      clear hcall hko
      go_enter Tryz.func63, Tryz.ntmps63
      go_wp2_with fail
      refine (HC.out _).mono ?_
      rintro e w2 ⟨v, rfl, hO⟩
      go_wp2_with fail
      go_ret
      exact ⟨_, rfl, hO.since K0⟩
    · have h0i : ¬ (0 : Int) < (l.length : Int) := by omega
      have hko : kOf l n = n := by unfold kOf; rw [if_neg h0]
      rw [hko]
      have HC := Lib.hid (HCH.out n)
      clear hko
      go_enter Tryz.func63, Tryz.ntmps63
      go_wp2_with fail
      refine (HC.out _).mono ?_
      rintro e w2 ⟨v, rfl, hO⟩
      go_wp2_with fail
      go_ret
      exact ⟨_, rfl, hO.since K0⟩
  · rw [if_neg hmd]
    have hmb : (md % 2 == 1) = false := by simpa using hmd
    clear hmd
    obtain ⟨W0, hW0⟩ : ∃ W0, W0 = w.alloc (.cells #[.int .u8 kd, .int .u8 N, .int .u8 md, d3, d4, d5] 48) := ⟨_, rfl⟩
    obtain ⟨all, hall⟩ : ∃ all, all = 1#16 <<< n - 1#16 := ⟨_, rfl⟩
    rw [← hall]
    have HAL := Lib.hid hall
    clear hall
    generalize hres : refLeast (orAll all (cutN all (l.take 6))) = res
    have HRES := Lib.hid hres
    clear hres
    go_enter Tryz.func63, Tryz.ntmps63
    go_wp2
    rw [← hW0, ← HAL.out]
    rw [← hW0] at hb K0 hr
    clear hW0
    go_loopw [9, 10] (fun u v wr => ∃ k : Nat, k ≤ l.length ∧ k ≤ 6 ∧ v = .int .i64 k ∧ Own 31 1 W0 wr u (cutN all (l.take k)).length (sl (cutN all (l.take k)))) (fun _ v _ => 6 - (intOf v).toNat)
    case atStart => exact ⟨0, Nat.zero_le _, Nat.zero_le _, rfl, Own.nil _ _ (Keeps.refl _)⟩
    case round =>
      obtain ⟨k, hk, hk6, rfl, hO⟩ := hrel
      obtain ⟨a2, c2, rfl, hRa⟩ := hO.rd
      have hle := cutN_le all (l.take k)
      have hlk : (l.take k).length = k := by rw [List.length_take]; omega
      by_cases hlt : k < l.length ∧ k < 6
      · obtain ⟨hlt, hlt6⟩ := hlt
        have hc := (hr.keep hO.2).at hlt
        have hs := hr.isSome (by omega)
        have hst := cutN_snoc all l k hlt
        have h6i : (k : Int) < 6 := by omega
        cases hq : (at_ l k &&& all != 0#16)
        · rw [hq, if_neg (by simp), List.append_nil] at hst
          have HST := Lib.hid hst; have HO := Lib.hid hO
          clear hst hO hRa
          go_wp2
          go_roundw
          case rel => exact ⟨k + 1, by omega, by omega, by go_num, by rw [HST.out]; exact HO.out⟩
          case measure => simp [intOf]; omega
        · rw [hq, if_pos rfl] at hst
          have HST := Lib.hid hst; have HO := Lib.hid hO
          have hn8 : (cutN all (l.take k)).length + 1 ≤ 10000000 := by omega
          have HN := Lib.hid hn8
          clear hst hO hRa hn8
          go_wp2_with (at_builtin; refine wp_app tyS rfl _ _ rfl (HO.out.alloc _) rfl rfl (rd_new _ 1 _ [.int .u16 (sv (at_ l k &&& all))] 1 (by decide) rfl) (sl_oneCell [at_ l k &&& all]) HN.out ?_)
          intro v' w3 hO3 _
          go_wp2
          go_roundw
          case rel =>
            refine ⟨k + 1, by omega, by omega, by go_num, ?_⟩
            rw [HST.out, sl_append, List.length_append]
            exact hO3
          case measure => simp [intOf]; omega
      · have htk : cutN all (l.take k) = cutN all (l.take 6) := by
          by_cases h6 : k = 6
          · rw [h6]
          · have : k = l.length := by omega
            rw [List.take_of_length_le (by omega), List.take_of_length_le (by omega)]
        rw [htk] at hO
        have hle6 : (cutN all (l.take 6)).length ≤ 6 := by rw [← htk]; omega
        have hrs := HRES.out
        have K1 := K0.trans hO.2
        have hlt' : (decide ((k : Int) < (l.length : Int)) && decide ((k : Int) < 6)) = false := by
          rw [Bool.eq_false_iff]; intro h; rw [Bool.and_eq_true, decide_eq_true_eq, decide_eq_true_eq] at h; exact hlt ⟨by omega, by omega⟩
        have hkk : ¬ (k : Int) < (l.length : Int) ∨ (k : Int) < (l.length : Int) ∧ ¬ (k : Int) < 6 := by omega
        have hm6 : (cutN all (l.take 6)).length ≤ 6 := hle6
        rw [htk] at hRa hle ⊢
        generalize cutN all (l.take 6) = m at *
        by_cases hm : m.length = 0
        · have hor : orAll all m = [all] := by unfold orAll; rw [if_pos hm]
          have hm0 : m = [] := List.eq_nil_of_length_eq_zero hm
          subst hm0
          rw [hor] at hrs
          have HO := Lib.hid hO; have HRS := Lib.hid hrs
          clear hO hRa hor hm htk hle hlk hrs hlt' hlt
          rcases hkk with hkk | ⟨hkk, hk6'⟩
          all_goals
            go_wp2_with (at_builtin; refine wp_app tyS rfl _ _ rfl (HO.out.alloc _) rfl rfl (rd_new _ 1 _ [.int .u16 (sv all)] 1 (by decide) rfl) (sl_oneCell [all]) (by simp) ?_)
            intro v' w3 hO3 _
            obtain ⟨a5, c5, rfl, hR5⟩ := hO3.rd
            go_wp2_with fail
            refine (HRL.out _ _ [all] _ hR5 (by simp)).mono ?_
            rintro e w4 ⟨v4, rfl, hO4⟩
            go_wp2_with fail
            go_ret
            rw [← HRS.out]
            exact ⟨_, rfl, hO4.since (K0.trans hO3.2)⟩
        · have hor : orAll all m = m := by unfold orAll; rw [if_neg hm]
          rw [hor] at hrs
          have hmb : ((m.length : Int) == 0) = false := by rw [beq_eq_false_iff_ne]; omega
          have HRS := Lib.hid hrs
          clear hO hor hm htk hle hlk hrs hlt' hlt
          rcases hkk with hkk | ⟨hkk, hk6'⟩
          all_goals
            go_wp2_with fail
            refine (HRL.out _ _ m _ hRa (by omega)).mono ?_
            rintro e w4 ⟨v4, rfl, hO4⟩
            go_wp2_with fail
            go_ret
            rw [← HRS.out]
            exact ⟨_, rfl, hO4.since K1⟩
end Go.Proofs.YtijknodekomdfaaGreatDoor
namespace Go.Proofs.YtijknodekomdfaaGreatDoor
open Go.RowKit Go.Lib Go.Shelf

theorem Rd.take {w : World} {a : Option Addr} {n c sz : Nat} {xs : List Value} (h : Rd w a n c sz xs) {i : Nat} (hi : i ≤ n) : Rd w a i c sz (xs.take (i * sz)) := by
  refine ⟨?_, by have := h.nc; omega, h.cm, fun h0 => h.isSome (by omega), fun j u hu => ?_⟩
  · rw [List.length_take, h.len]; exact Nat.min_eq_left (Nat.mul_le_mul_right _ hi)
  · rw [List.getElem?_take] at hu
    split at hu
    · exact h.cell j u hu
    · cases hu
theorem fl_take (l : List F2) : ∀ i, (fl l).take (i * 2) = fl (l.take i) := by
  induction l with
  | nil => intro i; simp [fl]
  | cons x xs ih =>
    intro i
    cases i with
    | zero => rfl
    | succ i => rw [show (i + 1) * 2 = i * 2 + 1 + 1 by omega, fl_cons, List.take_succ_cons, List.take_succ_cons, ih, List.take_succ_cons, fl_cons]
theorem fl_drop (l : List F2) : ∀ i, (fl l).drop (i * 2) = fl (l.drop i) := by
  induction l with
  | nil => intro i; simp [fl]
  | cons x xs ih =>
    intro i
    cases i with
    | zero => rfl
    | succ i => rw [show (i + 1) * 2 = i * 2 + 1 + 1 by omega, fl_cons, List.drop_succ_cons, List.drop_succ_cons, ih, List.drop_succ_cons]
theorem Rd.takeF {w : World} {a : Option Addr} {n c : Nat} {l : List F2} (h : Rd w a n c 2 (fl l)) {i : Nat} (hi : i ≤ n) : Rd w a i c 2 (fl (l.take i)) := by
  have := h.take hi; rw [fl_take] at this; exact this
theorem Rd.dropF {w : World} {a : Option Addr} {n c : Nat} {l : List F2} (h : Rd w a n c 2 (fl l)) {i : Nat} (hi : i ≤ n) : Rd w (subs a c i 2) (n - i) (c - i) 2 (fl (l.drop i)) := by
  have := h.drop hi; rw [fl_drop] at this; exact this

/-- does no other fault cover the one at place i? (of equal ones the first stays) -/
def keepR (x : F2) (i : Nat) : List F2 → Nat → Bool → Bool
  | [], _, r => r
  | y :: ys, k, r => keepR x i ys (k + 1) (r && !(covF y x && (!(y.1 == x.1 && y.2 == x.2) || decide (k < i))))
def posF (x : F2) : List F2 → Nat
  | [] => 0
  | y :: ys => if cmpF y x < 0 then posF x ys + 1 else 0
def insF (x : F2) (out : List F2) : List F2 := out.take (posF x out) ++ x :: out.drop (posF x out)
def normR (l : List F2) : Nat → Nat → List F2 → List F2
  | 0, _, out => out
  | c + 1, i, out => normR l c (i + 1) (if keepR (fa l i) i l 0 true = true then insF (fa l i) out else out)
def normF (l : List F2) : List F2 := normR l l.length 0 []
theorem posF_le (x : F2) : ∀ l : List F2, posF x l ≤ l.length
  | [] => Nat.le_refl _
  | y :: ys => by
    have := posF_le x ys
    unfold posF
    split <;> simp <;> omega
theorem insF_len (x : F2) (out : List F2) : (insF x out).length = out.length + 1 := by
  have := posF_le x out
  unfold insF
  rw [List.length_append, List.length_cons, List.length_take, List.length_drop]; omega
theorem compare19_q (b a : F2) (w : World) (d : Nat) (os : Array Obj) : Calls Tryz.prog 103 #[.agg #[.int .u16 (sv b.1), .int .u16 (sv b.2)], .agg #[.int .u16 (sv a.1), .int .u16 (sv a.2)]] (Sort.grow (redrawn w d) os) fun e w'' => e = .returned (.int .i64 (cmpF b a)) ∧ ∃ p : Regrown, w'' = Sort.grow (redrawn w p.d) p.os :=
  Calls.regrown_of (compare19_any b a _)
set_option maxRecDepth 20000 in
set_option maxHeartbeats 3000000 in
theorem normal_any (a : Option Addr) (c : Nat) (l : List F2) (w : World) (h : Rd w a l.length c 2 (fl l)) (hn : l.length ≤ 1000000) :
    Calls Tryz.prog 42 #[.slice a l.length c] w fun e w' => ∃ v, e = .returned v ∧ Own 34 2 w w' v (normF l).length (fl (normF l)) := by
  have hnf : normF l = normR l l.length 0 [] := rfl
  generalize normF l = res at *
  have HNF := Lib.hid hnf
  clear hnf
  go_enter Tryz.func42, Tryz.ntmps42
  go_wp2
  go_loopw [3, 4] (fun u v wr => ∃ (i : Nat) (out : List F2), i ≤ l.length ∧ v = .int .i64 i ∧ out.length ≤ i ∧ Own 34 2 w wr u out.length (fl out) ∧ Hid (normR l l.length 0 [] = normR l (l.length - i) i out)) (fun _ v _ => l.length - (intOf v).toNat)
  case atStart => exact ⟨0, [], Nat.zero_le _, rfl, Nat.zero_le _, Own.nil _ _ (Keeps.refl _), rfl⟩
  case round =>
    obtain ⟨i, out, hi, rfl, hoi, hO, HI⟩ := hrel
    obtain ⟨a2, c2, rfl, hRo⟩ := hO.rd
    by_cases hlt : i < l.length
    · have hst := HI.out
      rw [show l.length - i = (l.length - (i + 1)) + 1 by omega, normR] at hst
      have HST := Lib.hid hst
      have hs := h.isSome (by omega)
      obtain ⟨wo, rfl⟩ : ∃ wo : World, wo = wr := ⟨_, rfl⟩
      have HO := Lib.hid hO
      clear hst HI hRo hO
      go_wp2
      go_loopw [5, 6] (fun u v wx => ∃ (k : Nat) (r : Bool), k ≤ l.length ∧ v = .int .i64 k ∧ u = .bool r ∧ Keeps wo wx ∧ Hid (keepR (fa l i) i l 0 true = keepR (fa l i) i (l.drop k) k r)) (fun _ v _ => l.length - (intOf v).toNat)
      case atStart => exact ⟨0, true, Nat.zero_le _, rfl, rfl, Keeps.refl _, rfl⟩
      case round =>
        obtain ⟨k, r, hk, rfl, rfl, K1, HK⟩ := hrel
        by_cases hlk : k < l.length
        · have hR := h.keep (HO.out.2.trans K1)
          have g0 := cell_regrown (hR.f0 hlk)
          have g1 := cell_regrown (hR.f1' hlk)
          have g2 := cell_regrown (hR.f0 hlt)
          have g3 := cell_regrown (hR.f1' hlt)
          have hj := HK.out
          rw [drop_fa l k hlk, keepR] at hj
          have hcx := covers19_q (fa l k) (fa l i) wr
          have HJ := Lib.hid hj
          clear hj HK hR
          cases q1 : covF (fa l k) (fa l i)
          · rw [q1] at hcx
            have hj := HJ.out
            rw [q1] at hj
            simp only [Bool.false_and, Bool.not_false, Bool.and_true] at hj
            have HJ2 := Lib.hid hj
            have HCX := Lib.hid hcx
            clear hj hcx HJ q1
            go_wp2_with fail
            refine wp_region_quiet_below (by kernel_rfl) (by kernel_rfl) ?_
            repeat (first | go_big_quiet_step (exact HCX.out _ _) | quiet_step (exact HCX.out _ _))
            refine wpQuiet_nil ?_
            intro _ hw'
            obtain ⟨⟨dq, osq⟩, hw''⟩ := hw'
            subst hw''
            have KF := K1.trans (grow_keeps dq osq)
            clear g0 g1 g2 g3
            generalize Sort.grow (redrawn wr dq) osq = wz at *
            go_wp2_with fail
            go_roundw
            case rel => exact ⟨k + 1, r, by omega, by go_num, rfl, KF, HJ2⟩
            case measure => simp [intOf]; omega
          · rw [q1] at hcx
            have HCX := Lib.hid hcx
            clear hcx
            by_cases hki : k < i
            all_goals cases h1 : ((fa l k).1 == (fa l i).1) <;> cases h2 : ((fa l k).2 == (fa l i).2)
            all_goals
              have hkz : ((k : Int) < (i : Int)) = (k < i) := by simp
              have hj := HJ.out
              simp [q1, h1, h2, hki] at hj
              have HJ2 := Lib.hid hj
              clear hj HJ
              go_wp2_with fail
              refine wp_region_quiet_below (by kernel_rfl) (by kernel_rfl) ?_
              repeat (first | go_big_quiet_step (exact HCX.out _ _) | quiet_step (exact HCX.out _ _))
              refine wpQuiet_nil ?_
              intro _ hw'
              obtain ⟨⟨dq, osq⟩, hw''⟩ := hw'
              subst hw''
              have KF := K1.trans (grow_keeps dq osq)
              clear g0 g1 g2 g3
              generalize Sort.grow (redrawn wr dq) osq = wz at *
              go_wp2_with fail
              go_roundw
              case rel => exact ⟨k + 1, _, by omega, by go_num, rfl, KF, HJ2⟩
              case measure => simp [intOf]; omega
        · have hj := HK.out
          rw [List.drop_eq_nil_of_le (by omega), keepR] at hj
          have HJ := Lib.hid hj
          clear hj HK
          have hst := HST.out
          rw [HJ.out] at hst
          cases r with
          | false =>
            rw [if_neg (by simp)] at hst
            have HS := Lib.hid hst
            clear hst HJ HST
            go_wp2
            go_roundw
            case rel => exact ⟨i + 1, out, by omega, by go_num, by omega, HO.out.keep K1, HS⟩
            case measure => simp [intOf]; omega
          | true =>
            rw [if_pos rfl] at hst
            have HS := Lib.hid hst
            clear hst HJ HST
            have hKo := fun W (K : Keeps wo W) => (show Rd W a2 out.length c2 2 (fl out) from by
              obtain ⟨a', c', he, hr⟩ := (HO.out.keep K).rd
              cases he
              exact hr)
            have HKO := Lib.hid hKo
            clear hKo
            go_wp2
            go_loopw [7] (fun v wx => ∃ j : Nat, j ≤ out.length ∧ v = .int .i64 j ∧ Keeps wo wx ∧ Hid (posF (fa l i) out = j + posF (fa l i) (out.drop j))) (fun v _ => out.length - (intOf v).toNat)
            case atStart => exact ⟨0, Nat.zero_le _, rfl, K1, by show _ = _; rw [Nat.zero_add, List.drop_zero]⟩
            case round =>
              obtain ⟨j, hj, rfl, K2, HP⟩ := hrel
              have hcase : (j < out.length ∧ cmpF (fa out j) (fa l i) < 0) ∨ (posF (fa l i) out = j ∧ (out.length = j ∨ j < out.length ∧ ¬ cmpF (fa out j) (fa l i) < 0)) := by
                have hp := HP.out
                by_cases h1 : j < out.length
                · by_cases h2 : cmpF (fa out j) (fa l i) < 0
                  · exact .inl ⟨h1, h2⟩
                  · rw [drop_fa out j h1, posF, if_neg h2] at hp
                    exact .inr ⟨hp, .inr ⟨h1, h2⟩⟩
                · rw [List.drop_eq_nil_of_le (by omega), posF] at hp
                  exact .inr ⟨hp, .inl (by omega)⟩
              rcases hcase with ⟨h1, h2⟩ | ⟨h1, h2⟩
              · have hp := HP.out
                rw [drop_fa out j h1, posF, if_pos h2] at hp
                have hR := HKO.out wr K2
                have hL := h.keep (HO.out.2.trans K2)
                have g0 := cell_regrown (hR.f0 h1)
                have g1 := cell_regrown (hR.f1' h1)
                have g2 := cell_regrown (hL.f0 hlt)
                have g3 := cell_regrown (hL.f1' hlt)
                have hso := hR.isSome (by omega)
                have hcx := compare19_q (fa out j) (fa l i) wr
                generalize cmpF (fa out j) (fa l i) = cv at *
                have HPP := Lib.hid hp; have HCX := Lib.hid hcx
                clear hp hcx HP hR hL
                go_wp2_with fail
                refine wp_region_quiet_below (by kernel_rfl) (by kernel_rfl) ?_
                repeat (first | go_big_quiet_step (exact HCX.out _ _) | quiet_step (exact HCX.out _ _))
                refine wpQuiet_nil ?_
                intro _ hw'
                obtain ⟨⟨dq, osq⟩, hw''⟩ := hw'
                subst hw''
                have KF := K2.trans (grow_keeps dq osq)
                clear g0 g1 g2 g3
                generalize Sort.grow (redrawn wr dq) osq = wz at *
                go_wp2_with fail
                go_roundw
                case rel => exact ⟨j + 1, by omega, by go_num, KF, by show _ = _; rw [HPP.out]; omega⟩
                case measure => simp [intOf]; omega
              · rcases h2 with h2 | ⟨h2, h3⟩
                · have hnl : ((j : Int) < (out.length : Int)) = False := eq_false (by omega)
                  have hnl2 : (j < out.length) = False := eq_false (by omega)
                  clear h2
                  go_wp2_with fail
                  refine wp_region_quiet_below (by kernel_rfl) (by kernel_rfl) ?_
                  repeat (first | go_big_quiet_step (fail) | quiet_step (fail))
                  refine wpQuiet_nil ?_
                  intro _ hw'
                  obtain ⟨⟨dq, osq⟩, hw''⟩ := hw'
                  subst hw''
                  have KF := K2.trans (grow_keeps dq osq)
                  generalize Sort.grow (redrawn wr dq) osq = wz at *
                  clear hnl hnl2
                  have hRo := HKO.out wz KF
                  have hT := hRo.takeF (i := j) hj
                  have hD := hRo.dropF (i := j) hj
                  have hL := h.keep (HO.out.2.trans KF)
                  have hnc := hRo.nc
                  have hcm := hRo.cm
                  have l0 := hL.f0 hlt
                  have l1 := hL.f1' hlt
                  have HT := Lib.hid hT; have HD := Lib.hid hD; have HL := Lib.hid hL
                  have hb1 : out.length ≤ 1000000 := by omega
                  clear hT hD hL hRo
                  go_wp2_with (at_builtin; refine wp_app tyF rfl _ _ rfl (Own.nil _ _ (Keeps.refl wz)) rfl rfl HT.out (fl_oneCell _) (by omega) ?_)
                  intro v1 w1 hO1 hg1
                  obtain ⟨b1, d1, rfl, hR1⟩ := hO1.rd
                  have m0 := (HL.out.keep hO1.2).f0 hlt
                  have m1 := (HL.out.keep hO1.2).f1' hlt
                  have HO1 := Lib.hid hO1
                  clear hO1 hg1 hR1 l0 l1
                  go_wp2_with (at_builtin; refine wp_app tyF rfl _ _ rfl (HO1.out.alloc _) rfl rfl (rd_new 34 2 _ [.int .u16 (sv (fa l i).1), .int .u16 (sv (fa l i).2)] 1 (by decide) rfl) (fl_oneCell [fa l i]) (by omega) ?_)
                  intro v2 w2 hO2 hg2
                  obtain ⟨b2, d2, rfl, hR2⟩ := hO2.rd
                  have HO2 := Lib.hid hO2
                  clear hO2 hg2 hR2 m0 m1
                  go_wp2_with (at_builtin; refine wp_app tyF rfl _ _ rfl HO2.out rfl rfl (HD.out.keep HO2.out.2) (fl_oneCell _) (by omega) ?_)
                  intro v3 w3 hO3 hg3
                  have hins : insF (fa l i) out = out.take j ++ fa l i :: out.drop j := by unfold insF; rw [h1]
                  have hil := insF_len (fa l i) out
                  have e1 : j + 1 + (out.length - j) = (insF (fa l i) out).length := by rw [hil]; omega
                  have e2 : fl (out.take j) ++ .int .u16 (sv (fa l i).1) :: .int .u16 (sv (fa l i).2) :: fl (out.drop j) = fl (insF (fa l i) out) := by
                    rw [hins, fl_append, fl_cons]
                  rw [e1, e2] at hO3
                  have HO3 := Lib.hid (hO3.since (HO.out.2.trans KF))
                  have HIL := Lib.hid hil
                  clear hO3 hg3 e1 e2 hins hil
                  go_wp2
                  go_roundw
                  case rel => exact ⟨i + 1, insF (fa l i) out, by omega, by go_num, by rw [HIL.out]; omega, HO3.out, HS⟩
                  case measure => simp [intOf]; omega
                · have hR := HKO.out wr K2
                  have hL' := h.keep (HO.out.2.trans K2)
                  have g0 := cell_regrown (hR.f0 h2)
                  have g1 := cell_regrown (hR.f1' h2)
                  have g2 := cell_regrown (hL'.f0 hlt)
                  have g3 := cell_regrown (hL'.f1' hlt)
                  have hso := hR.isSome (by omega)
                  have hcx := compare19_q (fa out j) (fa l i) wr
                  have HH1 := Lib.hid h1
                  generalize cmpF (fa out j) (fa l i) = cv at *
                  have HCX := Lib.hid hcx
                  clear hcx HP hR hL' h1
                  go_wp2_with fail
                  refine wp_region_quiet_below (by kernel_rfl) (by kernel_rfl) ?_
                  repeat (first | go_big_quiet_step (exact HCX.out _ _) | quiet_step (exact HCX.out _ _))
                  refine wpQuiet_nil ?_
                  intro _ hw'
                  obtain ⟨⟨dq, osq⟩, hw''⟩ := hw'
                  subst hw''
                  have KF := K2.trans (grow_keeps dq osq)
                  clear g0 g1 g2 g3
                  generalize Sort.grow (redrawn wr dq) osq = wz at *
                  have h1 := HH1.out
                  have hRo := HKO.out wz KF
                  have hT := hRo.takeF (i := j) hj
                  have hD := hRo.dropF (i := j) hj
                  have hL := h.keep (HO.out.2.trans KF)
                  have hnc := hRo.nc
                  have hcm := hRo.cm
                  have l0 := hL.f0 hlt
                  have l1 := hL.f1' hlt
                  have HT := Lib.hid hT; have HD := Lib.hid hD; have HL := Lib.hid hL
                  have hb1 : out.length ≤ 1000000 := by omega
                  clear hT hD hL hRo
                  go_wp2_with (at_builtin; refine wp_app tyF rfl _ _ rfl (Own.nil _ _ (Keeps.refl wz)) rfl rfl HT.out (fl_oneCell _) (by omega) ?_)
                  intro v1 w1 hO1 hg1
                  obtain ⟨b1, d1, rfl, hR1⟩ := hO1.rd
                  have m0 := (HL.out.keep hO1.2).f0 hlt
                  have m1 := (HL.out.keep hO1.2).f1' hlt
                  have HO1 := Lib.hid hO1
                  clear hO1 hg1 hR1 l0 l1
                  go_wp2_with (at_builtin; refine wp_app tyF rfl _ _ rfl (HO1.out.alloc _) rfl rfl (rd_new 34 2 _ [.int .u16 (sv (fa l i).1), .int .u16 (sv (fa l i).2)] 1 (by decide) rfl) (fl_oneCell [fa l i]) (by omega) ?_)
                  intro v2 w2 hO2 hg2
                  obtain ⟨b2, d2, rfl, hR2⟩ := hO2.rd
                  have HO2 := Lib.hid hO2
                  clear hO2 hg2 hR2 m0 m1
                  go_wp2_with (at_builtin; refine wp_app tyF rfl _ _ rfl HO2.out rfl rfl (HD.out.keep HO2.out.2) (fl_oneCell _) (by omega) ?_)
                  intro v3 w3 hO3 hg3
                  have hins : insF (fa l i) out = out.take j ++ fa l i :: out.drop j := by unfold insF; rw [h1]
                  have hil := insF_len (fa l i) out
                  have e1 : j + 1 + (out.length - j) = (insF (fa l i) out).length := by rw [hil]; omega
                  have e2 : fl (out.take j) ++ .int .u16 (sv (fa l i).1) :: .int .u16 (sv (fa l i).2) :: fl (out.drop j) = fl (insF (fa l i) out) := by
                    rw [hins, fl_append, fl_cons]
                  rw [e1, e2] at hO3
                  have HO3 := Lib.hid (hO3.since (HO.out.2.trans KF))
                  have HIL := Lib.hid hil
                  clear hO3 hg3 e1 e2 hins hil
                  go_wp2
                  go_roundw
                  case rel => exact ⟨i + 1, insF (fa l i) out, by omega, by go_num, by rw [HIL.out]; omega, HO3.out, HS⟩
                  case measure => simp [intOf]; omega
    · have hf := HI.out
      rw [show l.length - i = 0 by omega, normR, ← HNF.out] at hf
      subst hf
      have HO := Lib.hid hO
      clear hO hRo HI HNF
      go_wp2
      go_ret
      exact ⟨_, rfl, HO.out⟩
end Go.Proofs.YtijknodekomdfaaGreatDoor
namespace Go.Proofs.YtijknodekomdfaaGreatDoor
open Go.RowKit Go.Lib Go.Shelf

def cutF (all : S) (x : F2) : F2 := (x.1 &&& all, x.2 &&& all &&& ~~~x.1)
def madeIn (all : S) (l : List F2) : List F2 := (0#16, 0#16) :: l.map (cutF all)
def madeF (n : Nat) (l : List F2) : List F2 := normF (madeIn (fullS n) (l.take 6))
theorem madeIn_snoc (all : S) (l : List F2) (k : Nat) (h : k < l.length) : madeIn all (l.take (k + 1)) = madeIn all (l.take k) ++ [cutF all (fa l k)] := by
  unfold madeIn; rw [take_fa l k h, List.map_append]; rfl
theorem madeIn_len (all : S) (l : List F2) : (madeIn all l).length = l.length + 1 := by simp [madeIn]
theorem normR_le (l : List F2) : ∀ c i out, (normR l c i out).length ≤ out.length + c
  | 0, _, _ => by simp [normR]
  | c + 1, i, out => by
    rw [normR]
    refine Nat.le_trans (normR_le l c (i + 1) _) ?_
    split
    · rw [insF_len]; omega
    · omega
theorem normF_le (l : List F2) : (normF l).length ≤ l.length := by have := normR_le l l.length 0 []; simpa [normF] using this
theorem madeF_le (n : Nat) (l : List F2) : (madeF n l).length ≤ 7 := by
  have h1 := normF_le (madeIn (fullS n) (l.take 6))
  rw [madeIn_len, List.length_take] at h1
  unfold madeF; omega
set_option maxRecDepth 20000 in
set_option maxHeartbeats 3000000 in
theorem made19_any (n : Nat) (a : Option Addr) (c : Nat) (l : List F2) (w : World) (h : Rd w a l.length c 2 (fl l)) (h1 : 1 ≤ n) (h12 : n ≤ 12) :
    Calls Tryz.prog 8 #[.int .i64 n, .slice a l.length c] w fun e w' => ∃ v, e = .returned v ∧ Own 34 2 w w' v (madeF n l).length (fl (madeF n l)) := by
  have hno := fun A C (m : List F2) W (hR : Rd W A m.length C 2 (fl m)) (hm : m.length ≤ 1000000) => normal_any A C m W hR hm
  have HNO := Lib.hid hno
  clear hno
  have hfs : fullS n = 1#16 <<< n - 1#16 := rfl
  unfold madeF
  rw [hfs]
  clear hfs
  obtain ⟨all, hall⟩ : ∃ all, all = 1#16 <<< n - 1#16 := ⟨_, rfl⟩
  rw [← hall]
  have HAL := Lib.hid hall
  clear hall
  generalize hres : normF (madeIn all (l.take 6)) = res
  have HRES := Lib.hid hres
  clear hres
  have o0 := Own.made (e := 34) (sz := 2) (Keeps.refl w) [.int .u16 0, .int .u16 0] 1 (by decide) rfl
  have O0 := Lib.hid o0
  clear o0
  go_enter Tryz.func8, Tryz.ntmps8
  go_wp2
  rw [← HAL.out]
  go_loopw [6, 7] (fun u v wr => ∃ k : Nat, k ≤ l.length ∧ k ≤ 6 ∧ v = .int .i64 k ∧ Own 34 2 w wr u (k + 1) (fl (madeIn all (l.take k)))) (fun _ v _ => 6 - (intOf v).toNat)
  case atStart => exact ⟨0, Nat.zero_le _, Nat.zero_le _, rfl, O0.out⟩
  case round =>
    obtain ⟨k, hk, hk6, rfl, hO⟩ := hrel
    obtain ⟨a2, c2, rfl, hRa⟩ := hO.rd
    by_cases hlt : k < l.length ∧ k < 6
    · obtain ⟨hlt, hlt6⟩ := hlt
      have hs := h.isSome (by omega)
      have hst := madeIn_snoc all l k hlt
      have h6i : (k : Int) < 6 := by omega
      have HCK := Lib.hid (fun (W : World) (K : Keeps w W) => And.intro ((h.keep K).f0 hlt) ((h.keep K).f1 hlt))
      have KO := hO.2
      have HO := Lib.hid hO
      have HST := Lib.hid hst
      clear hO hst hRa
      go_wp2_with fail
      go_region_held3 (fun w' => w'.cell? (adr a (k * 2)) = some (.int .u16 (sv (fa l k).1)) ∧ w'.cell? (adr a (k * 2 + 1)) = some (.int .u16 (sv (fa l k).2))) (first | with_reducible exact HCK.out _ KO.drew | with_reducible exact HCK.out _ (KO.alloc _).drew | with_reducible exact hF | go_keep) ((refine step_app tyF (by rfl) _ _ (by rfl) ((HO.out.alloc _).keep ((Keeps.refl _).drew)) (by rfl) (by rfl) ((rd_new 34 2 _ [.int .u16 (sv ((fa l k).1 &&& all)), .int .u16 (sv ((fa l k).2 &&& all &&& ~~~(fa l k).1))] 1 (by decide) rfl).keep ((Keeps.refl _).drew)) (fl_oneCell [cutF all (fa l k)]) (by omega) ?_; intro v' w3 hO3 hgr; have hF := HCK.out _ hO3.2))
      all_goals go_wp2_with fail
      all_goals go_roundw
      case rel =>
        refine ⟨k + 1, by omega, by omega, by go_num, ?_⟩
        rw [HST.out, fl_append]
        exact hO3
      case measure => simp [intOf]; omega
    · have htk : l.take k = l.take 6 := by
        by_cases h6 : k = 6
        · rw [h6]
        · have : k = l.length := by omega
          rw [List.take_of_length_le (by omega), List.take_of_length_le (by omega)]
      have hkk : ¬ (k : Int) < (l.length : Int) ∨ (k : Int) < (l.length : Int) ∧ ¬ (k : Int) < 6 := by omega
      have hml := madeIn_len all (l.take k)
      have hlk : (l.take k).length = k := by rw [List.length_take]; omega
      rw [hlk] at hml
      have hrs := HRES.out
      rw [← htk] at hrs
      generalize madeIn all (l.take k) = m at *
      rw [← hml] at hO hRa
      have K1 := hO.2
      have HRS := Lib.hid hrs; have HML := Lib.hid hml
      clear hO hrs htk hlk hlt
      rcases hkk with hkk | ⟨hkk, hk6'⟩
      all_goals
        have hcall := HNO.out a2 c2 m wr hRa (by have := HML.out; omega)
        rw [HML.out] at hcall
        have HC := Lib.hid hcall
        clear hcall
        go_wp2_with fail
        refine HC.out.mono ?_
        rintro e w4 ⟨v4, rfl, hO4⟩
        go_wp2_with fail
        go_ret
        rw [← HRS.out]
        exact ⟨_, rfl, hO4.since K1⟩
end Go.Proofs.YtijknodekomdfaaGreatDoor
