/- Texts joined into one, what is needed of them (a program of ours). -/
import Derived.Test.YtijknodekomdfaaGreatDoorCKA
import Derived.Test.YtijknodekomdfaaGreatDoorCKE
import Derived.Test.YtijknodekomdfaaGreatDoorCKH
import Derived.Test.YtijknodekomdfaaGreatDoorCKB
namespace Go.Proofs.YtijknodekomdfaaGreatDoor
open Go.RowKit Go.Lib Go.Shelf

theorem within7_any (a b : S) (w : World) : Calls Tryz.prog 144 #[.int .u16 (sv a), .int .u16 (sv b)] w fun e w' => e = .returned (.bool (a &&& ~~~b == 0#16)) ∧ w = w' := by
  go_enter Tryz.func144, Tryz.ntmps144
  go_wp2
  go_ret
  exact ⟨rfl, rfl⟩
theorem has7_any (s : S) (i : Nat) (hi : i < 16) (w : World) : Calls Tryz.prog 221 #[.int .u16 (sv s), .int .i64 i] w fun e w' => e = .returned (.bool ((s >>> i) &&& 1#16 == 1#16)) ∧ w = w' := by
  cases h : ((s >>> i) &&& 1#16 == 1#16)
  all_goals
    go_enter Tryz.func221, Tryz.ntmps221
    go_wp2
    go_ret
    exact ⟨rfl, rfl⟩
/-- the members of a set among the first k -/
def memTo (s : S) (k : Nat) : List Nat := (List.range k).filter fun i => (s >>> i) &&& 1#16 == 1#16
theorem memTo_succ (s : S) (k : Nat) : memTo s (k + 1) = memTo s k ++ (if ((s >>> k) &&& 1#16 == 1#16) = true then [k] else []) := by
  unfold memTo
  rw [List.range_succ, List.filter_append]
  simp [List.filter_cons]
theorem memTo_le (s : S) (k : Nat) : (memTo s k).length ≤ k := Nat.le_trans (List.length_filter_le _ _) (by simp)
theorem memTo_cnt (s : S) (k : Nat) : (memTo s k).length = cntTo s k := by
  induction k with
  | zero => rfl
  | succ k ih =>
    rw [memTo_succ, List.length_append, ih, cntTo]
    congr 1
    have e : ((s >>> k) &&& 1#16).toNat = (s.toNat >>> k) % 2 := by
      rw [BitVec.toNat_and, BitVec.toNat_ushiftRight]
      show _ &&& 1 = _
      rw [Nat.and_one_is_mod]
    by_cases hb : (s >>> k) &&& 1#16 = 1#16
    · rw [if_pos (by simpa using hb), ← e, hb]; rfl
    · rw [if_neg (by simpa using hb), ← e]
      have h2 : ((s >>> k) &&& 1#16).toNat ≠ 1 := fun h => hb (BitVec.eq_of_toNat_eq (by rw [h]; rfl))
      have h3 : ((s >>> k) &&& 1#16).toNat < 2 := by rw [e]; omega
      show 0 = _
      omega
set_option maxHeartbeats 800000 in
theorem members7_any (s : S) (w : World) : Calls Tryz.prog 193 #[.int .u16 (sv s)] w fun e w' => ∃ v, e = .returned v ∧ Own 3 1 w w' v (memTo s 16).length (il (memTo s 16)) := by
  go_enter Tryz.func193, Tryz.ntmps193
  go_wp2
  go_loopw [3, 4] (fun u v wr => ∃ k : Nat, k ≤ 16 ∧ v = .int .i64 k ∧ Own 3 1 w wr u (memTo s k).length (il (memTo s k))) (fun _ v _ => 16 - (RowKit.intOf v).toNat)
  case atStart => exact ⟨0, Nat.zero_le _, rfl, Own.nil _ _ (Keeps.refl _)⟩
  case round =>
    obtain ⟨k, hk, rfl, hO⟩ := hrel
    by_cases hlt : k < 16
    · have hcall := has7_any s k hlt wr
      have hst := memTo_succ s k
      have hle := memTo_le s k
      obtain ⟨a2, c2, rfl, hRa⟩ := hO.rd
      cases hb : ((s >>> k) &&& 1#16 == 1#16)
      · rw [hb] at hcall
        rw [hb, if_neg (by simp), List.append_nil] at hst
        have HC := Lib.hid hcall; have HST := Lib.hid hst; have HO := Lib.hid hO
        clear hcall hst hO hRa
        go_wp2_with fail
        refine HC.out.mono ?_
        rintro e w2 ⟨rfl, rfl⟩
        go_wp2_with fail
        go_roundw
        case rel =>
          refine ⟨k + 1, by omega, by go_num, ?_⟩
          rw [HST.out]; exact HO.out
        case measure => simp [RowKit.intOf]; omega
      · rw [hb] at hcall
        rw [hb, if_pos rfl] at hst
        have HC := Lib.hid hcall; have HST := Lib.hid hst; have HO := Lib.hid hO
        clear hcall hst hO hRa
        go_wp2_with fail
        refine HC.out.mono ?_
        rintro e w2 ⟨rfl, rfl⟩
        go_wp2_with (at_builtin; refine wp_app tyI rfl _ _ rfl (HO.out.alloc _) rfl rfl (rd_new _ 1 _ [.int .i64 k] 1 (by decide) rfl) (il_oneCell [k]) ?_ ?_)
        · omega
        · intro v' w3 hO3 _
          go_wp2
          go_roundw
          case rel =>
            refine ⟨k + 1, by omega, by go_num, ?_⟩
            rw [HST.out, il_snoc, List.length_append]; exact hO3
          case measure => simp [RowKit.intOf]; omega
    · have hkk : k = 16 := by omega
      subst hkk
      obtain ⟨a2, c2, rfl, hRa⟩ := hO.rd
      have HO := Lib.hid hO
      clear hO hRa
      go_wp2
      go_ret
      exact ⟨_, rfl, HO.out⟩
theorem count7_any (s : S) (w : World) : Calls Tryz.prog 145 #[.int .u16 (sv s)] w fun e w' => e = .returned (.int .i64 (cnt s)) ∧ Keeps w w' := by
  have h1 := members7_any s w
  have hl : (memTo s 16).length = cnt s := memTo_cnt s 16
  generalize memTo s 16 = l at *
  rw [← hl]
  have H1 := Lib.hid h1; clear h1 hl
  go_enter Tryz.func145, Tryz.ntmps145
  go_wp2_with fail
  refine H1.out.mono ?_
  rintro e w2 ⟨v, rfl, hO⟩
  obtain ⟨a2, c2, rfl, hR⟩ := hO.rd
  have K := hO.2
  clear hO hR
  go_wp2_with fail
  go_ret
  exact ⟨rfl, K⟩
/-- what Compare does, as the reference writes it -/
theorem cmpS_ref (a b : S) : cmpS a b = if a = b then 0 else if cnt a < cnt b ∨ cnt a = cnt b ∧ sv a < sv b then -1 else 1 := by
  unfold cmpS cmpI
  by_cases h : a = b
  · subst h; simp
  · have hne : sv a ≠ sv b := fun e => h (sv_inj.1 e)
    rw [if_neg h]
    by_cases hc : cnt a = cnt b
    · rw [if_pos hc]
      by_cases h1 : sv a < sv b
      · rw [if_pos h1, if_pos (.inr ⟨hc, h1⟩)]
      · rw [if_neg h1, if_pos (by omega), if_neg (by omega)]
    · rw [if_neg hc]
      by_cases h1 : cnt a < cnt b
      · rw [if_pos (by omega), if_pos (.inl h1)]
      · rw [if_neg (by omega), if_pos (by omega), if_neg (by omega)]
set_option maxHeartbeats 800000 in
theorem compare7_any (a b : S) (w : World) : Calls Tryz.prog 168 #[.int .u16 (sv a), .int .u16 (sv b)] w fun e w' => e = .returned (.int .i64 (cmpS a b)) ∧ Keeps w w' := by
  have ha := fun W => count7_any a W
  have hb := fun W => count7_any b W
  have hba := cnt_le a; have hbb := cnt_le b
  rw [cmpS_ref]
  by_cases h : a = b
  · rw [if_pos h]
    have hq : (a == b) = true := by simpa using h
    clear h
    go_enter Tryz.func168, Tryz.ntmps168
    go_wp2_with fail
    go_ret
    exact ⟨rfl, Keeps.refl _⟩
  · rw [if_neg h]
    have hq : (a == b) = false := by simpa using h
    clear h
    generalize cnt a = x at *
    generalize cnt b = y at *
    have HA := Lib.hid ha; have HB := Lib.hid hb; clear ha hb
    by_cases h1 : x < y
    · rw [if_pos (.inl h1)]
      have h1' : ((x : Int) < y) := by omega
      go_enter Tryz.func168, Tryz.ntmps168
      go_wp2_with fail
      refine (HA.out _).mono ?_
      rintro e w2 ⟨rfl, K1⟩
      go_wp2_with fail
      refine (HB.out _).mono ?_
      rintro e w3 ⟨rfl, K2⟩
      go_wp2_with fail
      go_ret
      exact ⟨rfl, K1.trans K2⟩
    · have h1' : ¬ ((x : Int) < y) := by omega
      by_cases h2 : x = y
      · subst h2
        by_cases h3 : sv a < sv b
        · rw [if_pos (.inr ⟨rfl, h3⟩)]
          clear h1
          go_enter Tryz.func168, Tryz.ntmps168
          go_wp2_with fail
          refine (HA.out _).mono ?_
          rintro e w2 ⟨rfl, K1⟩
          go_wp2_with fail
          refine (HB.out _).mono ?_
          rintro e w3 ⟨rfl, K2⟩
          go_wp2_with fail
          refine (HA.out _).mono ?_
          rintro e w4 ⟨rfl, K3⟩
          go_wp2_with fail
          refine (HB.out _).mono ?_
          rintro e w5 ⟨rfl, K4⟩
          go_wp2_with fail
          go_ret
          exact ⟨rfl, ((K1.trans K2).trans K3).trans K4⟩
        · rw [if_neg (by rintro (h4 | h4); omega; exact h3 h4.2)]
          clear h1
          go_enter Tryz.func168, Tryz.ntmps168
          go_wp2_with fail
          refine (HA.out _).mono ?_
          rintro e w2 ⟨rfl, K1⟩
          go_wp2_with fail
          refine (HB.out _).mono ?_
          rintro e w3 ⟨rfl, K2⟩
          go_wp2_with fail
          refine (HA.out _).mono ?_
          rintro e w4 ⟨rfl, K3⟩
          go_wp2_with fail
          refine (HB.out _).mono ?_
          rintro e w5 ⟨rfl, K4⟩
          go_wp2_with fail
          go_ret
          exact ⟨rfl, ((K1.trans K2).trans K3).trans K4⟩
      · rw [if_neg (by omega)]
        have h2' : ((x : Int) == y) = false := by rw [beq_eq_false_iff_ne]; omega
        go_enter Tryz.func168, Tryz.ntmps168
        go_wp2_with fail
        refine (HA.out _).mono ?_
        rintro e w2 ⟨rfl, K1⟩
        go_wp2_with fail
        refine (HB.out _).mono ?_
        rintro e w3 ⟨rfl, K2⟩
        go_wp2_with fail
        refine (HA.out _).mono ?_
        rintro e w4 ⟨rfl, K3⟩
        go_wp2_with fail
        refine (HB.out _).mono ?_
        rintro e w5 ⟨rfl, K4⟩
        go_wp2_with fail
        go_ret
        exact ⟨rfl, ((K1.trans K2).trans K3).trans K4⟩
theorem faulty19_any (x : F2) (w : World) : Calls Tryz.prog 167 #[.agg #[.int .u16 (sv x.1), .int .u16 (sv x.2)]] w fun e w' => e = .returned (.int .u16 (sv (facF x))) ∧ Keeps w w' := by
  have K := (Keeps.refl w).alloc (.cells #[.int .u16 (sv x.1), .int .u16 (sv x.2)] 34)
  unfold facF
  go_enter Tryz.func167, Tryz.ntmps167
  go_wp2
  go_ret
  exact ⟨rfl, K⟩
theorem compare19_any (b a : F2) (w : World) : Calls Tryz.prog 103 #[.agg #[.int .u16 (sv b.1), .int .u16 (sv b.2)], .agg #[.int .u16 (sv a.1), .int .u16 (sv a.2)]] w fun e w' => e = .returned (.int .i64 (cmpF b a)) ∧ Keeps w w' := by
  have K1 := (Keeps.refl w).alloc (.cells #[.int .u16 (sv b.1), .int .u16 (sv b.2)] 34)
  have K := K1.alloc (.cells #[.int .u16 (sv a.1), .int .u16 (sv a.2)] 34)
  have k2 := (Keeps.refl (w.alloc (.cells #[.int .u16 (sv b.1), .int .u16 (sv b.2)] 34))).alloc (.cells #[.int .u16 (sv a.1), .int .u16 (sv a.2)] 34)
  obtain ⟨b0, b1⟩ := newF b w 34
  replace b0 := k2.cell b0
  replace b1 := k2.cell b1
  obtain ⟨a0, a1⟩ := newF a (w.alloc (.cells #[.int .u16 (sv b.1), .int .u16 (sv b.2)] 34)) 34
  rw [World.size_alloc] at a0 a1
  have h1 := fun W => compare7_any b.1 a.1 W
  have h2 := fun W => compare7_any b.2 a.2 W
  unfold cmpF orF
  generalize cmpS b.1 a.1 = x at *
  generalize cmpS b.2 a.2 = y at *
  have H1 := Lib.hid h1; have H2 := Lib.hid h2
  clear h1 h2 k2 K1
  by_cases hx : x = 0
  · rw [if_neg (by simpa using hx)]
    have hb : (x != 0) = false := by simpa using hx
    clear hx
    go_enter Tryz.func103, Tryz.ntmps103
    go_wp2_with fail
    refine (H1.out _).mono ?_
    rintro e w2 ⟨rfl, K2⟩
    have d0 := K2.cell b1; have d1 := K2.cell a1
    go_wp2_with fail
    refine (H2.out _).mono ?_
    rintro e w3 ⟨rfl, K3⟩
    go_wp2_with fail
    go_ret
    exact ⟨rfl, (K.trans K2).trans K3⟩
  · rw [if_pos hx]
    have hb : (x != 0) = true := by simpa using hx
    clear hx
    go_enter Tryz.func103, Tryz.ntmps103
    go_wp2_with fail
    refine (H1.out _).mono ?_
    rintro e w2 ⟨rfl, K2⟩
    go_wp2_with fail
    go_ret
    exact ⟨rfl, K.trans K2⟩
theorem within7_q (a b : S) (w : World) (d : Nat) (os : Array Obj) : Calls Tryz.prog 144 #[.int .u16 (sv a), .int .u16 (sv b)] (Sort.grow (redrawn w d) os) fun e w'' => e = .returned (.bool (a &&& ~~~b == 0#16)) ∧ ∃ p : Regrown, w'' = Sort.grow (redrawn w p.d) p.os :=
  Calls.regrown_of ((within7_any a b _).mono fun _ _ ⟨he, hw⟩ => ⟨he, hw ▸ Below.refl _ _⟩)
theorem faulty19_q (x : F2) (w : World) (d : Nat) (os : Array Obj) : Calls Tryz.prog 167 #[.agg #[.int .u16 (sv x.1), .int .u16 (sv x.2)]] (Sort.grow (redrawn w d) os) fun e w'' => e = .returned (.int .u16 (sv (facF x))) ∧ ∃ p : Regrown, w'' = Sort.grow (redrawn w p.d) p.os :=
  Calls.regrown_of (faulty19_any x _)
set_option maxRecDepth 20000 in
theorem covers19_any (b a : F2) (w : World) : Calls Tryz.prog 102 #[.agg #[.int .u16 (sv b.1), .int .u16 (sv b.2)], .agg #[.int .u16 (sv a.1), .int .u16 (sv a.2)]] w fun e w' => e = .returned (.bool (covF b a)) ∧ Keeps w w' := by
  have K1 := (Keeps.refl w).alloc (.cells #[.int .u16 (sv b.1), .int .u16 (sv b.2)] 34)
  have K := K1.alloc (.cells #[.int .u16 (sv a.1), .int .u16 (sv a.2)] 34)
  have k2 := (Keeps.refl (w.alloc (.cells #[.int .u16 (sv b.1), .int .u16 (sv b.2)] 34))).alloc (.cells #[.int .u16 (sv a.1), .int .u16 (sv a.2)] 34)
  obtain ⟨b0, b1⟩ := newF b w 34
  replace b0 := k2.cell b0
  replace b1 := k2.cell b1
  obtain ⟨a0, a1⟩ := newF a (w.alloc (.cells #[.int .u16 (sv b.1), .int .u16 (sv b.2)] 34)) 34
  rw [World.size_alloc] at a0 a1
  obtain ⟨W0, hW0⟩ : ∃ W0, W0 = ((w.alloc (.cells #[.int .u16 (sv b.1), .int .u16 (sv b.2)] 34)).alloc (.cells #[.int .u16 (sv a.1), .int .u16 (sv a.2)] 34)) := ⟨_, rfl⟩
  rw [← hW0] at b0 b1 a0 a1 K
  have e0 := cell_regrown b0; have e1 := cell_regrown b1; have e2 := cell_regrown a0; have e3 := cell_regrown a1
  clear b0 b1 a0 a1 k2 K1
  have hfa := faulty19_q a W0
  have hfb := faulty19_q b W0
  unfold covF
  generalize facF a = qa at *
  generalize facF b = qb at *
  have HA := Lib.hid hfa; have HB := Lib.hid hfb
  clear hfa hfb
  cases h1 : (a.1 &&& ~~~b.1 == 0#16)
  all_goals
    go_enter Tryz.func102, Tryz.ntmps102
    go_wp2_with fail
    rw [← hW0]
    clear hW0
    refine wp_region_quiet_below (by kernel_rfl) (by kernel_rfl) ?_
    repeat (first | go_big_quiet_step (first | exact within7_q _ _ _ _ _ | exact HA.out _ _ | exact HB.out _ _) | quiet_step (first | exact within7_q _ _ _ _ _ | exact HA.out _ _ | exact HB.out _ _))
    refine wpQuiet_nil ?_
    intro _ hw'
    obtain ⟨⟨dq, osq⟩, hw''⟩ := hw'
    subst hw''
    have KF := K.trans (grow_keeps dq osq)
    clear e0 e1 e2 e3
    generalize Sort.grow (redrawn W0 dq) osq = wz at *
    go_wp2_with fail
    go_ret
    exact ⟨rfl, KF⟩
end Go.Proofs.YtijknodekomdfaaGreatDoor
namespace Go.Proofs.YtijknodekomdfaaGreatDoor
open Go.RowKit Go.Lib Go.Shelf

theorem covers19_q (b a : F2) (w : World) (d : Nat) (os : Array Obj) : Calls Tryz.prog 102 #[.agg #[.int .u16 (sv b.1), .int .u16 (sv b.2)], .agg #[.int .u16 (sv a.1), .int .u16 (sv a.2)]] (Sort.grow (redrawn w d) os) fun e w'' => e = .returned (.bool (covF b a)) ∧ ∃ p : Regrown, w'' = Sort.grow (redrawn w p.d) p.os :=
  Calls.regrown_of (covers19_any b a _)
end Go.Proofs.YtijknodekomdfaaGreatDoor
namespace Go.Proofs.YtijknodekomdfaaGreatDoor
open Go.RowKit Go.Lib Go.Shelf

/-- does no other set of s contain x? the sets from place k on; x stands at place i -/
def loneG (x : S) (i : Nat) : List S → Nat → Bool → Bool
  | [], _, r => r
  | y :: ys, k, r => loneG x i ys (k + 1) (r && !(decide (i ≠ k) && x &&& ~~~y == 0#16))
/-- what Greatest gathers -/
def maxR (s : List S) : List S → Nat → List S → List S
  | [], _, acc => acc
  | x :: xs, i, acc => maxR s xs (i + 1) (if loneG x i s 0 true = true then acc ++ [x] else acc)
def refGreatest (l : List S) : List S := maxR (sortR [] l) (sortR [] l) 0 []
end Go.Proofs.YtijknodekomdfaaGreatDoor
namespace Go.Proofs.YtijknodekomdfaaGreatDoor
open Go.RowKit Go.Lib Go.Shelf

/-- no other set of s contains x -/
def lonG (s : List S) (x : S) : Bool := s.all fun y => decide (y = x) || !sub x y
theorem lonG_iff (s : List S) (x : S) : lonG s x = true ↔ ∀ y ∈ s, sub x y = true → y = x := by
  unfold lonG
  rw [List.all_eq_true]
  constructor
  · intro h y hy hs
    have := h y hy
    rw [hs] at this
    simpa using this
  · intro h y hy
    cases hs : sub x y with
    | false => simp
    | true => simp [h y hy hs]
theorem above_lonG (s : List S) : ∀ (n : Nat) (x : S), 16 - cnt x = n → x ∈ s → ∃ y ∈ s, lonG s y = true ∧ sub x y = true := by
  intro n
  induction n using Nat.strongRecOn with
  | _ n ih =>
    intro x hx hm
    cases hl : lonG s x with
    | true => exact ⟨x, hm, hl, sub_refl x⟩
    | false =>
      have : ¬ ∀ y ∈ s, sub x y = true → y = x := fun h => by rw [(lonG_iff s x).2 h] at hl; cases hl
      simp only [Classical.not_forall] at this
      obtain ⟨y, hy, hs, hne⟩ := this
      have hlt := cnt_lt hs (fun e => hne e.symm)
      have := cnt_le y
      obtain ⟨z, hz, h1, h2⟩ := ih (16 - cnt y) (by omega) y rfl hy
      exact ⟨z, hz, h1, sub_trans hs h2⟩
theorem covB_iff (f : List S) (x : S) : covB f x = true ↔ ∃ y ∈ f, sub x y = true := by
  unfold covB sub; rw [List.any_eq_true]
theorem gfold_filter (s : List S) (hs : Asc s) : ∀ (rest pre acc : List S), s.reverse = pre ++ rest → acc = pre.filter (lonG s) → rest.foldl gStep acc = s.reverse.filter (lonG s) := by
  intro rest
  induction rest with
  | nil => intro pre acc h1 h2; rw [List.foldl_nil, h2, h1]; simp
  | cons x xs ih =>
    intro pre acc h1 h2
    have hmem : ∀ y, y ∈ s ↔ y ∈ pre ∨ y = x ∨ y ∈ xs := fun y => by rw [← List.mem_reverse, h1]; simp
    have hx : x ∈ s := (hmem x).2 (.inr (.inl rfl))
    have hord : (s.reverse).Pairwise fun a b => ltS b a = true := List.pairwise_reverse.2 hs
    rw [h1] at hord
    obtain ⟨-, hr, hpr⟩ := List.pairwise_append.1 hord
    have hacc : covB acc x = !lonG s x := by
      cases hl : lonG s x with
      | true =>
        rw [Bool.not_true, ← Bool.not_eq_true]
        intro hc
        obtain ⟨y, hy, hsub⟩ := (covB_iff _ _).1 hc
        rw [h2, List.mem_filter] at hy
        have hys : y ∈ s := (hmem y).2 (.inl hy.1)
        have := (lonG_iff s x).1 hl y hys hsub
        subst this
        have h3 := hpr y hy.1 y (by simp)
        rw [ltS_irrefl] at h3; cases h3
      | false =>
        rw [Bool.not_false]
        obtain ⟨y, hy, h3, h4⟩ := above_lonG s _ x rfl hx
        have hne : x ≠ y := fun e => by rw [← e, hl] at h3; cases h3
        have hlt := sub_lt h4 hne
        refine (covB_iff _ _).2 ⟨y, ?_, h4⟩
        rw [h2, List.mem_filter]
        refine ⟨?_, h3⟩
        rcases (hmem y).1 hy with hy | rfl | hy
        · exact hy
        · exact absurd rfl hne
        · have := (List.pairwise_cons.1 hr).1 y hy
          rw [ltS_asymm hlt] at this; cases this
    rw [List.foldl_cons, gStep, hacc]
    cases hl : lonG s x with
    | true =>
      simp only [Bool.not_true, Bool.false_eq_true, if_false]
      exact ih (pre ++ [x]) _ (by rw [h1]; simp) (by rw [h2, List.filter_append]; simp [hl])
    | false =>
      simp only [Bool.not_false, if_true]
      exact ih (pre ++ [x]) _ (by rw [h1]; simp) (by rw [h2, List.filter_append]; simp [hl])
theorem bwL_rev (t : List S) : (bwL t).map (·.2) = t.reverse := by
  apply List.ext_getElem
  · simp [bwL]
  · intro i h1 h2
    have hi : i < t.length := by simpa using h2
    simp only [bwL, List.map_map, List.getElem_map, List.getElem_range, Function.comp, bwE, List.getElem_reverse]
    simp [at_, List.getD, show t.length - 1 - i < t.length by omega]
theorem greatP_filter (l : List S) : greatP l = (sortS' l).filter (lonG (sortS' l)) := by
  have h1 : gFold (bwL (sortS' l)) = (sortS' l).reverse.foldl gStep [] := by
    unfold gFold
    rw [← bwL_rev, List.foldl_map]
  unfold greatP
  rw [h1, gfold_filter _ (sortS_asc l).1 (sortS' l).reverse [] [] rfl rfl, List.filter_reverse, List.reverse_reverse]
theorem loneG_all (s : List S) (hs : Asc s) (i : Nat) (hi : i < s.length) : ∀ (k : Nat) (r : Bool), k ≤ s.length → loneG (at_ s i) i (s.drop k) k r = (r && (s.drop k).all fun y => decide (y = at_ s i) || !sub (at_ s i) y) := by
  intro k r hk
  induction hn : s.length - k generalizing k r with
  | zero => rw [List.drop_eq_nil_iff.2 (by omega)]; simp [loneG]
  | succ n ih =>
    rw [drop_at s k (by omega), loneG, ih (k + 1) _ (by omega) (by omega), List.all_cons]
    have hne := asc_ne hs hi (show k < s.length by omega)
    show (r && !(decide (i ≠ k) && sub (at_ s i) (at_ s k)) && _) = _
    rw [Bool.and_assoc]
    congr 2
    by_cases he : i = k
    · subst he; simp
    · have h2 : at_ s k ≠ at_ s i := fun e => (hne.1 he) e.symm
      simp [he, h2]
theorem maxR_filter (s : List S) (hs : Asc s) : ∀ (i : Nat) (acc : List S), i ≤ s.length → acc = (s.take i).filter (lonG s) → maxR s (s.drop i) i acc = s.filter (lonG s) := by
  intro i acc hi h
  induction hn : s.length - i generalizing i acc with
  | zero => rw [List.drop_eq_nil_iff.2 (by omega), maxR, h, List.take_of_length_le (by omega)]
  | succ n ih =>
    rw [drop_at s i (by omega), maxR]
    have hl := loneG_all s hs i (by omega) 0 true (Nat.zero_le _)
    rw [List.drop_zero, Bool.true_and] at hl
    have hl2 : loneG (at_ s i) i s 0 true = lonG s (at_ s i) := hl
    rw [hl2]
    refine ih (i + 1) _ (by omega) ?_ (by omega)
    rw [take_at s i (by omega), List.filter_append, h]
    cases hx : lonG s (at_ s i) with
    | true => simp [hx]
    | false => simp [hx]
theorem refGreatest_filter (l : List S) : refGreatest l = (sortS' l).filter (lonG (sortS' l)) := by
  unfold refGreatest
  rw [← sort_same]
  exact maxR_filter _ (sortS_asc l).1 0 [] (Nat.zero_le _) (by simp)
theorem great_same (l : List S) : greatP l = refGreatest l := by rw [greatP_filter, refGreatest_filter]
theorem refGreatest_len (l : List S) : (refGreatest l).length ≤ l.length := by
  rw [refGreatest_filter]
  refine Nat.le_trans (List.length_filter_le _ _) ?_
  have h1 := compactL_le (msort l)
  have h2 := msort_length l
  unfold sortS'; omega
/-- the Byzantine sets of a valid client: the reference's are the program's -/
theorem byz_same {M : S} (hM : small M) {m : List F2} (hm : m.length ≤ 400) : byzS M m = refGreatest (mskF M m) := by
  unfold byzS maximalS
  have h1 : (mskF M m).any outS = false := by
    rw [Bool.eq_false_iff]
    intro h
    obtain ⟨x, hx, ho⟩ := List.any_eq_true.1 h
    obtain ⟨f, _, rfl⟩ := List.mem_map.1 hx
    unfold outS at ho
    have h2 : (M &&& 61440#16) = 0#16 := (out_small M).2 hM
    rw [BitVec.and_assoc, h2] at ho
    simp at ho
  have h2 : (mskF M m).length = m.length := by simp [mskF]
  have h3 := refGreatest_len (mskF M m)
  rw [h1, if_neg (by simp), great_same]
  unfold limS
  rw [if_neg (by omega)]
end Go.Proofs.YtijknodekomdfaaGreatDoor
