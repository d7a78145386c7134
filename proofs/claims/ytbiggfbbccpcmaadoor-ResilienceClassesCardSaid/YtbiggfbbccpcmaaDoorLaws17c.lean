/- The walks of the statements of the layer resilience: each answers true and keeps what lay there. -/
import Derived.Test.YtbiggfbbccpcmaaDoorAwake17
namespace Go.Proofs.YtbiggfbbccpcmaaDoor
open Go.RowKit Go.Lib Go.Shelf

theorem sup_full {l : List S} (h : Low6 l) {k : Nat} (h6 : 6 ≤ k) (h12 : k ≤ 12) : sub (supS l) (fullS k) = true := by
  rw [sub_full h12]
  have h1 := (sub_full (k := 6) (by omega) (supS l)).1 (low_sup h)
  exact Nat.lt_of_lt_of_le h1 (Nat.pow_le_pow_right (by decide) h6)
theorem among_low {l : List S} (hf : Fam l) (h : Low6 l) {k : Nat} (h6 : 6 ≤ k) (h12 : k ≤ 12) : amongErr l (k : Int) = (fullS k, 0) := by
  have hs := sup_full h h6 h12
  have hv := (valid_iff l).2 hf
  unfold sub at hs
  unfold amongErr
  rw [if_neg (by simp [hv]), if_neg (by omega), Int.toNat_natCast, if_neg (by simpa using hs)]
theorem idle_low {l : List S} (hf : Fam l) (h : Low6 l) {k : Nat} (h6 : 6 ≤ k) (h12 : k ≤ 12) : idleErr l (k : Int) = (fullS k &&& ~~~supS l, 0) := by
  unfold idleErr; rw [among_low hf h h6 h12, if_neg (by simp)]
theorem infl_low {l : List S} (hf : Fam l) (h : Low6 l) {k : Nat} (h6 : 6 ≤ k) (h12 : k ≤ 12) : inflErr l (k : Int) = (inflL l k (subsetsL (fullS k)), 0) := by
  unfold inflErr; rw [among_low hf h h6 h12, if_neg (by simp), Int.toNat_natCast]
theorem im_infl (m : List S) (n : Nat) (pre : List S) {i : Nat} (h : i < n) : im (inflL m n pre) i = inflC m pre i := by simp [im, inflL, h]
theorem infl_len (m : List S) (n : Nat) (pre : List S) : (inflL m n pre).length = n := by simp [inflL]
theorem cls_low {l : List S} (hf : Fam l) (h : Low6 l) {k : Nat} (h6 : 6 ≤ k) (h12 : k ≤ 12) : clsErr l (k : Int) = (clsR l k k 0 0#16 [], 0) := by
  unfold clsErr; rw [among_low hf h h6 h12, if_neg (by simp), Int.toNat_natCast]

set_option maxRecDepth 20000 in
set_option maxHeartbeats 3000000 in
theorem ResilienceServers_any (a : Option Addr) (n c : Nat) (l : List B8) (extra : Bool) (w : World) (hT : Tab w) (hl : Rd w a n c 1 (bl l)) :
    Calls Tryd.prog 7 #[.slice a n c, .bool extra] w fun e w' => e = .returned (.bool true) ∧ Keeps w w' := by
  have KK := Keeps.refl w
  have hmf := fun W => made_any a n c l W
  have q1f := made_fam l
  have q2f := made_low l
  have lenf := made_len l
  generalize madeS l = f at *
  have HMf := Lib.hid hmf; have FAf := Lib.hid q1f; have LOf := Lib.hid q2f
  clear hmf q1f q2f
  cases extra
  · have hid := idle_low FAf.out LOf.out (k := 6) (by omega) (by omega)
    have hin := infl_low FAf.out LOf.out (k := 6) (by omega) (by omega)
    have hso : ∀ i, i < 6 → decide (im (inflL f 6 (subsetsL (fullS 6))) i = 0) = (((fullS 6 &&& ~~~supS f) >>> i) &&& 1#16 == 1#16) := fun i hi => by
      rw [im_infl _ _ _ hi]; exact servers_ok FAf.out (by omega) hi (sup_full LOf.out (by omega) (by omega))
    have hxl := infl_len f 6 (subsetsL (fullS 6))
    have e1 := fun a n c W h hm => idle_any a n c f 6 W h hm
    have e2 := fun a n c W h => rIdle_any a n c f 6 W h
    have e3 := fun a n c W t h hm => influence_any a n c f 6 W t h hm
    rw [ridle_eq] at e2
    have hid' : idleErr f 6 = _ := hid
    have hin' : inflErr f 6 = _ := hin
    rw [hid'] at e1 e2
    rw [hin'] at e3
    unfold RetE at e1 e2
    have e4 := fun a n c W h => critical_any a n c f W h
    have e5 := fun a n c W h => rCritical_any a n c f W h
    clear hid hin hid' hin'
    generalize fullS 6 &&& ~~~supS f = s at *
    generalize inflL f 6 (subsetsL (fullS 6)) = x at *
    generalize critS f = q at *
    simp only [hxl] at e1 e2 e3
    have E1 := Lib.hid e1; have E2 := Lib.hid e2; have E3 := Lib.hid e3; have E4 := Lib.hid e4; have E5 := Lib.hid e5
    clear e1 e2 e3 e4 e5
    have hss : (s != s) = false := by simp
    have hqq : (q != q) = false := by simp
    have HSO := Lib.hid hso; clear hso
    go_enter Tryd.func7, Tryd.ntmps7
    go_wp2_with fail
    refine (HMf.out _ hl).mono ?_
    rintro e W1 ⟨v, rfl, hO⟩
    obtain ⟨a_hf, c_hf, rfl, hf⟩ := hO.rd
    have K := hO.2
    clear hO
    replace hT := hT.keep K
    replace hl := hl.keep K
    replace KK := KK.trans K
    clear K
    go_wp2_with fail
    refine (awake_any _ hT).mono ?_
    rintro e W2 ⟨rfl, K⟩
    replace hT := hT.keep K
    replace hl := hl.keep K
    replace hf := hf.keep K
    replace KK := KK.trans K
    clear K
    go_wp2_with fail
    refine (cloneS_any _ _ _ (sl f) _ hf (sl_oneCell _) (by omega)).mono ?_
    rintro e W3 ⟨v, rfl, ho, K⟩
    obtain ⟨a_h1, c_h1, rfl, h1⟩ := own_rd ho
    clear ho
    replace hT := hT.keep K
    replace hl := hl.keep K
    replace hf := hf.keep K
    replace KK := KK.trans K
    clear K
    go_wp2_with fail
    refine (E1.out _ _ _ _ h1 (by omega)).mono ?_
    rintro e W4 ⟨rfl, K⟩
    replace hT := hT.keep K
    replace hl := hl.keep K
    replace hf := hf.keep K
    replace h1 := h1.keep K
    replace KK := KK.trans K
    clear K
    go_wp2_with fail
    refine (E2.out _ _ _ _ hf).mono ?_
    rintro e W5 ⟨rfl, K⟩
    replace hT := hT.keep K
    replace hl := hl.keep K
    replace hf := hf.keep K
    replace h1 := h1.keep K
    replace KK := KK.trans K
    clear K
    go_wp2_with fail
    refine (cloneS_any _ _ _ (sl f) _ hf (sl_oneCell _) (by omega)).mono ?_
    rintro e W6 ⟨v, rfl, ho, K⟩
    obtain ⟨a_h2, c_h2, rfl, h2⟩ := own_rd ho
    clear ho
    replace hT := hT.keep K
    replace hl := hl.keep K
    replace hf := hf.keep K
    replace h1 := h1.keep K
    replace KK := KK.trans K
    clear K
    go_wp2_with fail
    refine (E3.out _ _ _ _ hT h2 (by omega)).mono ?_
    rintro e W7 ⟨v, rfl, hO⟩
    obtain ⟨a_hx, c_hx, rfl, hx⟩ := hO.rd
    have K := hO.2
    clear hO
    replace hT := hT.keep K
    replace hl := hl.keep K
    replace hf := hf.keep K
    replace h1 := h1.keep K
    replace h2 := h2.keep K
    replace KK := KK.trans K
    clear K
    go_wp2_with fail
    refine (cloneS_any _ _ _ (sl f) _ hf (sl_oneCell _) (by omega)).mono ?_
    rintro e W8 ⟨v, rfl, ho, K⟩
    obtain ⟨a_h3, c_h3, rfl, h3⟩ := own_rd ho
    clear ho
    replace hT := hT.keep K
    replace hl := hl.keep K
    replace hf := hf.keep K
    replace h1 := h1.keep K
    replace h2 := h2.keep K
    replace hx := hx.keep K
    replace KK := KK.trans K
    clear K
    go_wp2_with fail
    refine (E4.out _ _ _ _ h3).mono ?_
    rintro e W9 ⟨rfl, rfl⟩
    go_wp2_with fail
    refine (E5.out _ _ _ _ hf).mono ?_
    rintro e W10 ⟨rfl, rfl⟩
    go_wp2_with fail
    go_loopw [71] (fun v wr => ∃ k : Nat, k ≤ 6 ∧ v = .int .i64 k ∧ Keeps W8 wr) (fun v _ => 6 - (intOf v).toNat)
    case atStart => exact ⟨0, Nat.zero_le _, rfl, Keeps.refl _⟩
    case round =>
      obtain ⟨k, hk, rfl, K1⟩ := hrel
      by_cases hlt : k < 6
      · have hc := (hx.keep K1).atN hlt
        have hs := hx.isSome (by omega)
        have hq := HSO.out k hlt
        cases hb : ((s >>> k) &&& 1#16 == 1#16)
        · rw [hb] at hq
          have hm : (((im x k : Nat) : Int) == 0) = false := by have := of_decide_eq_false hq; simp; omega
          go_wp2_with fail
          go_roundw
          case rel => exact ⟨k + 1, by omega, by go_num, K1⟩
          case measure => simp [intOf]; omega
        · rw [hb] at hq
          have hm : (((im x k : Nat) : Int) == 0) = true := by have := of_decide_eq_true hq; simp; omega
          go_wp2_with fail
          go_roundw
          case rel => exact ⟨k + 1, by omega, by go_num, K1⟩
          case measure => simp [intOf]; omega
      · skip
        replace hT := hT.keep K1
        replace hl := hl.keep K1
        replace hf := hf.keep K1
        replace h1 := h1.keep K1
        replace h2 := h2.keep K1
        replace hx := hx.keep K1
        replace h3 := h3.keep K1
        replace KK := KK.trans K1
        clear K1
        go_wp2_with fail
        go_ret
        exact ⟨rfl, KK⟩
  · have hid := idle_low FAf.out LOf.out (k := 7) (by omega) (by omega)
    have hin := infl_low FAf.out LOf.out (k := 7) (by omega) (by omega)
    have hso : ∀ i, i < 7 → decide (im (inflL f 7 (subsetsL (fullS 7))) i = 0) = (((fullS 7 &&& ~~~supS f) >>> i) &&& 1#16 == 1#16) := fun i hi => by
      rw [im_infl _ _ _ hi]; exact servers_ok FAf.out (by omega) hi (sup_full LOf.out (by omega) (by omega))
    have hxl := infl_len f 7 (subsetsL (fullS 7))
    have e1 := fun a n c W h hm => idle_any a n c f 7 W h hm
    have e2 := fun a n c W h => rIdle_any a n c f 7 W h
    have e3 := fun a n c W t h hm => influence_any a n c f 7 W t h hm
    rw [ridle_eq] at e2
    have hid' : idleErr f 7 = _ := hid
    have hin' : inflErr f 7 = _ := hin
    rw [hid'] at e1 e2
    rw [hin'] at e3
    unfold RetE at e1 e2
    have e4 := fun a n c W h => critical_any a n c f W h
    have e5 := fun a n c W h => rCritical_any a n c f W h
    clear hid hin hid' hin'
    generalize fullS 7 &&& ~~~supS f = s at *
    generalize inflL f 7 (subsetsL (fullS 7)) = x at *
    generalize critS f = q at *
    simp only [hxl] at e1 e2 e3
    have E1 := Lib.hid e1; have E2 := Lib.hid e2; have E3 := Lib.hid e3; have E4 := Lib.hid e4; have E5 := Lib.hid e5
    clear e1 e2 e3 e4 e5
    have hss : (s != s) = false := by simp
    have hqq : (q != q) = false := by simp
    have HSO := Lib.hid hso; clear hso
    go_enter Tryd.func7, Tryd.ntmps7
    go_wp2_with fail
    refine (HMf.out _ hl).mono ?_
    rintro e W1 ⟨v, rfl, hO⟩
    obtain ⟨a_hf, c_hf, rfl, hf⟩ := hO.rd
    have K := hO.2
    clear hO
    replace hT := hT.keep K
    replace hl := hl.keep K
    replace KK := KK.trans K
    clear K
    go_wp2_with fail
    refine (awake_any _ hT).mono ?_
    rintro e W2 ⟨rfl, K⟩
    replace hT := hT.keep K
    replace hl := hl.keep K
    replace hf := hf.keep K
    replace KK := KK.trans K
    clear K
    go_wp2_with fail
    refine (cloneS_any _ _ _ (sl f) _ hf (sl_oneCell _) (by omega)).mono ?_
    rintro e W3 ⟨v, rfl, ho, K⟩
    obtain ⟨a_h1, c_h1, rfl, h1⟩ := own_rd ho
    clear ho
    replace hT := hT.keep K
    replace hl := hl.keep K
    replace hf := hf.keep K
    replace KK := KK.trans K
    clear K
    go_wp2_with fail
    refine (E1.out _ _ _ _ h1 (by omega)).mono ?_
    rintro e W4 ⟨rfl, K⟩
    replace hT := hT.keep K
    replace hl := hl.keep K
    replace hf := hf.keep K
    replace h1 := h1.keep K
    replace KK := KK.trans K
    clear K
    go_wp2_with fail
    refine (E2.out _ _ _ _ hf).mono ?_
    rintro e W5 ⟨rfl, K⟩
    replace hT := hT.keep K
    replace hl := hl.keep K
    replace hf := hf.keep K
    replace h1 := h1.keep K
    replace KK := KK.trans K
    clear K
    go_wp2_with fail
    refine (cloneS_any _ _ _ (sl f) _ hf (sl_oneCell _) (by omega)).mono ?_
    rintro e W6 ⟨v, rfl, ho, K⟩
    obtain ⟨a_h2, c_h2, rfl, h2⟩ := own_rd ho
    clear ho
    replace hT := hT.keep K
    replace hl := hl.keep K
    replace hf := hf.keep K
    replace h1 := h1.keep K
    replace KK := KK.trans K
    clear K
    go_wp2_with fail
    refine (E3.out _ _ _ _ hT h2 (by omega)).mono ?_
    rintro e W7 ⟨v, rfl, hO⟩
    obtain ⟨a_hx, c_hx, rfl, hx⟩ := hO.rd
    have K := hO.2
    clear hO
    replace hT := hT.keep K
    replace hl := hl.keep K
    replace hf := hf.keep K
    replace h1 := h1.keep K
    replace h2 := h2.keep K
    replace KK := KK.trans K
    clear K
    go_wp2_with fail
    refine (cloneS_any _ _ _ (sl f) _ hf (sl_oneCell _) (by omega)).mono ?_
    rintro e W8 ⟨v, rfl, ho, K⟩
    obtain ⟨a_h3, c_h3, rfl, h3⟩ := own_rd ho
    clear ho
    replace hT := hT.keep K
    replace hl := hl.keep K
    replace hf := hf.keep K
    replace h1 := h1.keep K
    replace h2 := h2.keep K
    replace hx := hx.keep K
    replace KK := KK.trans K
    clear K
    go_wp2_with fail
    refine (E4.out _ _ _ _ h3).mono ?_
    rintro e W9 ⟨rfl, rfl⟩
    go_wp2_with fail
    refine (E5.out _ _ _ _ hf).mono ?_
    rintro e W10 ⟨rfl, rfl⟩
    go_wp2_with fail
    go_loopw [71] (fun v wr => ∃ k : Nat, k ≤ 7 ∧ v = .int .i64 k ∧ Keeps W8 wr) (fun v _ => 7 - (intOf v).toNat)
    case atStart => exact ⟨0, Nat.zero_le _, rfl, Keeps.refl _⟩
    case round =>
      obtain ⟨k, hk, rfl, K1⟩ := hrel
      by_cases hlt : k < 7
      · have hc := (hx.keep K1).atN hlt
        have hs := hx.isSome (by omega)
        have hq := HSO.out k hlt
        cases hb : ((s >>> k) &&& 1#16 == 1#16)
        · rw [hb] at hq
          have hm : (((im x k : Nat) : Int) == 0) = false := by have := of_decide_eq_false hq; simp; omega
          go_wp2_with fail
          go_roundw
          case rel => exact ⟨k + 1, by omega, by go_num, K1⟩
          case measure => simp [intOf]; omega
        · rw [hb] at hq
          have hm : (((im x k : Nat) : Int) == 0) = true := by have := of_decide_eq_true hq; simp; omega
          go_wp2_with fail
          go_roundw
          case rel => exact ⟨k + 1, by omega, by go_num, K1⟩
          case measure => simp [intOf]; omega
      · skip
        replace hT := hT.keep K1
        replace hl := hl.keep K1
        replace hf := hf.keep K1
        replace h1 := h1.keep K1
        replace h2 := h2.keep K1
        replace hx := hx.keep K1
        replace h3 := h3.keep K1
        replace KK := KK.trans K1
        clear K1
        go_wp2_with fail
        go_ret
        exact ⟨rfl, KK⟩

set_option maxRecDepth 20000 in
set_option maxHeartbeats 4000000 in
theorem ResilienceClasses_any (a : Option Addr) (n c : Nat) (l : List B8) (i k : Int) (hi0 : -128 ≤ i) (hi1 : i ≤ 127) (hk0 : -128 ≤ k) (hk1 : k ≤ 127) (w : World) (hT : Tab w) (hl : Rd w a n c 1 (bl l)) :
    Calls Tryd.prog 6 #[.slice a n c, .int .i8 i, .int .i8 k] w fun e w' => e = .returned (.bool true) ∧ Keeps w w' := by
  have KK := Keeps.refl w
  have hmf := fun W => made_any a n c l W
  have q1f := made_fam l
  have q2f := made_low l
  have lenf := made_len l
  generalize madeS l = f at *
  have HMf := Lib.hid hmf; have FAf := Lib.hid q1f; have LOf := Lib.hid q2f
  clear hmf q1f q2f
  have hcl : clsErr f 6 = _ := cls_low FAf.out LOf.out (k := 6) (by omega) (by omega)
  have hin : inflErr f 6 = _ := infl_low FAf.out LOf.out (k := 6) (by omega) (by omega)
  have hmm := cls_mem ((valid_iff f).2 FAf.out) 6 (by omega) 6 0 0#16 [] (by omega) (by simp)
  have hso : ∀ j, j < (clsR f 6 6 0 0#16 []).length → ∀ a b, a < 6 → b < 6 → ((at_ (clsR f 6 6 0 0#16 []) j >>> a) &&& 1#16 == 1#16) = true → ((at_ (clsR f 6 6 0 0#16 []) j >>> b) &&& 1#16 == 1#16) = true →
      im (inflL f 6 (subsetsL (fullS 6))) a = im (inflL f 6 (subsetsL (fullS 6))) b := fun j hj a b ha hb h1 h2 => by
    rw [bit_one] at h1 h2
    rw [im_infl _ _ _ ha, im_infl _ _ _ hb]
    exact infl_ex (by omega) ha hb (hmm _ (at_mem hj) a b h1 h2)
  have hxl := infl_len f 6 (subsetsL (fullS 6))
  have e1 := fun a n c W h hm => classes_any a n c f 6 W h hm
  have e2 := fun a n c W h => rClasses_any a n c f 6 W h
  have e3 := fun a n c W t h hm => influence_any a n c f 6 W t h hm
  rw [rcls_eq] at e2
  rw [hcl] at e1 e2
  rw [hin] at e3
  unfold RetS at e1 e2
  have e4 := fun a n c W h hn => symmetricX_any a n c f i k W h hn
  have e5 := fun a n c W h => rSymmetric_any a n c f i k W h
  rw [rsym_eq] at e5
  clear hcl hin hmm
  generalize clsR f 6 6 0 0#16 [] = y at *
  generalize inflL f 6 (subsetsL (fullS 6)) = x at *
  generalize symS f i k = q at *
  simp only [hxl] at e1 e2 e3
  have e6 := fun a n c a2 n2 c2 W h h2 => rSame_any a n c y a2 n2 c2 y W h h2
  rw [eqS_iff, decide_eq_true rfl] at e6
  have E1 := Lib.hid e1; have E2 := Lib.hid e2; have E3 := Lib.hid e3; have E4 := Lib.hid e4; have E5 := Lib.hid e5; have E6 := Lib.hid e6
  clear e1 e2 e3 e4 e5 e6
  have hqq : (q != q) = false := by simp
  have HSO := Lib.hid hso; clear hso
  go_enter Tryd.func6, Tryd.ntmps6
  go_wp2_with fail
  refine (HMf.out _ hl).mono ?_
  rintro e W1 ⟨v, rfl, hO⟩
  obtain ⟨a_hf, c_hf, rfl, hf⟩ := hO.rd
  have K := hO.2
  clear hO
  replace hT := hT.keep K
  replace hl := hl.keep K
  replace KK := KK.trans K
  clear K
  go_wp2_with fail
  refine (awake_any _ hT).mono ?_
  rintro e W2 ⟨rfl, K⟩
  replace hT := hT.keep K
  replace hl := hl.keep K
  replace hf := hf.keep K
  replace KK := KK.trans K
  clear K
  go_wp2_with fail
  refine (cloneS_any _ _ _ (sl f) _ hf (sl_oneCell _) (by omega)).mono ?_
  rintro e W3 ⟨v, rfl, ho, K⟩
  obtain ⟨a_h1, c_h1, rfl, h1⟩ := own_rd ho
  clear ho
  replace hT := hT.keep K
  replace hl := hl.keep K
  replace hf := hf.keep K
  replace KK := KK.trans K
  clear K
  go_wp2_with fail
  refine (E1.out _ _ _ _ h1 (by omega)).mono ?_
  rintro e W4 ⟨v, rfl, hO⟩
  obtain ⟨a_hy, c_hy, rfl, hy⟩ := hO.rd
  have K := hO.2
  clear hO
  replace hT := hT.keep K
  replace hl := hl.keep K
  replace hf := hf.keep K
  replace h1 := h1.keep K
  replace KK := KK.trans K
  clear K
  go_wp2_with fail
  refine (E2.out _ _ _ _ hf).mono ?_
  rintro e W5 ⟨v, rfl, hO⟩
  obtain ⟨a_hz, c_hz, rfl, hz⟩ := hO.rd
  have K := hO.2
  clear hO
  replace hT := hT.keep K
  replace hl := hl.keep K
  replace hf := hf.keep K
  replace h1 := h1.keep K
  replace hy := hy.keep K
  replace KK := KK.trans K
  clear K
  go_wp2_with fail
  refine (cloneS_any _ _ _ (sl f) _ hf (sl_oneCell _) (by omega)).mono ?_
  rintro e W6 ⟨v, rfl, ho, K⟩
  obtain ⟨a_h2, c_h2, rfl, h2⟩ := own_rd ho
  clear ho
  replace hT := hT.keep K
  replace hl := hl.keep K
  replace hf := hf.keep K
  replace h1 := h1.keep K
  replace hy := hy.keep K
  replace hz := hz.keep K
  replace KK := KK.trans K
  clear K
  go_wp2_with fail
  refine (E3.out _ _ _ _ hT h2 (by omega)).mono ?_
  rintro e W7 ⟨v, rfl, hO⟩
  obtain ⟨a_hx, c_hx, rfl, hx⟩ := hO.rd
  have K := hO.2
  clear hO
  replace hT := hT.keep K
  replace hl := hl.keep K
  replace hf := hf.keep K
  replace h1 := h1.keep K
  replace hy := hy.keep K
  replace hz := hz.keep K
  replace h2 := h2.keep K
  replace KK := KK.trans K
  clear K
  go_wp2_with fail
  refine (E6.out _ _ _ _ _ _ _ hy hz).mono ?_
  rintro e W8 ⟨rfl, K⟩
  replace hT := hT.keep K
  replace hl := hl.keep K
  replace hf := hf.keep K
  replace h1 := h1.keep K
  replace hy := hy.keep K
  replace hz := hz.keep K
  replace h2 := h2.keep K
  replace hx := hx.keep K
  replace KK := KK.trans K
  clear K
  go_wp2_with fail
  refine (cloneS_any _ _ _ (sl f) _ hf (sl_oneCell _) (by omega)).mono ?_
  rintro e W9 ⟨v, rfl, ho, K⟩
  obtain ⟨a_h3, c_h3, rfl, h3⟩ := own_rd ho
  clear ho
  replace hT := hT.keep K
  replace hl := hl.keep K
  replace hf := hf.keep K
  replace h1 := h1.keep K
  replace hy := hy.keep K
  replace hz := hz.keep K
  replace h2 := h2.keep K
  replace hx := hx.keep K
  replace KK := KK.trans K
  clear K
  go_wp2_with fail
  refine (E4.out _ _ _ _ h3 (by omega)).mono ?_
  rintro e W10 ⟨rfl, K⟩
  replace hT := hT.keep K
  replace hl := hl.keep K
  replace hf := hf.keep K
  replace h1 := h1.keep K
  replace hy := hy.keep K
  replace hz := hz.keep K
  replace h2 := h2.keep K
  replace hx := hx.keep K
  replace h3 := h3.keep K
  replace KK := KK.trans K
  clear K
  go_wp2_with fail
  refine (E5.out _ _ _ _ hf).mono ?_
  rintro e W11 ⟨rfl, K⟩
  replace hT := hT.keep K
  replace hl := hl.keep K
  replace hf := hf.keep K
  replace h1 := h1.keep K
  replace hy := hy.keep K
  replace hz := hz.keep K
  replace h2 := h2.keep K
  replace hx := hx.keep K
  replace h3 := h3.keep K
  replace KK := KK.trans K
  clear K
  have sy := hy.small
  go_wp2_with fail
  go_loopw [74] (fun v wr => ∃ j : Nat, j ≤ y.length ∧ v = .int .i64 j ∧ Keeps W11 wr) (fun v _ => y.length - (intOf v).toNat)
  case atStart => exact ⟨0, Nat.zero_le _, rfl, Keeps.refl _⟩
  case round =>
    obtain ⟨j, hj, rfl, K1⟩ := hrel
    by_cases hlt : j < y.length
    · have hc := (hy.keep K1).at hlt
      have hs := hy.isSome (by omega)
      have hsx := hx.isSome (by omega)
      have HSO2 := Lib.hid (HSO.out j hlt)
      generalize at_ y j = s at *
      obtain ⟨wo, rfl⟩ : ∃ wo : World, wo = wr := ⟨_, rfl⟩
      go_wp2_with fail
      go_loopw [78] (fun v wx => ∃ a : Nat, a ≤ 6 ∧ v = .int .i64 a ∧ Keeps wo wx) (fun v _ => 6 - (intOf v).toNat)
      case atStart => exact ⟨0, Nat.zero_le _, rfl, Keeps.refl _⟩
      case round =>
        obtain ⟨p, hp, rfl, K2⟩ := hrel
        by_cases hlp : p < 6
        · obtain ⟨wp, rfl⟩ : ∃ wp : World, wp = wr := ⟨_, rfl⟩
          have hcp := (hx.keep (K1.trans K2)).atN hlp
          go_wp2_with fail
          go_loopw [81] (fun v wx => ∃ b : Nat, b ≤ 6 ∧ v = .int .i64 b ∧ Keeps wp wx) (fun v _ => 6 - (intOf v).toNat)
          case atStart => exact ⟨0, Nat.zero_le _, rfl, Keeps.refl _⟩
          case round =>
            obtain ⟨b, hb, rfl, K3⟩ := hrel
            by_cases hlb : b < 6
            · have hcb := (hx.keep ((K1.trans K2).trans K3)).atN hlb
              have hca := K3.cell hcp
              have hq := HSO2.out p b hlp hlb
              cases hb1 : ((s >>> p) &&& 1#16 == 1#16)
              · go_wp2_with (go_quiet (fail))
                go_roundw
                case rel => exact ⟨b + 1, by omega, by go_num, K3.drewN _⟩
                case measure => simp [intOf]; omega
              · cases hb2 : ((s >>> b) &&& 1#16 == 1#16)
                · go_wp2_with (go_quiet (fail))
                  go_roundw
                  case rel => exact ⟨b + 1, by omega, by go_num, K3.drewN _⟩
                  case measure => simp [intOf]; omega
                · have hne : (((im x p : Nat) : Int) != ((im x b : Nat) : Int)) = false := by rw [hq hb1 hb2]; simp
                  go_wp2_with (go_quiet (fail))
                  go_roundw
                  case rel => exact ⟨b + 1, by omega, by go_num, K3.drewN _⟩
                  case measure => simp [intOf]; omega
            · go_wp2_with fail
              go_roundw
              case rel => exact ⟨p + 1, by omega, by go_num, K2.trans K3⟩
              case measure => simp [intOf]; omega
        · go_wp2_with fail
          go_roundw
          case rel => exact ⟨j + 1, by omega, by go_num, K1.trans K2⟩
          case measure => simp [intOf]; omega
    · skip
      replace hT := hT.keep K1
      replace hl := hl.keep K1
      replace hf := hf.keep K1
      replace h1 := h1.keep K1
      replace hy := hy.keep K1
      replace hz := hz.keep K1
      replace h2 := h2.keep K1
      replace hx := hx.keep K1
      replace h3 := h3.keep K1
      replace KK := KK.trans K1
      clear K1
      go_wp2_with fail
      go_ret
      exact ⟨rfl, KK⟩
end Go.Proofs.YtbiggfbbccpcmaaDoor
