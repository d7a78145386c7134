/- The walks of statements of the layer transversal: each answers true and keeps what lay there. -/
import Derived.Test.YteaehcaokcbehaaDoorAwake09
namespace Go.Proofs.YteaehcaokcbehaaDoor
open Go.RowKit Go.Lib Go.Shelf

theorem hitsLPred (s : S) (B : Nat) (l : List S) (w : World) (hc : w.cell? ⟨B, 0, none⟩ = some (.int .u16 (sv s))) :
    PredK Tryd.prog 17 #[.pointer (some ⟨B, 0, none⟩)] vs (fun x => x &&& ~~~s == 0#16) l w := fun W x _ hk => by
  have hc' := hk.cell hc
  show Calls Tryd.prog 17 #[.int .u16 (sv x), .pointer (some ⟨B, 0, none⟩)] W _
  go_enter Tryd.func17, Tryd.ntmps17
  go_wp2
  go_ret
  exact ⟨rfl, Keeps.refl _⟩
theorem hitsL_any (a : Option Addr) (n c : Nat) (l : List S) (s : S) (B : Nat) (w : World) (h : Rd w a n c 1 (sl l)) (hc : w.cell? ⟨B, 0, none⟩ = some (.int .u16 (sv s))) :
    Calls Tryd.prog 16 #[.slice a n c, .func (.func 17) #[] #[.pointer (some ⟨B, 0, none⟩)]] w fun e w' => e = .returned (.bool (accS l s)) ∧ Keeps w w' :=
  containsFuncS_any a n c l w _ _ (fun x => x &&& ~~~s == 0#16) h (enters_of Tryd.func17 (by kernel_rfl) rfl) (hitsLPred s B l w hc)
theorem cross_dis (f g : List S) : crossS f g = ((disR f g).2.2 == 13) := by
  have hin : ∀ (x : S) (g : List S), hitS g x = (disIn x g).isNone := fun x g => by
    induction g with
    | nil => rfl
    | cons y ys ih =>
      rw [hitS_cons, disIn, BitVec.and_comm]
      cases h : (x &&& y == 0#16) with
      | true => simp
      | false => simpa using ih
  induction f with
  | nil => rfl
  | cons x xs ih =>
    rw [crossS_cons, disR, hin]
    cases h : disIn x g with
    | some y => rfl
    | none => simpa using ih

set_option maxRecDepth 20000 in
set_option maxHeartbeats 1600000 in
theorem TransversalLeast_any (a : Option Addr) (n c : Nat) (l : List B8) (w : World) (hT : Tab w) (hl : Rd w a n c 1 (bl l)) :
    Calls Tryd.prog 9 #[.slice a n c] w fun e w' => e = .returned (.bool true) ∧ Keeps w w' := by
  have KK := Keeps.refl w
  have hmf := fun W => made_any a n c l W
  have q1f := made_fam l
  have q2f := made_low l
  have lenf := made_len l
  generalize madeS l = f at *
  have HMf := Lib.hid hmf; have FAf := Lib.hid q1f; have LOf := Lib.hid q2f
  clear hmf q1f q2f
  have e1 := fun a n c W t h => leastT_any a n c f W t h (fun hv => valid_small hv)
  have e2 := fun a n c W h => rLeast_any a n c f W h
  rw [rleast_eq] at e2
  generalize leastErr f = r at *
  obtain ⟨x, z⟩ := r
  unfold RetE at e2
  simp only at e1 e2
  have E1 := Lib.hid e1; have E2 := Lib.hid e2
  clear e1 e2
  have hxx : (x == x) = true := by simp
  have hzz : (z == z) = true := by simp
  go_enter Tryd.func9, Tryd.ntmps9
  go_wp2_with fail
  refine (HMf.out _ hl).mono ?_
  rintro e W1 ⟨v, rfl, hO⟩
  obtain ⟨a_hf, c_hf, rfl, hf⟩ := hO.rd
  have K := hO.2
  clear hO
  replace hT := hT.keep K
  replace hl := hl.keep K
  replace KK := KK.trans K
  clear K
  go_wp2_with fail
  refine (awake_any _ hT).mono ?_
  rintro e W2 ⟨rfl, K⟩
  replace hT := hT.keep K
  replace hl := hl.keep K
  replace hf := hf.keep K
  replace KK := KK.trans K
  clear K
  go_wp2_with fail
  refine (cloneS_any _ _ _ (sl f) _ hf (sl_oneCell _) (by omega)).mono ?_
  rintro e W3 ⟨v, rfl, ho, K⟩
  obtain ⟨a_h1, c_h1, rfl, h1⟩ := own_rd ho
  clear ho
  replace hT := hT.keep K
  replace hl := hl.keep K
  replace hf := hf.keep K
  replace KK := KK.trans K
  clear K
  go_wp2_with fail
  refine (E1.out _ _ _ _ hT h1).mono ?_
  rintro e W4 ⟨rfl, K⟩
  replace hT := hT.keep K
  replace hl := hl.keep K
  replace hf := hf.keep K
  replace h1 := h1.keep K
  replace KK := KK.trans K
  clear K
  go_wp2_with fail
  refine (E2.out _ _ _ _ hf).mono ?_
  rintro e W5 ⟨rfl, K⟩
  replace hT := hT.keep K
  replace hl := hl.keep K
  replace hf := hf.keep K
  replace h1 := h1.keep K
  replace KK := KK.trans K
  clear K
  go_wp2_with fail
  go_ret
  exact ⟨rfl, KK⟩

set_option maxRecDepth 20000 in
set_option maxHeartbeats 1600000 in
theorem TransversalCross_any (a : Option Addr) (n c : Nat) (f : List S) (a2 : Option Addr) (n2 c2 : Nat) (g : List S) (w : World) (hT : Tab w) (hf : Rd w a n c 1 (sl f)) (hg : Rd w a2 n2 c2 1 (sl g)) :
    Calls Tryd.prog 8 #[.slice a n c, .slice a2 n2 c2] w fun e w' => e = .returned (.bool true) ∧ Keeps w w' := by
  have KK := Keeps.refl w
  by_cases hn1 : n ≤ 30
  rotate_left
  · skip
    go_enter Tryd.func8, Tryd.ntmps8
    go_wp2_with fail
    refine (awake_any _ hT).mono ?_
    rintro e W1 ⟨rfl, K⟩
    replace hT := hT.keep K
    replace hf := hf.keep K
    replace hg := hg.keep K
    replace KK := KK.trans K
    clear K
    go_wp2_with fail
    refine (few_no _ _ _ _ hn1).mono ?_
    rintro e W2 ⟨rfl, rfl⟩
    go_wp2_with fail
    refine (awake_any _ hT).mono ?_
    rintro e W3 ⟨rfl, K⟩
    replace hT := hT.keep K
    replace hf := hf.keep K
    replace hg := hg.keep K
    replace KK := KK.trans K
    clear K
    go_wp2_with fail
    go_ret
    exact ⟨rfl, KK⟩
  by_cases hn2 : n2 ≤ 30
  rotate_left
  · skip
    go_enter Tryd.func8, Tryd.ntmps8
    go_wp2_with fail
    refine (awake_any _ hT).mono ?_
    rintro e W1 ⟨rfl, K⟩
    replace hT := hT.keep K
    replace hf := hf.keep K
    replace hg := hg.keep K
    replace KK := KK.trans K
    clear K
    go_wp2_with fail
    refine (few_yes _ _ _ _ hn1).mono ?_
    rintro e W2 ⟨rfl, rfl⟩
    go_wp2_with fail
    refine (few_no _ _ _ _ hn2).mono ?_
    rintro e W3 ⟨rfl, rfl⟩
    go_wp2_with fail
    refine (awake_any _ hT).mono ?_
    rintro e W4 ⟨rfl, K⟩
    replace hT := hT.keep K
    replace hf := hf.keep K
    replace hg := hg.keep K
    replace KK := KK.trans K
    clear K
    go_wp2_with fail
    go_ret
    exact ⟨rfl, KK⟩
  have e1 := fun a n c a2 n2 c2 W h h2 => disjoint_any a n c f a2 n2 c2 g W h h2
  have e2 := fun a n c a2 n2 c2 W h h2 => rDisjoint_any a n c f a2 n2 c2 g W h h2
  have e3 := fun a n c a2 n2 c2 W h h2 => cross_any a n c f a2 n2 c2 g W h h2
  have e4 := fun a n c a2 n2 c2 W h h2 => rCross_any a n c f a2 n2 c2 g W h h2
  rw [cross_dis] at e3 e4
  generalize disR f g = r at *
  obtain ⟨x, y, z⟩ := r
  unfold RetP at e1 e2
  simp only at e1 e2 e3 e4
  have E1 := Lib.hid e1; have E2 := Lib.hid e2; have E3 := Lib.hid e3; have E4 := Lib.hid e4
  clear e1 e2 e3 e4
  have hxx : (x == x) = true := by simp
  have hyy : (y == y) = true := by simp
  have hzz : (z == z) = true := by simp
  have hqq : ((z == 13) == (z == 13)) = true := by simp
  go_enter Tryd.func8, Tryd.ntmps8
  go_wp2_with fail
  refine (awake_any _ hT).mono ?_
  rintro e W1 ⟨rfl, K⟩
  replace hT := hT.keep K
  replace hf := hf.keep K
  replace hg := hg.keep K
  replace KK := KK.trans K
  clear K
  go_wp2_with fail
  refine (few_yes _ _ _ _ hn1).mono ?_
  rintro e W2 ⟨rfl, rfl⟩
  go_wp2_with fail
  refine (few_yes _ _ _ _ hn2).mono ?_
  rintro e W3 ⟨rfl, rfl⟩
  go_wp2_with fail
  refine (cloneS_any _ _ _ (sl f) _ hf (sl_oneCell _) (by omega)).mono ?_
  rintro e W4 ⟨v, rfl, ho, K⟩
  obtain ⟨a_h1, c_h1, rfl, h1⟩ := own_rd ho
  clear ho
  replace hT := hT.keep K
  replace hf := hf.keep K
  replace hg := hg.keep K
  replace KK := KK.trans K
  clear K
  go_wp2_with fail
  refine (cloneS_any _ _ _ (sl g) _ hg (sl_oneCell _) (by omega)).mono ?_
  rintro e W5 ⟨v, rfl, ho, K⟩
  obtain ⟨a_h2, c_h2, rfl, h2⟩ := own_rd ho
  clear ho
  replace hT := hT.keep K
  replace hf := hf.keep K
  replace hg := hg.keep K
  replace h1 := h1.keep K
  replace KK := KK.trans K
  clear K
  go_wp2_with fail
  refine (E1.out _ _ _ _ _ _ _ h1 h2).mono ?_
  rintro e W6 ⟨rfl, rfl⟩
  go_wp2_with fail
  refine (E2.out _ _ _ _ _ _ _ hf hg).mono ?_
  rintro e W7 ⟨rfl, K⟩
  replace hT := hT.keep K
  replace hf := hf.keep K
  replace hg := hg.keep K
  replace h1 := h1.keep K
  replace h2 := h2.keep K
  replace KK := KK.trans K
  clear K
  go_wp2_with fail
  refine (cloneS_any _ _ _ (sl f) _ hf (sl_oneCell _) (by omega)).mono ?_
  rintro e W8 ⟨v, rfl, ho, K⟩
  obtain ⟨a_h3, c_h3, rfl, h3⟩ := own_rd ho
  clear ho
  replace hT := hT.keep K
  replace hf := hf.keep K
  replace hg := hg.keep K
  replace h1 := h1.keep K
  replace h2 := h2.keep K
  replace KK := KK.trans K
  clear K
  go_wp2_with fail
  refine (cloneS_any _ _ _ (sl g) _ hg (sl_oneCell _) (by omega)).mono ?_
  rintro e W9 ⟨v, rfl, ho, K⟩
  obtain ⟨a_h4, c_h4, rfl, h4⟩ := own_rd ho
  clear ho
  replace hT := hT.keep K
  replace hf := hf.keep K
  replace hg := hg.keep K
  replace h1 := h1.keep K
  replace h2 := h2.keep K
  replace h3 := h3.keep K
  replace KK := KK.trans K
  clear K
  go_wp2_with fail
  refine (E3.out _ _ _ _ _ _ _ h3 h4).mono ?_
  rintro e W10 ⟨rfl, K⟩
  replace hT := hT.keep K
  replace hf := hf.keep K
  replace hg := hg.keep K
  replace h1 := h1.keep K
  replace h2 := h2.keep K
  replace h3 := h3.keep K
  replace h4 := h4.keep K
  replace KK := KK.trans K
  clear K
  go_wp2_with fail
  refine (E4.out _ _ _ _ _ _ _ hf hg).mono ?_
  rintro e W11 ⟨rfl, rfl⟩
  go_wp2_with fail
  go_ret
  exact ⟨rfl, KK⟩

set_option maxRecDepth 20000 in
set_option maxHeartbeats 1600000 in
theorem TransversalCoterie_any (a : Option Addr) (n c : Nat) (f : List S) (w : World) (hT : Tab w) (hf : Rd w a n c 1 (sl f)) :
    Calls Tryd.prog 5 #[.slice a n c] w fun e w' => e = .returned (.bool true) ∧ Keeps w w' := by
  have KK := Keeps.refl w
  by_cases hn1 : n ≤ 30
  rotate_left
  · skip
    go_enter Tryd.func5, Tryd.ntmps5
    go_wp2_with fail
    refine (awake_any _ hT).mono ?_
    rintro e W1 ⟨rfl, K⟩
    replace hT := hT.keep K
    replace hf := hf.keep K
    replace KK := KK.trans K
    clear K
    go_wp2_with fail
    refine (few_no _ _ _ _ hn1).mono ?_
    rintro e W2 ⟨rfl, rfl⟩
    go_wp2_with fail
    refine (awake_any _ hT).mono ?_
    rintro e W3 ⟨rfl, K⟩
    replace hT := hT.keep K
    replace hf := hf.keep K
    replace KK := KK.trans K
    clear K
    go_wp2_with fail
    go_ret
    exact ⟨rfl, KK⟩
  have e1 := fun a n c W t h hn => dominated_any a n c f W t h hn (fun hv => valid_small hv)
  have e2 := fun a n c W h => rDominated_any a n c f W h
  have e3 := fun a n c W h hn => coterie_any a n c f W h hn
  have e4 := fun a n c W h => rCoterie_any a n c f W h
  rw [domErr_eq] at e2
  rw [rcotS_eq] at e4
  generalize domErr f = r at *
  generalize cotS f = q at *
  obtain ⟨x, z⟩ := r
  unfold RetB at e2
  simp only at e1 e2
  have E1 := Lib.hid e1; have E2 := Lib.hid e2; have E3 := Lib.hid e3; have E4 := Lib.hid e4
  clear e1 e2 e3 e4
  have hxx : (x == x) = true := by simp
  have hqq : (q == q) = true := by simp
  have hzz : (z == z) = true := by simp
  go_enter Tryd.func5, Tryd.ntmps5
  go_wp2_with fail
  refine (awake_any _ hT).mono ?_
  rintro e W1 ⟨rfl, K⟩
  replace hT := hT.keep K
  replace hf := hf.keep K
  replace KK := KK.trans K
  clear K
  go_wp2_with fail
  refine (few_yes _ _ _ _ hn1).mono ?_
  rintro e W2 ⟨rfl, rfl⟩
  go_wp2_with fail
  refine (cloneS_any _ _ _ (sl f) _ hf (sl_oneCell _) (by omega)).mono ?_
  rintro e W3 ⟨v, rfl, ho, K⟩
  obtain ⟨a_h1, c_h1, rfl, h1⟩ := own_rd ho
  clear ho
  replace hT := hT.keep K
  replace hf := hf.keep K
  replace KK := KK.trans K
  clear K
  go_wp2_with fail
  refine (E1.out _ _ _ _ hT h1 (by omega)).mono ?_
  rintro e W4 ⟨rfl, K⟩
  replace hT := hT.keep K
  replace hf := hf.keep K
  replace h1 := h1.keep K
  replace KK := KK.trans K
  clear K
  go_wp2_with fail
  refine (E2.out _ _ _ _ hf).mono ?_
  rintro e W5 ⟨rfl, K⟩
  replace hT := hT.keep K
  replace hf := hf.keep K
  replace h1 := h1.keep K
  replace KK := KK.trans K
  clear K
  go_wp2_with fail
  refine (cloneS_any _ _ _ (sl f) _ hf (sl_oneCell _) (by omega)).mono ?_
  rintro e W6 ⟨v, rfl, ho, K⟩
  obtain ⟨a_h2, c_h2, rfl, h2⟩ := own_rd ho
  clear ho
  replace hT := hT.keep K
  replace hf := hf.keep K
  replace h1 := h1.keep K
  replace KK := KK.trans K
  clear K
  go_wp2_with fail
  refine (E3.out _ _ _ _ h2 (by omega)).mono ?_
  rintro e W7 ⟨rfl, K⟩
  replace hT := hT.keep K
  replace hf := hf.keep K
  replace h1 := h1.keep K
  replace h2 := h2.keep K
  replace KK := KK.trans K
  clear K
  go_wp2_with fail
  refine (E4.out _ _ _ _ hf).mono ?_
  rintro e W8 ⟨rfl, K⟩
  replace hT := hT.keep K
  replace hf := hf.keep K
  replace h1 := h1.keep K
  replace h2 := h2.keep K
  replace KK := KK.trans K
  clear K
  go_wp2_with fail
  go_ret
  exact ⟨rfl, KK⟩

set_option maxRecDepth 20000 in
set_option maxHeartbeats 1600000 in
theorem TransversalDual_any (a : Option Addr) (n c : Nat) (l : List B8) (a2 : Option Addr) (n2 c2 : Nat) (m : List B8) (w : World) (hT : Tab w) (hl : Rd w a n c 1 (bl l)) (hm : Rd w a2 n2 c2 1 (bl m)) :
    Calls Tryd.prog 7 #[.slice a n c, .slice a2 n2 c2] w fun e w' => e = .returned (.bool true) ∧ Keeps w w' := by
  have KK := Keeps.refl w
  have hmf := fun W => made_any a n c l W
  have q1f := made_fam l
  have q2f := made_low l
  have lenf := made_len l
  generalize madeS l = f at *
  have HMf := Lib.hid hmf; have FAf := Lib.hid q1f; have LOf := Lib.hid q2f
  clear hmf q1f q2f
  have hmg := fun W => made_any a2 n2 c2 m W
  have q1g := made_fam m
  have q2g := made_low m
  have leng := made_len m
  generalize madeS m = g at *
  have HMg := Lib.hid hmg; have FAg := Lib.hid q1g; have LOg := Lib.hid q2g
  clear hmg q1g q2g
  have e1 := fun a n c W t h => dualL FAf.out LOf.out a n c W t h
  have e2 := fun a n c W h => rDual_any a n c f W h
  rw [rdual_eq, dualErr_ok FAf.out LOf.out] at e2
  unfold RetS at e2
  simp only at e2
  have e3 := fun a n c W t h => dualL (fam_D LOf.out) (low_D LOf.out) a n c W t h
  rw [DD FAf.out] at e3
  have e4 := fun a n c a2 n2 c2 W t h h2 => isDual_any a n c f a2 n2 c2 (D f) W t h h2 (fun hv => valid_small hv)
  rw [dualErr_ok FAf.out LOf.out] at e4
  have e5 := fun a n c a2 n2 c2 W t h h2 => isDual_any a n c f a2 n2 c2 g W t h h2 (fun hv => valid_small hv)
  have e6 := fun a n c a2 n2 c2 W h h2 => rIsDual_any a n c f a2 n2 c2 g W h h2
  unfold risDual at e6
  rw [rdual_eq] at e6
  have ee : eqS (D f) (D f) = true := by rw [eqS_iff]; simp
  simp only [ee] at e4
  have lenD := low_len (low_D LOf.out) (D_asc (small_sup LOf.out.small))
  generalize D f = d at *
  generalize ((dualErr f).2 == 0 && eqS (dualErr f).1 g) = q at *
  have e7 := fun a n c a2 n2 c2 W h h2 => rSame_any a n c d a2 n2 c2 d W h h2
  have e8 := fun a n c a2 n2 c2 W h h2 => rSame_any a n c f a2 n2 c2 f W h h2
  have eef : eqS f f = true := by rw [eqS_iff]; simp
  rw [ee] at e7
  rw [eef] at e8
  have E1 := Lib.hid e1; have E2 := Lib.hid e2; have E3 := Lib.hid e3; have E4 := Lib.hid e4; have E5 := Lib.hid e5; have E6 := Lib.hid e6; have E7 := Lib.hid e7; have E8 := Lib.hid e8
  clear e1 e2 e3 e4 e5 e6 e7 e8 ee eef
  have hqq : (q == q) = true := by simp
  go_enter Tryd.func7, Tryd.ntmps7
  go_wp2_with fail
  refine (HMf.out _ hl).mono ?_
  rintro e W1 ⟨v, rfl, hO⟩
  obtain ⟨a_hf, c_hf, rfl, hf⟩ := hO.rd
  have K := hO.2
  clear hO
  replace hT := hT.keep K
  replace hl := hl.keep K
  replace hm := hm.keep K
  replace KK := KK.trans K
  clear K
  go_wp2_with fail
  refine (HMg.out _ hm).mono ?_
  rintro e W2 ⟨v, rfl, hO⟩
  obtain ⟨a_hg, c_hg, rfl, hg⟩ := hO.rd
  have K := hO.2
  clear hO
  replace hT := hT.keep K
  replace hl := hl.keep K
  replace hm := hm.keep K
  replace hf := hf.keep K
  replace KK := KK.trans K
  clear K
  go_wp2_with fail
  refine (awake_any _ hT).mono ?_
  rintro e W3 ⟨rfl, K⟩
  replace hT := hT.keep K
  replace hl := hl.keep K
  replace hm := hm.keep K
  replace hf := hf.keep K
  replace hg := hg.keep K
  replace KK := KK.trans K
  clear K
  go_wp2_with fail
  refine (cloneS_any _ _ _ (sl f) _ hf (sl_oneCell _) (by omega)).mono ?_
  rintro e W4 ⟨v, rfl, ho, K⟩
  obtain ⟨a_h1, c_h1, rfl, h1⟩ := own_rd ho
  clear ho
  replace hT := hT.keep K
  replace hl := hl.keep K
  replace hm := hm.keep K
  replace hf := hf.keep K
  replace hg := hg.keep K
  replace KK := KK.trans K
  clear K
  go_wp2_with fail
  refine (E1.out _ _ _ _ hT h1).mono ?_
  rintro e W5 ⟨v, rfl, hO⟩
  obtain ⟨a_hd, c_hd, rfl, hd⟩ := hO.rd
  have K := hO.2
  clear hO
  replace hT := hT.keep K
  replace hl := hl.keep K
  replace hm := hm.keep K
  replace hf := hf.keep K
  replace hg := hg.keep K
  replace h1 := h1.keep K
  replace KK := KK.trans K
  clear K
  go_wp2_with fail
  refine (E2.out _ _ _ _ hf).mono ?_
  rintro e W6 ⟨v, rfl, hO⟩
  obtain ⟨a_hw, c_hw, rfl, hw⟩ := hO.rd
  have K := hO.2
  clear hO
  replace hT := hT.keep K
  replace hl := hl.keep K
  replace hm := hm.keep K
  replace hf := hf.keep K
  replace hg := hg.keep K
  replace h1 := h1.keep K
  replace hd := hd.keep K
  replace KK := KK.trans K
  clear K
  go_wp2_with fail
  refine (cloneS_any _ _ _ (sl d) _ hd (sl_oneCell _) (by omega)).mono ?_
  rintro e W7 ⟨v, rfl, ho, K⟩
  obtain ⟨a_h2, c_h2, rfl, h2⟩ := own_rd ho
  clear ho
  replace hT := hT.keep K
  replace hl := hl.keep K
  replace hm := hm.keep K
  replace hf := hf.keep K
  replace hg := hg.keep K
  replace h1 := h1.keep K
  replace hd := hd.keep K
  replace hw := hw.keep K
  replace KK := KK.trans K
  clear K
  go_wp2_with fail
  refine (E3.out _ _ _ _ hT h2).mono ?_
  rintro e W8 ⟨v, rfl, hO⟩
  obtain ⟨a_hk, c_hk, rfl, hk⟩ := hO.rd
  have K := hO.2
  clear hO
  replace hT := hT.keep K
  replace hl := hl.keep K
  replace hm := hm.keep K
  replace hf := hf.keep K
  replace hg := hg.keep K
  replace h1 := h1.keep K
  replace hd := hd.keep K
  replace hw := hw.keep K
  replace h2 := h2.keep K
  replace KK := KK.trans K
  clear K
  go_wp2_with fail
  refine (E7.out _ _ _ _ _ _ _ hd hw).mono ?_
  rintro e W9 ⟨rfl, K⟩
  replace hT := hT.keep K
  replace hl := hl.keep K
  replace hm := hm.keep K
  replace hf := hf.keep K
  replace hg := hg.keep K
  replace h1 := h1.keep K
  replace hd := hd.keep K
  replace hw := hw.keep K
  replace h2 := h2.keep K
  replace hk := hk.keep K
  replace KK := KK.trans K
  clear K
  go_wp2_with fail
  refine (cloneS_any _ _ _ (sl f) _ hf (sl_oneCell _) (by omega)).mono ?_
  rintro e W10 ⟨v, rfl, ho, K⟩
  obtain ⟨a_h3, c_h3, rfl, h3⟩ := own_rd ho
  clear ho
  replace hT := hT.keep K
  replace hl := hl.keep K
  replace hm := hm.keep K
  replace hf := hf.keep K
  replace hg := hg.keep K
  replace h1 := h1.keep K
  replace hd := hd.keep K
  replace hw := hw.keep K
  replace h2 := h2.keep K
  replace hk := hk.keep K
  replace KK := KK.trans K
  clear K
  go_wp2_with fail
  refine (E4.out _ _ _ _ _ _ _ hT h3 hd).mono ?_
  rintro e W11 ⟨he, K⟩
  simp only [beq_self_eq_true, Bool.and_self] at he
  subst he
  replace hT := hT.keep K
  replace hl := hl.keep K
  replace hm := hm.keep K
  replace hf := hf.keep K
  replace hg := hg.keep K
  replace h1 := h1.keep K
  replace hd := hd.keep K
  replace hw := hw.keep K
  replace h2 := h2.keep K
  replace hk := hk.keep K
  replace h3 := h3.keep K
  replace KK := KK.trans K
  clear K
  go_wp2_with fail
  refine (E8.out _ _ _ _ _ _ _ hk hf).mono ?_
  rintro e W12 ⟨rfl, K⟩
  replace hT := hT.keep K
  replace hl := hl.keep K
  replace hm := hm.keep K
  replace hf := hf.keep K
  replace hg := hg.keep K
  replace h1 := h1.keep K
  replace hd := hd.keep K
  replace hw := hw.keep K
  replace h2 := h2.keep K
  replace hk := hk.keep K
  replace h3 := h3.keep K
  replace KK := KK.trans K
  clear K
  go_wp2_with fail
  refine (cloneS_any _ _ _ (sl f) _ hf (sl_oneCell _) (by omega)).mono ?_
  rintro e W13 ⟨v, rfl, ho, K⟩
  obtain ⟨a_h4, c_h4, rfl, h4⟩ := own_rd ho
  clear ho
  replace hT := hT.keep K
  replace hl := hl.keep K
  replace hm := hm.keep K
  replace hf := hf.keep K
  replace hg := hg.keep K
  replace h1 := h1.keep K
  replace hd := hd.keep K
  replace hw := hw.keep K
  replace h2 := h2.keep K
  replace hk := hk.keep K
  replace h3 := h3.keep K
  replace KK := KK.trans K
  clear K
  go_wp2_with fail
  refine (cloneS_any _ _ _ (sl g) _ hg (sl_oneCell _) (by omega)).mono ?_
  rintro e W14 ⟨v, rfl, ho, K⟩
  obtain ⟨a_h5, c_h5, rfl, h5⟩ := own_rd ho
  clear ho
  replace hT := hT.keep K
  replace hl := hl.keep K
  replace hm := hm.keep K
  replace hf := hf.keep K
  replace hg := hg.keep K
  replace h1 := h1.keep K
  replace hd := hd.keep K
  replace hw := hw.keep K
  replace h2 := h2.keep K
  replace hk := hk.keep K
  replace h3 := h3.keep K
  replace h4 := h4.keep K
  replace KK := KK.trans K
  clear K
  go_wp2_with fail
  refine (E5.out _ _ _ _ _ _ _ hT h4 h5).mono ?_
  rintro e W15 ⟨rfl, K⟩
  replace hT := hT.keep K
  replace hl := hl.keep K
  replace hm := hm.keep K
  replace hf := hf.keep K
  replace hg := hg.keep K
  replace h1 := h1.keep K
  replace hd := hd.keep K
  replace hw := hw.keep K
  replace h2 := h2.keep K
  replace hk := hk.keep K
  replace h3 := h3.keep K
  replace h4 := h4.keep K
  replace h5 := h5.keep K
  replace KK := KK.trans K
  clear K
  go_wp2_with fail
  refine (E6.out _ _ _ _ _ _ _ hf hg).mono ?_
  rintro e W16 ⟨rfl, K⟩
  replace hT := hT.keep K
  replace hl := hl.keep K
  replace hm := hm.keep K
  replace hf := hf.keep K
  replace hg := hg.keep K
  replace h1 := h1.keep K
  replace hd := hd.keep K
  replace hw := hw.keep K
  replace h2 := h2.keep K
  replace hk := hk.keep K
  replace h3 := h3.keep K
  replace h4 := h4.keep K
  replace h5 := h5.keep K
  replace KK := KK.trans K
  clear K
  go_wp2_with fail
  go_ret
  exact ⟨rfl, KK⟩
end Go.Proofs.YteaehcaokcbehaaDoor
