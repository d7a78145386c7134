/- The walks of the statements of the layer dissemination: each answers true and keeps what lay there. -/
import Derived.Test.YtnkknjpnkobplaaAwake21
namespace Go.Proofs.Ytnkknjpnkobplaa
open Go.RowKit Go.Lib Go.Shelf

theorem few_yes (a : Option Addr) (n c : Nat) (w : World) (h : n ≤ 20) : Calls Try.prog 11 #[.slice a n c] w fun e w' => e = .returned (.bool true) ∧ w = w' :=
  (few_any a n c w).mono fun e w' ⟨he, hw⟩ => ⟨by rw [he, decide_eq_true (by omega)], hw⟩
theorem few_no (a : Option Addr) (n c : Nat) (w : World) (h : ¬ n ≤ 20) : Calls Try.prog 11 #[.slice a n c] w fun e w' => e = .returned (.bool false) ∧ w = w' :=
  (few_any a n c w).mono fun e w' ⟨he, hw⟩ => ⟨by rw [he, decide_eq_false (by omega)], hw⟩

/-- masking implies dissemination -/
theorem ml_none {x y p : S} {l : List S} (h : ml x y p l = none) : ∀ z ∈ l, (x &&& y &&& ~~~(p ||| z) == 0#16) = false := by
  induction l with
  | nil => simp
  | cons a t ih =>
    unfold ml at h
    split at h
    · cases h
    · rename_i hn
      intro z hz
      rcases List.mem_cons.1 hz with rfl | hz
      · simpa using hn
      · exact ih h z hz
theorem mk_none {x y : S} {l : List S} (h : mk x y l = none) : ∀ p ∈ l, (x &&& y &&& ~~~p == 0#16) = false := by
  induction l with
  | nil => simp
  | cons a t ih =>
    unfold mk at h
    split at h
    · cases h
    · rename_i hn
      intro z hz
      rcases List.mem_cons.1 hz with rfl | hz
      · have := ml_none hn z (by simp)
        rwa [BitVec.or_self] at this
      · exact ih h z hz
theorem fk_none {x y : S} {l : List S} (h : ∀ p ∈ l, (x &&& y &&& ~~~p == 0#16) = false) : fk x y l = none := by
  induction l with
  | nil => rfl
  | cons a t ih =>
    unfold fk
    rw [h a (by simp)]
    simp only [Bool.false_eq_true, if_false]
    exact ih fun p hp => h p (List.mem_cons_of_mem _ hp)
theorem mj_none {x : S} {b l : List S} (h : mj x b l = none) : fj x b l = none := by
  induction l with
  | nil => rfl
  | cons a t ih =>
    unfold mj at h
    split at h
    · cases h
    · rename_i hn
      unfold fj
      rw [fk_none (mk_none hn)]
      exact ih h
theorem mi_none {b l : List S} (h : mi b l = none) : fi b l = none := by
  induction l with
  | nil => rfl
  | cons a t ih =>
    unfold mi at h
    split at h
    · cases h
    · rename_i hn
      unfold fi
      rw [mj_none hn]
      exact ih h
theorem mask_imp (b f : List S) (h : maskOK b f = true) : disOK b f = true := by
  unfold maskOK at h; unfold disOK
  rw [Option.isNone_iff_eq_none] at *
  exact mi_none h

set_option maxHeartbeats 800000 in
theorem DisseminationPairs_any (a1 : Option Addr) (n1 c1 : Nat) (a2 : Option Addr) (n2 c2 : Nat) (f b : List S) (w : World) (hf : Rd w a1 n1 c1 1 (sl f)) (hb : Rd w a2 n2 c2 1 (sl b)) :
    Calls Try.prog 3 #[.slice a1 n1 c1, .slice a2 n2 c2] w fun e w' => e = .returned (.bool true) ∧ Keeps w w' := by
  have KK := Keeps.refl w
  by_cases hn1 : n1 ≤ 20
  rotate_left
  · skip
    go_enter Try.func3, Try.ntmps3
    go_wp2_with fail
    refine (awake_any _).mono ?_
    rintro e W1 ⟨rfl, K⟩
    replace hf := hf.keep K
    replace hb := hb.keep K
    replace KK := KK.trans K
    clear K
    go_wp2_with fail
    refine (few_no _ _ _ _ hn1).mono ?_
    rintro e W2 ⟨rfl, rfl⟩
    go_wp2_with fail
    refine (awake_any _).mono ?_
    rintro e W3 ⟨rfl, K⟩
    replace hf := hf.keep K
    replace hb := hb.keep K
    replace KK := KK.trans K
    clear K
    go_wp2_with fail
    go_ret
    exact ⟨rfl, KK⟩
  by_cases hn2 : n2 ≤ 20
  rotate_left
  · skip
    go_enter Try.func3, Try.ntmps3
    go_wp2_with fail
    refine (awake_any _).mono ?_
    rintro e W1 ⟨rfl, K⟩
    replace hf := hf.keep K
    replace hb := hb.keep K
    replace KK := KK.trans K
    clear K
    go_wp2_with fail
    refine (few_yes _ _ _ _ hn1).mono ?_
    rintro e W2 ⟨rfl, rfl⟩
    go_wp2_with fail
    refine (few_no _ _ _ _ hn2).mono ?_
    rintro e W3 ⟨rfl, rfl⟩
    go_wp2_with fail
    refine (awake_any _).mono ?_
    rintro e W4 ⟨rfl, K⟩
    replace hf := hf.keep K
    replace hb := hb.keep K
    replace KK := KK.trans K
    clear K
    go_wp2_with fail
    go_ret
    exact ⟨rfl, KK⟩
  have hok : disOK b f = (fi b f).isNone := rfl
  have HOK := Lib.hid hok; clear hok
  have hbad := Lib.hid fun a1 n1 c1 a2 n2 c2 w h1 h2 => badDis_any a1 n1 c1 a2 n2 c2 f b w h1 h2
  have hrbad := Lib.hid fun a1 n1 c1 a2 n2 c2 w h1 h2 => refBadDis_any a1 n1 c1 a2 n2 c2 f b w h1 h2
  have hdis := Lib.hid fun a1 n1 c1 a2 n2 c2 w h1 h2 => dis_any a1 n1 c1 a2 n2 c2 f b w h1 h2
  generalize fi b f = r at hbad hrbad HOK
  generalize disOK b f = q at hdis HOK
  obtain rfl := HOK.out
  cases r with
  | none =>
    go_enter Try.func3, Try.ntmps3
    go_wp2_with fail
    refine (awake_any _).mono ?_
    rintro e W1 ⟨rfl, K⟩
    replace hf := hf.keep K
    replace hb := hb.keep K
    replace KK := KK.trans K
    clear K
    go_wp2_with fail
    refine (few_yes _ _ _ _ hn1).mono ?_
    rintro e W2 ⟨rfl, rfl⟩
    go_wp2_with fail
    refine (few_yes _ _ _ _ hn2).mono ?_
    rintro e W3 ⟨rfl, rfl⟩
    go_wp2_with fail
    refine (cloneS_any _ _ _ (sl f) _ hf (sl_oneCell _) (by omega)).mono ?_
    rintro e W4 ⟨v, rfl, ho, K⟩
    obtain ⟨a_h3, c_h3, rfl, h3⟩ := own_rd ho
    clear ho
    replace hf := hf.keep K
    replace hb := hb.keep K
    replace KK := KK.trans K
    clear K
    go_wp2_with fail
    refine (cloneS_any _ _ _ (sl b) _ hb (sl_oneCell _) (by omega)).mono ?_
    rintro e W5 ⟨v, rfl, ho, K⟩
    obtain ⟨a_h4, c_h4, rfl, h4⟩ := own_rd ho
    clear ho
    replace hf := hf.keep K
    replace hb := hb.keep K
    replace h3 := h3.keep K
    replace KK := KK.trans K
    clear K
    go_wp2_with fail
    refine (hbad.out _ _ _ _ _ _ _ h3 h4).mono ?_
    rintro e W6 ⟨rfl, hw⟩
    subst hw
    unfold resD
    go_wp2_with fail
    refine (hrbad.out _ _ _ _ _ _ _ hf hb).mono ?_
    rintro e W7 ⟨rfl, K⟩
    unfold resD
    replace hf := hf.keep K
    replace hb := hb.keep K
    replace h3 := h3.keep K
    replace h4 := h4.keep K
    replace KK := KK.trans K
    clear K
    go_wp2_with fail
    refine (cloneS_any _ _ _ (sl f) _ hf (sl_oneCell _) (by omega)).mono ?_
    rintro e W8 ⟨v, rfl, ho, K⟩
    obtain ⟨a_h5, c_h5, rfl, h5⟩ := own_rd ho
    clear ho
    replace hf := hf.keep K
    replace hb := hb.keep K
    replace h3 := h3.keep K
    replace h4 := h4.keep K
    replace KK := KK.trans K
    clear K
    go_wp2_with fail
    refine (cloneS_any _ _ _ (sl b) _ hb (sl_oneCell _) (by omega)).mono ?_
    rintro e W9 ⟨v, rfl, ho, K⟩
    obtain ⟨a_h6, c_h6, rfl, h6⟩ := own_rd ho
    clear ho
    replace hf := hf.keep K
    replace hb := hb.keep K
    replace h3 := h3.keep K
    replace h4 := h4.keep K
    replace h5 := h5.keep K
    replace KK := KK.trans K
    clear K
    go_wp2_with fail
    refine (hdis.out _ _ _ _ _ _ _ h5 h6).mono ?_
    rintro e W10 ⟨rfl, rfl⟩
    go_wp2_with fail
    go_ret
    exact ⟨rfl, KK⟩
  | some q =>
    obtain ⟨x, y, z⟩ := q
    go_enter Try.func3, Try.ntmps3
    go_wp2_with fail
    refine (awake_any _).mono ?_
    rintro e W1 ⟨rfl, K⟩
    replace hf := hf.keep K
    replace hb := hb.keep K
    replace KK := KK.trans K
    clear K
    go_wp2_with fail
    refine (few_yes _ _ _ _ hn1).mono ?_
    rintro e W2 ⟨rfl, rfl⟩
    go_wp2_with fail
    refine (few_yes _ _ _ _ hn2).mono ?_
    rintro e W3 ⟨rfl, rfl⟩
    go_wp2_with fail
    refine (cloneS_any _ _ _ (sl f) _ hf (sl_oneCell _) (by omega)).mono ?_
    rintro e W4 ⟨v, rfl, ho, K⟩
    obtain ⟨a_h3, c_h3, rfl, h3⟩ := own_rd ho
    clear ho
    replace hf := hf.keep K
    replace hb := hb.keep K
    replace KK := KK.trans K
    clear K
    go_wp2_with fail
    refine (cloneS_any _ _ _ (sl b) _ hb (sl_oneCell _) (by omega)).mono ?_
    rintro e W5 ⟨v, rfl, ho, K⟩
    obtain ⟨a_h4, c_h4, rfl, h4⟩ := own_rd ho
    clear ho
    replace hf := hf.keep K
    replace hb := hb.keep K
    replace h3 := h3.keep K
    replace KK := KK.trans K
    clear K
    go_wp2_with fail
    refine (hbad.out _ _ _ _ _ _ _ h3 h4).mono ?_
    rintro e W6 ⟨rfl, hw⟩
    subst hw
    unfold resD
    go_wp2_with fail
    refine (hrbad.out _ _ _ _ _ _ _ hf hb).mono ?_
    rintro e W7 ⟨rfl, K⟩
    unfold resD
    replace hf := hf.keep K
    replace hb := hb.keep K
    replace h3 := h3.keep K
    replace h4 := h4.keep K
    replace KK := KK.trans K
    clear K
    go_wp2_with fail
    refine (cloneS_any _ _ _ (sl f) _ hf (sl_oneCell _) (by omega)).mono ?_
    rintro e W8 ⟨v, rfl, ho, K⟩
    obtain ⟨a_h5, c_h5, rfl, h5⟩ := own_rd ho
    clear ho
    replace hf := hf.keep K
    replace hb := hb.keep K
    replace h3 := h3.keep K
    replace h4 := h4.keep K
    replace KK := KK.trans K
    clear K
    go_wp2_with fail
    refine (cloneS_any _ _ _ (sl b) _ hb (sl_oneCell _) (by omega)).mono ?_
    rintro e W9 ⟨v, rfl, ho, K⟩
    obtain ⟨a_h6, c_h6, rfl, h6⟩ := own_rd ho
    clear ho
    replace hf := hf.keep K
    replace hb := hb.keep K
    replace h3 := h3.keep K
    replace h4 := h4.keep K
    replace h5 := h5.keep K
    replace KK := KK.trans K
    clear K
    go_wp2_with fail
    refine (hdis.out _ _ _ _ _ _ _ h5 h6).mono ?_
    rintro e W10 ⟨rfl, rfl⟩
    go_wp2_with fail
    go_ret
    exact ⟨rfl, KK⟩

set_option maxHeartbeats 800000 in
theorem DisseminationMasking_any (a1 : Option Addr) (n1 c1 : Nat) (a2 : Option Addr) (n2 c2 : Nat) (f b : List S) (w : World) (hf : Rd w a1 n1 c1 1 (sl f)) (hb : Rd w a2 n2 c2 1 (sl b)) :
    Calls Try.prog 4 #[.slice a1 n1 c1, .slice a2 n2 c2] w fun e w' => e = .returned (.bool true) ∧ Keeps w w' := by
  have KK := Keeps.refl w
  by_cases hn1 : n1 ≤ 20
  rotate_left
  · skip
    go_enter Try.func4, Try.ntmps4
    go_wp2_with fail
    refine (awake_any _).mono ?_
    rintro e W1 ⟨rfl, K⟩
    replace hf := hf.keep K
    replace hb := hb.keep K
    replace KK := KK.trans K
    clear K
    go_wp2_with fail
    refine (few_no _ _ _ _ hn1).mono ?_
    rintro e W2 ⟨rfl, rfl⟩
    go_wp2_with fail
    refine (awake_any _).mono ?_
    rintro e W3 ⟨rfl, K⟩
    replace hf := hf.keep K
    replace hb := hb.keep K
    replace KK := KK.trans K
    clear K
    go_wp2_with fail
    go_ret
    exact ⟨rfl, KK⟩
  by_cases hn2 : n2 ≤ 20
  rotate_left
  · skip
    go_enter Try.func4, Try.ntmps4
    go_wp2_with fail
    refine (awake_any _).mono ?_
    rintro e W1 ⟨rfl, K⟩
    replace hf := hf.keep K
    replace hb := hb.keep K
    replace KK := KK.trans K
    clear K
    go_wp2_with fail
    refine (few_yes _ _ _ _ hn1).mono ?_
    rintro e W2 ⟨rfl, rfl⟩
    go_wp2_with fail
    refine (few_no _ _ _ _ hn2).mono ?_
    rintro e W3 ⟨rfl, rfl⟩
    go_wp2_with fail
    refine (awake_any _).mono ?_
    rintro e W4 ⟨rfl, K⟩
    replace hf := hf.keep K
    replace hb := hb.keep K
    replace KK := KK.trans K
    clear K
    go_wp2_with fail
    go_ret
    exact ⟨rfl, KK⟩
  have himp := Lib.hid (mask_imp b f)
  have hok : maskOK b f = (mi b f).isNone := rfl
  have HOK := Lib.hid hok; clear hok
  have hbad := Lib.hid fun a1 n1 c1 a2 n2 c2 w h1 h2 => badMask_any a1 n1 c1 a2 n2 c2 f b w h1 h2
  have hrbad := Lib.hid fun a1 n1 c1 a2 n2 c2 w h1 h2 => refBadMask_any a1 n1 c1 a2 n2 c2 f b w h1 h2
  have hmask := Lib.hid fun a1 n1 c1 a2 n2 c2 w h1 h2 => mask_any a1 n1 c1 a2 n2 c2 f b w h1 h2
  generalize mi b f = r at hbad hrbad HOK
  generalize maskOK b f = q at hmask HOK himp
  obtain rfl := HOK.out
  cases r with
  | none =>
    go_enter Try.func4, Try.ntmps4
    go_wp2_with fail
    refine (awake_any _).mono ?_
    rintro e W1 ⟨rfl, K⟩
    replace hf := hf.keep K
    replace hb := hb.keep K
    replace KK := KK.trans K
    clear K
    go_wp2_with fail
    refine (few_yes _ _ _ _ hn1).mono ?_
    rintro e W2 ⟨rfl, rfl⟩
    go_wp2_with fail
    refine (few_yes _ _ _ _ hn2).mono ?_
    rintro e W3 ⟨rfl, rfl⟩
    go_wp2_with fail
    refine (cloneS_any _ _ _ (sl f) _ hf (sl_oneCell _) (by omega)).mono ?_
    rintro e W4 ⟨v, rfl, ho, K⟩
    obtain ⟨a_h3, c_h3, rfl, h3⟩ := own_rd ho
    clear ho
    replace hf := hf.keep K
    replace hb := hb.keep K
    replace KK := KK.trans K
    clear K
    go_wp2_with fail
    refine (cloneS_any _ _ _ (sl b) _ hb (sl_oneCell _) (by omega)).mono ?_
    rintro e W5 ⟨v, rfl, ho, K⟩
    obtain ⟨a_h4, c_h4, rfl, h4⟩ := own_rd ho
    clear ho
    replace hf := hf.keep K
    replace hb := hb.keep K
    replace h3 := h3.keep K
    replace KK := KK.trans K
    clear K
    go_wp2_with fail
    refine (hbad.out _ _ _ _ _ _ _ h3 h4).mono ?_
    rintro e W6 ⟨rfl, hw⟩
    subst hw
    unfold resM
    go_wp2_with fail
    refine (hrbad.out _ _ _ _ _ _ _ hf hb).mono ?_
    rintro e W7 ⟨rfl, K⟩
    unfold resM
    replace hf := hf.keep K
    replace hb := hb.keep K
    replace h3 := h3.keep K
    replace h4 := h4.keep K
    replace KK := KK.trans K
    clear K
    go_wp2_with fail
    refine (cloneS_any _ _ _ (sl f) _ hf (sl_oneCell _) (by omega)).mono ?_
    rintro e W8 ⟨v, rfl, ho, K⟩
    obtain ⟨a_h5, c_h5, rfl, h5⟩ := own_rd ho
    clear ho
    replace hf := hf.keep K
    replace hb := hb.keep K
    replace h3 := h3.keep K
    replace h4 := h4.keep K
    replace KK := KK.trans K
    clear K
    go_wp2_with fail
    refine (cloneS_any _ _ _ (sl b) _ hb (sl_oneCell _) (by omega)).mono ?_
    rintro e W9 ⟨v, rfl, ho, K⟩
    obtain ⟨a_h6, c_h6, rfl, h6⟩ := own_rd ho
    clear ho
    replace hf := hf.keep K
    replace hb := hb.keep K
    replace h3 := h3.keep K
    replace h4 := h4.keep K
    replace h5 := h5.keep K
    replace KK := KK.trans K
    clear K
    go_wp2_with fail
    refine (hmask.out _ _ _ _ _ _ _ h5 h6).mono ?_
    rintro e W10 ⟨rfl, rfl⟩
    simp only [Option.isNone_none]
    go_wp2_with fail
    refine (cloneS_any _ _ _ (sl f) _ hf (sl_oneCell _) (by omega)).mono ?_
    rintro e W11 ⟨v, rfl, ho, K⟩
    obtain ⟨a_h7, c_h7, rfl, h7⟩ := own_rd ho
    clear ho
    replace hf := hf.keep K
    replace hb := hb.keep K
    replace h3 := h3.keep K
    replace h4 := h4.keep K
    replace h5 := h5.keep K
    replace h6 := h6.keep K
    replace KK := KK.trans K
    clear K
    go_wp2_with fail
    refine (cloneS_any _ _ _ (sl b) _ hb (sl_oneCell _) (by omega)).mono ?_
    rintro e W12 ⟨v, rfl, ho, K⟩
    obtain ⟨a_h8, c_h8, rfl, h8⟩ := own_rd ho
    clear ho
    replace hf := hf.keep K
    replace hb := hb.keep K
    replace h3 := h3.keep K
    replace h4 := h4.keep K
    replace h5 := h5.keep K
    replace h6 := h6.keep K
    replace h7 := h7.keep K
    replace KK := KK.trans K
    clear K
    go_wp2_with fail
    refine (dis_any _ _ _ _ _ _ f b _ h7 h8).mono ?_
    rintro e W13 ⟨he, rfl⟩
    rw [himp.out rfl] at he
    subst he
    go_wp2_with fail
    go_ret
    exact ⟨rfl, KK⟩
  | some q =>
    obtain ⟨x, y, z, u⟩ := q
    go_enter Try.func4, Try.ntmps4
    go_wp2_with fail
    refine (awake_any _).mono ?_
    rintro e W1 ⟨rfl, K⟩
    replace hf := hf.keep K
    replace hb := hb.keep K
    replace KK := KK.trans K
    clear K
    go_wp2_with fail
    refine (few_yes _ _ _ _ hn1).mono ?_
    rintro e W2 ⟨rfl, rfl⟩
    go_wp2_with fail
    refine (few_yes _ _ _ _ hn2).mono ?_
    rintro e W3 ⟨rfl, rfl⟩
    go_wp2_with fail
    refine (cloneS_any _ _ _ (sl f) _ hf (sl_oneCell _) (by omega)).mono ?_
    rintro e W4 ⟨v, rfl, ho, K⟩
    obtain ⟨a_h3, c_h3, rfl, h3⟩ := own_rd ho
    clear ho
    replace hf := hf.keep K
    replace hb := hb.keep K
    replace KK := KK.trans K
    clear K
    go_wp2_with fail
    refine (cloneS_any _ _ _ (sl b) _ hb (sl_oneCell _) (by omega)).mono ?_
    rintro e W5 ⟨v, rfl, ho, K⟩
    obtain ⟨a_h4, c_h4, rfl, h4⟩ := own_rd ho
    clear ho
    replace hf := hf.keep K
    replace hb := hb.keep K
    replace h3 := h3.keep K
    replace KK := KK.trans K
    clear K
    go_wp2_with fail
    refine (hbad.out _ _ _ _ _ _ _ h3 h4).mono ?_
    rintro e W6 ⟨rfl, hw⟩
    subst hw
    unfold resM
    go_wp2_with fail
    refine (hrbad.out _ _ _ _ _ _ _ hf hb).mono ?_
    rintro e W7 ⟨rfl, K⟩
    unfold resM
    replace hf := hf.keep K
    replace hb := hb.keep K
    replace h3 := h3.keep K
    replace h4 := h4.keep K
    replace KK := KK.trans K
    clear K
    go_wp2_with fail
    refine (cloneS_any _ _ _ (sl f) _ hf (sl_oneCell _) (by omega)).mono ?_
    rintro e W8 ⟨v, rfl, ho, K⟩
    obtain ⟨a_h5, c_h5, rfl, h5⟩ := own_rd ho
    clear ho
    replace hf := hf.keep K
    replace hb := hb.keep K
    replace h3 := h3.keep K
    replace h4 := h4.keep K
    replace KK := KK.trans K
    clear K
    go_wp2_with fail
    refine (cloneS_any _ _ _ (sl b) _ hb (sl_oneCell _) (by omega)).mono ?_
    rintro e W9 ⟨v, rfl, ho, K⟩
    obtain ⟨a_h6, c_h6, rfl, h6⟩ := own_rd ho
    clear ho
    replace hf := hf.keep K
    replace hb := hb.keep K
    replace h3 := h3.keep K
    replace h4 := h4.keep K
    replace h5 := h5.keep K
    replace KK := KK.trans K
    clear K
    go_wp2_with fail
    refine (hmask.out _ _ _ _ _ _ _ h5 h6).mono ?_
    rintro e W10 ⟨rfl, rfl⟩
    simp only [Option.isNone_some]
    go_wp2_with fail
    go_ret
    exact ⟨rfl, KK⟩

set_option maxHeartbeats 800000 in
theorem DisseminationAvailable_any (a1 : Option Addr) (n1 c1 : Nat) (a2 : Option Addr) (n2 c2 : Nat) (f b : List S) (w : World) (hf : Rd w a1 n1 c1 1 (sl f)) (hb : Rd w a2 n2 c2 1 (sl b)) :
    Calls Try.prog 7 #[.slice a1 n1 c1, .slice a2 n2 c2] w fun e w' => e = .returned (.bool true) ∧ Keeps w w' := by
  have KK := Keeps.refl w
  by_cases hn1 : n1 ≤ 20
  rotate_left
  · skip
    go_enter Try.func7, Try.ntmps7
    go_wp2_with fail
    refine (awake_any _).mono ?_
    rintro e W1 ⟨rfl, K⟩
    replace hf := hf.keep K
    replace hb := hb.keep K
    replace KK := KK.trans K
    clear K
    go_wp2_with fail
    refine (few_no _ _ _ _ hn1).mono ?_
    rintro e W2 ⟨rfl, rfl⟩
    go_wp2_with fail
    refine (awake_any _).mono ?_
    rintro e W3 ⟨rfl, K⟩
    replace hf := hf.keep K
    replace hb := hb.keep K
    replace KK := KK.trans K
    clear K
    go_wp2_with fail
    go_ret
    exact ⟨rfl, KK⟩
  by_cases hn2 : n2 ≤ 20
  rotate_left
  · skip
    go_enter Try.func7, Try.ntmps7
    go_wp2_with fail
    refine (awake_any _).mono ?_
    rintro e W1 ⟨rfl, K⟩
    replace hf := hf.keep K
    replace hb := hb.keep K
    replace KK := KK.trans K
    clear K
    go_wp2_with fail
    refine (few_yes _ _ _ _ hn1).mono ?_
    rintro e W2 ⟨rfl, rfl⟩
    go_wp2_with fail
    refine (few_no _ _ _ _ hn2).mono ?_
    rintro e W3 ⟨rfl, rfl⟩
    go_wp2_with fail
    refine (awake_any _).mono ?_
    rintro e W4 ⟨rfl, K⟩
    replace hf := hf.keep K
    replace hb := hb.keep K
    replace KK := KK.trans K
    clear K
    go_wp2_with fail
    go_ret
    exact ⟨rfl, KK⟩
  have h1 := Lib.hid fun a1 n1 c1 a2 n2 c2 w h1 h2 => avail_any a1 n1 c1 a2 n2 c2 f b w h1 h2
  have h2 := Lib.hid fun a1 n1 c1 a2 n2 c2 w h1 h2 => refAvail_any a1 n1 c1 a2 n2 c2 f b w h1 h2
  generalize availS f b = r at h1 h2
  have hrr : (r == r) = true := by simp
  go_enter Try.func7, Try.ntmps7
  go_wp2_with fail
  refine (awake_any _).mono ?_
  rintro e W1 ⟨rfl, K⟩
  replace hf := hf.keep K
  replace hb := hb.keep K
  replace KK := KK.trans K
  clear K
  go_wp2_with fail
  refine (few_yes _ _ _ _ hn1).mono ?_
  rintro e W2 ⟨rfl, rfl⟩
  go_wp2_with fail
  refine (few_yes _ _ _ _ hn2).mono ?_
  rintro e W3 ⟨rfl, rfl⟩
  go_wp2_with fail
  refine (cloneS_any _ _ _ (sl f) _ hf (sl_oneCell _) (by omega)).mono ?_
  rintro e W4 ⟨v, rfl, ho, K⟩
  obtain ⟨a_h3, c_h3, rfl, h3⟩ := own_rd ho
  clear ho
  replace hf := hf.keep K
  replace hb := hb.keep K
  replace KK := KK.trans K
  clear K
  go_wp2_with fail
  refine (cloneS_any _ _ _ (sl b) _ hb (sl_oneCell _) (by omega)).mono ?_
  rintro e W5 ⟨v, rfl, ho, K⟩
  obtain ⟨a_h4, c_h4, rfl, h4⟩ := own_rd ho
  clear ho
  replace hf := hf.keep K
  replace hb := hb.keep K
  replace h3 := h3.keep K
  replace KK := KK.trans K
  clear K
  go_wp2_with fail
  refine (h1.out _ _ _ _ _ _ _ h3 h4).mono ?_
  rintro e W6 ⟨rfl, K⟩
  replace hf := hf.keep K
  replace hb := hb.keep K
  replace h3 := h3.keep K
  replace h4 := h4.keep K
  replace KK := KK.trans K
  clear K
  go_wp2_with fail
  refine (h2.out _ _ _ _ _ _ _ hf hb).mono ?_
  rintro e W7 ⟨rfl, K⟩
  replace hf := hf.keep K
  replace hb := hb.keep K
  replace h3 := h3.keep K
  replace h4 := h4.keep K
  replace KK := KK.trans K
  clear K
  go_wp2_with fail
  go_ret
  exact ⟨rfl, KK⟩

set_option maxHeartbeats 800000 in
theorem DisseminationCover_any (n : Int) (a2 : Option Addr) (n2 c2 : Nat) (k : Int) (b : List S) (w : World) (hb : Rd w a2 n2 c2 1 (sl b)) :
    Calls Try.prog 6 #[.int .i64 n, .slice a2 n2 c2, .int .i64 k] w fun e w' => e = .returned (.bool true) ∧ Keeps w w' := by
  have KK := Keeps.refl w
  by_cases hn2 : n2 ≤ 20
  rotate_left
  · skip
    go_enter Try.func6, Try.ntmps6
    go_wp2_with fail
    refine (awake_any _).mono ?_
    rintro e W1 ⟨rfl, K⟩
    replace hb := hb.keep K
    replace KK := KK.trans K
    clear K
    go_wp2_with fail
    refine (few_no _ _ _ _ hn2).mono ?_
    rintro e W2 ⟨rfl, rfl⟩
    go_wp2_with fail
    refine (awake_any _).mono ?_
    rintro e W3 ⟨rfl, K⟩
    replace hb := hb.keep K
    replace KK := KK.trans K
    clear K
    go_wp2_with fail
    go_ret
    exact ⟨rfl, KK⟩
  have h1 := Lib.hid fun a m c w h hm => Cover_any a m c b w n k h hm
  have h2 := Lib.hid fun a m c w h hm => refCover_any a m c b w n k h hm
  have h3 := Lib.hid fun a m c w h hm => free_any a m c b w n k h hm
  have h4 := Lib.hid fun a m c w h hm => refFree_any a m c b w n k h hm
  generalize covRes n b k = r at h1 h2 h3 h4
  obtain ⟨l, x⟩ := r
  have hxx : (x == x) = true := by simp
  have hqq : ((x == 13) == (x == 13)) = true := by simp
  go_enter Try.func6, Try.ntmps6
  go_wp2_with fail
  refine (awake_any _).mono ?_
  rintro e W1 ⟨rfl, K⟩
  replace hb := hb.keep K
  replace KK := KK.trans K
  clear K
  go_wp2_with fail
  refine (few_yes _ _ _ _ hn2).mono ?_
  rintro e W2 ⟨rfl, rfl⟩
  go_wp2_with fail
  refine (cloneS_any _ _ _ (sl b) _ hb (sl_oneCell _) (by omega)).mono ?_
  rintro e W3 ⟨v, rfl, ho, K⟩
  obtain ⟨a_h5, c_h5, rfl, h5⟩ := own_rd ho
  clear ho
  replace hb := hb.keep K
  replace KK := KK.trans K
  clear K
  go_wp2_with fail
  refine (h1.out _ _ _ _ h5 (by omega)).mono ?_
  rintro e W4 ⟨v, rfl, hO⟩
  obtain ⟨a_h6, c_h6, rfl, h6⟩ := hO.rd
  have K := hO.2
  clear hO
  replace hb := hb.keep K
  replace h5 := h5.keep K
  replace KK := KK.trans K
  clear K
  go_wp2_with fail
  refine (h2.out _ _ _ _ hb (by omega)).mono ?_
  rintro e W5 ⟨v, rfl, hO⟩
  obtain ⟨a_h7, c_h7, rfl, h7⟩ := hO.rd
  have K := hO.2
  clear hO
  replace hb := hb.keep K
  replace h5 := h5.keep K
  replace h6 := h6.keep K
  replace KK := KK.trans K
  clear K
  go_wp2_with fail
  refine (same_any _ _ _ _ _ _ l l _ h6 h7).mono ?_
  rintro e W6 ⟨he, K⟩
  rw [beq_self_eq_true] at he
  subst he
  replace hb := hb.keep K
  replace h5 := h5.keep K
  replace h6 := h6.keep K
  replace h7 := h7.keep K
  replace KK := KK.trans K
  clear K
  go_wp2_with fail
  refine (cloneS_any _ _ _ (sl b) _ hb (sl_oneCell _) (by omega)).mono ?_
  rintro e W7 ⟨v, rfl, ho, K⟩
  obtain ⟨a_h8, c_h8, rfl, h8⟩ := own_rd ho
  clear ho
  replace hb := hb.keep K
  replace h5 := h5.keep K
  replace h6 := h6.keep K
  replace h7 := h7.keep K
  replace KK := KK.trans K
  clear K
  go_wp2_with fail
  refine (h3.out _ _ _ _ h8 (by omega)).mono ?_
  rintro e W8 ⟨rfl, K⟩
  replace hb := hb.keep K
  replace h5 := h5.keep K
  replace h6 := h6.keep K
  replace h7 := h7.keep K
  replace h8 := h8.keep K
  replace KK := KK.trans K
  clear K
  go_wp2_with fail
  refine (h4.out _ _ _ _ hb (by omega)).mono ?_
  rintro e W9 ⟨rfl, K⟩
  replace hb := hb.keep K
  replace h5 := h5.keep K
  replace h6 := h6.keep K
  replace h7 := h7.keep K
  replace h8 := h8.keep K
  replace KK := KK.trans K
  clear K
  go_wp2_with fail
  go_ret
  exact ⟨rfl, KK⟩
end Go.Proofs.Ytnkknjpnkobplaa
