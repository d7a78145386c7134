/- The walk of TransversalErrors. -/
import Derived.Test.YteaehcaokcbehaaDoorLaws09
namespace Go.Proofs.YteaehcaokcbehaaDoor
open Go.RowKit Go.Lib Go.Shelf

set_option maxRecDepth 20000 in
set_option maxHeartbeats 3000000 in
theorem TransversalErrors_any (a : Option Addr) (n c : Nat) (f : List S) (w : World) (hT : Tab w) (hf : Rd w a n c 1 (sl f)) :
    Calls Tryd.prog 10 #[.slice a n c] w fun e w' => e = .returned (.bool true) ∧ Keeps w w' := by
  have KK := Keeps.refl w
  by_cases hn1 : n ≤ 30
  rotate_left
  · skip
    go_enter Tryd.func10, Tryd.ntmps10
    go_wp2_with fail
    refine (awake_any _ hT).mono ?_
    rintro e W1 ⟨rfl, K⟩
    replace hT := hT.keep K
    replace hf := hf.keep K
    replace KK := KK.trans K
    clear K
    go_wp2_with fail
    refine (few_no _ _ _ _ hn1).mono ?_
    rintro e W2 ⟨rfl, rfl⟩
    go_wp2_with fail
    refine (awake_any _ hT).mono ?_
    rintro e W3 ⟨rfl, K⟩
    replace hT := hT.keep K
    replace hf := hf.keep K
    replace KK := KK.trans K
    clear K
    go_wp2_with fail
    go_ret
    exact ⟨rfl, KK⟩
  have e1 := fun a n c W h => rDual_any a n c f W h
  rw [rdual_eq] at e1
  unfold RetS at e1
  have e2 := fun a n c W t h => dual_any a n c f W t h (fun hv => valid_small hv)
  have e3 := fun a n c W t h => leastT_any a n c f W t h (fun hv => valid_small hv)
  have e4 := fun a n c W t h hn => dominated_any a n c f W t h hn (fun hv => valid_small hv)
  have e5 := fun a n c W t h hn hh => extend_any a n c f W t h hn hh
  unfold RetS at e5
  have e6 := fun a n c a2 n2 c2 W t h h2 => isDual_any a n c f a2 n2 c2 [] W t h h2 (fun hv => valid_small hv)
  have e7 := fun a n c W h hn => coterie_any a n c f W h hn
  by_cases hz : (dualErr f).2 = 0
  · rw [hz] at e1
    generalize (dualErr f).1 = d at *
    have E1 := Lib.hid e1
    clear e1 e2 e3 e4 e5 e6 e7 hz
    go_enter Tryd.func10, Tryd.ntmps10
    go_wp2_with fail
    refine (awake_any _ hT).mono ?_
    rintro e W1 ⟨rfl, K⟩
    replace hT := hT.keep K
    replace hf := hf.keep K
    replace KK := KK.trans K
    clear K
    go_wp2_with fail
    refine (few_yes _ _ _ _ hn1).mono ?_
    rintro e W2 ⟨rfl, rfl⟩
    go_wp2_with fail
    refine (E1.out _ _ _ _ hf).mono ?_
    rintro e W3 ⟨v, rfl, hO⟩
    obtain ⟨a_hd, c_hd, rfl, hd⟩ := hO.rd
    have K := hO.2
    clear hO
    replace hT := hT.keep K
    replace hf := hf.keep K
    replace KK := KK.trans K
    clear K
    go_wp2_with fail
    go_ret
    exact ⟨rfl, KK⟩
  · have hh : cotErr f = 0 → (dualErr f).2 = 0 → Low6 f := fun _ h => absurd h hz
    replace e5 := fun a n c W t h hn => e5 a n c W t h hn hh
    by_cases hv : validS f = 0
    · have hd : dualErr f = ([], 3) := by
        rw [dualErr_D] at hz ⊢
        rw [if_neg (by simp [hv])] at hz ⊢
        by_cases h4 : 400 < (D f).length
        · rw [if_pos h4]
        · rw [if_neg h4] at hz; exact absurd rfl hz
      rw [hd] at e1 e2
      simp only at e1 e2
      generalize leastErr f = r3 at *
      generalize domErr f = r4 at *
      generalize extErr f = r5 at *
      obtain ⟨x3, y3⟩ := r3
      obtain ⟨x4, y4⟩ := r4
      obtain ⟨x5, y5⟩ := r5
      simp only at e3 e4 e5
      have E1 := Lib.hid e1; have E2 := Lib.hid e2; have E3 := Lib.hid e3; have E4 := Lib.hid e4; have E5 := Lib.hid e5
      clear e1 e2 e3 e4 e5 e6 e7 hz hh hd hv
      go_enter Tryd.func10, Tryd.ntmps10
      go_wp2_with fail
      refine (awake_any _ hT).mono ?_
      rintro e W1 ⟨rfl, K⟩
      replace hT := hT.keep K
      replace hf := hf.keep K
      replace KK := KK.trans K
      clear K
      go_wp2_with fail
      refine (few_yes _ _ _ _ hn1).mono ?_
      rintro e W2 ⟨rfl, rfl⟩
      go_wp2_with fail
      refine (E1.out _ _ _ _ hf).mono ?_
      rintro e W3 ⟨v, rfl, hO⟩
      obtain ⟨a_hd, c_hd, rfl, hd⟩ := hO.rd
      have K := hO.2
      clear hO
      replace hT := hT.keep K
      replace hf := hf.keep K
      replace KK := KK.trans K
      clear K
      go_wp2_with fail
      refine (cloneS_any _ _ _ (sl f) _ hf (sl_oneCell _) (by omega)).mono ?_
      rintro e W4 ⟨v, rfl, ho, K⟩
      obtain ⟨a_h1, c_h1, rfl, h1⟩ := own_rd ho
      clear ho
      replace hT := hT.keep K
      replace hf := hf.keep K
      replace hd := hd.keep K
      replace KK := KK.trans K
      clear K
      go_wp2_with fail
      refine (E2.out _ _ _ _ hT h1).mono ?_
      rintro e W5 ⟨v, rfl, hO⟩
      obtain ⟨a_h2, c_h2, rfl, h2⟩ := hO.rd
      have K := hO.2
      clear hO
      replace hT := hT.keep K
      replace hf := hf.keep K
      replace hd := hd.keep K
      replace h1 := h1.keep K
      replace KK := KK.trans K
      clear K
      go_wp2_with fail
      refine (cloneS_any _ _ _ (sl f) _ hf (sl_oneCell _) (by omega)).mono ?_
      rintro e W6 ⟨v, rfl, ho, K⟩
      obtain ⟨a_h3, c_h3, rfl, h3⟩ := own_rd ho
      clear ho
      replace hT := hT.keep K
      replace hf := hf.keep K
      replace hd := hd.keep K
      replace h1 := h1.keep K
      replace h2 := h2.keep K
      replace KK := KK.trans K
      clear K
      go_wp2_with fail
      refine (E3.out _ _ _ _ hT h3).mono ?_
      rintro e W7 ⟨rfl, K⟩
      replace hT := hT.keep K
      replace hf := hf.keep K
      replace hd := hd.keep K
      replace h1 := h1.keep K
      replace h2 := h2.keep K
      replace h3 := h3.keep K
      replace KK := KK.trans K
      clear K
      go_wp2_with fail
      refine (cloneS_any _ _ _ (sl f) _ hf (sl_oneCell _) (by omega)).mono ?_
      rintro e W8 ⟨v, rfl, ho, K⟩
      obtain ⟨a_h4, c_h4, rfl, h4⟩ := own_rd ho
      clear ho
      replace hT := hT.keep K
      replace hf := hf.keep K
      replace hd := hd.keep K
      replace h1 := h1.keep K
      replace h2 := h2.keep K
      replace h3 := h3.keep K
      replace KK := KK.trans K
      clear K
      go_wp2_with fail
      refine (E4.out _ _ _ _ hT h4 (by omega)).mono ?_
      rintro e W9 ⟨rfl, K⟩
      replace hT := hT.keep K
      replace hf := hf.keep K
      replace hd := hd.keep K
      replace h1 := h1.keep K
      replace h2 := h2.keep K
      replace h3 := h3.keep K
      replace h4 := h4.keep K
      replace KK := KK.trans K
      clear K
      go_wp2_with fail
      refine (cloneS_any _ _ _ (sl f) _ hf (sl_oneCell _) (by omega)).mono ?_
      rintro e W10 ⟨v, rfl, ho, K⟩
      obtain ⟨a_h5, c_h5, rfl, h5⟩ := own_rd ho
      clear ho
      replace hT := hT.keep K
      replace hf := hf.keep K
      replace hd := hd.keep K
      replace h1 := h1.keep K
      replace h2 := h2.keep K
      replace h3 := h3.keep K
      replace h4 := h4.keep K
      replace KK := KK.trans K
      clear K
      go_wp2_with fail
      refine (E5.out _ _ _ _ hT h5 (by omega)).mono ?_
      rintro e W11 ⟨v, rfl, hO⟩
      obtain ⟨a_h6, c_h6, rfl, h6⟩ := hO.rd
      have K := hO.2
      clear hO
      replace hT := hT.keep K
      replace hf := hf.keep K
      replace hd := hd.keep K
      replace h1 := h1.keep K
      replace h2 := h2.keep K
      replace h3 := h3.keep K
      replace h4 := h4.keep K
      replace h5 := h5.keep K
      replace KK := KK.trans K
      clear K
      go_wp2_with fail
      go_ret
      exact ⟨rfl, KK⟩
    · have hd : dualErr f = ([], validS f) := by rw [dualErr_D, if_pos hv]
      have hl : leastErr f = (0#16, validS f) := by unfold leastErr; rw [if_pos hv]
      have hc : cotErr f = validS f := by unfold cotErr; rw [if_neg hv]
      have hm : domErr f = (false, validS f) := by unfold domErr; rw [hc, if_neg hv]
      have hx : extErr f = ([], validS f) := by unfold extErr; rw [hc, if_pos hv]
      have hi : ((dualErr f).2 == 0 && eqS (dualErr f).1 []) = false := by rw [hd]; simp [hv]
      have hk : cotS f = false := by
        cases hk : cotS f with
        | false => rfl
        | true => exact absurd ((valid_iff f).2 ((cotS_iff f).1 hk).fam) hv
      rw [hi] at e6
      rw [hd] at e1 e2
      rw [hl, sv_zero] at e3
      rw [hm] at e4
      rw [hx] at e5
      rw [hk] at e7
      simp only at e1 e2 e3 e4 e5
      generalize validS f = v at *
      have E1 := Lib.hid e1; have E2 := Lib.hid e2; have E3 := Lib.hid e3; have E4 := Lib.hid e4; have E5 := Lib.hid e5; have E6 := Lib.hid e6; have E7 := Lib.hid e7
      have hb1 : (v == 0) = false := by simpa using hv
      have hb2 : (v == v) = true := by simp
      clear e1 e2 e3 e4 e5 e6 e7 hz hh hd hl hc hm hx hi hk
      cases hb3 : (v == 3)
      · skip
        go_enter Tryd.func10, Tryd.ntmps10
        go_wp2_with fail
        refine (awake_any _ hT).mono ?_
        rintro e W1 ⟨rfl, K⟩
        replace hT := hT.keep K
        replace hf := hf.keep K
        replace KK := KK.trans K
        clear K
        go_wp2_with fail
        refine (few_yes _ _ _ _ hn1).mono ?_
        rintro e W2 ⟨rfl, rfl⟩
        go_wp2_with fail
        refine (E1.out _ _ _ _ hf).mono ?_
        rintro e W3 ⟨v, rfl, hO⟩
        obtain ⟨a_hd, c_hd, rfl, hd⟩ := hO.rd
        have K := hO.2
        clear hO
        replace hT := hT.keep K
        replace hf := hf.keep K
        replace KK := KK.trans K
        clear K
        go_wp2_with fail
        refine (cloneS_any _ _ _ (sl f) _ hf (sl_oneCell _) (by omega)).mono ?_
        rintro e W4 ⟨v, rfl, ho, K⟩
        obtain ⟨a_h1, c_h1, rfl, h1⟩ := own_rd ho
        clear ho
        replace hT := hT.keep K
        replace hf := hf.keep K
        replace hd := hd.keep K
        replace KK := KK.trans K
        clear K
        go_wp2_with fail
        refine (E2.out _ _ _ _ hT h1).mono ?_
        rintro e W5 ⟨v, rfl, hO⟩
        obtain ⟨a_h2, c_h2, rfl, h2⟩ := hO.rd
        have K := hO.2
        clear hO
        replace hT := hT.keep K
        replace hf := hf.keep K
        replace hd := hd.keep K
        replace h1 := h1.keep K
        replace KK := KK.trans K
        clear K
        go_wp2_with fail
        refine (cloneS_any _ _ _ (sl f) _ hf (sl_oneCell _) (by omega)).mono ?_
        rintro e W6 ⟨v, rfl, ho, K⟩
        obtain ⟨a_h3, c_h3, rfl, h3⟩ := own_rd ho
        clear ho
        replace hT := hT.keep K
        replace hf := hf.keep K
        replace hd := hd.keep K
        replace h1 := h1.keep K
        replace h2 := h2.keep K
        replace KK := KK.trans K
        clear K
        go_wp2_with fail
        refine (E3.out _ _ _ _ hT h3).mono ?_
        rintro e W7 ⟨rfl, K⟩
        replace hT := hT.keep K
        replace hf := hf.keep K
        replace hd := hd.keep K
        replace h1 := h1.keep K
        replace h2 := h2.keep K
        replace h3 := h3.keep K
        replace KK := KK.trans K
        clear K
        go_wp2_with fail
        refine (cloneS_any _ _ _ (sl f) _ hf (sl_oneCell _) (by omega)).mono ?_
        rintro e W8 ⟨v, rfl, ho, K⟩
        obtain ⟨a_h4, c_h4, rfl, h4⟩ := own_rd ho
        clear ho
        replace hT := hT.keep K
        replace hf := hf.keep K
        replace hd := hd.keep K
        replace h1 := h1.keep K
        replace h2 := h2.keep K
        replace h3 := h3.keep K
        replace KK := KK.trans K
        clear K
        go_wp2_with fail
        refine (E4.out _ _ _ _ hT h4 (by omega)).mono ?_
        rintro e W9 ⟨rfl, K⟩
        replace hT := hT.keep K
        replace hf := hf.keep K
        replace hd := hd.keep K
        replace h1 := h1.keep K
        replace h2 := h2.keep K
        replace h3 := h3.keep K
        replace h4 := h4.keep K
        replace KK := KK.trans K
        clear K
        go_wp2_with fail
        refine (cloneS_any _ _ _ (sl f) _ hf (sl_oneCell _) (by omega)).mono ?_
        rintro e W10 ⟨v, rfl, ho, K⟩
        obtain ⟨a_h5, c_h5, rfl, h5⟩ := own_rd ho
        clear ho
        replace hT := hT.keep K
        replace hf := hf.keep K
        replace hd := hd.keep K
        replace h1 := h1.keep K
        replace h2 := h2.keep K
        replace h3 := h3.keep K
        replace h4 := h4.keep K
        replace KK := KK.trans K
        clear K
        go_wp2_with fail
        refine (E5.out _ _ _ _ hT h5 (by omega)).mono ?_
        rintro e W11 ⟨v, rfl, hO⟩
        obtain ⟨a_h6, c_h6, rfl, h6⟩ := hO.rd
        have K := hO.2
        clear hO
        replace hT := hT.keep K
        replace hf := hf.keep K
        replace hd := hd.keep K
        replace h1 := h1.keep K
        replace h2 := h2.keep K
        replace h3 := h3.keep K
        replace h4 := h4.keep K
        replace h5 := h5.keep K
        replace KK := KK.trans K
        clear K
        go_wp2_with fail
        refine (cloneS_any _ _ _ (sl f) _ hf (sl_oneCell _) (by omega)).mono ?_
        rintro e W12 ⟨v, rfl, ho, K⟩
        obtain ⟨a_h7, c_h7, rfl, h7⟩ := own_rd ho
        clear ho
        replace hT := hT.keep K
        replace hf := hf.keep K
        replace hd := hd.keep K
        replace h1 := h1.keep K
        replace h2 := h2.keep K
        replace h3 := h3.keep K
        replace h4 := h4.keep K
        replace h5 := h5.keep K
        replace h6 := h6.keep K
        replace KK := KK.trans K
        clear K
        have hnil : Rd _ none 0 0 1 (sl []) := (Own.nil 24 1 (Keeps.refl W12)).rd.elim fun a h => h.elim fun c h => by cases h.1; exact h.2
        go_wp2_with fail
        refine (E6.out _ _ _ _ _ _ _ hT h7 hnil).mono ?_
        rintro e W13 ⟨rfl, K⟩
        replace hT := hT.keep K
        replace hf := hf.keep K
        replace hd := hd.keep K
        replace h1 := h1.keep K
        replace h2 := h2.keep K
        replace h3 := h3.keep K
        replace h4 := h4.keep K
        replace h5 := h5.keep K
        replace h6 := h6.keep K
        replace h7 := h7.keep K
        replace KK := KK.trans K
        clear K
        go_wp2_with fail
        refine (cloneS_any _ _ _ (sl f) _ hf (sl_oneCell _) (by omega)).mono ?_
        rintro e W14 ⟨v, rfl, ho, K⟩
        obtain ⟨a_h8, c_h8, rfl, h8⟩ := own_rd ho
        clear ho
        replace hT := hT.keep K
        replace hf := hf.keep K
        replace hd := hd.keep K
        replace h1 := h1.keep K
        replace h2 := h2.keep K
        replace h3 := h3.keep K
        replace h4 := h4.keep K
        replace h5 := h5.keep K
        replace h6 := h6.keep K
        replace h7 := h7.keep K
        replace KK := KK.trans K
        clear K
        go_wp2_with fail
        refine (E7.out _ _ _ _ h8 (by omega)).mono ?_
        rintro e W15 ⟨rfl, K⟩
        replace hT := hT.keep K
        replace hf := hf.keep K
        replace hd := hd.keep K
        replace h1 := h1.keep K
        replace h2 := h2.keep K
        replace h3 := h3.keep K
        replace h4 := h4.keep K
        replace h5 := h5.keep K
        replace h6 := h6.keep K
        replace h7 := h7.keep K
        replace h8 := h8.keep K
        replace KK := KK.trans K
        clear K
        go_wp2_with fail
        go_ret
        exact ⟨rfl, KK⟩
      · skip
        go_enter Tryd.func10, Tryd.ntmps10
        go_wp2_with fail
        refine (awake_any _ hT).mono ?_
        rintro e W1 ⟨rfl, K⟩
        replace hT := hT.keep K
        replace hf := hf.keep K
        replace KK := KK.trans K
        clear K
        go_wp2_with fail
        refine (few_yes _ _ _ _ hn1).mono ?_
        rintro e W2 ⟨rfl, rfl⟩
        go_wp2_with fail
        refine (E1.out _ _ _ _ hf).mono ?_
        rintro e W3 ⟨v, rfl, hO⟩
        obtain ⟨a_hd, c_hd, rfl, hd⟩ := hO.rd
        have K := hO.2
        clear hO
        replace hT := hT.keep K
        replace hf := hf.keep K
        replace KK := KK.trans K
        clear K
        go_wp2_with fail
        refine (cloneS_any _ _ _ (sl f) _ hf (sl_oneCell _) (by omega)).mono ?_
        rintro e W4 ⟨v, rfl, ho, K⟩
        obtain ⟨a_h1, c_h1, rfl, h1⟩ := own_rd ho
        clear ho
        replace hT := hT.keep K
        replace hf := hf.keep K
        replace hd := hd.keep K
        replace KK := KK.trans K
        clear K
        go_wp2_with fail
        refine (E2.out _ _ _ _ hT h1).mono ?_
        rintro e W5 ⟨v, rfl, hO⟩
        obtain ⟨a_h2, c_h2, rfl, h2⟩ := hO.rd
        have K := hO.2
        clear hO
        replace hT := hT.keep K
        replace hf := hf.keep K
        replace hd := hd.keep K
        replace h1 := h1.keep K
        replace KK := KK.trans K
        clear K
        go_wp2_with fail
        refine (cloneS_any _ _ _ (sl f) _ hf (sl_oneCell _) (by omega)).mono ?_
        rintro e W6 ⟨v, rfl, ho, K⟩
        obtain ⟨a_h3, c_h3, rfl, h3⟩ := own_rd ho
        clear ho
        replace hT := hT.keep K
        replace hf := hf.keep K
        replace hd := hd.keep K
        replace h1 := h1.keep K
        replace h2 := h2.keep K
        replace KK := KK.trans K
        clear K
        go_wp2_with fail
        refine (E3.out _ _ _ _ hT h3).mono ?_
        rintro e W7 ⟨rfl, K⟩
        replace hT := hT.keep K
        replace hf := hf.keep K
        replace hd := hd.keep K
        replace h1 := h1.keep K
        replace h2 := h2.keep K
        replace h3 := h3.keep K
        replace KK := KK.trans K
        clear K
        go_wp2_with fail
        refine (cloneS_any _ _ _ (sl f) _ hf (sl_oneCell _) (by omega)).mono ?_
        rintro e W8 ⟨v, rfl, ho, K⟩
        obtain ⟨a_h4, c_h4, rfl, h4⟩ := own_rd ho
        clear ho
        replace hT := hT.keep K
        replace hf := hf.keep K
        replace hd := hd.keep K
        replace h1 := h1.keep K
        replace h2 := h2.keep K
        replace h3 := h3.keep K
        replace KK := KK.trans K
        clear K
        go_wp2_with fail
        refine (E4.out _ _ _ _ hT h4 (by omega)).mono ?_
        rintro e W9 ⟨rfl, K⟩
        replace hT := hT.keep K
        replace hf := hf.keep K
        replace hd := hd.keep K
        replace h1 := h1.keep K
        replace h2 := h2.keep K
        replace h3 := h3.keep K
        replace h4 := h4.keep K
        replace KK := KK.trans K
        clear K
        go_wp2_with fail
        refine (cloneS_any _ _ _ (sl f) _ hf (sl_oneCell _) (by omega)).mono ?_
        rintro e W10 ⟨v, rfl, ho, K⟩
        obtain ⟨a_h5, c_h5, rfl, h5⟩ := own_rd ho
        clear ho
        replace hT := hT.keep K
        replace hf := hf.keep K
        replace hd := hd.keep K
        replace h1 := h1.keep K
        replace h2 := h2.keep K
        replace h3 := h3.keep K
        replace h4 := h4.keep K
        replace KK := KK.trans K
        clear K
        go_wp2_with fail
        refine (E5.out _ _ _ _ hT h5 (by omega)).mono ?_
        rintro e W11 ⟨v, rfl, hO⟩
        obtain ⟨a_h6, c_h6, rfl, h6⟩ := hO.rd
        have K := hO.2
        clear hO
        replace hT := hT.keep K
        replace hf := hf.keep K
        replace hd := hd.keep K
        replace h1 := h1.keep K
        replace h2 := h2.keep K
        replace h3 := h3.keep K
        replace h4 := h4.keep K
        replace h5 := h5.keep K
        replace KK := KK.trans K
        clear K
        go_wp2_with fail
        go_ret
        exact ⟨rfl, KK⟩
end Go.Proofs.YteaehcaokcbehaaDoor
