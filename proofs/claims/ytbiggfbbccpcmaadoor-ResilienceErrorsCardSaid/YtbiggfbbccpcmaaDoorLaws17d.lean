/- The walks of the statements of the layer resilience: each answers true and keeps what lay there. -/
import Derived.Test.YtbiggfbbccpcmaaDoorAwake17
namespace Go.Proofs.YtbiggfbbccpcmaaDoor
open Go.RowKit Go.Lib Go.Shelf

set_option maxRecDepth 20000 in
set_option maxHeartbeats 3000000 in
theorem ResilienceErrors_any (a : Option Addr) (n c : Nat) (f : List S) (k : Int) (w : World) (hT : Tab w) (hf : Rd w a n c 1 (sl f)) :
    Calls Tryd.prog 9 #[.slice a n c, .int .i64 k] w fun e w' => e = .returned (.bool true) ∧ Keeps w w' := by
  have KK := Keeps.refl w
  by_cases hn1 : n ≤ 30
  rotate_left
  · skip
    go_enter Tryd.func9, Tryd.ntmps9
    go_wp2_with fail
    refine (awake_any _ hT).mono ?_
    rintro e W1 ⟨rfl, K⟩
    replace hT := hT.keep K
    replace hf := hf.keep K
    replace KK := KK.trans K
    clear K
    go_wp2_with fail
    refine (few_no _ _ _ _ hn1).mono ?_
    rintro e W2 ⟨rfl, rfl⟩
    go_wp2_with fail
    refine (awake_any _ hT).mono ?_
    rintro e W3 ⟨rfl, K⟩
    replace hT := hT.keep K
    replace hf := hf.keep K
    replace KK := KK.trans K
    clear K
    go_wp2_with fail
    go_ret
    exact ⟨rfl, KK⟩
  by_cases hk : 8 < k ∧ k ≤ 12
  · obtain ⟨hk1, hk2⟩ := hk
    go_enter Tryd.func9, Tryd.ntmps9
    go_wp2_with fail
    refine (awake_any _ hT).mono ?_
    rintro e W1 ⟨rfl, K⟩
    replace hT := hT.keep K
    replace hf := hf.keep K
    replace KK := KK.trans K
    clear K
    go_wp2_with fail
    refine (few_yes _ _ _ _ hn1).mono ?_
    rintro e W2 ⟨rfl, rfl⟩
    go_wp2_with fail
    refine (awake_any _ hT).mono ?_
    rintro e W3 ⟨rfl, K⟩
    replace hT := hT.keep K
    replace hf := hf.keep K
    replace KK := KK.trans K
    clear K
    go_wp2_with fail
    go_ret
    exact ⟨rfl, KK⟩
  have hz : (amongErr f k).2 ≠ 0 ∧ clsErr f k = ([], (idleErr f k).2) ∧ inflErr f k = ([], (idleErr f k).2) ∧ (idleErr f k).2 ≠ 0 ∨ (idleErr f k).2 = 0 := by
    by_cases h : (amongErr f k).2 = 0
    · right; unfold idleErr; rw [if_neg (by simp [h])]
    · left; unfold idleErr clsErr inflErr; rw [if_pos h, if_pos h, if_pos h]; exact ⟨h, rfl, rfl, h⟩
  have hw : validS f = 0 ∨ validS f ≠ 0 ∧ ofErr f = (0, validS f) ∧ worstErr f = ([], validS f) ∧ afterErr f 1#16 = (0, validS f) ∧ symS f 0 0 = false := by
    by_cases h : validS f = 0
    · exact .inl h
    · refine .inr ⟨h, by unfold ofErr; rw [if_pos h], ?_, by unfold afterErr; rw [if_pos h], by unfold symS; simp [h]⟩
      have hl : leastErr f = (0#16, validS f) := by unfold leastErr; rw [if_pos h]
      unfold worstErr; rw [hl, if_pos h]
  have e1 := fun a n c W h hm => idle_any a n c f k W h hm
  have e2 := fun a n c W h => rIdle_any a n c f k W h
  rw [ridle_eq] at e2
  have e3 := fun a n c W h hm => classes_any a n c f k W h hm
  have e4 := fun a n c W t h hm => influence_any a n c f k W t h hm
  have e5 := fun a n c W h => rValid_any a n c f W h
  rw [rval_eq] at e5
  have e6 := fun a n c W t h => of_any a n c f W t h
  have e7 := fun a n c W t h => worst_any a n c f W t h
  have e8 := fun a n c W t h hn => after_any a n c f 1#16 W t h hn
  have e9 := fun a n c W h hn => symmetricX_any a n c f 0 0 W h hn
  rw [show sv 1#16 = 1 from rfl] at e8
  unfold RetS at e3
  unfold RetE at e1 e2
  unfold RetI at e6 e8
  generalize clsErr f k = r3 at *
  generalize inflErr f k = r4 at *
  generalize idleErr f k = r1 at *
  generalize ofErr f = r6 at *
  generalize worstErr f = r7 at *
  generalize afterErr f 1#16 = r8 at *
  generalize symS f 0 0 = r9 at *
  generalize validS f = v at *
  obtain ⟨x, z⟩ := r1
  simp only at *
  have hx1 : (x != x) = false := by simp
  have hz1 : (z != z) = false := by simp
  have hz2 : (z == z) = true := by simp
  have hv2 : (v == v) = true := by simp
  have hk' : k ≤ 8 ∨ 8 < k ∧ 12 < k := by omega
  clear hk
  rcases hz with ⟨_, hz3, hz4, hz5⟩ | hz5
  rotate_left
  · subst hz5
    clear e3 e4
    rcases hw with hv | ⟨hv, h6, h7, h8, h9⟩
    · subst hv
      clear e6 e7 e8 e9
      have E1 := Lib.hid e1; have E2 := Lib.hid e2; have E5 := Lib.hid e5
      clear e1 e2 e5
      rcases hk' with hk | ⟨hk1, hk2⟩
      · skip
        go_enter Tryd.func9, Tryd.ntmps9
        go_wp2_with fail
        refine (awake_any _ hT).mono ?_
        rintro e W1 ⟨rfl, K⟩
        replace hT := hT.keep K
        replace hf := hf.keep K
        replace KK := KK.trans K
        clear K
        go_wp2_with fail
        refine (few_yes _ _ _ _ hn1).mono ?_
        rintro e W2 ⟨rfl, rfl⟩
        go_wp2_with fail
        refine (cloneS_any _ _ _ (sl f) _ hf (sl_oneCell _) (by omega)).mono ?_
        rintro e W3 ⟨v, rfl, ho, K⟩
        obtain ⟨a_h1, c_h1, rfl, h1⟩ := own_rd ho
        clear ho
        replace hT := hT.keep K
        replace hf := hf.keep K
        replace KK := KK.trans K
        clear K
        go_wp2_with fail
        refine (E1.out _ _ _ _ h1 (by omega)).mono ?_
        rintro e W4 ⟨rfl, K⟩
        replace hT := hT.keep K
        replace hf := hf.keep K
        replace h1 := h1.keep K
        replace KK := KK.trans K
        clear K
        go_wp2_with fail
        refine (E2.out _ _ _ _ hf).mono ?_
        rintro e W5 ⟨rfl, K⟩
        replace hT := hT.keep K
        replace hf := hf.keep K
        replace h1 := h1.keep K
        replace KK := KK.trans K
        clear K
        go_wp2_with fail
        refine (E5.out _ _ _ _ hf).mono ?_
        rintro e W6 ⟨rfl, K⟩
        replace hT := hT.keep K
        replace hf := hf.keep K
        replace h1 := h1.keep K
        replace KK := KK.trans K
        clear K
        go_wp2_with fail
        go_ret
        exact ⟨rfl, KK⟩
      · skip
        go_enter Tryd.func9, Tryd.ntmps9
        go_wp2_with fail
        refine (awake_any _ hT).mono ?_
        rintro e W1 ⟨rfl, K⟩
        replace hT := hT.keep K
        replace hf := hf.keep K
        replace KK := KK.trans K
        clear K
        go_wp2_with fail
        refine (few_yes _ _ _ _ hn1).mono ?_
        rintro e W2 ⟨rfl, rfl⟩
        go_wp2_with fail
        refine (cloneS_any _ _ _ (sl f) _ hf (sl_oneCell _) (by omega)).mono ?_
        rintro e W3 ⟨v, rfl, ho, K⟩
        obtain ⟨a_h1, c_h1, rfl, h1⟩ := own_rd ho
        clear ho
        replace hT := hT.keep K
        replace hf := hf.keep K
        replace KK := KK.trans K
        clear K
        go_wp2_with fail
        refine (E1.out _ _ _ _ h1 (by omega)).mono ?_
        rintro e W4 ⟨rfl, K⟩
        replace hT := hT.keep K
        replace hf := hf.keep K
        replace h1 := h1.keep K
        replace KK := KK.trans K
        clear K
        go_wp2_with fail
        refine (E2.out _ _ _ _ hf).mono ?_
        rintro e W5 ⟨rfl, K⟩
        replace hT := hT.keep K
        replace hf := hf.keep K
        replace h1 := h1.keep K
        replace KK := KK.trans K
        clear K
        go_wp2_with fail
        refine (E5.out _ _ _ _ hf).mono ?_
        rintro e W6 ⟨rfl, K⟩
        replace hT := hT.keep K
        replace hf := hf.keep K
        replace h1 := h1.keep K
        replace KK := KK.trans K
        clear K
        go_wp2_with fail
        go_ret
        exact ⟨rfl, KK⟩
    · subst h6 h7 h8 h9
      have hv1 : (v == 0) = false := by simpa using hv
      simp only at e6 e7 e8 e9
      have E1 := Lib.hid e1; have E2 := Lib.hid e2; have E5 := Lib.hid e5; have E6 := Lib.hid e6; have E7 := Lib.hid e7; have E8 := Lib.hid e8; have E9 := Lib.hid e9
      clear e1 e2 e5 e6 e7 e8 e9
      rcases hk' with hk | ⟨hk1, hk2⟩
      · skip
        go_enter Tryd.func9, Tryd.ntmps9
        go_wp2_with fail
        refine (awake_any _ hT).mono ?_
        rintro e W1 ⟨rfl, K⟩
        replace hT := hT.keep K
        replace hf := hf.keep K
        replace KK := KK.trans K
        clear K
        go_wp2_with fail
        refine (few_yes _ _ _ _ hn1).mono ?_
        rintro e W2 ⟨rfl, rfl⟩
        go_wp2_with fail
        refine (cloneS_any _ _ _ (sl f) _ hf (sl_oneCell _) (by omega)).mono ?_
        rintro e W3 ⟨v, rfl, ho, K⟩
        obtain ⟨a_h1, c_h1, rfl, h1⟩ := own_rd ho
        clear ho
        replace hT := hT.keep K
        replace hf := hf.keep K
        replace KK := KK.trans K
        clear K
        go_wp2_with fail
        refine (E1.out _ _ _ _ h1 (by omega)).mono ?_
        rintro e W4 ⟨rfl, K⟩
        replace hT := hT.keep K
        replace hf := hf.keep K
        replace h1 := h1.keep K
        replace KK := KK.trans K
        clear K
        go_wp2_with fail
        refine (E2.out _ _ _ _ hf).mono ?_
        rintro e W5 ⟨rfl, K⟩
        replace hT := hT.keep K
        replace hf := hf.keep K
        replace h1 := h1.keep K
        replace KK := KK.trans K
        clear K
        go_wp2_with fail
        refine (E5.out _ _ _ _ hf).mono ?_
        rintro e W6 ⟨rfl, K⟩
        replace hT := hT.keep K
        replace hf := hf.keep K
        replace h1 := h1.keep K
        replace KK := KK.trans K
        clear K
        go_wp2_with fail
        refine (cloneS_any _ _ _ (sl f) _ hf (sl_oneCell _) (by omega)).mono ?_
        rintro e W7 ⟨v, rfl, ho, K⟩
        obtain ⟨a_h6, c_h6, rfl, h6⟩ := own_rd ho
        clear ho
        replace hT := hT.keep K
        replace hf := hf.keep K
        replace h1 := h1.keep K
        replace KK := KK.trans K
        clear K
        go_wp2_with fail
        refine (E6.out _ _ _ _ hT h6).mono ?_
        rintro e W8 ⟨rfl, K⟩
        replace hT := hT.keep K
        replace hf := hf.keep K
        replace h1 := h1.keep K
        replace h6 := h6.keep K
        replace KK := KK.trans K
        clear K
        go_wp2_with fail
        refine (cloneS_any _ _ _ (sl f) _ hf (sl_oneCell _) (by omega)).mono ?_
        rintro e W9 ⟨v, rfl, ho, K⟩
        obtain ⟨a_h7, c_h7, rfl, h7⟩ := own_rd ho
        clear ho
        replace hT := hT.keep K
        replace hf := hf.keep K
        replace h1 := h1.keep K
        replace h6 := h6.keep K
        replace KK := KK.trans K
        clear K
        go_wp2_with fail
        refine (E7.out _ _ _ _ hT h7).mono ?_
        rintro e W10 ⟨v, rfl, hO⟩
        obtain ⟨a_h8, c_h8, rfl, h8⟩ := hO.rd
        have K := hO.2
        clear hO
        replace hT := hT.keep K
        replace hf := hf.keep K
        replace h1 := h1.keep K
        replace h6 := h6.keep K
        replace h7 := h7.keep K
        replace KK := KK.trans K
        clear K
        go_wp2_with fail
        refine (cloneS_any _ _ _ (sl f) _ hf (sl_oneCell _) (by omega)).mono ?_
        rintro e W11 ⟨v, rfl, ho, K⟩
        obtain ⟨a_h9, c_h9, rfl, h9⟩ := own_rd ho
        clear ho
        replace hT := hT.keep K
        replace hf := hf.keep K
        replace h1 := h1.keep K
        replace h6 := h6.keep K
        replace h7 := h7.keep K
        replace h8 := h8.keep K
        replace KK := KK.trans K
        clear K
        go_wp2_with fail
        refine (E8.out _ _ _ _ hT h9 (by omega)).mono ?_
        rintro e W12 ⟨rfl, K⟩
        replace hT := hT.keep K
        replace hf := hf.keep K
        replace h1 := h1.keep K
        replace h6 := h6.keep K
        replace h7 := h7.keep K
        replace h8 := h8.keep K
        replace h9 := h9.keep K
        replace KK := KK.trans K
        clear K
        go_wp2_with fail
        refine (cloneS_any _ _ _ (sl f) _ hf (sl_oneCell _) (by omega)).mono ?_
        rintro e W13 ⟨v, rfl, ho, K⟩
        obtain ⟨a_h10, c_h10, rfl, h10⟩ := own_rd ho
        clear ho
        replace hT := hT.keep K
        replace hf := hf.keep K
        replace h1 := h1.keep K
        replace h6 := h6.keep K
        replace h7 := h7.keep K
        replace h8 := h8.keep K
        replace h9 := h9.keep K
        replace KK := KK.trans K
        clear K
        go_wp2_with fail
        refine (E9.out _ _ _ _ h10 (by omega)).mono ?_
        rintro e W14 ⟨rfl, K⟩
        replace hT := hT.keep K
        replace hf := hf.keep K
        replace h1 := h1.keep K
        replace h6 := h6.keep K
        replace h7 := h7.keep K
        replace h8 := h8.keep K
        replace h9 := h9.keep K
        replace h10 := h10.keep K
        replace KK := KK.trans K
        clear K
        go_wp2_with fail
        go_ret
        exact ⟨rfl, KK⟩
      · skip
        go_enter Tryd.func9, Tryd.ntmps9
        go_wp2_with fail
        refine (awake_any _ hT).mono ?_
        rintro e W1 ⟨rfl, K⟩
        replace hT := hT.keep K
        replace hf := hf.keep K
        replace KK := KK.trans K
        clear K
        go_wp2_with fail
        refine (few_yes _ _ _ _ hn1).mono ?_
        rintro e W2 ⟨rfl, rfl⟩
        go_wp2_with fail
        refine (cloneS_any _ _ _ (sl f) _ hf (sl_oneCell _) (by omega)).mono ?_
        rintro e W3 ⟨v, rfl, ho, K⟩
        obtain ⟨a_h1, c_h1, rfl, h1⟩ := own_rd ho
        clear ho
        replace hT := hT.keep K
        replace hf := hf.keep K
        replace KK := KK.trans K
        clear K
        go_wp2_with fail
        refine (E1.out _ _ _ _ h1 (by omega)).mono ?_
        rintro e W4 ⟨rfl, K⟩
        replace hT := hT.keep K
        replace hf := hf.keep K
        replace h1 := h1.keep K
        replace KK := KK.trans K
        clear K
        go_wp2_with fail
        refine (E2.out _ _ _ _ hf).mono ?_
        rintro e W5 ⟨rfl, K⟩
        replace hT := hT.keep K
        replace hf := hf.keep K
        replace h1 := h1.keep K
        replace KK := KK.trans K
        clear K
        go_wp2_with fail
        refine (E5.out _ _ _ _ hf).mono ?_
        rintro e W6 ⟨rfl, K⟩
        replace hT := hT.keep K
        replace hf := hf.keep K
        replace h1 := h1.keep K
        replace KK := KK.trans K
        clear K
        go_wp2_with fail
        refine (cloneS_any _ _ _ (sl f) _ hf (sl_oneCell _) (by omega)).mono ?_
        rintro e W7 ⟨v, rfl, ho, K⟩
        obtain ⟨a_h6, c_h6, rfl, h6⟩ := own_rd ho
        clear ho
        replace hT := hT.keep K
        replace hf := hf.keep K
        replace h1 := h1.keep K
        replace KK := KK.trans K
        clear K
        go_wp2_with fail
        refine (E6.out _ _ _ _ hT h6).mono ?_
        rintro e W8 ⟨rfl, K⟩
        replace hT := hT.keep K
        replace hf := hf.keep K
        replace h1 := h1.keep K
        replace h6 := h6.keep K
        replace KK := KK.trans K
        clear K
        go_wp2_with fail
        refine (cloneS_any _ _ _ (sl f) _ hf (sl_oneCell _) (by omega)).mono ?_
        rintro e W9 ⟨v, rfl, ho, K⟩
        obtain ⟨a_h7, c_h7, rfl, h7⟩ := own_rd ho
        clear ho
        replace hT := hT.keep K
        replace hf := hf.keep K
        replace h1 := h1.keep K
        replace h6 := h6.keep K
        replace KK := KK.trans K
        clear K
        go_wp2_with fail
        refine (E7.out _ _ _ _ hT h7).mono ?_
        rintro e W10 ⟨v, rfl, hO⟩
        obtain ⟨a_h8, c_h8, rfl, h8⟩ := hO.rd
        have K := hO.2
        clear hO
        replace hT := hT.keep K
        replace hf := hf.keep K
        replace h1 := h1.keep K
        replace h6 := h6.keep K
        replace h7 := h7.keep K
        replace KK := KK.trans K
        clear K
        go_wp2_with fail
        refine (cloneS_any _ _ _ (sl f) _ hf (sl_oneCell _) (by omega)).mono ?_
        rintro e W11 ⟨v, rfl, ho, K⟩
        obtain ⟨a_h9, c_h9, rfl, h9⟩ := own_rd ho
        clear ho
        replace hT := hT.keep K
        replace hf := hf.keep K
        replace h1 := h1.keep K
        replace h6 := h6.keep K
        replace h7 := h7.keep K
        replace h8 := h8.keep K
        replace KK := KK.trans K
        clear K
        go_wp2_with fail
        refine (E8.out _ _ _ _ hT h9 (by omega)).mono ?_
        rintro e W12 ⟨rfl, K⟩
        replace hT := hT.keep K
        replace hf := hf.keep K
        replace h1 := h1.keep K
        replace h6 := h6.keep K
        replace h7 := h7.keep K
        replace h8 := h8.keep K
        replace h9 := h9.keep K
        replace KK := KK.trans K
        clear K
        go_wp2_with fail
        refine (cloneS_any _ _ _ (sl f) _ hf (sl_oneCell _) (by omega)).mono ?_
        rintro e W13 ⟨v, rfl, ho, K⟩
        obtain ⟨a_h10, c_h10, rfl, h10⟩ := own_rd ho
        clear ho
        replace hT := hT.keep K
        replace hf := hf.keep K
        replace h1 := h1.keep K
        replace h6 := h6.keep K
        replace h7 := h7.keep K
        replace h8 := h8.keep K
        replace h9 := h9.keep K
        replace KK := KK.trans K
        clear K
        go_wp2_with fail
        refine (E9.out _ _ _ _ h10 (by omega)).mono ?_
        rintro e W14 ⟨rfl, K⟩
        replace hT := hT.keep K
        replace hf := hf.keep K
        replace h1 := h1.keep K
        replace h6 := h6.keep K
        replace h7 := h7.keep K
        replace h8 := h8.keep K
        replace h9 := h9.keep K
        replace h10 := h10.keep K
        replace KK := KK.trans K
        clear K
        go_wp2_with fail
        go_ret
        exact ⟨rfl, KK⟩
  · subst hz3 hz4
    have hz6 : (z != 0) = true := by simpa using hz5
    simp only at e3 e4
    rcases hw with hv | ⟨hv, h6, h7, h8, h9⟩
    · subst hv
      clear e6 e7 e8 e9
      have E1 := Lib.hid e1; have E2 := Lib.hid e2; have E3 := Lib.hid e3; have E4 := Lib.hid e4; have E5 := Lib.hid e5
      clear e1 e2 e3 e4 e5
      rcases hk' with hk | ⟨hk1, hk2⟩
      · skip
        go_enter Tryd.func9, Tryd.ntmps9
        go_wp2_with fail
        refine (awake_any _ hT).mono ?_
        rintro e W1 ⟨rfl, K⟩
        replace hT := hT.keep K
        replace hf := hf.keep K
        replace KK := KK.trans K
        clear K
        go_wp2_with fail
        refine (few_yes _ _ _ _ hn1).mono ?_
        rintro e W2 ⟨rfl, rfl⟩
        go_wp2_with fail
        refine (cloneS_any _ _ _ (sl f) _ hf (sl_oneCell _) (by omega)).mono ?_
        rintro e W3 ⟨v, rfl, ho, K⟩
        obtain ⟨a_h1, c_h1, rfl, h1⟩ := own_rd ho
        clear ho
        replace hT := hT.keep K
        replace hf := hf.keep K
        replace KK := KK.trans K
        clear K
        go_wp2_with fail
        refine (E1.out _ _ _ _ h1 (by omega)).mono ?_
        rintro e W4 ⟨rfl, K⟩
        replace hT := hT.keep K
        replace hf := hf.keep K
        replace h1 := h1.keep K
        replace KK := KK.trans K
        clear K
        go_wp2_with fail
        refine (E2.out _ _ _ _ hf).mono ?_
        rintro e W5 ⟨rfl, K⟩
        replace hT := hT.keep K
        replace hf := hf.keep K
        replace h1 := h1.keep K
        replace KK := KK.trans K
        clear K
        go_wp2_with fail
        refine (cloneS_any _ _ _ (sl f) _ hf (sl_oneCell _) (by omega)).mono ?_
        rintro e W6 ⟨v, rfl, ho, K⟩
        obtain ⟨a_h2, c_h2, rfl, h2⟩ := own_rd ho
        clear ho
        replace hT := hT.keep K
        replace hf := hf.keep K
        replace h1 := h1.keep K
        replace KK := KK.trans K
        clear K
        go_wp2_with fail
        refine (E3.out _ _ _ _ h2 (by omega)).mono ?_
        rintro e W7 ⟨v, rfl, hO⟩
        obtain ⟨a_h3, c_h3, rfl, h3⟩ := hO.rd
        have K := hO.2
        clear hO
        replace hT := hT.keep K
        replace hf := hf.keep K
        replace h1 := h1.keep K
        replace h2 := h2.keep K
        replace KK := KK.trans K
        clear K
        go_wp2_with fail
        refine (cloneS_any _ _ _ (sl f) _ hf (sl_oneCell _) (by omega)).mono ?_
        rintro e W8 ⟨v, rfl, ho, K⟩
        obtain ⟨a_h4, c_h4, rfl, h4⟩ := own_rd ho
        clear ho
        replace hT := hT.keep K
        replace hf := hf.keep K
        replace h1 := h1.keep K
        replace h2 := h2.keep K
        replace h3 := h3.keep K
        replace KK := KK.trans K
        clear K
        go_wp2_with fail
        refine (E4.out _ _ _ _ hT h4 (by omega)).mono ?_
        rintro e W9 ⟨v, rfl, hO⟩
        obtain ⟨a_h5, c_h5, rfl, h5⟩ := hO.rd
        have K := hO.2
        clear hO
        replace hT := hT.keep K
        replace hf := hf.keep K
        replace h1 := h1.keep K
        replace h2 := h2.keep K
        replace h3 := h3.keep K
        replace h4 := h4.keep K
        replace KK := KK.trans K
        clear K
        go_wp2_with fail
        refine (E5.out _ _ _ _ hf).mono ?_
        rintro e W10 ⟨rfl, K⟩
        replace hT := hT.keep K
        replace hf := hf.keep K
        replace h1 := h1.keep K
        replace h2 := h2.keep K
        replace h3 := h3.keep K
        replace h4 := h4.keep K
        replace h5 := h5.keep K
        replace KK := KK.trans K
        clear K
        go_wp2_with fail
        go_ret
        exact ⟨rfl, KK⟩
      · skip
        go_enter Tryd.func9, Tryd.ntmps9
        go_wp2_with fail
        refine (awake_any _ hT).mono ?_
        rintro e W1 ⟨rfl, K⟩
        replace hT := hT.keep K
        replace hf := hf.keep K
        replace KK := KK.trans K
        clear K
        go_wp2_with fail
        refine (few_yes _ _ _ _ hn1).mono ?_
        rintro e W2 ⟨rfl, rfl⟩
        go_wp2_with fail
        refine (cloneS_any _ _ _ (sl f) _ hf (sl_oneCell _) (by omega)).mono ?_
        rintro e W3 ⟨v, rfl, ho, K⟩
        obtain ⟨a_h1, c_h1, rfl, h1⟩ := own_rd ho
        clear ho
        replace hT := hT.keep K
        replace hf := hf.keep K
        replace KK := KK.trans K
        clear K
        go_wp2_with fail
        refine (E1.out _ _ _ _ h1 (by omega)).mono ?_
        rintro e W4 ⟨rfl, K⟩
        replace hT := hT.keep K
        replace hf := hf.keep K
        replace h1 := h1.keep K
        replace KK := KK.trans K
        clear K
        go_wp2_with fail
        refine (E2.out _ _ _ _ hf).mono ?_
        rintro e W5 ⟨rfl, K⟩
        replace hT := hT.keep K
        replace hf := hf.keep K
        replace h1 := h1.keep K
        replace KK := KK.trans K
        clear K
        go_wp2_with fail
        refine (cloneS_any _ _ _ (sl f) _ hf (sl_oneCell _) (by omega)).mono ?_
        rintro e W6 ⟨v, rfl, ho, K⟩
        obtain ⟨a_h2, c_h2, rfl, h2⟩ := own_rd ho
        clear ho
        replace hT := hT.keep K
        replace hf := hf.keep K
        replace h1 := h1.keep K
        replace KK := KK.trans K
        clear K
        go_wp2_with fail
        refine (E3.out _ _ _ _ h2 (by omega)).mono ?_
        rintro e W7 ⟨v, rfl, hO⟩
        obtain ⟨a_h3, c_h3, rfl, h3⟩ := hO.rd
        have K := hO.2
        clear hO
        replace hT := hT.keep K
        replace hf := hf.keep K
        replace h1 := h1.keep K
        replace h2 := h2.keep K
        replace KK := KK.trans K
        clear K
        go_wp2_with fail
        refine (cloneS_any _ _ _ (sl f) _ hf (sl_oneCell _) (by omega)).mono ?_
        rintro e W8 ⟨v, rfl, ho, K⟩
        obtain ⟨a_h4, c_h4, rfl, h4⟩ := own_rd ho
        clear ho
        replace hT := hT.keep K
        replace hf := hf.keep K
        replace h1 := h1.keep K
        replace h2 := h2.keep K
        replace h3 := h3.keep K
        replace KK := KK.trans K
        clear K
        go_wp2_with fail
        refine (E4.out _ _ _ _ hT h4 (by omega)).mono ?_
        rintro e W9 ⟨v, rfl, hO⟩
        obtain ⟨a_h5, c_h5, rfl, h5⟩ := hO.rd
        have K := hO.2
        clear hO
        replace hT := hT.keep K
        replace hf := hf.keep K
        replace h1 := h1.keep K
        replace h2 := h2.keep K
        replace h3 := h3.keep K
        replace h4 := h4.keep K
        replace KK := KK.trans K
        clear K
        go_wp2_with fail
        refine (E5.out _ _ _ _ hf).mono ?_
        rintro e W10 ⟨rfl, K⟩
        replace hT := hT.keep K
        replace hf := hf.keep K
        replace h1 := h1.keep K
        replace h2 := h2.keep K
        replace h3 := h3.keep K
        replace h4 := h4.keep K
        replace h5 := h5.keep K
        replace KK := KK.trans K
        clear K
        go_wp2_with fail
        go_ret
        exact ⟨rfl, KK⟩
    · subst h6 h7 h8 h9
      have hv1 : (v == 0) = false := by simpa using hv
      simp only at e6 e7 e8 e9
      have E1 := Lib.hid e1; have E2 := Lib.hid e2; have E3 := Lib.hid e3; have E4 := Lib.hid e4; have E5 := Lib.hid e5; have E6 := Lib.hid e6; have E7 := Lib.hid e7; have E8 := Lib.hid e8; have E9 := Lib.hid e9
      clear e1 e2 e3 e4 e5 e6 e7 e8 e9
      rcases hk' with hk | ⟨hk1, hk2⟩
      · skip
        go_enter Tryd.func9, Tryd.ntmps9
        go_wp2_with fail
        refine (awake_any _ hT).mono ?_
        rintro e W1 ⟨rfl, K⟩
        replace hT := hT.keep K
        replace hf := hf.keep K
        replace KK := KK.trans K
        clear K
        go_wp2_with fail
        refine (few_yes _ _ _ _ hn1).mono ?_
        rintro e W2 ⟨rfl, rfl⟩
        go_wp2_with fail
        refine (cloneS_any _ _ _ (sl f) _ hf (sl_oneCell _) (by omega)).mono ?_
        rintro e W3 ⟨v, rfl, ho, K⟩
        obtain ⟨a_h1, c_h1, rfl, h1⟩ := own_rd ho
        clear ho
        replace hT := hT.keep K
        replace hf := hf.keep K
        replace KK := KK.trans K
        clear K
        go_wp2_with fail
        refine (E1.out _ _ _ _ h1 (by omega)).mono ?_
        rintro e W4 ⟨rfl, K⟩
        replace hT := hT.keep K
        replace hf := hf.keep K
        replace h1 := h1.keep K
        replace KK := KK.trans K
        clear K
        go_wp2_with fail
        refine (E2.out _ _ _ _ hf).mono ?_
        rintro e W5 ⟨rfl, K⟩
        replace hT := hT.keep K
        replace hf := hf.keep K
        replace h1 := h1.keep K
        replace KK := KK.trans K
        clear K
        go_wp2_with fail
        refine (cloneS_any _ _ _ (sl f) _ hf (sl_oneCell _) (by omega)).mono ?_
        rintro e W6 ⟨v, rfl, ho, K⟩
        obtain ⟨a_h2, c_h2, rfl, h2⟩ := own_rd ho
        clear ho
        replace hT := hT.keep K
        replace hf := hf.keep K
        replace h1 := h1.keep K
        replace KK := KK.trans K
        clear K
        go_wp2_with fail
        refine (E3.out _ _ _ _ h2 (by omega)).mono ?_
        rintro e W7 ⟨v, rfl, hO⟩
        obtain ⟨a_h3, c_h3, rfl, h3⟩ := hO.rd
        have K := hO.2
        clear hO
        replace hT := hT.keep K
        replace hf := hf.keep K
        replace h1 := h1.keep K
        replace h2 := h2.keep K
        replace KK := KK.trans K
        clear K
        go_wp2_with fail
        refine (cloneS_any _ _ _ (sl f) _ hf (sl_oneCell _) (by omega)).mono ?_
        rintro e W8 ⟨v, rfl, ho, K⟩
        obtain ⟨a_h4, c_h4, rfl, h4⟩ := own_rd ho
        clear ho
        replace hT := hT.keep K
        replace hf := hf.keep K
        replace h1 := h1.keep K
        replace h2 := h2.keep K
        replace h3 := h3.keep K
        replace KK := KK.trans K
        clear K
        go_wp2_with fail
        refine (E4.out _ _ _ _ hT h4 (by omega)).mono ?_
        rintro e W9 ⟨v, rfl, hO⟩
        obtain ⟨a_h5, c_h5, rfl, h5⟩ := hO.rd
        have K := hO.2
        clear hO
        replace hT := hT.keep K
        replace hf := hf.keep K
        replace h1 := h1.keep K
        replace h2 := h2.keep K
        replace h3 := h3.keep K
        replace h4 := h4.keep K
        replace KK := KK.trans K
        clear K
        go_wp2_with fail
        refine (E5.out _ _ _ _ hf).mono ?_
        rintro e W10 ⟨rfl, K⟩
        replace hT := hT.keep K
        replace hf := hf.keep K
        replace h1 := h1.keep K
        replace h2 := h2.keep K
        replace h3 := h3.keep K
        replace h4 := h4.keep K
        replace h5 := h5.keep K
        replace KK := KK.trans K
        clear K
        go_wp2_with fail
        refine (cloneS_any _ _ _ (sl f) _ hf (sl_oneCell _) (by omega)).mono ?_
        rintro e W11 ⟨v, rfl, ho, K⟩
        obtain ⟨a_h6, c_h6, rfl, h6⟩ := own_rd ho
        clear ho
        replace hT := hT.keep K
        replace hf := hf.keep K
        replace h1 := h1.keep K
        replace h2 := h2.keep K
        replace h3 := h3.keep K
        replace h4 := h4.keep K
        replace h5 := h5.keep K
        replace KK := KK.trans K
        clear K
        go_wp2_with fail
        refine (E6.out _ _ _ _ hT h6).mono ?_
        rintro e W12 ⟨rfl, K⟩
        replace hT := hT.keep K
        replace hf := hf.keep K
        replace h1 := h1.keep K
        replace h2 := h2.keep K
        replace h3 := h3.keep K
        replace h4 := h4.keep K
        replace h5 := h5.keep K
        replace h6 := h6.keep K
        replace KK := KK.trans K
        clear K
        go_wp2_with fail
        refine (cloneS_any _ _ _ (sl f) _ hf (sl_oneCell _) (by omega)).mono ?_
        rintro e W13 ⟨v, rfl, ho, K⟩
        obtain ⟨a_h7, c_h7, rfl, h7⟩ := own_rd ho
        clear ho
        replace hT := hT.keep K
        replace hf := hf.keep K
        replace h1 := h1.keep K
        replace h2 := h2.keep K
        replace h3 := h3.keep K
        replace h4 := h4.keep K
        replace h5 := h5.keep K
        replace h6 := h6.keep K
        replace KK := KK.trans K
        clear K
        go_wp2_with fail
        refine (E7.out _ _ _ _ hT h7).mono ?_
        rintro e W14 ⟨v, rfl, hO⟩
        obtain ⟨a_h8, c_h8, rfl, h8⟩ := hO.rd
        have K := hO.2
        clear hO
        replace hT := hT.keep K
        replace hf := hf.keep K
        replace h1 := h1.keep K
        replace h2 := h2.keep K
        replace h3 := h3.keep K
        replace h4 := h4.keep K
        replace h5 := h5.keep K
        replace h6 := h6.keep K
        replace h7 := h7.keep K
        replace KK := KK.trans K
        clear K
        go_wp2_with fail
        refine (cloneS_any _ _ _ (sl f) _ hf (sl_oneCell _) (by omega)).mono ?_
        rintro e W15 ⟨v, rfl, ho, K⟩
        obtain ⟨a_h9, c_h9, rfl, h9⟩ := own_rd ho
        clear ho
        replace hT := hT.keep K
        replace hf := hf.keep K
        replace h1 := h1.keep K
        replace h2 := h2.keep K
        replace h3 := h3.keep K
        replace h4 := h4.keep K
        replace h5 := h5.keep K
        replace h6 := h6.keep K
        replace h7 := h7.keep K
        replace h8 := h8.keep K
        replace KK := KK.trans K
        clear K
        go_wp2_with fail
        refine (E8.out _ _ _ _ hT h9 (by omega)).mono ?_
        rintro e W16 ⟨rfl, K⟩
        replace hT := hT.keep K
        replace hf := hf.keep K
        replace h1 := h1.keep K
        replace h2 := h2.keep K
        replace h3 := h3.keep K
        replace h4 := h4.keep K
        replace h5 := h5.keep K
        replace h6 := h6.keep K
        replace h7 := h7.keep K
        replace h8 := h8.keep K
        replace h9 := h9.keep K
        replace KK := KK.trans K
        clear K
        go_wp2_with fail
        refine (cloneS_any _ _ _ (sl f) _ hf (sl_oneCell _) (by omega)).mono ?_
        rintro e W17 ⟨v, rfl, ho, K⟩
        obtain ⟨a_h10, c_h10, rfl, h10⟩ := own_rd ho
        clear ho
        replace hT := hT.keep K
        replace hf := hf.keep K
        replace h1 := h1.keep K
        replace h2 := h2.keep K
        replace h3 := h3.keep K
        replace h4 := h4.keep K
        replace h5 := h5.keep K
        replace h6 := h6.keep K
        replace h7 := h7.keep K
        replace h8 := h8.keep K
        replace h9 := h9.keep K
        replace KK := KK.trans K
        clear K
        go_wp2_with fail
        refine (E9.out _ _ _ _ h10 (by omega)).mono ?_
        rintro e W18 ⟨rfl, K⟩
        replace hT := hT.keep K
        replace hf := hf.keep K
        replace h1 := h1.keep K
        replace h2 := h2.keep K
        replace h3 := h3.keep K
        replace h4 := h4.keep K
        replace h5 := h5.keep K
        replace h6 := h6.keep K
        replace h7 := h7.keep K
        replace h8 := h8.keep K
        replace h9 := h9.keep K
        replace h10 := h10.keep K
        replace KK := KK.trans K
        clear K
        go_wp2_with fail
        go_ret
        exact ⟨rfl, KK⟩
      · skip
        go_enter Tryd.func9, Tryd.ntmps9
        go_wp2_with fail
        refine (awake_any _ hT).mono ?_
        rintro e W1 ⟨rfl, K⟩
        replace hT := hT.keep K
        replace hf := hf.keep K
        replace KK := KK.trans K
        clear K
        go_wp2_with fail
        refine (few_yes _ _ _ _ hn1).mono ?_
        rintro e W2 ⟨rfl, rfl⟩
        go_wp2_with fail
        refine (cloneS_any _ _ _ (sl f) _ hf (sl_oneCell _) (by omega)).mono ?_
        rintro e W3 ⟨v, rfl, ho, K⟩
        obtain ⟨a_h1, c_h1, rfl, h1⟩ := own_rd ho
        clear ho
        replace hT := hT.keep K
        replace hf := hf.keep K
        replace KK := KK.trans K
        clear K
        go_wp2_with fail
        refine (E1.out _ _ _ _ h1 (by omega)).mono ?_
        rintro e W4 ⟨rfl, K⟩
        replace hT := hT.keep K
        replace hf := hf.keep K
        replace h1 := h1.keep K
        replace KK := KK.trans K
        clear K
        go_wp2_with fail
        refine (E2.out _ _ _ _ hf).mono ?_
        rintro e W5 ⟨rfl, K⟩
        replace hT := hT.keep K
        replace hf := hf.keep K
        replace h1 := h1.keep K
        replace KK := KK.trans K
        clear K
        go_wp2_with fail
        refine (cloneS_any _ _ _ (sl f) _ hf (sl_oneCell _) (by omega)).mono ?_
        rintro e W6 ⟨v, rfl, ho, K⟩
        obtain ⟨a_h2, c_h2, rfl, h2⟩ := own_rd ho
        clear ho
        replace hT := hT.keep K
        replace hf := hf.keep K
        replace h1 := h1.keep K
        replace KK := KK.trans K
        clear K
        go_wp2_with fail
        refine (E3.out _ _ _ _ h2 (by omega)).mono ?_
        rintro e W7 ⟨v, rfl, hO⟩
        obtain ⟨a_h3, c_h3, rfl, h3⟩ := hO.rd
        have K := hO.2
        clear hO
        replace hT := hT.keep K
        replace hf := hf.keep K
        replace h1 := h1.keep K
        replace h2 := h2.keep K
        replace KK := KK.trans K
        clear K
        go_wp2_with fail
        refine (cloneS_any _ _ _ (sl f) _ hf (sl_oneCell _) (by omega)).mono ?_
        rintro e W8 ⟨v, rfl, ho, K⟩
        obtain ⟨a_h4, c_h4, rfl, h4⟩ := own_rd ho
        clear ho
        replace hT := hT.keep K
        replace hf := hf.keep K
        replace h1 := h1.keep K
        replace h2 := h2.keep K
        replace h3 := h3.keep K
        replace KK := KK.trans K
        clear K
        go_wp2_with fail
        refine (E4.out _ _ _ _ hT h4 (by omega)).mono ?_
        rintro e W9 ⟨v, rfl, hO⟩
        obtain ⟨a_h5, c_h5, rfl, h5⟩ := hO.rd
        have K := hO.2
        clear hO
        replace hT := hT.keep K
        replace hf := hf.keep K
        replace h1 := h1.keep K
        replace h2 := h2.keep K
        replace h3 := h3.keep K
        replace h4 := h4.keep K
        replace KK := KK.trans K
        clear K
        go_wp2_with fail
        refine (E5.out _ _ _ _ hf).mono ?_
        rintro e W10 ⟨rfl, K⟩
        replace hT := hT.keep K
        replace hf := hf.keep K
        replace h1 := h1.keep K
        replace h2 := h2.keep K
        replace h3 := h3.keep K
        replace h4 := h4.keep K
        replace h5 := h5.keep K
        replace KK := KK.trans K
        clear K
        go_wp2_with fail
        refine (cloneS_any _ _ _ (sl f) _ hf (sl_oneCell _) (by omega)).mono ?_
        rintro e W11 ⟨v, rfl, ho, K⟩
        obtain ⟨a_h6, c_h6, rfl, h6⟩ := own_rd ho
        clear ho
        replace hT := hT.keep K
        replace hf := hf.keep K
        replace h1 := h1.keep K
        replace h2 := h2.keep K
        replace h3 := h3.keep K
        replace h4 := h4.keep K
        replace h5 := h5.keep K
        replace KK := KK.trans K
        clear K
        go_wp2_with fail
        refine (E6.out _ _ _ _ hT h6).mono ?_
        rintro e W12 ⟨rfl, K⟩
        replace hT := hT.keep K
        replace hf := hf.keep K
        replace h1 := h1.keep K
        replace h2 := h2.keep K
        replace h3 := h3.keep K
        replace h4 := h4.keep K
        replace h5 := h5.keep K
        replace h6 := h6.keep K
        replace KK := KK.trans K
        clear K
        go_wp2_with fail
        refine (cloneS_any _ _ _ (sl f) _ hf (sl_oneCell _) (by omega)).mono ?_
        rintro e W13 ⟨v, rfl, ho, K⟩
        obtain ⟨a_h7, c_h7, rfl, h7⟩ := own_rd ho
        clear ho
        replace hT := hT.keep K
        replace hf := hf.keep K
        replace h1 := h1.keep K
        replace h2 := h2.keep K
        replace h3 := h3.keep K
        replace h4 := h4.keep K
        replace h5 := h5.keep K
        replace h6 := h6.keep K
        replace KK := KK.trans K
        clear K
        go_wp2_with fail
        refine (E7.out _ _ _ _ hT h7).mono ?_
        rintro e W14 ⟨v, rfl, hO⟩
        obtain ⟨a_h8, c_h8, rfl, h8⟩ := hO.rd
        have K := hO.2
        clear hO
        replace hT := hT.keep K
        replace hf := hf.keep K
        replace h1 := h1.keep K
        replace h2 := h2.keep K
        replace h3 := h3.keep K
        replace h4 := h4.keep K
        replace h5 := h5.keep K
        replace h6 := h6.keep K
        replace h7 := h7.keep K
        replace KK := KK.trans K
        clear K
        go_wp2_with fail
        refine (cloneS_any _ _ _ (sl f) _ hf (sl_oneCell _) (by omega)).mono ?_
        rintro e W15 ⟨v, rfl, ho, K⟩
        obtain ⟨a_h9, c_h9, rfl, h9⟩ := own_rd ho
        clear ho
        replace hT := hT.keep K
        replace hf := hf.keep K
        replace h1 := h1.keep K
        replace h2 := h2.keep K
        replace h3 := h3.keep K
        replace h4 := h4.keep K
        replace h5 := h5.keep K
        replace h6 := h6.keep K
        replace h7 := h7.keep K
        replace h8 := h8.keep K
        replace KK := KK.trans K
        clear K
        go_wp2_with fail
        refine (E8.out _ _ _ _ hT h9 (by omega)).mono ?_
        rintro e W16 ⟨rfl, K⟩
        replace hT := hT.keep K
        replace hf := hf.keep K
        replace h1 := h1.keep K
        replace h2 := h2.keep K
        replace h3 := h3.keep K
        replace h4 := h4.keep K
        replace h5 := h5.keep K
        replace h6 := h6.keep K
        replace h7 := h7.keep K
        replace h8 := h8.keep K
        replace h9 := h9.keep K
        replace KK := KK.trans K
        clear K
        go_wp2_with fail
        refine (cloneS_any _ _ _ (sl f) _ hf (sl_oneCell _) (by omega)).mono ?_
        rintro e W17 ⟨v, rfl, ho, K⟩
        obtain ⟨a_h10, c_h10, rfl, h10⟩ := own_rd ho
        clear ho
        replace hT := hT.keep K
        replace hf := hf.keep K
        replace h1 := h1.keep K
        replace h2 := h2.keep K
        replace h3 := h3.keep K
        replace h4 := h4.keep K
        replace h5 := h5.keep K
        replace h6 := h6.keep K
        replace h7 := h7.keep K
        replace h8 := h8.keep K
        replace h9 := h9.keep K
        replace KK := KK.trans K
        clear K
        go_wp2_with fail
        refine (E9.out _ _ _ _ h10 (by omega)).mono ?_
        rintro e W18 ⟨rfl, K⟩
        replace hT := hT.keep K
        replace hf := hf.keep K
        replace h1 := h1.keep K
        replace h2 := h2.keep K
        replace h3 := h3.keep K
        replace h4 := h4.keep K
        replace h5 := h5.keep K
        replace h6 := h6.keep K
        replace h7 := h7.keep K
        replace h8 := h8.keep K
        replace h9 := h9.keep K
        replace h10 := h10.keep K
        replace KK := KK.trans K
        clear K
        go_wp2_with fail
        go_ret
        exact ⟨rfl, KK⟩
end Go.Proofs.YtbiggfbbccpcmaaDoor
