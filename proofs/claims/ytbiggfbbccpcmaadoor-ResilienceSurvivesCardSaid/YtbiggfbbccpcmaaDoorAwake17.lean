/- The examples of the layer resilience: awake answers true. -/
import Derived.Test.YtbiggfbbccpcmaaDoorM17c
namespace Go.Proofs.YtbiggfbbccpcmaaDoor
open Go.RowKit Go.Lib Go.Shelf

theorem of356 : ofErr [3#16, 5#16, 6#16] = (1, 0) := by decide +kernel
theorem of16 : ofErr [1#16, 6#16] = (1, 0) := by decide +kernel
theorem worst16 : worstErr [1#16, 6#16] = ([3#16, 5#16], 0) := by decide +kernel
theorem cls16 : clsErr [1#16, 6#16] 3 = ([1#16, 6#16], 0) := by decide +kernel
theorem infl16 : inflErr [1#16, 6#16] 3 = ([3, 1, 1], 0) := by decide +kernel
theorem infl356 : inflErr [3#16, 5#16, 6#16] 3 = ([2, 2, 2], 0) := by decide +kernel

set_option maxHeartbeats 1600000 in
theorem awake_any (w : World) (hT : Tab w) : Calls Tryd.prog 11 #[] w fun e w' => e = .returned (.bool true) ∧ Keeps w w' := by
  have e1 := fun a n c W t h => of_any a n c [3#16, 5#16, 6#16] W t h
  rw [of356] at e1
  have e2 := fun a n c W t h => of_any a n c [1#16, 6#16] W t h
  rw [of16] at e2
  have e3 := fun a n c W t h => worst_any a n c [1#16, 6#16] W t h
  rw [worst16] at e3
  have e4 := fun a n c W h => classes_any a n c [1#16, 6#16] 3 W h (by have := h.lenS; simp at this; omega)
  rw [cls16] at e4
  have e5 := fun a n c W t h => influence_any a n c [1#16, 6#16] 3 W t h (by have := h.lenS; simp at this; omega)
  rw [infl16] at e5
  have e6 := fun a n c W t h => influence_any a n c [3#16, 5#16, 6#16] 3 W t h (by have := h.lenS; simp at this; omega)
  rw [infl356] at e6
  unfold RetI at e1 e2
  unfold RetS at e4
  simp only at e1 e2 e3 e4 e5 e6
  have E1 := Lib.hid e1; have E2 := Lib.hid e2; have E3 := Lib.hid e3; have E4 := Lib.hid e4; have E5 := Lib.hid e5; have E6 := Lib.hid e6
  clear e1 e2 e3 e4 e5 e6
  have KK := Keeps.refl w
  go_enter Tryd.func11, Tryd.ntmps11
  go_wp2_with fail
  have h1 := rd_new 31 1 w [.int .u16 1, .int .u16 6] 2 (by decide) rfl
  have K := (Keeps.refl w).alloc (.cells #[.int .u16 1, .int .u16 6] 31)
  replace hT := hT.keep K
  replace KK := KK.trans K
  clear K
  have h2 := rd_new 31 1 (w.alloc (.cells #[.int .u16 1, .int .u16 6] 31)) [.int .u16 3, .int .u16 5, .int .u16 6] 3 (by decide) rfl
  have K := (Keeps.refl (w.alloc (.cells #[.int .u16 1, .int .u16 6] 31))).alloc (.cells #[.int .u16 3, .int .u16 5, .int .u16 6] 31)
  replace hT := hT.keep K
  replace h1 := h1.keep K
  replace KK := KK.trans K
  clear K
  rw [World.size_alloc] at h2
  refine (E1.out _ _ _ _ hT h2).mono ?_
  rintro e W1 ⟨rfl, K⟩
  replace hT := hT.keep K
  replace h1 := h1.keep K
  replace h2 := h2.keep K
  replace KK := KK.trans K
  clear K
  go_wp2_with fail
  refine (cloneS_any _ _ _ (sl [1#16, 6#16]) _ h1 (sl_oneCell _) (by omega)).mono ?_
  rintro e W2 ⟨v, rfl, ho, K⟩
  obtain ⟨a_h3, c_h3, rfl, h3⟩ := own_rd ho
  clear ho
  replace hT := hT.keep K
  replace h1 := h1.keep K
  replace h2 := h2.keep K
  replace KK := KK.trans K
  clear K
  go_wp2_with fail
  refine (E2.out _ _ _ _ hT h3).mono ?_
  rintro e W3 ⟨rfl, K⟩
  replace hT := hT.keep K
  replace h1 := h1.keep K
  replace h2 := h2.keep K
  replace h3 := h3.keep K
  replace KK := KK.trans K
  clear K
  go_wp2_with fail
  refine (cloneS_any _ _ _ (sl [1#16, 6#16]) _ h1 (sl_oneCell _) (by omega)).mono ?_
  rintro e W4 ⟨v, rfl, ho, K⟩
  obtain ⟨a_h4, c_h4, rfl, h4⟩ := own_rd ho
  clear ho
  replace hT := hT.keep K
  replace h1 := h1.keep K
  replace h2 := h2.keep K
  replace h3 := h3.keep K
  replace KK := KK.trans K
  clear K
  go_wp2_with fail
  refine (E3.out _ _ _ _ hT h4).mono ?_
  rintro e W5 ⟨v, rfl, hO⟩
  obtain ⟨a_h5, c_h5, rfl, h5⟩ := hO.rd
  have K := hO.2
  clear hO
  replace hT := hT.keep K
  replace h1 := h1.keep K
  replace h2 := h2.keep K
  replace h3 := h3.keep K
  replace h4 := h4.keep K
  replace KK := KK.trans K
  clear K
  go_wp2_with fail
  refine (cloneS_any _ _ _ (sl [1#16, 6#16]) _ h1 (sl_oneCell _) (by omega)).mono ?_
  rintro e W6 ⟨v, rfl, ho, K⟩
  obtain ⟨a_h6, c_h6, rfl, h6⟩ := own_rd ho
  clear ho
  replace hT := hT.keep K
  replace h1 := h1.keep K
  replace h2 := h2.keep K
  replace h3 := h3.keep K
  replace h4 := h4.keep K
  replace h5 := h5.keep K
  replace KK := KK.trans K
  clear K
  go_wp2_with fail
  refine (E4.out _ _ _ _ h6).mono ?_
  rintro e W7 ⟨v, rfl, hO⟩
  obtain ⟨a_h7, c_h7, rfl, h7⟩ := hO.rd
  have K := hO.2
  clear hO
  replace hT := hT.keep K
  replace h1 := h1.keep K
  replace h2 := h2.keep K
  replace h3 := h3.keep K
  replace h4 := h4.keep K
  replace h5 := h5.keep K
  replace h6 := h6.keep K
  replace KK := KK.trans K
  clear K
  go_wp2_with fail
  refine (cloneS_any _ _ _ (sl [1#16, 6#16]) _ h1 (sl_oneCell _) (by omega)).mono ?_
  rintro e W8 ⟨v, rfl, ho, K⟩
  obtain ⟨a_h8, c_h8, rfl, h8⟩ := own_rd ho
  clear ho
  replace hT := hT.keep K
  replace h1 := h1.keep K
  replace h2 := h2.keep K
  replace h3 := h3.keep K
  replace h4 := h4.keep K
  replace h5 := h5.keep K
  replace h6 := h6.keep K
  replace h7 := h7.keep K
  replace KK := KK.trans K
  clear K
  go_wp2_with fail
  refine (E5.out _ _ _ _ hT h8).mono ?_
  rintro e W9 ⟨v, rfl, hO⟩
  obtain ⟨a_h9, c_h9, rfl, h9⟩ := hO.rd
  have K := hO.2
  clear hO
  replace hT := hT.keep K
  replace h1 := h1.keep K
  replace h2 := h2.keep K
  replace h3 := h3.keep K
  replace h4 := h4.keep K
  replace h5 := h5.keep K
  replace h6 := h6.keep K
  replace h7 := h7.keep K
  replace h8 := h8.keep K
  replace KK := KK.trans K
  clear K
  go_wp2_with fail
  have h10 := rd_new 31 1 W9 [.int .u16 3, .int .u16 5, .int .u16 6] 3 (by decide) rfl
  have K := (Keeps.refl W9).alloc (.cells #[.int .u16 3, .int .u16 5, .int .u16 6] 31)
  replace hT := hT.keep K
  replace h1 := h1.keep K
  replace h2 := h2.keep K
  replace h3 := h3.keep K
  replace h4 := h4.keep K
  replace h5 := h5.keep K
  replace h6 := h6.keep K
  replace h7 := h7.keep K
  replace h8 := h8.keep K
  replace h9 := h9.keep K
  replace KK := KK.trans K
  clear K
  refine (E6.out _ _ _ _ hT h10).mono ?_
  rintro e W10 ⟨v, rfl, hO⟩
  obtain ⟨a_h11, c_h11, rfl, h11⟩ := hO.rd
  have K := hO.2
  clear hO
  replace hT := hT.keep K
  replace h1 := h1.keep K
  replace h2 := h2.keep K
  replace h3 := h3.keep K
  replace h4 := h4.keep K
  replace h5 := h5.keep K
  replace h6 := h6.keep K
  replace h7 := h7.keep K
  replace h8 := h8.keep K
  replace h9 := h9.keep K
  replace h10 := h10.keep K
  replace KK := KK.trans K
  clear K
  go_wp2_with fail
  have h12 := rd_new 31 1 W10 [.int .u16 3, .int .u16 5] 2 (by decide) rfl
  have K := (Keeps.refl W10).alloc (.cells #[.int .u16 3, .int .u16 5] 31)
  replace hT := hT.keep K
  replace h1 := h1.keep K
  replace h2 := h2.keep K
  replace h3 := h3.keep K
  replace h4 := h4.keep K
  replace h5 := h5.keep K
  replace h6 := h6.keep K
  replace h7 := h7.keep K
  replace h8 := h8.keep K
  replace h9 := h9.keep K
  replace h10 := h10.keep K
  replace h11 := h11.keep K
  replace KK := KK.trans K
  clear K
  refine (rSame_any _ _ _ [3#16, 5#16] _ _ _ [3#16, 5#16] _ h5 h12).mono ?_
  rintro e W11 ⟨he, K⟩
  rw [eqS_iff, decide_eq_true rfl] at he
  subst he
  replace hT := hT.keep K
  replace h1 := h1.keep K
  replace h2 := h2.keep K
  replace h3 := h3.keep K
  replace h4 := h4.keep K
  replace h5 := h5.keep K
  replace h6 := h6.keep K
  replace h7 := h7.keep K
  replace h8 := h8.keep K
  replace h9 := h9.keep K
  replace h10 := h10.keep K
  replace h11 := h11.keep K
  replace h12 := h12.keep K
  replace KK := KK.trans K
  clear K
  go_wp2_with fail
  have h13 := rd_new 31 1 W11 [.int .u16 1, .int .u16 6] 2 (by decide) rfl
  have K := (Keeps.refl W11).alloc (.cells #[.int .u16 1, .int .u16 6] 31)
  replace hT := hT.keep K
  replace h1 := h1.keep K
  replace h2 := h2.keep K
  replace h3 := h3.keep K
  replace h4 := h4.keep K
  replace h5 := h5.keep K
  replace h6 := h6.keep K
  replace h7 := h7.keep K
  replace h8 := h8.keep K
  replace h9 := h9.keep K
  replace h10 := h10.keep K
  replace h11 := h11.keep K
  replace h12 := h12.keep K
  replace KK := KK.trans K
  clear K
  refine (rSame_any _ _ _ [1#16, 6#16] _ _ _ [1#16, 6#16] _ h7 h13).mono ?_
  rintro e W12 ⟨he, K⟩
  rw [eqS_iff, decide_eq_true rfl] at he
  subst he
  replace hT := hT.keep K
  replace h1 := h1.keep K
  replace h2 := h2.keep K
  replace h3 := h3.keep K
  replace h4 := h4.keep K
  replace h5 := h5.keep K
  replace h6 := h6.keep K
  replace h7 := h7.keep K
  replace h8 := h8.keep K
  replace h9 := h9.keep K
  replace h10 := h10.keep K
  replace h11 := h11.keep K
  replace h12 := h12.keep K
  replace h13 := h13.keep K
  replace KK := KK.trans K
  clear K
  go_wp2_with fail
  have h14 := rd_new 2 1 W12 [.int .i64 3, .int .i64 1, .int .i64 1] 3 (by decide) rfl
  have K := (Keeps.refl W12).alloc (.cells #[.int .i64 3, .int .i64 1, .int .i64 1] 2)
  replace hT := hT.keep K
  replace h1 := h1.keep K
  replace h2 := h2.keep K
  replace h3 := h3.keep K
  replace h4 := h4.keep K
  replace h5 := h5.keep K
  replace h6 := h6.keep K
  replace h7 := h7.keep K
  replace h8 := h8.keep K
  replace h9 := h9.keep K
  replace h10 := h10.keep K
  replace h11 := h11.keep K
  replace h12 := h12.keep K
  replace h13 := h13.keep K
  replace KK := KK.trans K
  clear K
  refine (numbers_any _ _ _ [3, 1, 1] _ _ _ [3, 1, 1] _ h9 h14).mono ?_
  rintro e W13 ⟨he, K⟩
  rw [sameN_refl] at he
  subst he
  replace hT := hT.keep K
  replace h1 := h1.keep K
  replace h2 := h2.keep K
  replace h3 := h3.keep K
  replace h4 := h4.keep K
  replace h5 := h5.keep K
  replace h6 := h6.keep K
  replace h7 := h7.keep K
  replace h8 := h8.keep K
  replace h9 := h9.keep K
  replace h10 := h10.keep K
  replace h11 := h11.keep K
  replace h12 := h12.keep K
  replace h13 := h13.keep K
  replace h14 := h14.keep K
  replace KK := KK.trans K
  clear K
  go_wp2_with fail
  have h15 := rd_new 2 1 W13 [.int .i64 2, .int .i64 2, .int .i64 2] 3 (by decide) rfl
  have K := (Keeps.refl W13).alloc (.cells #[.int .i64 2, .int .i64 2, .int .i64 2] 2)
  replace hT := hT.keep K
  replace h1 := h1.keep K
  replace h2 := h2.keep K
  replace h3 := h3.keep K
  replace h4 := h4.keep K
  replace h5 := h5.keep K
  replace h6 := h6.keep K
  replace h7 := h7.keep K
  replace h8 := h8.keep K
  replace h9 := h9.keep K
  replace h10 := h10.keep K
  replace h11 := h11.keep K
  replace h12 := h12.keep K
  replace h13 := h13.keep K
  replace h14 := h14.keep K
  replace KK := KK.trans K
  clear K
  refine (numbers_any _ _ _ [2, 2, 2] _ _ _ [2, 2, 2] _ h11 h15).mono ?_
  rintro e W14 ⟨he, K⟩
  rw [sameN_refl] at he
  subst he
  replace hT := hT.keep K
  replace h1 := h1.keep K
  replace h2 := h2.keep K
  replace h3 := h3.keep K
  replace h4 := h4.keep K
  replace h5 := h5.keep K
  replace h6 := h6.keep K
  replace h7 := h7.keep K
  replace h8 := h8.keep K
  replace h9 := h9.keep K
  replace h10 := h10.keep K
  replace h11 := h11.keep K
  replace h12 := h12.keep K
  replace h13 := h13.keep K
  replace h14 := h14.keep K
  replace h15 := h15.keep K
  replace KK := KK.trans K
  clear K
  go_wp2_with fail
  go_ret
  exact ⟨rfl, KK⟩
end Go.Proofs.YtbiggfbbccpcmaaDoor
