/- The examples of the chapter dissemination hold. -/
import Derived.Test.YtnkknjpnkobplaaSubset
import Derived.Test.YtnkknjpnkobplaaRefCanon
import Derived.Test.YtnkknjpnkobplaaAvail
import Derived.BigGuard
namespace Go.Proofs.Ytnkknjpnkobplaa
open Go.RowKit Go.Lib Go.Shelf

theorem ex_canon : canonS 4 [1#16, 2#16, 4#16, 8#16] = ([7#16, 11#16, 13#16, 14#16], 0) := by
  have h : canonS 4 [1#16, 2#16, 4#16, 8#16] = minimalS (compl 4 [1#16, 2#16, 4#16, 8#16]) := rfl
  rw [h]
  unfold minimalS
  rw [if_neg (by decide +kernel), least_same]
  decide +kernel
theorem ex_cover : covRes 3 [1#16, 2#16, 4#16] 3 = ([1#16, 2#16, 4#16], 0) := by decide +kernel
theorem ex_dis : disOK [1#16, 2#16, 4#16, 8#16] [7#16, 11#16, 13#16, 14#16] = true := by decide +kernel
theorem ex_mask : maskOK [1#16, 2#16, 4#16, 8#16] [7#16, 11#16, 13#16, 14#16] = false := by decide +kernel

set_option maxHeartbeats 800000 in
theorem awake_any (w : World) : Calls Try.prog 10 #[] w fun e w' => e = .returned (.bool true) ∧ Keeps w w' := by
  go_enter Try.func10, Try.ntmps10
  go_wp2_with fail
  have hb := rd_new 26 1 w [.int .u16 1, .int .u16 2, .int .u16 4, .int .u16 8] 4 (by decide) rfl
  have k1 := (Keeps.refl w).alloc (.cells #[.int .u16 1, .int .u16 2, .int .u16 4, .int .u16 8] 26)
  refine (cloneS_any _ _ _ (sl [1#16, 2#16, 4#16, 8#16]) _ hb (sl_oneCell _) (by decide)).mono ?_
  rintro e w1 ⟨v1, rfl, ho1, k2⟩
  obtain ⟨a1, c1, rfl, hr1⟩ := own_rd ho1
  go_wp2_with fail
  refine (canonical_any 4 _ _ _ [1#16, 2#16, 4#16, 8#16] _ hr1 (by decide)).mono ?_
  rintro e w2 ⟨v2, he, hO2⟩
  rw [ex_canon] at he hO2
  subst he
  obtain ⟨a2, c2, rfl, hr2⟩ := hO2.rd
  go_wp2_with fail
  refine (Cover_any _ _ _ [1#16, 2#16, 4#16] _ 3 3 (rd_new _ 1 _ [.int .u16 1, .int .u16 2, .int .u16 4] 3 (by decide) rfl) (by decide)).mono ?_
  rintro e w3 ⟨v3, he, hO3⟩
  rw [ex_cover] at he hO3
  subst he
  obtain ⟨a3, c3, rfl, hr3⟩ := hO3.rd
  have k3 : Keeps w2 w3 := ((Keeps.refl _).alloc _).trans hO3.2
  go_wp2_with fail
  have k4 := (Keeps.refl w3).alloc (.cells #[.int .u16 7, .int .u16 11, .int .u16 13, .int .u16 14] 26)
  refine (same_any _ _ _ _ _ _ [7#16, 11#16, 13#16, 14#16] [7#16, 11#16, 13#16, 14#16] _ ((hr2.keep k3).keep k4) (rd_new _ 1 _ [.int .u16 7, .int .u16 11, .int .u16 13, .int .u16 14] 4 (by decide) rfl)).mono ?_
  rintro e w5 ⟨he, k5⟩
  rw [beq_self_eq_true] at he
  subst he
  go_wp2_with fail
  have kb : Keeps (w.alloc (.cells #[.int .u16 1, .int .u16 2, .int .u16 4, .int .u16 8] 26)) w5 := (((k2.trans hO2.2).trans k3).trans k4).trans k5
  have k25 : Keeps w2 w5 := (k3.trans k4).trans k5
  refine (cloneS_any _ _ _ (sl [1#16, 2#16, 4#16, 8#16]) _ (hb.keep kb) (sl_oneCell _) (by decide)).mono ?_
  rintro e w6 ⟨v6, rfl, ho6, k6⟩
  obtain ⟨a6, c6, rfl, hr6⟩ := own_rd ho6
  go_wp2_with fail
  refine (dis_any _ _ _ _ _ _ [7#16, 11#16, 13#16, 14#16] [1#16, 2#16, 4#16, 8#16] _ ((hr2.keep k25).keep k6) hr6).mono ?_
  rintro e w' ⟨he, rfl⟩
  rw [ex_dis] at he
  subst he
  go_wp2_with fail
  refine (cloneS_any _ _ _ (sl [1#16, 2#16, 4#16, 8#16]) _ ((hb.keep kb).keep k6) (sl_oneCell _) (by decide)).mono ?_
  rintro e w7 ⟨v7, rfl, ho7, k7⟩
  obtain ⟨a7, c7, rfl, hr7⟩ := own_rd ho7
  go_wp2_with fail
  refine (mask_any _ _ _ _ _ _ [7#16, 11#16, 13#16, 14#16] [1#16, 2#16, 4#16, 8#16] _ (((hr2.keep k25).keep k6).keep k7) hr7).mono ?_
  rintro e w' ⟨he, rfl⟩
  rw [ex_mask] at he
  subst he
  go_wp2_with fail
  have k8 := (Keeps.refl w7).alloc (.cells #[.int .u16 1, .int .u16 2, .int .u16 4] 26)
  refine (same_any _ _ _ _ _ _ [1#16, 2#16, 4#16] [1#16, 2#16, 4#16] _ ((((((hr3.keep k4).keep k5).keep k6).keep k7)).keep k8) (rd_new _ 1 _ [.int .u16 1, .int .u16 2, .int .u16 4] 3 (by decide) rfl)).mono ?_
  rintro e w9 ⟨he, k9⟩
  rw [beq_self_eq_true] at he
  subst he
  go_wp2_with fail
  go_ret
  exact ⟨rfl, k1.trans ((((kb.trans k6).trans k7).trans k8).trans k9)⟩
end Go.Proofs.Ytnkknjpnkobplaa
