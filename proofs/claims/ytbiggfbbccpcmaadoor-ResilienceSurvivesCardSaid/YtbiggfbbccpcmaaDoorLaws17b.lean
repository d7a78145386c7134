/- The walks of the statements of the layer resilience: each answers true and keeps what lay there. -/
import Derived.Test.YtbiggfbbccpcmaaDoorAwake17
namespace Go.Proofs.YtbiggfbbccpcmaaDoor
open Go.RowKit Go.Lib Go.Shelf

@[go_sem] theorem sv_4095andNot (x : S) : bits .andNot .u16 4095 (sv x) = sv (4095#16 &&& ~~~x) := sv_andNot 4095#16 x

set_option maxRecDepth 20000 in
set_option maxHeartbeats 6000000 in
theorem ResilienceSurvives_any (a : Option Addr) (n c : Nat) (l : List B8) (fs : S) (w : World) (hT : Tab w) (hl : Rd w a n c 1 (bl l)) :
    Calls Tryd.prog 4 #[.slice a n c, .int .u16 (sv fs)] w fun e w' => e = .returned (.bool true) ∧ Keeps w w' := by
  have KK := Keeps.refl w
  have hmf := fun W => made_any a n c l W
  have q1f := made_fam l
  have q2f := made_low l
  have lenf := made_len l
  generalize madeS l = f at *
  have HMf := Lib.hid hmf; have FAf := Lib.hid q1f; have LOf := Lib.hid q2f
  clear hmf q1f q2f
  have hok := survives_ok FAf.out LOf.out fs
  have e1 := fun a n c W t h => of_any a n c f W t h
  have e2 := fun a n c W t h => worst_any a n c f W t h
  generalize ofErr f = r at *
  obtain ⟨x, z⟩ := r
  generalize worstErr f = q at *
  obtain ⟨y, v⟩ := q
  unfold RetI at e1
  simp only at e1 e2 hok
  have E1 := Lib.hid e1; have E2 := Lib.hid e2
  clear e1 e2
  have hcases : (z ≠ 0 ∧ (f.length = 0 ∨ 0 < f.length ∧ at_ f 0 = 0#16)) ∨ (z = 0 ∧ v ≠ 0 ∧ (f.length = 0 ∨ 0 < f.length ∧ at_ f 0 = 0#16)) ∨
      (z = 0 ∧ v = 0 ∧ (∀ s ∈ y, accS f (4095#16 &&& ~~~s) = false ∧ (cnt s : Int) = x + 1) ∧ (x < (cnt fs : Int) ∨ accS f (4095#16 &&& ~~~fs) = true)) := by
    rcases hok with ⟨h1, h2⟩ | ⟨⟨h1, h2⟩, h3, h4⟩
    · have h5 : f.length = 0 ∨ 0 < f.length ∧ at_ f 0 = 0#16 := by
        rcases h2 with h2 | h2
        · exact .inl h2
        · by_cases h0 : f.length = 0
          · exact .inl h0
          · exact .inr ⟨by omega, h2⟩
      by_cases hz : z = 0
      · exact .inr (.inl ⟨hz, by rcases h1 with h1 | h1; exact absurd hz h1; exact h1, h5⟩)
      · exact .inl ⟨hz, h5⟩
    · exact .inr (.inr ⟨h1, h2, h3, h4⟩)
  clear hok
  rcases hcases with ⟨hz, h5⟩ | ⟨hz, hv, h5⟩ | ⟨hz, hv, h3, h4⟩
  · have hz1 : (z != 0) = true := by simpa using hz
    rcases h5 with h5 | ⟨h5, h6⟩
    all_goals (have H5 := Lib.hid h5; clear h5)
    · skip
      go_enter Tryd.func4, Tryd.ntmps4
      go_wp2_with fail
      refine (HMf.out _ hl).mono ?_
      rintro e W1 ⟨v, rfl, hO⟩
      obtain ⟨a_hf, c_hf, rfl, hf⟩ := hO.rd
      have K := hO.2
      clear hO
      replace hT := hT.keep K
      replace hl := hl.keep K
      replace KK := KK.trans K
      clear K
      go_wp2_with fail
      refine (awake_any _ hT).mono ?_
      rintro e W2 ⟨rfl, K⟩
      replace hT := hT.keep K
      replace hl := hl.keep K
      replace hf := hf.keep K
      replace KK := KK.trans K
      clear K
      go_wp2_with fail
      refine (cloneS_any _ _ _ (sl f) _ hf (sl_oneCell _) (by omega)).mono ?_
      rintro e W3 ⟨v, rfl, ho, K⟩
      obtain ⟨a_h1, c_h1, rfl, h1⟩ := own_rd ho
      clear ho
      replace hT := hT.keep K
      replace hl := hl.keep K
      replace hf := hf.keep K
      replace KK := KK.trans K
      clear K
      go_wp2_with fail
      refine (E1.out _ _ _ _ hT h1).mono ?_
      rintro e W4 ⟨rfl, K⟩
      replace hT := hT.keep K
      replace hl := hl.keep K
      replace hf := hf.keep K
      replace h1 := h1.keep K
      replace KK := KK.trans K
      clear K
      go_wp2_with fail
      refine (cloneS_any _ _ _ (sl f) _ hf (sl_oneCell _) (by omega)).mono ?_
      rintro e W5 ⟨v, rfl, ho, K⟩
      obtain ⟨a_h2, c_h2, rfl, h2⟩ := own_rd ho
      clear ho
      replace hT := hT.keep K
      replace hl := hl.keep K
      replace hf := hf.keep K
      replace h1 := h1.keep K
      replace KK := KK.trans K
      clear K
      go_wp2_with fail
      refine (E2.out _ _ _ _ hT h2).mono ?_
      rintro e W6 ⟨v, rfl, hO⟩
      obtain ⟨a_hw, c_hw, rfl, hw⟩ := hO.rd
      have K := hO.2
      clear hO
      replace hT := hT.keep K
      replace hl := hl.keep K
      replace hf := hf.keep K
      replace h1 := h1.keep K
      replace h2 := h2.keep K
      replace KK := KK.trans K
      clear K
      have hL : ((f.length : Int) == 0) = true := by have := H5.out; rw [beq_iff_eq]; omega
      go_wp2_with fail
      go_ret
      exact ⟨rfl, KK⟩
    · skip
      go_enter Tryd.func4, Tryd.ntmps4
      go_wp2_with fail
      refine (HMf.out _ hl).mono ?_
      rintro e W1 ⟨v, rfl, hO⟩
      obtain ⟨a_hf, c_hf, rfl, hf⟩ := hO.rd
      have K := hO.2
      clear hO
      replace hT := hT.keep K
      replace hl := hl.keep K
      replace KK := KK.trans K
      clear K
      go_wp2_with fail
      refine (awake_any _ hT).mono ?_
      rintro e W2 ⟨rfl, K⟩
      replace hT := hT.keep K
      replace hl := hl.keep K
      replace hf := hf.keep K
      replace KK := KK.trans K
      clear K
      go_wp2_with fail
      refine (cloneS_any _ _ _ (sl f) _ hf (sl_oneCell _) (by omega)).mono ?_
      rintro e W3 ⟨v, rfl, ho, K⟩
      obtain ⟨a_h1, c_h1, rfl, h1⟩ := own_rd ho
      clear ho
      replace hT := hT.keep K
      replace hl := hl.keep K
      replace hf := hf.keep K
      replace KK := KK.trans K
      clear K
      go_wp2_with fail
      refine (E1.out _ _ _ _ hT h1).mono ?_
      rintro e W4 ⟨rfl, K⟩
      replace hT := hT.keep K
      replace hl := hl.keep K
      replace hf := hf.keep K
      replace h1 := h1.keep K
      replace KK := KK.trans K
      clear K
      go_wp2_with fail
      refine (cloneS_any _ _ _ (sl f) _ hf (sl_oneCell _) (by omega)).mono ?_
      rintro e W5 ⟨v, rfl, ho, K⟩
      obtain ⟨a_h2, c_h2, rfl, h2⟩ := own_rd ho
      clear ho
      replace hT := hT.keep K
      replace hl := hl.keep K
      replace hf := hf.keep K
      replace h1 := h1.keep K
      replace KK := KK.trans K
      clear K
      go_wp2_with fail
      refine (E2.out _ _ _ _ hT h2).mono ?_
      rintro e W6 ⟨v, rfl, hO⟩
      obtain ⟨a_hw, c_hw, rfl, hw⟩ := hO.rd
      have K := hO.2
      clear hO
      replace hT := hT.keep K
      replace hl := hl.keep K
      replace hf := hf.keep K
      replace h1 := h1.keep K
      replace h2 := h2.keep K
      replace KK := KK.trans K
      clear K
      have hL : ((f.length : Int) == 0) = false := by have := H5.out; rw [beq_eq_false_iff_ne]; omega
      have hc := hf.at H5.out
      have hs := hf.isSome H5.out
      rw [h6] at hc
      go_wp2_with fail
      go_ret
      exact ⟨rfl, KK⟩
  · subst hz
    have hv1 : (v != 0) = true := by simpa using hv
    rcases h5 with h5 | ⟨h5, h6⟩
    all_goals (have H5 := Lib.hid h5; clear h5)
    · skip
      go_enter Tryd.func4, Tryd.ntmps4
      go_wp2_with fail
      refine (HMf.out _ hl).mono ?_
      rintro e W1 ⟨v, rfl, hO⟩
      obtain ⟨a_hf, c_hf, rfl, hf⟩ := hO.rd
      have K := hO.2
      clear hO
      replace hT := hT.keep K
      replace hl := hl.keep K
      replace KK := KK.trans K
      clear K
      go_wp2_with fail
      refine (awake_any _ hT).mono ?_
      rintro e W2 ⟨rfl, K⟩
      replace hT := hT.keep K
      replace hl := hl.keep K
      replace hf := hf.keep K
      replace KK := KK.trans K
      clear K
      go_wp2_with fail
      refine (cloneS_any _ _ _ (sl f) _ hf (sl_oneCell _) (by omega)).mono ?_
      rintro e W3 ⟨v, rfl, ho, K⟩
      obtain ⟨a_h1, c_h1, rfl, h1⟩ := own_rd ho
      clear ho
      replace hT := hT.keep K
      replace hl := hl.keep K
      replace hf := hf.keep K
      replace KK := KK.trans K
      clear K
      go_wp2_with fail
      refine (E1.out _ _ _ _ hT h1).mono ?_
      rintro e W4 ⟨rfl, K⟩
      replace hT := hT.keep K
      replace hl := hl.keep K
      replace hf := hf.keep K
      replace h1 := h1.keep K
      replace KK := KK.trans K
      clear K
      go_wp2_with fail
      refine (cloneS_any _ _ _ (sl f) _ hf (sl_oneCell _) (by omega)).mono ?_
      rintro e W5 ⟨v, rfl, ho, K⟩
      obtain ⟨a_h2, c_h2, rfl, h2⟩ := own_rd ho
      clear ho
      replace hT := hT.keep K
      replace hl := hl.keep K
      replace hf := hf.keep K
      replace h1 := h1.keep K
      replace KK := KK.trans K
      clear K
      go_wp2_with fail
      refine (E2.out _ _ _ _ hT h2).mono ?_
      rintro e W6 ⟨v, rfl, hO⟩
      obtain ⟨a_hw, c_hw, rfl, hw⟩ := hO.rd
      have K := hO.2
      clear hO
      replace hT := hT.keep K
      replace hl := hl.keep K
      replace hf := hf.keep K
      replace h1 := h1.keep K
      replace h2 := h2.keep K
      replace KK := KK.trans K
      clear K
      have hL : ((f.length : Int) == 0) = true := by have := H5.out; rw [beq_iff_eq]; omega
      go_wp2_with fail
      go_ret
      exact ⟨rfl, KK⟩
    · skip
      go_enter Tryd.func4, Tryd.ntmps4
      go_wp2_with fail
      refine (HMf.out _ hl).mono ?_
      rintro e W1 ⟨v, rfl, hO⟩
      obtain ⟨a_hf, c_hf, rfl, hf⟩ := hO.rd
      have K := hO.2
      clear hO
      replace hT := hT.keep K
      replace hl := hl.keep K
      replace KK := KK.trans K
      clear K
      go_wp2_with fail
      refine (awake_any _ hT).mono ?_
      rintro e W2 ⟨rfl, K⟩
      replace hT := hT.keep K
      replace hl := hl.keep K
      replace hf := hf.keep K
      replace KK := KK.trans K
      clear K
      go_wp2_with fail
      refine (cloneS_any _ _ _ (sl f) _ hf (sl_oneCell _) (by omega)).mono ?_
      rintro e W3 ⟨v, rfl, ho, K⟩
      obtain ⟨a_h1, c_h1, rfl, h1⟩ := own_rd ho
      clear ho
      replace hT := hT.keep K
      replace hl := hl.keep K
      replace hf := hf.keep K
      replace KK := KK.trans K
      clear K
      go_wp2_with fail
      refine (E1.out _ _ _ _ hT h1).mono ?_
      rintro e W4 ⟨rfl, K⟩
      replace hT := hT.keep K
      replace hl := hl.keep K
      replace hf := hf.keep K
      replace h1 := h1.keep K
      replace KK := KK.trans K
      clear K
      go_wp2_with fail
      refine (cloneS_any _ _ _ (sl f) _ hf (sl_oneCell _) (by omega)).mono ?_
      rintro e W5 ⟨v, rfl, ho, K⟩
      obtain ⟨a_h2, c_h2, rfl, h2⟩ := own_rd ho
      clear ho
      replace hT := hT.keep K
      replace hl := hl.keep K
      replace hf := hf.keep K
      replace h1 := h1.keep K
      replace KK := KK.trans K
      clear K
      go_wp2_with fail
      refine (E2.out _ _ _ _ hT h2).mono ?_
      rintro e W6 ⟨v, rfl, hO⟩
      obtain ⟨a_hw, c_hw, rfl, hw⟩ := hO.rd
      have K := hO.2
      clear hO
      replace hT := hT.keep K
      replace hl := hl.keep K
      replace hf := hf.keep K
      replace h1 := h1.keep K
      replace h2 := h2.keep K
      replace KK := KK.trans K
      clear K
      have hL : ((f.length : Int) == 0) = false := by have := H5.out; rw [beq_eq_false_iff_ne]; omega
      have hc := hf.at H5.out
      have hs := hf.isSome H5.out
      rw [h6] at hc
      go_wp2_with fail
      go_ret
      exact ⟨rfl, KK⟩
  · subst hz hv
    have h3' : ∀ k, k < y.length → accS f (4095#16 &&& ~~~at_ y k) = false ∧ (cnt (at_ y k) : Int) = x + 1 := fun k hk => h3 _ (at_mem hk)
    have hx0 : y.length = 0 ∨ x = (cnt (at_ y 0) : Int) - 1 := by
      by_cases h0 : y.length = 0
      · exact .inl h0
      · exact .inr (by have := (h3' 0 (by omega)).2; omega)
    have H3 := Lib.hid h3'; have H4 := Lib.hid h4
    clear h3 h3' h4 hx0
    go_enter Tryd.func4, Tryd.ntmps4
    go_wp2_with fail
    refine (HMf.out _ hl).mono ?_
    rintro e W1 ⟨v, rfl, hO⟩
    obtain ⟨a_hf, c_hf, rfl, hf⟩ := hO.rd
    have K := hO.2
    clear hO
    replace hT := hT.keep K
    replace hl := hl.keep K
    replace KK := KK.trans K
    clear K
    go_wp2_with fail
    refine (awake_any _ hT).mono ?_
    rintro e W2 ⟨rfl, K⟩
    replace hT := hT.keep K
    replace hl := hl.keep K
    replace hf := hf.keep K
    replace KK := KK.trans K
    clear K
    go_wp2_with fail
    refine (cloneS_any _ _ _ (sl f) _ hf (sl_oneCell _) (by omega)).mono ?_
    rintro e W3 ⟨v, rfl, ho, K⟩
    obtain ⟨a_h1, c_h1, rfl, h1⟩ := own_rd ho
    clear ho
    replace hT := hT.keep K
    replace hl := hl.keep K
    replace hf := hf.keep K
    replace KK := KK.trans K
    clear K
    go_wp2_with fail
    refine (E1.out _ _ _ _ hT h1).mono ?_
    rintro e W4 ⟨rfl, K⟩
    replace hT := hT.keep K
    replace hl := hl.keep K
    replace hf := hf.keep K
    replace h1 := h1.keep K
    replace KK := KK.trans K
    clear K
    go_wp2_with fail
    refine (cloneS_any _ _ _ (sl f) _ hf (sl_oneCell _) (by omega)).mono ?_
    rintro e W5 ⟨v, rfl, ho, K⟩
    obtain ⟨a_h2, c_h2, rfl, h2⟩ := own_rd ho
    clear ho
    replace hT := hT.keep K
    replace hl := hl.keep K
    replace hf := hf.keep K
    replace h1 := h1.keep K
    replace KK := KK.trans K
    clear K
    go_wp2_with fail
    refine (E2.out _ _ _ _ hT h2).mono ?_
    rintro e W6 ⟨v, rfl, hO⟩
    obtain ⟨a_hw, c_hw, rfl, hw⟩ := hO.rd
    have K := hO.2
    clear hO
    replace hT := hT.keep K
    replace hl := hl.keep K
    replace hf := hf.keep K
    replace h1 := h1.keep K
    replace h2 := h2.keep K
    replace KK := KK.trans K
    clear K
    have sy := hw.small
    go_wp2_with fail
    go_loopw [45] (fun v wr => ∃ k : Nat, k ≤ y.length ∧ v = .int .i64 k ∧ Keeps W6 wr) (fun v _ => y.length - (intOf v).toNat)
    case atStart => exact ⟨0, Nat.zero_le _, rfl, Keeps.refl _⟩
    case round =>
      obtain ⟨k, hk, rfl, K1⟩ := hrel
      by_cases hlt : k < y.length
      · have hc := (hw.keep K1).at hlt
        have hs := hw.isSome (by omega)
        obtain ⟨hq1, hq2⟩ := H3.out k hlt
        have hca := rAcc8_any _ _ _ f (4095#16 &&& ~~~at_ y k) wr (hf.keep K1)
        rw [hq1] at hca
        have hcb := fun W => refSize_any (at_ y k) W
        rw [hq2] at hcb
        have hcn := cnt_le (at_ y k)
        have hxl : -1 ≤ x := by omega
        have hxu : x ≤ 15 := by omega
        have HCA := Lib.hid hca; have HCB := Lib.hid hcb
        clear hca hcb hq1 hq2 hcn
        go_wp2_with fail
        refine HCA.out.mono ?_
        rintro e W9 ⟨rfl, rfl⟩
        go_wp2_with fail
        refine (HCB.out _).mono ?_
        rintro e W9 ⟨rfl, rfl⟩
        go_wp2_with fail
        go_roundw
        case rel => exact ⟨k + 1, by omega, by go_num, K1⟩
        case measure => simp [intOf]; omega
      · have hcb := fun W => refSize_any fs W
        have hca := fun W h => rAcc8_any a_hf f.length c_hf f (4095#16 &&& ~~~fs) W h
        have HCB := Lib.hid hcb; have HCA := Lib.hid hca
        clear hcb hca
        replace hT := hT.keep K1
        replace hl := hl.keep K1
        replace hf := hf.keep K1
        replace h1 := h1.keep K1
        replace h2 := h2.keep K1
        replace hw := hw.keep K1
        replace KK := KK.trans K1
        clear K1
        by_cases hxc : x < (cnt fs : Int)
        · go_wp2_with fail
          refine (HCB.out _).mono ?_
          rintro e W9 ⟨rfl, rfl⟩
          go_wp2_with fail
          go_ret
          exact ⟨rfl, KK⟩
        · have h7 := H4.out.resolve_left hxc
          rw [h7] at HCA
          go_wp2_with fail
          refine (HCB.out _).mono ?_
          rintro e W9 ⟨rfl, rfl⟩
          go_wp2_with fail
          refine (HCA.out _ hf).mono ?_
          rintro e W9 ⟨rfl, rfl⟩
          go_wp2_with fail
          go_ret
          exact ⟨rfl, KK⟩
end Go.Proofs.YtbiggfbbccpcmaaDoor
