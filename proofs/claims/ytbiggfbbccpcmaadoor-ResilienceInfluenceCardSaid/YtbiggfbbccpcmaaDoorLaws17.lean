/- The walks of the statements of the layer resilience: each answers true and keeps what lay there. -/
import Derived.Test.YtbiggfbbccpcmaaDoorAwake17
namespace Go.Proofs.YtbiggfbbccpcmaaDoor
open Go.RowKit Go.Lib Go.Shelf

theorem of_range (l : List S) : -1 ≤ (ofErr l).1 ∧ (ofErr l).1 ≤ 16 := by
  have := cnt_le (leastErr l).1
  unfold ofErr
  repeat' split
  all_goals (constructor <;> simp only <;> omega)

set_option maxRecDepth 20000 in
set_option maxHeartbeats 1600000 in
theorem ResilienceOf_any (a : Option Addr) (n c : Nat) (l : List B8) (w : World) (hT : Tab w) (hl : Rd w a n c 1 (bl l)) :
    Calls Tryd.prog 3 #[.slice a n c] w fun e w' => e = .returned (.bool true) ∧ Keeps w w' := by
  have KK := Keeps.refl w
  have hmf := fun W => made_any a n c l W
  have q1f := made_fam l
  have q2f := made_low l
  have lenf := made_len l
  generalize madeS l = f at *
  have HMf := Lib.hid hmf; have FAf := Lib.hid q1f; have LOf := Lib.hid q2f
  clear hmf q1f q2f
  have e1 := fun a n c W t h => of_any a n c f W t h
  have e2 := fun a n c W h => rOf_any a n c f W h
  rw [rof_eq] at e2
  generalize ofErr f = r at *
  obtain ⟨x, z⟩ := r
  unfold RetI at e1 e2
  have e3 := fun a n c W t h => worst_any a n c f W t h
  have e4 := fun a n c W h => rWorst_any a n c f W h
  rw [rworst_eq] at e4
  unfold RetS at e4
  generalize worstErr f = q at *
  obtain ⟨y, v⟩ := q
  simp only at e1 e2 e3 e4
  have e5 := fun a n c a2 n2 c2 W h h2 => rSame_any a n c y a2 n2 c2 y W h h2
  rw [eqS_iff, decide_eq_true rfl] at e5
  have E1 := Lib.hid e1; have E2 := Lib.hid e2; have E3 := Lib.hid e3; have E4 := Lib.hid e4; have E5 := Lib.hid e5
  clear e1 e2 e3 e4 e5
  have hxx : (x == x) = true := by simp
  have hzz : (z == z) = true := by simp
  have hvv : (v == v) = true := by simp
  go_enter Tryd.func3, Tryd.ntmps3
  go_wp2_with fail
  refine (HMf.out _ hl).mono ?_
  rintro e W1 ⟨v, rfl, hO⟩
  obtain ⟨a_hf, c_hf, rfl, hf⟩ := hO.rd
  have K := hO.2
  clear hO
  replace hT := hT.keep K
  replace hl := hl.keep K
  replace KK := KK.trans K
  clear K
  go_wp2_with fail
  refine (awake_any _ hT).mono ?_
  rintro e W2 ⟨rfl, K⟩
  replace hT := hT.keep K
  replace hl := hl.keep K
  replace hf := hf.keep K
  replace KK := KK.trans K
  clear K
  go_wp2_with fail
  refine (cloneS_any _ _ _ (sl f) _ hf (sl_oneCell _) (by omega)).mono ?_
  rintro e W3 ⟨v, rfl, ho, K⟩
  obtain ⟨a_h1, c_h1, rfl, h1⟩ := own_rd ho
  clear ho
  replace hT := hT.keep K
  replace hl := hl.keep K
  replace hf := hf.keep K
  replace KK := KK.trans K
  clear K
  go_wp2_with fail
  refine (E1.out _ _ _ _ hT h1).mono ?_
  rintro e W4 ⟨rfl, K⟩
  replace hT := hT.keep K
  replace hl := hl.keep K
  replace hf := hf.keep K
  replace h1 := h1.keep K
  replace KK := KK.trans K
  clear K
  go_wp2_with fail
  refine (E2.out _ _ _ _ hf).mono ?_
  rintro e W5 ⟨rfl, K⟩
  replace hT := hT.keep K
  replace hl := hl.keep K
  replace hf := hf.keep K
  replace h1 := h1.keep K
  replace KK := KK.trans K
  clear K
  go_wp2_with fail
  refine (cloneS_any _ _ _ (sl f) _ hf (sl_oneCell _) (by omega)).mono ?_
  rintro e W6 ⟨v, rfl, ho, K⟩
  obtain ⟨a_h2, c_h2, rfl, h2⟩ := own_rd ho
  clear ho
  replace hT := hT.keep K
  replace hl := hl.keep K
  replace hf := hf.keep K
  replace h1 := h1.keep K
  replace KK := KK.trans K
  clear K
  go_wp2_with fail
  refine (E3.out _ _ _ _ hT h2).mono ?_
  rintro e W7 ⟨v, rfl, hO⟩
  obtain ⟨a_hw, c_hw, rfl, hw⟩ := hO.rd
  have K := hO.2
  clear hO
  replace hT := hT.keep K
  replace hl := hl.keep K
  replace hf := hf.keep K
  replace h1 := h1.keep K
  replace h2 := h2.keep K
  replace KK := KK.trans K
  clear K
  go_wp2_with fail
  refine (E4.out _ _ _ _ hf).mono ?_
  rintro e W8 ⟨v, rfl, hO⟩
  obtain ⟨a_hx, c_hx, rfl, hx⟩ := hO.rd
  have K := hO.2
  clear hO
  replace hT := hT.keep K
  replace hl := hl.keep K
  replace hf := hf.keep K
  replace h1 := h1.keep K
  replace h2 := h2.keep K
  replace hw := hw.keep K
  replace KK := KK.trans K
  clear K
  go_wp2_with fail
  refine (E5.out _ _ _ _ _ _ _ hw hx).mono ?_
  rintro e W9 ⟨rfl, K⟩
  replace hT := hT.keep K
  replace hl := hl.keep K
  replace hf := hf.keep K
  replace h1 := h1.keep K
  replace h2 := h2.keep K
  replace hw := hw.keep K
  replace hx := hx.keep K
  replace KK := KK.trans K
  clear K
  go_wp2_with fail
  go_ret
  exact ⟨rfl, KK⟩

set_option maxRecDepth 20000 in
set_option maxHeartbeats 1600000 in
theorem ResilienceAfter_any (a : Option Addr) (n c : Nat) (l : List B8) (fs : S) (w : World) (hT : Tab w) (hl : Rd w a n c 1 (bl l)) :
    Calls Tryd.prog 8 #[.slice a n c, .int .u16 (sv fs)] w fun e w' => e = .returned (.bool true) ∧ Keeps w w' := by
  have KK := Keeps.refl w
  have hmf := fun W => made_any a n c l W
  have q1f := made_fam l
  have q2f := made_low l
  have lenf := made_len l
  generalize madeS l = f at *
  have HMf := Lib.hid hmf; have FAf := Lib.hid q1f; have LOf := Lib.hid q2f
  clear hmf q1f q2f
  have e1 := fun a n c W t h hn => after_any a n c f fs W t h hn
  have e2 := fun a n c W h hn => rAfter_any a n c f fs W h hn
  rw [rafter_eq] at e2
  have e3 := fun a n c W t h => of_any a n c f W t h
  have hok := after_ok f fs
  have hor := of_range f
  have hcn := cnt_le fs
  generalize afterErr f fs = r at *
  generalize ofErr f = q at *
  obtain ⟨x, z⟩ := r
  obtain ⟨y, v⟩ := q
  unfold RetI at e1 e2 e3
  simp only at e1 e2 e3 hok hor
  obtain ⟨hor1, hor2⟩ := hor
  have E1 := Lib.hid e1; have E2 := Lib.hid e2; have E3 := Lib.hid e3
  clear e1 e2 e3
  have hxx : (x == x) = true := by simp
  have hzz : (z == z) = true := by simp
  have hx1 : (x != x) = false := by simp
  have hz1 : (z != z) = false := by simp
  by_cases hz : z = 0
  rotate_left
  · have hz0 : (z != 0) = true := by simpa using hz
    clear hok hz
    go_enter Tryd.func8, Tryd.ntmps8
    go_wp2_with fail
    refine (HMf.out _ hl).mono ?_
    rintro e W1 ⟨v, rfl, hO⟩
    obtain ⟨a_hf, c_hf, rfl, hf⟩ := hO.rd
    have K := hO.2
    clear hO
    replace hT := hT.keep K
    replace hl := hl.keep K
    replace KK := KK.trans K
    clear K
    go_wp2_with fail
    refine (awake_any _ hT).mono ?_
    rintro e W2 ⟨rfl, K⟩
    replace hT := hT.keep K
    replace hl := hl.keep K
    replace hf := hf.keep K
    replace KK := KK.trans K
    clear K
    go_wp2_with fail
    refine (cloneS_any _ _ _ (sl f) _ hf (sl_oneCell _) (by omega)).mono ?_
    rintro e W3 ⟨v, rfl, ho, K⟩
    obtain ⟨a_h1, c_h1, rfl, h1⟩ := own_rd ho
    clear ho
    replace hT := hT.keep K
    replace hl := hl.keep K
    replace hf := hf.keep K
    replace KK := KK.trans K
    clear K
    go_wp2_with fail
    refine (E1.out _ _ _ _ hT h1 (by omega)).mono ?_
    rintro e W4 ⟨rfl, K⟩
    replace hT := hT.keep K
    replace hl := hl.keep K
    replace hf := hf.keep K
    replace h1 := h1.keep K
    replace KK := KK.trans K
    clear K
    go_wp2_with fail
    refine (E2.out _ _ _ _ hf (by omega)).mono ?_
    rintro e W5 ⟨rfl, K⟩
    replace hT := hT.keep K
    replace hl := hl.keep K
    replace hf := hf.keep K
    replace h1 := h1.keep K
    replace KK := KK.trans K
    clear K
    go_wp2_with fail
    go_ret
    exact ⟨rfl, KK⟩
  · have hk := hok hz
    subst hz
    clear hok
    rcases hk with hk | ⟨hk, hk1, hk2⟩
    · subst hk
      go_enter Tryd.func8, Tryd.ntmps8
      go_wp2_with fail
      refine (HMf.out _ hl).mono ?_
      rintro e W1 ⟨v, rfl, hO⟩
      obtain ⟨a_hf, c_hf, rfl, hf⟩ := hO.rd
      have K := hO.2
      clear hO
      replace hT := hT.keep K
      replace hl := hl.keep K
      replace KK := KK.trans K
      clear K
      go_wp2_with fail
      refine (awake_any _ hT).mono ?_
      rintro e W2 ⟨rfl, K⟩
      replace hT := hT.keep K
      replace hl := hl.keep K
      replace hf := hf.keep K
      replace KK := KK.trans K
      clear K
      go_wp2_with fail
      refine (cloneS_any _ _ _ (sl f) _ hf (sl_oneCell _) (by omega)).mono ?_
      rintro e W3 ⟨v, rfl, ho, K⟩
      obtain ⟨a_h1, c_h1, rfl, h1⟩ := own_rd ho
      clear ho
      replace hT := hT.keep K
      replace hl := hl.keep K
      replace hf := hf.keep K
      replace KK := KK.trans K
      clear K
      go_wp2_with fail
      refine (E1.out _ _ _ _ hT h1 (by omega)).mono ?_
      rintro e W4 ⟨rfl, K⟩
      replace hT := hT.keep K
      replace hl := hl.keep K
      replace hf := hf.keep K
      replace h1 := h1.keep K
      replace KK := KK.trans K
      clear K
      go_wp2_with fail
      refine (E2.out _ _ _ _ hf (by omega)).mono ?_
      rintro e W5 ⟨rfl, K⟩
      replace hT := hT.keep K
      replace hl := hl.keep K
      replace hf := hf.keep K
      replace h1 := h1.keep K
      replace KK := KK.trans K
      clear K
      go_wp2_with fail
      refine (cloneS_any _ _ _ (sl f) _ hf (sl_oneCell _) (by omega)).mono ?_
      rintro e W6 ⟨v, rfl, ho, K⟩
      obtain ⟨a_h2, c_h2, rfl, h2⟩ := own_rd ho
      clear ho
      replace hT := hT.keep K
      replace hl := hl.keep K
      replace hf := hf.keep K
      replace h1 := h1.keep K
      replace KK := KK.trans K
      clear K
      go_wp2_with fail
      refine (E3.out _ _ _ _ hT h2).mono ?_
      rintro e W7 ⟨rfl, K⟩
      replace hT := hT.keep K
      replace hl := hl.keep K
      replace hf := hf.keep K
      replace h1 := h1.keep K
      replace h2 := h2.keep K
      replace KK := KK.trans K
      clear K
      go_wp2_with fail
      go_ret
      exact ⟨rfl, KK⟩
    · subst hk
      go_enter Tryd.func8, Tryd.ntmps8
      go_wp2_with fail
      refine (HMf.out _ hl).mono ?_
      rintro e W1 ⟨v, rfl, hO⟩
      obtain ⟨a_hf, c_hf, rfl, hf⟩ := hO.rd
      have K := hO.2
      clear hO
      replace hT := hT.keep K
      replace hl := hl.keep K
      replace KK := KK.trans K
      clear K
      go_wp2_with fail
      refine (awake_any _ hT).mono ?_
      rintro e W2 ⟨rfl, K⟩
      replace hT := hT.keep K
      replace hl := hl.keep K
      replace hf := hf.keep K
      replace KK := KK.trans K
      clear K
      go_wp2_with fail
      refine (cloneS_any _ _ _ (sl f) _ hf (sl_oneCell _) (by omega)).mono ?_
      rintro e W3 ⟨v, rfl, ho, K⟩
      obtain ⟨a_h1, c_h1, rfl, h1⟩ := own_rd ho
      clear ho
      replace hT := hT.keep K
      replace hl := hl.keep K
      replace hf := hf.keep K
      replace KK := KK.trans K
      clear K
      go_wp2_with fail
      refine (E1.out _ _ _ _ hT h1 (by omega)).mono ?_
      rintro e W4 ⟨rfl, K⟩
      replace hT := hT.keep K
      replace hl := hl.keep K
      replace hf := hf.keep K
      replace h1 := h1.keep K
      replace KK := KK.trans K
      clear K
      go_wp2_with fail
      refine (E2.out _ _ _ _ hf (by omega)).mono ?_
      rintro e W5 ⟨rfl, K⟩
      replace hT := hT.keep K
      replace hl := hl.keep K
      replace hf := hf.keep K
      replace h1 := h1.keep K
      replace KK := KK.trans K
      clear K
      go_wp2_with fail
      refine (cloneS_any _ _ _ (sl f) _ hf (sl_oneCell _) (by omega)).mono ?_
      rintro e W6 ⟨v, rfl, ho, K⟩
      obtain ⟨a_h2, c_h2, rfl, h2⟩ := own_rd ho
      clear ho
      replace hT := hT.keep K
      replace hl := hl.keep K
      replace hf := hf.keep K
      replace h1 := h1.keep K
      replace KK := KK.trans K
      clear K
      go_wp2_with fail
      refine (E3.out _ _ _ _ hT h2).mono ?_
      rintro e W7 ⟨rfl, K⟩
      replace hT := hT.keep K
      replace hl := hl.keep K
      replace hf := hf.keep K
      replace h1 := h1.keep K
      replace h2 := h2.keep K
      replace KK := KK.trans K
      clear K
      go_wp2_with fail
      refine (refSize_any fs _).mono ?_
      rintro e W8 ⟨rfl, rfl⟩
      go_wp2_with fail
      all_goals first | (go_ret; exact ⟨rfl, KK⟩) | (exfalso; omega)

set_option maxRecDepth 20000 in
set_option maxHeartbeats 1600000 in
theorem ResilienceInfluence_any (a : Option Addr) (n c : Nat) (l : List B8) (k : Int) (hk0 : 0 ≤ k) (hk1 : k ≤ 255) (w : World) (hT : Tab w) (hl : Rd w a n c 1 (bl l)) :
    Calls Tryd.prog 5 #[.slice a n c, .int .u8 k] w fun e w' => e = .returned (.bool true) ∧ Keeps w w' := by
  have KK := Keeps.refl w
  have hmf := fun W => made_any a n c l W
  have q1f := made_fam l
  have q2f := made_low l
  have lenf := made_len l
  generalize madeS l = f at *
  have HMf := Lib.hid hmf; have FAf := Lib.hid q1f; have LOf := Lib.hid q2f
  clear hmf q1f q2f
  have e1 := fun a n c W t h hn => influence_any a n c f k W t h hn
  have e2 := fun a n c W h => rInfluence_any a n c f k W h
  rw [rinfl_eq] at e2
  generalize inflErr f k = r at *
  obtain ⟨x, z⟩ := r
  simp only at e1 e2
  have e3 := fun a n c a2 n2 c2 W h h2 => numbers_any a n c x a2 n2 c2 x W h h2
  rw [sameN_refl] at e3
  have E1 := Lib.hid e1; have E2 := Lib.hid e2; have E3 := Lib.hid e3
  clear e1 e2 e3
  have hzz : (z == z) = true := by simp
  by_cases hk : 9 < k
  · skip
    go_enter Tryd.func5, Tryd.ntmps5
    go_wp2_with fail
    refine (HMf.out _ hl).mono ?_
    rintro e W1 ⟨v, rfl, hO⟩
    obtain ⟨a_hf, c_hf, rfl, hf⟩ := hO.rd
    have K := hO.2
    clear hO
    replace hT := hT.keep K
    replace hl := hl.keep K
    replace KK := KK.trans K
    clear K
    go_wp2_with fail
    refine (awake_any _ hT).mono ?_
    rintro e W2 ⟨rfl, K⟩
    replace hT := hT.keep K
    replace hl := hl.keep K
    replace hf := hf.keep K
    replace KK := KK.trans K
    clear K
    go_wp2_with fail
    refine (awake_any _ hT).mono ?_
    rintro e W3 ⟨rfl, K⟩
    replace hT := hT.keep K
    replace hl := hl.keep K
    replace hf := hf.keep K
    replace KK := KK.trans K
    clear K
    go_wp2_with fail
    go_ret
    exact ⟨rfl, KK⟩
  · skip
    go_enter Tryd.func5, Tryd.ntmps5
    go_wp2_with fail
    refine (HMf.out _ hl).mono ?_
    rintro e W1 ⟨v, rfl, hO⟩
    obtain ⟨a_hf, c_hf, rfl, hf⟩ := hO.rd
    have K := hO.2
    clear hO
    replace hT := hT.keep K
    replace hl := hl.keep K
    replace KK := KK.trans K
    clear K
    go_wp2_with fail
    refine (awake_any _ hT).mono ?_
    rintro e W2 ⟨rfl, K⟩
    replace hT := hT.keep K
    replace hl := hl.keep K
    replace hf := hf.keep K
    replace KK := KK.trans K
    clear K
    go_wp2_with fail
    refine (cloneS_any _ _ _ (sl f) _ hf (sl_oneCell _) (by omega)).mono ?_
    rintro e W3 ⟨v, rfl, ho, K⟩
    obtain ⟨a_h1, c_h1, rfl, h1⟩ := own_rd ho
    clear ho
    replace hT := hT.keep K
    replace hl := hl.keep K
    replace hf := hf.keep K
    replace KK := KK.trans K
    clear K
    go_wp2_with fail
    refine (E1.out _ _ _ _ hT h1 (by omega)).mono ?_
    rintro e W4 ⟨v, rfl, hO⟩
    obtain ⟨a_hx, c_hx, rfl, hx⟩ := hO.rd
    have K := hO.2
    clear hO
    replace hT := hT.keep K
    replace hl := hl.keep K
    replace hf := hf.keep K
    replace h1 := h1.keep K
    replace KK := KK.trans K
    clear K
    go_wp2_with fail
    refine (E2.out _ _ _ _ hf).mono ?_
    rintro e W5 ⟨v, rfl, hO⟩
    obtain ⟨a_hy, c_hy, rfl, hy⟩ := hO.rd
    have K := hO.2
    clear hO
    replace hT := hT.keep K
    replace hl := hl.keep K
    replace hf := hf.keep K
    replace h1 := h1.keep K
    replace hx := hx.keep K
    replace KK := KK.trans K
    clear K
    go_wp2_with fail
    refine (E3.out _ _ _ _ _ _ _ hx hy).mono ?_
    rintro e W6 ⟨rfl, K⟩
    replace hT := hT.keep K
    replace hl := hl.keep K
    replace hf := hf.keep K
    replace h1 := h1.keep K
    replace hx := hx.keep K
    replace hy := hy.keep K
    replace KK := KK.trans K
    clear K
    go_wp2_with fail
    go_ret
    exact ⟨rfl, KK⟩
end Go.Proofs.YtbiggfbbccpcmaaDoor
