/- The examples of the chapter transversal hold. -/
import Derived.Test.YteaehcaokcbehaaDoorExtR
namespace Go.Proofs.YteaehcaokcbehaaDoor
open Go.RowKit Go.Lib Go.Shelf

theorem low_dec {l : List S} (h : l.all (fun x => decide (x.toNat < 64)) = true) : Low6 l := fun x hx => by
  have := List.all_eq_true.1 h x hx; simpa using this
theorem D356 : D [3#16, 5#16, 6#16] = [3#16, 5#16, 6#16] := by decide +kernel
theorem D16 : D [1#16, 6#16] = [3#16, 5#16] := by decide +kernel
theorem D7 : D [7#16] = [1#16, 2#16, 4#16] := by decide +kernel
theorem D1 : D [1#16] = [1#16] := by decide +kernel
theorem v356 : validS [3#16, 5#16, 6#16] = 0 := by decide +kernel
theorem v16 : validS [1#16, 6#16] = 0 := by decide +kernel
theorem v7 : validS [7#16] = 0 := by decide +kernel
theorem v1 : validS [1#16] = 0 := by decide +kernel
theorem fam356 : Fam [3#16, 5#16, 6#16] := (valid_iff _).1 v356
theorem fam16 : Fam [1#16, 6#16] := (valid_iff _).1 v16
theorem meet356 : ∀ x ∈ [3#16, 5#16, 6#16], ∀ y ∈ [3#16, 5#16, 6#16], x &&& y ≠ 0#16 := (cross_meet _).1 (by rfl)
theorem meet7 : ∀ x ∈ [7#16], ∀ y ∈ [7#16], x &&& y ≠ 0#16 := (cross_meet _).1 (by rfl)
theorem meet1 : ∀ x ∈ [1#16], ∀ y ∈ [1#16], x &&& y ≠ 0#16 := (cross_meet _).1 (by rfl)
theorem good356 : Good [3#16, 5#16, 6#16] := ⟨⟨fam356, by simp, meet356⟩, low_dec (by decide)⟩
theorem good7 : Good [7#16] := ⟨⟨(valid_iff _).1 v7, by simp, meet7⟩, low_dec (by decide)⟩
theorem good1 : Good [1#16] := ⟨⟨(valid_iff _).1 v1, by simp, meet1⟩, low_dec (by decide)⟩
theorem extS7 : extS [7#16] = [1#16] := by
  unfold extS
  rw [show (64 : Nat) = 63 + 1 from rfl, extR]
  have h1 : nxtE [7#16] = some 1#16 := by unfold nxtE; rw [D7]; decide
  have h2 : leastP ([7#16] ++ [1#16]) = [1#16] := by rw [least_same]; decide +kernel
  rw [h1]
  simp only
  rw [h2]
  exact extR_none (self_none D1) _
theorem ext7 : extErr [7#16] = ([1#16], 0) := by
  unfold extErr
  rw [cotErr_cot good7.cot, if_neg (by simp), good7.dual, if_neg (by simp), extS7]
theorem dom356 : domErr [3#16, 5#16, 6#16] = (false, 0) := by
  unfold domErr
  rw [cotErr_cot good356.cot, if_pos rfl, good356.dual, if_pos rfl, D356, eqS_iff]; simp

theorem dualL {l : List S} (hf : Fam l) (hl : Low6 l) (a : Option Addr) (n c : Nat) (w : World) (hT : Tab w) (h : Rd w a n c 1 (sl l)) :
    Calls Tryd.prog 13 #[.slice a n c] w fun e w' => ∃ v, e = .returned (.tuple #[v, .int .i64 0]) ∧ Own 24 1 w w' v (D l).length (sl (D l)) := by
  have := dual_any a n c l w hT h (fun hv => valid_small hv)
  rw [dualErr_ok hf hl] at this
  exact this

set_option maxHeartbeats 1600000 in
theorem awake_any (w : World) (hT : Tab w) : Calls Tryd.prog 12 #[] w fun e w' => e = .returned (.bool true) ∧ Keeps w w' := by
  have e1 : ∀ a n c W, Tab W → Rd W a n c 1 (sl [3#16, 5#16, 6#16]) → Calls Tryd.prog 13 #[.slice a n c] W fun e w' => ∃ v, e = .returned (.tuple #[v, .int .i64 0]) ∧ Own 24 1 W w' v 3 (sl [3#16, 5#16, 6#16]) := fun a n c W t h => by
    have := dualL fam356 good356.low a n c W t h
    rw [D356] at this; exact this
  have e2 : ∀ a n c W, Tab W → Rd W a n c 1 (sl [1#16, 6#16]) → Calls Tryd.prog 13 #[.slice a n c] W fun e w' => ∃ v, e = .returned (.tuple #[v, .int .i64 0]) ∧ Own 24 1 W w' v 2 (sl [3#16, 5#16]) := fun a n c W t h => by
    have := dualL fam16 (low_dec (by decide)) a n c W t h
    rw [D16] at this; exact this
  have e3 : ∀ a n c W, Tab W → Rd W a n c 1 (sl [3#16, 5#16, 6#16]) → Calls Tryd.prog 22 #[.slice a n c] W fun e w' => e = .returned (.tuple #[.bool false, .int .i64 0]) ∧ Keeps W w' := fun a n c W t h => by
    have := dominated_any a n c _ W t h (by have := h.lenS; simp at this; omega) (fun hv => valid_small hv)
    rw [dom356] at this; exact this
  have e4 : ∀ a n c W, Tab W → Rd W a n c 1 (sl [7#16]) → Calls Tryd.prog 26 #[.slice a n c] W fun e w' => ∃ v, e = .returned (.tuple #[v, .int .i64 0]) ∧ Own 24 1 W w' v 1 (sl [1#16]) := fun a n c W t h => by
    have := extend_any a n c _ W t h (by have := h.lenS; simp at this; omega) (fun _ _ => good7.low)
    rw [ext7] at this; exact this
  have E1 := Lib.hid e1; have E2 := Lib.hid e2; have E3 := Lib.hid e3; have E4 := Lib.hid e4
  clear e1 e2 e3 e4
  have KK := Keeps.refl w
  go_enter Tryd.func12, Tryd.ntmps12
  go_wp2_with fail
  have h1 := rd_new 24 1 w [.int .u16 3, .int .u16 5, .int .u16 6] 3 (by decide) rfl
  have K := (Keeps.refl w).alloc (.cells #[.int .u16 3, .int .u16 5, .int .u16 6] 24)
  replace hT := hT.keep K
  replace KK := KK.trans K
  clear K
  refine (cloneS_any _ _ _ (sl [3#16, 5#16, 6#16]) _ h1 (sl_oneCell _) (by decide)).mono ?_
  rintro e W1 ⟨v, rfl, ho, K⟩
  obtain ⟨a_h2, c_h2, rfl, h2⟩ := own_rd ho
  clear ho
  replace hT := hT.keep K
  replace h1 := h1.keep K
  replace KK := KK.trans K
  clear K
  go_wp2_with fail
  refine (E1.out _ _ _ _ hT h2).mono ?_
  rintro e W2 ⟨v, rfl, hO⟩
  obtain ⟨a_h3, c_h3, rfl, h3⟩ := hO.rd
  have K := hO.2
  clear hO
  replace hT := hT.keep K
  replace h1 := h1.keep K
  replace h2 := h2.keep K
  replace KK := KK.trans K
  clear K
  go_wp2_with fail
  have h4 := rd_new 24 1 W2 [.int .u16 1, .int .u16 6] 2 (by decide) rfl
  have K := (Keeps.refl W2).alloc (.cells #[.int .u16 1, .int .u16 6] 24)
  replace hT := hT.keep K
  replace h1 := h1.keep K
  replace h2 := h2.keep K
  replace h3 := h3.keep K
  replace KK := KK.trans K
  clear K
  refine (E2.out _ _ _ _ hT h4).mono ?_
  rintro e W3 ⟨v, rfl, hO⟩
  obtain ⟨a_h5, c_h5, rfl, h5⟩ := hO.rd
  have K := hO.2
  clear hO
  replace hT := hT.keep K
  replace h1 := h1.keep K
  replace h2 := h2.keep K
  replace h3 := h3.keep K
  replace h4 := h4.keep K
  replace KK := KK.trans K
  clear K
  go_wp2_with fail
  refine (cloneS_any _ _ _ (sl [3#16, 5#16, 6#16]) _ h1 (sl_oneCell _) (by omega)).mono ?_
  rintro e W4 ⟨v, rfl, ho, K⟩
  obtain ⟨a_h6, c_h6, rfl, h6⟩ := own_rd ho
  clear ho
  replace hT := hT.keep K
  replace h1 := h1.keep K
  replace h2 := h2.keep K
  replace h3 := h3.keep K
  replace h4 := h4.keep K
  replace h5 := h5.keep K
  replace KK := KK.trans K
  clear K
  go_wp2_with fail
  refine (E3.out _ _ _ _ hT h6).mono ?_
  rintro e W5 ⟨rfl, K⟩
  replace hT := hT.keep K
  replace h1 := h1.keep K
  replace h2 := h2.keep K
  replace h3 := h3.keep K
  replace h4 := h4.keep K
  replace h5 := h5.keep K
  replace h6 := h6.keep K
  replace KK := KK.trans K
  clear K
  go_wp2_with fail
  have h7 := rd_new 24 1 W5 [.int .u16 7] 1 (by decide) rfl
  have K := (Keeps.refl W5).alloc (.cells #[.int .u16 7] 24)
  replace hT := hT.keep K
  replace h1 := h1.keep K
  replace h2 := h2.keep K
  replace h3 := h3.keep K
  replace h4 := h4.keep K
  replace h5 := h5.keep K
  replace h6 := h6.keep K
  replace KK := KK.trans K
  clear K
  refine (E4.out _ _ _ _ hT h7).mono ?_
  rintro e W6 ⟨v, rfl, hO⟩
  obtain ⟨a_h8, c_h8, rfl, h8⟩ := hO.rd
  have K := hO.2
  clear hO
  replace hT := hT.keep K
  replace h1 := h1.keep K
  replace h2 := h2.keep K
  replace h3 := h3.keep K
  replace h4 := h4.keep K
  replace h5 := h5.keep K
  replace h6 := h6.keep K
  replace h7 := h7.keep K
  replace KK := KK.trans K
  clear K
  go_wp2_with fail
  refine (rSame_any _ _ _ [3#16, 5#16, 6#16] _ _ _ [3#16, 5#16, 6#16] _ h3 h1).mono ?_
  rintro e W7 ⟨he, K⟩
  rw [eqS_iff, decide_eq_true rfl] at he
  subst he
  replace hT := hT.keep K
  replace h1 := h1.keep K
  replace h2 := h2.keep K
  replace h3 := h3.keep K
  replace h4 := h4.keep K
  replace h5 := h5.keep K
  replace h6 := h6.keep K
  replace h7 := h7.keep K
  replace h8 := h8.keep K
  replace KK := KK.trans K
  clear K
  go_wp2_with fail
  have h9 := rd_new 24 1 W7 [.int .u16 3, .int .u16 5] 2 (by decide) rfl
  have K := (Keeps.refl W7).alloc (.cells #[.int .u16 3, .int .u16 5] 24)
  replace hT := hT.keep K
  replace h1 := h1.keep K
  replace h2 := h2.keep K
  replace h3 := h3.keep K
  replace h4 := h4.keep K
  replace h5 := h5.keep K
  replace h6 := h6.keep K
  replace h7 := h7.keep K
  replace h8 := h8.keep K
  replace KK := KK.trans K
  clear K
  refine (rSame_any _ _ _ [3#16, 5#16] _ _ _ [3#16, 5#16] _ h5 h9).mono ?_
  rintro e W8 ⟨he, K⟩
  rw [eqS_iff, decide_eq_true rfl] at he
  subst he
  replace hT := hT.keep K
  replace h1 := h1.keep K
  replace h2 := h2.keep K
  replace h3 := h3.keep K
  replace h4 := h4.keep K
  replace h5 := h5.keep K
  replace h6 := h6.keep K
  replace h7 := h7.keep K
  replace h8 := h8.keep K
  replace h9 := h9.keep K
  replace KK := KK.trans K
  clear K
  go_wp2_with fail
  have h10 := rd_new 24 1 W8 [.int .u16 1] 1 (by decide) rfl
  have K := (Keeps.refl W8).alloc (.cells #[.int .u16 1] 24)
  replace hT := hT.keep K
  replace h1 := h1.keep K
  replace h2 := h2.keep K
  replace h3 := h3.keep K
  replace h4 := h4.keep K
  replace h5 := h5.keep K
  replace h6 := h6.keep K
  replace h7 := h7.keep K
  replace h8 := h8.keep K
  replace h9 := h9.keep K
  replace KK := KK.trans K
  clear K
  refine (rSame_any _ _ _ [1#16] _ _ _ [1#16] _ h8 h10).mono ?_
  rintro e W9 ⟨he, K⟩
  rw [eqS_iff, decide_eq_true rfl] at he
  subst he
  replace hT := hT.keep K
  replace h1 := h1.keep K
  replace h2 := h2.keep K
  replace h3 := h3.keep K
  replace h4 := h4.keep K
  replace h5 := h5.keep K
  replace h6 := h6.keep K
  replace h7 := h7.keep K
  replace h8 := h8.keep K
  replace h9 := h9.keep K
  replace h10 := h10.keep K
  replace KK := KK.trans K
  clear K
  go_wp2_with fail
  go_ret
  exact ⟨rfl, KK⟩
end Go.Proofs.YteaehcaokcbehaaDoor
