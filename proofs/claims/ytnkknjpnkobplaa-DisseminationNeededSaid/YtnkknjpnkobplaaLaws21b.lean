/- The walks of DisseminationCanonical, DisseminationNeeded and DisseminationMore. -/
import Derived.Test.YtnkknjpnkobplaaDisMath
namespace Go.Proofs.Ytnkknjpnkobplaa
open Go.RowKit Go.Lib Go.Shelf

theorem leastP_le (l : List S) : (leastP l).length ≤ l.length := by
  rw [leastP_filter]
  refine Nat.le_trans (List.length_filter_le _ _) ?_
  have h1 := compactL_le (msort l)
  have h2 := msort_length l
  unfold sortS'; omega
theorem canon_good (n : Int) (b : List S) (h0 : 0 ≤ n) (h1 : n ≤ 12) (hb : b.length ≤ 20) : canonS n b = (leastP (compl n.toNat b), 0) := by
  unfold canonS
  rw [if_neg (by omega)]
  unfold minimalS
  rw [compl_in n.toNat (by omega) b, if_neg (by simp)]
  unfold limS
  have h2 := leastP_le (compl n.toNat b)
  have h3 : (compl n.toNat b).length = b.length := by simp [compl]
  rw [if_neg (by omega)]

set_option maxHeartbeats 1600000 in
theorem DisseminationCanonical_any (n : Int) (a2 : Option Addr) (n2 c2 : Nat) (b : List S) (w : World) (hb : Rd w a2 n2 c2 1 (sl b)) :
    Calls Try.prog 8 #[.int .i64 n, .slice a2 n2 c2] w fun e w' => e = .returned (.bool true) ∧ Keeps w w' := by
  have KK := Keeps.refl w
  by_cases hn2 : n2 ≤ 20
  rotate_left
  · skip
    go_enter Try.func8, Try.ntmps8
    go_wp2_with fail
    refine (awake_any _).mono ?_
    rintro e W1 ⟨rfl, K⟩
    replace hb := hb.keep K
    replace KK := KK.trans K
    clear K
    go_wp2_with fail
    refine (few_no _ _ _ _ hn2).mono ?_
    rintro e W2 ⟨rfl, rfl⟩
    go_wp2_with fail
    refine (awake_any _).mono ?_
    rintro e W3 ⟨rfl, K⟩
    replace hb := hb.keep K
    replace KK := KK.trans K
    clear K
    go_wp2_with fail
    go_ret
    exact ⟨rfl, KK⟩
  have hbl := hb.lenS
  have h1 := Lib.hid fun a m c w h hm => canonical_any n a m c b w h hm
  have h2 := Lib.hid fun a m c w h hm => refCanonical_any n a m c b w h hm
  rw [← canon_same] at h2
  by_cases hbad : n < 0 ∨ 12 < n
  · skip
    have e1 : canonS n b = ([], 7) := if_pos hbad
    rw [e1] at h1 h2
    clear e1 hbl
    go_enter Try.func8, Try.ntmps8
    go_wp2_with fail
    refine (awake_any _).mono ?_
    rintro e W1 ⟨rfl, K⟩
    replace hb := hb.keep K
    replace KK := KK.trans K
    clear K
    go_wp2_with fail
    refine (few_yes _ _ _ _ hn2).mono ?_
    rintro e W2 ⟨rfl, rfl⟩
    go_wp2_with fail
    refine (cloneS_any _ _ _ (sl b) _ hb (sl_oneCell _) (by omega)).mono ?_
    rintro e W3 ⟨v, rfl, ho, K⟩
    obtain ⟨a_h5, c_h5, rfl, h5⟩ := own_rd ho
    clear ho
    replace hb := hb.keep K
    replace KK := KK.trans K
    clear K
    go_wp2_with fail
    refine (h1.out _ _ _ _ h5 (by omega)).mono ?_
    rintro e W4 ⟨v, rfl, hO⟩
    obtain ⟨a_h6, c_h6, rfl, h6⟩ := hO.rd
    have K := hO.2
    clear hO
    replace hb := hb.keep K
    replace h5 := h5.keep K
    replace KK := KK.trans K
    clear K
    go_wp2_with fail
    refine (h2.out _ _ _ _ hb (by omega)).mono ?_
    rintro e W5 ⟨v, rfl, hO⟩
    obtain ⟨a_h7, c_h7, rfl, h7⟩ := hO.rd
    have K := hO.2
    clear hO
    replace hb := hb.keep K
    replace h5 := h5.keep K
    replace h6 := h6.keep K
    replace KK := KK.trans K
    clear K
    go_wp2_with fail
    refine (same_any _ _ _ _ _ _ [] [] _ h6 h7).mono ?_
    rintro e W6 ⟨he, K⟩
    rw [beq_self_eq_true] at he
    subst he
    replace hb := hb.keep K
    replace h5 := h5.keep K
    replace h6 := h6.keep K
    replace h7 := h7.keep K
    replace KK := KK.trans K
    clear K
    go_wp2_with fail
    refine (same_any _ _ _ _ _ _ [] [] _ h6 h7).mono ?_
    rintro e W7 ⟨he, K⟩
    rw [beq_self_eq_true] at he
    subst he
    replace hb := hb.keep K
    replace h5 := h5.keep K
    replace h6 := h6.keep K
    replace h7 := h7.keep K
    replace KK := KK.trans K
    clear K
    go_wp2_with fail
    go_ret
    exact ⟨rfl, KK⟩
  have n0 : 0 ≤ n := by omega
  have n1 : n ≤ 12 := by omega
  rw [canon_good n b n0 n1 (by omega)] at h1 h2
  have hav := Lib.hid (canon_avail n.toNat b)
  by_cases hne : n2 = 0
  · skip
    subst hne
    clear hbl hav
    generalize leastP (compl n.toNat b) = l at h1 h2
    go_enter Try.func8, Try.ntmps8
    go_wp2_with fail
    refine (awake_any _).mono ?_
    rintro e W1 ⟨rfl, K⟩
    replace hb := hb.keep K
    replace KK := KK.trans K
    clear K
    go_wp2_with fail
    refine (few_yes _ _ _ _ hn2).mono ?_
    rintro e W2 ⟨rfl, rfl⟩
    go_wp2_with fail
    refine (cloneS_any _ _ _ (sl b) _ hb (sl_oneCell _) (by omega)).mono ?_
    rintro e W3 ⟨v, rfl, ho, K⟩
    obtain ⟨a_h5, c_h5, rfl, h5⟩ := own_rd ho
    clear ho
    replace hb := hb.keep K
    replace KK := KK.trans K
    clear K
    go_wp2_with fail
    refine (h1.out _ _ _ _ h5 (by omega)).mono ?_
    rintro e W4 ⟨v, rfl, hO⟩
    obtain ⟨a_h6, c_h6, rfl, h6⟩ := hO.rd
    have K := hO.2
    clear hO
    replace hb := hb.keep K
    replace h5 := h5.keep K
    replace KK := KK.trans K
    clear K
    go_wp2_with fail
    refine (h2.out _ _ _ _ hb (by omega)).mono ?_
    rintro e W5 ⟨v, rfl, hO⟩
    obtain ⟨a_h7, c_h7, rfl, h7⟩ := hO.rd
    have K := hO.2
    clear hO
    replace hb := hb.keep K
    replace h5 := h5.keep K
    replace h6 := h6.keep K
    replace KK := KK.trans K
    clear K
    go_wp2_with fail
    refine (same_any _ _ _ _ _ _ l l _ h6 h7).mono ?_
    rintro e W6 ⟨he, K⟩
    rw [beq_self_eq_true] at he
    subst he
    replace hb := hb.keep K
    replace h5 := h5.keep K
    replace h6 := h6.keep K
    replace h7 := h7.keep K
    replace KK := KK.trans K
    clear K
    go_wp2_with fail
    refine (same_any _ _ _ _ _ _ l l _ h6 h7).mono ?_
    rintro e W7 ⟨he, K⟩
    rw [beq_self_eq_true] at he
    subst he
    replace hb := hb.keep K
    replace h5 := h5.keep K
    replace h6 := h6.keep K
    replace h7 := h7.keep K
    replace KK := KK.trans K
    clear K
    go_wp2_with fail
    go_ret
    exact ⟨rfl, KK⟩
  have hbe : b ≠ [] := fun e => by rw [e] at hbl; exact hne hbl.symm
  have hcd := Lib.hid (canon_dis n b n0 n1 hbe)
  have hcm := Lib.hid (canon_mask n b n0 n1 hbe)
  have hz : ((n2 : Int) == 0) = false := by rw [beq_eq_false_iff_ne]; omega
  clear hbl hbad
  generalize leastP (compl n.toNat b) = l at h1 h2 hav hcd hcm
  have hw := Lib.hid fun a m c w h hm => within_any n a m c b w h hm n0 (by omega)
  have h3 := Lib.hid fun a m c w h hm => free_any a m c (withinS n.toNat b) w n 3 h hm
  have h4 := Lib.hid fun a m c w h hm => free_any a m c (withinS n.toNat b) w n 4 h hm
  generalize ((covRes n (withinS n.toNat b) 3).2 == 13) = q3 at h3 hcd
  generalize ((covRes n (withinS n.toNat b) 4).2 == 13) = q4 at h4 hcm
  have hq3 : (q3 == q3) = true := by simp
  have hq4 : (q4 == q4) = true := by simp
  go_enter Try.func8, Try.ntmps8
  go_wp2_with fail
  refine (awake_any _).mono ?_
  rintro e W1 ⟨rfl, K⟩
  replace hb := hb.keep K
  replace KK := KK.trans K
  clear K
  go_wp2_with fail
  refine (few_yes _ _ _ _ hn2).mono ?_
  rintro e W2 ⟨rfl, rfl⟩
  go_wp2_with fail
  refine (cloneS_any _ _ _ (sl b) _ hb (sl_oneCell _) (by omega)).mono ?_
  rintro e W3 ⟨v, rfl, ho, K⟩
  obtain ⟨a_h5, c_h5, rfl, h5⟩ := own_rd ho
  clear ho
  replace hb := hb.keep K
  replace KK := KK.trans K
  clear K
  go_wp2_with fail
  refine (h1.out _ _ _ _ h5 (by omega)).mono ?_
  rintro e W4 ⟨v, rfl, hO⟩
  obtain ⟨a_h6, c_h6, rfl, h6⟩ := hO.rd
  have K := hO.2
  clear hO
  replace hb := hb.keep K
  replace h5 := h5.keep K
  replace KK := KK.trans K
  clear K
  go_wp2_with fail
  refine (h2.out _ _ _ _ hb (by omega)).mono ?_
  rintro e W5 ⟨v, rfl, hO⟩
  obtain ⟨a_h7, c_h7, rfl, h7⟩ := hO.rd
  have K := hO.2
  clear hO
  replace hb := hb.keep K
  replace h5 := h5.keep K
  replace h6 := h6.keep K
  replace KK := KK.trans K
  clear K
  go_wp2_with fail
  refine (same_any _ _ _ _ _ _ l l _ h6 h7).mono ?_
  rintro e W6 ⟨he, K⟩
  rw [beq_self_eq_true] at he
  subst he
  replace hb := hb.keep K
  replace h5 := h5.keep K
  replace h6 := h6.keep K
  replace h7 := h7.keep K
  replace KK := KK.trans K
  clear K
  go_wp2_with fail
  refine (hw.out _ _ _ _ hb (by omega)).mono ?_
  rintro e W7 ⟨v, rfl, hO⟩
  obtain ⟨a_h8, c_h8, rfl, h8⟩ := hO.rd
  have K := hO.2
  clear hO
  replace hb := hb.keep K
  replace h5 := h5.keep K
  replace h6 := h6.keep K
  replace h7 := h7.keep K
  replace KK := KK.trans K
  clear K
  go_wp2_with fail
  refine (avail_any _ _ _ _ _ _ l (withinS n.toNat b) _ h6 h8).mono ?_
  rintro e W8 ⟨he, K⟩
  rw [hav.out] at he
  subst he
  replace hb := hb.keep K
  replace h5 := h5.keep K
  replace h6 := h6.keep K
  replace h7 := h7.keep K
  replace h8 := h8.keep K
  replace KK := KK.trans K
  clear K
  go_wp2_with fail
  refine (dis_any _ _ _ _ _ _ l (withinS n.toNat b) _ h6 h8).mono ?_
  rintro e W9 ⟨he, rfl⟩
  rw [hcd.out] at he
  subst he
  go_wp2_with fail
  refine (h3.out _ _ _ _ h8 (by omega)).mono ?_
  rintro e W10 ⟨rfl, K⟩
  replace hb := hb.keep K
  replace h5 := h5.keep K
  replace h6 := h6.keep K
  replace h7 := h7.keep K
  replace h8 := h8.keep K
  replace KK := KK.trans K
  clear K
  go_wp2_with fail
  refine (mask_any _ _ _ _ _ _ l (withinS n.toNat b) _ h6 h8).mono ?_
  rintro e W11 ⟨he, rfl⟩
  rw [hcm.out] at he
  subst he
  go_wp2_with fail
  refine (h4.out _ _ _ _ h8 (by omega)).mono ?_
  rintro e W12 ⟨rfl, K⟩
  replace hb := hb.keep K
  replace h5 := h5.keep K
  replace h6 := h6.keep K
  replace h7 := h7.keep K
  replace h8 := h8.keep K
  replace KK := KK.trans K
  clear K
  go_wp2_with fail
  go_ret
  exact ⟨rfl, KK⟩

set_option maxHeartbeats 1600000 in
theorem DisseminationNeeded_any (n : Int) (a1 : Option Addr) (m1 c1 : Nat) (a2 : Option Addr) (m2 c2 : Nat) (f b : List S) (w : World) (n0 : 0 ≤ n) (nb : n ≤ 255) (hf : Rd w a1 m1 c1 1 (sl f)) (hb : Rd w a2 m2 c2 1 (sl b)) :
    Calls Try.prog 9 #[.int .u8 n, .slice a1 m1 c1, .slice a2 m2 c2] w fun e w' => e = .returned (.bool true) ∧ Keeps w w' := by
  have KK := Keeps.refl w
  by_cases n1 : n ≤ 12
  rotate_left
  · skip
    have n1' : 12 < n := by omega
    clear n1
    go_enter Try.func9, Try.ntmps9
    go_wp2_with fail
    refine (awake_any _).mono ?_
    rintro e W1 ⟨rfl, K⟩
    replace hf := hf.keep K
    replace hb := hb.keep K
    replace KK := KK.trans K
    clear K
    go_wp2_with fail
    refine (awake_any _).mono ?_
    rintro e W2 ⟨rfl, K⟩
    replace hf := hf.keep K
    replace hb := hb.keep K
    replace KK := KK.trans K
    clear K
    go_wp2_with fail
    go_ret
    exact ⟨rfl, KK⟩
  by_cases hn1 : m1 ≤ 20
  rotate_left
  · skip
    go_enter Try.func9, Try.ntmps9
    go_wp2_with fail
    refine (awake_any _).mono ?_
    rintro e W1 ⟨rfl, K⟩
    replace hf := hf.keep K
    replace hb := hb.keep K
    replace KK := KK.trans K
    clear K
    go_wp2_with fail
    refine (few_no _ _ _ _ hn1).mono ?_
    rintro e W2 ⟨rfl, rfl⟩
    go_wp2_with fail
    refine (awake_any _).mono ?_
    rintro e W3 ⟨rfl, K⟩
    replace hf := hf.keep K
    replace hb := hb.keep K
    replace KK := KK.trans K
    clear K
    go_wp2_with fail
    go_ret
    exact ⟨rfl, KK⟩
  by_cases hn2 : m2 ≤ 20
  rotate_left
  · skip
    go_enter Try.func9, Try.ntmps9
    go_wp2_with fail
    refine (awake_any _).mono ?_
    rintro e W1 ⟨rfl, K⟩
    replace hf := hf.keep K
    replace hb := hb.keep K
    replace KK := KK.trans K
    clear K
    go_wp2_with fail
    refine (few_yes _ _ _ _ hn1).mono ?_
    rintro e W2 ⟨rfl, rfl⟩
    go_wp2_with fail
    refine (few_no _ _ _ _ hn2).mono ?_
    rintro e W3 ⟨rfl, rfl⟩
    go_wp2_with fail
    refine (awake_any _).mono ?_
    rintro e W4 ⟨rfl, K⟩
    replace hf := hf.keep K
    replace hb := hb.keep K
    replace KK := KK.trans K
    clear K
    go_wp2_with fail
    go_ret
    exact ⟨rfl, KK⟩
  by_cases hne : m2 = 0
  · skip
    subst hne
    go_enter Try.func9, Try.ntmps9
    go_wp2_with fail
    refine (awake_any _).mono ?_
    rintro e W1 ⟨rfl, K⟩
    replace hf := hf.keep K
    replace hb := hb.keep K
    replace KK := KK.trans K
    clear K
    go_wp2_with fail
    refine (few_yes _ _ _ _ hn1).mono ?_
    rintro e W2 ⟨rfl, rfl⟩
    go_wp2_with fail
    refine (few_yes _ _ _ _ hn2).mono ?_
    rintro e W3 ⟨rfl, rfl⟩
    go_wp2_with fail
    refine (awake_any _).mono ?_
    rintro e W4 ⟨rfl, K⟩
    replace hf := hf.keep K
    replace hb := hb.keep K
    replace KK := KK.trans K
    clear K
    go_wp2_with fail
    go_ret
    exact ⟨rfl, KK⟩
  have hbl := hb.lenS
  have hbe : b ≠ [] := fun e => by rw [e] at hbl; exact hne hbl.symm
  have hz : ((m2 : Int) == 0) = false := by rw [beq_eq_false_iff_ne]; omega
  have nd := fun h1 h2 => needed_dis (q := withinS n.toNat f) (c := withinS n.toNat b) n0 n1 (withinS_ne _ hbe) (withinS_sub _ f) h1 h2
  have nm := fun h1 h2 => needed_mask (q := withinS n.toNat f) (c := withinS n.toNat b) n0 n1 (withinS_ne _ hbe) (withinS_sub _ f) h1 h2
  have ND := Lib.hid nd; have NM := Lib.hid nm; clear nd nm hbl hbe
  have hwf := Lib.hid fun a m c w h hm => within_any n a m c f w h hm n0 (by omega)
  have hwb := Lib.hid fun a m c w h hm => within_any n a m c b w h hm n0 (by omega)
  generalize withinS n.toNat f = q at hwf ND NM
  generalize withinS n.toNat b = d at hwb ND NM
  have h3 := Lib.hid fun a m c w h hm => free_any a m c d w n 3 h hm
  have h4 := Lib.hid fun a m c w h hm => free_any a m c d w n 4 h hm
  have ha := Lib.hid fun a1 n1 c1 a2 n2 c2 w h1 h2 => avail_any a1 n1 c1 a2 n2 c2 q d w h1 h2
  have hd := Lib.hid fun a1 n1 c1 a2 n2 c2 w h1 h2 => dis_any a1 n1 c1 a2 n2 c2 q d w h1 h2
  have hm := Lib.hid fun a1 n1 c1 a2 n2 c2 w h1 h2 => mask_any a1 n1 c1 a2 n2 c2 q d w h1 h2
  generalize availS q d = qa at ha ND NM
  generalize disOK d q = qd at hd ND
  generalize maskOK d q = qm at hm NM
  generalize ((covRes n d 3).2 == 13) = q3 at h3 ND
  generalize ((covRes n d 4).2 == 13) = q4 at h4 NM
  cases qa with
  | false =>
    go_enter Try.func9, Try.ntmps9
    go_wp2_with fail
    refine (awake_any _).mono ?_
    rintro e W1 ⟨rfl, K⟩
    replace hf := hf.keep K
    replace hb := hb.keep K
    replace KK := KK.trans K
    clear K
    go_wp2_with fail
    refine (few_yes _ _ _ _ hn1).mono ?_
    rintro e W2 ⟨rfl, rfl⟩
    go_wp2_with fail
    refine (few_yes _ _ _ _ hn2).mono ?_
    rintro e W3 ⟨rfl, rfl⟩
    go_wp2_with fail
    refine (hwf.out _ _ _ _ hf (by omega)).mono ?_
    rintro e W4 ⟨v, rfl, hO⟩
    obtain ⟨a_h5, c_h5, rfl, h5⟩ := hO.rd
    have K := hO.2
    clear hO
    replace hf := hf.keep K
    replace hb := hb.keep K
    replace KK := KK.trans K
    clear K
    go_wp2_with fail
    refine (hwb.out _ _ _ _ hb (by omega)).mono ?_
    rintro e W5 ⟨v, rfl, hO⟩
    obtain ⟨a_h6, c_h6, rfl, h6⟩ := hO.rd
    have K := hO.2
    clear hO
    replace hf := hf.keep K
    replace hb := hb.keep K
    replace h5 := h5.keep K
    replace KK := KK.trans K
    clear K
    go_wp2_with fail
    refine (cloneS_any _ _ _ (sl q) _ h5 (sl_oneCell _) (by omega)).mono ?_
    rintro e W6 ⟨v, rfl, ho, K⟩
    obtain ⟨a_h7, c_h7, rfl, h7⟩ := own_rd ho
    clear ho
    replace hf := hf.keep K
    replace hb := hb.keep K
    replace h5 := h5.keep K
    replace h6 := h6.keep K
    replace KK := KK.trans K
    clear K
    go_wp2_with fail
    refine (cloneS_any _ _ _ (sl d) _ h6 (sl_oneCell _) (by omega)).mono ?_
    rintro e W7 ⟨v, rfl, ho, K⟩
    obtain ⟨a_h8, c_h8, rfl, h8⟩ := own_rd ho
    clear ho
    replace hf := hf.keep K
    replace hb := hb.keep K
    replace h5 := h5.keep K
    replace h6 := h6.keep K
    replace h7 := h7.keep K
    replace KK := KK.trans K
    clear K
    go_wp2_with fail
    refine (ha.out _ _ _ _ _ _ _ h7 h8).mono ?_
    rintro e W8 ⟨rfl, K⟩
    replace hf := hf.keep K
    replace hb := hb.keep K
    replace h5 := h5.keep K
    replace h6 := h6.keep K
    replace h7 := h7.keep K
    replace h8 := h8.keep K
    replace KK := KK.trans K
    clear K
    go_wp2_with fail
    go_ret
    exact ⟨rfl, KK⟩
  | true =>
    cases qm with
    | false =>
      cases qd with
      | false =>
        go_enter Try.func9, Try.ntmps9
        go_wp2_with fail
        refine (awake_any _).mono ?_
        rintro e W1 ⟨rfl, K⟩
        replace hf := hf.keep K
        replace hb := hb.keep K
        replace KK := KK.trans K
        clear K
        go_wp2_with fail
        refine (few_yes _ _ _ _ hn1).mono ?_
        rintro e W2 ⟨rfl, rfl⟩
        go_wp2_with fail
        refine (few_yes _ _ _ _ hn2).mono ?_
        rintro e W3 ⟨rfl, rfl⟩
        go_wp2_with fail
        refine (hwf.out _ _ _ _ hf (by omega)).mono ?_
        rintro e W4 ⟨v, rfl, hO⟩
        obtain ⟨a_h5, c_h5, rfl, h5⟩ := hO.rd
        have K := hO.2
        clear hO
        replace hf := hf.keep K
        replace hb := hb.keep K
        replace KK := KK.trans K
        clear K
        go_wp2_with fail
        refine (hwb.out _ _ _ _ hb (by omega)).mono ?_
        rintro e W5 ⟨v, rfl, hO⟩
        obtain ⟨a_h6, c_h6, rfl, h6⟩ := hO.rd
        have K := hO.2
        clear hO
        replace hf := hf.keep K
        replace hb := hb.keep K
        replace h5 := h5.keep K
        replace KK := KK.trans K
        clear K
        go_wp2_with fail
        refine (cloneS_any _ _ _ (sl q) _ h5 (sl_oneCell _) (by omega)).mono ?_
        rintro e W6 ⟨v, rfl, ho, K⟩
        obtain ⟨a_h7, c_h7, rfl, h7⟩ := own_rd ho
        clear ho
        replace hf := hf.keep K
        replace hb := hb.keep K
        replace h5 := h5.keep K
        replace h6 := h6.keep K
        replace KK := KK.trans K
        clear K
        go_wp2_with fail
        refine (cloneS_any _ _ _ (sl d) _ h6 (sl_oneCell _) (by omega)).mono ?_
        rintro e W7 ⟨v, rfl, ho, K⟩
        obtain ⟨a_h8, c_h8, rfl, h8⟩ := own_rd ho
        clear ho
        replace hf := hf.keep K
        replace hb := hb.keep K
        replace h5 := h5.keep K
        replace h6 := h6.keep K
        replace h7 := h7.keep K
        replace KK := KK.trans K
        clear K
        go_wp2_with fail
        refine (ha.out _ _ _ _ _ _ _ h7 h8).mono ?_
        rintro e W8 ⟨rfl, K⟩
        replace hf := hf.keep K
        replace hb := hb.keep K
        replace h5 := h5.keep K
        replace h6 := h6.keep K
        replace h7 := h7.keep K
        replace h8 := h8.keep K
        replace KK := KK.trans K
        clear K
        go_wp2_with fail
        refine (cloneS_any _ _ _ (sl q) _ h5 (sl_oneCell _) (by omega)).mono ?_
        rintro e W9 ⟨v, rfl, ho, K⟩
        obtain ⟨a_h9, c_h9, rfl, h9⟩ := own_rd ho
        clear ho
        replace hf := hf.keep K
        replace hb := hb.keep K
        replace h5 := h5.keep K
        replace h6 := h6.keep K
        replace h7 := h7.keep K
        replace h8 := h8.keep K
        replace KK := KK.trans K
        clear K
        go_wp2_with fail
        refine (cloneS_any _ _ _ (sl d) _ h6 (sl_oneCell _) (by omega)).mono ?_
        rintro e W10 ⟨v, rfl, ho, K⟩
        obtain ⟨a_h10, c_h10, rfl, h10⟩ := own_rd ho
        clear ho
        replace hf := hf.keep K
        replace hb := hb.keep K
        replace h5 := h5.keep K
        replace h6 := h6.keep K
        replace h7 := h7.keep K
        replace h8 := h8.keep K
        replace h9 := h9.keep K
        replace KK := KK.trans K
        clear K
        go_wp2_with fail
        refine (hm.out _ _ _ _ _ _ _ h9 h10).mono ?_
        rintro e W11 ⟨rfl, rfl⟩
        go_wp2_with fail
        refine (cloneS_any _ _ _ (sl q) _ h5 (sl_oneCell _) (by omega)).mono ?_
        rintro e W12 ⟨v, rfl, ho, K⟩
        obtain ⟨a_h12, c_h12, rfl, h12⟩ := own_rd ho
        clear ho
        replace hf := hf.keep K
        replace hb := hb.keep K
        replace h5 := h5.keep K
        replace h6 := h6.keep K
        replace h7 := h7.keep K
        replace h8 := h8.keep K
        replace h9 := h9.keep K
        replace h10 := h10.keep K
        replace KK := KK.trans K
        clear K
        go_wp2_with fail
        refine (cloneS_any _ _ _ (sl d) _ h6 (sl_oneCell _) (by omega)).mono ?_
        rintro e W13 ⟨v, rfl, ho, K⟩
        obtain ⟨a_h13, c_h13, rfl, h13⟩ := own_rd ho
        clear ho
        replace hf := hf.keep K
        replace hb := hb.keep K
        replace h5 := h5.keep K
        replace h6 := h6.keep K
        replace h7 := h7.keep K
        replace h8 := h8.keep K
        replace h9 := h9.keep K
        replace h10 := h10.keep K
        replace h12 := h12.keep K
        replace KK := KK.trans K
        clear K
        go_wp2_with fail
        refine (hd.out _ _ _ _ _ _ _ h12 h13).mono ?_
        rintro e W14 ⟨rfl, rfl⟩
        go_wp2_with fail
        go_ret
        exact ⟨rfl, KK⟩
      | true =>
        obtain rfl : q3 = true := ND.out rfl rfl
        go_enter Try.func9, Try.ntmps9
        go_wp2_with fail
        refine (awake_any _).mono ?_
        rintro e W1 ⟨rfl, K⟩
        replace hf := hf.keep K
        replace hb := hb.keep K
        replace KK := KK.trans K
        clear K
        go_wp2_with fail
        refine (few_yes _ _ _ _ hn1).mono ?_
        rintro e W2 ⟨rfl, rfl⟩
        go_wp2_with fail
        refine (few_yes _ _ _ _ hn2).mono ?_
        rintro e W3 ⟨rfl, rfl⟩
        go_wp2_with fail
        refine (hwf.out _ _ _ _ hf (by omega)).mono ?_
        rintro e W4 ⟨v, rfl, hO⟩
        obtain ⟨a_h5, c_h5, rfl, h5⟩ := hO.rd
        have K := hO.2
        clear hO
        replace hf := hf.keep K
        replace hb := hb.keep K
        replace KK := KK.trans K
        clear K
        go_wp2_with fail
        refine (hwb.out _ _ _ _ hb (by omega)).mono ?_
        rintro e W5 ⟨v, rfl, hO⟩
        obtain ⟨a_h6, c_h6, rfl, h6⟩ := hO.rd
        have K := hO.2
        clear hO
        replace hf := hf.keep K
        replace hb := hb.keep K
        replace h5 := h5.keep K
        replace KK := KK.trans K
        clear K
        go_wp2_with fail
        refine (cloneS_any _ _ _ (sl q) _ h5 (sl_oneCell _) (by omega)).mono ?_
        rintro e W6 ⟨v, rfl, ho, K⟩
        obtain ⟨a_h7, c_h7, rfl, h7⟩ := own_rd ho
        clear ho
        replace hf := hf.keep K
        replace hb := hb.keep K
        replace h5 := h5.keep K
        replace h6 := h6.keep K
        replace KK := KK.trans K
        clear K
        go_wp2_with fail
        refine (cloneS_any _ _ _ (sl d) _ h6 (sl_oneCell _) (by omega)).mono ?_
        rintro e W7 ⟨v, rfl, ho, K⟩
        obtain ⟨a_h8, c_h8, rfl, h8⟩ := own_rd ho
        clear ho
        replace hf := hf.keep K
        replace hb := hb.keep K
        replace h5 := h5.keep K
        replace h6 := h6.keep K
        replace h7 := h7.keep K
        replace KK := KK.trans K
        clear K
        go_wp2_with fail
        refine (ha.out _ _ _ _ _ _ _ h7 h8).mono ?_
        rintro e W8 ⟨rfl, K⟩
        replace hf := hf.keep K
        replace hb := hb.keep K
        replace h5 := h5.keep K
        replace h6 := h6.keep K
        replace h7 := h7.keep K
        replace h8 := h8.keep K
        replace KK := KK.trans K
        clear K
        go_wp2_with fail
        refine (cloneS_any _ _ _ (sl q) _ h5 (sl_oneCell _) (by omega)).mono ?_
        rintro e W9 ⟨v, rfl, ho, K⟩
        obtain ⟨a_h9, c_h9, rfl, h9⟩ := own_rd ho
        clear ho
        replace hf := hf.keep K
        replace hb := hb.keep K
        replace h5 := h5.keep K
        replace h6 := h6.keep K
        replace h7 := h7.keep K
        replace h8 := h8.keep K
        replace KK := KK.trans K
        clear K
        go_wp2_with fail
        refine (cloneS_any _ _ _ (sl d) _ h6 (sl_oneCell _) (by omega)).mono ?_
        rintro e W10 ⟨v, rfl, ho, K⟩
        obtain ⟨a_h10, c_h10, rfl, h10⟩ := own_rd ho
        clear ho
        replace hf := hf.keep K
        replace hb := hb.keep K
        replace h5 := h5.keep K
        replace h6 := h6.keep K
        replace h7 := h7.keep K
        replace h8 := h8.keep K
        replace h9 := h9.keep K
        replace KK := KK.trans K
        clear K
        go_wp2_with fail
        refine (hm.out _ _ _ _ _ _ _ h9 h10).mono ?_
        rintro e W11 ⟨rfl, rfl⟩
        go_wp2_with fail
        refine (cloneS_any _ _ _ (sl q) _ h5 (sl_oneCell _) (by omega)).mono ?_
        rintro e W12 ⟨v, rfl, ho, K⟩
        obtain ⟨a_h12, c_h12, rfl, h12⟩ := own_rd ho
        clear ho
        replace hf := hf.keep K
        replace hb := hb.keep K
        replace h5 := h5.keep K
        replace h6 := h6.keep K
        replace h7 := h7.keep K
        replace h8 := h8.keep K
        replace h9 := h9.keep K
        replace h10 := h10.keep K
        replace KK := KK.trans K
        clear K
        go_wp2_with fail
        refine (cloneS_any _ _ _ (sl d) _ h6 (sl_oneCell _) (by omega)).mono ?_
        rintro e W13 ⟨v, rfl, ho, K⟩
        obtain ⟨a_h13, c_h13, rfl, h13⟩ := own_rd ho
        clear ho
        replace hf := hf.keep K
        replace hb := hb.keep K
        replace h5 := h5.keep K
        replace h6 := h6.keep K
        replace h7 := h7.keep K
        replace h8 := h8.keep K
        replace h9 := h9.keep K
        replace h10 := h10.keep K
        replace h12 := h12.keep K
        replace KK := KK.trans K
        clear K
        go_wp2_with fail
        refine (hd.out _ _ _ _ _ _ _ h12 h13).mono ?_
        rintro e W14 ⟨rfl, rfl⟩
        go_wp2_with fail
        refine (cloneS_any _ _ _ (sl d) _ h6 (sl_oneCell _) (by omega)).mono ?_
        rintro e W15 ⟨v, rfl, ho, K⟩
        obtain ⟨a_h14, c_h14, rfl, h14⟩ := own_rd ho
        clear ho
        replace hf := hf.keep K
        replace hb := hb.keep K
        replace h5 := h5.keep K
        replace h6 := h6.keep K
        replace h7 := h7.keep K
        replace h8 := h8.keep K
        replace h9 := h9.keep K
        replace h10 := h10.keep K
        replace h12 := h12.keep K
        replace h13 := h13.keep K
        replace KK := KK.trans K
        clear K
        go_wp2_with fail
        refine (h3.out _ _ _ _ h14 (by omega)).mono ?_
        rintro e W16 ⟨rfl, K⟩
        replace hf := hf.keep K
        replace hb := hb.keep K
        replace h5 := h5.keep K
        replace h6 := h6.keep K
        replace h7 := h7.keep K
        replace h8 := h8.keep K
        replace h9 := h9.keep K
        replace h10 := h10.keep K
        replace h12 := h12.keep K
        replace h13 := h13.keep K
        replace h14 := h14.keep K
        replace KK := KK.trans K
        clear K
        go_wp2_with fail
        go_ret
        exact ⟨rfl, KK⟩
    | true =>
      cases qd with
      | false =>
        obtain rfl : q4 = true := NM.out rfl rfl
        go_enter Try.func9, Try.ntmps9
        go_wp2_with fail
        refine (awake_any _).mono ?_
        rintro e W1 ⟨rfl, K⟩
        replace hf := hf.keep K
        replace hb := hb.keep K
        replace KK := KK.trans K
        clear K
        go_wp2_with fail
        refine (few_yes _ _ _ _ hn1).mono ?_
        rintro e W2 ⟨rfl, rfl⟩
        go_wp2_with fail
        refine (few_yes _ _ _ _ hn2).mono ?_
        rintro e W3 ⟨rfl, rfl⟩
        go_wp2_with fail
        refine (hwf.out _ _ _ _ hf (by omega)).mono ?_
        rintro e W4 ⟨v, rfl, hO⟩
        obtain ⟨a_h5, c_h5, rfl, h5⟩ := hO.rd
        have K := hO.2
        clear hO
        replace hf := hf.keep K
        replace hb := hb.keep K
        replace KK := KK.trans K
        clear K
        go_wp2_with fail
        refine (hwb.out _ _ _ _ hb (by omega)).mono ?_
        rintro e W5 ⟨v, rfl, hO⟩
        obtain ⟨a_h6, c_h6, rfl, h6⟩ := hO.rd
        have K := hO.2
        clear hO
        replace hf := hf.keep K
        replace hb := hb.keep K
        replace h5 := h5.keep K
        replace KK := KK.trans K
        clear K
        go_wp2_with fail
        refine (cloneS_any _ _ _ (sl q) _ h5 (sl_oneCell _) (by omega)).mono ?_
        rintro e W6 ⟨v, rfl, ho, K⟩
        obtain ⟨a_h7, c_h7, rfl, h7⟩ := own_rd ho
        clear ho
        replace hf := hf.keep K
        replace hb := hb.keep K
        replace h5 := h5.keep K
        replace h6 := h6.keep K
        replace KK := KK.trans K
        clear K
        go_wp2_with fail
        refine (cloneS_any _ _ _ (sl d) _ h6 (sl_oneCell _) (by omega)).mono ?_
        rintro e W7 ⟨v, rfl, ho, K⟩
        obtain ⟨a_h8, c_h8, rfl, h8⟩ := own_rd ho
        clear ho
        replace hf := hf.keep K
        replace hb := hb.keep K
        replace h5 := h5.keep K
        replace h6 := h6.keep K
        replace h7 := h7.keep K
        replace KK := KK.trans K
        clear K
        go_wp2_with fail
        refine (ha.out _ _ _ _ _ _ _ h7 h8).mono ?_
        rintro e W8 ⟨rfl, K⟩
        replace hf := hf.keep K
        replace hb := hb.keep K
        replace h5 := h5.keep K
        replace h6 := h6.keep K
        replace h7 := h7.keep K
        replace h8 := h8.keep K
        replace KK := KK.trans K
        clear K
        go_wp2_with fail
        refine (cloneS_any _ _ _ (sl q) _ h5 (sl_oneCell _) (by omega)).mono ?_
        rintro e W9 ⟨v, rfl, ho, K⟩
        obtain ⟨a_h9, c_h9, rfl, h9⟩ := own_rd ho
        clear ho
        replace hf := hf.keep K
        replace hb := hb.keep K
        replace h5 := h5.keep K
        replace h6 := h6.keep K
        replace h7 := h7.keep K
        replace h8 := h8.keep K
        replace KK := KK.trans K
        clear K
        go_wp2_with fail
        refine (cloneS_any _ _ _ (sl d) _ h6 (sl_oneCell _) (by omega)).mono ?_
        rintro e W10 ⟨v, rfl, ho, K⟩
        obtain ⟨a_h10, c_h10, rfl, h10⟩ := own_rd ho
        clear ho
        replace hf := hf.keep K
        replace hb := hb.keep K
        replace h5 := h5.keep K
        replace h6 := h6.keep K
        replace h7 := h7.keep K
        replace h8 := h8.keep K
        replace h9 := h9.keep K
        replace KK := KK.trans K
        clear K
        go_wp2_with fail
        refine (hm.out _ _ _ _ _ _ _ h9 h10).mono ?_
        rintro e W11 ⟨rfl, rfl⟩
        go_wp2_with fail
        refine (cloneS_any _ _ _ (sl d) _ h6 (sl_oneCell _) (by omega)).mono ?_
        rintro e W12 ⟨v, rfl, ho, K⟩
        obtain ⟨a_h11, c_h11, rfl, h11⟩ := own_rd ho
        clear ho
        replace hf := hf.keep K
        replace hb := hb.keep K
        replace h5 := h5.keep K
        replace h6 := h6.keep K
        replace h7 := h7.keep K
        replace h8 := h8.keep K
        replace h9 := h9.keep K
        replace h10 := h10.keep K
        replace KK := KK.trans K
        clear K
        go_wp2_with fail
        refine (h4.out _ _ _ _ h11 (by omega)).mono ?_
        rintro e W13 ⟨rfl, K⟩
        replace hf := hf.keep K
        replace hb := hb.keep K
        replace h5 := h5.keep K
        replace h6 := h6.keep K
        replace h7 := h7.keep K
        replace h8 := h8.keep K
        replace h9 := h9.keep K
        replace h10 := h10.keep K
        replace h11 := h11.keep K
        replace KK := KK.trans K
        clear K
        go_wp2_with fail
        refine (cloneS_any _ _ _ (sl q) _ h5 (sl_oneCell _) (by omega)).mono ?_
        rintro e W14 ⟨v, rfl, ho, K⟩
        obtain ⟨a_h12, c_h12, rfl, h12⟩ := own_rd ho
        clear ho
        replace hf := hf.keep K
        replace hb := hb.keep K
        replace h5 := h5.keep K
        replace h6 := h6.keep K
        replace h7 := h7.keep K
        replace h8 := h8.keep K
        replace h9 := h9.keep K
        replace h10 := h10.keep K
        replace h11 := h11.keep K
        replace KK := KK.trans K
        clear K
        go_wp2_with fail
        refine (cloneS_any _ _ _ (sl d) _ h6 (sl_oneCell _) (by omega)).mono ?_
        rintro e W15 ⟨v, rfl, ho, K⟩
        obtain ⟨a_h13, c_h13, rfl, h13⟩ := own_rd ho
        clear ho
        replace hf := hf.keep K
        replace hb := hb.keep K
        replace h5 := h5.keep K
        replace h6 := h6.keep K
        replace h7 := h7.keep K
        replace h8 := h8.keep K
        replace h9 := h9.keep K
        replace h10 := h10.keep K
        replace h11 := h11.keep K
        replace h12 := h12.keep K
        replace KK := KK.trans K
        clear K
        go_wp2_with fail
        refine (hd.out _ _ _ _ _ _ _ h12 h13).mono ?_
        rintro e W16 ⟨rfl, rfl⟩
        go_wp2_with fail
        go_ret
        exact ⟨rfl, KK⟩
      | true =>
        obtain rfl : q4 = true := NM.out rfl rfl
        obtain rfl : q3 = true := ND.out rfl rfl
        go_enter Try.func9, Try.ntmps9
        go_wp2_with fail
        refine (awake_any _).mono ?_
        rintro e W1 ⟨rfl, K⟩
        replace hf := hf.keep K
        replace hb := hb.keep K
        replace KK := KK.trans K
        clear K
        go_wp2_with fail
        refine (few_yes _ _ _ _ hn1).mono ?_
        rintro e W2 ⟨rfl, rfl⟩
        go_wp2_with fail
        refine (few_yes _ _ _ _ hn2).mono ?_
        rintro e W3 ⟨rfl, rfl⟩
        go_wp2_with fail
        refine (hwf.out _ _ _ _ hf (by omega)).mono ?_
        rintro e W4 ⟨v, rfl, hO⟩
        obtain ⟨a_h5, c_h5, rfl, h5⟩ := hO.rd
        have K := hO.2
        clear hO
        replace hf := hf.keep K
        replace hb := hb.keep K
        replace KK := KK.trans K
        clear K
        go_wp2_with fail
        refine (hwb.out _ _ _ _ hb (by omega)).mono ?_
        rintro e W5 ⟨v, rfl, hO⟩
        obtain ⟨a_h6, c_h6, rfl, h6⟩ := hO.rd
        have K := hO.2
        clear hO
        replace hf := hf.keep K
        replace hb := hb.keep K
        replace h5 := h5.keep K
        replace KK := KK.trans K
        clear K
        go_wp2_with fail
        refine (cloneS_any _ _ _ (sl q) _ h5 (sl_oneCell _) (by omega)).mono ?_
        rintro e W6 ⟨v, rfl, ho, K⟩
        obtain ⟨a_h7, c_h7, rfl, h7⟩ := own_rd ho
        clear ho
        replace hf := hf.keep K
        replace hb := hb.keep K
        replace h5 := h5.keep K
        replace h6 := h6.keep K
        replace KK := KK.trans K
        clear K
        go_wp2_with fail
        refine (cloneS_any _ _ _ (sl d) _ h6 (sl_oneCell _) (by omega)).mono ?_
        rintro e W7 ⟨v, rfl, ho, K⟩
        obtain ⟨a_h8, c_h8, rfl, h8⟩ := own_rd ho
        clear ho
        replace hf := hf.keep K
        replace hb := hb.keep K
        replace h5 := h5.keep K
        replace h6 := h6.keep K
        replace h7 := h7.keep K
        replace KK := KK.trans K
        clear K
        go_wp2_with fail
        refine (ha.out _ _ _ _ _ _ _ h7 h8).mono ?_
        rintro e W8 ⟨rfl, K⟩
        replace hf := hf.keep K
        replace hb := hb.keep K
        replace h5 := h5.keep K
        replace h6 := h6.keep K
        replace h7 := h7.keep K
        replace h8 := h8.keep K
        replace KK := KK.trans K
        clear K
        go_wp2_with fail
        refine (cloneS_any _ _ _ (sl q) _ h5 (sl_oneCell _) (by omega)).mono ?_
        rintro e W9 ⟨v, rfl, ho, K⟩
        obtain ⟨a_h9, c_h9, rfl, h9⟩ := own_rd ho
        clear ho
        replace hf := hf.keep K
        replace hb := hb.keep K
        replace h5 := h5.keep K
        replace h6 := h6.keep K
        replace h7 := h7.keep K
        replace h8 := h8.keep K
        replace KK := KK.trans K
        clear K
        go_wp2_with fail
        refine (cloneS_any _ _ _ (sl d) _ h6 (sl_oneCell _) (by omega)).mono ?_
        rintro e W10 ⟨v, rfl, ho, K⟩
        obtain ⟨a_h10, c_h10, rfl, h10⟩ := own_rd ho
        clear ho
        replace hf := hf.keep K
        replace hb := hb.keep K
        replace h5 := h5.keep K
        replace h6 := h6.keep K
        replace h7 := h7.keep K
        replace h8 := h8.keep K
        replace h9 := h9.keep K
        replace KK := KK.trans K
        clear K
        go_wp2_with fail
        refine (hm.out _ _ _ _ _ _ _ h9 h10).mono ?_
        rintro e W11 ⟨rfl, rfl⟩
        go_wp2_with fail
        refine (cloneS_any _ _ _ (sl d) _ h6 (sl_oneCell _) (by omega)).mono ?_
        rintro e W12 ⟨v, rfl, ho, K⟩
        obtain ⟨a_h11, c_h11, rfl, h11⟩ := own_rd ho
        clear ho
        replace hf := hf.keep K
        replace hb := hb.keep K
        replace h5 := h5.keep K
        replace h6 := h6.keep K
        replace h7 := h7.keep K
        replace h8 := h8.keep K
        replace h9 := h9.keep K
        replace h10 := h10.keep K
        replace KK := KK.trans K
        clear K
        go_wp2_with fail
        refine (h4.out _ _ _ _ h11 (by omega)).mono ?_
        rintro e W13 ⟨rfl, K⟩
        replace hf := hf.keep K
        replace hb := hb.keep K
        replace h5 := h5.keep K
        replace h6 := h6.keep K
        replace h7 := h7.keep K
        replace h8 := h8.keep K
        replace h9 := h9.keep K
        replace h10 := h10.keep K
        replace h11 := h11.keep K
        replace KK := KK.trans K
        clear K
        go_wp2_with fail
        refine (cloneS_any _ _ _ (sl q) _ h5 (sl_oneCell _) (by omega)).mono ?_
        rintro e W14 ⟨v, rfl, ho, K⟩
        obtain ⟨a_h12, c_h12, rfl, h12⟩ := own_rd ho
        clear ho
        replace hf := hf.keep K
        replace hb := hb.keep K
        replace h5 := h5.keep K
        replace h6 := h6.keep K
        replace h7 := h7.keep K
        replace h8 := h8.keep K
        replace h9 := h9.keep K
        replace h10 := h10.keep K
        replace h11 := h11.keep K
        replace KK := KK.trans K
        clear K
        go_wp2_with fail
        refine (cloneS_any _ _ _ (sl d) _ h6 (sl_oneCell _) (by omega)).mono ?_
        rintro e W15 ⟨v, rfl, ho, K⟩
        obtain ⟨a_h13, c_h13, rfl, h13⟩ := own_rd ho
        clear ho
        replace hf := hf.keep K
        replace hb := hb.keep K
        replace h5 := h5.keep K
        replace h6 := h6.keep K
        replace h7 := h7.keep K
        replace h8 := h8.keep K
        replace h9 := h9.keep K
        replace h10 := h10.keep K
        replace h11 := h11.keep K
        replace h12 := h12.keep K
        replace KK := KK.trans K
        clear K
        go_wp2_with fail
        refine (hd.out _ _ _ _ _ _ _ h12 h13).mono ?_
        rintro e W16 ⟨rfl, rfl⟩
        go_wp2_with fail
        refine (cloneS_any _ _ _ (sl d) _ h6 (sl_oneCell _) (by omega)).mono ?_
        rintro e W17 ⟨v, rfl, ho, K⟩
        obtain ⟨a_h14, c_h14, rfl, h14⟩ := own_rd ho
        clear ho
        replace hf := hf.keep K
        replace hb := hb.keep K
        replace h5 := h5.keep K
        replace h6 := h6.keep K
        replace h7 := h7.keep K
        replace h8 := h8.keep K
        replace h9 := h9.keep K
        replace h10 := h10.keep K
        replace h11 := h11.keep K
        replace h12 := h12.keep K
        replace h13 := h13.keep K
        replace KK := KK.trans K
        clear K
        go_wp2_with fail
        refine (h3.out _ _ _ _ h14 (by omega)).mono ?_
        rintro e W18 ⟨rfl, K⟩
        replace hf := hf.keep K
        replace hb := hb.keep K
        replace h5 := h5.keep K
        replace h6 := h6.keep K
        replace h7 := h7.keep K
        replace h8 := h8.keep K
        replace h9 := h9.keep K
        replace h10 := h10.keep K
        replace h11 := h11.keep K
        replace h12 := h12.keep K
        replace h13 := h13.keep K
        replace h14 := h14.keep K
        replace KK := KK.trans K
        clear K
        go_wp2_with fail
        go_ret
        exact ⟨rfl, KK⟩
end Go.Proofs.Ytnkknjpnkobplaa
