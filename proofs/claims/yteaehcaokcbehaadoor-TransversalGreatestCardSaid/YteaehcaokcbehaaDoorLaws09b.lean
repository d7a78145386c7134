/- The walks of TransversalGreatest and TransversalExtend. -/
import Derived.Test.YteaehcaokcbehaaDoorLaws09
namespace Go.Proofs.YteaehcaokcbehaaDoor
open Go.RowKit Go.Lib Go.Shelf

theorem all_snoc (p : S → Bool) (g : List S) (k : Nat) (h : k < g.length) : (g.take (k + 1)).all p = ((g.take k).all p && p (at_ g k)) := by
  rw [take_at g k h, List.all_append]; simp
theorem cross_D {f : List S} (hs : small (supS f)) : crossS f (D f) = true := by
  rw [crossS_iff]
  intro x hx
  rw [hit_D hs, accS_iff]
  exact ⟨x, hx, sub_refl x⟩
theorem cross_swap (f g : List S) : crossS f g = g.all (hitS f) := by
  rw [Bool.eq_iff_iff, crossS_iff, List.all_eq_true]
  simp only [hitS_iff]
  constructor
  · intro h s hs x hx; rw [BitVec.and_comm]; exact h x hx s hs
  · intro h x hx s hs; rw [BitVec.and_comm]; exact h s hs x hx

theorem greatPred (s : S) (B : Nat) (l : List S) (w : World) (hc : w.cell? ⟨B, 0, none⟩ = some (.int .u16 (sv s))) :
    PredK Tryd.prog 20 #[.pointer (some ⟨B, 0, none⟩)] vs (fun x => x &&& ~~~s == 0#16) l w := fun W x _ hk => by
  have hc' := hk.cell hc
  show Calls Tryd.prog 20 #[.int .u16 (sv x), .pointer (some ⟨B, 0, none⟩)] W _
  go_enter Tryd.func20, Tryd.ntmps20
  go_wp2
  go_ret
  exact ⟨rfl, Keeps.refl _⟩
theorem great_cf (a : Option Addr) (n c : Nat) (l : List S) (s : S) (B : Nat) (w : World) (h : Rd w a n c 1 (sl l)) (hc : w.cell? ⟨B, 0, none⟩ = some (.int .u16 (sv s))) :
    Calls Tryd.prog 16 #[.slice a n c, .func (.func 20) #[] #[.pointer (some ⟨B, 0, none⟩)]] w fun e w' => e = .returned (.bool (accS l s)) ∧ Keeps w w' :=
  containsFuncS_any a n c l w _ _ (fun x => x &&& ~~~s == 0#16) h (enters_of Tryd.func20 (by kernel_rfl) rfl) (greatPred s B l w hc)

theorem extLPred (s : S) (B : Nat) (l : List S) (w : World) (hc : w.cell? ⟨B, 0, none⟩ = some (.int .u16 (sv s))) :
    PredK Tryd.prog 29 #[.pointer (some ⟨B, 0, none⟩)] vs (fun x => x &&& ~~~s == 0#16) l w := fun W x _ hk => by
  have hc' := hk.cell hc
  show Calls Tryd.prog 29 #[.int .u16 (sv x), .pointer (some ⟨B, 0, none⟩)] W _
  go_enter Tryd.func29, Tryd.ntmps29
  go_wp2
  go_ret
  exact ⟨rfl, Keeps.refl _⟩
theorem extL_cf (a : Option Addr) (n c : Nat) (l : List S) (s : S) (B : Nat) (w : World) (h : Rd w a n c 1 (sl l)) (hc : w.cell? ⟨B, 0, none⟩ = some (.int .u16 (sv s))) :
    Calls Tryd.prog 16 #[.slice a n c, .func (.func 29) #[] #[.pointer (some ⟨B, 0, none⟩)]] w fun e w' => e = .returned (.bool (accS l s)) ∧ Keeps w w' :=
  containsFuncS_any a n c l w _ _ (fun x => x &&& ~~~s == 0#16) h (enters_of Tryd.func29 (by kernel_rfl) rfl) (extLPred s B l w hc)

set_option maxRecDepth 20000 in
set_option maxHeartbeats 3000000 in
theorem TransversalGreatest_any (a : Option Addr) (n c : Nat) (l : List B8) (a2 : Option Addr) (n2 c2 : Nat) (m : List B8) (w : World) (hT : Tab w) (hl : Rd w a n c 1 (bl l)) (hm : Rd w a2 n2 c2 1 (bl m)) :
    Calls Tryd.prog 4 #[.slice a n c, .slice a2 n2 c2] w fun e w' => e = .returned (.bool true) ∧ Keeps w w' := by
  have KK := Keeps.refl w
  have hmf := fun W => made_any a n c l W
  have q1f := made_fam l
  have q2f := made_low l
  have lenf := made_len l
  generalize madeS l = f at *
  have HMf := Lib.hid hmf; have FAf := Lib.hid q1f; have LOf := Lib.hid q2f
  clear hmf q1f q2f
  have hmg := fun W => made_any a2 n2 c2 m W
  have q1g := made_fam m
  have q2g := made_low m
  have leng := made_len m
  generalize madeS m = g at *
  have HMg := Lib.hid hmg; have FAg := Lib.hid q1g; have LOg := Lib.hid q2g
  clear hmg q1g q2g
  have e1 := fun a n c W t h => dualL FAf.out LOf.out a n c W t h
  have e2 := fun a n c a2 n2 c2 W h h2 => cross_any a n c f a2 n2 c2 (D f) W h h2
  rw [cross_D (small_sup LOf.out.small)] at e2
  have e3 := fun a n c s B W h hc => great_cf a n c (D f) s B W h hc
  simp only [acc_D (small_sup LOf.out.small)] at e3
  have e4 := fun a n c a2 n2 c2 W h h2 => cross_any a n c f a2 n2 c2 g W h h2
  rw [cross_swap] at e4
  have e5 := fun k hk => all_snoc (hitS f) g k hk
  have e6 : ∀ k, ¬ k < g.length → g.take k = g := fun k hk => List.take_of_length_le (by omega)
  generalize D f = d at *
  generalize hitS f = p at *
  have E1 := Lib.hid e1; have E2 := Lib.hid e2; have E3 := Lib.hid e3; have E4 := Lib.hid e4; have E5 := Lib.hid e5; have E6 := Lib.hid e6
  clear e1 e2 e3 e4 e5 e6
  go_enter Tryd.func4, Tryd.ntmps4
  go_wp2_with fail
  refine (HMf.out _ hl).mono ?_
  rintro e W1 ⟨v, rfl, hO⟩
  obtain ⟨a_hf, c_hf, rfl, hf⟩ := hO.rd
  have K := hO.2
  clear hO
  replace hT := hT.keep K
  replace hl := hl.keep K
  replace hm := hm.keep K
  replace KK := KK.trans K
  clear K
  go_wp2_with fail
  refine (HMg.out _ hm).mono ?_
  rintro e W2 ⟨v, rfl, hO⟩
  obtain ⟨a_hg, c_hg, rfl, hg⟩ := hO.rd
  have K := hO.2
  clear hO
  replace hT := hT.keep K
  replace hl := hl.keep K
  replace hm := hm.keep K
  replace hf := hf.keep K
  replace KK := KK.trans K
  clear K
  go_wp2_with fail
  refine (awake_any _ hT).mono ?_
  rintro e W3 ⟨rfl, K⟩
  replace hT := hT.keep K
  replace hl := hl.keep K
  replace hm := hm.keep K
  replace hf := hf.keep K
  replace hg := hg.keep K
  replace KK := KK.trans K
  clear K
  go_wp2_with fail
  refine (cloneS_any _ _ _ (sl f) _ hf (sl_oneCell _) (by omega)).mono ?_
  rintro e W4 ⟨v, rfl, ho, K⟩
  obtain ⟨a_h1, c_h1, rfl, h1⟩ := own_rd ho
  clear ho
  replace hT := hT.keep K
  replace hl := hl.keep K
  replace hm := hm.keep K
  replace hf := hf.keep K
  replace hg := hg.keep K
  replace KK := KK.trans K
  clear K
  go_wp2_with fail
  refine (E1.out _ _ _ _ hT h1).mono ?_
  rintro e W5 ⟨v, rfl, hO⟩
  obtain ⟨a_hd, c_hd, rfl, hd⟩ := hO.rd
  have K := hO.2
  clear hO
  replace hT := hT.keep K
  replace hl := hl.keep K
  replace hm := hm.keep K
  replace hf := hf.keep K
  replace hg := hg.keep K
  replace h1 := h1.keep K
  replace KK := KK.trans K
  clear K
  go_wp2_with fail
  refine (cloneS_any _ _ _ (sl f) _ hf (sl_oneCell _) (by omega)).mono ?_
  rintro e W6 ⟨v, rfl, ho, K⟩
  obtain ⟨a_h2, c_h2, rfl, h2⟩ := own_rd ho
  clear ho
  replace hT := hT.keep K
  replace hl := hl.keep K
  replace hm := hm.keep K
  replace hf := hf.keep K
  replace hg := hg.keep K
  replace h1 := h1.keep K
  replace hd := hd.keep K
  replace KK := KK.trans K
  clear K
  go_wp2_with fail
  refine (E2.out _ _ _ _ _ _ _ h2 hd).mono ?_
  rintro e W7 ⟨rfl, K⟩
  replace hT := hT.keep K
  replace hl := hl.keep K
  replace hm := hm.keep K
  replace hf := hf.keep K
  replace hg := hg.keep K
  replace h1 := h1.keep K
  replace hd := hd.keep K
  replace h2 := h2.keep K
  replace KK := KK.trans K
  clear K
  go_wp2_with fail
  go_loopw [9, 35] (fun u v wr => ∃ k : Nat, k ≤ g.length ∧ v = .int .i64 k ∧ u = .bool ((g.take k).all p) ∧ Keeps W7 wr) (fun _ v _ => g.length - (intOf v).toNat)
  case atStart => exact ⟨0, Nat.zero_le _, rfl, rfl, Keeps.refl _⟩
  case round =>
    obtain ⟨k, hk, rfl, rfl, K1⟩ := hrel
    by_cases hlt : k < g.length
    · have hc := (hg.keep K1).at hlt
      have hs := hg.isSome (by omega)
      have hst := E5.out k hlt
      have hbx := Boxed.new wr 24 (.int .u16 (sv (at_ g k)))
      have K2 := (Keeps.refl wr).alloc (.cells #[.int .u16 (sv (at_ g k))] 24)
      have hcall := E3.out _ _ _ (at_ g k) _ _ (hd.keep (K1.trans K2)) hbx.cell
      have HCALL := Lib.hid hcall; have HST := Lib.hid hst
      clear hcall hst hbx
      generalize (g.take k).all p = q at *
      cases q
      · go_wp2_with fail
        go_roundw
        case rel => exact ⟨k + 1, by omega, by go_num, by rw [HST.out]; rfl, K1.trans K2⟩
        case measure => simp [intOf]; omega
      · go_wp2_with fail
        refine HCALL.out.mono ?_
        rintro e W9 ⟨rfl, K3⟩
        go_wp2_with fail
        go_roundw
        case rel => exact ⟨k + 1, by omega, by go_num, by rw [HST.out]; rfl, (K1.trans K2).trans K3⟩
        case measure => simp [intOf]; omega
    · have hfin := E6.out k hlt
      rw [hfin]
      have HFIN := Lib.hid hfin; clear hfin
      generalize g.all p = q at *
      have hqq : (q == q) = true := by simp
      replace hT := hT.keep K1
      replace hl := hl.keep K1
      replace hm := hm.keep K1
      replace hf := hf.keep K1
      replace hg := hg.keep K1
      replace h1 := h1.keep K1
      replace hd := hd.keep K1
      replace h2 := h2.keep K1
      replace KK := KK.trans K1
      clear K1
      go_wp2_with fail
      refine (cloneS_any _ _ _ (sl f) _ hf (sl_oneCell _) (by omega)).mono ?_
      rintro e W8 ⟨v, rfl, ho, K⟩
      obtain ⟨a_h5, c_h5, rfl, h5⟩ := own_rd ho
      clear ho
      replace hT := hT.keep K
      replace hl := hl.keep K
      replace hm := hm.keep K
      replace hf := hf.keep K
      replace hg := hg.keep K
      replace h1 := h1.keep K
      replace hd := hd.keep K
      replace h2 := h2.keep K
      replace KK := KK.trans K
      clear K
      go_wp2_with fail
      refine (cloneS_any _ _ _ (sl g) _ hg (sl_oneCell _) (by omega)).mono ?_
      rintro e W9 ⟨v, rfl, ho, K⟩
      obtain ⟨a_h6, c_h6, rfl, h6⟩ := own_rd ho
      clear ho
      replace hT := hT.keep K
      replace hl := hl.keep K
      replace hm := hm.keep K
      replace hf := hf.keep K
      replace hg := hg.keep K
      replace h1 := h1.keep K
      replace hd := hd.keep K
      replace h2 := h2.keep K
      replace h5 := h5.keep K
      replace KK := KK.trans K
      clear K
      go_wp2_with fail
      refine (E4.out _ _ _ _ _ _ _ h5 h6).mono ?_
      rintro e W10 ⟨rfl, K⟩
      replace hT := hT.keep K
      replace hl := hl.keep K
      replace hm := hm.keep K
      replace hf := hf.keep K
      replace hg := hg.keep K
      replace h1 := h1.keep K
      replace hd := hd.keep K
      replace h2 := h2.keep K
      replace h5 := h5.keep K
      replace h6 := h6.keep K
      replace KK := KK.trans K
      clear K
      go_wp2_with fail
      go_ret
      exact ⟨rfl, KK⟩

set_option maxRecDepth 20000 in
set_option maxHeartbeats 3000000 in
theorem TransversalExtend_any (a : Option Addr) (n c : Nat) (l : List B8) (w : World) (hT : Tab w) (hl : Rd w a n c 1 (bl l)) :
    Calls Tryd.prog 6 #[.slice a n c] w fun e w' => e = .returned (.bool true) ∧ Keeps w w' := by
  have KK := Keeps.refl w
  have hmf := fun W => made_any a n c l W
  have q1f := made_fam l
  have q2f := made_low l
  have lenf := made_len l
  generalize madeS l = f at *
  have HMf := Lib.hid hmf; have FAf := Lib.hid q1f; have LOf := Lib.hid q2f
  clear hmf q1f q2f
  by_cases hge : cotErr f = 0
  · have hgd : Good f := ⟨cot_of_err hge, LOf.out⟩
    obtain ⟨gx, dx, ax⟩ := extS_good hgd
    have ex : extErr f = (extS f, 0) := by
      unfold extErr; rw [if_neg (by simp [hge]), hgd.dual, if_neg (by simp)]
    have e1 := fun a n c W t h hn => extend_any a n c f W t h hn (fun _ _ => LOf.out)
    have e2 := fun a n c W h => rExtend_any a n c f W h (fun _ _ => LOf.out)
    rw [ex] at e1 e2
    unfold RetS at e1 e2
    simp only at e1 e2
    have lenx := low_len gx.low gx.cot.fam.asc
    have acs : ∀ k, k < f.length → accS (extS f) (at_ f k) = true := fun k hk => ax _ ((accS_iff _ _).2 ⟨_, at_mem hk, sub_refl _⟩)
    have dm : domErr (extS f) = (false, 0) := by
      unfold domErr; rw [cotErr_cot gx.cot, if_pos rfl, gx.dual, if_pos rfl, dx, eqS_iff]; simp
    have ct : cotS (extS f) = true := (cotS_iff _).2 gx.cot
    have e3 := fun a n c W t h hn => dominated_any a n c (extS f) W t h hn (fun hv => valid_small hv)
    rw [dm] at e3
    have e4 := fun a n c W h hn => coterie_any a n c (extS f) W h hn
    rw [ct] at e4
    have e5 : ∀ a n c k B W, k < f.length → Rd W a n c 1 (sl (extS f)) → W.cell? ⟨B, 0, none⟩ = some (.int .u16 (sv (at_ f k))) → _ := fun a n c k B W hk h hc => extL_cf a n c (extS f) (at_ f k) B W h hc
    have e6 := fun a n c a2 n2 c2 W h h2 => rSame_any a n c (extS f) a2 n2 c2 (extS f) W h h2
    rw [eqS_iff, decide_eq_true rfl] at e6
    clear dm ct dx ax gx hgd ex hge
    generalize extS f = x at *
    have E1 := Lib.hid e1; have E2 := Lib.hid e2; have E3 := Lib.hid e3; have E4 := Lib.hid e4; have E5 := Lib.hid e5; have E6 := Lib.hid e6; have AC := Lib.hid acs
    clear e1 e2 e3 e4 e5 e6 acs
    go_enter Tryd.func6, Tryd.ntmps6
    go_wp2_with fail
    refine (HMf.out _ hl).mono ?_
    rintro e W1 ⟨v, rfl, hO⟩
    obtain ⟨a_hf, c_hf, rfl, hf⟩ := hO.rd
    have K := hO.2
    clear hO
    replace hT := hT.keep K
    replace hl := hl.keep K
    replace KK := KK.trans K
    clear K
    go_wp2_with fail
    refine (awake_any _ hT).mono ?_
    rintro e W2 ⟨rfl, K⟩
    replace hT := hT.keep K
    replace hl := hl.keep K
    replace hf := hf.keep K
    replace KK := KK.trans K
    clear K
    go_wp2_with fail
    refine (cloneS_any _ _ _ (sl f) _ hf (sl_oneCell _) (by omega)).mono ?_
    rintro e W3 ⟨v, rfl, ho, K⟩
    obtain ⟨a_h1, c_h1, rfl, h1⟩ := own_rd ho
    clear ho
    replace hT := hT.keep K
    replace hl := hl.keep K
    replace hf := hf.keep K
    replace KK := KK.trans K
    clear K
    go_wp2_with fail
    refine (E1.out _ _ _ _ hT h1 (by omega)).mono ?_
    rintro e W4 ⟨v, rfl, hO⟩
    obtain ⟨a_hx, c_hx, rfl, hx⟩ := hO.rd
    have K := hO.2
    clear hO
    replace hT := hT.keep K
    replace hl := hl.keep K
    replace hf := hf.keep K
    replace h1 := h1.keep K
    replace KK := KK.trans K
    clear K
    go_wp2_with fail
    refine (E2.out _ _ _ _ hf).mono ?_
    rintro e W5 ⟨v, rfl, hO⟩
    obtain ⟨a_hy, c_hy, rfl, hy⟩ := hO.rd
    have K := hO.2
    clear hO
    replace hT := hT.keep K
    replace hl := hl.keep K
    replace hf := hf.keep K
    replace h1 := h1.keep K
    replace hx := hx.keep K
    replace KK := KK.trans K
    clear K
    go_wp2_with fail
    refine (E6.out _ _ _ _ _ _ _ hx hy).mono ?_
    rintro e W6 ⟨rfl, K⟩
    replace hT := hT.keep K
    replace hl := hl.keep K
    replace hf := hf.keep K
    replace h1 := h1.keep K
    replace hx := hx.keep K
    replace hy := hy.keep K
    replace KK := KK.trans K
    clear K
    go_wp2_with fail
    refine (cloneS_any _ _ _ (sl x) _ hx (sl_oneCell _) (by omega)).mono ?_
    rintro e W7 ⟨v, rfl, ho, K⟩
    obtain ⟨a_h2, c_h2, rfl, h2⟩ := own_rd ho
    clear ho
    replace hT := hT.keep K
    replace hl := hl.keep K
    replace hf := hf.keep K
    replace h1 := h1.keep K
    replace hx := hx.keep K
    replace hy := hy.keep K
    replace KK := KK.trans K
    clear K
    go_wp2_with fail
    refine (E3.out _ _ _ _ hT h2 (by omega)).mono ?_
    rintro e W8 ⟨rfl, K⟩
    replace hT := hT.keep K
    replace hl := hl.keep K
    replace hf := hf.keep K
    replace h1 := h1.keep K
    replace hx := hx.keep K
    replace hy := hy.keep K
    replace h2 := h2.keep K
    replace KK := KK.trans K
    clear K
    go_wp2_with fail
    go_loopw [56] (fun v wr => ∃ k : Nat, k ≤ f.length ∧ v = .int .i64 k ∧ Keeps W8 wr) (fun v _ => f.length - (intOf v).toNat)
    case atStart => exact ⟨0, Nat.zero_le _, rfl, Keeps.refl _⟩
    case round =>
      obtain ⟨k, hk, rfl, K1⟩ := hrel
      by_cases hlt : k < f.length
      · have hc := (hf.keep K1).at hlt
        have hs := hf.isSome (by omega)
        have hbx := Boxed.new wr 24 (.int .u16 (sv (at_ f k)))
        have K2 := (Keeps.refl wr).alloc (.cells #[.int .u16 (sv (at_ f k))] 24)
        have hcall := E5.out _ _ _ k _ _ hlt (hx.keep (K1.trans K2)) hbx.cell
        rw [AC.out k hlt] at hcall
        have HCALL := Lib.hid hcall
        clear hcall hbx
        go_wp2_with fail
        refine HCALL.out.mono ?_
        rintro e W9 ⟨rfl, K3⟩
        go_wp2_with fail
        go_roundw
        case rel => exact ⟨k + 1, by omega, by go_num, (K1.trans K2).trans K3⟩
        case measure => simp [intOf]; omega
      · skip
        replace hT := hT.keep K1
        replace hl := hl.keep K1
        replace hf := hf.keep K1
        replace h1 := h1.keep K1
        replace hx := hx.keep K1
        replace hy := hy.keep K1
        replace h2 := h2.keep K1
        replace KK := KK.trans K1
        clear K1
        go_wp2_with fail
        refine (E4.out _ _ _ _ hx (by omega)).mono ?_
        rintro e W9 ⟨rfl, K⟩
        replace hT := hT.keep K
        replace hl := hl.keep K
        replace hf := hf.keep K
        replace h1 := h1.keep K
        replace hx := hx.keep K
        replace hy := hy.keep K
        replace h2 := h2.keep K
        replace KK := KK.trans K
        clear K
        go_wp2_with fail
        go_ret
        exact ⟨rfl, KK⟩
  · have ex : ∃ er, extErr f = ([], er) ∧ er ≠ 0 := ⟨cotErr f, by unfold extErr; rw [if_pos hge], hge⟩
    obtain ⟨er, ex, hne⟩ := ex
    have e1 := fun a n c W t h hn => extend_any a n c f W t h hn (fun _ _ => LOf.out)
    have e2 := fun a n c W h => rExtend_any a n c f W h (fun _ _ => LOf.out)
    rw [ex] at e1 e2
    unfold RetS at e1 e2
    simp only at e1 e2
    have e6 := fun a n c a2 n2 c2 W h h2 => rSame_any a n c [] a2 n2 c2 [] W h h2
    rw [eqS_iff, decide_eq_true rfl] at e6
    have E1 := Lib.hid e1; have E2 := Lib.hid e2; have E6 := Lib.hid e6
    clear e1 e2 e6 ex hge
    have hb1 : (er != 0) = true := by simpa using hne
    have hb2 : (er != er) = false := by simp
    have hb3 : (er == er) = true := by simp
    go_enter Tryd.func6, Tryd.ntmps6
    go_wp2_with fail
    refine (HMf.out _ hl).mono ?_
    rintro e W1 ⟨v, rfl, hO⟩
    obtain ⟨a_hf, c_hf, rfl, hf⟩ := hO.rd
    have K := hO.2
    clear hO
    replace hT := hT.keep K
    replace hl := hl.keep K
    replace KK := KK.trans K
    clear K
    go_wp2_with fail
    refine (awake_any _ hT).mono ?_
    rintro e W2 ⟨rfl, K⟩
    replace hT := hT.keep K
    replace hl := hl.keep K
    replace hf := hf.keep K
    replace KK := KK.trans K
    clear K
    go_wp2_with fail
    refine (cloneS_any _ _ _ (sl f) _ hf (sl_oneCell _) (by omega)).mono ?_
    rintro e W3 ⟨v, rfl, ho, K⟩
    obtain ⟨a_h1, c_h1, rfl, h1⟩ := own_rd ho
    clear ho
    replace hT := hT.keep K
    replace hl := hl.keep K
    replace hf := hf.keep K
    replace KK := KK.trans K
    clear K
    go_wp2_with fail
    refine (E1.out _ _ _ _ hT h1 (by omega)).mono ?_
    rintro e W4 ⟨v, rfl, hO⟩
    obtain ⟨a_hx, c_hx, rfl, hx⟩ := hO.rd
    have K := hO.2
    clear hO
    replace hT := hT.keep K
    replace hl := hl.keep K
    replace hf := hf.keep K
    replace h1 := h1.keep K
    replace KK := KK.trans K
    clear K
    go_wp2_with fail
    refine (E2.out _ _ _ _ hf).mono ?_
    rintro e W5 ⟨v, rfl, hO⟩
    obtain ⟨a_hy, c_hy, rfl, hy⟩ := hO.rd
    have K := hO.2
    clear hO
    replace hT := hT.keep K
    replace hl := hl.keep K
    replace hf := hf.keep K
    replace h1 := h1.keep K
    replace hx := hx.keep K
    replace KK := KK.trans K
    clear K
    go_wp2_with fail
    refine (E6.out _ _ _ _ _ _ _ hx hy).mono ?_
    rintro e W6 ⟨rfl, K⟩
    replace hT := hT.keep K
    replace hl := hl.keep K
    replace hf := hf.keep K
    replace h1 := h1.keep K
    replace hx := hx.keep K
    replace hy := hy.keep K
    replace KK := KK.trans K
    clear K
    go_wp2_with fail
    refine (E6.out _ _ _ _ _ _ _ hx hy).mono ?_
    rintro e W7 ⟨rfl, K⟩
    replace hT := hT.keep K
    replace hl := hl.keep K
    replace hf := hf.keep K
    replace h1 := h1.keep K
    replace hx := hx.keep K
    replace hy := hy.keep K
    replace KK := KK.trans K
    clear K
    go_wp2_with fail
    go_ret
    exact ⟨rfl, KK⟩
end Go.Proofs.YteaehcaokcbehaaDoor
