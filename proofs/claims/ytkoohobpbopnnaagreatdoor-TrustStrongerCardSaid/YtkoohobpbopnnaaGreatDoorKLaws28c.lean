/- Texts joined into one (wip/bin/pack.py): Laws28c. -/
import Derived.Test.YtkoohobpbopnnaaGreatDoorKQ
import Derived.Test.YtkoohobpbopnnaaGreatDoorKP
import Derived.Test.YtkoohobpbopnnaaGreatDoorKLaws28
import Derived.Lib.QuietBelow
/- The walk of the statement TrustStronger: it answers true and keeps what lay there. -/
namespace Go.Proofs.YtkoohobpbopnnaaGreatDoor
open Go.RowKit Go.Lib Go.Shelf

set_option maxRecDepth 20000 in
set_option maxHeartbeats 3000000 in
theorem TrustStronger_any (kd N md : Int) {ar : Option Addr} {cr : Nat} (lr : List S) {aw : Option Addr} {cw : Nat} (lw : List S) {af : Option Addr} {cf : Nat} (lf : List F2) (wt : S) {am : Option Addr} {cm : Nat} (lm : List F2) {a2 : Option Addr} {c2 : Nat} (l2 : List F2) (s : S) (w : World) (hT : Tab w) (hr : Rd w ar lr.length cr 1 (sl lr)) (hq : Rd w aw lw.length cw 1 (sl lw)) (hf : Rd w af lf.length cf 2 (fl lf)) (hm : Rd w am lm.length cm 2 (fl lm)) (hk0 : 0 ≤ kd) (hk1 : kd ≤ 255) (hN0 : 0 ≤ N) (hN1 : N ≤ 255) (hm0 : 0 ≤ md) (hm1 : md ≤ 255) (h2 : Rd w a2 l2.length c2 2 (fl l2)) :
    Calls Tryz.prog 10 #[.agg #[.int .u8 kd, .int .u8 N, .int .u8 md, .slice ar lr.length cr, .slice aw lw.length cw, .slice af lf.length cf, .int .u16 (sv wt), .slice am lm.length cm], .slice a2 l2.length c2, .int .u16 (sv s)] w fun e w' => e = .returned (.bool true) ∧ Keeps w w' := by
  have KK := Keeps.refl w
  have K1 := (Keeps.refl w).alloc (.cells #[.int .u8 kd, .int .u8 N, .int .u8 md, .slice ar lr.length cr, .slice aw lw.length cw, .slice af lf.length cf, .int .u16 (sv wt), .slice am lm.length cm] 29)
  have hk := BoxK.new w 29 kd N md ar lr.length cr aw lw.length cw af lf.length cf wt am lm.length cm
  have hof := fun W (k : Keeps w W) h20 => of28_any kd N md lr lw lf wt lm W (hr.keep k) (hq.keep k) (hf.keep k) (hm.keep k) hk0 hk1 hN0 hN1 hm0 hm1 h20
  have HOF := Lib.hid hof
  have HMM := Lib.hid hm
  obtain ⟨W1, hW1⟩ : ∃ W1, W1 = w.alloc (.cells #[.int .u8 kd, .int .u8 N, .int .u8 md, .slice ar lr.length cr, .slice aw lw.length cw, .slice af lf.length cf, .int .u16 (sv wt), .slice am lm.length cm] 29) := ⟨_, rfl⟩
  rw [← hW1] at hk K1
  have HW1 := Lib.hid hW1
  replace hT := hT.keep K1
  replace h2 := h2.keep K1
  replace KK := KK.trans K1
  clear hof hr hq hf hm hk0 hk1 hN0 hN1 hm0 hm1 K1 hW1
  by_cases h20 : lm.length ≤ 20
  rotate_left
  · skip
    go_enter Tryz.func10, Tryz.ntmps10
    obtain ⟨k0, k1, k2, k3, k4, k5, k7⟩ := hk.conj; have k6 := hk.c6
    go_wp2_with fail
    rw [← HW1.out]
    clear k0 k1 k2 k3 k4 k5 k6 k7
    refine (of28_long kd N md wt _ (by omega)).mono ?_
    rintro e W1 ⟨rfl, K⟩
    replace hT := hT.keep K
    replace hk := hk.keep K
    replace KK := KK.trans K
    clear K
    go_wp2_with fail
    have K := (Keeps.refl W1).alloc (.cells #[.string ⟨#[]⟩, .int .i64 0, .int .u16 0, .slice none 0 0, .slice none 0 0, .slice none 0 0] 32)
    replace hT := hT.keep K
    replace hk := hk.keep K
    replace KK := KK.trans K
    clear K
    refine (awake28_any _ hT).mono ?_
    rintro e W2 ⟨rfl, K⟩
    replace hT := hT.keep K
    replace hk := hk.keep K
    replace KK := KK.trans K
    clear K
    go_wp2_with fail
    refine (awake28_any _ hT).mono ?_
    rintro e W3 ⟨rfl, K⟩
    replace hT := hT.keep K
    replace hk := hk.keep K
    replace KK := KK.trans K
    clear K
    go_wp2_with fail
    go_ret
    exact ⟨rfl, KK⟩
  · skip
    have hm7 := madeF_le 6 lm
    have hfv := fv_made 6 (by omega) lm
    generalize madeF 6 lm = m at *
    have hmade := HOF.out
    generalize kdOf kd = kc at *
    generalize fullS (nOf N) = M at *
    generalize setsR md lr (nOf N) = R at *
    generalize setsR md lw (nOf N) = Q at *
    generalize madeF (nOf N) lf = F at *
    go_enter Tryz.func10, Tryz.ntmps10
    obtain ⟨k0, k1, k2, k3, k4, k5, k7⟩ := hk.conj; have k6 := hk.c6
    go_wp2_with fail
    rw [← HW1.out]
    clear k0 k1 k2 k3 k4 k5 k6 k7
    refine (hmade _ KK h20).mono ?_
    rintro e W1 ⟨br, dr, bw, dw, bf, df, a9, c9, rfl, hC, hm, K⟩
    replace hT := hT.keep K
    replace h2 := h2.keep K
    replace hk := hk.keep K
    replace KK := KK.trans K
    clear K
    go_wp2_with fail
    have hb := BoxC.new W1 32 ⟨#[99]⟩ kc M br R.length dr bw Q.length dw bf F.length df
    have K := (Keeps.refl W1).alloc (.cells #[.string ⟨#[99]⟩, .int .i64 kc, .int .u16 (sv M), .slice br R.length dr, .slice bw Q.length dw, .slice bf F.length df] 32)
    replace hT := hT.keep K
    replace h2 := h2.keep K
    replace hk := hk.keep K
    replace hC := hC.keep K
    replace hm := hm.keep K
    replace KK := KK.trans K
    clear K
    refine (awake28_any _ hT).mono ?_
    rintro e W2 ⟨rfl, K⟩
    replace hT := hT.keep K
    replace h2 := h2.keep K
    replace hk := hk.keep K
    replace hC := hC.keep K
    replace hm := hm.keep K
    replace hb := hb.keep K
    replace KK := KK.trans K
    clear K
    by_cases hl2 : l2.length ≤ 20
    rotate_left
    · skip
      have hl2' : (20 : Int) < (l2.length : Int) := by omega
      go_wp2_with fail
      refine (awake28_any _ hT).mono ?_
      rintro e W3 ⟨rfl, K⟩
      replace hT := hT.keep K
      replace hk := hk.keep K
      replace hC := hC.keep K
      replace hm := hm.keep K
      replace hb := hb.keep K
      replace h2 := h2.keep K
      replace KK := KK.trans K
      clear K
      go_wp2_with fail
      go_ret
      exact ⟨rfl, KK⟩
    · skip
      have hl2' : ¬ (20 : Int) < (l2.length : Int) := by omega
      have hmm := HMM.out.keep KK
      have k7 := hk.c7
      have q1 := fun d os => Calls.regrown_of (stronger_any am lm.length cm lm a2 l2.length c2 l2 (Sort.grow (redrawn W2 d) os) (hmm.keep (grow_keeps d os)) (h2.keep (grow_keeps d os)))
      have q2 := fun d os => Calls.regrown_of (rStr_any am lm.length cm lm a2 l2.length c2 l2 (Sort.grow (redrawn W2 d) os) (hmm.keep (grow_keeps d os)) (h2.keep (grow_keeps d os)))
      have q3 := fun d os => Calls.regrown_of (coversM_any a2 l2.length c2 l2 s (Sort.grow (redrawn W2 d) os) (h2.keep (grow_keeps d os)))
      have q4 := fun d os => Calls.regrown_of ((rCov_any a2 l2.length c2 l2 s (Sort.grow (redrawn W2 d) os) (h2.keep (grow_keeps d os))).mono fun e w' ⟨he, hw⟩ => ⟨he, hw ▸ Keeps.refl _⟩)
      have H1 := Lib.hid q1; have H2 := Lib.hid q2; have H3 := Lib.hid q3; have H4 := Lib.hid q4
      clear q1 q2 q3 q4
      generalize strS lm l2 = u1 at *
      generalize covS l2 s = u2 at *
      have hu1 : (u1 != u1) = false := by simp
      have hu2 : (u2 != u2) = false := by simp
      have HM2 := Lib.hid hmm
      clear hmm
      go_wp2_with fail
      have c7 := cell_regrown k7
      clear k7
      refine wp_region_quiet_below (by kernel_rfl) (by kernel_rfl) ?_
      repeat (first | go_big_quiet_step (first | with_reducible exact H1.out _ _ | with_reducible exact H2.out _ _ | with_reducible exact H3.out _ _ | with_reducible exact H4.out _ _) | quiet_step (first | with_reducible exact H1.out _ _ | with_reducible exact H2.out _ _ | with_reducible exact H3.out _ _ | with_reducible exact H4.out _ _))
      refine wpQuiet_nil ?_
      intro _ hw'
      obtain ⟨⟨dq, osq⟩, hw''⟩ := hw'
      subst hw''
      have K := grow_keeps (w := W2) dq osq
      clear c7 H1 H2 H3 H4 hu1 hu2
      replace hT := hT.keep K
      replace hk := hk.keep K
      replace hC := hC.keep K
      replace hm := hm.keep K
      replace hb := hb.keep K
      replace h2 := h2.keep K
      replace KK := KK.trans K
      clear K
      generalize Sort.grow (redrawn W2 dq) osq = wz at *
      clear HM2
      have hmm := HMM.out.keep KK
      have hk' := hk.keep ((Keeps.refl wz).alloc (.cells #[] 64))
      have k7 := hk'.c7
      clear hk'
      have hO0 := Own.made (e := 64) (sz := 2) (Keeps.refl wz) [] 0 (by decide) rfl
      have HO0 := Lib.hid hO0
      have HM2 := Lib.hid (hmm.keep HO0.out.2)
      have H22 := Lib.hid (h2.keep HO0.out.2)
      clear hmm hO0
      go_wp2_with (at_builtin; refine wp_app tyF rfl _ _ rfl HO0.out rfl rfl HM2.out (fl_oneCell _) (by omega) ?_)
      intro v1 w1 hO1 hg1
      obtain ⟨b1, d1, rfl, hR1⟩ := hO1.rd
      clear k7 hg1 hR1
      have HO1 := Lib.hid hO1
      clear hO1
      go_wp2_with (at_builtin; refine wp_app tyF rfl _ _ rfl HO1.out rfl rfl (h2.keep HO1.out.2) (fl_oneCell _) (by omega) ?_)
      intro v2 w2 hO2 hg2
      obtain ⟨b2, d2, rfl, hR2⟩ := hO2.rd
      have e1 : lm.length + l2.length = (lm ++ l2).length := by rw [List.length_append]
      have e2 : fl lm ++ fl l2 = fl (lm ++ l2) := by rw [fl_append]
      rw [e1, e2] at hR2
      rw [e1]
      have hllen : (lm ++ l2).length ≤ 40 := by rw [List.length_append]; omega
      have K := hO2.2
      clear hO2 hg2 e1 e2 HO1 HO0 HM2 H22
      replace hT := hT.keep K
      replace hk := hk.keep K
      replace hC := hC.keep K
      replace hm := hm.keep K
      replace hb := hb.keep K
      replace h2 := h2.keep K
      replace KK := KK.trans K
      clear K
      have hmade2 := fun W (k : Keeps w2 W) => made19_any 6 b2 d2 (lm ++ l2) W (hR2.keep k) (by omega) (by omega)
      have hb7 := madeF_le 6 (lm ++ l2)
      rw [show ((6 : Nat) : Int) = 6 from rfl] at hmade2
      generalize madeF 6 (lm ++ l2) = bo at *
      generalize lm ++ l2 = lb at *
      have HMA := Lib.hid hmade2
      clear hmade2 hR2 hllen
      go_wp2_with fail
      refine (HMA.out _ (Keeps.refl _)).mono ?_
      rintro e W21 ⟨v, rfl, hO⟩
      obtain ⟨ab, cb, rfl, hbo⟩ := hO.rd
      have K := hO.2
      clear hO HMA
      replace hT := hT.keep K
      replace hk := hk.keep K
      replace hC := hC.keep K
      replace hm := hm.keep K
      replace hb := hb.keep K
      replace h2 := h2.keep K
      replace KK := KK.trans K
      clear K
      have hfacts := fun h1 h2 => str_acc (kd := kc) (wt := wt) (M := M) (s := s) (R := R) (Q := Q) (F := F) (both := bo) (m := m) hfv h1 h2
      have e1 := fun W (h : Rd W ab bo.length cb 2 (fl bo)) (h2 : Rd W a9 m.length c9 2 (fl m)) => stronger_any ab bo.length cb bo a9 m.length c9 m W h h2
      have e2 := fun br dr bw dw bf df W (h : RdC W br dr R bw dw Q bf df F) (hm : Rd W ab bo.length cb 2 (fl bo)) => acceptsC_any kc wt M s ab bo.length cb bo W h hm (by omega)
      have e3 := fun br dr bw dw bf df W (h : RdC W br dr R bw dw Q bf df F) (hm : Rd W a9 m.length c9 2 (fl m)) => acceptsC_any kc wt M s a9 m.length c9 m W h hm (by omega)
      generalize strS bo m = v1 at *
      generalize accS28 kc wt M R Q F bo s = v2 at *
      generalize accS28 kc wt M R Q F m s = v3 at *
      have E1 := Lib.hid e1; have E2 := Lib.hid e2; have E3 := Lib.hid e3; have HFA := Lib.hid hfacts
      clear e1 e2 e3 hfacts
      go_wp2_with fail
      refine (E1.out _ hbo hm).mono ?_
      rintro e W22 ⟨rfl, K⟩
      replace hT := hT.keep K
      replace hk := hk.keep K
      replace hC := hC.keep K
      replace hm := hm.keep K
      replace hb := hb.keep K
      replace h2 := h2.keep K
      replace hbo := hbo.keep K
      replace KK := KK.trans K
      clear K
      cases v1
      · skip
        go_wp2_with fail
        go_ret
        exact ⟨rfl, KK⟩
      · skip
        obtain ⟨c0, c1, c2, c3, c4, c5⟩ := hb.conj
        have k6 := hk.c6
        go_wp2_with fail
        clear c0 c1 c2 c3 c4 c5 k6
        refine (E2.out _ _ _ _ _ _ _ hC.rd hbo).mono ?_
        rintro e W23 ⟨rfl, K⟩
        replace hT := hT.keep K
        replace hk := hk.keep K
        replace hC := hC.keep K
        replace hm := hm.keep K
        replace hb := hb.keep K
        replace h2 := h2.keep K
        replace hbo := hbo.keep K
        replace KK := KK.trans K
        clear K
        cases v2
        · skip
          go_wp2_with fail
          go_ret
          exact ⟨rfl, KK⟩
        · skip
          have hv3 := HFA.out (by simp) (by simp)
          subst hv3
          obtain ⟨c0, c1, c2, c3, c4, c5⟩ := hb.conj
          have k6 := hk.c6
          go_wp2_with fail
          clear c0 c1 c2 c3 c4 c5 k6
          refine (E3.out _ _ _ _ _ _ _ hC.rd hm).mono ?_
          rintro e W24 ⟨rfl, K⟩
          replace hT := hT.keep K
          replace hk := hk.keep K
          replace hC := hC.keep K
          replace hm := hm.keep K
          replace hb := hb.keep K
          replace h2 := h2.keep K
          replace hbo := hbo.keep K
          replace KK := KK.trans K
          clear K
          go_wp2_with fail
          go_ret
          exact ⟨rfl, KK⟩
end Go.Proofs.YtkoohobpbopnnaaGreatDoor
