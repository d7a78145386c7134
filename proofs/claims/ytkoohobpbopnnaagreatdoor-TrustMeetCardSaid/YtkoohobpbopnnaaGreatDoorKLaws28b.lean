/- Texts joined into one (wip/bin/pack.py): Laws28b. -/
import Derived.Test.YtkoohobpbopnnaaGreatDoorKO
import Derived.Test.YtkoohobpbopnnaaGreatDoorKLaws28
import Derived.Lib.QuietBelow
/- The walk of the statement TrustMeet: it answers true and keeps what lay there. -/
namespace Go.Proofs.YtkoohobpbopnnaaGreatDoor
open Go.RowKit Go.Lib Go.Shelf

set_option maxRecDepth 20000 in
set_option maxHeartbeats 3000000 in
theorem TrustMeet_any (kd N md : Int) {ar : Option Addr} {cr : Nat} (lr : List S) {aw : Option Addr} {cw : Nat} (lw : List S) {af : Option Addr} {cf : Nat} (lf : List F2) (wt : S) {am : Option Addr} {cm : Nat} (lm : List F2) (s : S) (k8 : Int) (w : World) (hT : Tab w) (hr : Rd w ar lr.length cr 1 (sl lr)) (hq : Rd w aw lw.length cw 1 (sl lw)) (hf : Rd w af lf.length cf 2 (fl lf)) (hm : Rd w am lm.length cm 2 (fl lm)) (hk0 : 0 ≤ kd) (hk1 : kd ≤ 255) (hN0 : 0 ≤ N) (hN1 : N ≤ 255) (hm0 : 0 ≤ md) (hm1 : md ≤ 255) (h80 : 0 ≤ k8) (h81 : k8 ≤ 255) :
    Calls Tryz.prog 7 #[.agg #[.int .u8 kd, .int .u8 N, .int .u8 md, .slice ar lr.length cr, .slice aw lw.length cw, .slice af lf.length cf, .int .u16 (sv wt), .slice am lm.length cm], .int .u16 (sv s), .int .u8 k8] w fun e w' => e = .returned (.bool true) ∧ Keeps w w' := by
  have KK := Keeps.refl w
  have K1 := (Keeps.refl w).alloc (.cells #[.int .u8 kd, .int .u8 N, .int .u8 md, .slice ar lr.length cr, .slice aw lw.length cw, .slice af lf.length cf, .int .u16 (sv wt), .slice am lm.length cm] 29)
  have hk := BoxK.new w 29 kd N md ar lr.length cr aw lw.length cw af lf.length cf wt am lm.length cm
  have hof := fun W (k : Keeps w W) h20 => of28_any kd N md lr lw lf wt lm W (hr.keep k) (hq.keep k) (hf.keep k) (hm.keep k) hk0 hk1 hN0 hN1 hm0 hm1 h20
  have HOF := Lib.hid hof
  have HMM := Lib.hid hm
  obtain ⟨W1, hW1⟩ : ∃ W1, W1 = w.alloc (.cells #[.int .u8 kd, .int .u8 N, .int .u8 md, .slice ar lr.length cr, .slice aw lw.length cw, .slice af lf.length cf, .int .u16 (sv wt), .slice am lm.length cm] 29) := ⟨_, rfl⟩
  rw [← hW1] at hk K1
  have HW1 := Lib.hid hW1
  replace hT := hT.keep K1
  replace KK := KK.trans K1
  clear hof hr hq hf hm hk0 hk1 hN0 hN1 hm0 hm1 K1 hW1
  by_cases h20 : lm.length ≤ 20
  rotate_left
  · skip
    go_enter Tryz.func7, Tryz.ntmps7
    obtain ⟨k0, k1, k2, k3, k4, k5, k7⟩ := hk.conj; have k6 := hk.c6
    go_wp2_with fail
    rw [← HW1.out]
    clear k0 k1 k2 k3 k4 k5 k6 k7
    refine (of28_long kd N md wt _ (by omega)).mono ?_
    rintro e W1 ⟨rfl, K⟩
    replace hT := hT.keep K
    replace hk := hk.keep K
    replace KK := KK.trans K
    clear K
    go_wp2_with fail
    have K := (Keeps.refl W1).alloc (.cells #[.string ⟨#[]⟩, .int .i64 0, .int .u16 0, .slice none 0 0, .slice none 0 0, .slice none 0 0] 32)
    replace hT := hT.keep K
    replace hk := hk.keep K
    replace KK := KK.trans K
    clear K
    refine (awake28_any _ hT).mono ?_
    rintro e W2 ⟨rfl, K⟩
    replace hT := hT.keep K
    replace hk := hk.keep K
    replace KK := KK.trans K
    clear K
    go_wp2_with fail
    refine (awake28_any _ hT).mono ?_
    rintro e W3 ⟨rfl, K⟩
    replace hT := hT.keep K
    replace hk := hk.keep K
    replace KK := KK.trans K
    clear K
    go_wp2_with fail
    go_ret
    exact ⟨rfl, KK⟩
  · skip
    have hm7 := madeF_le 6 lm
    generalize madeF 6 lm = m at *
    have hmade := HOF.out
    generalize kdOf kd = kc at *
    generalize fullS (nOf N) = M at *
    generalize setsR md lr (nOf N) = R at *
    generalize setsR md lw (nOf N) = Q at *
    generalize madeF (nOf N) lf = F at *
    go_enter Tryz.func7, Tryz.ntmps7
    obtain ⟨k0, k1, k2, k3, k4, k5, k7⟩ := hk.conj; have k6 := hk.c6
    go_wp2_with fail
    rw [← HW1.out]
    clear k0 k1 k2 k3 k4 k5 k6 k7
    refine (hmade _ KK h20).mono ?_
    rintro e W1 ⟨br, dr, bw, dw, bf, df, a9, c9, rfl, hC, hm, K⟩
    replace hT := hT.keep K
    replace hk := hk.keep K
    replace KK := KK.trans K
    clear K
    go_wp2_with fail
    have hb := BoxC.new W1 32 ⟨#[99]⟩ kc M br R.length dr bw Q.length dw bf F.length df
    have K := (Keeps.refl W1).alloc (.cells #[.string ⟨#[99]⟩, .int .i64 kc, .int .u16 (sv M), .slice br R.length dr, .slice bw Q.length dw, .slice bf F.length df] 32)
    replace hT := hT.keep K
    replace hk := hk.keep K
    replace hC := hC.keep K
    replace hm := hm.keep K
    replace KK := KK.trans K
    clear K
    refine (awake28_any _ hT).mono ?_
    rintro e W2 ⟨rfl, K⟩
    replace hT := hT.keep K
    replace hk := hk.keep K
    replace hC := hC.keep K
    replace hm := hm.keep K
    replace hb := hb.keep K
    replace KK := KK.trans K
    clear K
    have e1 := fun br dr bw dw bf df a9 c9 W (h : RdC W br dr R bw dw Q bf df F) (hm : Rd W a9 m.length c9 2 (fl m)) => sound_any kc wt M a9 m.length c9 m W h hm (by omega)
    have e2 := fun br dr bw dw bf df a9 c9 W (h : RdC W br dr R bw dw Q bf df F) (hm : Rd W a9 m.length c9 2 (fl m)) => acceptsC_any kc wt M s a9 m.length c9 m W h hm (by omega)
    have e3 := fun br dr bw dw bf df a9 c9 W (hm : Rd W a9 m.length c9 2 (fl m)) => rByz_any ⟨#[99]⟩ kc M (ar := br) (cr := dr) (R := R) (aw := bw) (cw := dw) (Q := Q) (af := bf) (cf := df) (F := F) a9 m.length c9 m W hm (by omega)
    have hfacts := meet_facts (kd := kc) (wt := wt) (M := M) (s := s) (R := R) (Q := Q) (F := F) (m := m)
    generalize soundS kc wt M R Q F m = q1 at *
    generalize accS28 kc wt M R Q F m s = q2 at *
    generalize refGreatest (mskF M m) = G at *
    have E1 := Lib.hid e1; have E2 := Lib.hid e2; have E3 := Lib.hid e3; have HFA := Lib.hid hfacts
    clear e1 e2 e3 hfacts
    cases q1
    · skip
      obtain ⟨c0, c1, c2, c3, c4, c5⟩ := hb.conj
      have k6 := hk.c6
      go_wp2_with fail
      clear c0 c1 c2 c3 c4 c5 k6
      refine (E1.out _ _ _ _ _ _ _ _ _ hC.rd hm).mono ?_
      rintro e W3 ⟨rfl, K⟩
      replace hT := hT.keep K
      replace hk := hk.keep K
      replace hC := hC.keep K
      replace hm := hm.keep K
      replace hb := hb.keep K
      replace KK := KK.trans K
      clear K
      go_wp2_with fail
      refine (awake28_any _ hT).mono ?_
      rintro e W4 ⟨rfl, K⟩
      replace hT := hT.keep K
      replace hk := hk.keep K
      replace hC := hC.keep K
      replace hm := hm.keep K
      replace hb := hb.keep K
      replace KK := KK.trans K
      clear K
      go_wp2_with fail
      go_ret
      exact ⟨rfl, KK⟩
    · skip
      obtain ⟨c0, c1, c2, c3, c4, c5⟩ := hb.conj
      have k6 := hk.c6
      go_wp2_with fail
      clear c0 c1 c2 c3 c4 c5 k6
      refine (E1.out _ _ _ _ _ _ _ _ _ hC.rd hm).mono ?_
      rintro e W3 ⟨rfl, K⟩
      replace hT := hT.keep K
      replace hk := hk.keep K
      replace hC := hC.keep K
      replace hm := hm.keep K
      replace hb := hb.keep K
      replace KK := KK.trans K
      clear K
      obtain ⟨c0, c1, c2, c3, c4, c5⟩ := hb.conj
      have k6 := hk.c6
      go_wp2_with fail
      clear c0 c1 c2 c3 c4 c5 k6
      cases q2
      · skip
        refine (E2.out _ _ _ _ _ _ _ _ _ hC.rd hm).mono ?_
        rintro e W4 ⟨rfl, K⟩
        replace hT := hT.keep K
        replace hk := hk.keep K
        replace hC := hC.keep K
        replace hm := hm.keep K
        replace hb := hb.keep K
        replace KK := KK.trans K
        clear K
        go_wp2_with fail
        refine (awake28_any _ hT).mono ?_
        rintro e W5 ⟨rfl, K⟩
        replace hT := hT.keep K
        replace hk := hk.keep K
        replace hC := hC.keep K
        replace hm := hm.keep K
        replace hb := hb.keep K
        replace KK := KK.trans K
        clear K
        go_wp2_with fail
        go_ret
        exact ⟨rfl, KK⟩
      · skip
        refine (E2.out _ _ _ _ _ _ _ _ _ hC.rd hm).mono ?_
        rintro e W4 ⟨rfl, K⟩
        replace hT := hT.keep K
        replace hk := hk.keep K
        replace hC := hC.keep K
        replace hm := hm.keep K
        replace hb := hb.keep K
        replace KK := KK.trans K
        clear K
        obtain ⟨fp, fr, fq⟩ := HFA.out (by simp) (by simp)
        have HFR := Lib.hid fr; have HFQ := Lib.hid fq
        clear fr fq
        obtain ⟨c0, c1, c2, c3, c4, c5⟩ := hb.conj
        have k6 := hk.c6
        go_wp2_with fail
        clear c0 c1 c2 c3 c4 c5 k6
        refine (E3.out _ _ _ _ _ _ _ _ _ hm).mono ?_
        rintro e W5 ⟨v, rfl, hO⟩
        obtain ⟨ag, cg, rfl, hG⟩ := hO.rd
        have K := hO.2
        clear hO
        replace hT := hT.keep K
        replace hk := hk.keep K
        replace hC := hC.keep K
        replace hm := hm.keep K
        replace hb := hb.keep K
        replace KK := KK.trans K
        clear K
        obtain ⟨k8, rfl⟩ := Int.eq_ofNat_of_zero_le h80
        have hmod : (k8 : Int).tmod (G.length : Int) = ((k8 % G.length : Nat) : Int) := rfl
        have hlt8 : k8 % G.length < G.length := Nat.mod_lt _ fp
        have hg := hG.at hlt8
        have sg := hG.isSome fp
        have hbm : at_ G (k8 % G.length) ∈ G := by simp [at_, List.getD, hlt8]
        have hw8 : IntKind.i64.wrap (k8 : Int) = (k8 : Int) := wrapi_in k8 h80 (by omega)
        generalize at_ G (k8 % G.length) = b at *
        generalize k8 % G.length = i8 at *
        have hne : ¬ ((G.length : Int) = 0) := by omega
        have hi8 : (i8 : Int) < (G.length : Int) := by omega
        obtain ⟨c0, c1, c2, c3, c4, c5⟩ := hb.conj
        have k6 := hk.c6
        have hRR := hC.rd.r; have hQQ := hC.rd.q
        have HRR := Lib.hid hRR; have HQQ := Lib.hid hQQ
        have sr := hRR.small; have sq := hQQ.small
        clear hRR hQQ
        go_wp2_with fail
        clear hmod hw8 hne hi8 hlt8 hg sg h80 h81 hm7
        go_loopw [60] (fun v wr => ∃ i : Nat, i ≤ R.length ∧ v = .int .i64 i ∧ W5 = wr) (fun v _ => R.length - (intOf v).toNat)
        case atStart => exact ⟨0, Nat.zero_le _, rfl, rfl⟩
        case round =>
          obtain ⟨i, hi, rfl, rfl⟩ := hrel
          by_cases hlt : i < R.length
          · have x1 := HRR.out.at hlt
            have x2 := HRR.out.isSome (by omega)
            have x3 := HFR.out (at_ R i) (by simp [at_, List.getD, hlt]) b hbm
            generalize at_ R i = r at *
            go_wp2_with fail
            go_roundw
            case rel => exact ⟨i + 1, by omega, by go_num, trivial⟩
            case measure => simp [intOf]; omega
          · go_wp2_with fail
            go_loopw [77] (fun v wr => ∃ i : Nat, i ≤ Q.length ∧ v = .int .i64 i ∧ W5 = wr) (fun v _ => Q.length - (intOf v).toNat)
            case atStart => exact ⟨0, Nat.zero_le _, rfl, rfl⟩
            case round =>
              obtain ⟨i, hi, rfl, rfl⟩ := hrel
              by_cases hlt : i < Q.length
              · have x1 := HQQ.out.at hlt
                have x2 := HQQ.out.isSome (by omega)
                have x3 := HFQ.out (at_ Q i) (by simp [at_, List.getD, hlt]) b hbm
                generalize at_ Q i = r at *
                go_wp2_with fail
                go_roundw
                case rel => exact ⟨i + 1, by omega, by go_num, trivial⟩
                case measure => simp [intOf]; omega
              · go_wp2_with fail
                go_ret
                exact ⟨rfl, KK⟩
end Go.Proofs.YtkoohobpbopnnaaGreatDoor
