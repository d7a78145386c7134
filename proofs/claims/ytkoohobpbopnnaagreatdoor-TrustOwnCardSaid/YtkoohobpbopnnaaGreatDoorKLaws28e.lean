/- Texts joined into one (wip/bin/pack.py): Laws28e. -/
import Derived.Test.YtkoohobpbopnnaaGreatDoorKU
import Derived.Test.YtkoohobpbopnnaaGreatDoorKLaws28d
import Derived.Lib.QuietBelow
/- The walk of the statement TrustOwn: it answers true and keeps what lay there. -/
namespace Go.Proofs.YtkoohobpbopnnaaGreatDoor
open Go.RowKit Go.Lib Go.Shelf

set_option maxRecDepth 20000 in
set_option maxHeartbeats 3000000 in
theorem TrustOwn_any (kd N md : Int) {ar : Option Addr} {cr : Nat} (lr : List S) {aw : Option Addr} {cw : Nat} (lw : List S) {af : Option Addr} {cf : Nat} (lf : List F2) (wt : S) {am : Option Addr} {cm : Nat} (lm : List F2) (w : World) (hT : Tab w) (hr : Rd w ar lr.length cr 1 (sl lr)) (hq : Rd w aw lw.length cw 1 (sl lw)) (hf : Rd w af lf.length cf 2 (fl lf)) (hm : Rd w am lm.length cm 2 (fl lm)) (hk0 : 0 ≤ kd) (hk1 : kd ≤ 255) (hN0 : 0 ≤ N) (hN1 : N ≤ 255) (hm0 : 0 ≤ md) (hm1 : md ≤ 255) :
    Calls Tryz.prog 6 #[.agg #[.int .u8 kd, .int .u8 N, .int .u8 md, .slice ar lr.length cr, .slice aw lw.length cw, .slice af lf.length cf, .int .u16 (sv wt), .slice am lm.length cm]] w fun e w' => e = .returned (.bool true) ∧ Keeps w w' := by
  have KK := Keeps.refl w
  have K1 := (Keeps.refl w).alloc (.cells #[.int .u8 kd, .int .u8 N, .int .u8 md, .slice ar lr.length cr, .slice aw lw.length cw, .slice af lf.length cf, .int .u16 (sv wt), .slice am lm.length cm] 29)
  have hk := BoxK.new w 29 kd N md ar lr.length cr aw lw.length cw af lf.length cf wt am lm.length cm
  have hof := fun W (k : Keeps w W) h20 => of28_any kd N md lr lw lf wt lm W (hr.keep k) (hq.keep k) (hf.keep k) (hm.keep k) hk0 hk1 hN0 hN1 hm0 hm1 h20
  have HOF := Lib.hid hof
  have HMM := Lib.hid hm
  obtain ⟨W1, hW1⟩ : ∃ W1, W1 = w.alloc (.cells #[.int .u8 kd, .int .u8 N, .int .u8 md, .slice ar lr.length cr, .slice aw lw.length cw, .slice af lf.length cf, .int .u16 (sv wt), .slice am lm.length cm] 29) := ⟨_, rfl⟩
  rw [← hW1] at hk K1
  have HW1 := Lib.hid hW1
  replace hT := hT.keep K1
  replace KK := KK.trans K1
  clear hof hr hq hf hm hk0 hk1 hN0 hN1 hm0 hm1 K1 hW1
  by_cases h20 : lm.length ≤ 20
  rotate_left
  · skip
    go_enter Tryz.func6, Tryz.ntmps6
    obtain ⟨k0, k1, k2, k3, k4, k5, k7⟩ := hk.conj; have k6 := hk.c6
    go_wp2_with fail
    rw [← HW1.out]
    clear k0 k1 k2 k3 k4 k5 k6 k7
    refine (of28_long kd N md wt _ (by omega)).mono ?_
    rintro e W1 ⟨rfl, K⟩
    replace hT := hT.keep K
    replace hk := hk.keep K
    replace KK := KK.trans K
    clear K
    go_wp2_with fail
    have K := (Keeps.refl W1).alloc (.cells #[.string ⟨#[]⟩, .int .i64 0, .int .u16 0, .slice none 0 0, .slice none 0 0, .slice none 0 0] 32)
    replace hT := hT.keep K
    replace hk := hk.keep K
    replace KK := KK.trans K
    clear K
    refine (awake28_any _ hT).mono ?_
    rintro e W2 ⟨rfl, K⟩
    replace hT := hT.keep K
    replace hk := hk.keep K
    replace KK := KK.trans K
    clear K
    go_wp2_with fail
    refine (awake28_any _ hT).mono ?_
    rintro e W3 ⟨rfl, K⟩
    replace hT := hT.keep K
    replace hk := hk.keep K
    replace KK := KK.trans K
    clear K
    go_wp2_with fail
    go_ret
    exact ⟨rfl, KK⟩
  · skip
    have hRl := setsR_len md lr (nOf N) (nOf_le N)
    have hQl := setsR_len md lw (nOf N) (nOf_le N)
    have hFl := madeF_le (nOf N) lf
    have hmade := HOF.out
    generalize kdOf kd = kc at *
    generalize fullS (nOf N) = M at *
    generalize setsR md lr (nOf N) = R at *
    generalize setsR md lw (nOf N) = Q at *
    generalize madeF (nOf N) lf = F at *
    go_enter Tryz.func6, Tryz.ntmps6
    obtain ⟨k0, k1, k2, k3, k4, k5, k7⟩ := hk.conj; have k6 := hk.c6
    go_wp2_with fail
    rw [← HW1.out]
    clear k0 k1 k2 k3 k4 k5 k6 k7
    refine (hmade _ KK h20).mono ?_
    rintro e W1 ⟨br, dr, bw, dw, bf, df, a9, c9, rfl, hC, hm, K⟩
    replace hT := hT.keep K
    replace hk := hk.keep K
    replace KK := KK.trans K
    clear K
    go_wp2_with fail
    have hb := BoxC.new W1 32 ⟨#[99]⟩ kc M br R.length dr bw Q.length dw bf F.length df
    have K := (Keeps.refl W1).alloc (.cells #[.string ⟨#[99]⟩, .int .i64 kc, .int .u16 (sv M), .slice br R.length dr, .slice bw Q.length dw, .slice bf F.length df] 32)
    replace hT := hT.keep K
    replace hk := hk.keep K
    replace hC := hC.keep K
    replace hm := hm.keep K
    replace KK := KK.trans K
    clear K
    refine (awake28_any _ hT).mono ?_
    rintro e W2 ⟨rfl, K⟩
    replace hT := hT.keep K
    replace hk := hk.keep K
    replace hC := hC.keep K
    replace hm := hm.keep K
    replace hb := hb.keep K
    replace KK := KK.trans K
    clear K
    have hbl := byz27_le kc M F
    have hbig := rowsR_small (byz := byz27 kc M F) hRl hQl (by omega)
    have e1 := fun br dr bw dw bf df W (h : RdC W br dr R bw dw Q bf df F) => rSafe27_any (nm := ⟨#[99]⟩) kc wt M W h (by omega) hbig
    have e2 := fun br dr bw dw bf df W (h : RdC W br dr R bw dw Q bf df F) => rByz_any ⟨#[99]⟩ kc M (ar := br) (cr := dr) (R := R) (aw := bw) (cw := dw) (Q := Q) (af := bf) (cf := df) (F := F) bf F.length df F W h.f (by omega)
    have e3 := fun br dr bw dw bf df W (h : RdC W br dr R bw dw Q bf df F) => sound_any (nm := ⟨#[99]⟩) kc wt M bf F.length df F W h h.f (by omega)
    have e4 := fun br dr bw dw bf df s W (h : RdC W br dr R bw dw Q bf df F) => acceptsC_any (nm := ⟨#[99]⟩) kc wt M s bf F.length df F W h h.f (by omega)
    have hfacts := own_facts (kd := kc) (wt := wt) (M := M) (R := R) (Q := Q) (F := F)
    generalize soundS kc wt M R Q F F = q1 at *
    generalize accS28 kc wt M R Q F F = acc at *
    generalize safe27 kc wt M R Q F = q2 at *
    generalize refGreatest (mskF M F) = G at *
    have E1 := Lib.hid e1; have E2 := Lib.hid e2; have E3 := Lib.hid e3; have E4 := Lib.hid e4; have HFA := Lib.hid hfacts
    clear e1 e2 e3 e4 hfacts hbig hbl
    obtain ⟨c0, c1, c2, c3, c4, c5⟩ := hb.conj
    have k6 := hk.c6
    go_wp2_with fail
    clear c0 c1 c2 c3 c4 c5 k6
    refine (E1.out _ _ _ _ _ _ _ hC.rd).mono ?_
    rintro e W3 ⟨rfl, K⟩
    replace hT := hT.keep K
    replace hk := hk.keep K
    replace hC := hC.keep K
    replace hm := hm.keep K
    replace hb := hb.keep K
    replace KK := KK.trans K
    clear K
    cases q2
    · skip
      go_wp2_with fail
      refine (awake28_any _ hT).mono ?_
      rintro e W4 ⟨rfl, K⟩
      replace hT := hT.keep K
      replace hk := hk.keep K
      replace hC := hC.keep K
      replace hm := hm.keep K
      replace hb := hb.keep K
      replace KK := KK.trans K
      clear K
      go_wp2_with fail
      go_ret
      exact ⟨rfl, KK⟩
    · skip
      have hf := HFA.out (by simp)
      have HF := Lib.hid hf
      clear hf HFA
      obtain ⟨c0, c1, c2, c3, c4, c5⟩ := hb.conj
      go_wp2_with fail
      clear c0 c1 c2 c3 c4 c5
      refine (E2.out _ _ _ _ _ _ _ hC.rd).mono ?_
      rintro e W4 ⟨v, rfl, hO⟩
      obtain ⟨ag, cg, rfl, hG⟩ := hO.rd
      have K := hO.2
      clear hO
      replace hT := hT.keep K
      replace hk := hk.keep K
      replace hC := hC.keep K
      replace hm := hm.keep K
      replace hb := hb.keep K
      replace KK := KK.trans K
      clear K
      have sg := hG.small
      have HG := Lib.hid hG
      clear hG
      go_wp2_with fail
      go_loopw [6, 36] (fun u v wr => ∃ i : Nat, i ≤ G.length ∧ v = .int .i64 i ∧ u = .bool ((G.take i).any fun b => b != 0#16) ∧ W4 = wr) (fun _ v _ => G.length - (intOf v).toNat)
      case atStart => exact ⟨0, Nat.zero_le _, rfl, rfl, rfl⟩
      case round =>
        obtain ⟨k, hk', rfl, rfl, rfl⟩ := hrel
        by_cases hltk : k < G.length
        · have y1 := HG.out.at hltk
          have y2 := HG.out.isSome (by omega)
          have hsk := any_take1 (fun b => b != 0#16) G k hltk
          generalize at_ G k = t at *
          have HSK := Lib.hid hsk; clear hsk
          obtain ⟨q, hq⟩ : ∃ q, q = (G.take k).any fun b => b != 0#16 := ⟨_, rfl⟩
          rw [← hq] at HSK ⊢; clear hq
          cases q <;> cases h3 : (t != 0#16)
          all_goals
            have HS := Lib.hid (HSK.out.trans (by rw [h3]))
            clear HSK
            go_wp2_with fail
            go_roundw
            case rel => exact ⟨k + 1, by omega, by go_num, by rw [HS.out]; rfl, trivial⟩
            case measure => simp [intOf]; omega
        · have hf := List.take_of_length_le (l := G) (i := k) (by omega)
          rw [hf]
          clear hf
          have hfs := HF.out
          generalize (G.any fun b => b != 0#16) = lies at *
          have HFS := Lib.hid hfs
          clear hfs HF
          by_cases hA : kc = 1 ∧ lies = true
          · have hs := HFS.out.1 hA.1 hA.2
            obtain ⟨hk1, hl1⟩ := hA
            subst hs; subst hl1
            have hkb : (kc == 1) = true := by simpa using hk1
            clear hk1 HFS
            obtain ⟨c0, c1, c2, c3, c4, c5⟩ := hb.conj
            have k6 := hk.c6
            go_wp2_with fail
            clear c0 c1 c2 c3 c4 c5 k6
            refine (E3.out _ _ _ _ _ _ _ hC.rd).mono ?_
            rintro e W5 ⟨rfl, K⟩
            replace hT := hT.keep K
            replace hk := hk.keep K
            replace hC := hC.keep K
            replace hm := hm.keep K
            replace hb := hb.keep K
            replace KK := KK.trans K
            clear K
            go_wp2_with fail
            go_ret
            exact ⟨rfl, KK⟩
          · obtain ⟨hs, hacc⟩ := HFS.out.2 hA
            subst hs
            have HACC := Lib.hid hacc
            have hways : (kc == 1) = false ∨ (kc == 1) = true ∧ lies = false := by
              by_cases hk1 : kc = 1
              · refine .inr ⟨by simpa using hk1, ?_⟩
                cases lies
                · rfl
                · exact absurd ⟨hk1, rfl⟩ hA
              · exact .inl (by simpa using hk1)
            clear hA hacc HFS
            have sq := hC.rd.q.small
            rcases hways with hkb | ⟨hkb, hl0⟩
            rotate_left
            · subst hl0
              obtain ⟨c0, c1, c2, c3, c4, c5⟩ := hb.conj
              have k6 := hk.c6
              go_wp2_with fail
              clear c0 c1 c2 c3 c4 c5 k6
              go_loopw [62] (fun v wr => ∃ i : Nat, i ≤ Q.length ∧ v = .int .i64 i ∧ Keeps W4 wr) (fun v _ => Q.length - (intOf v).toNat)
              case atStart => exact ⟨0, Nat.zero_le _, rfl, Keeps.refl _⟩
              case round =>
                obtain ⟨i, hi, rfl, K9⟩ := hrel
                have hC9 := hC.keep K9; have hb9 := hb.keep K9; have hk9 := hk.keep K9
                by_cases hltq : i < Q.length
                · have x1 := hC9.rd.q.at hltq
                  have x2 := hC9.rd.q.isSome (by omega)
                  have hac := E4.out _ _ _ _ _ _ (at_ Q i) _ hC9.rd
                  rw [HACC.out (at_ Q i) (by simp [at_, List.getD, hltq])] at hac
                  generalize at_ Q i = s at *
                  have HAC := Lib.hid hac; clear hac
                  obtain ⟨c0, c1, c2, c3, c4, c5⟩ := hb9.conj
                  have k6 := hk9.c6
                  go_wp2_with fail
                  clear c0 c1 c2 c3 c4 c5 k6 x1 x2
                  refine HAC.out.mono ?_
                  rintro e W11 ⟨rfl, K⟩
                  go_wp2_with fail
                  go_roundw
                  case rel => exact ⟨i + 1, by omega, by go_num, K9.trans K⟩
                  case measure => simp [intOf]; omega
                · obtain ⟨c0, c1, c2, c3, c4, c5⟩ := hb9.conj
                  have k6 := hk9.c6
                  go_wp2_with fail
                  clear c0 c1 c2 c3 c4 c5 k6
                  refine (E3.out _ _ _ _ _ _ _ hC9.rd).mono ?_
                  rintro e W12 ⟨rfl, K⟩
                  go_wp2_with fail
                  go_ret
                  exact ⟨rfl, (KK.trans K9).trans K⟩
            · skip
              obtain ⟨c0, c1, c2, c3, c4, c5⟩ := hb.conj
              have k6 := hk.c6
              go_wp2_with fail
              clear c0 c1 c2 c3 c4 c5 k6
              go_loopw [62] (fun v wr => ∃ i : Nat, i ≤ Q.length ∧ v = .int .i64 i ∧ Keeps W4 wr) (fun v _ => Q.length - (intOf v).toNat)
              case atStart => exact ⟨0, Nat.zero_le _, rfl, Keeps.refl _⟩
              case round =>
                obtain ⟨i, hi, rfl, K9⟩ := hrel
                have hC9 := hC.keep K9; have hb9 := hb.keep K9; have hk9 := hk.keep K9
                by_cases hltq : i < Q.length
                · have x1 := hC9.rd.q.at hltq
                  have x2 := hC9.rd.q.isSome (by omega)
                  have hac := E4.out _ _ _ _ _ _ (at_ Q i) _ hC9.rd
                  rw [HACC.out (at_ Q i) (by simp [at_, List.getD, hltq])] at hac
                  generalize at_ Q i = s at *
                  have HAC := Lib.hid hac; clear hac
                  obtain ⟨c0, c1, c2, c3, c4, c5⟩ := hb9.conj
                  have k6 := hk9.c6
                  go_wp2_with fail
                  clear c0 c1 c2 c3 c4 c5 k6 x1 x2
                  refine HAC.out.mono ?_
                  rintro e W11 ⟨rfl, K⟩
                  go_wp2_with fail
                  go_roundw
                  case rel => exact ⟨i + 1, by omega, by go_num, K9.trans K⟩
                  case measure => simp [intOf]; omega
                · obtain ⟨c0, c1, c2, c3, c4, c5⟩ := hb9.conj
                  have k6 := hk9.c6
                  go_wp2_with fail
                  clear c0 c1 c2 c3 c4 c5 k6
                  refine (E3.out _ _ _ _ _ _ _ hC9.rd).mono ?_
                  rintro e W12 ⟨rfl, K⟩
                  go_wp2_with fail
                  go_ret
                  exact ⟨rfl, (KK.trans K9).trans K⟩
end Go.Proofs.YtkoohobpbopnnaaGreatDoor
