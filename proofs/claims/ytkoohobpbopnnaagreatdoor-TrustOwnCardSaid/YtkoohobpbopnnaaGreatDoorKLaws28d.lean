/- Texts joined into one (wip/bin/pack.py): Laws28d. -/
import Derived.Test.YtkoohobpbopnnaaGreatDoorKR
import Derived.Test.YtkoohobpbopnnaaGreatDoorKLaws28
import Derived.Lib.QuietBelow
/- The walks of the statements TrustLimits and TrustCommits: each answers true and keeps what lay there. -/
namespace Go.Proofs.YtkoohobpbopnnaaGreatDoor
open Go.RowKit Go.Lib Go.Shelf

theorem any_take1 (p : S → Bool) (l : List S) (k : Nat) (h : k < l.length) : (l.take (k + 1)).any p = ((l.take k).any p || p (at_ l k)) := by
  rw [take_at l k h, List.any_append]; simp
theorem all_take1 (p : S → Bool) (l : List S) (k : Nat) (h : k < l.length) : (l.take (k + 1)).all p = ((l.take k).all p && p (at_ l k)) := by
  rw [take_at l k h, List.all_append]; simp

set_option maxRecDepth 20000 in
set_option maxHeartbeats 3000000 in
theorem TrustLimits_any (kd N md : Int) {ar : Option Addr} {cr : Nat} (lr : List S) {aw : Option Addr} {cw : Nat} (lw : List S) {af : Option Addr} {cf : Nat} (lf : List F2) (wt : S) {am : Option Addr} {cm : Nat} (lm : List F2) (w : World) (hT : Tab w) (hr : Rd w ar lr.length cr 1 (sl lr)) (hq : Rd w aw lw.length cw 1 (sl lw)) (hf : Rd w af lf.length cf 2 (fl lf)) (hm : Rd w am lm.length cm 2 (fl lm)) (hk0 : 0 ≤ kd) (hk1 : kd ≤ 255) (hN0 : 0 ≤ N) (hN1 : N ≤ 255) (hm0 : 0 ≤ md) (hm1 : md ≤ 255) :
    Calls Tryz.prog 4 #[.agg #[.int .u8 kd, .int .u8 N, .int .u8 md, .slice ar lr.length cr, .slice aw lw.length cw, .slice af lf.length cf, .int .u16 (sv wt), .slice am lm.length cm]] w fun e w' => e = .returned (.bool true) ∧ Keeps w w' := by
  have KK := Keeps.refl w
  have K1 := (Keeps.refl w).alloc (.cells #[.int .u8 kd, .int .u8 N, .int .u8 md, .slice ar lr.length cr, .slice aw lw.length cw, .slice af lf.length cf, .int .u16 (sv wt), .slice am lm.length cm] 29)
  have hk := BoxK.new w 29 kd N md ar lr.length cr aw lw.length cw af lf.length cf wt am lm.length cm
  have hof := fun W (k : Keeps w W) h20 => of28_any kd N md lr lw lf wt lm W (hr.keep k) (hq.keep k) (hf.keep k) (hm.keep k) hk0 hk1 hN0 hN1 hm0 hm1 h20
  have HOF := Lib.hid hof
  have HMM := Lib.hid hm
  obtain ⟨W1, hW1⟩ : ∃ W1, W1 = w.alloc (.cells #[.int .u8 kd, .int .u8 N, .int .u8 md, .slice ar lr.length cr, .slice aw lw.length cw, .slice af lf.length cf, .int .u16 (sv wt), .slice am lm.length cm] 29) := ⟨_, rfl⟩
  rw [← hW1] at hk K1
  have HW1 := Lib.hid hW1
  replace hT := hT.keep K1
  replace KK := KK.trans K1
  clear hof hr hq hf hm hk0 hk1 hN0 hN1 hm0 hm1 K1 hW1
  by_cases h20 : lm.length ≤ 20
  rotate_left
  · skip
    go_enter Tryz.func4, Tryz.ntmps4
    obtain ⟨k0, k1, k2, k3, k4, k5, k7⟩ := hk.conj; have k6 := hk.c6
    go_wp2_with fail
    rw [← HW1.out]
    clear k0 k1 k2 k3 k4 k5 k6 k7
    refine (of28_long kd N md wt _ (by omega)).mono ?_
    rintro e W1 ⟨rfl, K⟩
    replace hT := hT.keep K
    replace hk := hk.keep K
    replace KK := KK.trans K
    clear K
    go_wp2_with fail
    have K := (Keeps.refl W1).alloc (.cells #[.string ⟨#[]⟩, .int .i64 0, .int .u16 0, .slice none 0 0, .slice none 0 0, .slice none 0 0] 32)
    replace hT := hT.keep K
    replace hk := hk.keep K
    replace KK := KK.trans K
    clear K
    refine (awake28_any _ hT).mono ?_
    rintro e W2 ⟨rfl, K⟩
    replace hT := hT.keep K
    replace hk := hk.keep K
    replace KK := KK.trans K
    clear K
    go_wp2_with fail
    refine (awake28_any _ hT).mono ?_
    rintro e W3 ⟨rfl, K⟩
    replace hT := hT.keep K
    replace hk := hk.keep K
    replace KK := KK.trans K
    clear K
    go_wp2_with fail
    go_ret
    exact ⟨rfl, KK⟩
  · skip
    have hm7 := madeF_le 6 lm
    have hfv := fv_made 6 (by omega) lm
    generalize madeF 6 lm = m at *
    have hmade := HOF.out
    generalize kdOf kd = kc at *
    generalize fullS (nOf N) = M at *
    generalize setsR md lr (nOf N) = R at *
    generalize setsR md lw (nOf N) = Q at *
    generalize madeF (nOf N) lf = F at *
    go_enter Tryz.func4, Tryz.ntmps4
    obtain ⟨k0, k1, k2, k3, k4, k5, k7⟩ := hk.conj; have k6 := hk.c6
    go_wp2_with fail
    rw [← HW1.out]
    clear k0 k1 k2 k3 k4 k5 k6 k7
    refine (hmade _ KK h20).mono ?_
    rintro e W1 ⟨br, dr, bw, dw, bf, df, a9, c9, rfl, hC, hm, K⟩
    replace hT := hT.keep K
    replace hk := hk.keep K
    replace KK := KK.trans K
    clear K
    go_wp2_with fail
    have hb := BoxC.new W1 32 ⟨#[99]⟩ kc M br R.length dr bw Q.length dw bf F.length df
    have K := (Keeps.refl W1).alloc (.cells #[.string ⟨#[99]⟩, .int .i64 kc, .int .u16 (sv M), .slice br R.length dr, .slice bw Q.length dw, .slice bf F.length df] 32)
    replace hT := hT.keep K
    replace hk := hk.keep K
    replace hC := hC.keep K
    replace hm := hm.keep K
    replace KK := KK.trans K
    clear K
    refine (awake28_any _ hT).mono ?_
    rintro e W2 ⟨rfl, K⟩
    replace hT := hT.keep K
    replace hk := hk.keep K
    replace hC := hC.keep K
    replace hm := hm.keep K
    replace hb := hb.keep K
    replace KK := KK.trans K
    clear K
    have e1 := fun br dr bw dw bf df W (t : Tab W) (h : RdC W br dr R bw dw Q bf df F) => limits_any (nm := ⟨#[99]⟩) kc wt M W t h
    have e2 := fun br dr bw dw bf df W (h : RdC W br dr R bw dw Q bf df F) => rLimits_any (nm := ⟨#[99]⟩) kc wt M W h
    rw [rlmt_eq] at e2
    have e3 := fun br dr bw dw bf df a9 c9 W (h : RdC W br dr R bw dw Q bf df F) (hm : Rd W a9 m.length c9 2 (fl m)) => sound_any (nm := ⟨#[99]⟩) kc wt M a9 m.length c9 m W h hm (by omega)
    have e4 := fun br dr bw dw bf df a9 c9 W (hm : Rd W a9 m.length c9 2 (fl m)) => rByz_any ⟨#[99]⟩ kc M (ar := br) (cr := dr) (R := R) (aw := bw) (cw := dw) (Q := Q) (af := bf) (cf := df) (F := F) a9 m.length c9 m W hm (by omega)
    have hfacts := lim_sound (kd := kc) (wt := wt) (M := M) (R := R) (Q := Q) (F := F) (m := m) hfv
    generalize soundS kc wt M R Q F m = q1 at *
    generalize lmtS kc wt M R Q F = r at *
    generalize refGreatest (mskF M m) = G at *
    obtain ⟨l, z⟩ := r
    unfold RetS at e1 e2
    simp only at e1 e2 hfacts
    have e5 := fun a c a2 c2 W h h2 => rSame28_any a l.length c l a2 l.length c2 l W h h2
    rw [eqS_iff, decide_eq_true rfl] at e5
    have E1 := Lib.hid e1; have E2 := Lib.hid e2; have E3 := Lib.hid e3; have E4 := Lib.hid e4; have E5 := Lib.hid e5; have HFA := Lib.hid hfacts
    clear e1 e2 e3 e4 e5 hfacts
    have hzz : (z != z) = false := by simp
    have hz2 : (z == z) = true := by simp
    obtain ⟨c0, c1, c2, c3, c4, c5⟩ := hb.conj
    have k6 := hk.c6
    go_wp2_with fail
    clear c0 c1 c2 c3 c4 c5 k6
    refine (E1.out _ _ _ _ _ _ _ hT hC.rd).mono ?_
    rintro e W3 ⟨v, rfl, hO⟩
    obtain ⟨al1, cl1, rfl, hl1⟩ := hO.rd
    have K := hO.2
    clear hO
    replace hT := hT.keep K
    replace hk := hk.keep K
    replace hC := hC.keep K
    replace hm := hm.keep K
    replace hb := hb.keep K
    replace KK := KK.trans K
    clear K
    obtain ⟨c0, c1, c2, c3, c4, c5⟩ := hb.conj
    have k6 := hk.c6
    go_wp2_with fail
    clear c0 c1 c2 c3 c4 c5 k6
    refine (E2.out _ _ _ _ _ _ _ hC.rd).mono ?_
    rintro e W4 ⟨v, rfl, hO⟩
    obtain ⟨al2, cl2, rfl, hl2⟩ := hO.rd
    have K := hO.2
    clear hO
    replace hT := hT.keep K
    replace hk := hk.keep K
    replace hC := hC.keep K
    replace hm := hm.keep K
    replace hb := hb.keep K
    replace hl1 := hl1.keep K
    replace KK := KK.trans K
    clear K
    go_wp2_with fail
    refine (E5.out _ _ _ _ _ hl1 hl2).mono ?_
    rintro e W5 ⟨rfl, K⟩
    replace hT := hT.keep K
    replace hk := hk.keep K
    replace hC := hC.keep K
    replace hm := hm.keep K
    replace hb := hb.keep K
    replace hl1 := hl1.keep K
    replace hl2 := hl2.keep K
    replace KK := KK.trans K
    clear K
    by_cases hz : z = 0
    rotate_left
    · skip
      have hzn : (z != 0) = true := by simpa using hz
      clear hz
      go_wp2_with fail
      refine (E5.out _ _ _ _ _ hl1 hl2).mono ?_
      rintro e W6 ⟨rfl, K⟩
      replace hT := hT.keep K
      replace hk := hk.keep K
      replace hC := hC.keep K
      replace hm := hm.keep K
      replace hb := hb.keep K
      replace hl1 := hl1.keep K
      replace hl2 := hl2.keep K
      replace KK := KK.trans K
      clear K
      go_wp2_with fail
      go_ret
      exact ⟨rfl, KK⟩
    · skip
      subst hz
      have hf := HFA.out (by simp)
      have HF := Lib.hid hf
      clear hf HFA
      have sl1 := hl1.small
      obtain ⟨c0, c1, c2, c3, c4, c5⟩ := hb.conj
      go_wp2_with fail
      clear c0 c1 c2 c3 c4 c5
      refine (E4.out _ _ _ _ _ _ _ _ _ hm).mono ?_
      rintro e W6 ⟨v, rfl, hO⟩
      obtain ⟨ag, cg, rfl, hG⟩ := hO.rd
      have K := hO.2
      clear hO
      replace hT := hT.keep K
      replace hk := hk.keep K
      replace hC := hC.keep K
      replace hm := hm.keep K
      replace hb := hb.keep K
      replace hl1 := hl1.keep K
      replace hl2 := hl2.keep K
      replace KK := KK.trans K
      clear K
      have sg := hG.small
      have HG := Lib.hid hG; have HL := Lib.hid hl1
      clear hG hl1
      go_wp2_with fail
      go_loopw [10, 68] (fun u v wr => ∃ i : Nat, i ≤ G.length ∧ v = .int .i64 i ∧ u = .bool ((G.take i).all fun b => l.any fun t => b &&& ~~~t == 0#16) ∧ W6 = wr) (fun _ v _ => G.length - (intOf v).toNat)
      case atStart => exact ⟨0, Nat.zero_le _, rfl, rfl, rfl⟩
      case round =>
        obtain ⟨i, hi, rfl, rfl, rfl⟩ := hrel
        by_cases hlt : i < G.length
        · have x1 := HG.out.at hlt
          have x2 := HG.out.isSome (by omega)
          have hst := all_take1 (fun b => l.any fun t => b &&& ~~~t == 0#16) G i hlt
          generalize at_ G i = b at *
          have HST := Lib.hid hst; clear hst
          obtain ⟨p, hp⟩ : ∃ p, p = (G.take i).all fun b => l.any fun t => b &&& ~~~t == 0#16 := ⟨_, rfl⟩
          rw [← hp] at HST ⊢; clear hp
          go_wp2_with fail
          go_loopw [13, 74] (fun u v wr => ∃ k : Nat, k ≤ l.length ∧ v = .int .i64 k ∧ u = .bool ((l.take k).any fun t => b &&& ~~~t == 0#16) ∧ W6 = wr) (fun _ v _ => l.length - (intOf v).toNat)
          case atStart => exact ⟨0, Nat.zero_le _, rfl, rfl, rfl⟩
          case round =>
            obtain ⟨k, hk, rfl, rfl, rfl⟩ := hrel
            by_cases hltk : k < l.length
            · have y1 := HL.out.at hltk
              have y2 := HL.out.isSome (by omega)
              have hsk := any_take1 (fun t => b &&& ~~~t == 0#16) l k hltk
              generalize at_ l k = t at *
              have HSK := Lib.hid hsk; clear hsk
              obtain ⟨q, hq⟩ : ∃ q, q = (l.take k).any fun t => b &&& ~~~t == 0#16 := ⟨_, rfl⟩
              rw [← hq] at HSK ⊢; clear hq
              cases q <;> cases h3 : (b &&& ~~~t == 0#16)
              all_goals
                have HS := Lib.hid (HSK.out.trans (by rw [h3]))
                clear HSK
                go_wp2_with fail
                go_roundw
                case rel => exact ⟨k + 1, by omega, by go_num, by rw [HS.out]; rfl, trivial⟩
                case measure => simp [intOf]; omega
            · have hf := List.take_of_length_le (l := l) (i := k) (by omega)
              have HS := HST.out
              rw [← hf] at HS
              obtain ⟨q, hq⟩ : ∃ q, q = (l.take k).any fun t => b &&& ~~~t == 0#16 := ⟨_, rfl⟩
              rw [hf] at HS hq
              rw [← hq] at HS
              rw [hf, ← hq]
              have HS := Lib.hid HS; clear hf hq HST
              cases p <;> cases q
              all_goals
                go_wp2_with fail
                go_roundw
                case rel => exact ⟨i + 1, by omega, by go_num, by rw [HS.out]; rfl, trivial⟩
                case measure => simp [intOf]; omega
        · have hf := List.take_of_length_le (l := G) (i := i) (by omega)
          rw [hf, ← HF.out]
          clear hf
          obtain ⟨c0, c1, c2, c3, c4, c5⟩ := hb.conj
          have k6 := hk.c6
          have hqq : (q1 == q1) = true := by simp
          go_wp2_with fail
          clear c0 c1 c2 c3 c4 c5 k6
          refine (E3.out _ _ _ _ _ _ _ _ _ hC.rd hm).mono ?_
          rintro e W7 ⟨rfl, K⟩
          replace hT := hT.keep K
          replace hk := hk.keep K
          replace hC := hC.keep K
          replace hm := hm.keep K
          replace hb := hb.keep K
          replace hl2 := hl2.keep K
          replace KK := KK.trans K
          clear K
          go_wp2_with fail
          go_ret
          exact ⟨rfl, KK⟩

set_option maxRecDepth 20000 in
set_option maxHeartbeats 3000000 in
theorem TrustCommits_any (kd N md : Int) {ar : Option Addr} {cr : Nat} (lr : List S) {aw : Option Addr} {cw : Nat} (lw : List S) {af : Option Addr} {cf : Nat} (lf : List F2) (wt : S) {am : Option Addr} {cm : Nat} (lm : List F2) (s : S) (w : World) (hT : Tab w) (hr : Rd w ar lr.length cr 1 (sl lr)) (hq : Rd w aw lw.length cw 1 (sl lw)) (hf : Rd w af lf.length cf 2 (fl lf)) (hm : Rd w am lm.length cm 2 (fl lm)) (hk0 : 0 ≤ kd) (hk1 : kd ≤ 255) (hN0 : 0 ≤ N) (hN1 : N ≤ 255) (hm0 : 0 ≤ md) (hm1 : md ≤ 255) :
    Calls Tryz.prog 8 #[.agg #[.int .u8 kd, .int .u8 N, .int .u8 md, .slice ar lr.length cr, .slice aw lw.length cw, .slice af lf.length cf, .int .u16 (sv wt), .slice am lm.length cm], .int .u16 (sv s)] w fun e w' => e = .returned (.bool true) ∧ Keeps w w' := by
  have KK := Keeps.refl w
  have K1 := (Keeps.refl w).alloc (.cells #[.int .u8 kd, .int .u8 N, .int .u8 md, .slice ar lr.length cr, .slice aw lw.length cw, .slice af lf.length cf, .int .u16 (sv wt), .slice am lm.length cm] 29)
  have hk := BoxK.new w 29 kd N md ar lr.length cr aw lw.length cw af lf.length cf wt am lm.length cm
  have hof := fun W (k : Keeps w W) h20 => of28_any kd N md lr lw lf wt lm W (hr.keep k) (hq.keep k) (hf.keep k) (hm.keep k) hk0 hk1 hN0 hN1 hm0 hm1 h20
  have HOF := Lib.hid hof
  have HMM := Lib.hid hm
  obtain ⟨W1, hW1⟩ : ∃ W1, W1 = w.alloc (.cells #[.int .u8 kd, .int .u8 N, .int .u8 md, .slice ar lr.length cr, .slice aw lw.length cw, .slice af lf.length cf, .int .u16 (sv wt), .slice am lm.length cm] 29) := ⟨_, rfl⟩
  rw [← hW1] at hk K1
  have HW1 := Lib.hid hW1
  replace hT := hT.keep K1
  replace KK := KK.trans K1
  clear hof hr hq hf hm hk0 hk1 hN0 hN1 hm0 hm1 K1 hW1
  by_cases h20 : lm.length ≤ 20
  rotate_left
  · skip
    go_enter Tryz.func8, Tryz.ntmps8
    obtain ⟨k0, k1, k2, k3, k4, k5, k7⟩ := hk.conj; have k6 := hk.c6
    go_wp2_with fail
    rw [← HW1.out]
    clear k0 k1 k2 k3 k4 k5 k6 k7
    refine (of28_long kd N md wt _ (by omega)).mono ?_
    rintro e W1 ⟨rfl, K⟩
    replace hT := hT.keep K
    replace hk := hk.keep K
    replace KK := KK.trans K
    clear K
    go_wp2_with fail
    have K := (Keeps.refl W1).alloc (.cells #[.string ⟨#[]⟩, .int .i64 0, .int .u16 0, .slice none 0 0, .slice none 0 0, .slice none 0 0] 32)
    replace hT := hT.keep K
    replace hk := hk.keep K
    replace KK := KK.trans K
    clear K
    refine (awake28_any _ hT).mono ?_
    rintro e W2 ⟨rfl, K⟩
    replace hT := hT.keep K
    replace hk := hk.keep K
    replace KK := KK.trans K
    clear K
    go_wp2_with fail
    refine (awake28_any _ hT).mono ?_
    rintro e W3 ⟨rfl, K⟩
    replace hT := hT.keep K
    replace hk := hk.keep K
    replace KK := KK.trans K
    clear K
    go_wp2_with fail
    go_ret
    exact ⟨rfl, KK⟩
  · skip
    have hm7 := madeF_le 6 lm
    generalize madeF 6 lm = m at *
    have hmade := HOF.out
    generalize kdOf kd = kc at *
    generalize fullS (nOf N) = M at *
    generalize setsR md lr (nOf N) = R at *
    generalize setsR md lw (nOf N) = Q at *
    generalize madeF (nOf N) lf = F at *
    go_enter Tryz.func8, Tryz.ntmps8
    obtain ⟨k0, k1, k2, k3, k4, k5, k7⟩ := hk.conj; have k6 := hk.c6
    go_wp2_with fail
    rw [← HW1.out]
    clear k0 k1 k2 k3 k4 k5 k6 k7
    refine (hmade _ KK h20).mono ?_
    rintro e W1 ⟨br, dr, bw, dw, bf, df, a9, c9, rfl, hC, hm, K⟩
    replace hT := hT.keep K
    replace hk := hk.keep K
    replace KK := KK.trans K
    clear K
    go_wp2_with fail
    have hb := BoxC.new W1 32 ⟨#[99]⟩ kc M br R.length dr bw Q.length dw bf F.length df
    have K := (Keeps.refl W1).alloc (.cells #[.string ⟨#[99]⟩, .int .i64 kc, .int .u16 (sv M), .slice br R.length dr, .slice bw Q.length dw, .slice bf F.length df] 32)
    replace hT := hT.keep K
    replace hk := hk.keep K
    replace hC := hC.keep K
    replace hm := hm.keep K
    replace KK := KK.trans K
    clear K
    refine (awake28_any _ hT).mono ?_
    rintro e W2 ⟨rfl, K⟩
    replace hT := hT.keep K
    replace hk := hk.keep K
    replace hC := hC.keep K
    replace hm := hm.keep K
    replace hb := hb.keep K
    replace KK := KK.trans K
    clear K
    have e1 := fun br dr bw dw bf df a9 c9 W (t : Tab W) (h : RdC W br dr R bw dw Q bf df F) (hm : Rd W a9 m.length c9 2 (fl m)) => commits_any (nm := ⟨#[99]⟩) kc wt M a9 m.length c9 m W t h hm (by omega)
    have e2 := fun br dr bw dw bf df a9 c9 W (h : RdC W br dr R bw dw Q bf df F) (hm : Rd W a9 m.length c9 2 (fl m)) => rCommits_any (nm := ⟨#[99]⟩) kc wt M a9 m.length c9 m W h hm (by omega)
    rw [rcom_eq] at e2
    have e3 := fun br dr bw dw bf df a9 c9 W (h : RdC W br dr R bw dw Q bf df F) (hm : Rd W a9 m.length c9 2 (fl m)) => acceptsC_any (nm := ⟨#[99]⟩) kc wt M s a9 m.length c9 m W h hm (by omega)
    have e6 := fun br dr bw dw bf df a9 c9 W (h : RdC W br dr R bw dw Q bf df F) (hm : Rd W a9 m.length c9 2 (fl m)) => live_any (nm := ⟨#[99]⟩) kc wt M a9 m.length c9 m W h hm (by omega)
    have e7 := fun br dr bw dw bf df a9 c9 W (h : RdC W br dr R bw dw Q bf df F) (hm : Rd W a9 m.length c9 2 (fl m)) => rLive_any (nm := ⟨#[99]⟩) kc wt M a9 m.length c9 m W h hm (by omega)
    rw [rliv_eq] at e7
    have hfacts := com_found (kd := kc) (wt := wt) (M := M) (s := s) (R := R) (Q := Q) (F := F) (m := m)
    generalize accS28 kc wt M R Q F m s = q1 at *
    generalize comS kc wt M R Q F m = r at *
    generalize livS kc wt M R Q F m = q2 at *
    obtain ⟨l, z⟩ := r
    unfold RetS at e1 e2
    simp only at e1 e2 hfacts
    have e5 := fun a c a2 c2 W h h2 => rSame28_any a l.length c l a2 l.length c2 l W h h2
    rw [eqS_iff, decide_eq_true rfl] at e5
    have E1 := Lib.hid e1; have E2 := Lib.hid e2; have E3 := Lib.hid e3; have E5 := Lib.hid e5; have E6 := Lib.hid e6; have E7 := Lib.hid e7; have HFA := Lib.hid hfacts
    clear e1 e2 e3 e5 e6 e7 hfacts
    have hzz : (z != z) = false := by simp
    have hqn : (q2 != q2) = false := by simp
    obtain ⟨c0, c1, c2, c3, c4, c5⟩ := hb.conj
    have k6 := hk.c6
    go_wp2_with fail
    clear c0 c1 c2 c3 c4 c5 k6
    refine (E1.out _ _ _ _ _ _ _ _ _ hT hC.rd hm).mono ?_
    rintro e W3 ⟨v, rfl, hO⟩
    obtain ⟨al1, cl1, rfl, hl1⟩ := hO.rd
    have K := hO.2
    clear hO
    replace hT := hT.keep K
    replace hk := hk.keep K
    replace hC := hC.keep K
    replace hm := hm.keep K
    replace hb := hb.keep K
    replace KK := KK.trans K
    clear K
    obtain ⟨c0, c1, c2, c3, c4, c5⟩ := hb.conj
    have k6 := hk.c6
    go_wp2_with fail
    clear c0 c1 c2 c3 c4 c5 k6
    refine (E2.out _ _ _ _ _ _ _ _ _ hC.rd hm).mono ?_
    rintro e W4 ⟨v, rfl, hO⟩
    obtain ⟨al2, cl2, rfl, hl2⟩ := hO.rd
    have K := hO.2
    clear hO
    replace hT := hT.keep K
    replace hk := hk.keep K
    replace hC := hC.keep K
    replace hm := hm.keep K
    replace hb := hb.keep K
    replace hl1 := hl1.keep K
    replace KK := KK.trans K
    clear K
    go_wp2_with fail
    obtain ⟨c0, c1, c2, c3, c4, c5⟩ := hb.conj
    have k6 := hk.c6
    have q5 := fun d os => Calls.regrown_of (E5.out _ _ _ _ (Sort.grow (redrawn W4 d) os) (hl1.keep (grow_keeps d os)) (hl2.keep (grow_keeps d os)))
    have q6 := fun d os => Calls.regrown_of (E6.out _ _ _ _ _ _ _ _ (Sort.grow (redrawn W4 d) os) (hC.rd.keep (grow_keeps d os)) (hm.keep (grow_keeps d os)))
    have q7 := fun d os => Calls.regrown_of (E7.out _ _ _ _ _ _ _ _ (Sort.grow (redrawn W4 d) os) (hC.rd.keep (grow_keeps d os)) (hm.keep (grow_keeps d os)))
    have H5 := Lib.hid q5; have H6 := Lib.hid q6; have H7 := Lib.hid q7
    clear q5 q6 q7
    have r0 := cell_regrown c0
    have r1 := cell_regrown c1
    have r2 := cell_regrown c2
    have r3 := cell_regrown c3
    have r4 := cell_regrown c4
    have r5 := cell_regrown c5
    have r6 := cell_regrown k6
    refine wp_region_quiet_below (by kernel_rfl) (by kernel_rfl) ?_
    repeat (first | go_big_quiet_step (first | with_reducible exact H5.out _ _ | with_reducible exact H6.out _ _ | with_reducible exact H7.out _ _) | quiet_step (first | with_reducible exact H5.out _ _ | with_reducible exact H6.out _ _ | with_reducible exact H7.out _ _))
    refine wpQuiet_nil ?_
    intro _ hw'
    obtain ⟨⟨dq, osq⟩, hw''⟩ := hw'
    subst hw''
    have K := grow_keeps (w := W4) dq osq
    clear r0 r1 r2 r3 r4 r5 r6
    replace hT := hT.keep K
    replace hk := hk.keep K
    replace hC := hC.keep K
    replace hm := hm.keep K
    replace hb := hb.keep K
    replace hl1 := hl1.keep K
    replace hl2 := hl2.keep K
    replace KK := KK.trans K
    clear K
    generalize Sort.grow (redrawn W4 dq) osq = wz at *
    clear c0 c1 c2 c3 c4 c5 k6 H5 H6 H7 E5 E6 E7 hqn hzz
    have sl1 := hl1.small
    have HL := Lib.hid hl1
    clear hl1
    go_wp2_with fail
    go_loopw [12, 68] (fun u v wr => ∃ i : Nat, i ≤ l.length ∧ v = .int .i64 i ∧ u = .bool ((l.take i).any fun t => t &&& ~~~s == 0#16) ∧ wz = wr) (fun _ v _ => l.length - (intOf v).toNat)
    case atStart => exact ⟨0, Nat.zero_le _, rfl, rfl, rfl⟩
    case round =>
      obtain ⟨k, hk', rfl, rfl, rfl⟩ := hrel
      by_cases hltk : k < l.length
      · have y1 := HL.out.at hltk
        have y2 := HL.out.isSome (by omega)
        have hsk := any_take1 (fun t => t &&& ~~~s == 0#16) l k hltk
        generalize at_ l k = t at *
        have HSK := Lib.hid hsk; clear hsk
        obtain ⟨q, hq⟩ : ∃ q, q = (l.take k).any fun t => t &&& ~~~s == 0#16 := ⟨_, rfl⟩
        rw [← hq] at HSK ⊢; clear hq
        cases q <;> cases h3 : (t &&& ~~~s == 0#16)
        all_goals
          have HS := Lib.hid (HSK.out.trans (by rw [h3]))
          clear HSK
          go_wp2_with fail
          go_roundw
          case rel => exact ⟨k + 1, by omega, by go_num, by rw [HS.out]; rfl, trivial⟩
          case measure => simp [intOf]; omega
      · have hf := List.take_of_length_le (l := l) (i := k) (by omega)
        rw [hf]
        clear hf
        by_cases hz : z = 0
        rotate_left
        · have hzn : (z != 0) = true := by simpa using hz
          clear hz
          go_wp2_with fail
          go_ret
          exact ⟨rfl, KK⟩
        · subst hz
          have hf := HFA.out (by simp)
          unfold accS at hf
          rw [hf]
          clear hf HFA
          obtain ⟨c0, c1, c2, c3, c4, c5⟩ := hb.conj
          have k6 := hk.c6
          have hqq : (q1 == q1) = true := by simp
          go_wp2_with fail
          clear c0 c1 c2 c3 c4 c5 k6
          refine (E3.out _ _ _ _ _ _ _ _ _ hC.rd hm).mono ?_
          rintro e W5 ⟨rfl, K⟩
          replace hT := hT.keep K
          replace hk := hk.keep K
          replace hC := hC.keep K
          replace hm := hm.keep K
          replace hb := hb.keep K
          replace hl2 := hl2.keep K
          replace KK := KK.trans K
          clear K
          go_wp2_with fail
          go_ret
          exact ⟨rfl, KK⟩
end Go.Proofs.YtkoohobpbopnnaaGreatDoor
