/- Texts joined into one (wip/bin/pack.py): Law27b. -/
import Derived.Test.YtcnccoinhohbeaaGreatDoorKYg
import Derived.Test.YtcnccoinhohbeaaGreatDoorKYi
import Derived.Lib.QuietBelow
/- The walk of the statement ConfigTolerates: it answers true and keeps what lay there. -/
namespace Go.Proofs.YtcnccoinhohbeaaGreatDoor
open Go.RowKit Go.Lib Go.Shelf

set_option maxRecDepth 20000 in
set_option maxHeartbeats 3000000 in
theorem ConfigTolerates_any (kd N md : Int) {ar : Option Addr} {cr : Nat} (lr : List S) {aw : Option Addr} {cw : Nat} (lw : List S) {af : Option Addr} {cf : Nat} (lf : List F2) (z : S) (w : World) (hT : Tab w) (hr : Rd w ar lr.length cr 1 (sl lr)) (hq : Rd w aw lw.length cw 1 (sl lw)) (hf : Rd w af lf.length cf 2 (fl lf)) (hk0 : 0 ≤ kd) (hk1 : kd ≤ 255) (hN0 : 0 ≤ N) (hN1 : N ≤ 255) (hm0 : 0 ≤ md) (hm1 : md ≤ 255) :
    Calls Tryz.prog 3 #[.agg #[.int .u8 kd, .int .u8 N, .int .u8 md, .slice ar lr.length cr, .slice aw lw.length cw, .slice af lf.length cf], .int .u16 (sv z)] w fun e w' => e = .returned (.bool true) ∧ Keeps w w' := by
  have KK := Keeps.refl w
  have K1 := (Keeps.refl w).alloc (.cells #[.int .u8 kd, .int .u8 N, .int .u8 md, .slice ar lr.length cr, .slice aw lw.length cw, .slice af lf.length cf] 25)
  have hk := BoxD.new w 25 kd N md ar lr.length cr aw lw.length cw af lf.length cf
  have hof := fun W (k : Keeps w W) => of27_any kd N md lr lw lf W (hr.keep k) (hq.keep k) (hf.keep k) hk0 hk1 hN0 hN1 hm0 hm1
  have HOF := Lib.hid hof
  obtain ⟨W0, hW1⟩ : ∃ W1, W1 = w.alloc (.cells #[.int .u8 kd, .int .u8 N, .int .u8 md, .slice ar lr.length cr, .slice aw lw.length cw, .slice af lf.length cf] 25) := ⟨_, rfl⟩
  rw [← hW1] at hk K1
  have HW1 := Lib.hid hW1
  replace hT := hT.keep K1
  replace KK := KK.trans K1
  have hRl := setsR_len md lr (nOf N) (nOf_le N)
  have hQl := setsR_len md lw (nOf N) (nOf_le N)
  have hFl := madeF_le (nOf N) lf
  clear hof hr hq hf hk0 hk1 hN0 hN1 hm0 hm1 K1 hW1
  have hmade := HOF.out
  generalize kdOf kd = kc at *
  generalize fullS (nOf N) = M at *
  generalize setsR md lr (nOf N) = R at *
  generalize setsR md lw (nOf N) = Q at *
  generalize madeF (nOf N) lf = F at *
  have e1 := fun br dr bw dw bf df W (t : Tab W) (h : RowC W br dr R bw dw Q bf df F) => tol27_any (nm := ⟨#[99]⟩) kc z M W h.rd (by omega)
  have e2 := fun br dr bw dw bf df W (t : Tab W) (h : RowC W br dr R bw dw Q bf df F) => rTol27_any (nm := ⟨#[99]⟩) kc z M W h.rd (by omega)
  have e3 := fun br dr bw dw bf df W (t : Tab W) (h : RowC W br dr R bw dw Q bf df F) => cSafe_any (nm := ⟨#[99]⟩) kc 0#16 M W t h (by omega)
  have e4 := fun y br dr bw dw bf df W (t : Tab W) (h : RowC W br dr R bw dw Q bf df F) => tol27_any (nm := ⟨#[99]⟩) kc y M W h.rd (by omega)
  have hfacts := tol_safe (kd := kc) (M := M) (R := R) (Q := Q) (F := F)
  generalize safe27 kc 0#16 M R Q F = sf at *
  generalize tolS27 kc M R Q F = tl at *
  rw [sv_zero] at e3
  generalize tl z = q at *
  have hqq : (q != q) = false := by simp
  have E1 := Lib.hid e1; have E2 := Lib.hid e2; have E3 := Lib.hid e3; have E4 := Lib.hid e4; have HFA := Lib.hid hfacts
  clear e1 e2 e3 e4 hfacts
  go_enter Tryz.func3, Tryz.ntmps3
  go_wp2_with fail
  rw [← HW1.out]
  refine (awake27_any _ hT).mono ?_
  rintro e W1 ⟨rfl, K⟩
  replace hT := hT.keep K
  replace hk := hk.keep K
  replace KK := KK.trans K
  clear K
  obtain ⟨k0, k1, k2, k3, k4, k5⟩ := hk.conj
  go_wp2_with fail
  clear k0 k1 k2 k3 k4 k5
  refine (hmade _ KK).mono ?_
  rintro e W2 ⟨br, dr, bw, dw, bf, df, rfl, hC, K⟩
  replace hT := hT.keep K
  replace hk := hk.keep K
  replace KK := KK.trans K
  clear K
  go_wp2_with fail
  have hb := BoxC.new W2 31 ⟨#[99]⟩ kc M br R.length dr bw Q.length dw bf F.length df
  have K := (Keeps.refl W2).alloc (.cells #[.string ⟨#[99]⟩, .int .i64 kc, .int .u16 (sv M), .slice br R.length dr, .slice bw Q.length dw, .slice bf F.length df] 31)
  replace hT := hT.keep K
  replace hk := hk.keep K
  replace hC := hC.keep K
  replace KK := KK.trans K
  clear K
  obtain ⟨c0, c1, c2, c3, c4, c5⟩ := hb.conj
  go_wp2_with fail
  obtain ⟨V, hV⟩ : ∃ V, V = W2.alloc (.cells #[.string ⟨#[99]⟩, .int .i64 kc, .int .u16 (sv M), .slice br R.length dr, .slice bw Q.length dw, .slice bf F.length df] 31) := ⟨_, rfl⟩
  rw [← hV] at hT hk hC hb KK c0 c1 c2 c3 c4 c5 ⊢
  clear hV
  have q1 := fun d os => Calls.regrown_of (E1.out _ _ _ _ _ _ (Sort.grow (redrawn V d) os) (hT.keep (grow_keeps d os)) (hC.keep (grow_keeps d os)))
  have Q1 := Lib.hid q1
  clear q1
  have q2 := fun d os => Calls.regrown_of (E2.out _ _ _ _ _ _ (Sort.grow (redrawn V d) os) (hT.keep (grow_keeps d os)) (hC.keep (grow_keeps d os)))
  have Q2 := Lib.hid q2
  clear q2
  have r0 := cell_regrown c0
  have r1 := cell_regrown c1
  have r2 := cell_regrown c2
  have r3 := cell_regrown c3
  have r4 := cell_regrown c4
  have r5 := cell_regrown c5
  refine wp_region_quiet_below (by kernel_rfl) (by kernel_rfl) ?_
  repeat (first | go_big_quiet_step (first | with_reducible exact Q1.out _ _ | with_reducible exact Q2.out _ _) | quiet_step (first | with_reducible exact Q1.out _ _ | with_reducible exact Q2.out _ _))
  refine wpQuiet_nil ?_
  intro _ hw'
  obtain ⟨⟨dq, osq⟩, hw''⟩ := hw'
  subst hw''
  have K := grow_keeps (w := V) dq osq
  clear r0 r1 r2 r3 r4 r5
  replace hT := hT.keep K
  replace hk := hk.keep K
  replace hC := hC.keep K
  replace hb := hb.keep K
  replace KK := KK.trans K
  clear K
  generalize Sort.grow (redrawn V dq) osq = wz at *
  clear c0 c1 c2 c3 c4 c5 Q1 Q2
  obtain ⟨c0, c1, c2, c3, c4, c5⟩ := hb.conj
  go_wp2_with fail
  clear c0 c1 c2 c3 c4 c5
  refine (E3.out _ _ _ _ _ _ _ hT hC).mono ?_
  rintro e W3 ⟨rfl, K⟩
  replace hT := hT.keep K
  replace hk := hk.keep K
  replace hC := hC.keep K
  replace hb := hb.keep K
  replace KK := KK.trans K
  clear K
  cases sf
  · skip
    go_wp2_with fail
    go_ret
    exact ⟨rfl, KK⟩
  · skip
    have hf := HFA.out rfl
    have HF := Lib.hid hf
    clear hf HFA
    have HR := Lib.hid hC.rd.r; have HQ := Lib.hid hC.rd.q
    have sr := HR.out.small; have sq := HQ.out.small
    obtain ⟨c0, c1, c2, c3, c4, c5⟩ := hb.conj
    go_wp2_with fail
    clear c0 c1 c2 c3 c4 c5
    go_loopw [27] (fun v wr => ∃ i : Nat, i ≤ R.length ∧ v = .int .i64 i ∧ Keeps W3 wr) (fun v _ => R.length - (RowKit.intOf v).toNat)
    case atStart => exact ⟨0, Nat.zero_le _, rfl, Keeps.refl _⟩
    case round =>
      obtain ⟨i, hi, rfl, K3⟩ := hrel
      by_cases hlt : i < R.length
      · have x1 := (HR.out.keep K3).at hlt
        have x2 := HR.out.isSome (by omega)
        have hm : at_ R i ∈ R := by simp [at_, List.getD, hlt]
        have hfr := HF.out _ hm
        generalize at_ R i = r at *
        have HFR := Lib.hid hfr
        clear hfr hm
        have hb3 := hb.keep K3
        obtain ⟨c0, c1, c2, c3, c4, c5⟩ := hb3.conj
        clear hb3
        go_wp2_with fail
        clear c0 c1 c2 c3 c4 c5 x1
        go_loopw [34] (fun v wr => ∃ k : Nat, k ≤ Q.length ∧ v = .int .i64 k ∧ Keeps W3 wr) (fun v _ => Q.length - (RowKit.intOf v).toNat)
        case atStart => exact ⟨0, Nat.zero_le _, rfl, K3⟩
        case round =>
          clear K3
          obtain ⟨k, hk2, rfl, K3⟩ := hrel
          by_cases hltk : k < Q.length
          · have y1 := (HQ.out.keep K3).at hltk
            have y2 := HQ.out.isSome (by omega)
            have hm : at_ Q k ∈ Q := by simp [at_, List.getD, hltk]
            have hfr := HFR.out _ hm
            have hcall := E4.out (r ||| at_ Q k) _ _ _ _ _ _ _ (hT.keep K3) (hC.keep K3)
            rw [hfr] at hcall
            generalize at_ Q k = q at *
            have HCA := Lib.hid hcall
            clear hfr hm hcall
            have hb3 := hb.keep K3
            obtain ⟨c0, c1, c2, c3, c4, c5⟩ := hb3.conj
            clear hb3
            go_wp2_with fail
            clear c0 c1 c2 c3 c4 c5
            refine HCA.out.mono ?_
            rintro e w9 ⟨rfl, K9⟩
            go_wp2_with fail
            go_roundw
            case rel => exact ⟨k + 1, by omega, by go_num, K3.trans K9⟩
            case measure => simp [RowKit.intOf]; omega
          · go_wp2_with fail
            go_roundw
            case rel => exact ⟨i + 1, by omega, by go_num, K3⟩
            case measure => simp [RowKit.intOf]; omega
      · go_wp2_with fail
        go_ret
        exact ⟨rfl, KK.trans K3⟩
end Go.Proofs.YtcnccoinhohbeaaGreatDoor
