/- Texts joined into one (wip/bin/pack.py): Laws28. -/
import Derived.Test.YtkoohobpbopnnaaGreatDoorKM
import Derived.Test.YtkoohobpbopnnaaGreatDoorKK
import Derived.Lib.QuietBelow
/- The walks of statements of the layer trust: each answers true and keeps what lay there. -/
namespace Go.Proofs.YtkoohobpbopnnaaGreatDoor
open Go.RowKit Go.Lib Go.Shelf

set_option maxRecDepth 20000 in
set_option maxHeartbeats 3000000 in
theorem TrustAccepts_any (kd N md : Int) {ar : Option Addr} {cr : Nat} (lr : List S) {aw : Option Addr} {cw : Nat} (lw : List S) {af : Option Addr} {cf : Nat} (lf : List F2) (wt : S) {am : Option Addr} {cm : Nat} (lm : List F2) (s : S) (w : World) (hT : Tab w) (hr : Rd w ar lr.length cr 1 (sl lr)) (hq : Rd w aw lw.length cw 1 (sl lw)) (hf : Rd w af lf.length cf 2 (fl lf)) (hm : Rd w am lm.length cm 2 (fl lm)) (hk0 : 0 ≤ kd) (hk1 : kd ≤ 255) (hN0 : 0 ≤ N) (hN1 : N ≤ 255) (hm0 : 0 ≤ md) (hm1 : md ≤ 255) :
    Calls Tryz.prog 5 #[.agg #[.int .u8 kd, .int .u8 N, .int .u8 md, .slice ar lr.length cr, .slice aw lw.length cw, .slice af lf.length cf, .int .u16 (sv wt), .slice am lm.length cm], .int .u16 (sv s)] w fun e w' => e = .returned (.bool true) ∧ Keeps w w' := by
  have KK := Keeps.refl w
  have K1 := (Keeps.refl w).alloc (.cells #[.int .u8 kd, .int .u8 N, .int .u8 md, .slice ar lr.length cr, .slice aw lw.length cw, .slice af lf.length cf, .int .u16 (sv wt), .slice am lm.length cm] 29)
  have hk := BoxK.new w 29 kd N md ar lr.length cr aw lw.length cw af lf.length cf wt am lm.length cm
  have hof := fun W (k : Keeps w W) h20 => of28_any kd N md lr lw lf wt lm W (hr.keep k) (hq.keep k) (hf.keep k) (hm.keep k) hk0 hk1 hN0 hN1 hm0 hm1 h20
  have HOF := Lib.hid hof
  have HMM := Lib.hid hm
  obtain ⟨W1, hW1⟩ : ∃ W1, W1 = w.alloc (.cells #[.int .u8 kd, .int .u8 N, .int .u8 md, .slice ar lr.length cr, .slice aw lw.length cw, .slice af lf.length cf, .int .u16 (sv wt), .slice am lm.length cm] 29) := ⟨_, rfl⟩
  rw [← hW1] at hk K1
  have HW1 := Lib.hid hW1
  replace hT := hT.keep K1
  replace KK := KK.trans K1
  clear hof hr hq hf hm hk0 hk1 hN0 hN1 hm0 hm1 K1 hW1
  by_cases h20 : lm.length ≤ 20
  rotate_left
  · skip
    go_enter Tryz.func5, Tryz.ntmps5
    obtain ⟨k0, k1, k2, k3, k4, k5, k7⟩ := hk.conj; have k6 := hk.c6
    go_wp2_with fail
    rw [← HW1.out]
    clear k0 k1 k2 k3 k4 k5 k6 k7
    refine (of28_long kd N md wt _ (by omega)).mono ?_
    rintro e W1 ⟨rfl, K⟩
    replace hT := hT.keep K
    replace hk := hk.keep K
    replace KK := KK.trans K
    clear K
    go_wp2_with fail
    have K := (Keeps.refl W1).alloc (.cells #[.string ⟨#[]⟩, .int .i64 0, .int .u16 0, .slice none 0 0, .slice none 0 0, .slice none 0 0] 32)
    replace hT := hT.keep K
    replace hk := hk.keep K
    replace KK := KK.trans K
    clear K
    refine (awake28_any _ hT).mono ?_
    rintro e W2 ⟨rfl, K⟩
    replace hT := hT.keep K
    replace hk := hk.keep K
    replace KK := KK.trans K
    clear K
    go_wp2_with fail
    refine (awake28_any _ hT).mono ?_
    rintro e W3 ⟨rfl, K⟩
    replace hT := hT.keep K
    replace hk := hk.keep K
    replace KK := KK.trans K
    clear K
    go_wp2_with fail
    go_ret
    exact ⟨rfl, KK⟩
  · skip
    have hm7 := madeF_le 6 lm
    generalize madeF 6 lm = m at *
    have hmade := HOF.out
    generalize kdOf kd = kc at *
    generalize fullS (nOf N) = M at *
    generalize setsR md lr (nOf N) = R at *
    generalize setsR md lw (nOf N) = Q at *
    generalize madeF (nOf N) lf = F at *
    go_enter Tryz.func5, Tryz.ntmps5
    obtain ⟨k0, k1, k2, k3, k4, k5, k7⟩ := hk.conj; have k6 := hk.c6
    go_wp2_with fail
    rw [← HW1.out]
    clear k0 k1 k2 k3 k4 k5 k6 k7
    refine (hmade _ KK h20).mono ?_
    rintro e W1 ⟨br, dr, bw, dw, bf, df, a9, c9, rfl, hC, hm, K⟩
    replace hT := hT.keep K
    replace hk := hk.keep K
    replace KK := KK.trans K
    clear K
    go_wp2_with fail
    have hb := BoxC.new W1 32 ⟨#[99]⟩ kc M br R.length dr bw Q.length dw bf F.length df
    have K := (Keeps.refl W1).alloc (.cells #[.string ⟨#[99]⟩, .int .i64 kc, .int .u16 (sv M), .slice br R.length dr, .slice bw Q.length dw, .slice bf F.length df] 32)
    replace hT := hT.keep K
    replace hk := hk.keep K
    replace hC := hC.keep K
    replace hm := hm.keep K
    replace KK := KK.trans K
    clear K
    refine (awake28_any _ hT).mono ?_
    rintro e W2 ⟨rfl, K⟩
    replace hT := hT.keep K
    replace hk := hk.keep K
    replace hC := hC.keep K
    replace hm := hm.keep K
    replace hb := hb.keep K
    replace KK := KK.trans K
    clear K
    obtain ⟨c0, c1, c2, c3, c4, c5⟩ := hb.conj
    have k6 := hk.c6
    go_wp2_with fail
    have q1 := fun d os => Calls.regrown_of (acceptsC_any (nm := ⟨#[99]⟩) kc wt M s a9 m.length c9 m (Sort.grow (redrawn W2 d) os) (hC.rd.keep (grow_keeps d os)) (hm.keep (grow_keeps d os)) (by omega))
    have H1 := Lib.hid q1
    clear q1
    have q2 := fun d os => Calls.regrown_of (rAcceptsC_any (nm := ⟨#[99]⟩) kc wt M s a9 m.length c9 m (Sort.grow (redrawn W2 d) os) (hC.rd.keep (grow_keeps d os)) (hm.keep (grow_keeps d os)) (by omega))
    simp only [racc_eq] at q2
    have H2 := Lib.hid q2
    clear q2
    generalize accS28 kc wt M R Q F m s = q at *
    have hqq : (q == q) = true := by simp
    have r0 := cell_regrown c0
    have r1 := cell_regrown c1
    have r2 := cell_regrown c2
    have r3 := cell_regrown c3
    have r4 := cell_regrown c4
    have r5 := cell_regrown c5
    have r6 := cell_regrown k6
    refine wp_region_quiet_below (by kernel_rfl) (by kernel_rfl) ?_
    repeat (first | go_big_quiet_step (first | with_reducible exact H1.out _ _ | with_reducible exact H2.out _ _) | quiet_step (first | with_reducible exact H1.out _ _ | with_reducible exact H2.out _ _))
    refine wpQuiet_nil ?_
    intro _ hw'
    obtain ⟨⟨dq, osq⟩, hw''⟩ := hw'
    subst hw''
    have K := grow_keeps (w := W2) dq osq
    clear r0 r1 r2 r3 r4 r5 r6
    replace hT := hT.keep K
    replace hk := hk.keep K
    replace hC := hC.keep K
    replace hm := hm.keep K
    replace hb := hb.keep K
    replace KK := KK.trans K
    clear K
    generalize Sort.grow (redrawn W2 dq) osq = wz at *
    go_wp2_with fail
    go_ret
    exact ⟨rfl, KK⟩

set_option maxRecDepth 20000 in
set_option maxHeartbeats 3000000 in
theorem TrustSound_any (kd N md : Int) {ar : Option Addr} {cr : Nat} (lr : List S) {aw : Option Addr} {cw : Nat} (lw : List S) {af : Option Addr} {cf : Nat} (lf : List F2) (wt : S) {am : Option Addr} {cm : Nat} (lm : List F2) (w : World) (hT : Tab w) (hr : Rd w ar lr.length cr 1 (sl lr)) (hq : Rd w aw lw.length cw 1 (sl lw)) (hf : Rd w af lf.length cf 2 (fl lf)) (hm : Rd w am lm.length cm 2 (fl lm)) (hk0 : 0 ≤ kd) (hk1 : kd ≤ 255) (hN0 : 0 ≤ N) (hN1 : N ≤ 255) (hm0 : 0 ≤ md) (hm1 : md ≤ 255) :
    Calls Tryz.prog 3 #[.agg #[.int .u8 kd, .int .u8 N, .int .u8 md, .slice ar lr.length cr, .slice aw lw.length cw, .slice af lf.length cf, .int .u16 (sv wt), .slice am lm.length cm]] w fun e w' => e = .returned (.bool true) ∧ Keeps w w' := by
  have KK := Keeps.refl w
  have K1 := (Keeps.refl w).alloc (.cells #[.int .u8 kd, .int .u8 N, .int .u8 md, .slice ar lr.length cr, .slice aw lw.length cw, .slice af lf.length cf, .int .u16 (sv wt), .slice am lm.length cm] 29)
  have hk := BoxK.new w 29 kd N md ar lr.length cr aw lw.length cw af lf.length cf wt am lm.length cm
  have hof := fun W (k : Keeps w W) h20 => of28_any kd N md lr lw lf wt lm W (hr.keep k) (hq.keep k) (hf.keep k) (hm.keep k) hk0 hk1 hN0 hN1 hm0 hm1 h20
  have HOF := Lib.hid hof
  have HMM := Lib.hid hm
  obtain ⟨W1, hW1⟩ : ∃ W1, W1 = w.alloc (.cells #[.int .u8 kd, .int .u8 N, .int .u8 md, .slice ar lr.length cr, .slice aw lw.length cw, .slice af lf.length cf, .int .u16 (sv wt), .slice am lm.length cm] 29) := ⟨_, rfl⟩
  rw [← hW1] at hk K1
  have HW1 := Lib.hid hW1
  replace hT := hT.keep K1
  replace KK := KK.trans K1
  clear hof hr hq hf hm hk0 hk1 hN0 hN1 hm0 hm1 K1 hW1
  by_cases h20 : lm.length ≤ 20
  rotate_left
  · skip
    go_enter Tryz.func3, Tryz.ntmps3
    obtain ⟨k0, k1, k2, k3, k4, k5, k7⟩ := hk.conj; have k6 := hk.c6
    go_wp2_with fail
    rw [← HW1.out]
    clear k0 k1 k2 k3 k4 k5 k6 k7
    refine (of28_long kd N md wt _ (by omega)).mono ?_
    rintro e W1 ⟨rfl, K⟩
    replace hT := hT.keep K
    replace hk := hk.keep K
    replace KK := KK.trans K
    clear K
    go_wp2_with fail
    have K := (Keeps.refl W1).alloc (.cells #[.string ⟨#[]⟩, .int .i64 0, .int .u16 0, .slice none 0 0, .slice none 0 0, .slice none 0 0] 32)
    replace hT := hT.keep K
    replace hk := hk.keep K
    replace KK := KK.trans K
    clear K
    refine (awake28_any _ hT).mono ?_
    rintro e W2 ⟨rfl, K⟩
    replace hT := hT.keep K
    replace hk := hk.keep K
    replace KK := KK.trans K
    clear K
    go_wp2_with fail
    refine (awake28_any _ hT).mono ?_
    rintro e W3 ⟨rfl, K⟩
    replace hT := hT.keep K
    replace hk := hk.keep K
    replace KK := KK.trans K
    clear K
    go_wp2_with fail
    go_ret
    exact ⟨rfl, KK⟩
  · skip
    have hm7 := madeF_le 6 lm
    generalize madeF 6 lm = m at *
    have hmade := HOF.out
    generalize kdOf kd = kc at *
    generalize fullS (nOf N) = M at *
    generalize setsR md lr (nOf N) = R at *
    generalize setsR md lw (nOf N) = Q at *
    generalize madeF (nOf N) lf = F at *
    go_enter Tryz.func3, Tryz.ntmps3
    obtain ⟨k0, k1, k2, k3, k4, k5, k7⟩ := hk.conj; have k6 := hk.c6
    go_wp2_with fail
    rw [← HW1.out]
    clear k0 k1 k2 k3 k4 k5 k6 k7
    refine (hmade _ KK h20).mono ?_
    rintro e W1 ⟨br, dr, bw, dw, bf, df, a9, c9, rfl, hC, hm, K⟩
    replace hT := hT.keep K
    replace hk := hk.keep K
    replace KK := KK.trans K
    clear K
    go_wp2_with fail
    have hb := BoxC.new W1 32 ⟨#[99]⟩ kc M br R.length dr bw Q.length dw bf F.length df
    have K := (Keeps.refl W1).alloc (.cells #[.string ⟨#[99]⟩, .int .i64 kc, .int .u16 (sv M), .slice br R.length dr, .slice bw Q.length dw, .slice bf F.length df] 32)
    replace hT := hT.keep K
    replace hk := hk.keep K
    replace hC := hC.keep K
    replace hm := hm.keep K
    replace KK := KK.trans K
    clear K
    refine (awake28_any _ hT).mono ?_
    rintro e W2 ⟨rfl, K⟩
    replace hT := hT.keep K
    replace hk := hk.keep K
    replace hC := hC.keep K
    replace hm := hm.keep K
    replace hb := hb.keep K
    replace KK := KK.trans K
    clear K
    have e1 := fun br dr bw dw bf df a9 c9 W (h : RdC W br dr R bw dw Q bf df F) (hm : Rd W a9 m.length c9 2 (fl m)) => clash_any (nm := ⟨#[99]⟩) kc wt M a9 m.length c9 m W h hm (by omega)
    have e2 := fun br dr bw dw bf df a9 c9 W (h : RdC W br dr R bw dw Q bf df F) (hm : Rd W a9 m.length c9 2 (fl m)) => rclash_any (nm := ⟨#[99]⟩) kc wt M a9 m.length c9 m W h hm (by omega)
    have e3 := fun br dr bw dw bf df a9 c9 W (h : RdC W br dr R bw dw Q bf df F) (hm : Rd W a9 m.length c9 2 (fl m)) => sound_any (nm := ⟨#[99]⟩) kc wt M a9 m.length c9 m W h hm (by omega)
    rw [rclash_eq] at e2
    unfold soundS at e3
    unfold RetCE at e1 e2
    generalize clashS kc wt M R Q F m = r at *
    obtain ⟨⟨x0, x1, x2, x3⟩, z⟩ := r
    simp only [vcl] at e1 e2 e3
    have E1 := Lib.hid e1; have E2 := Lib.hid e2; have E3 := Lib.hid e3
    clear e1 e2 e3
    have g0 : (x0 == x0) = true := by simp
    have g4 : (z == z) = true := by simp
    have g5 : ((z == 13) == (z == 13)) = true := by simp
    obtain ⟨c0, c1, c2, c3, c4, c5⟩ := hb.conj
    have k6 := hk.c6
    go_wp2_with fail
    clear c0 c1 c2 c3 c4 c5
    clear k6
    refine (E1.out _ _ _ _ _ _ _ _ _ hC.rd hm).mono ?_
    rintro e W3 ⟨rfl, K⟩
    replace hT := hT.keep K
    replace hk := hk.keep K
    replace hC := hC.keep K
    replace hm := hm.keep K
    replace hb := hb.keep K
    replace KK := KK.trans K
    clear K
    have hx : Blk (W3.alloc (.cells #[.int .i64 x0, .int .u16 (sv x1), .int .u16 (sv x2), .int .u16 (sv x3)] 37)) W3.heap.size 37 #[.int .i64 x0, .int .u16 (sv x1), .int .u16 (sv x2), .int .u16 (sv x3)] := Blk.new _ _ _
    have K := (Keeps.refl W3).alloc (.cells #[.int .i64 x0, .int .u16 (sv x1), .int .u16 (sv x2), .int .u16 (sv x3)] 37)
    have hb' := hb.keep K; have hk' := hk.keep K
    obtain ⟨c0, c1, c2, c3, c4, c5⟩ := hb'.conj
    have k6 := hk'.c6
    clear hb' hk'
    go_wp2_with fail
    clear c0 c1 c2 c3 c4 c5
    clear k6
    replace hT := hT.keep K
    replace hk := hk.keep K
    replace hC := hC.keep K
    replace hm := hm.keep K
    replace hb := hb.keep K
    replace KK := KK.trans K
    clear K
    refine (E2.out _ _ _ _ _ _ _ _ _ hC.rd hm).mono ?_
    rintro e W4 ⟨rfl, K⟩
    replace hT := hT.keep K
    replace hk := hk.keep K
    replace hC := hC.keep K
    replace hm := hm.keep K
    replace hb := hb.keep K
    replace hx := hx.keep K
    replace KK := KK.trans K
    clear K
    have hy : Blk (W4.alloc (.cells #[.int .i64 x0, .int .u16 (sv x1), .int .u16 (sv x2), .int .u16 (sv x3)] 37)) W4.heap.size 37 #[.int .i64 x0, .int .u16 (sv x1), .int .u16 (sv x2), .int .u16 (sv x3)] := Blk.new _ _ _
    have K := (Keeps.refl W4).alloc (.cells #[.int .i64 x0, .int .u16 (sv x1), .int .u16 (sv x2), .int .u16 (sv x3)] 37)
    have hb' := hb.keep K; have hk' := hk.keep K; have hx' := hx.keep K
    obtain ⟨c0, c1, c2, c3, c4, c5⟩ := hb'.conj
    have k6 := hk'.c6
    obtain ⟨x0', x1', x2', x3'⟩ := c4of hx'
    clear hb' hk' hx'
    go_wp2_with fail
    clear c0 c1 c2 c3 c4 c5
    clear k6 x0' x1' x2' x3'
    replace hT := hT.keep K
    replace hk := hk.keep K
    replace hC := hC.keep K
    replace hm := hm.keep K
    replace hb := hb.keep K
    replace hx := hx.keep K
    replace KK := KK.trans K
    clear K
    refine (E3.out _ _ _ _ _ _ _ _ _ hC.rd hm).mono ?_
    rintro e W5 ⟨rfl, K⟩
    replace hT := hT.keep K
    replace hk := hk.keep K
    replace hC := hC.keep K
    replace hm := hm.keep K
    replace hb := hb.keep K
    replace hx := hx.keep K
    replace hy := hy.keep K
    replace KK := KK.trans K
    clear K
    go_wp2_with fail
    go_ret
    exact ⟨rfl, KK⟩
end Go.Proofs.YtkoohobpbopnnaaGreatDoor
