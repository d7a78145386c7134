/- Texts joined into one (wip/bin/pack.py): Law27a. -/
import Derived.Test.YtcnccoinhohbeaaGreatDoorKYg
import Derived.Test.YtcnccoinhohbeaaGreatDoorKYh
import Derived.Lib.QuietBelow
/- The walk of the statement ConfigClash: it answers true and keeps what lay there. -/
namespace Go.Proofs.YtcnccoinhohbeaaGreatDoor
open Go.RowKit Go.Lib Go.Shelf

set_option maxRecDepth 20000 in
set_option maxHeartbeats 3000000 in
theorem ConfigClash_any (kd N md : Int) {ar : Option Addr} {cr : Nat} (lr : List S) {aw : Option Addr} {cw : Nat} (lw : List S) {af : Option Addr} {cf : Nat} (lf : List F2) (wt : S) (w : World) (hT : Tab w) (hr : Rd w ar lr.length cr 1 (sl lr)) (hq : Rd w aw lw.length cw 1 (sl lw)) (hf : Rd w af lf.length cf 2 (fl lf)) (hk0 : 0 ≤ kd) (hk1 : kd ≤ 255) (hN0 : 0 ≤ N) (hN1 : N ≤ 255) (hm0 : 0 ≤ md) (hm1 : md ≤ 255) :
    Calls Tryz.prog 4 #[.agg #[.int .u8 kd, .int .u8 N, .int .u8 md, .slice ar lr.length cr, .slice aw lw.length cw, .slice af lf.length cf], .int .u16 (sv wt)] w fun e w' => e = .returned (.bool true) ∧ Keeps w w' := by
  have KK := Keeps.refl w
  have K1 := (Keeps.refl w).alloc (.cells #[.int .u8 kd, .int .u8 N, .int .u8 md, .slice ar lr.length cr, .slice aw lw.length cw, .slice af lf.length cf] 25)
  have hk := BoxD.new w 25 kd N md ar lr.length cr aw lw.length cw af lf.length cf
  have hof := fun W (k : Keeps w W) => of27_any kd N md lr lw lf W (hr.keep k) (hq.keep k) (hf.keep k) hk0 hk1 hN0 hN1 hm0 hm1
  have HOF := Lib.hid hof
  obtain ⟨W0, hW1⟩ : ∃ W1, W1 = w.alloc (.cells #[.int .u8 kd, .int .u8 N, .int .u8 md, .slice ar lr.length cr, .slice aw lw.length cw, .slice af lf.length cf] 25) := ⟨_, rfl⟩
  rw [← hW1] at hk K1
  have HW1 := Lib.hid hW1
  replace hT := hT.keep K1
  replace KK := KK.trans K1
  have hRl := setsR_len md lr (nOf N) (nOf_le N)
  have hQl := setsR_len md lw (nOf N) (nOf_le N)
  have hFl := madeF_le (nOf N) lf
  clear hof hr hq hf hk0 hk1 hN0 hN1 hm0 hm1 K1 hW1
  have hmade := HOF.out
  generalize kdOf kd = kc at *
  generalize fullS (nOf N) = M at *
  generalize setsR md lr (nOf N) = R at *
  generalize setsR md lw (nOf N) = Q at *
  generalize madeF (nOf N) lf = F at *
  have hbl := byz27_le kc M F
  have hbig := rowsR_small (byz := byz27 kc M F) hRl hQl (by omega)
  have e1 := fun br dr bw dw bf df W (t : Tab W) (h : RowC W br dr R bw dw Q bf df F) => cClash_any (nm := ⟨#[99]⟩) kc wt M W t h (by omega)
  have e2 := fun br dr bw dw bf df W (t : Tab W) (h : RowC W br dr R bw dw Q bf df F) => rClash27_any (nm := ⟨#[99]⟩) kc wt M W h.rd (by omega) hbig
  have e3 := fun br dr bw dw bf df W (t : Tab W) (h : RowC W br dr R bw dw Q bf df F) => cSafe_any (nm := ⟨#[99]⟩) kc wt M W t h (by omega)
  have e4 := fun x0 x1 x2 x3 br dr bw dw bf df W (t : Tab W) (h : RowC W br dr R bw dw Q bf df F) => cIs_any (nm := ⟨#[99]⟩) kc x0 wt M x1 x2 x3 W h.rd (by omega)
  have hfacts := isc_clash kc wt M R Q F
  unfold safe27 at e3
  unfold RetCE at e1 e2
  generalize clash27 kc wt M R Q F = r at *
  obtain ⟨⟨x0, x1, x2, x3⟩, z⟩ := r
  simp only [vcl] at e1 e2 e3
  dsimp only at hfacts
  replace e4 := e4 x0 x1 x2 x3
  rw [hfacts] at e4
  clear hfacts hbl hbig
  have E1 := Lib.hid e1; have E2 := Lib.hid e2; have E3 := Lib.hid e3; have E4 := Lib.hid e4
  clear e1 e2 e3 e4
  have g0 : (x0 == x0) = true := by simp
  have g4 : (z == z) = true := by simp
  have g5 : ((z == 13) == (z == 13)) = true := by simp
  have g6 : ((z == 0) == (z == 0)) = true := by simp
  go_enter Tryz.func4, Tryz.ntmps4
  go_wp2_with fail
  rw [← HW1.out]
  refine (awake27_any _ hT).mono ?_
  rintro e W1 ⟨rfl, K⟩
  replace hT := hT.keep K
  replace hk := hk.keep K
  replace KK := KK.trans K
  clear K
  obtain ⟨k0, k1, k2, k3, k4, k5⟩ := hk.conj
  go_wp2_with fail
  clear k0 k1 k2 k3 k4 k5
  refine (hmade _ KK).mono ?_
  rintro e W2 ⟨br, dr, bw, dw, bf, df, rfl, hC, K⟩
  replace hT := hT.keep K
  replace hk := hk.keep K
  replace KK := KK.trans K
  clear K
  go_wp2_with fail
  have hb := BoxC.new W2 31 ⟨#[99]⟩ kc M br R.length dr bw Q.length dw bf F.length df
  have K := (Keeps.refl W2).alloc (.cells #[.string ⟨#[99]⟩, .int .i64 kc, .int .u16 (sv M), .slice br R.length dr, .slice bw Q.length dw, .slice bf F.length df] 31)
  replace hT := hT.keep K
  replace hk := hk.keep K
  replace hC := hC.keep K
  replace KK := KK.trans K
  clear K
  obtain ⟨c0, c1, c2, c3, c4, c5⟩ := hb.conj
  go_wp2_with fail
  clear c0 c1 c2 c3 c4 c5
  refine (E1.out _ _ _ _ _ _ _ hT hC).mono ?_
  rintro e W3 ⟨rfl, K⟩
  replace hT := hT.keep K
  replace hk := hk.keep K
  replace hC := hC.keep K
  replace hb := hb.keep K
  replace KK := KK.trans K
  clear K
  have hx := Blk.new W3 36 #[.int .i64 x0, .int .u16 (sv x1), .int .u16 (sv x2), .int .u16 (sv x3)]
  have K := (Keeps.refl W3).alloc (.cells #[.int .i64 x0, .int .u16 (sv x1), .int .u16 (sv x2), .int .u16 (sv x3)] 36)
  replace hT := hT.keep K
  replace hk := hk.keep K
  replace hC := hC.keep K
  replace hb := hb.keep K
  replace KK := KK.trans K
  clear K
  obtain ⟨c0, c1, c2, c3, c4, c5⟩ := hb.conj
  go_wp2_with fail
  clear c0 c1 c2 c3 c4 c5
  refine (E2.out _ _ _ _ _ _ _ hT hC).mono ?_
  rintro e W4 ⟨rfl, K⟩
  replace hT := hT.keep K
  replace hk := hk.keep K
  replace hC := hC.keep K
  replace hb := hb.keep K
  replace hx := hx.keep K
  replace KK := KK.trans K
  clear K
  have hy := Blk.new W4 36 #[.int .i64 x0, .int .u16 (sv x1), .int .u16 (sv x2), .int .u16 (sv x3)]
  have K := (Keeps.refl W4).alloc (.cells #[.int .i64 x0, .int .u16 (sv x1), .int .u16 (sv x2), .int .u16 (sv x3)] 36)
  replace hT := hT.keep K
  replace hk := hk.keep K
  replace hC := hC.keep K
  replace hb := hb.keep K
  replace hx := hx.keep K
  replace KK := KK.trans K
  clear K
  obtain ⟨x0', x1', x2', x3'⟩ := cB4 hx
  obtain ⟨y0', y1', y2', y3'⟩ := cB4 hy
  obtain ⟨c0, c1, c2, c3, c4, c5⟩ := hb.conj
  go_wp2_with fail
  clear c0 c1 c2 c3 c4 c5
  refine (E3.out _ _ _ _ _ _ _ hT hC).mono ?_
  rintro e W5 ⟨rfl, K⟩
  replace hT := hT.keep K
  replace hk := hk.keep K
  replace hC := hC.keep K
  replace hb := hb.keep K
  replace hx := hx.keep K
  replace hy := hy.keep K
  replace KK := KK.trans K
  clear K
  clear x0' x1' x2' x3' y0' y1' y2' y3'
  obtain ⟨x0', x1', x2', x3'⟩ := cB4 hx
  obtain ⟨c0, c1, c2, c3, c4, c5⟩ := hb.conj
  go_wp2_with fail
  clear c0 c1 c2 c3 c4 c5
  refine (E4.out _ _ _ _ _ _ _ hT hC).mono ?_
  rintro e W6 ⟨rfl, K⟩
  replace hT := hT.keep K
  replace hk := hk.keep K
  replace hC := hC.keep K
  replace hb := hb.keep K
  replace hx := hx.keep K
  replace hy := hy.keep K
  replace KK := KK.trans K
  clear K
  go_wp2_with fail
  go_ret
  exact ⟨rfl, KK⟩
end Go.Proofs.YtcnccoinhohbeaaGreatDoor
