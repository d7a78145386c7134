/- Texts joined into one (wip/bin/pack.py): Law27e. -/
import Derived.Test.YtcnccoinhohbeaaGreatDoorKYg
import Derived.Test.YtcnccoinhohbeaaGreatDoorKYk
import Derived.Test.YtcnccoinhohbeaaGreatDoorKYl
import Derived.Test.YtcnccoinhohbeaaGreatDoorKYm
import Derived.Lib.QuietBelow
/- The walk of the statement ConfigProve: it answers true and keeps what lay there. -/
namespace Go.Proofs.YtcnccoinhohbeaaGreatDoor
open Go.RowKit Go.Lib Go.Shelf
theorem cnt_small {byz R Q : List S} (hR : R.length ≤ 32) (hQ : Q.length ≤ 32) (hb : byz.length ≤ 8) : ¬ 20000 < cntR byz R Q := by
  unfold cntR
  have h1 : R.length * Q.length * byz.length ≤ 32 * 32 * 8 := Nat.mul_le_mul (Nat.mul_le_mul hR hQ) hb
  have h0 : Q.length * (Q.length + 1) ≤ 32 * 33 := Nat.mul_le_mul hQ (by omega)
  have hbad : (if at_ byz 0 = 0#16 then 0 else byz.length) ≤ 8 := by split <;> omega
  have h2 : Q.length * (Q.length + 1) / 2 * (if at_ byz 0 = 0#16 then 0 else byz.length) ≤ 528 * 8 := Nat.mul_le_mul (by omega) hbad
  omega
theorem al_small {wt : S} {byz R Q : List S} (hR : R.length ≤ 32) (hQ : Q.length ≤ 32) (hb : byz.length ≤ 8) : (allL wt byz R Q).length ≤ 9000000 := by
  unfold allL
  rw [List.length_append]
  have h1 := flatMap_le R (fun r => Q.flatMap (al1 wt byz r)) (32 * 8) (fun r _ => Nat.le_trans (flatMap_le Q (al1 wt byz r) 8 (fun q _ => by unfold al1; rw [List.length_map]; exact hb)) (Nat.mul_le_mul hQ (Nat.le_refl _)))
  have h2 := flatMap_le Q (fun p => Q.flatMap (al2 byz p)) (32 * 8) (fun r _ => Nat.le_trans (flatMap_le Q (al2 byz r) 8 (fun q _ => by unfold al2; rw [List.length_map]; exact Nat.le_trans (List.length_filter_le _ _) hb)) (Nat.mul_le_mul hQ (Nat.le_refl _)))
  have h3 : R.length * (32 * 8) ≤ 32 * (32 * 8) := Nat.mul_le_mul hR (Nat.le_refl _)
  have h4 : Q.length * (32 * 8) ≤ 32 * (32 * 8) := Nat.mul_le_mul hQ (Nat.le_refl _)
  omega

set_option maxRecDepth 20000 in
set_option maxHeartbeats 3000000 in
theorem ConfigProve_any (kd N md : Int) {ar : Option Addr} {cr : Nat} (lr : List S) {aw : Option Addr} {cw : Nat} (lw : List S) {af : Option Addr} {cf : Nat} (lf : List F2) (wt : S) (w : World) (hT : Tab w) (hr : Rd w ar lr.length cr 1 (sl lr)) (hq : Rd w aw lw.length cw 1 (sl lw)) (hf : Rd w af lf.length cf 2 (fl lf)) (hk0 : 0 ≤ kd) (hk1 : kd ≤ 255) (hN0 : 0 ≤ N) (hN1 : N ≤ 255) (hm0 : 0 ≤ md) (hm1 : md ≤ 255) :
    Calls Tryz.prog 6 #[.agg #[.int .u8 kd, .int .u8 N, .int .u8 md, .slice ar lr.length cr, .slice aw lw.length cw, .slice af lf.length cf], .int .u16 (sv wt)] w fun e w' => e = .returned (.bool true) ∧ Keeps w w' := by
  have KK := Keeps.refl w
  have K1 := (Keeps.refl w).alloc (.cells #[.int .u8 kd, .int .u8 N, .int .u8 md, .slice ar lr.length cr, .slice aw lw.length cw, .slice af lf.length cf] 25)
  have hk := BoxD.new w 25 kd N md ar lr.length cr aw lw.length cw af lf.length cf
  have hof := fun W (k : Keeps w W) => of27_any kd N md lr lw lf W (hr.keep k) (hq.keep k) (hf.keep k) hk0 hk1 hN0 hN1 hm0 hm1
  have HOF := Lib.hid hof
  obtain ⟨W0, hW1⟩ : ∃ W1, W1 = w.alloc (.cells #[.int .u8 kd, .int .u8 N, .int .u8 md, .slice ar lr.length cr, .slice aw lw.length cw, .slice af lf.length cf] 25) := ⟨_, rfl⟩
  rw [← hW1] at hk K1
  have HW1 := Lib.hid hW1
  replace hT := hT.keep K1
  replace KK := KK.trans K1
  have hRl := setsR_len md lr (nOf N) (nOf_le N)
  have hQl := setsR_len md lw (nOf N) (nOf_le N)
  have hFl := madeF_le (nOf N) lf
  clear hof hr hq hf hk0 hk1 hN0 hN1 hm0 hm1 K1 hW1
  have hmade := HOF.out
  generalize kdOf kd = kc at *
  generalize fullS (nOf N) = M at *
  generalize setsR md lr (nOf N) = R at *
  generalize setsR md lw (nOf N) = Q at *
  generalize madeF (nOf N) lf = F at *
  have hbl := byz27_le kc M F
  have hbig := rowsR_small (byz := byz27 kc M F) hRl hQl (by omega)
  have hcn := cnt_small (byz := byz27 kc M F) hRl hQl (by omega)
  have hal := al_small (wt := wt) (byz := byz27 kc M F) hRl hQl (by omega)
  have e1 := fun br dr bw dw bf df W (t : Tab W) (h : RowC W br dr R bw dw Q bf df F) => cProve_any (nm := ⟨#[99]⟩) kc wt M W t h (by omega) (by omega) (by omega)
  have e2 := fun br dr bw dw bf df W (t : Tab W) (h : RowC W br dr R bw dw Q bf df F) => rProve_any (nm := ⟨#[99]⟩) kc wt M W h.rd (by omega) hbig
  have e3 := fun br dr bw dw bf df W (t : Tab W) (h : RowC W br dr R bw dw Q bf df F) => cSafe_any (nm := ⟨#[99]⟩) kc wt M W t h (by omega)
  have e4 := fun l a c br dr bw dw bf df W (t : Tab W) (h : RowC W br dr R bw dw Q bf df F) hl => cCheck_any (nm := ⟨#[99]⟩) kc wt M (al := a) (cl := c) l W t h hl (by omega) hal
  obtain ⟨hf1, hf2⟩ := pro_facts (kd := kc) (wt := wt) (M := M) (R := R) (Q := Q) (F := F) _ rfl hcn
  rw [rpro_eq] at e2
  unfold RetPr at e1 e2
  generalize proS kc wt M R Q F = r at *
  obtain ⟨l, z⟩ := r
  dsimp only at e1 e2 hf1 hf2
  generalize safe27 kc wt M R Q F = sf at *
  replace e4 := e4 l
  generalize chkS kc wt M R Q F l = ck at *
  have E1 := Lib.hid e1; have E2 := Lib.hid e2; have E3 := Lib.hid e3; have E4 := Lib.hid e4
  clear e1 e2 e3 e4 hcn hal hbig hbl
  have g4 : (z == z) = true := by simp
  have hcs : (z = 0 ∧ sf = true ∧ ck = true) ∨ ((z == 0) = false ∧ (z != 0) = true ∧ sf = false) := by
    by_cases hz : z = 0
    · refine .inl ⟨hz, ?_, hf2 hz⟩
      rw [← hf1, hz]; rfl
    · refine .inr ⟨by simpa using hz, by simpa using hz, ?_⟩
      rw [← hf1]; simpa using hz
  clear hf1 hf2
  go_enter Tryz.func6, Tryz.ntmps6
  go_wp2_with fail
  rw [← HW1.out]
  refine (awake27_any _ hT).mono ?_
  rintro e W1 ⟨rfl, K⟩
  replace hT := hT.keep K
  replace hk := hk.keep K
  replace KK := KK.trans K
  clear K
  obtain ⟨k0, k1, k2, k3, k4, k5⟩ := hk.conj
  go_wp2_with fail
  clear k0 k1 k2 k3 k4 k5
  refine (hmade _ KK).mono ?_
  rintro e W2 ⟨br, dr, bw, dw, bf, df, rfl, hC, K⟩
  replace hT := hT.keep K
  replace hk := hk.keep K
  replace KK := KK.trans K
  clear K
  go_wp2_with fail
  have hb := BoxC.new W2 31 ⟨#[99]⟩ kc M br R.length dr bw Q.length dw bf F.length df
  have K := (Keeps.refl W2).alloc (.cells #[.string ⟨#[99]⟩, .int .i64 kc, .int .u16 (sv M), .slice br R.length dr, .slice bw Q.length dw, .slice bf F.length df] 31)
  replace hT := hT.keep K
  replace hk := hk.keep K
  replace hC := hC.keep K
  replace KK := KK.trans K
  clear K
  obtain ⟨c0, c1, c2, c3, c4, c5⟩ := hb.conj
  go_wp2_with fail
  clear c0 c1 c2 c3 c4 c5
  refine (E1.out _ _ _ _ _ _ _ hT hC).mono ?_
  rintro e W3 ⟨v, rfl, hO⟩
  obtain ⟨a1, c1', rfl, hl⟩ := hO.rd
  have K := hO.2
  clear hO
  replace hT := hT.keep K
  replace hk := hk.keep K
  replace hC := hC.keep K
  replace hb := hb.keep K
  replace KK := KK.trans K
  clear K
  obtain ⟨c0, c1, c2, c3, c4, c5⟩ := hb.conj
  go_wp2_with fail
  clear c0 c1 c2 c3 c4 c5
  refine (E2.out _ _ _ _ _ _ _ hT hC).mono ?_
  rintro e W4 ⟨v, rfl, hO⟩
  obtain ⟨a2, c2', rfl, hl2⟩ := hO.rd
  have K := hO.2
  clear hO
  replace hT := hT.keep K
  replace hk := hk.keep K
  replace hC := hC.keep K
  replace hb := hb.keep K
  replace hl := hl.keep K
  replace KK := KK.trans K
  clear K
  go_wp2_with fail
  refine (rSameI_any _ _ l _ _ _ hl hl2).mono ?_
  rintro e W5 ⟨rfl, K⟩
  replace hT := hT.keep K
  replace hk := hk.keep K
  replace hC := hC.keep K
  replace hb := hb.keep K
  replace hl := hl.keep K
  replace hl2 := hl2.keep K
  replace KK := KK.trans K
  clear K
  rcases hcs with ⟨rfl, rfl, rfl⟩ | ⟨hz1, hz2, rfl⟩
  · skip
    obtain ⟨c0, c1, c2, c3, c4, c5⟩ := hb.conj
    go_wp2_with fail
    clear c0 c1 c2 c3 c4 c5
    refine (E3.out _ _ _ _ _ _ _ hT hC).mono ?_
    rintro e W6 ⟨rfl, K⟩
    replace hT := hT.keep K
    replace hk := hk.keep K
    replace hC := hC.keep K
    replace hb := hb.keep K
    replace hl := hl.keep K
    replace hl2 := hl2.keep K
    replace KK := KK.trans K
    clear K
    obtain ⟨c0, c1, c2, c3, c4, c5⟩ := hb.conj
    go_wp2_with fail
    clear c0 c1 c2 c3 c4 c5
    refine (E4.out _ _ _ _ _ _ _ _ _ hT hC hl).mono ?_
    rintro e W7 ⟨rfl, K⟩
    replace hT := hT.keep K
    replace hk := hk.keep K
    replace hC := hC.keep K
    replace hb := hb.keep K
    replace hl := hl.keep K
    replace hl2 := hl2.keep K
    replace KK := KK.trans K
    clear K
    go_wp2_with fail
    go_ret
    exact ⟨rfl, KK⟩
  · skip
    obtain ⟨c0, c1, c2, c3, c4, c5⟩ := hb.conj
    go_wp2_with fail
    clear c0 c1 c2 c3 c4 c5
    refine (E3.out _ _ _ _ _ _ _ hT hC).mono ?_
    rintro e W6 ⟨rfl, K⟩
    replace hT := hT.keep K
    replace hk := hk.keep K
    replace hC := hC.keep K
    replace hb := hb.keep K
    replace hl := hl.keep K
    replace hl2 := hl2.keep K
    replace KK := KK.trans K
    clear K
    go_wp2_with fail
    go_ret
    exact ⟨rfl, KK⟩
end Go.Proofs.YtcnccoinhohbeaaGreatDoor
