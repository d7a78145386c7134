/- Texts joined into one (wip/bin/pack.py): Law27c. -/
import Derived.Test.YtcnccoinhohbeaaGreatDoorKYg
import Derived.Test.YtcnccoinhohbeaaGreatDoorKYh
import Derived.Test.YtcnccoinhohbeaaGreatDoorKYj
import Derived.Lib.QuietBelow
/- The walk of the statement ConfigIsClash: it answers true and keeps what lay there. -/
namespace Go.Proofs.YtcnccoinhohbeaaGreatDoor
open Go.RowKit Go.Lib Go.Shelf

set_option maxRecDepth 20000 in
set_option maxHeartbeats 3000000 in
theorem ConfigIsClash_any (kd N md : Int) {ar : Option Addr} {cr : Nat} (lr : List S) {aw : Option Addr} {cw : Nat} (lw : List S) {af : Option Addr} {cf : Nat} (lf : List F2) (wt : S) (x0 : Int) (x1 x2 x3 : S) (w : World) (hT : Tab w) (hr : Rd w ar lr.length cr 1 (sl lr)) (hq : Rd w aw lw.length cw 1 (sl lw)) (hf : Rd w af lf.length cf 2 (fl lf)) (hk0 : 0 ≤ kd) (hk1 : kd ≤ 255) (hN0 : 0 ≤ N) (hN1 : N ≤ 255) (hm0 : 0 ≤ md) (hm1 : md ≤ 255) :
    Calls Tryz.prog 5 #[.agg #[.int .u8 kd, .int .u8 N, .int .u8 md, .slice ar lr.length cr, .slice aw lw.length cw, .slice af lf.length cf], .int .u16 (sv wt), .agg #[.int .i64 x0, .int .u16 (sv x1), .int .u16 (sv x2), .int .u16 (sv x3)]] w fun e w' => e = .returned (.bool true) ∧ Keeps w w' := by
  have KK := Keeps.refl w
  have K1 := (Keeps.refl w).alloc (.cells #[.int .u8 kd, .int .u8 N, .int .u8 md, .slice ar lr.length cr, .slice aw lw.length cw, .slice af lf.length cf] 25)
  have hk := BoxD.new w 25 kd N md ar lr.length cr aw lw.length cw af lf.length cf
  have hof := fun W (k : Keeps w W) => of27_any kd N md lr lw lf W (hr.keep k) (hq.keep k) (hf.keep k) hk0 hk1 hN0 hN1 hm0 hm1
  have HOF := Lib.hid hof
  obtain ⟨W0, hW1⟩ : ∃ W1, W1 = w.alloc (.cells #[.int .u8 kd, .int .u8 N, .int .u8 md, .slice ar lr.length cr, .slice aw lw.length cw, .slice af lf.length cf] 25) := ⟨_, rfl⟩
  rw [← hW1] at hk K1
  have HW1 := Lib.hid hW1
  have hsz : W0.heap.size = w.heap.size + 1 := by rw [hW1, World.size_alloc]
  have K2 := (Keeps.refl W0).alloc (.cells #[.int .i64 x0, .int .u16 (sv x1), .int .u16 (sv x2), .int .u16 (sv x3)] 36)
  have hx := Blk.new W0 36 #[.int .i64 x0, .int .u16 (sv x1), .int .u16 (sv x2), .int .u16 (sv x3)]
  rw [hsz] at hx
  obtain ⟨W00, hW2⟩ : ∃ W1, W1 = W0.alloc (.cells #[.int .i64 x0, .int .u16 (sv x1), .int .u16 (sv x2), .int .u16 (sv x3)] 36) := ⟨_, rfl⟩
  rw [← hW2] at hx K2
  have HW2 := Lib.hid hW2
  replace hk := hk.keep K2
  replace K1 := K1.trans K2
  replace hT := hT.keep K1
  replace KK := KK.trans K1
  have hRl := setsR_len md lr (nOf N) (nOf_le N)
  have hQl := setsR_len md lw (nOf N) (nOf_le N)
  have hFl := madeF_le (nOf N) lf
  clear hof hr hq hf hk0 hk1 hN0 hN1 hm0 hm1 K1 hW1 K2 hW2 hsz
  have hmade := HOF.out
  generalize kdOf kd = kc at *
  generalize fullS (nOf N) = M at *
  generalize setsR md lr (nOf N) = R at *
  generalize setsR md lw (nOf N) = Q at *
  generalize madeF (nOf N) lf = F at *
  have e1 := fun br dr bw dw bf df W (t : Tab W) (h : RowC W br dr R bw dw Q bf df F) => cIs_any (nm := ⟨#[99]⟩) kc x0 wt M x1 x2 x3 W h.rd (by omega)
  have e2 := fun br dr bw dw bf df W (t : Tab W) (h : RowC W br dr R bw dw Q bf df F) => rIs_any (nm := ⟨#[99]⟩) kc x0 wt M x1 x2 x3 W h.rd (by omega)
  have e3 := fun br dr bw dw bf df W (t : Tab W) (h : RowC W br dr R bw dw Q bf df F) => cSafe_any (nm := ⟨#[99]⟩) kc wt M W t h (by omega)
  rw [risc_eq] at e2
  have hfacts : iscS kc wt M R Q F (x0, x1, x2, x3) = true → safe27 kc wt M R Q F = false := isc_safe
  generalize iscS kc wt M R Q F (x0, x1, x2, x3) = q at *
  generalize safe27 kc wt M R Q F = sf at *
  have hqq : (q == q) = true := by simp
  have E1 := Lib.hid e1; have E2 := Lib.hid e2; have E3 := Lib.hid e3; have HFA := Lib.hid hfacts
  clear e1 e2 e3 hfacts
  go_enter Tryz.func5, Tryz.ntmps5
  go_wp2_with fail
  rw [← HW1.out, ← HW2.out]
  refine (awake27_any _ hT).mono ?_
  rintro e W1 ⟨rfl, K⟩
  replace hT := hT.keep K
  replace hk := hk.keep K
  replace hx := hx.keep K
  replace KK := KK.trans K
  clear K
  obtain ⟨k0, k1, k2, k3, k4, k5⟩ := hk.conj
  go_wp2_with fail
  clear k0 k1 k2 k3 k4 k5
  refine (hmade _ KK).mono ?_
  rintro e W2 ⟨br, dr, bw, dw, bf, df, rfl, hC, K⟩
  replace hT := hT.keep K
  replace hk := hk.keep K
  replace hx := hx.keep K
  replace KK := KK.trans K
  clear K
  go_wp2_with fail
  have hb := BoxC.new W2 31 ⟨#[99]⟩ kc M br R.length dr bw Q.length dw bf F.length df
  have K := (Keeps.refl W2).alloc (.cells #[.string ⟨#[99]⟩, .int .i64 kc, .int .u16 (sv M), .slice br R.length dr, .slice bw Q.length dw, .slice bf F.length df] 31)
  replace hT := hT.keep K
  replace hk := hk.keep K
  replace hx := hx.keep K
  replace hC := hC.keep K
  replace KK := KK.trans K
  clear K
  obtain ⟨c0, c1, c2, c3, c4, c5⟩ := hb.conj
  obtain ⟨x0', x1', x2', x3'⟩ := cB4 hx
  go_wp2_with fail
  obtain ⟨V, hV⟩ : ∃ V, V = W2.alloc (.cells #[.string ⟨#[99]⟩, .int .i64 kc, .int .u16 (sv M), .slice br R.length dr, .slice bw Q.length dw, .slice bf F.length df] 31) := ⟨_, rfl⟩
  rw [← hV] at hT hk hC hb hx KK c0 c1 c2 c3 c4 c5 x0' x1' x2' x3' ⊢
  clear hV
  have hcs : q = false ∨ (q = true ∧ sf = false) := by
    cases q
    · exact .inl rfl
    · exact .inr ⟨rfl, HFA.out rfl⟩
  clear HFA
  rcases hcs with rfl | ⟨rfl, rfl⟩
  all_goals
    have q1 := fun d os => Calls.regrown_of (E1.out _ _ _ _ _ _ (Sort.grow (redrawn V d) os) (hT.keep (grow_keeps d os)) (hC.keep (grow_keeps d os)))
    have Q1 := Lib.hid q1
    clear q1
    have q2 := fun d os => Calls.regrown_of (E2.out _ _ _ _ _ _ (Sort.grow (redrawn V d) os) (hT.keep (grow_keeps d os)) (hC.keep (grow_keeps d os)))
    have Q2 := Lib.hid q2
    clear q2
    have q3 := fun d os => Calls.regrown_of (E3.out _ _ _ _ _ _ (Sort.grow (redrawn V d) os) (hT.keep (grow_keeps d os)) (hC.keep (grow_keeps d os)))
    have Q3 := Lib.hid q3
    clear q3
    have r0 := cell_regrown c0
    have r1 := cell_regrown c1
    have r2 := cell_regrown c2
    have r3 := cell_regrown c3
    have r4 := cell_regrown c4
    have r5 := cell_regrown c5
    have r6 := cell_regrown x0'
    have r7 := cell_regrown x1'
    have r8 := cell_regrown x2'
    have r9 := cell_regrown x3'
    refine wp_region_quiet_below (by kernel_rfl) (by kernel_rfl) ?_
    repeat (first | go_big_quiet_step (first | with_reducible exact Q1.out _ _ | with_reducible exact Q2.out _ _ | with_reducible exact Q3.out _ _) | quiet_step (first | with_reducible exact Q1.out _ _ | with_reducible exact Q2.out _ _ | with_reducible exact Q3.out _ _))
    refine wpQuiet_nil ?_
    intro _ hw'
    obtain ⟨⟨dq, osq⟩, hw''⟩ := hw'
    subst hw''
    have K := grow_keeps (w := V) dq osq
    clear r0 r1 r2 r3 r4 r5 r6 r7 r8 r9
    replace hT := hT.keep K
    replace hk := hk.keep K
    replace hx := hx.keep K
    replace hC := hC.keep K
    replace hb := hb.keep K
    replace KK := KK.trans K
    clear K
    generalize Sort.grow (redrawn V dq) osq = wz at *
    go_wp2_with fail
    go_ret
    exact ⟨rfl, KK⟩
end Go.Proofs.YtcnccoinhohbeaaGreatDoor
