/- Texts joined into one (wip/bin/pack.py): Err28. -/
import Derived.Test.YtkoohobpbopnnaaGreatDoorKV
import Derived.Test.YtkoohobpbopnnaaGreatDoorKU
import Derived.Test.YtkoohobpbopnnaaGreatDoorKM
/- The walk of the statement TrustErrors: it answers true and keeps what lay there. -/
namespace Go.Proofs.YtkoohobpbopnnaaGreatDoor
open Go.RowKit Go.Lib Go.Shelf

set_option maxRecDepth 20000 in
set_option maxHeartbeats 3000000 in
theorem errCore (nm : ByteArray) (kd : Int) (wt M : S) {ar : Option Addr} {nr cr : Nat} {aw : Option Addr} {nq cw : Nat} {af : Option Addr} {nf cf : Nat} (a : Option Addr) (n c : Nat) (er cv : Int) (few : Bool) (w : World) (hT : Tab w)
    (A1 : ∀ W, Keeps w W → Calls Tryz.prog 27 #[.agg #[.string nm, .int .i64 kd, .int .u16 (sv M), .slice ar nr cr, .slice aw nq cw, .slice af nf cf], .slice a n c] W fun e w' => e = .returned (.int .i64 er) ∧ Keeps W w')
    (A2 : ∀ W, Calls Tryz.prog 28 #[.agg #[.string nm, .int .i64 kd, .int .u16 (sv M), .slice ar nr cr, .slice aw nq cw, .slice af nf cf]] W fun e w' => e = .returned (.bool few) ∧ Keeps W w')
    (A3 : er ≠ 0 → n ≤ 110 → ∀ W, Keeps w W → Calls Tryz.prog 13 #[.agg #[.string nm, .int .i64 kd, .int .u16 (sv M), .slice ar nr cr, .slice aw nq cw, .slice af nf cf], .int .u16 (sv wt), .slice a n c] W fun e w' => RetCE (cl0, er) e ∧ Keeps W w')
    (A4 : er ≠ 0 → n ≤ 110 → ∀ W, Keeps w W → Tab W → Calls Tryz.prog 23 #[.agg #[.string nm, .int .i64 kd, .int .u16 (sv M), .slice ar nr cr, .slice aw nq cw, .slice af nf cf], .int .u16 (sv wt), .slice a n c] W fun e w' => RetS W ([], er) e w')
    (A5 : er ≠ 0 → n ≤ 110 → ∀ W, Keeps w W → Calls Tryz.prog 15 #[.agg #[.string nm, .int .i64 kd, .int .u16 (sv M), .slice ar nr cr, .slice aw nq cw, .slice af nf cf], .int .u16 (sv wt), .slice a n c] W fun e w' => e = .returned (.bool false) ∧ Keeps W w')
    (A6 : er ≠ 0 → n ≤ 110 → ∀ W, Keeps w W → Calls Tryz.prog 20 #[.agg #[.string nm, .int .i64 kd, .int .u16 (sv M), .slice ar nr cr, .slice aw nq cw, .slice af nf cf], .int .u16 (sv wt), .slice a n c, .int .u16 (sv 4095#16)] W fun e w' => e = .returned (.bool false) ∧ Keeps W w')
    (A7 : er ≠ 0 → n ≤ 110 → ∀ W, Keeps w W → Calls Tryz.prog 25 #[.agg #[.string nm, .int .i64 kd, .int .u16 (sv M), .slice ar nr cr, .slice aw nq cw, .slice af nf cf], .int .u16 (sv wt), .slice a n c] W fun e w' => e = .returned (.bool false) ∧ Keeps W w')
    (A8 : ∀ W, Keeps w W → Calls Tryz.prog 29 #[.agg #[.string nm, .int .i64 kd, .int .u16 (sv M), .slice ar nr cr, .slice aw nq cw, .slice af nf cf]] W fun e w' => e = .returned (.int .i64 cv) ∧ Keeps W w')
    (A9 : cv ≠ 0 → ∀ W, Keeps w W → Tab W → Calls Tryz.prog 16 #[.agg #[.string nm, .int .i64 kd, .int .u16 (sv M), .slice ar nr cr, .slice aw nq cw, .slice af nf cf], .int .u16 (sv wt)] W fun e w' => RetS W ([], cv) e w') :
    Calls Tryz.prog 9 #[.agg #[.string nm, .int .i64 kd, .int .u16 (sv M), .slice ar nr cr, .slice aw nq cw, .slice af nf cf], .int .u16 (sv wt), .slice a n c] w fun e w' => e = .returned (.bool true) ∧ Keeps w w' := by
  have KK := Keeps.refl w
  have K1 := (Keeps.refl w).alloc (.cells #[.string nm, .int .i64 kd, .int .u16 (sv M), .slice ar nr cr, .slice aw nq cw, .slice af nf cf] 32)
  have hb := BoxC.new w 32 nm kd M ar nr cr aw nq cw af nf cf
  obtain ⟨W1, hW1⟩ : ∃ W1, W1 = w.alloc (.cells #[.string nm, .int .i64 kd, .int .u16 (sv M), .slice ar nr cr, .slice aw nq cw, .slice af nf cf] 32) := ⟨_, rfl⟩
  rw [← hW1] at hb K1
  have HW1 := Lib.hid hW1
  replace hT := hT.keep K1
  replace KK := KK.trans K1
  rw [show sv 4095#16 = 4095 from rfl] at A6
  unfold RetCE at A3
  unfold RetS at A4 A9
  simp only [vcl, cl0, sv_zero] at A3 A4 A9
  have E1 := Lib.hid A1; have E2 := Lib.hid A2; have E3 := Lib.hid A3; have E4 := Lib.hid A4; have E5 := Lib.hid A5; have E6 := Lib.hid A6; have E7 := Lib.hid A7; have E8 := Lib.hid A8; have E9 := Lib.hid A9
  clear A1 A2 A3 A4 A5 A6 A7 A8 A9 hW1
  have hee : (er != er) = false := by simp
  have hcc : (cv == cv) = true := by simp
  go_enter Tryz.func9, Tryz.ntmps9
  obtain ⟨c0, c1, c2, c3, c4, c5⟩ := hb.conj
  go_wp2_with fail
  rw [← HW1.out]
  clear c0 c1 c2 c3 c4 c5
  refine (E1.out _ KK).mono ?_
  rintro e W1 ⟨rfl, K⟩
  replace hT := hT.keep K
  replace hb := hb.keep K
  replace KK := KK.trans K
  clear K
  go_wp2_with fail
  refine (awake28_any _ hT).mono ?_
  rintro e W2 ⟨rfl, K⟩
  replace hT := hT.keep K
  replace hb := hb.keep K
  replace KK := KK.trans K
  clear K
  obtain ⟨c0, c1, c2, c3, c4, c5⟩ := hb.conj
  go_wp2_with fail
  clear c0 c1 c2 c3 c4 c5
  refine (E2.out _).mono ?_
  rintro e W3 ⟨rfl, K⟩
  replace hT := hT.keep K
  replace hb := hb.keep K
  replace KK := KK.trans K
  clear K
  cases few
  · skip
    go_wp2_with fail
    refine (awake28_any _ hT).mono ?_
    rintro e W4 ⟨rfl, K⟩
    replace hT := hT.keep K
    replace hb := hb.keep K
    replace KK := KK.trans K
    clear K
    go_wp2_with fail
    go_ret
    exact ⟨rfl, KK⟩
  · skip
    by_cases hn : n ≤ 110
    rotate_left
    · skip
      have hn' : (110 : Int) < (n : Int) := by omega
      go_wp2_with fail
      refine (awake28_any _ hT).mono ?_
      rintro e W4 ⟨rfl, K⟩
      replace hT := hT.keep K
      replace hb := hb.keep K
      replace KK := KK.trans K
      clear K
      go_wp2_with fail
      go_ret
      exact ⟨rfl, KK⟩
    · skip
      have hn' : ¬ (110 : Int) < (n : Int) := by omega
      by_cases h0 : er = 0
      · skip
        subst h0
        go_wp2_with fail
        refine (awake28_any _ hT).mono ?_
        rintro e W4 ⟨rfl, K⟩
        replace hT := hT.keep K
        replace hb := hb.keep K
        replace KK := KK.trans K
        clear K
        go_wp2_with fail
        go_ret
        exact ⟨rfl, KK⟩
      · skip
        have h0b : (er == 0) = false := by simpa using h0
        have F3 := Lib.hid (E3.out h0 hn); have F4 := Lib.hid (E4.out h0 hn); have F5 := Lib.hid (E5.out h0 hn); have F6 := Lib.hid (E6.out h0 hn); have F7 := Lib.hid (E7.out h0 hn)
        clear h0 hn
        obtain ⟨c0, c1, c2, c3, c4, c5⟩ := hb.conj
        go_wp2_with fail
        clear c0 c1 c2 c3 c4 c5
        refine (F3.out _ KK).mono ?_
        rintro e W4 ⟨rfl, K⟩
        replace hT := hT.keep K
        replace hb := hb.keep K
        replace KK := KK.trans K
        clear K
        have hx : Blk (W4.alloc (.cells #[.int .i64 0, .int .u16 0, .int .u16 0, .int .u16 0] 37)) W4.heap.size 37 #[.int .i64 0, .int .u16 0, .int .u16 0, .int .u16 0] := Blk.new _ _ _
        have K := (Keeps.refl W4).alloc (.cells #[.int .i64 0, .int .u16 0, .int .u16 0, .int .u16 0] 37)
        have hb' := hb.keep K
        obtain ⟨c0, c1, c2, c3, c4, c5⟩ := hb'.conj
        clear hb'
        go_wp2_with fail
        clear c0 c1 c2 c3 c4 c5
        replace hT := hT.keep K
        replace hb := hb.keep K
        replace KK := KK.trans K
        clear K
        refine (F4.out _ KK hT).mono ?_
        rintro e W5 ⟨v, rfl, hO⟩
        obtain ⟨al1, cl1, rfl, hl1⟩ := hO.rd
        have K := hO.2
        clear hO hl1
        replace hT := hT.keep K
        replace hb := hb.keep K
        replace hx := hx.keep K
        replace KK := KK.trans K
        clear K
        obtain ⟨x0', x1', x2', x3'⟩ := c4of hx
        obtain ⟨c0, c1, c2, c3, c4, c5⟩ := hb.conj
        go_wp2_with fail
        clear c0 c1 c2 c3 c4 c5 x0' x1' x2' x3'
        refine (F5.out _ KK).mono ?_
        rintro e W6 ⟨rfl, K⟩
        replace hT := hT.keep K
        replace hb := hb.keep K
        replace hx := hx.keep K
        replace KK := KK.trans K
        clear K
        obtain ⟨c0, c1, c2, c3, c4, c5⟩ := hb.conj
        go_wp2_with fail
        clear c0 c1 c2 c3 c4 c5
        refine (F6.out _ KK).mono ?_
        rintro e W7 ⟨rfl, K⟩
        replace hT := hT.keep K
        replace hb := hb.keep K
        replace hx := hx.keep K
        replace KK := KK.trans K
        clear K
        obtain ⟨c0, c1, c2, c3, c4, c5⟩ := hb.conj
        go_wp2_with fail
        clear c0 c1 c2 c3 c4 c5
        refine (F7.out _ KK).mono ?_
        rintro e W8 ⟨rfl, K⟩
        replace hT := hT.keep K
        replace hb := hb.keep K
        replace hx := hx.keep K
        replace KK := KK.trans K
        clear K
        obtain ⟨c0, c1, c2, c3, c4, c5⟩ := hb.conj
        go_wp2_with fail
        clear c0 c1 c2 c3 c4 c5
        refine (E8.out _ KK).mono ?_
        rintro e W9 ⟨rfl, K⟩
        replace hT := hT.keep K
        replace hb := hb.keep K
        replace hx := hx.keep K
        replace KK := KK.trans K
        clear K
        by_cases hc0 : cv = 0
        · skip
          subst hc0
          go_wp2_with fail
          go_ret
          exact ⟨rfl, KK⟩
        · skip
          have hcb : (cv != 0) = true := by simpa using hc0
          have F9 := Lib.hid (E9.out hc0)
          clear hc0
          obtain ⟨c0, c1, c2, c3, c4, c5⟩ := hb.conj
          go_wp2_with fail
          clear c0 c1 c2 c3 c4 c5
          refine (F9.out _ KK hT).mono ?_
          rintro e W10 ⟨v, rfl, hO⟩
          obtain ⟨al2, cl2, rfl, hl2⟩ := hO.rd
          have K := hO.2
          clear hO hl2
          replace hT := hT.keep K
          replace hb := hb.keep K
          replace hx := hx.keep K
          replace KK := KK.trans K
          clear K
          go_wp2_with fail
          go_ret
          exact ⟨rfl, KK⟩

theorem TrustErrors_any (nm : ByteArray) (kd : Int) (M : S) {ar : Option Addr} {cr : Nat} {R : List S} {aw : Option Addr} {cw : Nat} {Q : List S} {af : Option Addr} {cf : Nat} {F : List F2} (wt : S) {a : Option Addr} {c : Nat} (m : List F2) (w : World) (hT : Tab w) (h : RdC w ar cr R aw cw Q af cf F) (hm : Rd w a m.length c 2 (fl m)) :
    Calls Tryz.prog 9 #[.agg #[.string nm, .int .i64 kd, .int .u16 (sv M), .slice ar R.length cr, .slice aw Q.length cw, .slice af F.length cf], .int .u16 (sv wt), .slice a m.length c] w fun e w' => e = .returned (.bool true) ∧ Keeps w w' := by
  cases hn : nmB nm with
  | false =>
    refine errCore nm kd wt M a m.length c 1 1 (fewB nm R.length Q.length F.length) w hT ?_ ?_ ?_ ?_ ?_ ?_ ?_ ?_ ?_
    · exact fun W _ => rBadErr_any nm hn kd M a m.length c W
    · exact fun W => few27_any nm kd M W
    · exact fun _ _ W _ => badClash_any nm hn kd wt M a m.length c W
    · exact fun _ _ W _ _ => badCommits_any nm hn kd wt M a m.length c W
    · exact fun _ _ W _ => badSound_any nm hn kd wt M a m.length c W
    · exact fun _ _ W _ => badAcc_any nm hn kd wt M 4095#16 a m.length c W
    · exact fun _ _ W _ => badLive_any nm hn kd wt M a m.length c W
    · exact fun W _ => rBadValid_any nm hn kd M W
    · exact fun _ W _ _ => badLimits_any nm hn kd wt M W
  | true =>
    have hok : NmOk nm := ⟨hn⟩
    have hcl : tvS kd M R Q F m ≠ 0 → clashS kd wt M R Q F m = (cl0, tvS kd M R Q F m) := fun h0 => by unfold clashS; rw [if_pos h0]
    have hne : tvS kd M R Q F m ≠ 13 := by
      unfold tvS
      split
      · exact cv_ne _ _ _ _ _
      · exact fv_ne _
    refine errCore nm kd wt M a m.length c (tvS kd M R Q F m) (cvS kd M R Q F) (fewB nm R.length Q.length F.length) w hT ?_ ?_ ?_ ?_ ?_ ?_ ?_ ?_ ?_
    · exact fun W k => rError_any (nm := nm) kd M a m.length c m W (h.keep k) (hm.keep k)
    · exact fun W => few27_any nm kd M W
    · intro h0 h110 W k
      have := clash_any (nm := nm) kd wt M a m.length c m W (h.keep k) (hm.keep k) (by omega)
      rw [hcl h0] at this; exact this
    · intro h0 h110 W k t
      have := commits_any (nm := nm) kd wt M a m.length c m W t (h.keep k) (hm.keep k) (by omega)
      rw [show comS kd wt M R Q F m = ([], tvS kd M R Q F m) by unfold comS; rw [if_pos h0]] at this; exact this
    · intro h0 h110 W k
      have := sound_any (nm := nm) kd wt M a m.length c m W (h.keep k) (hm.keep k) (by omega)
      rw [show soundS kd wt M R Q F m = false by unfold soundS; rw [hcl h0]; simpa using hne] at this; exact this
    · intro h0 h110 W k
      have := acceptsC_any (nm := nm) kd wt M 4095#16 a m.length c m W (h.keep k) (hm.keep k) (by omega)
      rw [show accS28 kd wt M R Q F m 4095#16 = false by unfold accS28; rw [show (tvS kd M R Q F m == 0) = false by simpa using h0]; rfl] at this; exact this
    · intro h0 h110 W k
      have := live_any (nm := nm) kd wt M a m.length c m W (h.keep k) (hm.keep k) (by omega)
      rw [show livS kd wt M R Q F m = false by unfold livS; rw [show (tvS kd M R Q F m == 0) = false by simpa using h0]; rfl] at this; exact this
    · exact fun W k => rcValid_any (nm := nm) kd M W (h.keep k)
    · intro h0 W k t
      have := limits_any (nm := nm) kd wt M W t (h.keep k)
      rw [show lmtS kd wt M R Q F = ([], cvS kd M R Q F) by unfold lmtS; rw [if_pos h0]] at this; exact this
end Go.Proofs.YtkoohobpbopnnaaGreatDoor
