/- Texts joined into one (wip/bin/pack.py): R28e. -/
import Derived.Lib.QuietBelow
import Derived.Test.YtkoohobpbopnnaaGreatDoorKQ
/- The reference's harmless, Live, Commits, Limits. -/
namespace Go.Proofs.YtkoohobpbopnnaaGreatDoor
open Go.RowKit Go.Lib Go.Shelf

theorem filter_snoc (p : S → Bool) (l : List S) (i : Nat) (h : i < l.length) : (l.take (i + 1)).filter p = (l.take i).filter p ++ if p (at_ l i) = true then [at_ l i] else [] := by
  rw [take_at l i h, List.filter_append]
  congr 1
  cases g : p (at_ l i) <;> simp [g]
theorem filter_take_le (p : S → Bool) (l : List S) (i : Nat) : ((l.take i).filter p).length ≤ l.length := by
  have h1 := List.length_filter_le p (l.take i)
  have h2 := List.length_take_le i l
  have h3 := List.length_take_le' i l
  omega
theorem insM_len (M : S) : (insM M).length ≤ 4096 := inTo_len M 4096
set_option maxRecDepth 20000 in
set_option maxHeartbeats 1600000 in
theorem rharm_any (nm : ByteArray) (kd : Int) (M wt s : S) {ar : Option Addr} {cr : Nat} {R : List S} {aw : Option Addr} {cw : Nat} {Q : List S} {af : Option Addr} {cf : Nat} {F : List F2} (w : World) (h : RdC w ar cr R aw cw Q af cf F) :
    Calls Tryz.prog 46 #[.agg #[.string nm, .int .i64 kd, .int .u16 (sv M), .slice ar R.length cr, .slice aw Q.length cw, .slice af F.length cf], .int .u16 (sv wt), .int .u16 (sv s)] w fun e w' => e = .returned (.bool (rharm kd wt R Q s)) ∧ Keeps w w' := by
  have K0 := (Keeps.refl w).alloc (.cells #[.string nm, .int .i64 kd, .int .u16 (sv M), .slice ar R.length cr, .slice aw Q.length cw, .slice af F.length cf] 32)
  have hb := BoxC.new w 32 nm kd M ar R.length cr aw Q.length cw af F.length cf
  obtain ⟨W1, hW1⟩ : ∃ W0, W0 = w.alloc (.cells #[.string nm, .int .i64 kd, .int .u16 (sv M), .slice ar R.length cr, .slice aw Q.length cw, .slice af F.length cf] 32) := ⟨_, rfl⟩
  rw [← hW1] at hb K0
  have hz := rd_new 27 1 W1 [.int .u16 (sv s)] 1 (by decide) rfl
  rw [show W1.heap.size = w.heap.size + 1 by rw [hW1, World.size_alloc]] at hz
  have k2 := (Keeps.refl W1).alloc (.cells #[.int .u16 (sv s)] 27)
  have hc := rrules_any nm kd M wt (ar := ar) (cr := cr) (R := R) (aw := aw) (cw := cw) (Q := Q) (af := af) (cf := cf) (F := F) _ 1 1 [s] _ ((h.keep K0).keep k2) hz
  have hb2 := hb.keep k2
  have e0 : rharm kd wt R Q s = ((rulesR wt [s] R Q).isNone && (s == 0#16 || kd == 2)) := rfl
  have E0 := Lib.hid e0
  clear e0
  generalize rharm kd wt R Q s = res at *
  generalize rulesR wt [s] R Q = o at *
  unfold RetCB at hc
  have HC := Lib.hid hc; have HB := Lib.hid hb2; have K2 := K0.trans k2
  obtain ⟨c0, c1, c2, c3, c4, c5⟩ := hb.conj
  clear hc h hz hb hb2 k2 K0
  go_enter Tryz.func46, Tryz.ntmps46
  go_wp2_with fail
  rw [← hW1]
  clear hW1
  refine HC.out.mono ?_
  rintro e w2 ⟨rfl, K3⟩
  clear c0 c1 c2 c3 c4 c5
  cases o with
  | some x =>
    have hres : res = false := by rw [E0.out]; simp
    clear E0
    dsimp only [vcl, Option.getD, Option.isSome]
    go_wp2_with fail
    go_ret
    rw [hres]
    exact ⟨rfl, (K2.trans K3).alloc _⟩
  | none =>
    have c1 := ((HB.out.keep K3).keep ((Keeps.refl w2).alloc (.cells #[.int .i64 0, .int .u16 (sv 0#16), .int .u16 (sv 0#16), .int .u16 (sv 0#16)] 37))).c1
    dsimp only [vcl, cl0, Option.getD, Option.isSome]
    cases h0 : (s == 0#16)
    · cases hk : (kd == 2)
      all_goals
        have hres := E0.out
        rw [h0, hk] at hres
        simp only [Option.isNone_none, Bool.true_and, Bool.false_or] at hres
        have HR := Lib.hid hres
        clear hres E0
        go_wp2_with fail
        go_ret
        rw [HR.out]
        exact ⟨rfl, (K2.trans K3).alloc _⟩
    · have hres := E0.out
      rw [h0] at hres
      simp only [Option.isNone_none, Bool.true_and, Bool.true_or] at hres
      have HR := Lib.hid hres
      clear hres E0
      go_wp2_with fail
      go_ret
      rw [HR.out]
      exact ⟨rfl, (K2.trans K3).alloc _⟩
set_option maxRecDepth 20000 in
set_option maxHeartbeats 1600000 in
theorem rLive_any {nm : ByteArray} [NmOk nm] (kd : Int) (wt M : S) {ar : Option Addr} {cr : Nat} {R : List S} {aw : Option Addr} {cw : Nat} {Q : List S} {af : Option Addr} {cf : Nat} {F : List F2} (a : Option Addr) (n c : Nat) (m : List F2) (w : World) (h : RdC w ar cr R aw cw Q af cf F) (hm : Rd w a n c 2 (fl m)) (hn : n ≤ 1000000) :
    Calls Tryz.prog 26 #[.agg #[.string nm, .int .i64 kd, .int .u16 (sv M), .slice ar R.length cr, .slice aw Q.length cw, .slice af F.length cf], .int .u16 (sv wt), .slice a n c] w fun e w' => e = .returned (.bool (rlivS kd wt M R Q F m)) ∧ Keeps w w' := by
  have L := hm.lenF
  subst L
  have K0 := (Keeps.refl w).alloc (.cells #[.string nm, .int .i64 kd, .int .u16 (sv M), .slice ar R.length cr, .slice aw Q.length cw, .slice af F.length cf] 32)
  have hb := BoxC.new w 32 nm kd M ar R.length cr aw Q.length cw af F.length cf
  obtain ⟨W1, hW1⟩ : ∃ W0, W0 = w.alloc (.cells #[.string nm, .int .i64 kd, .int .u16 (sv M), .slice ar R.length cr, .slice aw Q.length cw, .slice af F.length cf] 32) := ⟨_, rfl⟩
  rw [← hW1] at hb K0
  have sm := hm.small
  have h1 := fun W (k : Keeps w W) => rError_any (nm := nm) kd M a m.length c m W (h.keep k) (hm.keep k)
  have h2 := fun W (k : Keeps w W) s => rAcceptsC_any (nm := nm) kd wt M s a m.length c m W (h.keep k) (hm.keep k) hn
  have e0 : rlivS kd wt M R Q F m = (tvS kd M R Q F m == 0 && !(m.any fun f => !raccS kd wt M R Q F m (M &&& ~~~(f.1 ||| f.2)))) := rfl
  have E0 := Lib.hid e0
  clear e0
  generalize rlivS kd wt M R Q F m = res at *
  generalize tvS kd M R Q F m = er at *
  generalize raccS kd wt M R Q F m = acc at *
  have H1 := Lib.hid h1; have H2 := Lib.hid h2; have HM := Lib.hid hm
  have HB := Lib.hid hb
  clear h1 h2 h hm
  generalize R.length = nr at *
  generalize Q.length = nq at *
  generalize F.length = nf at *
  obtain ⟨c0, c1, c2, c3, c4, c5⟩ := hb.conj
  clear hb
  by_cases hz : er = 0
  rotate_left
  · have hbb : (er != 0) = true := by simpa using hz
    have hres : res = false := by rw [E0.out, show (er == 0) = false by simpa using hz]; rfl
    clear hz
    go_enter Tryz.func26, Tryz.ntmps26
    go_wp2_with fail
    rw [← hW1]
    refine (H1.out _ K0).mono ?_
    rintro e w3 ⟨rfl, K1⟩
    go_wp2_with fail
    go_ret
    rw [hres]
    exact ⟨rfl, K0.trans K1⟩
  subst hz
  have hE := E0.out
  simp only [beq_self_eq_true, Bool.true_and] at hE
  have HE := Lib.hid hE
  clear hE E0
  go_enter Tryz.func26, Tryz.ntmps26
  go_wp2_with fail
  rw [← hW1]
  clear hW1 c0 c1 c2 c3 c4 c5
  refine (H1.out _ K0).mono ?_
  rintro e w3 ⟨rfl, K1⟩
  have hb3 := HB.out.keep K1
  have HB3 := Lib.hid hb3
  replace K1 := K0.trans K1
  clear hb3 HB
  go_wp2_with fail
  go_loopw [7] (fun v wr => ∃ i : Nat, i ≤ m.length ∧ v = .int .i64 i ∧ Keeps w3 wr ∧ Hid (res = !((m.drop i).any fun f => !acc (M &&& ~~~(f.1 ||| f.2))))) (fun v _ => m.length - (intOf v).toNat)
  case atStart => exact ⟨0, Nat.zero_le _, rfl, Keeps.refl _, HE.out⟩
  case round =>
    obtain ⟨i, hi, rfl, K3, HI⟩ := hrel
    by_cases hlt : i < m.length
    · have hRi := HM.out.keep (K1.trans K3)
      have r0 := cell_regrown (hRi.f0 hlt)
      have r1 := cell_regrown (hRi.f1' hlt)
      have r8 := cell_regrown (hRi.f1 hlt)
      obtain ⟨d0, d1, d2, d3, d4, d5⟩ := (HB3.out.keep K3).conj
      have r2 := cell_regrown d0; have r3 := cell_regrown d1; have r4 := cell_regrown d2; have r5 := cell_regrown d3; have r6 := cell_regrown d4; have r7 := cell_regrown d5
      have hs := HM.out.isSome (by omega)
      have hst := HI.out
      rw [drop_fa m i hlt, List.any_cons] at hst
      have hcx := fun d os => Calls.regrown_of (H2.out (Sort.grow (redrawn wr d) os) ((K1.trans K3).trans (grow_keeps d os)) (M &&& ~~~((fa m i).1 ||| (fa m i).2)))
      clear hRi d0 d1 d2 d3 d4 d5
      cases hq : acc (M &&& ~~~((fa m i).1 ||| (fa m i).2))
      all_goals
        rw [hq] at hst hcx
        simp only [Bool.false_or, Bool.true_or, Bool.not_false, Bool.not_true] at hst
        have HCX := Lib.hid hcx; have HS := Lib.hid hst
        clear hcx hst HI hq
        go_wp2_with fail
        refine wp_region_quiet_below (by kernel_rfl) (by kernel_rfl) ?_
        repeat (first | go_big_quiet_step (exact HCX.out _ _) | quiet_step (exact HCX.out _ _))
        refine wpQuiet_nil ?_
        intro _ hw'
        obtain ⟨⟨dq, osq⟩, hw''⟩ := hw'
        subst hw''
        have KF := K3.trans (grow_keeps dq osq)
        clear r0 r1 r2 r3 r4 r5 r6 r7 r8
        generalize Sort.grow (redrawn wr dq) osq = wz at *
        go_wp2_with fail
      · go_ret
        rw [HS.out]
        exact ⟨rfl, K1.trans KF⟩
      · go_roundw
        case rel => exact ⟨i + 1, by omega, by go_num, KF, HS⟩
        case measure => simp [intOf]; omega
    · have hst := HI.out
      rw [List.drop_eq_nil_of_le (by omega), List.any_nil] at hst
      have HS := Lib.hid hst
      clear hst HI
      go_wp2_with fail
      go_ret
      rw [HS.out]
      exact ⟨rfl, K1.trans K3⟩
set_option maxRecDepth 20000 in
set_option maxHeartbeats 2000000 in
theorem rCommits_any {nm : ByteArray} [NmOk nm] (kd : Int) (wt M : S) {ar : Option Addr} {cr : Nat} {R : List S} {aw : Option Addr} {cw : Nat} {Q : List S} {af : Option Addr} {cf : Nat} {F : List F2} (a : Option Addr) (n c : Nat) (m : List F2) (w : World) (h : RdC w ar cr R aw cw Q af cf F) (hm : Rd w a n c 2 (fl m)) (hn : n ≤ 1000000) :
    Calls Tryz.prog 24 #[.agg #[.string nm, .int .i64 kd, .int .u16 (sv M), .slice ar R.length cr, .slice aw Q.length cw, .slice af F.length cf], .int .u16 (sv wt), .slice a n c] w fun e w' => RetS w (rcomS kd wt M R Q F m) e w' := by
  have K0 := (Keeps.refl w).alloc (.cells #[.string nm, .int .i64 kd, .int .u16 (sv M), .slice ar R.length cr, .slice aw Q.length cw, .slice af F.length cf] 32)
  have hb := BoxC.new w 32 nm kd M ar R.length cr aw Q.length cw af F.length cf
  obtain ⟨W1, hW1⟩ : ∃ W0, W0 = w.alloc (.cells #[.string nm, .int .i64 kd, .int .u16 (sv M), .slice ar R.length cr, .slice aw Q.length cw, .slice af F.length cf] 32) := ⟨_, rfl⟩
  rw [← hW1] at hb K0
  have h1 := fun W (k : Keeps w W) => rError_any (nm := nm) kd M a n c m W (h.keep k) (hm.keep k)
  have h2 := fun W => inside_any nm kd M (ar := ar) (cr := cr) (R := R) (aw := aw) (cw := cw) (Q := Q) (af := af) (cf := cf) (F := F) W
  have h3 := fun W (k : Keeps w W) s => rAcceptsC_any (nm := nm) kd wt M s a n c m W (h.keep k) (hm.keep k) hn
  have h4 := fun A N C (l : List S) W (hl : Rd W A N C 1 (sl l)) (hn : N ≤ 1000000) => rMin_any A N C l W hl hn
  have e0 : rcomS kd wt M R Q F m = if tvS kd M R Q F m ≠ 0 then ([], tvS kd M R Q F m) else chkR ((insM M).filter (raccS kd wt M R Q F m)) (refLeast ((insM M).filter (raccS kd wt M R Q F m))) := rfl
  have E0 := Lib.hid e0
  clear e0
  have hal := insM_len M
  generalize rcomS kd wt M R Q F m = res at *
  generalize tvS kd M R Q F m = er at *
  generalize raccS kd wt M R Q F m = acc at *
  generalize insM M = al at *
  have H1 := Lib.hid h1; have H2 := Lib.hid h2; have H3 := Lib.hid h3; have H4 := Lib.hid h4; have HB := Lib.hid hb
  clear h1 h2 h3 h4 h hm
  generalize R.length = nr at *
  generalize Q.length = nq at *
  generalize F.length = nf at *
  obtain ⟨c0, c1, c2, c3, c4, c5⟩ := hb.conj
  clear hb
  by_cases hz : er = 0
  rotate_left
  · have hbb : (er != 0) = true := by simpa using hz
    have hres : res = ([], er) := by rw [E0.out, if_pos hz]
    have HRES := Lib.hid hres
    clear hz hres E0
    go_enter Tryz.func24, Tryz.ntmps24
    go_wp2_with fail
    rw [← hW1]
    refine (H1.out _ K0).mono ?_
    rintro e w3 ⟨rfl, K1⟩
    go_wp2_with fail
    go_ret2
    rw [HRES.out]
    exact ⟨_, rfl, Own.nil _ _ (K0.trans K1)⟩
  subst hz
  have hE := E0.out
  rw [if_neg (by simp)] at hE
  have HE := Lib.hid hE
  clear hE E0
  go_enter Tryz.func24, Tryz.ntmps24
  go_wp2_with fail
  rw [← hW1]
  clear hW1 c0 c1 c2 c3 c4 c5
  refine (H1.out _ K0).mono ?_
  rintro e w3 ⟨rfl, K1⟩
  have hb3 := HB.out.keep K1
  replace K1 := K0.trans K1
  obtain ⟨c0, c1, c2, c3, c4, c5⟩ := hb3.conj
  go_wp2_with fail
  clear c0 c1 c2 c3 c4 c5
  refine (H2.out _).mono ?_
  rintro e w4 ⟨v4, rfl, hO⟩
  obtain ⟨a4, d4, rfl, hR⟩ := hO.rd
  have hb4 := hb3.keep hO.2
  have K2 := K1.trans hO.2
  have sal := hR.small
  have HR := Lib.hid hR; have HB4 := Lib.hid hb4
  clear hO hR hb4 hb3 HB
  go_wp2_with fail
  go_loopw [9, 11] (fun u v wr => ∃ i : Nat, i ≤ al.length ∧ v = .int .i64 i ∧ Own 27 1 w4 wr u ((al.take i).filter acc).length (sl ((al.take i).filter acc))) (fun _ v _ => al.length - (intOf v).toNat)
  case atStart => exact ⟨0, Nat.zero_le _, rfl, Own.nil _ _ (Keeps.refl _)⟩
  case round =>
    obtain ⟨i, hi, rfl, hO⟩ := hrel
    obtain ⟨a2, c2, rfl, hRa⟩ := hO.rd
    by_cases hlt : i < al.length
    · have K3 := hO.2
      have r0 := cell_regrown ((HR.out.keep K3).at hlt)
      obtain ⟨d0, d1, d2, d3, d4', d5⟩ := (HB4.out.keep K3).conj
      have r2 := cell_regrown d0; have r3 := cell_regrown d1; have r4 := cell_regrown d2; have r5 := cell_regrown d3; have r6 := cell_regrown d4'; have r7 := cell_regrown d5
      have hs := HR.out.isSome (by omega)
      have hst := filter_snoc acc al i hlt
      have hle := filter_take_le acc al i
      have hcx := fun d os => Calls.regrown_of (H3.out (Sort.grow (redrawn wr d) os) ((K2.trans K3).trans (grow_keeps d os)) (at_ al i))
      have HO := Lib.hid hO
      clear hO hRa d0 d1 d2 d3 d4' d5
      have hcell := (HR.out.keep K3).at hlt
      generalize at_ al i = x at *
      have HCELL := Lib.hid (fun (W : World) (k : Keeps wr W) => k.cell hcell)
      clear hcell
      cases hq : acc x
      · rw [hq] at hst hcx
        rw [if_neg (by simp), List.append_nil] at hst
        have HCX := Lib.hid hcx; have HS := Lib.hid hst
        clear hcx hst hq
        go_wp2_with fail
        refine wp_region_quiet_below (by kernel_rfl) (by kernel_rfl) ?_
        repeat (first | go_big_quiet_step (exact HCX.out _ _) | quiet_step (exact HCX.out _ _))
        refine wpQuiet_nil ?_
        intro _ hw'
        obtain ⟨⟨dq, osq⟩, hw''⟩ := hw'
        subst hw''
        have KF := grow_keeps (w := wr) dq osq
        clear r0 r2 r3 r4 r5 r6 r7
        generalize Sort.grow (redrawn wr dq) osq = wz at *
        go_wp2_with fail
        go_roundw
        case rel => exact ⟨i + 1, by omega, by go_num, by rw [HS.out]; exact HO.out.keep KF⟩
        case measure => simp [intOf]; omega
      · rw [hq] at hst hcx
        rw [if_pos rfl] at hst
        have HCX := Lib.hid hcx; have HS := Lib.hid hst
        clear hcx hst hq
        go_wp2_with fail
        refine wp_region_quiet_below (by kernel_rfl) (by kernel_rfl) ?_
        repeat (first | go_big_quiet_step (exact HCX.out _ _) | quiet_step (exact HCX.out _ _))
        refine wpQuiet_nil ?_
        intro _ hw'
        obtain ⟨⟨dq, osq⟩, hw''⟩ := hw'
        subst hw''
        have KF := grow_keeps (w := wr) dq osq
        clear r0 r2 r3 r4 r5 r6 r7
        generalize Sort.grow (redrawn wr dq) osq = wz at *
        have hcell := HCELL.out wz KF
        have hOz := HO.out.keep KF
        have HOZ := Lib.hid hOz
        clear hOz
        go_wp2_with (at_builtin; refine wp_app tyS rfl _ _ rfl (HOZ.out.alloc _) rfl rfl (rd_new 27 1 _ [.int .u16 (sv x)] 1 (by decide) rfl) (sl_oneCell [x]) (by omega) ?_)
        intro v5 w5 hO5 hg5
        clear hg5 hcell
        go_wp2_with fail
        go_roundw
        case rel => exact ⟨i + 1, by omega, by go_num, by rw [HS.out]; exact hO5.snoc⟩
        case measure => simp [intOf]; omega
    · have htk : al.take i = al := List.take_of_length_le (by omega)
      rw [htk] at hO hRa
      have hle := filter_take_le acc al al.length
      rw [List.take_length] at hle
      have K3 := hO.2
      have hcall := H4.out a2 _ c2 (al.filter acc) wr hRa (by omega)
      rw [htk] 
      have HC := Lib.hid hcall
      clear hcall hO hRa htk
      go_wp2_with fail
      refine HC.out.mono ?_
      rintro e w6 ⟨v6, rfl, hO6⟩
      go_wp2_with fail
      go_ret2
      rw [HE.out]
      exact ⟨_, rfl, hO6.since (K2.trans K3)⟩
set_option maxRecDepth 20000 in
set_option maxHeartbeats 2000000 in
theorem rLimits_any {nm : ByteArray} [NmOk nm] (kd : Int) (wt M : S) {ar : Option Addr} {cr : Nat} {R : List S} {aw : Option Addr} {cw : Nat} {Q : List S} {af : Option Addr} {cf : Nat} {F : List F2} (w : World) (h : RdC w ar cr R aw cw Q af cf F) :
    Calls Tryz.prog 17 #[.agg #[.string nm, .int .i64 kd, .int .u16 (sv M), .slice ar R.length cr, .slice aw Q.length cw, .slice af F.length cf], .int .u16 (sv wt)] w fun e w' => RetS w (rlmtS kd wt M R Q F) e w' := by
  have K0 := (Keeps.refl w).alloc (.cells #[.string nm, .int .i64 kd, .int .u16 (sv M), .slice ar R.length cr, .slice aw Q.length cw, .slice af F.length cf] 32)
  have hb := BoxC.new w 32 nm kd M ar R.length cr aw Q.length cw af F.length cf
  obtain ⟨W1, hW1⟩ : ∃ W0, W0 = w.alloc (.cells #[.string nm, .int .i64 kd, .int .u16 (sv M), .slice ar R.length cr, .slice aw Q.length cw, .slice af F.length cf] 32) := ⟨_, rfl⟩
  rw [← hW1] at hb K0
  have h1 := fun W (k : Keeps w W) => rcValid_any (nm := nm) kd M W (h.keep k)
  have h2 := fun W => inside_any nm kd M (ar := ar) (cr := cr) (R := R) (aw := aw) (cw := cw) (Q := Q) (af := af) (cf := cf) (F := F) W
  have h3 := fun W (k : Keeps w W) s => rharm_any nm kd M wt s W (h.keep k)
  have h4 := fun A N C (l : List S) W (hl : Rd W A N C 1 (sl l)) (hn : N ≤ 1000000) => rMax_any A N C l W hl hn
  have e0 : rlmtS kd wt M R Q F = if cvS kd M R Q F ≠ 0 then ([], cvS kd M R Q F) else chkR ((insM M).filter (rharm kd wt R Q)) (refGreatest ((insM M).filter (rharm kd wt R Q))) := rfl
  have E0 := Lib.hid e0
  clear e0
  have hal := insM_len M
  generalize rlmtS kd wt M R Q F = res at *
  generalize cvS kd M R Q F = er at *
  generalize rharm kd wt R Q = acc at *
  generalize insM M = al at *
  have H1 := Lib.hid h1; have H2 := Lib.hid h2; have H3 := Lib.hid h3; have H4 := Lib.hid h4; have HB := Lib.hid hb
  clear h1 h2 h3 h4 h
  generalize R.length = nr at *
  generalize Q.length = nq at *
  generalize F.length = nf at *
  obtain ⟨c0, c1, c2, c3, c4, c5⟩ := hb.conj
  clear hb
  by_cases hz : er = 0
  rotate_left
  · have hbb : (er != 0) = true := by simpa using hz
    have hres : res = ([], er) := by rw [E0.out, if_pos hz]
    have HRES := Lib.hid hres
    clear hz hres E0
    go_enter Tryz.func17, Tryz.ntmps17
    go_wp2_with fail
    rw [← hW1]
    refine (H1.out _ K0).mono ?_
    rintro e w3 ⟨rfl, K1⟩
    go_wp2_with fail
    go_ret2
    rw [HRES.out]
    exact ⟨_, rfl, Own.nil _ _ (K0.trans K1)⟩
  subst hz
  have hE := E0.out
  rw [if_neg (by simp)] at hE
  have HE := Lib.hid hE
  clear hE E0
  go_enter Tryz.func17, Tryz.ntmps17
  go_wp2_with fail
  rw [← hW1]
  clear hW1 c0 c1 c2 c3 c4 c5
  refine (H1.out _ K0).mono ?_
  rintro e w3 ⟨rfl, K1⟩
  have hb3 := HB.out.keep K1
  replace K1 := K0.trans K1
  obtain ⟨c0, c1, c2, c3, c4, c5⟩ := hb3.conj
  go_wp2_with fail
  clear c0 c1 c2 c3 c4 c5
  refine (H2.out _).mono ?_
  rintro e w4 ⟨v4, rfl, hO⟩
  obtain ⟨a4, d4, rfl, hR⟩ := hO.rd
  have hb4 := hb3.keep hO.2
  have K2 := K1.trans hO.2
  have sal := hR.small
  have HR := Lib.hid hR; have HB4 := Lib.hid hb4
  clear hO hR hb4 hb3 HB
  go_wp2_with fail
  go_loopw [7, 9] (fun u v wr => ∃ i : Nat, i ≤ al.length ∧ v = .int .i64 i ∧ Own 27 1 w4 wr u ((al.take i).filter acc).length (sl ((al.take i).filter acc))) (fun _ v _ => al.length - (intOf v).toNat)
  case atStart => exact ⟨0, Nat.zero_le _, rfl, Own.nil _ _ (Keeps.refl _)⟩
  case round =>
    obtain ⟨i, hi, rfl, hO⟩ := hrel
    obtain ⟨a2, c2, rfl, hRa⟩ := hO.rd
    by_cases hlt : i < al.length
    · have K3 := hO.2
      have r0 := cell_regrown ((HR.out.keep K3).at hlt)
      obtain ⟨d0, d1, d2, d3, d4', d5⟩ := (HB4.out.keep K3).conj
      have r2 := cell_regrown d0; have r3 := cell_regrown d1; have r4 := cell_regrown d2; have r5 := cell_regrown d3; have r6 := cell_regrown d4'; have r7 := cell_regrown d5
      have hs := HR.out.isSome (by omega)
      have hst := filter_snoc acc al i hlt
      have hle := filter_take_le acc al i
      have hcx := fun d os => Calls.regrown_of (H3.out (Sort.grow (redrawn wr d) os) ((K2.trans K3).trans (grow_keeps d os)) (at_ al i))
      have HO := Lib.hid hO
      clear hO hRa d0 d1 d2 d3 d4' d5
      have hcell := (HR.out.keep K3).at hlt
      generalize at_ al i = x at *
      have HCELL := Lib.hid (fun (W : World) (k : Keeps wr W) => k.cell hcell)
      clear hcell
      cases hq : acc x
      · rw [hq] at hst hcx
        rw [if_neg (by simp), List.append_nil] at hst
        have HCX := Lib.hid hcx; have HS := Lib.hid hst
        clear hcx hst hq
        go_wp2_with fail
        refine wp_region_quiet_below (by kernel_rfl) (by kernel_rfl) ?_
        repeat (first | go_big_quiet_step (exact HCX.out _ _) | quiet_step (exact HCX.out _ _))
        refine wpQuiet_nil ?_
        intro _ hw'
        obtain ⟨⟨dq, osq⟩, hw''⟩ := hw'
        subst hw''
        have KF := grow_keeps (w := wr) dq osq
        clear r0 r2 r3 r4 r5 r6 r7
        generalize Sort.grow (redrawn wr dq) osq = wz at *
        go_wp2_with fail
        go_roundw
        case rel => exact ⟨i + 1, by omega, by go_num, by rw [HS.out]; exact HO.out.keep KF⟩
        case measure => simp [intOf]; omega
      · rw [hq] at hst hcx
        rw [if_pos rfl] at hst
        have HCX := Lib.hid hcx; have HS := Lib.hid hst
        clear hcx hst hq
        go_wp2_with fail
        refine wp_region_quiet_below (by kernel_rfl) (by kernel_rfl) ?_
        repeat (first | go_big_quiet_step (exact HCX.out _ _) | quiet_step (exact HCX.out _ _))
        refine wpQuiet_nil ?_
        intro _ hw'
        obtain ⟨⟨dq, osq⟩, hw''⟩ := hw'
        subst hw''
        have KF := grow_keeps (w := wr) dq osq
        clear r0 r2 r3 r4 r5 r6 r7
        generalize Sort.grow (redrawn wr dq) osq = wz at *
        have hcell := HCELL.out wz KF
        have hOz := HO.out.keep KF
        have HOZ := Lib.hid hOz
        clear hOz
        go_wp2_with (at_builtin; refine wp_app tyS rfl _ _ rfl (HOZ.out.alloc _) rfl rfl (rd_new 27 1 _ [.int .u16 (sv x)] 1 (by decide) rfl) (sl_oneCell [x]) (by omega) ?_)
        intro v5 w5 hO5 hg5
        clear hg5 hcell
        go_wp2_with fail
        go_roundw
        case rel => exact ⟨i + 1, by omega, by go_num, by rw [HS.out]; exact hO5.snoc⟩
        case measure => simp [intOf]; omega
    · have htk : al.take i = al := List.take_of_length_le (by omega)
      rw [htk] at hO hRa
      have hle := filter_take_le acc al al.length
      rw [List.take_length] at hle
      have K3 := hO.2
      have hcall := H4.out a2 _ c2 (al.filter acc) wr hRa (by omega)
      rw [htk] 
      have HC := Lib.hid hcall
      clear hcall hO hRa htk
      go_wp2_with fail
      refine HC.out.mono ?_
      rintro e w6 ⟨v6, rfl, hO6⟩
      go_wp2_with fail
      go_ret2
      rw [HE.out]
      exact ⟨_, rfl, hO6.since (K2.trans K3)⟩
end Go.Proofs.YtkoohobpbopnnaaGreatDoor
