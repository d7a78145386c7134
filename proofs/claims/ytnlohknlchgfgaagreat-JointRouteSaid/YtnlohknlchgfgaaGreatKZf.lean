/- Texts joined into one (wip/bin/pack.py): RJ29c, Eq29. -/
import Derived.Test.YtnlohknlchgfgaaGreatKZe
import Derived.BigQuiet
/- The reference's Of (layer 29); printed by gen/rof29.py. -/
namespace Go.Proofs.YtnlohknlchgfgaaGreat
open Go.RowKit Go.Lib Go.Shelf

set_option maxRecDepth 20000 in
set_option maxHeartbeats 8000000 in
theorem rof_any (x y : CA) (w : World) (hx : RdG w x) (hy : RdG w y) :
    Calls Tryz.prog 10 #[vg x, vg y] w fun e w' => RetOf w (ofC x.c y.c) (ofE x.c y.c) e w' := by
  obtain ⟨hbx, hby⟩ := box2 w x y
  have KZ := (Keeps.refl ((w.alloc (.cells #[.string x.c.nm, .int .i64 x.c.kd, .int .u16 (sv x.c.M), .slice x.ar x.c.R.length x.cr, .slice x.aw x.c.Q.length x.cw, .slice x.af x.c.F.length x.cf] 32)).alloc (.cells #[.string y.c.nm, .int .i64 y.c.kd, .int .u16 (sv y.c.M), .slice y.ar y.c.R.length y.cr, .slice y.aw y.c.Q.length y.cw, .slice y.af y.c.F.length y.cf] 32))).alloc (.cells zG 32)
  replace hbx := hbx.keep KZ
  replace hby := hby.keep KZ
  have hbr := box3 w x y zG
  have K2 := (((Keeps.refl w).alloc (.cells #[.string x.c.nm, .int .i64 x.c.kd, .int .u16 (sv x.c.M), .slice x.ar x.c.R.length x.cr, .slice x.aw x.c.Q.length x.cw, .slice x.af x.c.F.length x.cf] 32)).alloc (.cells #[.string y.c.nm, .int .i64 y.c.kd, .int .u16 (sv y.c.M), .slice y.ar y.c.R.length y.cr, .slice y.aw y.c.Q.length y.cw, .slice y.af y.c.F.length y.cf] 32)).alloc (.cells zG 32)
  have hv2 := rboth29_any x y _ (hx.keep K2) (hy.keep K2)
  have hbig : w.heap.size ≤ w.heap.size + 1 + 1 := by omega
  obtain ⟨c0, c1, c2, c3, c4, c5⟩ := hbx.c6
  obtain ⟨d0, d1, d2, d3, d4, d5⟩ := hby.c6
  rw [vld2] at hv2
  unfold RetOf
  unfold vg at *
  by_cases hv0 : cvf x.c = 0 ∧ cvf y.c = 0
  · obtain ⟨h1, h2⟩ := hv0
    rw [if_neg (by simp [h1]), if_neg (by simp [h2])] at hv2
    have hka := (cv_parts (cvf_cv h1).2).1
    have hkb := (cv_parts (cvf_cv h2).2).1
    have hr := fun W (k : Keeps w W) => rAnd_any x.ar _ x.cr x.c.R y.ar _ y.cr y.c.R W (hx.keep k).r (hy.keep k).r
    have hq := fun W (k : Keeps w W) => rAnd_any x.aw _ x.cw x.c.Q y.aw _ y.cw y.c.Q W (hx.keep k).q (hy.keep k).q
    have hf := fun W (k : Keeps w W) => rfaults_any x y W (hx.keep k) (hy.keep k)
    unfold vg at hf
    have e0 : ofE x.c y.c = if (andS x.c.R y.c.R).2 ≠ 0 then (andS x.c.R y.c.R).2 else if (andS x.c.Q y.c.Q).2 ≠ 0 then (andS x.c.Q y.c.Q).2 else nmzE (jnL x.c y.c) := by
      unfold ofE; rw [if_neg (by simp [h1]), if_neg (by simp [h2])]
    have e1 : jfltE x.c y.c = nmzE (jnL x.c y.c) := by unfold jfltE; rw [if_neg (by simp [h1]), if_neg (by simp [h2])]
    have e2 : jfltL x.c y.c = nmzL (jnL x.c y.c) := by
      unfold jfltL nmzL
      rw [e1]
      by_cases h0 : nmzE (jnL x.c y.c) = 0
      · rw [if_neg (by simp [h0])]
      · rw [if_pos h0, if_pos h0]
    rw [e1, e2] at hf
    have hc : ofC x.c y.c = if ofE x.c y.c ≠ 0 then cf00 else ⟨jNm, maxI x.c.kd y.c.kd, x.c.M ||| y.c.M, (andS x.c.R y.c.R).1, (andS x.c.Q y.c.Q).1, nmzL (jnL x.c y.c)⟩ := rfl
    have hm : (maxI x.c.kd y.c.kd = 1 ∧ x.c.kd = 1 ∧ y.c.kd = 1) ∨ (maxI x.c.kd y.c.kd = 2 ∧ x.c.kd = 2) ∨ (maxI x.c.kd y.c.kd = 2 ∧ x.c.kd = 1 ∧ y.c.kd = 2) := by
      unfold maxI
      rcases hka with h1 | h1 <;> rcases hkb with h2 | h2 <;> rw [h1, h2] <;> simp
    generalize nmzE (jnL x.c y.c) = ef at *
    generalize nmzL (jnL x.c y.c) = lf at *
    generalize andS x.c.R y.c.R = pr at *
    generalize andS x.c.Q y.c.Q = pq at *
    obtain ⟨lr, er⟩ := pr
    obtain ⟨lq, eq⟩ := pq
    dsimp only at *
    generalize ofE x.c y.c = eo at *
    generalize ofC x.c y.c = co at *
    have HV := Lib.hid hv2; have HK2 := Lib.hid K2; have HBR := Lib.hid hbr; have HBIG := Lib.hid hbig; have HBX := Lib.hid hbx; have HBY := Lib.hid hby
    have HR := Lib.hid hr; have HQ := Lib.hid hq; have HF := Lib.hid hf; have HE := Lib.hid e0; have HC := Lib.hid hc; have HM := Lib.hid hm
    clear hv2 hr hq hf e0 e1 e2 hc hbx hby hbr K2 KZ hx hy h1 h2 hbig hka hkb hm
    go_enter Tryz.func10, Tryz.ntmps10
    go_wp2_with fail
    refine HV.out.mono ?_
    rintro e w1 ⟨rfl, K3⟩
    have bx := HBX.out.keep K3
    have by_ := HBY.out.keep K3
    have br := HBR.out.keep K3
    have KK := HK2.out.trans K3
    clear K3 HBR HK2 HBX HBY HV c0 c1 c2 c3 c4 c5 d0 d1 d2 d3 d4 d5
    have hlt := br.lt
    have hno : w.heap.size + 1 + 1 < w1.heap.size := hlt
    obtain ⟨c0, c1, c2, c3, c4, c5⟩ := bx.c6
    obtain ⟨d0, d1, d2, d3, d4, d5⟩ := by_.c6
    have BXw := Lib.hid bx; have BYw := Lib.hid by_; have BRw := Lib.hid br; have KKw := Lib.hid KK
    have KO := (Keeps.refl w1).alloc (.cells #[.string ⟨#[106, 111, 105, 110, 116]⟩, .int .i64 1, .int .u16 (sv (x.c.M ||| y.c.M)), .slice none 0 0, .slice none 0 0, .slice none 0 0] 32)
    have ho := Blk.new w1 32 #[.string ⟨#[106, 111, 105, 110, 116]⟩, .int .i64 1, .int .u16 (sv (x.c.M ||| y.c.M)), .slice none 0 0, .slice none 0 0, .slice none 0 0]
    replace bx := bx.keep KO
    replace by_ := by_.keep KO
    replace br := br.keep KO
    replace KK := KK.trans KO
    have hn0 : w.heap.size ≠ w1.heap.size := by omega
    have hn1 : w.heap.size + 1 ≠ w1.heap.size := by omega
    have hn2 : w.heap.size + 1 + 1 ≠ w1.heap.size := by omega
    have hbo : w.heap.size ≤ w1.heap.size := by omega
    have HN := Lib.hid (And.intro hn0 (And.intro hn1 (And.intro hn2 hbo)))
    clear hn0 hn1 hn2 hbo hno hlt KO
    have BX4 := Lib.hid bx; have BY4 := Lib.hid by_; have BR4 := Lib.hid br; have HO4 := Lib.hid ho; have KK4 := Lib.hid KK
    clear bx by_ br ho KK
    obtain ⟨p0, p1, p2, p3, p4, p5⟩ := BX4.out.c6
    obtain ⟨q0, q1, q2, q3, q4, q5⟩ := BY4.out.c6
    rcases HM.out with ⟨hmk, hka, hkb⟩ | ⟨hmk, hka⟩ | ⟨hmk, hka, hkb⟩
    · have k1 : (x.c.kd == 2) = false := by rw [hka]; decide
      have k2 : (y.c.kd == 2) = false := by rw [hkb]; decide
      clear hka hkb
      have HKD := Lib.hid hmk
      clear hmk HM
      go_wp2_with fail
      clear c0 c1 c2 c3 c4 c5 d0 d1 d2 d3 d4 d5 p0 p1 p2 p3 p4 p5 q0 q1 q2 q3 q4 q5
      have bx := BX4.out; have by_ := BY4.out; have br := BR4.out; have ho := HO4.out; have KK := KK4.out
      clear BX4 BY4 BR4 HO4 KK4 BXw BYw BRw KKw
      generalize hW4 : w1.alloc (.cells #[.string ⟨#[106, 111, 105, 110, 116]⟩, .int .i64 1, .int .u16 (sv (x.c.M ||| y.c.M)), .slice none 0 0, .slice none 0 0, .slice none 0 0] 32) = W4 at *
      generalize w1.heap.size = BO at *
      clear hW4
      refine (HR.out _ KK).mono ?_
      rintro e w5 ⟨v0, rfl, hO0⟩
      have KS := hO0.2
      have hq0 := hO0.row0
      obtain ⟨a0, cc0, rfl, _⟩ := hO0.rd
      clear hO0
      replace bx := bx.keep KS; replace by_ := by_.keep KS; replace br := br.keep KS; replace ho := ho.keep KS; replace KK := KK.trans KS
      clear KS
      by_cases hz : er = 0
      · subst hz
        obtain ⟨c0, c1, c2, c3, c4, c5⟩ := bx.c6
        obtain ⟨d0, d1, d2, d3, d4, d5⟩ := by_.c6
        go_wp2_with fail
        clear c0 c1 c2 c3 c4 c5 d0 d1 d2 d3 d4 d5
        refine (HQ.out _ KK).mono ?_
        rintro e w6 ⟨v1, rfl, hO1⟩
        have KS := hO1.2
        have hq1 := hO1.row0
        obtain ⟨a1, cc1, rfl, _⟩ := hO1.rd
        clear hO1
        replace bx := bx.keep KS; replace by_ := by_.keep KS; replace br := br.keep KS; replace ho := ho.keep KS; replace KK := KK.trans KS
        replace hq0 := hq0.keep KS
        clear KS
        by_cases hz : eq = 0
        · subst hz
          obtain ⟨c0, c1, c2, c3, c4, c5⟩ := bx.c6
          obtain ⟨d0, d1, d2, d3, d4, d5⟩ := by_.c6
          go_wp2_with fail
          clear c0 c1 c2 c3 c4 c5 d0 d1 d2 d3 d4 d5
          refine (HF.out _ KK).mono ?_
          rintro e w7 ⟨v2, rfl, hO2⟩
          have KS := hO2.2
          have hq2 := hO2.row0
          obtain ⟨a2, cc2, rfl, _⟩ := hO2.rd
          clear hO2
          replace bx := bx.keep KS; replace by_ := by_.keep KS; replace br := br.keep KS; replace ho := ho.keep KS; replace KK := KK.trans KS
          replace hq0 := hq0.keep KS
          replace hq1 := hq1.keep KS
          clear KS
          by_cases hz : ef = 0
          · subst hz
            have hkd : maxI x.c.kd y.c.kd = 1 := HKD.out
            obtain ⟨p0, p1, p2, p3, p4, p5⟩ := ho.c6
            obtain ⟨q0, q1, q2, q3, q4, q5⟩ := ho.f6
            replace br := br.setOther HN.out.2.2.1 3 (.slice a0 lr.length cc0)
            replace hq0 := hq0.set ho (by decide) 3 (.slice a0 lr.length cc0)
            replace hq1 := hq1.set ho (by decide) 3 (.slice a0 lr.length cc0)
            replace hq2 := hq2.set ho (by decide) 3 (.slice a0 lr.length cc0)
            replace ho := ho.set 3 (.slice a0 lr.length cc0)
            replace KK := keeps_set KK HN.out.2.2.2 3 (.slice a0 lr.length cc0)
            replace br := br.setOther HN.out.2.2.1 4 (.slice a1 lq.length cc1)
            replace hq0 := hq0.set ho (by decide) 4 (.slice a1 lq.length cc1)
            replace hq1 := hq1.set ho (by decide) 4 (.slice a1 lq.length cc1)
            replace hq2 := hq2.set ho (by decide) 4 (.slice a1 lq.length cc1)
            replace ho := ho.set 4 (.slice a1 lq.length cc1)
            replace KK := keeps_set KK HN.out.2.2.2 4 (.slice a1 lq.length cc1)
            replace br := br.setOther HN.out.2.2.1 5 (.slice a2 lf.length cc2)
            replace hq0 := hq0.set ho (by decide) 5 (.slice a2 lf.length cc2)
            replace hq1 := hq1.set ho (by decide) 5 (.slice a2 lf.length cc2)
            replace hq2 := hq2.set ho (by decide) 5 (.slice a2 lf.length cc2)
            replace ho := ho.set 5 (.slice a2 lf.length cc2)
            replace KK := keeps_set KK HN.out.2.2.2 5 (.slice a2 lf.length cc2)
            change Blk _ BO _ #[.string ⟨#[106, 111, 105, 110, 116]⟩, .int .i64 1, .int .u16 (sv (x.c.M ||| y.c.M)), .slice a0 lr.length cc0, .slice a1 lq.length cc1, .slice a2 lf.length cc2] at ho
            obtain ⟨o10, o11, o12, o13, o14, o15⟩ := ho.c6
            have heo : eo = 0 := by rw [HE.out, if_neg (by simp), if_neg (by simp)]
            have hco := HC.out
            rw [heo, if_neg (by simp), hkd] at hco
            have hr2 := br.set6 (.string ⟨#[106, 111, 105, 110, 116]⟩) (.int .i64 1) (.int .u16 (sv (x.c.M ||| y.c.M))) (.slice a0 lr.length cc0) (.slice a1 lq.length cc1) (.slice a2 lf.length cc2)
            have ks := keeps_set6 KK HBIG.out (.string ⟨#[106, 111, 105, 110, 116]⟩) (.int .i64 1) (.int .u16 (sv (x.c.M ||| y.c.M))) (.slice a0 lr.length cc0) (.slice a1 lq.length cc1) (.slice a2 lf.length cc2)
            have e0 := hq0.set6 br (by decide) (.string ⟨#[106, 111, 105, 110, 116]⟩) (.int .i64 1) (.int .u16 (sv (x.c.M ||| y.c.M))) (.slice a0 lr.length cc0) (.slice a1 lq.length cc1) (.slice a2 lf.length cc2)
            have e1 := hq1.set6 br (by decide) (.string ⟨#[106, 111, 105, 110, 116]⟩) (.int .i64 1) (.int .u16 (sv (x.c.M ||| y.c.M))) (.slice a0 lr.length cc0) (.slice a1 lq.length cc1) (.slice a2 lf.length cc2)
            have e2 := hq2.set6 br (by decide) (.string ⟨#[106, 111, 105, 110, 116]⟩) (.int .i64 1) (.int .u16 (sv (x.c.M ||| y.c.M))) (.slice a0 lr.length cc0) (.slice a1 lq.length cc1) (.slice a2 lf.length cc2)
            obtain ⟨r0, r1, r2, r3, r4, r5⟩ := br.c6
            obtain ⟨z0, z1, z2, z3, z4, z5⟩ := br.f6
            have HR2 := Lib.hid hr2; have HKS := Lib.hid ks; have HEO := Lib.hid heo; have HCO := Lib.hid hco; have HE0 := Lib.hid e0; have HE1 := Lib.hid e1; have HE2 := Lib.hid e2
            clear hr2 ks br bx by_ ho KK heo hco e0 e1 e2 hq0 hq1 hq2 hkd
            go_wp2_with fail
            refine bodyPost_ret (resCfg (z := ⟨⟨jNm, 1, x.c.M ||| y.c.M, lr, lq, lf⟩, a0, cc0, a1, cc1, a2, cc2⟩) rfl HR2.out rfl rfl) rfl ?_
            exact ⟨⟨⟨jNm, 1, x.c.M ||| y.c.M, lr, lq, lf⟩, a0, cc0, a1, cc1, a2, cc2⟩, by rw [HEO.out]; rfl, by rw [HCO.out], ⟨HE0.out, HE1.out, HE2.out⟩, HKS.out⟩
          · have hb : (ef != 0) = true := by simpa using hz
            have heo : eo = ef := by rw [HE.out]; rw [if_neg (by simp), if_neg (by simp)]
            have hco : co = cf00 := by rw [HC.out, heo, if_pos hz]
            have HEO := Lib.hid heo; have HCO := Lib.hid hco
            clear heo hco hz
            have hr2 := br.set6 (.string ⟨#[]⟩) (.int .i64 0) (.int .u16 0) (.slice none 0 0) (.slice none 0 0) (.slice none 0 0)
            have ks := keeps_set6 KK HBIG.out (.string ⟨#[]⟩) (.int .i64 0) (.int .u16 0) (.slice none 0 0) (.slice none 0 0) (.slice none 0 0)
            obtain ⟨r0, r1, r2, r3, r4, r5⟩ := br.c6
            obtain ⟨z0, z1, z2, z3, z4, z5⟩ := br.f6
            have HR2 := Lib.hid hr2; have HKS := Lib.hid ks
            clear hr2 ks br bx by_ ho KK
            go_wp2_with fail
            refine bodyPost_ret (resCfg (z := ca00) rfl HR2.out rfl rfl) rfl ?_
            exact ⟨ca00, by rw [HEO.out]; rfl, by rw [HCO.out]; rfl, ro00 _, HKS.out⟩
        · have hb : (eq != 0) = true := by simpa using hz
          have heo : eo = eq := by rw [HE.out]; rw [if_neg (by simp), if_pos hz]
          have hco : co = cf00 := by rw [HC.out, heo, if_pos hz]
          have HEO := Lib.hid heo; have HCO := Lib.hid hco
          clear heo hco hz
          have hr2 := br.set6 (.string ⟨#[]⟩) (.int .i64 0) (.int .u16 0) (.slice none 0 0) (.slice none 0 0) (.slice none 0 0)
          have ks := keeps_set6 KK HBIG.out (.string ⟨#[]⟩) (.int .i64 0) (.int .u16 0) (.slice none 0 0) (.slice none 0 0) (.slice none 0 0)
          obtain ⟨r0, r1, r2, r3, r4, r5⟩ := br.c6
          obtain ⟨z0, z1, z2, z3, z4, z5⟩ := br.f6
          have HR2 := Lib.hid hr2; have HKS := Lib.hid ks
          clear hr2 ks br bx by_ ho KK
          go_wp2_with fail
          refine bodyPost_ret (resCfg (z := ca00) rfl HR2.out rfl rfl) rfl ?_
          exact ⟨ca00, by rw [HEO.out]; rfl, by rw [HCO.out]; rfl, ro00 _, HKS.out⟩
      · have hb : (er != 0) = true := by simpa using hz
        have heo : eo = er := by rw [HE.out]; rw [if_pos hz]
        have hco : co = cf00 := by rw [HC.out, heo, if_pos hz]
        have HEO := Lib.hid heo; have HCO := Lib.hid hco
        clear heo hco hz
        have hr2 := br.set6 (.string ⟨#[]⟩) (.int .i64 0) (.int .u16 0) (.slice none 0 0) (.slice none 0 0) (.slice none 0 0)
        have ks := keeps_set6 KK HBIG.out (.string ⟨#[]⟩) (.int .i64 0) (.int .u16 0) (.slice none 0 0) (.slice none 0 0) (.slice none 0 0)
        obtain ⟨r0, r1, r2, r3, r4, r5⟩ := br.c6
        obtain ⟨z0, z1, z2, z3, z4, z5⟩ := br.f6
        have HR2 := Lib.hid hr2; have HKS := Lib.hid ks
        clear hr2 ks br bx by_ ho KK
        go_wp2_with fail
        refine bodyPost_ret (resCfg (z := ca00) rfl HR2.out rfl rfl) rfl ?_
        exact ⟨ca00, by rw [HEO.out]; rfl, by rw [HCO.out]; rfl, ro00 _, HKS.out⟩
    · have k1 : (x.c.kd == 2) = true := by rw [hka]; decide
      clear hka
      have HKD := Lib.hid hmk
      clear hmk HM
      have s1 : (w1.alloc (.cells #[.string ⟨#[106, 111, 105, 110, 116]⟩, .int .i64 1, .int .u16 (sv (x.c.M ||| y.c.M)), .slice none 0 0, .slice none 0 0, .slice none 0 0] 32)).cell? ⟨w1.heap.size, 1, none⟩ = some (.int .i64 1) := HO4.out.cell 1 rfl
      have s2 := HO4.out.frozen 1
      have KO2 := (Keeps.refl w1).alloc (.cells #[.string ⟨#[106, 111, 105, 110, 116]⟩, .int .i64 2, .int .u16 (sv (x.c.M ||| y.c.M)), .slice none 0 0, .slice none 0 0, .slice none 0 0] 32)
      obtain ⟨m0, m1, m2, m3, m4, m5⟩ := (BXw.out.keep KO2).c6
      obtain ⟨n0, n1, n2, n3, n4, n5⟩ := (BYw.out.keep KO2).c6
      go_wp2_with fail
      clear c0 c1 c2 c3 c4 c5 d0 d1 d2 d3 d4 d5 p0 p1 p2 p3 p4 p5 q0 q1 q2 q3 q4 q5 s1 s2 m0 m1 m2 m3 m4 m5 n0 n1 n2 n3 n4 n5
      have bx := BXw.out.keep KO2; have by_ := BYw.out.keep KO2; have br := BRw.out.keep KO2; have ho := Blk.new w1 32 #[.string ⟨#[106, 111, 105, 110, 116]⟩, .int .i64 2, .int .u16 (sv (x.c.M ||| y.c.M)), .slice none 0 0, .slice none 0 0, .slice none 0 0]; have KK := KKw.out.trans KO2
      clear BX4 BY4 BR4 HO4 KK4 BXw BYw BRw KKw KO2
      generalize hW4 : w1.alloc (.cells #[.string ⟨#[106, 111, 105, 110, 116]⟩, .int .i64 2, .int .u16 (sv (x.c.M ||| y.c.M)), .slice none 0 0, .slice none 0 0, .slice none 0 0] 32) = W4 at *
      generalize w1.heap.size = BO at *
      clear hW4
      refine (HR.out _ KK).mono ?_
      rintro e w5 ⟨v0, rfl, hO0⟩
      have KS := hO0.2
      have hq0 := hO0.row0
      obtain ⟨a0, cc0, rfl, _⟩ := hO0.rd
      clear hO0
      replace bx := bx.keep KS; replace by_ := by_.keep KS; replace br := br.keep KS; replace ho := ho.keep KS; replace KK := KK.trans KS
      clear KS
      by_cases hz : er = 0
      · subst hz
        obtain ⟨c0, c1, c2, c3, c4, c5⟩ := bx.c6
        obtain ⟨d0, d1, d2, d3, d4, d5⟩ := by_.c6
        go_wp2_with fail
        clear c0 c1 c2 c3 c4 c5 d0 d1 d2 d3 d4 d5
        refine (HQ.out _ KK).mono ?_
        rintro e w6 ⟨v1, rfl, hO1⟩
        have KS := hO1.2
        have hq1 := hO1.row0
        obtain ⟨a1, cc1, rfl, _⟩ := hO1.rd
        clear hO1
        replace bx := bx.keep KS; replace by_ := by_.keep KS; replace br := br.keep KS; replace ho := ho.keep KS; replace KK := KK.trans KS
        replace hq0 := hq0.keep KS
        clear KS
        by_cases hz : eq = 0
        · subst hz
          obtain ⟨c0, c1, c2, c3, c4, c5⟩ := bx.c6
          obtain ⟨d0, d1, d2, d3, d4, d5⟩ := by_.c6
          go_wp2_with fail
          clear c0 c1 c2 c3 c4 c5 d0 d1 d2 d3 d4 d5
          refine (HF.out _ KK).mono ?_
          rintro e w7 ⟨v2, rfl, hO2⟩
          have KS := hO2.2
          have hq2 := hO2.row0
          obtain ⟨a2, cc2, rfl, _⟩ := hO2.rd
          clear hO2
          replace bx := bx.keep KS; replace by_ := by_.keep KS; replace br := br.keep KS; replace ho := ho.keep KS; replace KK := KK.trans KS
          replace hq0 := hq0.keep KS
          replace hq1 := hq1.keep KS
          clear KS
          by_cases hz : ef = 0
          · subst hz
            have hkd : maxI x.c.kd y.c.kd = 2 := HKD.out
            obtain ⟨p0, p1, p2, p3, p4, p5⟩ := ho.c6
            obtain ⟨q0, q1, q2, q3, q4, q5⟩ := ho.f6
            replace br := br.setOther HN.out.2.2.1 3 (.slice a0 lr.length cc0)
            replace hq0 := hq0.set ho (by decide) 3 (.slice a0 lr.length cc0)
            replace hq1 := hq1.set ho (by decide) 3 (.slice a0 lr.length cc0)
            replace hq2 := hq2.set ho (by decide) 3 (.slice a0 lr.length cc0)
            replace ho := ho.set 3 (.slice a0 lr.length cc0)
            replace KK := keeps_set KK HN.out.2.2.2 3 (.slice a0 lr.length cc0)
            replace br := br.setOther HN.out.2.2.1 4 (.slice a1 lq.length cc1)
            replace hq0 := hq0.set ho (by decide) 4 (.slice a1 lq.length cc1)
            replace hq1 := hq1.set ho (by decide) 4 (.slice a1 lq.length cc1)
            replace hq2 := hq2.set ho (by decide) 4 (.slice a1 lq.length cc1)
            replace ho := ho.set 4 (.slice a1 lq.length cc1)
            replace KK := keeps_set KK HN.out.2.2.2 4 (.slice a1 lq.length cc1)
            replace br := br.setOther HN.out.2.2.1 5 (.slice a2 lf.length cc2)
            replace hq0 := hq0.set ho (by decide) 5 (.slice a2 lf.length cc2)
            replace hq1 := hq1.set ho (by decide) 5 (.slice a2 lf.length cc2)
            replace hq2 := hq2.set ho (by decide) 5 (.slice a2 lf.length cc2)
            replace ho := ho.set 5 (.slice a2 lf.length cc2)
            replace KK := keeps_set KK HN.out.2.2.2 5 (.slice a2 lf.length cc2)
            change Blk _ BO _ #[.string ⟨#[106, 111, 105, 110, 116]⟩, .int .i64 2, .int .u16 (sv (x.c.M ||| y.c.M)), .slice a0 lr.length cc0, .slice a1 lq.length cc1, .slice a2 lf.length cc2] at ho
            obtain ⟨o10, o11, o12, o13, o14, o15⟩ := ho.c6
            have heo : eo = 0 := by rw [HE.out, if_neg (by simp), if_neg (by simp)]
            have hco := HC.out
            rw [heo, if_neg (by simp), hkd] at hco
            have hr2 := br.set6 (.string ⟨#[106, 111, 105, 110, 116]⟩) (.int .i64 2) (.int .u16 (sv (x.c.M ||| y.c.M))) (.slice a0 lr.length cc0) (.slice a1 lq.length cc1) (.slice a2 lf.length cc2)
            have ks := keeps_set6 KK HBIG.out (.string ⟨#[106, 111, 105, 110, 116]⟩) (.int .i64 2) (.int .u16 (sv (x.c.M ||| y.c.M))) (.slice a0 lr.length cc0) (.slice a1 lq.length cc1) (.slice a2 lf.length cc2)
            have e0 := hq0.set6 br (by decide) (.string ⟨#[106, 111, 105, 110, 116]⟩) (.int .i64 2) (.int .u16 (sv (x.c.M ||| y.c.M))) (.slice a0 lr.length cc0) (.slice a1 lq.length cc1) (.slice a2 lf.length cc2)
            have e1 := hq1.set6 br (by decide) (.string ⟨#[106, 111, 105, 110, 116]⟩) (.int .i64 2) (.int .u16 (sv (x.c.M ||| y.c.M))) (.slice a0 lr.length cc0) (.slice a1 lq.length cc1) (.slice a2 lf.length cc2)
            have e2 := hq2.set6 br (by decide) (.string ⟨#[106, 111, 105, 110, 116]⟩) (.int .i64 2) (.int .u16 (sv (x.c.M ||| y.c.M))) (.slice a0 lr.length cc0) (.slice a1 lq.length cc1) (.slice a2 lf.length cc2)
            obtain ⟨r0, r1, r2, r3, r4, r5⟩ := br.c6
            obtain ⟨z0, z1, z2, z3, z4, z5⟩ := br.f6
            have HR2 := Lib.hid hr2; have HKS := Lib.hid ks; have HEO := Lib.hid heo; have HCO := Lib.hid hco; have HE0 := Lib.hid e0; have HE1 := Lib.hid e1; have HE2 := Lib.hid e2
            clear hr2 ks br bx by_ ho KK heo hco e0 e1 e2 hq0 hq1 hq2 hkd
            go_wp2_with fail
            refine bodyPost_ret (resCfg (z := ⟨⟨jNm, 2, x.c.M ||| y.c.M, lr, lq, lf⟩, a0, cc0, a1, cc1, a2, cc2⟩) rfl HR2.out rfl rfl) rfl ?_
            exact ⟨⟨⟨jNm, 2, x.c.M ||| y.c.M, lr, lq, lf⟩, a0, cc0, a1, cc1, a2, cc2⟩, by rw [HEO.out]; rfl, by rw [HCO.out], ⟨HE0.out, HE1.out, HE2.out⟩, HKS.out⟩
          · have hb : (ef != 0) = true := by simpa using hz
            have heo : eo = ef := by rw [HE.out]; rw [if_neg (by simp), if_neg (by simp)]
            have hco : co = cf00 := by rw [HC.out, heo, if_pos hz]
            have HEO := Lib.hid heo; have HCO := Lib.hid hco
            clear heo hco hz
            have hr2 := br.set6 (.string ⟨#[]⟩) (.int .i64 0) (.int .u16 0) (.slice none 0 0) (.slice none 0 0) (.slice none 0 0)
            have ks := keeps_set6 KK HBIG.out (.string ⟨#[]⟩) (.int .i64 0) (.int .u16 0) (.slice none 0 0) (.slice none 0 0) (.slice none 0 0)
            obtain ⟨r0, r1, r2, r3, r4, r5⟩ := br.c6
            obtain ⟨z0, z1, z2, z3, z4, z5⟩ := br.f6
            have HR2 := Lib.hid hr2; have HKS := Lib.hid ks
            clear hr2 ks br bx by_ ho KK
            go_wp2_with fail
            refine bodyPost_ret (resCfg (z := ca00) rfl HR2.out rfl rfl) rfl ?_
            exact ⟨ca00, by rw [HEO.out]; rfl, by rw [HCO.out]; rfl, ro00 _, HKS.out⟩
        · have hb : (eq != 0) = true := by simpa using hz
          have heo : eo = eq := by rw [HE.out]; rw [if_neg (by simp), if_pos hz]
          have hco : co = cf00 := by rw [HC.out, heo, if_pos hz]
          have HEO := Lib.hid heo; have HCO := Lib.hid hco
          clear heo hco hz
          have hr2 := br.set6 (.string ⟨#[]⟩) (.int .i64 0) (.int .u16 0) (.slice none 0 0) (.slice none 0 0) (.slice none 0 0)
          have ks := keeps_set6 KK HBIG.out (.string ⟨#[]⟩) (.int .i64 0) (.int .u16 0) (.slice none 0 0) (.slice none 0 0) (.slice none 0 0)
          obtain ⟨r0, r1, r2, r3, r4, r5⟩ := br.c6
          obtain ⟨z0, z1, z2, z3, z4, z5⟩ := br.f6
          have HR2 := Lib.hid hr2; have HKS := Lib.hid ks
          clear hr2 ks br bx by_ ho KK
          go_wp2_with fail
          refine bodyPost_ret (resCfg (z := ca00) rfl HR2.out rfl rfl) rfl ?_
          exact ⟨ca00, by rw [HEO.out]; rfl, by rw [HCO.out]; rfl, ro00 _, HKS.out⟩
      · have hb : (er != 0) = true := by simpa using hz
        have heo : eo = er := by rw [HE.out]; rw [if_pos hz]
        have hco : co = cf00 := by rw [HC.out, heo, if_pos hz]
        have HEO := Lib.hid heo; have HCO := Lib.hid hco
        clear heo hco hz
        have hr2 := br.set6 (.string ⟨#[]⟩) (.int .i64 0) (.int .u16 0) (.slice none 0 0) (.slice none 0 0) (.slice none 0 0)
        have ks := keeps_set6 KK HBIG.out (.string ⟨#[]⟩) (.int .i64 0) (.int .u16 0) (.slice none 0 0) (.slice none 0 0) (.slice none 0 0)
        obtain ⟨r0, r1, r2, r3, r4, r5⟩ := br.c6
        obtain ⟨z0, z1, z2, z3, z4, z5⟩ := br.f6
        have HR2 := Lib.hid hr2; have HKS := Lib.hid ks
        clear hr2 ks br bx by_ ho KK
        go_wp2_with fail
        refine bodyPost_ret (resCfg (z := ca00) rfl HR2.out rfl rfl) rfl ?_
        exact ⟨ca00, by rw [HEO.out]; rfl, by rw [HCO.out]; rfl, ro00 _, HKS.out⟩
    · have k1 : (x.c.kd == 2) = false := by rw [hka]; decide
      have k2 : (y.c.kd == 2) = true := by rw [hkb]; decide
      clear hka hkb
      have HKD := Lib.hid hmk
      clear hmk HM
      have s1 : (w1.alloc (.cells #[.string ⟨#[106, 111, 105, 110, 116]⟩, .int .i64 1, .int .u16 (sv (x.c.M ||| y.c.M)), .slice none 0 0, .slice none 0 0, .slice none 0 0] 32)).cell? ⟨w1.heap.size, 1, none⟩ = some (.int .i64 1) := HO4.out.cell 1 rfl
      have s2 := HO4.out.frozen 1
      have KO2 := (Keeps.refl w1).alloc (.cells #[.string ⟨#[106, 111, 105, 110, 116]⟩, .int .i64 2, .int .u16 (sv (x.c.M ||| y.c.M)), .slice none 0 0, .slice none 0 0, .slice none 0 0] 32)
      obtain ⟨m0, m1, m2, m3, m4, m5⟩ := (BXw.out.keep KO2).c6
      obtain ⟨n0, n1, n2, n3, n4, n5⟩ := (BYw.out.keep KO2).c6
      go_wp2_with fail
      clear c0 c1 c2 c3 c4 c5 d0 d1 d2 d3 d4 d5 p0 p1 p2 p3 p4 p5 q0 q1 q2 q3 q4 q5 s1 s2 m0 m1 m2 m3 m4 m5 n0 n1 n2 n3 n4 n5
      have bx := BXw.out.keep KO2; have by_ := BYw.out.keep KO2; have br := BRw.out.keep KO2; have ho := Blk.new w1 32 #[.string ⟨#[106, 111, 105, 110, 116]⟩, .int .i64 2, .int .u16 (sv (x.c.M ||| y.c.M)), .slice none 0 0, .slice none 0 0, .slice none 0 0]; have KK := KKw.out.trans KO2
      clear BX4 BY4 BR4 HO4 KK4 BXw BYw BRw KKw KO2
      generalize hW4 : w1.alloc (.cells #[.string ⟨#[106, 111, 105, 110, 116]⟩, .int .i64 2, .int .u16 (sv (x.c.M ||| y.c.M)), .slice none 0 0, .slice none 0 0, .slice none 0 0] 32) = W4 at *
      generalize w1.heap.size = BO at *
      clear hW4
      refine (HR.out _ KK).mono ?_
      rintro e w5 ⟨v0, rfl, hO0⟩
      have KS := hO0.2
      have hq0 := hO0.row0
      obtain ⟨a0, cc0, rfl, _⟩ := hO0.rd
      clear hO0
      replace bx := bx.keep KS; replace by_ := by_.keep KS; replace br := br.keep KS; replace ho := ho.keep KS; replace KK := KK.trans KS
      clear KS
      by_cases hz : er = 0
      · subst hz
        obtain ⟨c0, c1, c2, c3, c4, c5⟩ := bx.c6
        obtain ⟨d0, d1, d2, d3, d4, d5⟩ := by_.c6
        go_wp2_with fail
        clear c0 c1 c2 c3 c4 c5 d0 d1 d2 d3 d4 d5
        refine (HQ.out _ KK).mono ?_
        rintro e w6 ⟨v1, rfl, hO1⟩
        have KS := hO1.2
        have hq1 := hO1.row0
        obtain ⟨a1, cc1, rfl, _⟩ := hO1.rd
        clear hO1
        replace bx := bx.keep KS; replace by_ := by_.keep KS; replace br := br.keep KS; replace ho := ho.keep KS; replace KK := KK.trans KS
        replace hq0 := hq0.keep KS
        clear KS
        by_cases hz : eq = 0
        · subst hz
          obtain ⟨c0, c1, c2, c3, c4, c5⟩ := bx.c6
          obtain ⟨d0, d1, d2, d3, d4, d5⟩ := by_.c6
          go_wp2_with fail
          clear c0 c1 c2 c3 c4 c5 d0 d1 d2 d3 d4 d5
          refine (HF.out _ KK).mono ?_
          rintro e w7 ⟨v2, rfl, hO2⟩
          have KS := hO2.2
          have hq2 := hO2.row0
          obtain ⟨a2, cc2, rfl, _⟩ := hO2.rd
          clear hO2
          replace bx := bx.keep KS; replace by_ := by_.keep KS; replace br := br.keep KS; replace ho := ho.keep KS; replace KK := KK.trans KS
          replace hq0 := hq0.keep KS
          replace hq1 := hq1.keep KS
          clear KS
          by_cases hz : ef = 0
          · subst hz
            have hkd : maxI x.c.kd y.c.kd = 2 := HKD.out
            obtain ⟨p0, p1, p2, p3, p4, p5⟩ := ho.c6
            obtain ⟨q0, q1, q2, q3, q4, q5⟩ := ho.f6
            replace br := br.setOther HN.out.2.2.1 3 (.slice a0 lr.length cc0)
            replace hq0 := hq0.set ho (by decide) 3 (.slice a0 lr.length cc0)
            replace hq1 := hq1.set ho (by decide) 3 (.slice a0 lr.length cc0)
            replace hq2 := hq2.set ho (by decide) 3 (.slice a0 lr.length cc0)
            replace ho := ho.set 3 (.slice a0 lr.length cc0)
            replace KK := keeps_set KK HN.out.2.2.2 3 (.slice a0 lr.length cc0)
            replace br := br.setOther HN.out.2.2.1 4 (.slice a1 lq.length cc1)
            replace hq0 := hq0.set ho (by decide) 4 (.slice a1 lq.length cc1)
            replace hq1 := hq1.set ho (by decide) 4 (.slice a1 lq.length cc1)
            replace hq2 := hq2.set ho (by decide) 4 (.slice a1 lq.length cc1)
            replace ho := ho.set 4 (.slice a1 lq.length cc1)
            replace KK := keeps_set KK HN.out.2.2.2 4 (.slice a1 lq.length cc1)
            replace br := br.setOther HN.out.2.2.1 5 (.slice a2 lf.length cc2)
            replace hq0 := hq0.set ho (by decide) 5 (.slice a2 lf.length cc2)
            replace hq1 := hq1.set ho (by decide) 5 (.slice a2 lf.length cc2)
            replace hq2 := hq2.set ho (by decide) 5 (.slice a2 lf.length cc2)
            replace ho := ho.set 5 (.slice a2 lf.length cc2)
            replace KK := keeps_set KK HN.out.2.2.2 5 (.slice a2 lf.length cc2)
            change Blk _ BO _ #[.string ⟨#[106, 111, 105, 110, 116]⟩, .int .i64 2, .int .u16 (sv (x.c.M ||| y.c.M)), .slice a0 lr.length cc0, .slice a1 lq.length cc1, .slice a2 lf.length cc2] at ho
            obtain ⟨o10, o11, o12, o13, o14, o15⟩ := ho.c6
            have heo : eo = 0 := by rw [HE.out, if_neg (by simp), if_neg (by simp)]
            have hco := HC.out
            rw [heo, if_neg (by simp), hkd] at hco
            have hr2 := br.set6 (.string ⟨#[106, 111, 105, 110, 116]⟩) (.int .i64 2) (.int .u16 (sv (x.c.M ||| y.c.M))) (.slice a0 lr.length cc0) (.slice a1 lq.length cc1) (.slice a2 lf.length cc2)
            have ks := keeps_set6 KK HBIG.out (.string ⟨#[106, 111, 105, 110, 116]⟩) (.int .i64 2) (.int .u16 (sv (x.c.M ||| y.c.M))) (.slice a0 lr.length cc0) (.slice a1 lq.length cc1) (.slice a2 lf.length cc2)
            have e0 := hq0.set6 br (by decide) (.string ⟨#[106, 111, 105, 110, 116]⟩) (.int .i64 2) (.int .u16 (sv (x.c.M ||| y.c.M))) (.slice a0 lr.length cc0) (.slice a1 lq.length cc1) (.slice a2 lf.length cc2)
            have e1 := hq1.set6 br (by decide) (.string ⟨#[106, 111, 105, 110, 116]⟩) (.int .i64 2) (.int .u16 (sv (x.c.M ||| y.c.M))) (.slice a0 lr.length cc0) (.slice a1 lq.length cc1) (.slice a2 lf.length cc2)
            have e2 := hq2.set6 br (by decide) (.string ⟨#[106, 111, 105, 110, 116]⟩) (.int .i64 2) (.int .u16 (sv (x.c.M ||| y.c.M))) (.slice a0 lr.length cc0) (.slice a1 lq.length cc1) (.slice a2 lf.length cc2)
            obtain ⟨r0, r1, r2, r3, r4, r5⟩ := br.c6
            obtain ⟨z0, z1, z2, z3, z4, z5⟩ := br.f6
            have HR2 := Lib.hid hr2; have HKS := Lib.hid ks; have HEO := Lib.hid heo; have HCO := Lib.hid hco; have HE0 := Lib.hid e0; have HE1 := Lib.hid e1; have HE2 := Lib.hid e2
            clear hr2 ks br bx by_ ho KK heo hco e0 e1 e2 hq0 hq1 hq2 hkd
            go_wp2_with fail
            refine bodyPost_ret (resCfg (z := ⟨⟨jNm, 2, x.c.M ||| y.c.M, lr, lq, lf⟩, a0, cc0, a1, cc1, a2, cc2⟩) rfl HR2.out rfl rfl) rfl ?_
            exact ⟨⟨⟨jNm, 2, x.c.M ||| y.c.M, lr, lq, lf⟩, a0, cc0, a1, cc1, a2, cc2⟩, by rw [HEO.out]; rfl, by rw [HCO.out], ⟨HE0.out, HE1.out, HE2.out⟩, HKS.out⟩
          · have hb : (ef != 0) = true := by simpa using hz
            have heo : eo = ef := by rw [HE.out]; rw [if_neg (by simp), if_neg (by simp)]
            have hco : co = cf00 := by rw [HC.out, heo, if_pos hz]
            have HEO := Lib.hid heo; have HCO := Lib.hid hco
            clear heo hco hz
            have hr2 := br.set6 (.string ⟨#[]⟩) (.int .i64 0) (.int .u16 0) (.slice none 0 0) (.slice none 0 0) (.slice none 0 0)
            have ks := keeps_set6 KK HBIG.out (.string ⟨#[]⟩) (.int .i64 0) (.int .u16 0) (.slice none 0 0) (.slice none 0 0) (.slice none 0 0)
            obtain ⟨r0, r1, r2, r3, r4, r5⟩ := br.c6
            obtain ⟨z0, z1, z2, z3, z4, z5⟩ := br.f6
            have HR2 := Lib.hid hr2; have HKS := Lib.hid ks
            clear hr2 ks br bx by_ ho KK
            go_wp2_with fail
            refine bodyPost_ret (resCfg (z := ca00) rfl HR2.out rfl rfl) rfl ?_
            exact ⟨ca00, by rw [HEO.out]; rfl, by rw [HCO.out]; rfl, ro00 _, HKS.out⟩
        · have hb : (eq != 0) = true := by simpa using hz
          have heo : eo = eq := by rw [HE.out]; rw [if_neg (by simp), if_pos hz]
          have hco : co = cf00 := by rw [HC.out, heo, if_pos hz]
          have HEO := Lib.hid heo; have HCO := Lib.hid hco
          clear heo hco hz
          have hr2 := br.set6 (.string ⟨#[]⟩) (.int .i64 0) (.int .u16 0) (.slice none 0 0) (.slice none 0 0) (.slice none 0 0)
          have ks := keeps_set6 KK HBIG.out (.string ⟨#[]⟩) (.int .i64 0) (.int .u16 0) (.slice none 0 0) (.slice none 0 0) (.slice none 0 0)
          obtain ⟨r0, r1, r2, r3, r4, r5⟩ := br.c6
          obtain ⟨z0, z1, z2, z3, z4, z5⟩ := br.f6
          have HR2 := Lib.hid hr2; have HKS := Lib.hid ks
          clear hr2 ks br bx by_ ho KK
          go_wp2_with fail
          refine bodyPost_ret (resCfg (z := ca00) rfl HR2.out rfl rfl) rfl ?_
          exact ⟨ca00, by rw [HEO.out]; rfl, by rw [HCO.out]; rfl, ro00 _, HKS.out⟩
      · have hb : (er != 0) = true := by simpa using hz
        have heo : eo = er := by rw [HE.out]; rw [if_pos hz]
        have hco : co = cf00 := by rw [HC.out, heo, if_pos hz]
        have HEO := Lib.hid heo; have HCO := Lib.hid hco
        clear heo hco hz
        have hr2 := br.set6 (.string ⟨#[]⟩) (.int .i64 0) (.int .u16 0) (.slice none 0 0) (.slice none 0 0) (.slice none 0 0)
        have ks := keeps_set6 KK HBIG.out (.string ⟨#[]⟩) (.int .i64 0) (.int .u16 0) (.slice none 0 0) (.slice none 0 0) (.slice none 0 0)
        obtain ⟨r0, r1, r2, r3, r4, r5⟩ := br.c6
        obtain ⟨z0, z1, z2, z3, z4, z5⟩ := br.f6
        have HR2 := Lib.hid hr2; have HKS := Lib.hid ks
        clear hr2 ks br bx by_ ho KK
        go_wp2_with fail
        refine bodyPost_ret (resCfg (z := ca00) rfl HR2.out rfl rfl) rfl ?_
        exact ⟨ca00, by rw [HEO.out]; rfl, by rw [HCO.out]; rfl, ro00 _, HKS.out⟩
  · obtain ⟨er, her, he0, he1⟩ : ∃ er, er ≠ 0 ∧ (if cvf x.c ≠ 0 then cvf x.c else if cvf y.c ≠ 0 then cvf y.c else 0) = er ∧ ofE x.c y.c = er := by
      by_cases h1 : cvf x.c = 0
      · have h2 : cvf y.c ≠ 0 := fun h2 => hv0 ⟨h1, h2⟩
        exact ⟨cvf y.c, h2, by rw [if_neg (by simp [h1]), if_pos h2], by unfold ofE; rw [if_neg (by simp [h1]), if_pos h2]⟩
      · exact ⟨cvf x.c, h1, if_pos h1, by unfold ofE; rw [if_pos h1]⟩
    have e2 : ofC x.c y.c = cf00 := by unfold ofC; rw [he1, if_pos her]
    rw [he0] at hv2
    rw [he1, e2]
    have hz : (er != 0) = true := by simpa using her
    have HV := Lib.hid hv2; have HK2 := Lib.hid K2; have HBR := Lib.hid hbr; have HBIG := Lib.hid hbig
    clear hv2 he0 he1 e2 hbx hby hbr K2 KZ hx hy hv0 her hbig
    go_enter Tryz.func10, Tryz.ntmps10
    go_wp2_with fail
    refine HV.out.mono ?_
    rintro e w1 ⟨rfl, K3⟩
    have hr := HBR.out.keep K3
    have hr2 := hr.set6 (.string ⟨#[]⟩) (.int .i64 0) (.int .u16 0) (.slice none 0 0) (.slice none 0 0) (.slice none 0 0)
    have ks := keeps_set6 (HK2.out.trans K3) HBIG.out (.string ⟨#[]⟩) (.int .i64 0) (.int .u16 0) (.slice none 0 0) (.slice none 0 0) (.slice none 0 0)
    obtain ⟨r0, r1, r2, r3, r4, r5⟩ := hr.c6
    obtain ⟨z0, z1, z2, z3, z4, z5⟩ := hr.f6
    have HR2 := Lib.hid hr2; have HKS := Lib.hid ks
    clear hr hr2 ks K3 HBR HK2 HBIG c0 c1 c2 c3 c4 c5 d0 d1 d2 d3 d4 d5
    go_wp2_with fail
    refine bodyPost_ret (resCfg (z := ca00) rfl HR2.out rfl rfl) rfl ?_
    exact ⟨ca00, rfl, rfl, ro00 _, HKS.out⟩
end Go.Proofs.YtnlohknlchgfgaaGreat
/- The reference's Same and Equal at equal arguments (layer 29). -/
namespace Go.Proofs.YtnlohknlchgfgaaGreat
open Go.RowKit Go.Lib Go.Shelf

set_option maxHeartbeats 800000 in
theorem rSame07e_any (a : Option Addr) (n c : Nat) (l : List S) (a2 : Option Addr) (c2 : Nat) (w : World) (h : Rd w a n c 1 (sl l)) (h2 : Rd w a2 n c2 1 (sl l)) :
    Calls Tryz.prog 40 #[.slice a n c, .slice a2 n c2] w fun e w' => e = .returned (.bool true) ∧ Keeps w w' := by
  have L := Lib.hid h.lenS
  have s1 := h.small
  go_enter Tryz.func40, Tryz.ntmps40
  go_wp2
  go_loopw [5] (fun v wr => ∃ (k : Nat), k ≤ n ∧ v = .int .i64 k ∧ Keeps w wr) (fun v _ => n - (RowKit.intOf v).toNat)
  case atStart => exact ⟨0, Nat.zero_le _, rfl, Keeps.refl _⟩
  case round =>
    obtain ⟨k, hk, rfl, K1⟩ := hrel
    by_cases hlt : k < n
    · have hc := (h.keep K1).at hlt
      have hc2 := (h2.keep K1).at hlt
      have hs := h.isSome (by omega)
      have hs2 := h2.isSome (by omega)
      generalize at_ l k = x at *
      go_wp2_with (go_quiet (fail))
      go_roundw
      case rel => exact ⟨k + 1, by omega, rfl, by first | exact K1 | exact K1.drew | exact K1.drewN _⟩
      case measure => simp [RowKit.intOf]; omega
    · go_wp2
      go_ret
      exact ⟨rfl, K1⟩
set_option maxHeartbeats 800000 in
theorem rSame19e_any (a : Option Addr) (n c : Nat) (l : List F2) (a2 : Option Addr) (c2 : Nat) (w : World) (h : Rd w a n c 2 (fl l)) (h2 : Rd w a2 n c2 2 (fl l)) :
    Calls Tryz.prog 14 #[.slice a n c, .slice a2 n c2] w fun e w' => e = .returned (.bool true) ∧ Keeps w w' := by
  have s1 := h.small
  go_enter Tryz.func14, Tryz.ntmps14
  go_wp2
  go_loopw [5] (fun v wr => ∃ (k : Nat), k ≤ n ∧ v = .int .i64 k ∧ Keeps w wr) (fun v _ => n - (RowKit.intOf v).toNat)
  case atStart => exact ⟨0, Nat.zero_le _, rfl, Keeps.refl _⟩
  case round =>
    obtain ⟨k, hk, rfl, K1⟩ := hrel
    by_cases hlt : k < n
    · have g0 := (h.keep K1).f0 hlt
      have g1 := (h.keep K1).f1' hlt
      have k0 := (h2.keep K1).f0 hlt
      have k1 := (h2.keep K1).f1' hlt
      have hs := h.isSome (by omega)
      have hs2 := h2.isSome (by omega)
      generalize fa l k = x at *
      go_wp2_with (go_quiet (fail))
      go_roundw
      case rel => exact ⟨k + 1, by omega, rfl, by first | exact K1 | exact K1.drew | exact K1.drewN _⟩
      case measure => simp [RowKit.intOf]; omega
    · go_wp2
      go_ret
      exact ⟨rfl, K1⟩
set_option maxRecDepth 20000 in
set_option maxHeartbeats 3000000 in
theorem rEqual_any (x y : CA) (hxy : x.c = y.c) (w : World) (hx : RdG w x) (hy : RdG w y) :
    Calls Tryz.prog 13 #[vg x, vg y] w fun e w' => e = .returned (.bool true) ∧ Keeps w w' := by
  obtain ⟨c, ar, cr, aw, cw, af, cf⟩ := x
  obtain ⟨c', ar', cr', aw', cw', af', cf'⟩ := y
  dsimp only at hxy
  subst hxy
  obtain ⟨hbx, hby⟩ := box2 w ⟨c, ar, cr, aw, cw, af, cf⟩ ⟨c, ar', cr', aw', cw', af', cf'⟩
  have K2 := ((Keeps.refl w).alloc (.cells #[.string c.nm, .int .i64 c.kd, .int .u16 (sv c.M), .slice ar c.R.length cr, .slice aw c.Q.length cw, .slice af c.F.length cf] 32)).alloc (.cells #[.string c.nm, .int .i64 c.kd, .int .u16 (sv c.M), .slice ar' c.R.length cr', .slice aw' c.Q.length cw', .slice af' c.F.length cf'] 32)
  have h1 := fun W (k : Keeps w W) => rSame07e_any ar _ cr c.R ar' cr' W (hx.keep k).r (hy.keep k).r
  have h2 := fun W (k : Keeps w W) => rSame07e_any aw _ cw c.Q aw' cw' W (hx.keep k).q (hy.keep k).q
  have h3 := fun W (k : Keeps w W) => rSame19e_any af _ cf c.F af' cf' W (hx.keep k).f (hy.keep k).f
  unfold vg
  dsimp only at *
  obtain ⟨c0, c1, c2, c3, c4, c5⟩ := hbx.c6
  obtain ⟨d0, d1, d2, d3, d4, d5⟩ := hby.c6
  have H1 := Lib.hid h1; have H2 := Lib.hid h2; have H3 := Lib.hid h3; have HBX := Lib.hid hbx; have HBY := Lib.hid hby; have HK2 := Lib.hid K2
  clear h1 h2 h3 hbx hby K2 hx hy
  go_enter Tryz.func13, Tryz.ntmps13
  go_wp2_with fail
  refine (H1.out _ HK2.out).mono ?_
  rintro e w1 ⟨rfl, K1⟩
  clear c0 c1 c2 c3 c4 c5 d0 d1 d2 d3 d4 d5
  obtain ⟨c0, c1, c2, c3, c4, c5⟩ := (HBX.out.keep K1).c6
  obtain ⟨d0, d1, d2, d3, d4, d5⟩ := (HBY.out.keep K1).c6
  go_wp2_with fail
  refine (H2.out _ (HK2.out.trans K1)).mono ?_
  rintro e w2 ⟨rfl, K3⟩
  clear c0 c1 c2 c3 c4 c5 d0 d1 d2 d3 d4 d5
  obtain ⟨c0, c1, c2, c3, c4, c5⟩ := (HBX.out.keep (K1.trans K3)).c6
  obtain ⟨d0, d1, d2, d3, d4, d5⟩ := (HBY.out.keep (K1.trans K3)).c6
  go_wp2_with fail
  refine (H3.out _ ((HK2.out.trans K1).trans K3)).mono ?_
  rintro e w3 ⟨rfl, K4⟩
  clear c0 c1 c2 c3 c4 c5 d0 d1 d2 d3 d4 d5
  go_wp2_with fail
  go_ret
  exact ⟨rfl, ((HK2.out.trans K1).trans K3).trans K4⟩
end Go.Proofs.YtnlohknlchgfgaaGreat
