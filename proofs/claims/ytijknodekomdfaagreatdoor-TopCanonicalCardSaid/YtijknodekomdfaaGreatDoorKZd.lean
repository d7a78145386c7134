/- Texts joined into one (wip/bin/pack.py): JOf. -/
import Derived.Test.YtijknodekomdfaaGreatDoorKZc
/- joint.Of. -/
namespace Go.Proofs.YtijknodekomdfaaGreatDoor
open Go.RowKit Go.Lib Go.Shelf

theorem resCfg {fn : Func} {p u : Tmp} (h : fn.results = #[.cell p 36, .tmp u]) {tmps : Array Value} {W : World} {B : Nat} {z : CA} {v : Value}
    (hB : Blk W B 36 #[.string z.c.nm, .int .i64 z.c.kd, .int .u16 (sv z.c.M), .slice z.ar z.c.R.length z.cr, .slice z.aw z.c.Q.length z.cw, .slice z.af z.c.F.length z.cf])
    (tp : tmps.getD p undef = .pointer (some ⟨B, 0, none⟩)) (tu : tmps.getD u undef = v) :
    (results fn tmps).run Tryz.prog W = .ok (.tuple #[vg z, v]) W := by
  rw [results_cell_tmp h, tp, tu]
  obtain ⟨k0, k1, k2, k3, k4, k5⟩ := hB.c6
  simp [go_sem, vg, asAddr, loadVar, loadCells, loadCellsFrom, k0, k1, k2, k3, k4, k5]
theorem ro00 (w : World) : RoG w ca00 := ⟨World.ownsRow_nil _ _ _ _, World.ownsRow_nil _ _ _ _, World.ownsRow_nil _ _ _ _⟩
abbrev zG : Array Value := #[.string ⟨#[]⟩, .int .i64 0, .int .u16 0, .slice none 0 0, .slice none 0 0, .slice none 0 0]
theorem box3 (w : World) (x y : CA) (Z : Array Value) :
    Blk (((w.alloc (.cells #[.string x.c.nm, .int .i64 x.c.kd, .int .u16 (sv x.c.M), .slice x.ar x.c.R.length x.cr, .slice x.aw x.c.Q.length x.cw, .slice x.af x.c.F.length x.cf] 36)).alloc (.cells #[.string y.c.nm, .int .i64 y.c.kd, .int .u16 (sv y.c.M), .slice y.ar y.c.R.length y.cr, .slice y.aw y.c.Q.length y.cw, .slice y.af y.c.F.length y.cf] 36)).alloc (.cells Z 36)) (w.heap.size + 1 + 1) 36 Z := by
  have hs : ∀ o1 o2, ((w.alloc o1).alloc o2).heap.size = w.heap.size + 1 + 1 := fun o1 o2 => by rw [World.size_alloc, World.size_alloc]
  rw [← hs (.cells #[.string x.c.nm, .int .i64 x.c.kd, .int .u16 (sv x.c.M), .slice x.ar x.c.R.length x.cr, .slice x.aw x.c.Q.length x.cw, .slice x.af x.c.F.length x.cf] 36) (.cells #[.string y.c.nm, .int .i64 y.c.kd, .int .u16 (sv y.c.M), .slice y.ar y.c.R.length y.cr, .slice y.aw y.c.Q.length y.cw, .slice y.af y.c.F.length y.cf] 36)]
  exact Blk.new ..
def RetOf (w : World) (c : Cf) (er : Int) (e : Ending) (w' : World) : Prop := ∃ z : CA, e = .returned (.tuple #[vg z, .int .i64 er]) ∧ z.c = c ∧ RoG w' z ∧ Keeps w w'
set_option maxRecDepth 20000 in
set_option maxHeartbeats 6000000 in
theorem jof_any (x y : CA) (w : World) (hx : RdG w x) (hy : RdG w y) :
    Calls Tryz.prog 20 #[vg x, vg y] w fun e w' => RetOf w (ofC x.c y.c) (ofE x.c y.c) e w' := by
  obtain ⟨hbx, hby⟩ := box2 w x y
  have KZ := (Keeps.refl ((w.alloc (.cells #[.string x.c.nm, .int .i64 x.c.kd, .int .u16 (sv x.c.M), .slice x.ar x.c.R.length x.cr, .slice x.aw x.c.Q.length x.cw, .slice x.af x.c.F.length x.cf] 36)).alloc (.cells #[.string y.c.nm, .int .i64 y.c.kd, .int .u16 (sv y.c.M), .slice y.ar y.c.R.length y.cr, .slice y.aw y.c.Q.length y.cw, .slice y.af y.c.F.length y.cf] 36))).alloc (.cells zG 36)
  replace hbx := hbx.keep KZ
  replace hby := hby.keep KZ
  have hbr := box3 w x y zG
  have K2 := (((Keeps.refl w).alloc (.cells #[.string x.c.nm, .int .i64 x.c.kd, .int .u16 (sv x.c.M), .slice x.ar x.c.R.length x.cr, .slice x.aw x.c.Q.length x.cw, .slice x.af x.c.F.length x.cf] 36)).alloc (.cells #[.string y.c.nm, .int .i64 y.c.kd, .int .u16 (sv y.c.M), .slice y.ar y.c.R.length y.cr, .slice y.aw y.c.Q.length y.cw, .slice y.af y.c.F.length y.cf] 36)).alloc (.cells zG 36)
  have hv := fun W (k : Keeps w W) => jvalid_any (some ⟨W.heap.size, 0, none⟩) 2 2 [x, y] (W.alloc (.cells (gl [x, y]).toArray 36)) (rd_new 36 6 W (gl [x, y]) 2 (by decide) rfl) (fun z hz => by
    have k2 := k.alloc (.cells (gl [x, y]).toArray 36)
    rcases List.mem_cons.1 hz with rfl | hz
    · exact hx.keep k2
    · rw [List.mem_singleton] at hz; subst hz; exact hy.keep k2)
  have hv2 := hv _ K2
  have hs1 : ∀ o1 o2 o3, (((w.alloc o1).alloc o2).alloc o3).heap.size = w.heap.size + 1 + 1 + 1 := fun o1 o2 o3 => by rw [World.size_alloc, World.size_alloc, World.size_alloc]
  rw [hs1] at hv2
  have hbig : w.heap.size ≤ w.heap.size + 1 + 1 := by omega
  obtain ⟨c0, c1, c2, c3, c4, c5⟩ := hbx.c6
  obtain ⟨d0, d1, d2, d3, d4, d5⟩ := hby.c6
  rw [vld2] at hv2
  unfold RetOf
  unfold vg
  by_cases hv0 : cvf x.c = 0 ∧ cvf y.c = 0
  · obtain ⟨h1, h2⟩ := hv0
    rw [if_neg (by simp [h1]), if_neg (by simp [h2])] at hv2
    have hr := fun W (k : Keeps w W) => and_any x.ar _ x.cr x.c.R y.ar _ y.cr y.c.R W (hx.keep k).r (hy.keep k).r
    have hq := fun W (k : Keeps w W) => and_any x.aw _ x.cw x.c.Q y.aw _ y.cw y.c.Q W (hx.keep k).q (hy.keep k).q
    have hf := fun W (k : Keeps w W) => jfaults_any x y W (hx.keep k) (hy.keep k)
    unfold vg at hf
    have e0 : ofE x.c y.c = if (andS x.c.R y.c.R).2 ≠ 0 then (andS x.c.R y.c.R).2 else if (andS x.c.Q y.c.Q).2 ≠ 0 then (andS x.c.Q y.c.Q).2 else nmzE (jnL x.c y.c) := by
      unfold ofE; rw [if_neg (by simp [h1]), if_neg (by simp [h2])]
    have e1 : jfltE x.c y.c = nmzE (jnL x.c y.c) := by unfold jfltE; rw [if_neg (by simp [h1]), if_neg (by simp [h2])]
    have e2 : jfltL x.c y.c = nmzL (jnL x.c y.c) := by
      unfold jfltL nmzL
      rw [e1]
      by_cases h0 : nmzE (jnL x.c y.c) = 0
      · rw [if_neg (by simp [h0])]
      · rw [if_pos h0, if_pos h0]
    rw [e1, e2] at hf
    have hc : ofC x.c y.c = if ofE x.c y.c ≠ 0 then cf00 else ⟨jNm, maxI x.c.kd y.c.kd, x.c.M ||| y.c.M, (andS x.c.R y.c.R).1, (andS x.c.Q y.c.Q).1, nmzL (jnL x.c y.c)⟩ := rfl
    generalize nmzE (jnL x.c y.c) = ef at *
    generalize nmzL (jnL x.c y.c) = lf at *
    generalize andS x.c.R y.c.R = pr at *
    generalize andS x.c.Q y.c.Q = pq at *
    obtain ⟨lr, er⟩ := pr
    obtain ⟨lq, eq⟩ := pq
    dsimp only at *
    generalize ofE x.c y.c = eo at *
    generalize ofC x.c y.c = co at *
    have HV := Lib.hid hv2; have HK2 := Lib.hid K2; have HBR := Lib.hid hbr; have HBIG := Lib.hid hbig; have HBX := Lib.hid hbx; have HBY := Lib.hid hby
    have HR := Lib.hid hr; have HQ := Lib.hid hq; have HF := Lib.hid hf; have HE := Lib.hid e0; have HC := Lib.hid hc
    clear hv hv2 hr hq hf e0 e1 e2 hc hbx hby hbr K2 KZ hx hy hs1 h1 h2 hbig
    go_enter Tryz.func20, Tryz.ntmps20
    go_wp2_with fail
    refine HV.out.mono ?_
    rintro e w1 ⟨rfl, K1⟩
    have K3 := (Keeps.refl _).alloc (.cells (gl [x, y]).toArray 36) |>.trans K1
    have bx := HBX.out.keep K3
    have by_ := HBY.out.keep K3
    have br := HBR.out.keep K3
    have KK := HK2.out.trans K3
    clear K3 K1 HBR HK2 HBX HBY c0 c1 c2 c3 c4 c5 d0 d1 d2 d3 d4 d5
    obtain ⟨c0, c1, c2, c3, c4, c5⟩ := bx.c6
    obtain ⟨d0, d1, d2, d3, d4, d5⟩ := by_.c6
    have hlt := br.lt
    have KO := (Keeps.refl w1).alloc (.cells #[.string ⟨#[106, 111, 105, 110, 116]⟩, .int .i64 (maxI x.c.kd y.c.kd), .int .u16 (sv (x.c.M ||| y.c.M)), .slice none 0 0, .slice none 0 0, .slice none 0 0] 36)
    obtain ⟨c0', c1', c2', c3', c4', c5'⟩ := (bx.keep KO).c6
    obtain ⟨d0', d1', d2', d3', d4', d5'⟩ := (by_.keep KO).c6
    have hmx : max x.c.kd y.c.kd = maxI x.c.kd y.c.kd := rfl
    go_wp2_with fail
    -- main
    clear c0 c1 c2 c3 c4 c5 d0 d1 d2 d3 d4 d5 c0' c1' c2' c3' c4' c5' d0' d1' d2' d3' d4' d5' hmx
    have ho := Blk.new w1 36 #[.string ⟨#[106, 111, 105, 110, 116]⟩, .int .i64 (maxI x.c.kd y.c.kd), .int .u16 (sv (x.c.M ||| y.c.M)), .slice none 0 0, .slice none 0 0, .slice none 0 0]
    have hno : w.heap.size + 1 + 1 < w1.heap.size := hlt
    replace bx := bx.keep KO
    replace by_ := by_.keep KO
    replace br := br.keep KO
    replace KK := KK.trans KO
    generalize maxI x.c.kd y.c.kd = mk at *
    obtain ⟨BO, hBO⟩ : ∃ B, B = w1.heap.size := ⟨_, rfl⟩
    obtain ⟨W4, hW4⟩ : ∃ V, V = w1.alloc (.cells #[.string ⟨#[106, 111, 105, 110, 116]⟩, .int .i64 mk, .int .u16 (sv (x.c.M ||| y.c.M)), .slice none 0 0, .slice none 0 0, .slice none 0 0] 36) := ⟨_, rfl⟩
    rw [← hW4] at bx by_ br KK ho ⊢
    rw [← hBO] at ho hno ⊢
    clear hW4 hBO KO hlt
    have hn0 : w.heap.size ≠ BO := by omega
    have hn1 : w.heap.size + 1 ≠ BO := by omega
    have hn2 : w.heap.size + 1 + 1 ≠ BO := by omega
    have hbo : w.heap.size ≤ BO := by omega
    have HN := Lib.hid (And.intro hn0 (And.intro hn1 (And.intro hn2 hbo)))
    clear hn0 hn1 hn2 hbo hno
    refine (HR.out _ KK).mono ?_
    rintro e w5 ⟨v0, rfl, hO0⟩
    have KS := hO0.2
    have hq0 := hO0.row0
    obtain ⟨a0, cc0, rfl, _⟩ := hO0.rd
    clear hO0
    replace bx := bx.keep KS; replace by_ := by_.keep KS; replace br := br.keep KS; replace ho := ho.keep KS; replace KK := KK.trans KS
    clear KS
    have o1 := ho.cell 3 rfl
    have o2 := ho.frozen 3
    replace bx := bx.setOther HN.out.1 3 (.slice a0 lr.length cc0); replace by_ := by_.setOther HN.out.2.1 3 (.slice a0 lr.length cc0); replace br := br.setOther HN.out.2.2.1 3 (.slice a0 lr.length cc0)
    replace hq0 := hq0.set ho (by decide) 3 (.slice a0 lr.length cc0)
    replace ho := ho.set 3 (.slice a0 lr.length cc0)
    replace KK := keeps_set KK HN.out.2.2.2 3 (.slice a0 lr.length cc0)
    change Blk _ BO _ #[.string ⟨#[106, 111, 105, 110, 116]⟩, .int .i64 mk, .int .u16 (sv (x.c.M ||| y.c.M)), .slice a0 lr.length cc0, .slice none 0 0, .slice none 0 0] at ho
    by_cases hz : er = 0
    · have hzr := hz
      have HZR := Lib.hid hzr
      clear hzr
      obtain ⟨c0, c1, c2, c3, c4, c5⟩ := bx.c6
      obtain ⟨d0, d1, d2, d3, d4, d5⟩ := by_.c6
      subst hz
      go_wp2_with fail
      clear c0 c1 c2 c3 c4 c5 d0 d1 d2 d3 d4 d5 o1 o2
      obtain ⟨W6, hW6⟩ : ∃ V, V = w5.setCell ⟨BO, 3, none⟩ (.slice a0 lr.length cc0) := ⟨_, rfl⟩
      rw [← hW6] at bx by_ br KK ho hq0 ⊢
      clear hW6
      refine (HQ.out _ KK).mono ?_
      rintro e w6 ⟨v1, rfl, hO1⟩
      have KS := hO1.2
      have hq1 := hO1.row0
      obtain ⟨a1, cc1, rfl, _⟩ := hO1.rd
      clear hO1
      replace bx := bx.keep KS; replace by_ := by_.keep KS; replace br := br.keep KS; replace ho := ho.keep KS; replace KK := KK.trans KS
      replace hq0 := hq0.keep KS
      clear KS
      have o1 := ho.cell 4 rfl
      have o2 := ho.frozen 4
      replace bx := bx.setOther HN.out.1 4 (.slice a1 lq.length cc1); replace by_ := by_.setOther HN.out.2.1 4 (.slice a1 lq.length cc1); replace br := br.setOther HN.out.2.2.1 4 (.slice a1 lq.length cc1)
      replace hq0 := hq0.set ho (by decide) 4 (.slice a1 lq.length cc1)
      replace hq1 := hq1.set ho (by decide) 4 (.slice a1 lq.length cc1)
      replace ho := ho.set 4 (.slice a1 lq.length cc1)
      replace KK := keeps_set KK HN.out.2.2.2 4 (.slice a1 lq.length cc1)
      change Blk _ BO _ #[.string ⟨#[106, 111, 105, 110, 116]⟩, .int .i64 mk, .int .u16 (sv (x.c.M ||| y.c.M)), .slice a0 lr.length cc0, .slice a1 lq.length cc1, .slice none 0 0] at ho
      by_cases hz : eq = 0
      · subst hz
        obtain ⟨c0, c1, c2, c3, c4, c5⟩ := bx.c6
        obtain ⟨d0, d1, d2, d3, d4, d5⟩ := by_.c6
        go_wp2_with fail
        clear c0 c1 c2 c3 c4 c5 d0 d1 d2 d3 d4 d5 o1 o2
        obtain ⟨W8, hW8⟩ : ∃ V, V = w6.setCell ⟨BO, 4, none⟩ (.slice a1 lq.length cc1) := ⟨_, rfl⟩
        rw [← hW8] at bx by_ br KK ho hq0 hq1 ⊢
        clear hW8
        refine (HF.out _ KK).mono ?_
        rintro e w7 ⟨v2, rfl, hO2⟩
        have KS := hO2.2
        have hq2 := hO2.row0
        obtain ⟨a2, cc2, rfl, _⟩ := hO2.rd
        clear hO2
        replace bx := bx.keep KS; replace by_ := by_.keep KS; replace br := br.keep KS; replace ho := ho.keep KS; replace KK := KK.trans KS
        replace hq0 := hq0.keep KS
        replace hq1 := hq1.keep KS
        clear KS
        have o1 := ho.cell 5 rfl
        have o2 := ho.frozen 5
        replace bx := bx.setOther HN.out.1 5 (.slice a2 lf.length cc2); replace by_ := by_.setOther HN.out.2.1 5 (.slice a2 lf.length cc2); replace br := br.setOther HN.out.2.2.1 5 (.slice a2 lf.length cc2)
        replace hq0 := hq0.set ho (by decide) 5 (.slice a2 lf.length cc2)
        replace hq1 := hq1.set ho (by decide) 5 (.slice a2 lf.length cc2)
        replace hq2 := hq2.set ho (by decide) 5 (.slice a2 lf.length cc2)
        replace ho := ho.set 5 (.slice a2 lf.length cc2)
        replace KK := keeps_set KK HN.out.2.2.2 5 (.slice a2 lf.length cc2)
        change Blk _ BO _ #[.string ⟨#[106, 111, 105, 110, 116]⟩, .int .i64 mk, .int .u16 (sv (x.c.M ||| y.c.M)), .slice a0 lr.length cc0, .slice a1 lq.length cc1, .slice a2 lf.length cc2] at ho
        by_cases hz : ef = 0
        · subst hz
          obtain ⟨o10, o11, o12, o13, o14, o15⟩ := ho.c6
          have heo : eo = 0 := by rw [HE.out, if_neg (by simp), if_neg (by simp)]
          have hco := HC.out
          rw [heo, if_neg (by simp)] at hco
          have hr2 := br.set6 (.string ⟨#[106, 111, 105, 110, 116]⟩) (.int .i64 mk) (.int .u16 (sv (x.c.M ||| y.c.M))) (.slice a0 lr.length cc0) (.slice a1 lq.length cc1) (.slice a2 lf.length cc2)
          have ks := keeps_set6 KK HBIG.out (.string ⟨#[106, 111, 105, 110, 116]⟩) (.int .i64 mk) (.int .u16 (sv (x.c.M ||| y.c.M))) (.slice a0 lr.length cc0) (.slice a1 lq.length cc1) (.slice a2 lf.length cc2)
          have e0 := hq0.set6 br (by decide) (.string ⟨#[106, 111, 105, 110, 116]⟩) (.int .i64 mk) (.int .u16 (sv (x.c.M ||| y.c.M))) (.slice a0 lr.length cc0) (.slice a1 lq.length cc1) (.slice a2 lf.length cc2)
          have e1 := hq1.set6 br (by decide) (.string ⟨#[106, 111, 105, 110, 116]⟩) (.int .i64 mk) (.int .u16 (sv (x.c.M ||| y.c.M))) (.slice a0 lr.length cc0) (.slice a1 lq.length cc1) (.slice a2 lf.length cc2)
          have e2 := hq2.set6 br (by decide) (.string ⟨#[106, 111, 105, 110, 116]⟩) (.int .i64 mk) (.int .u16 (sv (x.c.M ||| y.c.M))) (.slice a0 lr.length cc0) (.slice a1 lq.length cc1) (.slice a2 lf.length cc2)
          obtain ⟨r0, r1, r2, r3, r4, r5⟩ := br.c6
          obtain ⟨z0, z1, z2, z3, z4, z5⟩ := br.f6
          have HR2 := Lib.hid hr2; have HKS := Lib.hid ks; have HEO := Lib.hid heo; have HCO := Lib.hid hco; have HE0 := Lib.hid e0; have HE1 := Lib.hid e1; have HE2 := Lib.hid e2
          clear hr2 ks br bx by_ ho KK heo hco e0 e1 e2 hq0 hq1 hq2
          go_wp2_with fail
          refine bodyPost_ret (resCfg (z := ⟨⟨jNm, mk, x.c.M ||| y.c.M, lr, lq, lf⟩, a0, cc0, a1, cc1, a2, cc2⟩) rfl HR2.out rfl rfl) rfl ?_
          exact ⟨⟨⟨jNm, mk, x.c.M ||| y.c.M, lr, lq, lf⟩, a0, cc0, a1, cc1, a2, cc2⟩, by rw [HEO.out]; rfl, by rw [HCO.out], ⟨HE0.out, HE1.out, HE2.out⟩, HKS.out⟩
        · have hb : (ef != 0) = true := by simpa using hz
          have heo : eo = ef := by rw [HE.out]; rw [if_neg (by simp), if_neg (by simp)]
          have hco : co = cf00 := by rw [HC.out, heo, if_pos hz]
          have HEO := Lib.hid heo; have HCO := Lib.hid hco
          clear heo hco hz
          have hr2 := br.set6 (.string ⟨#[]⟩) (.int .i64 0) (.int .u16 0) (.slice none 0 0) (.slice none 0 0) (.slice none 0 0)
          have ks := keeps_set6 KK HBIG.out (.string ⟨#[]⟩) (.int .i64 0) (.int .u16 0) (.slice none 0 0) (.slice none 0 0) (.slice none 0 0)
          obtain ⟨r0, r1, r2, r3, r4, r5⟩ := br.c6
          obtain ⟨z0, z1, z2, z3, z4, z5⟩ := br.f6
          have HR2 := Lib.hid hr2; have HKS := Lib.hid ks
          clear hr2 ks br bx by_ ho KK
          go_wp2_with fail
          refine bodyPost_ret (resCfg (z := ca00) rfl HR2.out rfl rfl) rfl ?_
          exact ⟨ca00, by rw [HEO.out]; rfl, by rw [HCO.out]; rfl, ro00 _, HKS.out⟩
      · have hb : (eq != 0) = true := by simpa using hz
        have heo : eo = eq := by rw [HE.out]; rw [if_neg (by simp), if_pos hz]
        have hco : co = cf00 := by rw [HC.out, heo, if_pos hz]
        have HEO := Lib.hid heo; have HCO := Lib.hid hco
        clear heo hco hz
        have hr2 := br.set6 (.string ⟨#[]⟩) (.int .i64 0) (.int .u16 0) (.slice none 0 0) (.slice none 0 0) (.slice none 0 0)
        have ks := keeps_set6 KK HBIG.out (.string ⟨#[]⟩) (.int .i64 0) (.int .u16 0) (.slice none 0 0) (.slice none 0 0) (.slice none 0 0)
        obtain ⟨r0, r1, r2, r3, r4, r5⟩ := br.c6
        obtain ⟨z0, z1, z2, z3, z4, z5⟩ := br.f6
        have HR2 := Lib.hid hr2; have HKS := Lib.hid ks
        clear hr2 ks br bx by_ ho KK
        go_wp2_with fail
        refine bodyPost_ret (resCfg (z := ca00) rfl HR2.out rfl rfl) rfl ?_
        exact ⟨ca00, by rw [HEO.out]; rfl, by rw [HCO.out]; rfl, ro00 _, HKS.out⟩
    · have hb : (er != 0) = true := by simpa using hz
      have heo : eo = er := by rw [HE.out]; rw [if_pos hz]
      have hco : co = cf00 := by rw [HC.out, heo, if_pos hz]
      have HEO := Lib.hid heo; have HCO := Lib.hid hco
      clear heo hco hz
      have hr2 := br.set6 (.string ⟨#[]⟩) (.int .i64 0) (.int .u16 0) (.slice none 0 0) (.slice none 0 0) (.slice none 0 0)
      have ks := keeps_set6 KK HBIG.out (.string ⟨#[]⟩) (.int .i64 0) (.int .u16 0) (.slice none 0 0) (.slice none 0 0) (.slice none 0 0)
      obtain ⟨r0, r1, r2, r3, r4, r5⟩ := br.c6
      obtain ⟨z0, z1, z2, z3, z4, z5⟩ := br.f6
      have HR2 := Lib.hid hr2; have HKS := Lib.hid ks
      clear hr2 ks br bx by_ ho KK
      go_wp2_with fail
      refine bodyPost_ret (resCfg (z := ca00) rfl HR2.out rfl rfl) rfl ?_
      exact ⟨ca00, by rw [HEO.out]; rfl, by rw [HCO.out]; rfl, ro00 _, HKS.out⟩
    -- end main
  · obtain ⟨er, her, he0, he1⟩ : ∃ er, er ≠ 0 ∧ (if cvf x.c ≠ 0 then cvf x.c else if cvf y.c ≠ 0 then cvf y.c else 0) = er ∧ ofE x.c y.c = er := by
      by_cases h1 : cvf x.c = 0
      · have h2 : cvf y.c ≠ 0 := fun h2 => hv0 ⟨h1, h2⟩
        exact ⟨cvf y.c, h2, by rw [if_neg (by simp [h1]), if_pos h2], by unfold ofE; rw [if_neg (by simp [h1]), if_pos h2]⟩
      · exact ⟨cvf x.c, h1, if_pos h1, by unfold ofE; rw [if_pos h1]⟩
    have e2 : ofC x.c y.c = cf00 := by unfold ofC; rw [he1, if_pos her]
    rw [he0] at hv2
    rw [he1, e2]
    have hz : (er != 0) = true := by simpa using her
    have HV := Lib.hid hv2; have HK2 := Lib.hid K2; have HBR := Lib.hid hbr; have HBIG := Lib.hid hbig
    clear hv hv2 he0 he1 e2 hbx hby hbr K2 KZ hx hy hs1 hv0 her hbig
    go_enter Tryz.func20, Tryz.ntmps20
    go_wp2_with fail
    refine HV.out.mono ?_
    rintro e w1 ⟨rfl, K1⟩
    have K3 := (Keeps.refl _).alloc (.cells (gl [x, y]).toArray 36) |>.trans K1
    have hr := HBR.out.keep K3
    have hr2 := hr.set6 (.string ⟨#[]⟩) (.int .i64 0) (.int .u16 0) (.slice none 0 0) (.slice none 0 0) (.slice none 0 0)
    have ks := keeps_set6 (HK2.out.trans K3) HBIG.out (.string ⟨#[]⟩) (.int .i64 0) (.int .u16 0) (.slice none 0 0) (.slice none 0 0) (.slice none 0 0)
    obtain ⟨r0, r1, r2, r3, r4, r5⟩ := hr.c6
    obtain ⟨z0, z1, z2, z3, z4, z5⟩ := hr.f6
    have HR2 := Lib.hid hr2; have HKS := Lib.hid ks
    clear hr hr2 ks K3 K1 HBR HK2 HBIG c0 c1 c2 c3 c4 c5 d0 d1 d2 d3 d4 d5
    go_wp2_with fail
    refine bodyPost_ret (resCfg (z := ca00) rfl HR2.out rfl rfl) rfl ?_
    exact ⟨ca00, rfl, rfl, ro00 _, HKS.out⟩
end Go.Proofs.YtijknodekomdfaaGreatDoor
