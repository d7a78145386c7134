/- Texts joined into one (wip/bin/pack.py): Law29a. -/
import Derived.Test.YtnlohknlchgfgaaGreatKZi
import Derived.Lib.QuietBelow
import Derived.Deep.DeepCutAuto
/- The statement JointOf. -/
namespace Go.Proofs.YtnlohknlchgfgaaGreat
open Go.RowKit Go.Lib Go.Shelf

/-- the cells of a boxed description of layer 29 -/
structure D29 where
  kd : Int
  N : Int
  md : Int
  mv : Int
  lr : List S
  lw : List S
  lf : List F2
  ar : Option Addr
  cr : Nat
  aw : Option Addr
  cw : Nat
  af : Option Addr
  cf : Nat
def vD (d : D29) : Value := .agg #[.int .u8 d.kd, .int .u8 d.N, .int .u8 d.md, .slice d.ar d.lr.length d.cr, .slice d.aw d.lw.length d.cw, .slice d.af d.lf.length d.cf, .int .u8 d.mv]
structure OkD (w : World) (d : D29) : Prop where
  r : Rd w d.ar d.lr.length d.cr 1 (sl d.lr)
  q : Rd w d.aw d.lw.length d.cw 1 (sl d.lw)
  f : Rd w d.af d.lf.length d.cf 2 (fl d.lf)
  k0 : 0 ≤ d.kd
  k1 : d.kd ≤ 255
  n0 : 0 ≤ d.N
  n1 : d.N ≤ 255
  m0 : 0 ≤ d.md
  m1 : d.md ≤ 255
  v0 : 0 ≤ d.mv
theorem OkD.keep {w w' : World} {d : D29} (h : OkD w d) (k : Keeps w w') : OkD w' d := ⟨h.r.keep k, h.q.keep k, h.f.keep k, h.k0, h.k1, h.n0, h.n1, h.m0, h.m1, h.v0⟩
def mdC (nm : ByteArray) (d : D29) : Cf := made29 nm d.kd d.N d.md d.lr d.lw d.lf d.mv
theorem made_any (nm : ByteArray) (d : D29) (w : World) (h : OkD w d) : Calls Tryz.prog 7 #[vD d, .string nm] w fun e w' => RetG w (mdC nm d) e w' :=
  made29_any' nm d.kd d.N d.md d.mv d.lr d.lw d.lf w h.r h.q h.f h.k0 h.k1 h.n0 h.n1 h.m0 h.m1 h.v0
abbrev cD (d : D29) : Array Value := #[.int .u8 d.kd, .int .u8 d.N, .int .u8 d.md, .slice d.ar d.lr.length d.cr, .slice d.aw d.lw.length d.cw, .slice d.af d.lf.length d.cf, .int .u8 d.mv]
theorem Blk.c7 {w : World} {B : Nat} {T : TypeId} {d : D29} (h : Blk w B T (cD d)) :
    (w.cell? ⟨B, 0, none⟩ = some (.int .u8 d.kd) ∧ w.cell? ⟨B, 1, none⟩ = some (.int .u8 d.N) ∧ w.cell? ⟨B, 2, none⟩ = some (.int .u8 d.md) ∧ w.cell? ⟨B, 3, none⟩ = some (.slice d.ar d.lr.length d.cr) ∧ w.cell? ⟨B, 4, none⟩ = some (.slice d.aw d.lw.length d.cw) ∧ w.cell? ⟨B, 5, none⟩ = some (.slice d.af d.lf.length d.cf) ∧ w.cell? ⟨B, 6, none⟩ = some (.int .u8 d.mv)) :=
  ⟨h.cell 0 rfl, h.cell 1 rfl, h.cell 2 rfl, h.cell 3 rfl, h.cell 4 rfl, h.cell 5 rfl, h.cell 6 rfl⟩
theorem Blk.other6 {w : World} {B : Nat} {T : TypeId} {cs : Array Value} (h : Blk w B T cs) {C : Nat} (hC : B ≠ C) (v0 v1 v2 v3 v4 v5 : Value) :
    Blk ((((((w.setCell ⟨C, 0, none⟩ v0).setCell ⟨C, 1, none⟩ v1).setCell ⟨C, 2, none⟩ v2).setCell ⟨C, 3, none⟩ v3).setCell ⟨C, 4, none⟩ v4).setCell ⟨C, 5, none⟩ v5) B T cs :=
  (((((h.setOther hC 0 v0).setOther hC 1 v1).setOther hC 2 v2).setOther hC 3 v3).setOther hC 4 v4).setOther hC 5 v5
theorem RoG.set6 {w : World} {z : CA} (h : RoG w z) {B : Nat} {cs : Array Value} (hB : Blk w B 32 cs) (v0 v1 v2 v3 v4 v5 : Value) :
    RoG ((((((w.setCell ⟨B, 0, none⟩ v0).setCell ⟨B, 1, none⟩ v1).setCell ⟨B, 2, none⟩ v2).setCell ⟨B, 3, none⟩ v3).setCell ⟨B, 4, none⟩ v4).setCell ⟨B, 5, none⟩ v5) z := RowC.set6 h hB (by decide) (by decide) v0 v1 v2 v3 v4 v5
theorem made2_any (c d : D29) (w : World) (hc : OkD w c) (hd : OkD w d) : ∀ (nm : ByteArray) (kd N md mv : Int) (lr lw : List S) (lf : List F2) (ar : Option Addr) (cr : Nat) (aw : Option Addr) (cw : Nat) (af : Option Addr) (cf : Nat) (W : World),
    ((⟨kd, N, md, mv, lr, lw, lf, ar, cr, aw, cw, af, cf⟩ : D29) = c ∨ (⟨kd, N, md, mv, lr, lw, lf, ar, cr, aw, cw, af, cf⟩ : D29) = d) → Keeps w W →
    Calls Tryz.prog 7 #[.agg #[.int .u8 kd, .int .u8 N, .int .u8 md, .slice ar lr.length cr, .slice aw lw.length cw, .slice af lf.length cf, .int .u8 mv], .string nm] W fun e w' => RetG W (made29 nm kd N md lr lw lf mv) e w' := by
  intro nm kd N md mv lr lw lf ar cr aw cw af cf W h k
  have ho : OkD W ⟨kd, N, md, mv, lr, lw, lf, ar, cr, aw, cw, af, cf⟩ := by
    rcases h with rfl | rfl
    · exact hc.keep k
    · exact hd.keep k
  exact made_any nm _ W ho
set_option maxRecDepth 20000 in
set_option maxHeartbeats 16000000 in
theorem JointOf_any (c d : D29) (w : World) (hc : OkD w c) (hd : OkD w d) :
    Calls Tryz.prog 3 #[vD c, vD d] w fun e w' => e = .returned (.bool true) ∧ Keeps w w' := by
  have hs : ∀ o, (w.alloc o).heap.size = w.heap.size + 1 := fun o => World.size_alloc ..
  have hb1 := (Blk.new w 27 (cD c)).keep ((Keeps.refl _).alloc (.cells (cD d) 27))
  have hb2 := Blk.new (w.alloc (.cells (cD c) 27)) 27 (cD d)
  rw [hs] at hb2
  have KW := ((Keeps.refl w).alloc (.cells (cD c) 27)).alloc (.cells (cD d) 27)
  have hm := made2_any c d w hc hd
  unfold vD at *
  have HM := Lib.hid hm; have HB1 := Lib.hid hb1; have HB2 := Lib.hid hb2; have HKW := Lib.hid KW
  clear hm hb1 hb2 KW hs hc hd
  go_enter Tryz.func3, Tryz.ntmps3
  go_wp2_with fail
  generalize (w.alloc (.cells (cD c) 27)).alloc (.cells (cD d) 27) = W2 at *
  go_cut [5, 6] from 15 (fun s5 s6 wx => ∃ B5 B6 z1 z2, s5 = .pointer (some ⟨B5, 0, none⟩) ∧ s6 = .pointer (some ⟨B6, 0, none⟩) ∧ z1.c = mdC ⟨#[97]⟩ c ∧ z2.c = mdC ⟨#[98]⟩ d ∧ Blk wx B5 32 #[.string z1.c.nm, .int .i64 z1.c.kd, .int .u16 (sv z1.c.M), .slice z1.ar z1.c.R.length z1.cr, .slice z1.aw z1.c.Q.length z1.cw, .slice z1.af z1.c.F.length z1.cf] ∧ Blk wx B6 32 #[.string z2.c.nm, .int .i64 z2.c.kd, .int .u16 (sv z2.c.M), .slice z2.ar z2.c.R.length z2.cr, .slice z2.aw z2.c.Q.length z2.cw, .slice z2.af z2.c.F.length z2.cf] ∧ RoG wx z1 ∧ RoG wx z2 ∧ Keeps W2 wx)
  case first =>
    have J : Keeps W2 W2.drew := (Keeps.refl W2).drew
    refine wp_region_held_drew (S := (fun w' => (w'.cell? ⟨w.heap.size, 0, none⟩ = some (.int .u8 c.kd) ∧ w'.cell? ⟨w.heap.size, 1, none⟩ = some (.int .u8 c.N) ∧ w'.cell? ⟨w.heap.size, 2, none⟩ = some (.int .u8 c.md) ∧ w'.cell? ⟨w.heap.size, 3, none⟩ = some (.slice c.ar c.lr.length c.cr) ∧ w'.cell? ⟨w.heap.size, 4, none⟩ = some (.slice c.aw c.lw.length c.cw) ∧ w'.cell? ⟨w.heap.size, 5, none⟩ = some (.slice c.af c.lf.length c.cf) ∧ w'.cell? ⟨w.heap.size, 6, none⟩ = some (.int .u8 c.mv)) ∧ (w'.cell? ⟨w.heap.size + 1, 0, none⟩ = some (.int .u8 d.kd) ∧ w'.cell? ⟨w.heap.size + 1, 1, none⟩ = some (.int .u8 d.N) ∧ w'.cell? ⟨w.heap.size + 1, 2, none⟩ = some (.int .u8 d.md) ∧ w'.cell? ⟨w.heap.size + 1, 3, none⟩ = some (.slice d.ar d.lr.length d.cr) ∧ w'.cell? ⟨w.heap.size + 1, 4, none⟩ = some (.slice d.aw d.lw.length d.cw) ∧ w'.cell? ⟨w.heap.size + 1, 5, none⟩ = some (.slice d.af d.lf.length d.cf) ∧ w'.cell? ⟨w.heap.size + 1, 6, none⟩ = some (.int .u8 d.mv)))) (by kernel_rfl) ?_ (fun hHeld => ?_)
    · exact ⟨(HB1.out.keep J).c7, (HB2.out.keep J).c7⟩
    generalize W2.drew = V0 at *
    refine wpAnyH_take (i := 0) (oi := ⟨_, _, _, _, _, _⟩) (v := ?_) rfl (by kernel_rfl) (by kernel_rfl) (by kernel_rfl) (fun _ _ _ h => h) (Or.inl ⟨by rfl, ?_⟩) (by assumption) ?_
    rotate_left 1
    · intro w hSw; (try dsimp only at hSw); go_simp <;> with_reducible rfl
    (try simp only [Act.put]); (try simp only [List.setIfInBounds_toArray]); (try simp only [List.set_cons_succ]); (try simp only [List.set_cons_zero])
    refine wpAnyH_take (i := 2) (oi := ⟨_, _, _, _, _, _⟩) (v := ?_) rfl (by kernel_rfl) (by kernel_rfl) (by kernel_rfl) (fun _ _ _ h => h) (Or.inl ⟨by rfl, ?_⟩) (by assumption) ?_
    rotate_left 1
    · intro w hSw; (try dsimp only at hSw); go_simp <;> with_reducible rfl
    (try simp only [Act.put]); (try simp only [List.setIfInBounds_toArray]); (try simp only [List.set_cons_succ]); (try simp only [List.set_cons_zero])
    refine wpAnyH_ready (rs := [1, 4, 5]) (by kernel_rfl) (by simp) ?_
    refine AllReadyH.cons (o := ⟨_, _, _, _, _, _⟩) rfl (fun K hK => ?_) (AllReadyH.cons (o := ⟨_, _, _, _, _, _⟩) rfl (fun K hK => ?_) (AllReadyH.cons (o := ⟨_, _, _, _, _, _⟩) rfl (fun K hK => ?_) AllReadyH.nil))
    · go_simp
      refine (HM.out _ _ _ _ _ _ _ _ _ _ _ _ _ _ _ (by first | exact Or.inl rfl | exact Or.inr rfl) (HKW.out.trans J)).mono ?_
      rintro e V1 ⟨z1, rfl, hz1, hR1, hK9⟩
      have HZ1 := Lib.hid hz1
      clear hz1
      replace J := J.trans hK9
      clear hK9
      unfold vg
      dsimp only
      refine hK.out _ _ ?_ (fun hHeld => ?_)
      · exact ⟨(HB1.out.keep J).c7, (HB2.out.keep J).c7⟩
      clear hK K
      (try simp only [Act.put]); (try simp only [List.setIfInBounds_toArray]); (try simp only [List.set_cons_succ]); (try simp only [List.set_cons_zero])
      refine wpAnyH_ready (rs := [3, 4, 5]) (by kernel_rfl) (by simp) ?_
      refine AllReadyH.cons (o := ⟨_, _, _, _, _, _⟩) rfl (fun K hK => ?_) (AllReadyH.cons (o := ⟨_, _, _, _, _, _⟩) rfl (fun K hK => ?_) (AllReadyH.cons (o := ⟨_, _, _, _, _, _⟩) rfl (fun K hK => ?_) AllReadyH.nil))
      · go_simp
        refine (HM.out _ _ _ _ _ _ _ _ _ _ _ _ _ _ _ (by first | exact Or.inl rfl | exact Or.inr rfl) (HKW.out.trans J)).mono ?_
        rintro e V2 ⟨z2, rfl, hz2, hR2, hK9⟩
        have HZ2 := Lib.hid hz2
        clear hz2
        replace hR1 := hR1.keep hK9
        replace J := J.trans hK9
        clear hK9
        unfold vg
        dsimp only
        refine hK.out _ _ ?_ (fun hHeld => ?_)
        · exact ⟨(HB1.out.keep J).c7, (HB2.out.keep J).c7⟩
        clear hK K
        (try simp only [Act.put]); (try simp only [List.setIfInBounds_toArray]); (try simp only [List.set_cons_succ]); (try simp only [List.set_cons_zero])
        refine wpAnyH_ready (rs := [4, 5]) (by kernel_rfl) (by simp) ?_
        refine AllReadyH.cons (o := ⟨_, _, _, _, _, _⟩) rfl (fun K hK => ?_) (AllReadyH.cons (o := ⟨_, _, _, _, _, _⟩) rfl (fun K hK => ?_) AllReadyH.nil)
        · go_simp
          have hn5 := Blk.new V2 32 zG
          have hg5 : W2.heap.size ≤ V2.heap.size := J.size
          have KA := (Keeps.refl V2).alloc (.cells zG 32)
          replace hR1 := hR1.keep KA
          replace hR2 := hR2.keep KA
          replace J := J.trans KA
          clear KA
          generalize V2.alloc (.cells zG 32) = V3 at *
          generalize V2.heap.size = B5 at *
          refine hK.out _ _ ?_ (fun hHeld => ?_)
          · exact ⟨(HB1.out.keep J).c7, (HB2.out.keep J).c7⟩
          clear hK K
          (try simp only [Act.put]); (try simp only [List.setIfInBounds_toArray]); (try simp only [List.set_cons_succ]); (try simp only [List.set_cons_zero])
          refine wpAnyH_ready (rs := [5]) (by kernel_rfl) (by simp) ?_
          refine AllReadyH.cons (o := ⟨_, _, _, _, _, _⟩) rfl (fun K hK => ?_) AllReadyH.nil
          · go_simp
            have hn6 := Blk.new V3 32 zG
            have hg6 : W2.heap.size ≤ V3.heap.size := J.size
            have KA := (Keeps.refl V3).alloc (.cells zG 32)
            have hne : V3.heap.size ≠ B5 := by have := hn5.lt; omega
            replace hR1 := hR1.keep KA
            replace hR2 := hR2.keep KA
            replace hn5 := hn5.keep KA
            replace J := J.trans KA
            clear KA
            generalize V3.alloc (.cells zG 32) = V4 at *
            generalize V3.heap.size = B6 at *
            have HNE := Lib.hid (Ne.symm hne)
            clear hne
            refine hK.out _ _ ?_ (fun hHeld => ?_)
            · exact ⟨(HB1.out.keep J).c7, (HB2.out.keep J).c7⟩
            clear hK K
            (try simp only [Act.put]); (try simp only [List.setIfInBounds_toArray]); (try simp only [List.set_cons_succ]); (try simp only [List.set_cons_zero])
            refine wpAnyH_ready (rs := [6]) (by kernel_rfl) (by simp) ?_
            refine AllReadyH.cons (o := ⟨_, _, _, _, _, _⟩) rfl (fun K hK => ?_) AllReadyH.nil
            · obtain ⟨c0, c1, c2, c3, c4, c5⟩ := hn5.c6
              obtain ⟨g0, g1, g2, g3, g4, g5⟩ := hn5.f6
              go_simp
              clear c0 c1 c2 c3 c4 c5 g0 g1 g2 g3 g4 g5
              replace hn6 := hn6.other6 HNE.out.symm (.string z1.c.nm) (.int .i64 z1.c.kd) (.int .u16 (sv z1.c.M)) (.slice z1.ar z1.c.R.length z1.cr) (.slice z1.aw z1.c.Q.length z1.cw) (.slice z1.af z1.c.F.length z1.cf)
              replace hR1 := hR1.set6 hn5 (.string z1.c.nm) (.int .i64 z1.c.kd) (.int .u16 (sv z1.c.M)) (.slice z1.ar z1.c.R.length z1.cr) (.slice z1.aw z1.c.Q.length z1.cw) (.slice z1.af z1.c.F.length z1.cf)
              replace hR2 := hR2.set6 hn5 (.string z1.c.nm) (.int .i64 z1.c.kd) (.int .u16 (sv z1.c.M)) (.slice z1.ar z1.c.R.length z1.cr) (.slice z1.aw z1.c.Q.length z1.cw) (.slice z1.af z1.c.F.length z1.cf)
              replace hn5 := hn5.set6 (.string z1.c.nm) (.int .i64 z1.c.kd) (.int .u16 (sv z1.c.M)) (.slice z1.ar z1.c.R.length z1.cr) (.slice z1.aw z1.c.Q.length z1.cw) (.slice z1.af z1.c.F.length z1.cf)
              replace J := keeps_set6 J hg5 (.string z1.c.nm) (.int .i64 z1.c.kd) (.int .u16 (sv z1.c.M)) (.slice z1.ar z1.c.R.length z1.cr) (.slice z1.aw z1.c.Q.length z1.cw) (.slice z1.af z1.c.F.length z1.cf)
              generalize ((((((V4.setCell ⟨B5, 0, none⟩ (.string z1.c.nm)).setCell ⟨B5, 1, none⟩ (.int .i64 z1.c.kd)).setCell ⟨B5, 2, none⟩ (.int .u16 (sv z1.c.M))).setCell ⟨B5, 3, none⟩ (.slice z1.ar z1.c.R.length z1.cr)).setCell ⟨B5, 4, none⟩ (.slice z1.aw z1.c.Q.length z1.cw)).setCell ⟨B5, 5, none⟩ (.slice z1.af z1.c.F.length z1.cf)) = V5 at *
              refine hK.out _ _ ?_ (fun hHeld => ?_)
              · exact ⟨(HB1.out.keep J).c7, (HB2.out.keep J).c7⟩
              clear hK K
              (try simp only [Act.put]); (try simp only [List.setIfInBounds_toArray]); (try simp only [List.set_cons_succ]); (try simp only [List.set_cons_zero])
              refine wpAnyH_ready (rs := [7]) (by kernel_rfl) (by simp) ?_
              refine AllReadyH.cons (o := ⟨_, _, _, _, _, _⟩) rfl (fun K hK => ?_) AllReadyH.nil
              · obtain ⟨c0, c1, c2, c3, c4, c5⟩ := hn6.c6
                obtain ⟨g0, g1, g2, g3, g4, g5⟩ := hn6.f6
                go_simp
                clear c0 c1 c2 c3 c4 c5 g0 g1 g2 g3 g4 g5
                replace hn5 := hn5.other6 HNE.out (.string z2.c.nm) (.int .i64 z2.c.kd) (.int .u16 (sv z2.c.M)) (.slice z2.ar z2.c.R.length z2.cr) (.slice z2.aw z2.c.Q.length z2.cw) (.slice z2.af z2.c.F.length z2.cf)
                replace hR1 := hR1.set6 hn6 (.string z2.c.nm) (.int .i64 z2.c.kd) (.int .u16 (sv z2.c.M)) (.slice z2.ar z2.c.R.length z2.cr) (.slice z2.aw z2.c.Q.length z2.cw) (.slice z2.af z2.c.F.length z2.cf)
                replace hR2 := hR2.set6 hn6 (.string z2.c.nm) (.int .i64 z2.c.kd) (.int .u16 (sv z2.c.M)) (.slice z2.ar z2.c.R.length z2.cr) (.slice z2.aw z2.c.Q.length z2.cw) (.slice z2.af z2.c.F.length z2.cf)
                replace hn6 := hn6.set6 (.string z2.c.nm) (.int .i64 z2.c.kd) (.int .u16 (sv z2.c.M)) (.slice z2.ar z2.c.R.length z2.cr) (.slice z2.aw z2.c.Q.length z2.cw) (.slice z2.af z2.c.F.length z2.cf)
                replace J := keeps_set6 J hg6 (.string z2.c.nm) (.int .i64 z2.c.kd) (.int .u16 (sv z2.c.M)) (.slice z2.ar z2.c.R.length z2.cr) (.slice z2.aw z2.c.Q.length z2.cw) (.slice z2.af z2.c.F.length z2.cf)
                generalize ((((((V5.setCell ⟨B6, 0, none⟩ (.string z2.c.nm)).setCell ⟨B6, 1, none⟩ (.int .i64 z2.c.kd)).setCell ⟨B6, 2, none⟩ (.int .u16 (sv z2.c.M))).setCell ⟨B6, 3, none⟩ (.slice z2.ar z2.c.R.length z2.cr)).setCell ⟨B6, 4, none⟩ (.slice z2.aw z2.c.Q.length z2.cw)).setCell ⟨B6, 5, none⟩ (.slice z2.af z2.c.F.length z2.cf)) = V6 at *
                refine hK.out _ _ ?_ (fun hHeld => ?_)
                · exact ⟨(HB1.out.keep J).c7, (HB2.out.keep J).c7⟩
                clear hK K
                (try simp only [Act.put]); (try simp only [List.setIfInBounds_toArray]); (try simp only [List.set_cons_succ]); (try simp only [List.set_cons_zero])
                refine wpAnyH_done (by kernel_rfl) ?_ _
                go_wp2_with fail
                go_meet
                case rel => exact ⟨B5, B6, z1, z2, rfl, rfl, HZ1.out, HZ2.out, hn5, hn6, hR1, hR2, J⟩
        · go_simp
          have hn6 := Blk.new V2 32 zG
          have hg6 : W2.heap.size ≤ V2.heap.size := J.size
          have KA := (Keeps.refl V2).alloc (.cells zG 32)
          replace hR1 := hR1.keep KA
          replace hR2 := hR2.keep KA
          replace J := J.trans KA
          clear KA
          generalize V2.alloc (.cells zG 32) = V7 at *
          generalize V2.heap.size = B6 at *
          refine hK.out _ _ ?_ (fun hHeld => ?_)
          · exact ⟨(HB1.out.keep J).c7, (HB2.out.keep J).c7⟩
          clear hK K
          (try simp only [Act.put]); (try simp only [List.setIfInBounds_toArray]); (try simp only [List.set_cons_succ]); (try simp only [List.set_cons_zero])
          refine wpAnyH_ready (rs := [4]) (by kernel_rfl) (by simp) ?_
          refine AllReadyH.cons (o := ⟨_, _, _, _, _, _⟩) rfl (fun K hK => ?_) AllReadyH.nil
          · go_simp
            have hn5 := Blk.new V7 32 zG
            have hg5 : W2.heap.size ≤ V7.heap.size := J.size
            have KA := (Keeps.refl V7).alloc (.cells zG 32)
            have hne : V7.heap.size ≠ B6 := by have := hn6.lt; omega
            replace hR1 := hR1.keep KA
            replace hR2 := hR2.keep KA
            replace hn6 := hn6.keep KA
            replace J := J.trans KA
            clear KA
            generalize V7.alloc (.cells zG 32) = V8 at *
            generalize V7.heap.size = B5 at *
            have HNE := Lib.hid hne
            clear hne
            refine hK.out _ _ ?_ (fun hHeld => ?_)
            · exact ⟨(HB1.out.keep J).c7, (HB2.out.keep J).c7⟩
            clear hK K
            (try simp only [Act.put]); (try simp only [List.setIfInBounds_toArray]); (try simp only [List.set_cons_succ]); (try simp only [List.set_cons_zero])
            refine wpAnyH_ready (rs := [6]) (by kernel_rfl) (by simp) ?_
            refine AllReadyH.cons (o := ⟨_, _, _, _, _, _⟩) rfl (fun K hK => ?_) AllReadyH.nil
            · obtain ⟨c0, c1, c2, c3, c4, c5⟩ := hn5.c6
              obtain ⟨g0, g1, g2, g3, g4, g5⟩ := hn5.f6
              go_simp
              clear c0 c1 c2 c3 c4 c5 g0 g1 g2 g3 g4 g5
              replace hn6 := hn6.other6 HNE.out.symm (.string z1.c.nm) (.int .i64 z1.c.kd) (.int .u16 (sv z1.c.M)) (.slice z1.ar z1.c.R.length z1.cr) (.slice z1.aw z1.c.Q.length z1.cw) (.slice z1.af z1.c.F.length z1.cf)
              replace hR1 := hR1.set6 hn5 (.string z1.c.nm) (.int .i64 z1.c.kd) (.int .u16 (sv z1.c.M)) (.slice z1.ar z1.c.R.length z1.cr) (.slice z1.aw z1.c.Q.length z1.cw) (.slice z1.af z1.c.F.length z1.cf)
              replace hR2 := hR2.set6 hn5 (.string z1.c.nm) (.int .i64 z1.c.kd) (.int .u16 (sv z1.c.M)) (.slice z1.ar z1.c.R.length z1.cr) (.slice z1.aw z1.c.Q.length z1.cw) (.slice z1.af z1.c.F.length z1.cf)
              replace hn5 := hn5.set6 (.string z1.c.nm) (.int .i64 z1.c.kd) (.int .u16 (sv z1.c.M)) (.slice z1.ar z1.c.R.length z1.cr) (.slice z1.aw z1.c.Q.length z1.cw) (.slice z1.af z1.c.F.length z1.cf)
              replace J := keeps_set6 J hg5 (.string z1.c.nm) (.int .i64 z1.c.kd) (.int .u16 (sv z1.c.M)) (.slice z1.ar z1.c.R.length z1.cr) (.slice z1.aw z1.c.Q.length z1.cw) (.slice z1.af z1.c.F.length z1.cf)
              generalize ((((((V8.setCell ⟨B5, 0, none⟩ (.string z1.c.nm)).setCell ⟨B5, 1, none⟩ (.int .i64 z1.c.kd)).setCell ⟨B5, 2, none⟩ (.int .u16 (sv z1.c.M))).setCell ⟨B5, 3, none⟩ (.slice z1.ar z1.c.R.length z1.cr)).setCell ⟨B5, 4, none⟩ (.slice z1.aw z1.c.Q.length z1.cw)).setCell ⟨B5, 5, none⟩ (.slice z1.af z1.c.F.length z1.cf)) = V9 at *
              refine hK.out _ _ ?_ (fun hHeld => ?_)
              · exact ⟨(HB1.out.keep J).c7, (HB2.out.keep J).c7⟩
              clear hK K
              (try simp only [Act.put]); (try simp only [List.setIfInBounds_toArray]); (try simp only [List.set_cons_succ]); (try simp only [List.set_cons_zero])
              refine wpAnyH_ready (rs := [7]) (by kernel_rfl) (by simp) ?_
              refine AllReadyH.cons (o := ⟨_, _, _, _, _, _⟩) rfl (fun K hK => ?_) AllReadyH.nil
              · obtain ⟨c0, c1, c2, c3, c4, c5⟩ := hn6.c6
                obtain ⟨g0, g1, g2, g3, g4, g5⟩ := hn6.f6
                go_simp
                clear c0 c1 c2 c3 c4 c5 g0 g1 g2 g3 g4 g5
                replace hn5 := hn5.other6 HNE.out (.string z2.c.nm) (.int .i64 z2.c.kd) (.int .u16 (sv z2.c.M)) (.slice z2.ar z2.c.R.length z2.cr) (.slice z2.aw z2.c.Q.length z2.cw) (.slice z2.af z2.c.F.length z2.cf)
                replace hR1 := hR1.set6 hn6 (.string z2.c.nm) (.int .i64 z2.c.kd) (.int .u16 (sv z2.c.M)) (.slice z2.ar z2.c.R.length z2.cr) (.slice z2.aw z2.c.Q.length z2.cw) (.slice z2.af z2.c.F.length z2.cf)
                replace hR2 := hR2.set6 hn6 (.string z2.c.nm) (.int .i64 z2.c.kd) (.int .u16 (sv z2.c.M)) (.slice z2.ar z2.c.R.length z2.cr) (.slice z2.aw z2.c.Q.length z2.cw) (.slice z2.af z2.c.F.length z2.cf)
                replace hn6 := hn6.set6 (.string z2.c.nm) (.int .i64 z2.c.kd) (.int .u16 (sv z2.c.M)) (.slice z2.ar z2.c.R.length z2.cr) (.slice z2.aw z2.c.Q.length z2.cw) (.slice z2.af z2.c.F.length z2.cf)
                replace J := keeps_set6 J hg6 (.string z2.c.nm) (.int .i64 z2.c.kd) (.int .u16 (sv z2.c.M)) (.slice z2.ar z2.c.R.length z2.cr) (.slice z2.aw z2.c.Q.length z2.cw) (.slice z2.af z2.c.F.length z2.cf)
                generalize ((((((V9.setCell ⟨B6, 0, none⟩ (.string z2.c.nm)).setCell ⟨B6, 1, none⟩ (.int .i64 z2.c.kd)).setCell ⟨B6, 2, none⟩ (.int .u16 (sv z2.c.M))).setCell ⟨B6, 3, none⟩ (.slice z2.ar z2.c.R.length z2.cr)).setCell ⟨B6, 4, none⟩ (.slice z2.aw z2.c.Q.length z2.cw)).setCell ⟨B6, 5, none⟩ (.slice z2.af z2.c.F.length z2.cf)) = V10 at *
                refine hK.out _ _ ?_ (fun hHeld => ?_)
                · exact ⟨(HB1.out.keep J).c7, (HB2.out.keep J).c7⟩
                clear hK K
                (try simp only [Act.put]); (try simp only [List.setIfInBounds_toArray]); (try simp only [List.set_cons_succ]); (try simp only [List.set_cons_zero])
                refine wpAnyH_done (by kernel_rfl) ?_ _
                go_wp2_with fail
                go_meet
                case rel => exact ⟨B5, B6, z1, z2, rfl, rfl, HZ1.out, HZ2.out, hn5, hn6, hR1, hR2, J⟩
      · go_simp
        have hn5 := Blk.new V1 32 zG
        have hg5 : W2.heap.size ≤ V1.heap.size := J.size
        have KA := (Keeps.refl V1).alloc (.cells zG 32)
        replace hR1 := hR1.keep KA
        replace J := J.trans KA
        clear KA
        generalize V1.alloc (.cells zG 32) = V11 at *
        generalize V1.heap.size = B5 at *
        refine hK.out _ _ ?_ (fun hHeld => ?_)
        · exact ⟨(HB1.out.keep J).c7, (HB2.out.keep J).c7⟩
        clear hK K
        (try simp only [Act.put]); (try simp only [List.setIfInBounds_toArray]); (try simp only [List.set_cons_succ]); (try simp only [List.set_cons_zero])
        refine wpAnyH_ready (rs := [3, 5]) (by kernel_rfl) (by simp) ?_
        refine AllReadyH.cons (o := ⟨_, _, _, _, _, _⟩) rfl (fun K hK => ?_) (AllReadyH.cons (o := ⟨_, _, _, _, _, _⟩) rfl (fun K hK => ?_) AllReadyH.nil)
        · go_simp
          refine (HM.out _ _ _ _ _ _ _ _ _ _ _ _ _ _ _ (by first | exact Or.inl rfl | exact Or.inr rfl) (HKW.out.trans J)).mono ?_
          rintro e V12 ⟨z2, rfl, hz2, hR2, hK9⟩
          have HZ2 := Lib.hid hz2
          clear hz2
          replace hR1 := hR1.keep hK9
          replace hn5 := hn5.keep hK9
          replace J := J.trans hK9
          clear hK9
          unfold vg
          dsimp only
          refine hK.out _ _ ?_ (fun hHeld => ?_)
          · exact ⟨(HB1.out.keep J).c7, (HB2.out.keep J).c7⟩
          clear hK K
          (try simp only [Act.put]); (try simp only [List.setIfInBounds_toArray]); (try simp only [List.set_cons_succ]); (try simp only [List.set_cons_zero])
          refine wpAnyH_ready (rs := [5]) (by kernel_rfl) (by simp) ?_
          refine AllReadyH.cons (o := ⟨_, _, _, _, _, _⟩) rfl (fun K hK => ?_) AllReadyH.nil
          · go_simp
            have hn6 := Blk.new V12 32 zG
            have hg6 : W2.heap.size ≤ V12.heap.size := J.size
            have KA := (Keeps.refl V12).alloc (.cells zG 32)
            have hne : V12.heap.size ≠ B5 := by have := hn5.lt; omega
            replace hR1 := hR1.keep KA
            replace hR2 := hR2.keep KA
            replace hn5 := hn5.keep KA
            replace J := J.trans KA
            clear KA
            generalize V12.alloc (.cells zG 32) = V13 at *
            generalize V12.heap.size = B6 at *
            have HNE := Lib.hid (Ne.symm hne)
            clear hne
            refine hK.out _ _ ?_ (fun hHeld => ?_)
            · exact ⟨(HB1.out.keep J).c7, (HB2.out.keep J).c7⟩
            clear hK K
            (try simp only [Act.put]); (try simp only [List.setIfInBounds_toArray]); (try simp only [List.set_cons_succ]); (try simp only [List.set_cons_zero])
            refine wpAnyH_ready (rs := [6]) (by kernel_rfl) (by simp) ?_
            refine AllReadyH.cons (o := ⟨_, _, _, _, _, _⟩) rfl (fun K hK => ?_) AllReadyH.nil
            · obtain ⟨c0, c1, c2, c3, c4, c5⟩ := hn5.c6
              obtain ⟨g0, g1, g2, g3, g4, g5⟩ := hn5.f6
              go_simp
              clear c0 c1 c2 c3 c4 c5 g0 g1 g2 g3 g4 g5
              replace hn6 := hn6.other6 HNE.out.symm (.string z1.c.nm) (.int .i64 z1.c.kd) (.int .u16 (sv z1.c.M)) (.slice z1.ar z1.c.R.length z1.cr) (.slice z1.aw z1.c.Q.length z1.cw) (.slice z1.af z1.c.F.length z1.cf)
              replace hR1 := hR1.set6 hn5 (.string z1.c.nm) (.int .i64 z1.c.kd) (.int .u16 (sv z1.c.M)) (.slice z1.ar z1.c.R.length z1.cr) (.slice z1.aw z1.c.Q.length z1.cw) (.slice z1.af z1.c.F.length z1.cf)
              replace hR2 := hR2.set6 hn5 (.string z1.c.nm) (.int .i64 z1.c.kd) (.int .u16 (sv z1.c.M)) (.slice z1.ar z1.c.R.length z1.cr) (.slice z1.aw z1.c.Q.length z1.cw) (.slice z1.af z1.c.F.length z1.cf)
              replace hn5 := hn5.set6 (.string z1.c.nm) (.int .i64 z1.c.kd) (.int .u16 (sv z1.c.M)) (.slice z1.ar z1.c.R.length z1.cr) (.slice z1.aw z1.c.Q.length z1.cw) (.slice z1.af z1.c.F.length z1.cf)
              replace J := keeps_set6 J hg5 (.string z1.c.nm) (.int .i64 z1.c.kd) (.int .u16 (sv z1.c.M)) (.slice z1.ar z1.c.R.length z1.cr) (.slice z1.aw z1.c.Q.length z1.cw) (.slice z1.af z1.c.F.length z1.cf)
              generalize ((((((V13.setCell ⟨B5, 0, none⟩ (.string z1.c.nm)).setCell ⟨B5, 1, none⟩ (.int .i64 z1.c.kd)).setCell ⟨B5, 2, none⟩ (.int .u16 (sv z1.c.M))).setCell ⟨B5, 3, none⟩ (.slice z1.ar z1.c.R.length z1.cr)).setCell ⟨B5, 4, none⟩ (.slice z1.aw z1.c.Q.length z1.cw)).setCell ⟨B5, 5, none⟩ (.slice z1.af z1.c.F.length z1.cf)) = V14 at *
              refine hK.out _ _ ?_ (fun hHeld => ?_)
              · exact ⟨(HB1.out.keep J).c7, (HB2.out.keep J).c7⟩
              clear hK K
              (try simp only [Act.put]); (try simp only [List.setIfInBounds_toArray]); (try simp only [List.set_cons_succ]); (try simp only [List.set_cons_zero])
              refine wpAnyH_ready (rs := [7]) (by kernel_rfl) (by simp) ?_
              refine AllReadyH.cons (o := ⟨_, _, _, _, _, _⟩) rfl (fun K hK => ?_) AllReadyH.nil
              · obtain ⟨c0, c1, c2, c3, c4, c5⟩ := hn6.c6
                obtain ⟨g0, g1, g2, g3, g4, g5⟩ := hn6.f6
                go_simp
                clear c0 c1 c2 c3 c4 c5 g0 g1 g2 g3 g4 g5
                replace hn5 := hn5.other6 HNE.out (.string z2.c.nm) (.int .i64 z2.c.kd) (.int .u16 (sv z2.c.M)) (.slice z2.ar z2.c.R.length z2.cr) (.slice z2.aw z2.c.Q.length z2.cw) (.slice z2.af z2.c.F.length z2.cf)
                replace hR1 := hR1.set6 hn6 (.string z2.c.nm) (.int .i64 z2.c.kd) (.int .u16 (sv z2.c.M)) (.slice z2.ar z2.c.R.length z2.cr) (.slice z2.aw z2.c.Q.length z2.cw) (.slice z2.af z2.c.F.length z2.cf)
                replace hR2 := hR2.set6 hn6 (.string z2.c.nm) (.int .i64 z2.c.kd) (.int .u16 (sv z2.c.M)) (.slice z2.ar z2.c.R.length z2.cr) (.slice z2.aw z2.c.Q.length z2.cw) (.slice z2.af z2.c.F.length z2.cf)
                replace hn6 := hn6.set6 (.string z2.c.nm) (.int .i64 z2.c.kd) (.int .u16 (sv z2.c.M)) (.slice z2.ar z2.c.R.length z2.cr) (.slice z2.aw z2.c.Q.length z2.cw) (.slice z2.af z2.c.F.length z2.cf)
                replace J := keeps_set6 J hg6 (.string z2.c.nm) (.int .i64 z2.c.kd) (.int .u16 (sv z2.c.M)) (.slice z2.ar z2.c.R.length z2.cr) (.slice z2.aw z2.c.Q.length z2.cw) (.slice z2.af z2.c.F.length z2.cf)
                generalize ((((((V14.setCell ⟨B6, 0, none⟩ (.string z2.c.nm)).setCell ⟨B6, 1, none⟩ (.int .i64 z2.c.kd)).setCell ⟨B6, 2, none⟩ (.int .u16 (sv z2.c.M))).setCell ⟨B6, 3, none⟩ (.slice z2.ar z2.c.R.length z2.cr)).setCell ⟨B6, 4, none⟩ (.slice z2.aw z2.c.Q.length z2.cw)).setCell ⟨B6, 5, none⟩ (.slice z2.af z2.c.F.length z2.cf)) = V15 at *
                refine hK.out _ _ ?_ (fun hHeld => ?_)
                · exact ⟨(HB1.out.keep J).c7, (HB2.out.keep J).c7⟩
                clear hK K
                (try simp only [Act.put]); (try simp only [List.setIfInBounds_toArray]); (try simp only [List.set_cons_succ]); (try simp only [List.set_cons_zero])
                refine wpAnyH_done (by kernel_rfl) ?_ _
                go_wp2_with fail
                go_meet
                case rel => exact ⟨B5, B6, z1, z2, rfl, rfl, HZ1.out, HZ2.out, hn5, hn6, hR1, hR2, J⟩
        · go_simp
          have hn6 := Blk.new V11 32 zG
          have hg6 : W2.heap.size ≤ V11.heap.size := J.size
          have KA := (Keeps.refl V11).alloc (.cells zG 32)
          have hne : V11.heap.size ≠ B5 := by have := hn5.lt; omega
          replace hR1 := hR1.keep KA
          replace hn5 := hn5.keep KA
          replace J := J.trans KA
          clear KA
          generalize V11.alloc (.cells zG 32) = V16 at *
          generalize V11.heap.size = B6 at *
          have HNE := Lib.hid (Ne.symm hne)
          clear hne
          refine hK.out _ _ ?_ (fun hHeld => ?_)
          · exact ⟨(HB1.out.keep J).c7, (HB2.out.keep J).c7⟩
          clear hK K
          (try simp only [Act.put]); (try simp only [List.setIfInBounds_toArray]); (try simp only [List.set_cons_succ]); (try simp only [List.set_cons_zero])
          refine wpAnyH_ready (rs := [3]) (by kernel_rfl) (by simp) ?_
          refine AllReadyH.cons (o := ⟨_, _, _, _, _, _⟩) rfl (fun K hK => ?_) AllReadyH.nil
          · go_simp
            refine (HM.out _ _ _ _ _ _ _ _ _ _ _ _ _ _ _ (by first | exact Or.inl rfl | exact Or.inr rfl) (HKW.out.trans J)).mono ?_
            rintro e V17 ⟨z2, rfl, hz2, hR2, hK9⟩
            have HZ2 := Lib.hid hz2
            clear hz2
            replace hR1 := hR1.keep hK9
            replace hn5 := hn5.keep hK9
            replace hn6 := hn6.keep hK9
            replace J := J.trans hK9
            clear hK9
            unfold vg
            dsimp only
            refine hK.out _ _ ?_ (fun hHeld => ?_)
            · exact ⟨(HB1.out.keep J).c7, (HB2.out.keep J).c7⟩
            clear hK K
            (try simp only [Act.put]); (try simp only [List.setIfInBounds_toArray]); (try simp only [List.set_cons_succ]); (try simp only [List.set_cons_zero])
            refine wpAnyH_ready (rs := [6]) (by kernel_rfl) (by simp) ?_
            refine AllReadyH.cons (o := ⟨_, _, _, _, _, _⟩) rfl (fun K hK => ?_) AllReadyH.nil
            · obtain ⟨c0, c1, c2, c3, c4, c5⟩ := hn5.c6
              obtain ⟨g0, g1, g2, g3, g4, g5⟩ := hn5.f6
              go_simp
              clear c0 c1 c2 c3 c4 c5 g0 g1 g2 g3 g4 g5
              replace hn6 := hn6.other6 HNE.out.symm (.string z1.c.nm) (.int .i64 z1.c.kd) (.int .u16 (sv z1.c.M)) (.slice z1.ar z1.c.R.length z1.cr) (.slice z1.aw z1.c.Q.length z1.cw) (.slice z1.af z1.c.F.length z1.cf)
              replace hR1 := hR1.set6 hn5 (.string z1.c.nm) (.int .i64 z1.c.kd) (.int .u16 (sv z1.c.M)) (.slice z1.ar z1.c.R.length z1.cr) (.slice z1.aw z1.c.Q.length z1.cw) (.slice z1.af z1.c.F.length z1.cf)
              replace hR2 := hR2.set6 hn5 (.string z1.c.nm) (.int .i64 z1.c.kd) (.int .u16 (sv z1.c.M)) (.slice z1.ar z1.c.R.length z1.cr) (.slice z1.aw z1.c.Q.length z1.cw) (.slice z1.af z1.c.F.length z1.cf)
              replace hn5 := hn5.set6 (.string z1.c.nm) (.int .i64 z1.c.kd) (.int .u16 (sv z1.c.M)) (.slice z1.ar z1.c.R.length z1.cr) (.slice z1.aw z1.c.Q.length z1.cw) (.slice z1.af z1.c.F.length z1.cf)
              replace J := keeps_set6 J hg5 (.string z1.c.nm) (.int .i64 z1.c.kd) (.int .u16 (sv z1.c.M)) (.slice z1.ar z1.c.R.length z1.cr) (.slice z1.aw z1.c.Q.length z1.cw) (.slice z1.af z1.c.F.length z1.cf)
              generalize ((((((V17.setCell ⟨B5, 0, none⟩ (.string z1.c.nm)).setCell ⟨B5, 1, none⟩ (.int .i64 z1.c.kd)).setCell ⟨B5, 2, none⟩ (.int .u16 (sv z1.c.M))).setCell ⟨B5, 3, none⟩ (.slice z1.ar z1.c.R.length z1.cr)).setCell ⟨B5, 4, none⟩ (.slice z1.aw z1.c.Q.length z1.cw)).setCell ⟨B5, 5, none⟩ (.slice z1.af z1.c.F.length z1.cf)) = V18 at *
              refine hK.out _ _ ?_ (fun hHeld => ?_)
              · exact ⟨(HB1.out.keep J).c7, (HB2.out.keep J).c7⟩
              clear hK K
              (try simp only [Act.put]); (try simp only [List.setIfInBounds_toArray]); (try simp only [List.set_cons_succ]); (try simp only [List.set_cons_zero])
              refine wpAnyH_ready (rs := [7]) (by kernel_rfl) (by simp) ?_
              refine AllReadyH.cons (o := ⟨_, _, _, _, _, _⟩) rfl (fun K hK => ?_) AllReadyH.nil
              · obtain ⟨c0, c1, c2, c3, c4, c5⟩ := hn6.c6
                obtain ⟨g0, g1, g2, g3, g4, g5⟩ := hn6.f6
                go_simp
                clear c0 c1 c2 c3 c4 c5 g0 g1 g2 g3 g4 g5
                replace hn5 := hn5.other6 HNE.out (.string z2.c.nm) (.int .i64 z2.c.kd) (.int .u16 (sv z2.c.M)) (.slice z2.ar z2.c.R.length z2.cr) (.slice z2.aw z2.c.Q.length z2.cw) (.slice z2.af z2.c.F.length z2.cf)
                replace hR1 := hR1.set6 hn6 (.string z2.c.nm) (.int .i64 z2.c.kd) (.int .u16 (sv z2.c.M)) (.slice z2.ar z2.c.R.length z2.cr) (.slice z2.aw z2.c.Q.length z2.cw) (.slice z2.af z2.c.F.length z2.cf)
                replace hR2 := hR2.set6 hn6 (.string z2.c.nm) (.int .i64 z2.c.kd) (.int .u16 (sv z2.c.M)) (.slice z2.ar z2.c.R.length z2.cr) (.slice z2.aw z2.c.Q.length z2.cw) (.slice z2.af z2.c.F.length z2.cf)
                replace hn6 := hn6.set6 (.string z2.c.nm) (.int .i64 z2.c.kd) (.int .u16 (sv z2.c.M)) (.slice z2.ar z2.c.R.length z2.cr) (.slice z2.aw z2.c.Q.length z2.cw) (.slice z2.af z2.c.F.length z2.cf)
                replace J := keeps_set6 J hg6 (.string z2.c.nm) (.int .i64 z2.c.kd) (.int .u16 (sv z2.c.M)) (.slice z2.ar z2.c.R.length z2.cr) (.slice z2.aw z2.c.Q.length z2.cw) (.slice z2.af z2.c.F.length z2.cf)
                generalize ((((((V18.setCell ⟨B6, 0, none⟩ (.string z2.c.nm)).setCell ⟨B6, 1, none⟩ (.int .i64 z2.c.kd)).setCell ⟨B6, 2, none⟩ (.int .u16 (sv z2.c.M))).setCell ⟨B6, 3, none⟩ (.slice z2.ar z2.c.R.length z2.cr)).setCell ⟨B6, 4, none⟩ (.slice z2.aw z2.c.Q.length z2.cw)).setCell ⟨B6, 5, none⟩ (.slice z2.af z2.c.F.length z2.cf)) = V19 at *
                refine hK.out _ _ ?_ (fun hHeld => ?_)
                · exact ⟨(HB1.out.keep J).c7, (HB2.out.keep J).c7⟩
                clear hK K
                (try simp only [Act.put]); (try simp only [List.setIfInBounds_toArray]); (try simp only [List.set_cons_succ]); (try simp only [List.set_cons_zero])
                refine wpAnyH_done (by kernel_rfl) ?_ _
                go_wp2_with fail
                go_meet
                case rel => exact ⟨B5, B6, z1, z2, rfl, rfl, HZ1.out, HZ2.out, hn5, hn6, hR1, hR2, J⟩
      · go_simp
        have hn6 := Blk.new V1 32 zG
        have hg6 : W2.heap.size ≤ V1.heap.size := J.size
        have KA := (Keeps.refl V1).alloc (.cells zG 32)
        replace hR1 := hR1.keep KA
        replace J := J.trans KA
        clear KA
        generalize V1.alloc (.cells zG 32) = V20 at *
        generalize V1.heap.size = B6 at *
        refine hK.out _ _ ?_ (fun hHeld => ?_)
        · exact ⟨(HB1.out.keep J).c7, (HB2.out.keep J).c7⟩
        clear hK K
        (try simp only [Act.put]); (try simp only [List.setIfInBounds_toArray]); (try simp only [List.set_cons_succ]); (try simp only [List.set_cons_zero])
        refine wpAnyH_ready (rs := [3, 4]) (by kernel_rfl) (by simp) ?_
        refine AllReadyH.cons (o := ⟨_, _, _, _, _, _⟩) rfl (fun K hK => ?_) (AllReadyH.cons (o := ⟨_, _, _, _, _, _⟩) rfl (fun K hK => ?_) AllReadyH.nil)
        · go_simp
          refine (HM.out _ _ _ _ _ _ _ _ _ _ _ _ _ _ _ (by first | exact Or.inl rfl | exact Or.inr rfl) (HKW.out.trans J)).mono ?_
          rintro e V21 ⟨z2, rfl, hz2, hR2, hK9⟩
          have HZ2 := Lib.hid hz2
          clear hz2
          replace hR1 := hR1.keep hK9
          replace hn6 := hn6.keep hK9
          replace J := J.trans hK9
          clear hK9
          unfold vg
          dsimp only
          refine hK.out _ _ ?_ (fun hHeld => ?_)
          · exact ⟨(HB1.out.keep J).c7, (HB2.out.keep J).c7⟩
          clear hK K
          (try simp only [Act.put]); (try simp only [List.setIfInBounds_toArray]); (try simp only [List.set_cons_succ]); (try simp only [List.set_cons_zero])
          refine wpAnyH_ready (rs := [4]) (by kernel_rfl) (by simp) ?_
          refine AllReadyH.cons (o := ⟨_, _, _, _, _, _⟩) rfl (fun K hK => ?_) AllReadyH.nil
          · go_simp
            have hn5 := Blk.new V21 32 zG
            have hg5 : W2.heap.size ≤ V21.heap.size := J.size
            have KA := (Keeps.refl V21).alloc (.cells zG 32)
            have hne : V21.heap.size ≠ B6 := by have := hn6.lt; omega
            replace hR1 := hR1.keep KA
            replace hR2 := hR2.keep KA
            replace hn6 := hn6.keep KA
            replace J := J.trans KA
            clear KA
            generalize V21.alloc (.cells zG 32) = V22 at *
            generalize V21.heap.size = B5 at *
            have HNE := Lib.hid hne
            clear hne
            refine hK.out _ _ ?_ (fun hHeld => ?_)
            · exact ⟨(HB1.out.keep J).c7, (HB2.out.keep J).c7⟩
            clear hK K
            (try simp only [Act.put]); (try simp only [List.setIfInBounds_toArray]); (try simp only [List.set_cons_succ]); (try simp only [List.set_cons_zero])
            refine wpAnyH_ready (rs := [6]) (by kernel_rfl) (by simp) ?_
            refine AllReadyH.cons (o := ⟨_, _, _, _, _, _⟩) rfl (fun K hK => ?_) AllReadyH.nil
            · obtain ⟨c0, c1, c2, c3, c4, c5⟩ := hn5.c6
              obtain ⟨g0, g1, g2, g3, g4, g5⟩ := hn5.f6
              go_simp
              clear c0 c1 c2 c3 c4 c5 g0 g1 g2 g3 g4 g5
              replace hn6 := hn6.other6 HNE.out.symm (.string z1.c.nm) (.int .i64 z1.c.kd) (.int .u16 (sv z1.c.M)) (.slice z1.ar z1.c.R.length z1.cr) (.slice z1.aw z1.c.Q.length z1.cw) (.slice z1.af z1.c.F.length z1.cf)
              replace hR1 := hR1.set6 hn5 (.string z1.c.nm) (.int .i64 z1.c.kd) (.int .u16 (sv z1.c.M)) (.slice z1.ar z1.c.R.length z1.cr) (.slice z1.aw z1.c.Q.length z1.cw) (.slice z1.af z1.c.F.length z1.cf)
              replace hR2 := hR2.set6 hn5 (.string z1.c.nm) (.int .i64 z1.c.kd) (.int .u16 (sv z1.c.M)) (.slice z1.ar z1.c.R.length z1.cr) (.slice z1.aw z1.c.Q.length z1.cw) (.slice z1.af z1.c.F.length z1.cf)
              replace hn5 := hn5.set6 (.string z1.c.nm) (.int .i64 z1.c.kd) (.int .u16 (sv z1.c.M)) (.slice z1.ar z1.c.R.length z1.cr) (.slice z1.aw z1.c.Q.length z1.cw) (.slice z1.af z1.c.F.length z1.cf)
              replace J := keeps_set6 J hg5 (.string z1.c.nm) (.int .i64 z1.c.kd) (.int .u16 (sv z1.c.M)) (.slice z1.ar z1.c.R.length z1.cr) (.slice z1.aw z1.c.Q.length z1.cw) (.slice z1.af z1.c.F.length z1.cf)
              generalize ((((((V22.setCell ⟨B5, 0, none⟩ (.string z1.c.nm)).setCell ⟨B5, 1, none⟩ (.int .i64 z1.c.kd)).setCell ⟨B5, 2, none⟩ (.int .u16 (sv z1.c.M))).setCell ⟨B5, 3, none⟩ (.slice z1.ar z1.c.R.length z1.cr)).setCell ⟨B5, 4, none⟩ (.slice z1.aw z1.c.Q.length z1.cw)).setCell ⟨B5, 5, none⟩ (.slice z1.af z1.c.F.length z1.cf)) = V23 at *
              refine hK.out _ _ ?_ (fun hHeld => ?_)
              · exact ⟨(HB1.out.keep J).c7, (HB2.out.keep J).c7⟩
              clear hK K
              (try simp only [Act.put]); (try simp only [List.setIfInBounds_toArray]); (try simp only [List.set_cons_succ]); (try simp only [List.set_cons_zero])
              refine wpAnyH_ready (rs := [7]) (by kernel_rfl) (by simp) ?_
              refine AllReadyH.cons (o := ⟨_, _, _, _, _, _⟩) rfl (fun K hK => ?_) AllReadyH.nil
              · obtain ⟨c0, c1, c2, c3, c4, c5⟩ := hn6.c6
                obtain ⟨g0, g1, g2, g3, g4, g5⟩ := hn6.f6
                go_simp
                clear c0 c1 c2 c3 c4 c5 g0 g1 g2 g3 g4 g5
                replace hn5 := hn5.other6 HNE.out (.string z2.c.nm) (.int .i64 z2.c.kd) (.int .u16 (sv z2.c.M)) (.slice z2.ar z2.c.R.length z2.cr) (.slice z2.aw z2.c.Q.length z2.cw) (.slice z2.af z2.c.F.length z2.cf)
                replace hR1 := hR1.set6 hn6 (.string z2.c.nm) (.int .i64 z2.c.kd) (.int .u16 (sv z2.c.M)) (.slice z2.ar z2.c.R.length z2.cr) (.slice z2.aw z2.c.Q.length z2.cw) (.slice z2.af z2.c.F.length z2.cf)
                replace hR2 := hR2.set6 hn6 (.string z2.c.nm) (.int .i64 z2.c.kd) (.int .u16 (sv z2.c.M)) (.slice z2.ar z2.c.R.length z2.cr) (.slice z2.aw z2.c.Q.length z2.cw) (.slice z2.af z2.c.F.length z2.cf)
                replace hn6 := hn6.set6 (.string z2.c.nm) (.int .i64 z2.c.kd) (.int .u16 (sv z2.c.M)) (.slice z2.ar z2.c.R.length z2.cr) (.slice z2.aw z2.c.Q.length z2.cw) (.slice z2.af z2.c.F.length z2.cf)
                replace J := keeps_set6 J hg6 (.string z2.c.nm) (.int .i64 z2.c.kd) (.int .u16 (sv z2.c.M)) (.slice z2.ar z2.c.R.length z2.cr) (.slice z2.aw z2.c.Q.length z2.cw) (.slice z2.af z2.c.F.length z2.cf)
                generalize ((((((V23.setCell ⟨B6, 0, none⟩ (.string z2.c.nm)).setCell ⟨B6, 1, none⟩ (.int .i64 z2.c.kd)).setCell ⟨B6, 2, none⟩ (.int .u16 (sv z2.c.M))).setCell ⟨B6, 3, none⟩ (.slice z2.ar z2.c.R.length z2.cr)).setCell ⟨B6, 4, none⟩ (.slice z2.aw z2.c.Q.length z2.cw)).setCell ⟨B6, 5, none⟩ (.slice z2.af z2.c.F.length z2.cf)) = V24 at *
                refine hK.out _ _ ?_ (fun hHeld => ?_)
                · exact ⟨(HB1.out.keep J).c7, (HB2.out.keep J).c7⟩
                clear hK K
                (try simp only [Act.put]); (try simp only [List.setIfInBounds_toArray]); (try simp only [List.set_cons_succ]); (try simp only [List.set_cons_zero])
                refine wpAnyH_done (by kernel_rfl) ?_ _
                go_wp2_with fail
                go_meet
                case rel => exact ⟨B5, B6, z1, z2, rfl, rfl, HZ1.out, HZ2.out, hn5, hn6, hR1, hR2, J⟩
        · go_simp
          have hn5 := Blk.new V20 32 zG
          have hg5 : W2.heap.size ≤ V20.heap.size := J.size
          have KA := (Keeps.refl V20).alloc (.cells zG 32)
          have hne : V20.heap.size ≠ B6 := by have := hn6.lt; omega
          replace hR1 := hR1.keep KA
          replace hn6 := hn6.keep KA
          replace J := J.trans KA
          clear KA
          generalize V20.alloc (.cells zG 32) = V25 at *
          generalize V20.heap.size = B5 at *
          have HNE := Lib.hid hne
          clear hne
          refine hK.out _ _ ?_ (fun hHeld => ?_)
          · exact ⟨(HB1.out.keep J).c7, (HB2.out.keep J).c7⟩
          clear hK K
          (try simp only [Act.put]); (try simp only [List.setIfInBounds_toArray]); (try simp only [List.set_cons_succ]); (try simp only [List.set_cons_zero])
          refine wpAnyH_ready (rs := [3]) (by kernel_rfl) (by simp) ?_
          refine AllReadyH.cons (o := ⟨_, _, _, _, _, _⟩) rfl (fun K hK => ?_) AllReadyH.nil
          · go_simp
            refine (HM.out _ _ _ _ _ _ _ _ _ _ _ _ _ _ _ (by first | exact Or.inl rfl | exact Or.inr rfl) (HKW.out.trans J)).mono ?_
            rintro e V26 ⟨z2, rfl, hz2, hR2, hK9⟩
            have HZ2 := Lib.hid hz2
            clear hz2
            replace hR1 := hR1.keep hK9
            replace hn5 := hn5.keep hK9
            replace hn6 := hn6.keep hK9
            replace J := J.trans hK9
            clear hK9
            unfold vg
            dsimp only
            refine hK.out _ _ ?_ (fun hHeld => ?_)
            · exact ⟨(HB1.out.keep J).c7, (HB2.out.keep J).c7⟩
            clear hK K
            (try simp only [Act.put]); (try simp only [List.setIfInBounds_toArray]); (try simp only [List.set_cons_succ]); (try simp only [List.set_cons_zero])
            refine wpAnyH_ready (rs := [6]) (by kernel_rfl) (by simp) ?_
            refine AllReadyH.cons (o := ⟨_, _, _, _, _, _⟩) rfl (fun K hK => ?_) AllReadyH.nil
            · obtain ⟨c0, c1, c2, c3, c4, c5⟩ := hn5.c6
              obtain ⟨g0, g1, g2, g3, g4, g5⟩ := hn5.f6
              go_simp
              clear c0 c1 c2 c3 c4 c5 g0 g1 g2 g3 g4 g5
              replace hn6 := hn6.other6 HNE.out.symm (.string z1.c.nm) (.int .i64 z1.c.kd) (.int .u16 (sv z1.c.M)) (.slice z1.ar z1.c.R.length z1.cr) (.slice z1.aw z1.c.Q.length z1.cw) (.slice z1.af z1.c.F.length z1.cf)
              replace hR1 := hR1.set6 hn5 (.string z1.c.nm) (.int .i64 z1.c.kd) (.int .u16 (sv z1.c.M)) (.slice z1.ar z1.c.R.length z1.cr) (.slice z1.aw z1.c.Q.length z1.cw) (.slice z1.af z1.c.F.length z1.cf)
              replace hR2 := hR2.set6 hn5 (.string z1.c.nm) (.int .i64 z1.c.kd) (.int .u16 (sv z1.c.M)) (.slice z1.ar z1.c.R.length z1.cr) (.slice z1.aw z1.c.Q.length z1.cw) (.slice z1.af z1.c.F.length z1.cf)
              replace hn5 := hn5.set6 (.string z1.c.nm) (.int .i64 z1.c.kd) (.int .u16 (sv z1.c.M)) (.slice z1.ar z1.c.R.length z1.cr) (.slice z1.aw z1.c.Q.length z1.cw) (.slice z1.af z1.c.F.length z1.cf)
              replace J := keeps_set6 J hg5 (.string z1.c.nm) (.int .i64 z1.c.kd) (.int .u16 (sv z1.c.M)) (.slice z1.ar z1.c.R.length z1.cr) (.slice z1.aw z1.c.Q.length z1.cw) (.slice z1.af z1.c.F.length z1.cf)
              generalize ((((((V26.setCell ⟨B5, 0, none⟩ (.string z1.c.nm)).setCell ⟨B5, 1, none⟩ (.int .i64 z1.c.kd)).setCell ⟨B5, 2, none⟩ (.int .u16 (sv z1.c.M))).setCell ⟨B5, 3, none⟩ (.slice z1.ar z1.c.R.length z1.cr)).setCell ⟨B5, 4, none⟩ (.slice z1.aw z1.c.Q.length z1.cw)).setCell ⟨B5, 5, none⟩ (.slice z1.af z1.c.F.length z1.cf)) = V27 at *
              refine hK.out _ _ ?_ (fun hHeld => ?_)
              · exact ⟨(HB1.out.keep J).c7, (HB2.out.keep J).c7⟩
              clear hK K
              (try simp only [Act.put]); (try simp only [List.setIfInBounds_toArray]); (try simp only [List.set_cons_succ]); (try simp only [List.set_cons_zero])
              refine wpAnyH_ready (rs := [7]) (by kernel_rfl) (by simp) ?_
              refine AllReadyH.cons (o := ⟨_, _, _, _, _, _⟩) rfl (fun K hK => ?_) AllReadyH.nil
              · obtain ⟨c0, c1, c2, c3, c4, c5⟩ := hn6.c6
                obtain ⟨g0, g1, g2, g3, g4, g5⟩ := hn6.f6
                go_simp
                clear c0 c1 c2 c3 c4 c5 g0 g1 g2 g3 g4 g5
                replace hn5 := hn5.other6 HNE.out (.string z2.c.nm) (.int .i64 z2.c.kd) (.int .u16 (sv z2.c.M)) (.slice z2.ar z2.c.R.length z2.cr) (.slice z2.aw z2.c.Q.length z2.cw) (.slice z2.af z2.c.F.length z2.cf)
                replace hR1 := hR1.set6 hn6 (.string z2.c.nm) (.int .i64 z2.c.kd) (.int .u16 (sv z2.c.M)) (.slice z2.ar z2.c.R.length z2.cr) (.slice z2.aw z2.c.Q.length z2.cw) (.slice z2.af z2.c.F.length z2.cf)
                replace hR2 := hR2.set6 hn6 (.string z2.c.nm) (.int .i64 z2.c.kd) (.int .u16 (sv z2.c.M)) (.slice z2.ar z2.c.R.length z2.cr) (.slice z2.aw z2.c.Q.length z2.cw) (.slice z2.af z2.c.F.length z2.cf)
                replace hn6 := hn6.set6 (.string z2.c.nm) (.int .i64 z2.c.kd) (.int .u16 (sv z2.c.M)) (.slice z2.ar z2.c.R.length z2.cr) (.slice z2.aw z2.c.Q.length z2.cw) (.slice z2.af z2.c.F.length z2.cf)
                replace J := keeps_set6 J hg6 (.string z2.c.nm) (.int .i64 z2.c.kd) (.int .u16 (sv z2.c.M)) (.slice z2.ar z2.c.R.length z2.cr) (.slice z2.aw z2.c.Q.length z2.cw) (.slice z2.af z2.c.F.length z2.cf)
                generalize ((((((V27.setCell ⟨B6, 0, none⟩ (.string z2.c.nm)).setCell ⟨B6, 1, none⟩ (.int .i64 z2.c.kd)).setCell ⟨B6, 2, none⟩ (.int .u16 (sv z2.c.M))).setCell ⟨B6, 3, none⟩ (.slice z2.ar z2.c.R.length z2.cr)).setCell ⟨B6, 4, none⟩ (.slice z2.aw z2.c.Q.length z2.cw)).setCell ⟨B6, 5, none⟩ (.slice z2.af z2.c.F.length z2.cf)) = V28 at *
                refine hK.out _ _ ?_ (fun hHeld => ?_)
                · exact ⟨(HB1.out.keep J).c7, (HB2.out.keep J).c7⟩
                clear hK K
                (try simp only [Act.put]); (try simp only [List.setIfInBounds_toArray]); (try simp only [List.set_cons_succ]); (try simp only [List.set_cons_zero])
                refine wpAnyH_done (by kernel_rfl) ?_ _
                go_wp2_with fail
                go_meet
                case rel => exact ⟨B5, B6, z1, z2, rfl, rfl, HZ1.out, HZ2.out, hn5, hn6, hR1, hR2, J⟩
    · go_simp
      have hn5 := Blk.new V0 32 zG
      have hg5 : W2.heap.size ≤ V0.heap.size := J.size
      have KA := (Keeps.refl V0).alloc (.cells zG 32)
      replace J := J.trans KA
      clear KA
      generalize V0.alloc (.cells zG 32) = V29 at *
      generalize V0.heap.size = B5 at *
      refine hK.out _ _ ?_ (fun hHeld => ?_)
      · exact ⟨(HB1.out.keep J).c7, (HB2.out.keep J).c7⟩
      clear hK K
      (try simp only [Act.put]); (try simp only [List.setIfInBounds_toArray]); (try simp only [List.set_cons_succ]); (try simp only [List.set_cons_zero])
      refine wpAnyH_ready (rs := [1, 5]) (by kernel_rfl) (by simp) ?_
      refine AllReadyH.cons (o := ⟨_, _, _, _, _, _⟩) rfl (fun K hK => ?_) (AllReadyH.cons (o := ⟨_, _, _, _, _, _⟩) rfl (fun K hK => ?_) AllReadyH.nil)
      · go_simp
        refine (HM.out _ _ _ _ _ _ _ _ _ _ _ _ _ _ _ (by first | exact Or.inl rfl | exact Or.inr rfl) (HKW.out.trans J)).mono ?_
        rintro e V30 ⟨z1, rfl, hz1, hR1, hK9⟩
        have HZ1 := Lib.hid hz1
        clear hz1
        replace hn5 := hn5.keep hK9
        replace J := J.trans hK9
        clear hK9
        unfold vg
        dsimp only
        refine hK.out _ _ ?_ (fun hHeld => ?_)
        · exact ⟨(HB1.out.keep J).c7, (HB2.out.keep J).c7⟩
        clear hK K
        (try simp only [Act.put]); (try simp only [List.setIfInBounds_toArray]); (try simp only [List.set_cons_succ]); (try simp only [List.set_cons_zero])
        refine wpAnyH_ready (rs := [3, 5]) (by kernel_rfl) (by simp) ?_
        refine AllReadyH.cons (o := ⟨_, _, _, _, _, _⟩) rfl (fun K hK => ?_) (AllReadyH.cons (o := ⟨_, _, _, _, _, _⟩) rfl (fun K hK => ?_) AllReadyH.nil)
        · go_simp
          refine (HM.out _ _ _ _ _ _ _ _ _ _ _ _ _ _ _ (by first | exact Or.inl rfl | exact Or.inr rfl) (HKW.out.trans J)).mono ?_
          rintro e V31 ⟨z2, rfl, hz2, hR2, hK9⟩
          have HZ2 := Lib.hid hz2
          clear hz2
          replace hR1 := hR1.keep hK9
          replace hn5 := hn5.keep hK9
          replace J := J.trans hK9
          clear hK9
          unfold vg
          dsimp only
          refine hK.out _ _ ?_ (fun hHeld => ?_)
          · exact ⟨(HB1.out.keep J).c7, (HB2.out.keep J).c7⟩
          clear hK K
          (try simp only [Act.put]); (try simp only [List.setIfInBounds_toArray]); (try simp only [List.set_cons_succ]); (try simp only [List.set_cons_zero])
          refine wpAnyH_ready (rs := [5]) (by kernel_rfl) (by simp) ?_
          refine AllReadyH.cons (o := ⟨_, _, _, _, _, _⟩) rfl (fun K hK => ?_) AllReadyH.nil
          · go_simp
            have hn6 := Blk.new V31 32 zG
            have hg6 : W2.heap.size ≤ V31.heap.size := J.size
            have KA := (Keeps.refl V31).alloc (.cells zG 32)
            have hne : V31.heap.size ≠ B5 := by have := hn5.lt; omega
            replace hR1 := hR1.keep KA
            replace hR2 := hR2.keep KA
            replace hn5 := hn5.keep KA
            replace J := J.trans KA
            clear KA
            generalize V31.alloc (.cells zG 32) = V32 at *
            generalize V31.heap.size = B6 at *
            have HNE := Lib.hid (Ne.symm hne)
            clear hne
            refine hK.out _ _ ?_ (fun hHeld => ?_)
            · exact ⟨(HB1.out.keep J).c7, (HB2.out.keep J).c7⟩
            clear hK K
            (try simp only [Act.put]); (try simp only [List.setIfInBounds_toArray]); (try simp only [List.set_cons_succ]); (try simp only [List.set_cons_zero])
            refine wpAnyH_ready (rs := [6]) (by kernel_rfl) (by simp) ?_
            refine AllReadyH.cons (o := ⟨_, _, _, _, _, _⟩) rfl (fun K hK => ?_) AllReadyH.nil
            · obtain ⟨c0, c1, c2, c3, c4, c5⟩ := hn5.c6
              obtain ⟨g0, g1, g2, g3, g4, g5⟩ := hn5.f6
              go_simp
              clear c0 c1 c2 c3 c4 c5 g0 g1 g2 g3 g4 g5
              replace hn6 := hn6.other6 HNE.out.symm (.string z1.c.nm) (.int .i64 z1.c.kd) (.int .u16 (sv z1.c.M)) (.slice z1.ar z1.c.R.length z1.cr) (.slice z1.aw z1.c.Q.length z1.cw) (.slice z1.af z1.c.F.length z1.cf)
              replace hR1 := hR1.set6 hn5 (.string z1.c.nm) (.int .i64 z1.c.kd) (.int .u16 (sv z1.c.M)) (.slice z1.ar z1.c.R.length z1.cr) (.slice z1.aw z1.c.Q.length z1.cw) (.slice z1.af z1.c.F.length z1.cf)
              replace hR2 := hR2.set6 hn5 (.string z1.c.nm) (.int .i64 z1.c.kd) (.int .u16 (sv z1.c.M)) (.slice z1.ar z1.c.R.length z1.cr) (.slice z1.aw z1.c.Q.length z1.cw) (.slice z1.af z1.c.F.length z1.cf)
              replace hn5 := hn5.set6 (.string z1.c.nm) (.int .i64 z1.c.kd) (.int .u16 (sv z1.c.M)) (.slice z1.ar z1.c.R.length z1.cr) (.slice z1.aw z1.c.Q.length z1.cw) (.slice z1.af z1.c.F.length z1.cf)
              replace J := keeps_set6 J hg5 (.string z1.c.nm) (.int .i64 z1.c.kd) (.int .u16 (sv z1.c.M)) (.slice z1.ar z1.c.R.length z1.cr) (.slice z1.aw z1.c.Q.length z1.cw) (.slice z1.af z1.c.F.length z1.cf)
              generalize ((((((V32.setCell ⟨B5, 0, none⟩ (.string z1.c.nm)).setCell ⟨B5, 1, none⟩ (.int .i64 z1.c.kd)).setCell ⟨B5, 2, none⟩ (.int .u16 (sv z1.c.M))).setCell ⟨B5, 3, none⟩ (.slice z1.ar z1.c.R.length z1.cr)).setCell ⟨B5, 4, none⟩ (.slice z1.aw z1.c.Q.length z1.cw)).setCell ⟨B5, 5, none⟩ (.slice z1.af z1.c.F.length z1.cf)) = V33 at *
              refine hK.out _ _ ?_ (fun hHeld => ?_)
              · exact ⟨(HB1.out.keep J).c7, (HB2.out.keep J).c7⟩
              clear hK K
              (try simp only [Act.put]); (try simp only [List.setIfInBounds_toArray]); (try simp only [List.set_cons_succ]); (try simp only [List.set_cons_zero])
              refine wpAnyH_ready (rs := [7]) (by kernel_rfl) (by simp) ?_
              refine AllReadyH.cons (o := ⟨_, _, _, _, _, _⟩) rfl (fun K hK => ?_) AllReadyH.nil
              · obtain ⟨c0, c1, c2, c3, c4, c5⟩ := hn6.c6
                obtain ⟨g0, g1, g2, g3, g4, g5⟩ := hn6.f6
                go_simp
                clear c0 c1 c2 c3 c4 c5 g0 g1 g2 g3 g4 g5
                replace hn5 := hn5.other6 HNE.out (.string z2.c.nm) (.int .i64 z2.c.kd) (.int .u16 (sv z2.c.M)) (.slice z2.ar z2.c.R.length z2.cr) (.slice z2.aw z2.c.Q.length z2.cw) (.slice z2.af z2.c.F.length z2.cf)
                replace hR1 := hR1.set6 hn6 (.string z2.c.nm) (.int .i64 z2.c.kd) (.int .u16 (sv z2.c.M)) (.slice z2.ar z2.c.R.length z2.cr) (.slice z2.aw z2.c.Q.length z2.cw) (.slice z2.af z2.c.F.length z2.cf)
                replace hR2 := hR2.set6 hn6 (.string z2.c.nm) (.int .i64 z2.c.kd) (.int .u16 (sv z2.c.M)) (.slice z2.ar z2.c.R.length z2.cr) (.slice z2.aw z2.c.Q.length z2.cw) (.slice z2.af z2.c.F.length z2.cf)
                replace hn6 := hn6.set6 (.string z2.c.nm) (.int .i64 z2.c.kd) (.int .u16 (sv z2.c.M)) (.slice z2.ar z2.c.R.length z2.cr) (.slice z2.aw z2.c.Q.length z2.cw) (.slice z2.af z2.c.F.length z2.cf)
                replace J := keeps_set6 J hg6 (.string z2.c.nm) (.int .i64 z2.c.kd) (.int .u16 (sv z2.c.M)) (.slice z2.ar z2.c.R.length z2.cr) (.slice z2.aw z2.c.Q.length z2.cw) (.slice z2.af z2.c.F.length z2.cf)
                generalize ((((((V33.setCell ⟨B6, 0, none⟩ (.string z2.c.nm)).setCell ⟨B6, 1, none⟩ (.int .i64 z2.c.kd)).setCell ⟨B6, 2, none⟩ (.int .u16 (sv z2.c.M))).setCell ⟨B6, 3, none⟩ (.slice z2.ar z2.c.R.length z2.cr)).setCell ⟨B6, 4, none⟩ (.slice z2.aw z2.c.Q.length z2.cw)).setCell ⟨B6, 5, none⟩ (.slice z2.af z2.c.F.length z2.cf)) = V34 at *
                refine hK.out _ _ ?_ (fun hHeld => ?_)
                · exact ⟨(HB1.out.keep J).c7, (HB2.out.keep J).c7⟩
                clear hK K
                (try simp only [Act.put]); (try simp only [List.setIfInBounds_toArray]); (try simp only [List.set_cons_succ]); (try simp only [List.set_cons_zero])
                refine wpAnyH_done (by kernel_rfl) ?_ _
                go_wp2_with fail
                go_meet
                case rel => exact ⟨B5, B6, z1, z2, rfl, rfl, HZ1.out, HZ2.out, hn5, hn6, hR1, hR2, J⟩
        · go_simp
          have hn6 := Blk.new V30 32 zG
          have hg6 : W2.heap.size ≤ V30.heap.size := J.size
          have KA := (Keeps.refl V30).alloc (.cells zG 32)
          have hne : V30.heap.size ≠ B5 := by have := hn5.lt; omega
          replace hR1 := hR1.keep KA
          replace hn5 := hn5.keep KA
          replace J := J.trans KA
          clear KA
          generalize V30.alloc (.cells zG 32) = V35 at *
          generalize V30.heap.size = B6 at *
          have HNE := Lib.hid (Ne.symm hne)
          clear hne
          refine hK.out _ _ ?_ (fun hHeld => ?_)
          · exact ⟨(HB1.out.keep J).c7, (HB2.out.keep J).c7⟩
          clear hK K
          (try simp only [Act.put]); (try simp only [List.setIfInBounds_toArray]); (try simp only [List.set_cons_succ]); (try simp only [List.set_cons_zero])
          refine wpAnyH_ready (rs := [3]) (by kernel_rfl) (by simp) ?_
          refine AllReadyH.cons (o := ⟨_, _, _, _, _, _⟩) rfl (fun K hK => ?_) AllReadyH.nil
          · go_simp
            refine (HM.out _ _ _ _ _ _ _ _ _ _ _ _ _ _ _ (by first | exact Or.inl rfl | exact Or.inr rfl) (HKW.out.trans J)).mono ?_
            rintro e V36 ⟨z2, rfl, hz2, hR2, hK9⟩
            have HZ2 := Lib.hid hz2
            clear hz2
            replace hR1 := hR1.keep hK9
            replace hn5 := hn5.keep hK9
            replace hn6 := hn6.keep hK9
            replace J := J.trans hK9
            clear hK9
            unfold vg
            dsimp only
            refine hK.out _ _ ?_ (fun hHeld => ?_)
            · exact ⟨(HB1.out.keep J).c7, (HB2.out.keep J).c7⟩
            clear hK K
            (try simp only [Act.put]); (try simp only [List.setIfInBounds_toArray]); (try simp only [List.set_cons_succ]); (try simp only [List.set_cons_zero])
            refine wpAnyH_ready (rs := [6]) (by kernel_rfl) (by simp) ?_
            refine AllReadyH.cons (o := ⟨_, _, _, _, _, _⟩) rfl (fun K hK => ?_) AllReadyH.nil
            · obtain ⟨c0, c1, c2, c3, c4, c5⟩ := hn5.c6
              obtain ⟨g0, g1, g2, g3, g4, g5⟩ := hn5.f6
              go_simp
              clear c0 c1 c2 c3 c4 c5 g0 g1 g2 g3 g4 g5
              replace hn6 := hn6.other6 HNE.out.symm (.string z1.c.nm) (.int .i64 z1.c.kd) (.int .u16 (sv z1.c.M)) (.slice z1.ar z1.c.R.length z1.cr) (.slice z1.aw z1.c.Q.length z1.cw) (.slice z1.af z1.c.F.length z1.cf)
              replace hR1 := hR1.set6 hn5 (.string z1.c.nm) (.int .i64 z1.c.kd) (.int .u16 (sv z1.c.M)) (.slice z1.ar z1.c.R.length z1.cr) (.slice z1.aw z1.c.Q.length z1.cw) (.slice z1.af z1.c.F.length z1.cf)
              replace hR2 := hR2.set6 hn5 (.string z1.c.nm) (.int .i64 z1.c.kd) (.int .u16 (sv z1.c.M)) (.slice z1.ar z1.c.R.length z1.cr) (.slice z1.aw z1.c.Q.length z1.cw) (.slice z1.af z1.c.F.length z1.cf)
              replace hn5 := hn5.set6 (.string z1.c.nm) (.int .i64 z1.c.kd) (.int .u16 (sv z1.c.M)) (.slice z1.ar z1.c.R.length z1.cr) (.slice z1.aw z1.c.Q.length z1.cw) (.slice z1.af z1.c.F.length z1.cf)
              replace J := keeps_set6 J hg5 (.string z1.c.nm) (.int .i64 z1.c.kd) (.int .u16 (sv z1.c.M)) (.slice z1.ar z1.c.R.length z1.cr) (.slice z1.aw z1.c.Q.length z1.cw) (.slice z1.af z1.c.F.length z1.cf)
              generalize ((((((V36.setCell ⟨B5, 0, none⟩ (.string z1.c.nm)).setCell ⟨B5, 1, none⟩ (.int .i64 z1.c.kd)).setCell ⟨B5, 2, none⟩ (.int .u16 (sv z1.c.M))).setCell ⟨B5, 3, none⟩ (.slice z1.ar z1.c.R.length z1.cr)).setCell ⟨B5, 4, none⟩ (.slice z1.aw z1.c.Q.length z1.cw)).setCell ⟨B5, 5, none⟩ (.slice z1.af z1.c.F.length z1.cf)) = V37 at *
              refine hK.out _ _ ?_ (fun hHeld => ?_)
              · exact ⟨(HB1.out.keep J).c7, (HB2.out.keep J).c7⟩
              clear hK K
              (try simp only [Act.put]); (try simp only [List.setIfInBounds_toArray]); (try simp only [List.set_cons_succ]); (try simp only [List.set_cons_zero])
              refine wpAnyH_ready (rs := [7]) (by kernel_rfl) (by simp) ?_
              refine AllReadyH.cons (o := ⟨_, _, _, _, _, _⟩) rfl (fun K hK => ?_) AllReadyH.nil
              · obtain ⟨c0, c1, c2, c3, c4, c5⟩ := hn6.c6
                obtain ⟨g0, g1, g2, g3, g4, g5⟩ := hn6.f6
                go_simp
                clear c0 c1 c2 c3 c4 c5 g0 g1 g2 g3 g4 g5
                replace hn5 := hn5.other6 HNE.out (.string z2.c.nm) (.int .i64 z2.c.kd) (.int .u16 (sv z2.c.M)) (.slice z2.ar z2.c.R.length z2.cr) (.slice z2.aw z2.c.Q.length z2.cw) (.slice z2.af z2.c.F.length z2.cf)
                replace hR1 := hR1.set6 hn6 (.string z2.c.nm) (.int .i64 z2.c.kd) (.int .u16 (sv z2.c.M)) (.slice z2.ar z2.c.R.length z2.cr) (.slice z2.aw z2.c.Q.length z2.cw) (.slice z2.af z2.c.F.length z2.cf)
                replace hR2 := hR2.set6 hn6 (.string z2.c.nm) (.int .i64 z2.c.kd) (.int .u16 (sv z2.c.M)) (.slice z2.ar z2.c.R.length z2.cr) (.slice z2.aw z2.c.Q.length z2.cw) (.slice z2.af z2.c.F.length z2.cf)
                replace hn6 := hn6.set6 (.string z2.c.nm) (.int .i64 z2.c.kd) (.int .u16 (sv z2.c.M)) (.slice z2.ar z2.c.R.length z2.cr) (.slice z2.aw z2.c.Q.length z2.cw) (.slice z2.af z2.c.F.length z2.cf)
                replace J := keeps_set6 J hg6 (.string z2.c.nm) (.int .i64 z2.c.kd) (.int .u16 (sv z2.c.M)) (.slice z2.ar z2.c.R.length z2.cr) (.slice z2.aw z2.c.Q.length z2.cw) (.slice z2.af z2.c.F.length z2.cf)
                generalize ((((((V37.setCell ⟨B6, 0, none⟩ (.string z2.c.nm)).setCell ⟨B6, 1, none⟩ (.int .i64 z2.c.kd)).setCell ⟨B6, 2, none⟩ (.int .u16 (sv z2.c.M))).setCell ⟨B6, 3, none⟩ (.slice z2.ar z2.c.R.length z2.cr)).setCell ⟨B6, 4, none⟩ (.slice z2.aw z2.c.Q.length z2.cw)).setCell ⟨B6, 5, none⟩ (.slice z2.af z2.c.F.length z2.cf)) = V38 at *
                refine hK.out _ _ ?_ (fun hHeld => ?_)
                · exact ⟨(HB1.out.keep J).c7, (HB2.out.keep J).c7⟩
                clear hK K
                (try simp only [Act.put]); (try simp only [List.setIfInBounds_toArray]); (try simp only [List.set_cons_succ]); (try simp only [List.set_cons_zero])
                refine wpAnyH_done (by kernel_rfl) ?_ _
                go_wp2_with fail
                go_meet
                case rel => exact ⟨B5, B6, z1, z2, rfl, rfl, HZ1.out, HZ2.out, hn5, hn6, hR1, hR2, J⟩
      · go_simp
        have hn6 := Blk.new V29 32 zG
        have hg6 : W2.heap.size ≤ V29.heap.size := J.size
        have KA := (Keeps.refl V29).alloc (.cells zG 32)
        have hne : V29.heap.size ≠ B5 := by have := hn5.lt; omega
        replace hn5 := hn5.keep KA
        replace J := J.trans KA
        clear KA
        generalize V29.alloc (.cells zG 32) = V39 at *
        generalize V29.heap.size = B6 at *
        have HNE := Lib.hid (Ne.symm hne)
        clear hne
        refine hK.out _ _ ?_ (fun hHeld => ?_)
        · exact ⟨(HB1.out.keep J).c7, (HB2.out.keep J).c7⟩
        clear hK K
        (try simp only [Act.put]); (try simp only [List.setIfInBounds_toArray]); (try simp only [List.set_cons_succ]); (try simp only [List.set_cons_zero])
        refine wpAnyH_ready (rs := [1]) (by kernel_rfl) (by simp) ?_
        refine AllReadyH.cons (o := ⟨_, _, _, _, _, _⟩) rfl (fun K hK => ?_) AllReadyH.nil
        · go_simp
          refine (HM.out _ _ _ _ _ _ _ _ _ _ _ _ _ _ _ (by first | exact Or.inl rfl | exact Or.inr rfl) (HKW.out.trans J)).mono ?_
          rintro e V40 ⟨z1, rfl, hz1, hR1, hK9⟩
          have HZ1 := Lib.hid hz1
          clear hz1
          replace hn5 := hn5.keep hK9
          replace hn6 := hn6.keep hK9
          replace J := J.trans hK9
          clear hK9
          unfold vg
          dsimp only
          refine hK.out _ _ ?_ (fun hHeld => ?_)
          · exact ⟨(HB1.out.keep J).c7, (HB2.out.keep J).c7⟩
          clear hK K
          (try simp only [Act.put]); (try simp only [List.setIfInBounds_toArray]); (try simp only [List.set_cons_succ]); (try simp only [List.set_cons_zero])
          refine wpAnyH_ready (rs := [3]) (by kernel_rfl) (by simp) ?_
          refine AllReadyH.cons (o := ⟨_, _, _, _, _, _⟩) rfl (fun K hK => ?_) AllReadyH.nil
          · go_simp
            refine (HM.out _ _ _ _ _ _ _ _ _ _ _ _ _ _ _ (by first | exact Or.inl rfl | exact Or.inr rfl) (HKW.out.trans J)).mono ?_
            rintro e V41 ⟨z2, rfl, hz2, hR2, hK9⟩
            have HZ2 := Lib.hid hz2
            clear hz2
            replace hR1 := hR1.keep hK9
            replace hn5 := hn5.keep hK9
            replace hn6 := hn6.keep hK9
            replace J := J.trans hK9
            clear hK9
            unfold vg
            dsimp only
            refine hK.out _ _ ?_ (fun hHeld => ?_)
            · exact ⟨(HB1.out.keep J).c7, (HB2.out.keep J).c7⟩
            clear hK K
            (try simp only [Act.put]); (try simp only [List.setIfInBounds_toArray]); (try simp only [List.set_cons_succ]); (try simp only [List.set_cons_zero])
            refine wpAnyH_ready (rs := [6]) (by kernel_rfl) (by simp) ?_
            refine AllReadyH.cons (o := ⟨_, _, _, _, _, _⟩) rfl (fun K hK => ?_) AllReadyH.nil
            · obtain ⟨c0, c1, c2, c3, c4, c5⟩ := hn5.c6
              obtain ⟨g0, g1, g2, g3, g4, g5⟩ := hn5.f6
              go_simp
              clear c0 c1 c2 c3 c4 c5 g0 g1 g2 g3 g4 g5
              replace hn6 := hn6.other6 HNE.out.symm (.string z1.c.nm) (.int .i64 z1.c.kd) (.int .u16 (sv z1.c.M)) (.slice z1.ar z1.c.R.length z1.cr) (.slice z1.aw z1.c.Q.length z1.cw) (.slice z1.af z1.c.F.length z1.cf)
              replace hR1 := hR1.set6 hn5 (.string z1.c.nm) (.int .i64 z1.c.kd) (.int .u16 (sv z1.c.M)) (.slice z1.ar z1.c.R.length z1.cr) (.slice z1.aw z1.c.Q.length z1.cw) (.slice z1.af z1.c.F.length z1.cf)
              replace hR2 := hR2.set6 hn5 (.string z1.c.nm) (.int .i64 z1.c.kd) (.int .u16 (sv z1.c.M)) (.slice z1.ar z1.c.R.length z1.cr) (.slice z1.aw z1.c.Q.length z1.cw) (.slice z1.af z1.c.F.length z1.cf)
              replace hn5 := hn5.set6 (.string z1.c.nm) (.int .i64 z1.c.kd) (.int .u16 (sv z1.c.M)) (.slice z1.ar z1.c.R.length z1.cr) (.slice z1.aw z1.c.Q.length z1.cw) (.slice z1.af z1.c.F.length z1.cf)
              replace J := keeps_set6 J hg5 (.string z1.c.nm) (.int .i64 z1.c.kd) (.int .u16 (sv z1.c.M)) (.slice z1.ar z1.c.R.length z1.cr) (.slice z1.aw z1.c.Q.length z1.cw) (.slice z1.af z1.c.F.length z1.cf)
              generalize ((((((V41.setCell ⟨B5, 0, none⟩ (.string z1.c.nm)).setCell ⟨B5, 1, none⟩ (.int .i64 z1.c.kd)).setCell ⟨B5, 2, none⟩ (.int .u16 (sv z1.c.M))).setCell ⟨B5, 3, none⟩ (.slice z1.ar z1.c.R.length z1.cr)).setCell ⟨B5, 4, none⟩ (.slice z1.aw z1.c.Q.length z1.cw)).setCell ⟨B5, 5, none⟩ (.slice z1.af z1.c.F.length z1.cf)) = V42 at *
              refine hK.out _ _ ?_ (fun hHeld => ?_)
              · exact ⟨(HB1.out.keep J).c7, (HB2.out.keep J).c7⟩
              clear hK K
              (try simp only [Act.put]); (try simp only [List.setIfInBounds_toArray]); (try simp only [List.set_cons_succ]); (try simp only [List.set_cons_zero])
              refine wpAnyH_ready (rs := [7]) (by kernel_rfl) (by simp) ?_
              refine AllReadyH.cons (o := ⟨_, _, _, _, _, _⟩) rfl (fun K hK => ?_) AllReadyH.nil
              · obtain ⟨c0, c1, c2, c3, c4, c5⟩ := hn6.c6
                obtain ⟨g0, g1, g2, g3, g4, g5⟩ := hn6.f6
                go_simp
                clear c0 c1 c2 c3 c4 c5 g0 g1 g2 g3 g4 g5
                replace hn5 := hn5.other6 HNE.out (.string z2.c.nm) (.int .i64 z2.c.kd) (.int .u16 (sv z2.c.M)) (.slice z2.ar z2.c.R.length z2.cr) (.slice z2.aw z2.c.Q.length z2.cw) (.slice z2.af z2.c.F.length z2.cf)
                replace hR1 := hR1.set6 hn6 (.string z2.c.nm) (.int .i64 z2.c.kd) (.int .u16 (sv z2.c.M)) (.slice z2.ar z2.c.R.length z2.cr) (.slice z2.aw z2.c.Q.length z2.cw) (.slice z2.af z2.c.F.length z2.cf)
                replace hR2 := hR2.set6 hn6 (.string z2.c.nm) (.int .i64 z2.c.kd) (.int .u16 (sv z2.c.M)) (.slice z2.ar z2.c.R.length z2.cr) (.slice z2.aw z2.c.Q.length z2.cw) (.slice z2.af z2.c.F.length z2.cf)
                replace hn6 := hn6.set6 (.string z2.c.nm) (.int .i64 z2.c.kd) (.int .u16 (sv z2.c.M)) (.slice z2.ar z2.c.R.length z2.cr) (.slice z2.aw z2.c.Q.length z2.cw) (.slice z2.af z2.c.F.length z2.cf)
                replace J := keeps_set6 J hg6 (.string z2.c.nm) (.int .i64 z2.c.kd) (.int .u16 (sv z2.c.M)) (.slice z2.ar z2.c.R.length z2.cr) (.slice z2.aw z2.c.Q.length z2.cw) (.slice z2.af z2.c.F.length z2.cf)
                generalize ((((((V42.setCell ⟨B6, 0, none⟩ (.string z2.c.nm)).setCell ⟨B6, 1, none⟩ (.int .i64 z2.c.kd)).setCell ⟨B6, 2, none⟩ (.int .u16 (sv z2.c.M))).setCell ⟨B6, 3, none⟩ (.slice z2.ar z2.c.R.length z2.cr)).setCell ⟨B6, 4, none⟩ (.slice z2.aw z2.c.Q.length z2.cw)).setCell ⟨B6, 5, none⟩ (.slice z2.af z2.c.F.length z2.cf)) = V43 at *
                refine hK.out _ _ ?_ (fun hHeld => ?_)
                · exact ⟨(HB1.out.keep J).c7, (HB2.out.keep J).c7⟩
                clear hK K
                (try simp only [Act.put]); (try simp only [List.setIfInBounds_toArray]); (try simp only [List.set_cons_succ]); (try simp only [List.set_cons_zero])
                refine wpAnyH_done (by kernel_rfl) ?_ _
                go_wp2_with fail
                go_meet
                case rel => exact ⟨B5, B6, z1, z2, rfl, rfl, HZ1.out, HZ2.out, hn5, hn6, hR1, hR2, J⟩
    · go_simp
      have hn6 := Blk.new V0 32 zG
      have hg6 : W2.heap.size ≤ V0.heap.size := J.size
      have KA := (Keeps.refl V0).alloc (.cells zG 32)
      replace J := J.trans KA
      clear KA
      generalize V0.alloc (.cells zG 32) = V44 at *
      generalize V0.heap.size = B6 at *
      refine hK.out _ _ ?_ (fun hHeld => ?_)
      · exact ⟨(HB1.out.keep J).c7, (HB2.out.keep J).c7⟩
      clear hK K
      (try simp only [Act.put]); (try simp only [List.setIfInBounds_toArray]); (try simp only [List.set_cons_succ]); (try simp only [List.set_cons_zero])
      refine wpAnyH_ready (rs := [1, 4]) (by kernel_rfl) (by simp) ?_
      refine AllReadyH.cons (o := ⟨_, _, _, _, _, _⟩) rfl (fun K hK => ?_) (AllReadyH.cons (o := ⟨_, _, _, _, _, _⟩) rfl (fun K hK => ?_) AllReadyH.nil)
      · go_simp
        refine (HM.out _ _ _ _ _ _ _ _ _ _ _ _ _ _ _ (by first | exact Or.inl rfl | exact Or.inr rfl) (HKW.out.trans J)).mono ?_
        rintro e V45 ⟨z1, rfl, hz1, hR1, hK9⟩
        have HZ1 := Lib.hid hz1
        clear hz1
        replace hn6 := hn6.keep hK9
        replace J := J.trans hK9
        clear hK9
        unfold vg
        dsimp only
        refine hK.out _ _ ?_ (fun hHeld => ?_)
        · exact ⟨(HB1.out.keep J).c7, (HB2.out.keep J).c7⟩
        clear hK K
        (try simp only [Act.put]); (try simp only [List.setIfInBounds_toArray]); (try simp only [List.set_cons_succ]); (try simp only [List.set_cons_zero])
        refine wpAnyH_ready (rs := [3, 4]) (by kernel_rfl) (by simp) ?_
        refine AllReadyH.cons (o := ⟨_, _, _, _, _, _⟩) rfl (fun K hK => ?_) (AllReadyH.cons (o := ⟨_, _, _, _, _, _⟩) rfl (fun K hK => ?_) AllReadyH.nil)
        · go_simp
          refine (HM.out _ _ _ _ _ _ _ _ _ _ _ _ _ _ _ (by first | exact Or.inl rfl | exact Or.inr rfl) (HKW.out.trans J)).mono ?_
          rintro e V46 ⟨z2, rfl, hz2, hR2, hK9⟩
          have HZ2 := Lib.hid hz2
          clear hz2
          replace hR1 := hR1.keep hK9
          replace hn6 := hn6.keep hK9
          replace J := J.trans hK9
          clear hK9
          unfold vg
          dsimp only
          refine hK.out _ _ ?_ (fun hHeld => ?_)
          · exact ⟨(HB1.out.keep J).c7, (HB2.out.keep J).c7⟩
          clear hK K
          (try simp only [Act.put]); (try simp only [List.setIfInBounds_toArray]); (try simp only [List.set_cons_succ]); (try simp only [List.set_cons_zero])
          refine wpAnyH_ready (rs := [4]) (by kernel_rfl) (by simp) ?_
          refine AllReadyH.cons (o := ⟨_, _, _, _, _, _⟩) rfl (fun K hK => ?_) AllReadyH.nil
          · go_simp
            have hn5 := Blk.new V46 32 zG
            have hg5 : W2.heap.size ≤ V46.heap.size := J.size
            have KA := (Keeps.refl V46).alloc (.cells zG 32)
            have hne : V46.heap.size ≠ B6 := by have := hn6.lt; omega
            replace hR1 := hR1.keep KA
            replace hR2 := hR2.keep KA
            replace hn6 := hn6.keep KA
            replace J := J.trans KA
            clear KA
            generalize V46.alloc (.cells zG 32) = V47 at *
            generalize V46.heap.size = B5 at *
            have HNE := Lib.hid hne
            clear hne
            refine hK.out _ _ ?_ (fun hHeld => ?_)
            · exact ⟨(HB1.out.keep J).c7, (HB2.out.keep J).c7⟩
            clear hK K
            (try simp only [Act.put]); (try simp only [List.setIfInBounds_toArray]); (try simp only [List.set_cons_succ]); (try simp only [List.set_cons_zero])
            refine wpAnyH_ready (rs := [6]) (by kernel_rfl) (by simp) ?_
            refine AllReadyH.cons (o := ⟨_, _, _, _, _, _⟩) rfl (fun K hK => ?_) AllReadyH.nil
            · obtain ⟨c0, c1, c2, c3, c4, c5⟩ := hn5.c6
              obtain ⟨g0, g1, g2, g3, g4, g5⟩ := hn5.f6
              go_simp
              clear c0 c1 c2 c3 c4 c5 g0 g1 g2 g3 g4 g5
              replace hn6 := hn6.other6 HNE.out.symm (.string z1.c.nm) (.int .i64 z1.c.kd) (.int .u16 (sv z1.c.M)) (.slice z1.ar z1.c.R.length z1.cr) (.slice z1.aw z1.c.Q.length z1.cw) (.slice z1.af z1.c.F.length z1.cf)
              replace hR1 := hR1.set6 hn5 (.string z1.c.nm) (.int .i64 z1.c.kd) (.int .u16 (sv z1.c.M)) (.slice z1.ar z1.c.R.length z1.cr) (.slice z1.aw z1.c.Q.length z1.cw) (.slice z1.af z1.c.F.length z1.cf)
              replace hR2 := hR2.set6 hn5 (.string z1.c.nm) (.int .i64 z1.c.kd) (.int .u16 (sv z1.c.M)) (.slice z1.ar z1.c.R.length z1.cr) (.slice z1.aw z1.c.Q.length z1.cw) (.slice z1.af z1.c.F.length z1.cf)
              replace hn5 := hn5.set6 (.string z1.c.nm) (.int .i64 z1.c.kd) (.int .u16 (sv z1.c.M)) (.slice z1.ar z1.c.R.length z1.cr) (.slice z1.aw z1.c.Q.length z1.cw) (.slice z1.af z1.c.F.length z1.cf)
              replace J := keeps_set6 J hg5 (.string z1.c.nm) (.int .i64 z1.c.kd) (.int .u16 (sv z1.c.M)) (.slice z1.ar z1.c.R.length z1.cr) (.slice z1.aw z1.c.Q.length z1.cw) (.slice z1.af z1.c.F.length z1.cf)
              generalize ((((((V47.setCell ⟨B5, 0, none⟩ (.string z1.c.nm)).setCell ⟨B5, 1, none⟩ (.int .i64 z1.c.kd)).setCell ⟨B5, 2, none⟩ (.int .u16 (sv z1.c.M))).setCell ⟨B5, 3, none⟩ (.slice z1.ar z1.c.R.length z1.cr)).setCell ⟨B5, 4, none⟩ (.slice z1.aw z1.c.Q.length z1.cw)).setCell ⟨B5, 5, none⟩ (.slice z1.af z1.c.F.length z1.cf)) = V48 at *
              refine hK.out _ _ ?_ (fun hHeld => ?_)
              · exact ⟨(HB1.out.keep J).c7, (HB2.out.keep J).c7⟩
              clear hK K
              (try simp only [Act.put]); (try simp only [List.setIfInBounds_toArray]); (try simp only [List.set_cons_succ]); (try simp only [List.set_cons_zero])
              refine wpAnyH_ready (rs := [7]) (by kernel_rfl) (by simp) ?_
              refine AllReadyH.cons (o := ⟨_, _, _, _, _, _⟩) rfl (fun K hK => ?_) AllReadyH.nil
              · obtain ⟨c0, c1, c2, c3, c4, c5⟩ := hn6.c6
                obtain ⟨g0, g1, g2, g3, g4, g5⟩ := hn6.f6
                go_simp
                clear c0 c1 c2 c3 c4 c5 g0 g1 g2 g3 g4 g5
                replace hn5 := hn5.other6 HNE.out (.string z2.c.nm) (.int .i64 z2.c.kd) (.int .u16 (sv z2.c.M)) (.slice z2.ar z2.c.R.length z2.cr) (.slice z2.aw z2.c.Q.length z2.cw) (.slice z2.af z2.c.F.length z2.cf)
                replace hR1 := hR1.set6 hn6 (.string z2.c.nm) (.int .i64 z2.c.kd) (.int .u16 (sv z2.c.M)) (.slice z2.ar z2.c.R.length z2.cr) (.slice z2.aw z2.c.Q.length z2.cw) (.slice z2.af z2.c.F.length z2.cf)
                replace hR2 := hR2.set6 hn6 (.string z2.c.nm) (.int .i64 z2.c.kd) (.int .u16 (sv z2.c.M)) (.slice z2.ar z2.c.R.length z2.cr) (.slice z2.aw z2.c.Q.length z2.cw) (.slice z2.af z2.c.F.length z2.cf)
                replace hn6 := hn6.set6 (.string z2.c.nm) (.int .i64 z2.c.kd) (.int .u16 (sv z2.c.M)) (.slice z2.ar z2.c.R.length z2.cr) (.slice z2.aw z2.c.Q.length z2.cw) (.slice z2.af z2.c.F.length z2.cf)
                replace J := keeps_set6 J hg6 (.string z2.c.nm) (.int .i64 z2.c.kd) (.int .u16 (sv z2.c.M)) (.slice z2.ar z2.c.R.length z2.cr) (.slice z2.aw z2.c.Q.length z2.cw) (.slice z2.af z2.c.F.length z2.cf)
                generalize ((((((V48.setCell ⟨B6, 0, none⟩ (.string z2.c.nm)).setCell ⟨B6, 1, none⟩ (.int .i64 z2.c.kd)).setCell ⟨B6, 2, none⟩ (.int .u16 (sv z2.c.M))).setCell ⟨B6, 3, none⟩ (.slice z2.ar z2.c.R.length z2.cr)).setCell ⟨B6, 4, none⟩ (.slice z2.aw z2.c.Q.length z2.cw)).setCell ⟨B6, 5, none⟩ (.slice z2.af z2.c.F.length z2.cf)) = V49 at *
                refine hK.out _ _ ?_ (fun hHeld => ?_)
                · exact ⟨(HB1.out.keep J).c7, (HB2.out.keep J).c7⟩
                clear hK K
                (try simp only [Act.put]); (try simp only [List.setIfInBounds_toArray]); (try simp only [List.set_cons_succ]); (try simp only [List.set_cons_zero])
                refine wpAnyH_done (by kernel_rfl) ?_ _
                go_wp2_with fail
                go_meet
                case rel => exact ⟨B5, B6, z1, z2, rfl, rfl, HZ1.out, HZ2.out, hn5, hn6, hR1, hR2, J⟩
        · go_simp
          have hn5 := Blk.new V45 32 zG
          have hg5 : W2.heap.size ≤ V45.heap.size := J.size
          have KA := (Keeps.refl V45).alloc (.cells zG 32)
          have hne : V45.heap.size ≠ B6 := by have := hn6.lt; omega
          replace hR1 := hR1.keep KA
          replace hn6 := hn6.keep KA
          replace J := J.trans KA
          clear KA
          generalize V45.alloc (.cells zG 32) = V50 at *
          generalize V45.heap.size = B5 at *
          have HNE := Lib.hid hne
          clear hne
          refine hK.out _ _ ?_ (fun hHeld => ?_)
          · exact ⟨(HB1.out.keep J).c7, (HB2.out.keep J).c7⟩
          clear hK K
          (try simp only [Act.put]); (try simp only [List.setIfInBounds_toArray]); (try simp only [List.set_cons_succ]); (try simp only [List.set_cons_zero])
          refine wpAnyH_ready (rs := [3]) (by kernel_rfl) (by simp) ?_
          refine AllReadyH.cons (o := ⟨_, _, _, _, _, _⟩) rfl (fun K hK => ?_) AllReadyH.nil
          · go_simp
            refine (HM.out _ _ _ _ _ _ _ _ _ _ _ _ _ _ _ (by first | exact Or.inl rfl | exact Or.inr rfl) (HKW.out.trans J)).mono ?_
            rintro e V51 ⟨z2, rfl, hz2, hR2, hK9⟩
            have HZ2 := Lib.hid hz2
            clear hz2
            replace hR1 := hR1.keep hK9
            replace hn5 := hn5.keep hK9
            replace hn6 := hn6.keep hK9
            replace J := J.trans hK9
            clear hK9
            unfold vg
            dsimp only
            refine hK.out _ _ ?_ (fun hHeld => ?_)
            · exact ⟨(HB1.out.keep J).c7, (HB2.out.keep J).c7⟩
            clear hK K
            (try simp only [Act.put]); (try simp only [List.setIfInBounds_toArray]); (try simp only [List.set_cons_succ]); (try simp only [List.set_cons_zero])
            refine wpAnyH_ready (rs := [6]) (by kernel_rfl) (by simp) ?_
            refine AllReadyH.cons (o := ⟨_, _, _, _, _, _⟩) rfl (fun K hK => ?_) AllReadyH.nil
            · obtain ⟨c0, c1, c2, c3, c4, c5⟩ := hn5.c6
              obtain ⟨g0, g1, g2, g3, g4, g5⟩ := hn5.f6
              go_simp
              clear c0 c1 c2 c3 c4 c5 g0 g1 g2 g3 g4 g5
              replace hn6 := hn6.other6 HNE.out.symm (.string z1.c.nm) (.int .i64 z1.c.kd) (.int .u16 (sv z1.c.M)) (.slice z1.ar z1.c.R.length z1.cr) (.slice z1.aw z1.c.Q.length z1.cw) (.slice z1.af z1.c.F.length z1.cf)
              replace hR1 := hR1.set6 hn5 (.string z1.c.nm) (.int .i64 z1.c.kd) (.int .u16 (sv z1.c.M)) (.slice z1.ar z1.c.R.length z1.cr) (.slice z1.aw z1.c.Q.length z1.cw) (.slice z1.af z1.c.F.length z1.cf)
              replace hR2 := hR2.set6 hn5 (.string z1.c.nm) (.int .i64 z1.c.kd) (.int .u16 (sv z1.c.M)) (.slice z1.ar z1.c.R.length z1.cr) (.slice z1.aw z1.c.Q.length z1.cw) (.slice z1.af z1.c.F.length z1.cf)
              replace hn5 := hn5.set6 (.string z1.c.nm) (.int .i64 z1.c.kd) (.int .u16 (sv z1.c.M)) (.slice z1.ar z1.c.R.length z1.cr) (.slice z1.aw z1.c.Q.length z1.cw) (.slice z1.af z1.c.F.length z1.cf)
              replace J := keeps_set6 J hg5 (.string z1.c.nm) (.int .i64 z1.c.kd) (.int .u16 (sv z1.c.M)) (.slice z1.ar z1.c.R.length z1.cr) (.slice z1.aw z1.c.Q.length z1.cw) (.slice z1.af z1.c.F.length z1.cf)
              generalize ((((((V51.setCell ⟨B5, 0, none⟩ (.string z1.c.nm)).setCell ⟨B5, 1, none⟩ (.int .i64 z1.c.kd)).setCell ⟨B5, 2, none⟩ (.int .u16 (sv z1.c.M))).setCell ⟨B5, 3, none⟩ (.slice z1.ar z1.c.R.length z1.cr)).setCell ⟨B5, 4, none⟩ (.slice z1.aw z1.c.Q.length z1.cw)).setCell ⟨B5, 5, none⟩ (.slice z1.af z1.c.F.length z1.cf)) = V52 at *
              refine hK.out _ _ ?_ (fun hHeld => ?_)
              · exact ⟨(HB1.out.keep J).c7, (HB2.out.keep J).c7⟩
              clear hK K
              (try simp only [Act.put]); (try simp only [List.setIfInBounds_toArray]); (try simp only [List.set_cons_succ]); (try simp only [List.set_cons_zero])
              refine wpAnyH_ready (rs := [7]) (by kernel_rfl) (by simp) ?_
              refine AllReadyH.cons (o := ⟨_, _, _, _, _, _⟩) rfl (fun K hK => ?_) AllReadyH.nil
              · obtain ⟨c0, c1, c2, c3, c4, c5⟩ := hn6.c6
                obtain ⟨g0, g1, g2, g3, g4, g5⟩ := hn6.f6
                go_simp
                clear c0 c1 c2 c3 c4 c5 g0 g1 g2 g3 g4 g5
                replace hn5 := hn5.other6 HNE.out (.string z2.c.nm) (.int .i64 z2.c.kd) (.int .u16 (sv z2.c.M)) (.slice z2.ar z2.c.R.length z2.cr) (.slice z2.aw z2.c.Q.length z2.cw) (.slice z2.af z2.c.F.length z2.cf)
                replace hR1 := hR1.set6 hn6 (.string z2.c.nm) (.int .i64 z2.c.kd) (.int .u16 (sv z2.c.M)) (.slice z2.ar z2.c.R.length z2.cr) (.slice z2.aw z2.c.Q.length z2.cw) (.slice z2.af z2.c.F.length z2.cf)
                replace hR2 := hR2.set6 hn6 (.string z2.c.nm) (.int .i64 z2.c.kd) (.int .u16 (sv z2.c.M)) (.slice z2.ar z2.c.R.length z2.cr) (.slice z2.aw z2.c.Q.length z2.cw) (.slice z2.af z2.c.F.length z2.cf)
                replace hn6 := hn6.set6 (.string z2.c.nm) (.int .i64 z2.c.kd) (.int .u16 (sv z2.c.M)) (.slice z2.ar z2.c.R.length z2.cr) (.slice z2.aw z2.c.Q.length z2.cw) (.slice z2.af z2.c.F.length z2.cf)
                replace J := keeps_set6 J hg6 (.string z2.c.nm) (.int .i64 z2.c.kd) (.int .u16 (sv z2.c.M)) (.slice z2.ar z2.c.R.length z2.cr) (.slice z2.aw z2.c.Q.length z2.cw) (.slice z2.af z2.c.F.length z2.cf)
                generalize ((((((V52.setCell ⟨B6, 0, none⟩ (.string z2.c.nm)).setCell ⟨B6, 1, none⟩ (.int .i64 z2.c.kd)).setCell ⟨B6, 2, none⟩ (.int .u16 (sv z2.c.M))).setCell ⟨B6, 3, none⟩ (.slice z2.ar z2.c.R.length z2.cr)).setCell ⟨B6, 4, none⟩ (.slice z2.aw z2.c.Q.length z2.cw)).setCell ⟨B6, 5, none⟩ (.slice z2.af z2.c.F.length z2.cf)) = V53 at *
                refine hK.out _ _ ?_ (fun hHeld => ?_)
                · exact ⟨(HB1.out.keep J).c7, (HB2.out.keep J).c7⟩
                clear hK K
                (try simp only [Act.put]); (try simp only [List.setIfInBounds_toArray]); (try simp only [List.set_cons_succ]); (try simp only [List.set_cons_zero])
                refine wpAnyH_done (by kernel_rfl) ?_ _
                go_wp2_with fail
                go_meet
                case rel => exact ⟨B5, B6, z1, z2, rfl, rfl, HZ1.out, HZ2.out, hn5, hn6, hR1, hR2, J⟩
      · go_simp
        have hn5 := Blk.new V44 32 zG
        have hg5 : W2.heap.size ≤ V44.heap.size := J.size
        have KA := (Keeps.refl V44).alloc (.cells zG 32)
        have hne : V44.heap.size ≠ B6 := by have := hn6.lt; omega
        replace hn6 := hn6.keep KA
        replace J := J.trans KA
        clear KA
        generalize V44.alloc (.cells zG 32) = V54 at *
        generalize V44.heap.size = B5 at *
        have HNE := Lib.hid hne
        clear hne
        refine hK.out _ _ ?_ (fun hHeld => ?_)
        · exact ⟨(HB1.out.keep J).c7, (HB2.out.keep J).c7⟩
        clear hK K
        (try simp only [Act.put]); (try simp only [List.setIfInBounds_toArray]); (try simp only [List.set_cons_succ]); (try simp only [List.set_cons_zero])
        refine wpAnyH_ready (rs := [1]) (by kernel_rfl) (by simp) ?_
        refine AllReadyH.cons (o := ⟨_, _, _, _, _, _⟩) rfl (fun K hK => ?_) AllReadyH.nil
        · go_simp
          refine (HM.out _ _ _ _ _ _ _ _ _ _ _ _ _ _ _ (by first | exact Or.inl rfl | exact Or.inr rfl) (HKW.out.trans J)).mono ?_
          rintro e V55 ⟨z1, rfl, hz1, hR1, hK9⟩
          have HZ1 := Lib.hid hz1
          clear hz1
          replace hn5 := hn5.keep hK9
          replace hn6 := hn6.keep hK9
          replace J := J.trans hK9
          clear hK9
          unfold vg
          dsimp only
          refine hK.out _ _ ?_ (fun hHeld => ?_)
          · exact ⟨(HB1.out.keep J).c7, (HB2.out.keep J).c7⟩
          clear hK K
          (try simp only [Act.put]); (try simp only [List.setIfInBounds_toArray]); (try simp only [List.set_cons_succ]); (try simp only [List.set_cons_zero])
          refine wpAnyH_ready (rs := [3]) (by kernel_rfl) (by simp) ?_
          refine AllReadyH.cons (o := ⟨_, _, _, _, _, _⟩) rfl (fun K hK => ?_) AllReadyH.nil
          · go_simp
            refine (HM.out _ _ _ _ _ _ _ _ _ _ _ _ _ _ _ (by first | exact Or.inl rfl | exact Or.inr rfl) (HKW.out.trans J)).mono ?_
            rintro e V56 ⟨z2, rfl, hz2, hR2, hK9⟩
            have HZ2 := Lib.hid hz2
            clear hz2
            replace hR1 := hR1.keep hK9
            replace hn5 := hn5.keep hK9
            replace hn6 := hn6.keep hK9
            replace J := J.trans hK9
            clear hK9
            unfold vg
            dsimp only
            refine hK.out _ _ ?_ (fun hHeld => ?_)
            · exact ⟨(HB1.out.keep J).c7, (HB2.out.keep J).c7⟩
            clear hK K
            (try simp only [Act.put]); (try simp only [List.setIfInBounds_toArray]); (try simp only [List.set_cons_succ]); (try simp only [List.set_cons_zero])
            refine wpAnyH_ready (rs := [6]) (by kernel_rfl) (by simp) ?_
            refine AllReadyH.cons (o := ⟨_, _, _, _, _, _⟩) rfl (fun K hK => ?_) AllReadyH.nil
            · obtain ⟨c0, c1, c2, c3, c4, c5⟩ := hn5.c6
              obtain ⟨g0, g1, g2, g3, g4, g5⟩ := hn5.f6
              go_simp
              clear c0 c1 c2 c3 c4 c5 g0 g1 g2 g3 g4 g5
              replace hn6 := hn6.other6 HNE.out.symm (.string z1.c.nm) (.int .i64 z1.c.kd) (.int .u16 (sv z1.c.M)) (.slice z1.ar z1.c.R.length z1.cr) (.slice z1.aw z1.c.Q.length z1.cw) (.slice z1.af z1.c.F.length z1.cf)
              replace hR1 := hR1.set6 hn5 (.string z1.c.nm) (.int .i64 z1.c.kd) (.int .u16 (sv z1.c.M)) (.slice z1.ar z1.c.R.length z1.cr) (.slice z1.aw z1.c.Q.length z1.cw) (.slice z1.af z1.c.F.length z1.cf)
              replace hR2 := hR2.set6 hn5 (.string z1.c.nm) (.int .i64 z1.c.kd) (.int .u16 (sv z1.c.M)) (.slice z1.ar z1.c.R.length z1.cr) (.slice z1.aw z1.c.Q.length z1.cw) (.slice z1.af z1.c.F.length z1.cf)
              replace hn5 := hn5.set6 (.string z1.c.nm) (.int .i64 z1.c.kd) (.int .u16 (sv z1.c.M)) (.slice z1.ar z1.c.R.length z1.cr) (.slice z1.aw z1.c.Q.length z1.cw) (.slice z1.af z1.c.F.length z1.cf)
              replace J := keeps_set6 J hg5 (.string z1.c.nm) (.int .i64 z1.c.kd) (.int .u16 (sv z1.c.M)) (.slice z1.ar z1.c.R.length z1.cr) (.slice z1.aw z1.c.Q.length z1.cw) (.slice z1.af z1.c.F.length z1.cf)
              generalize ((((((V56.setCell ⟨B5, 0, none⟩ (.string z1.c.nm)).setCell ⟨B5, 1, none⟩ (.int .i64 z1.c.kd)).setCell ⟨B5, 2, none⟩ (.int .u16 (sv z1.c.M))).setCell ⟨B5, 3, none⟩ (.slice z1.ar z1.c.R.length z1.cr)).setCell ⟨B5, 4, none⟩ (.slice z1.aw z1.c.Q.length z1.cw)).setCell ⟨B5, 5, none⟩ (.slice z1.af z1.c.F.length z1.cf)) = V57 at *
              refine hK.out _ _ ?_ (fun hHeld => ?_)
              · exact ⟨(HB1.out.keep J).c7, (HB2.out.keep J).c7⟩
              clear hK K
              (try simp only [Act.put]); (try simp only [List.setIfInBounds_toArray]); (try simp only [List.set_cons_succ]); (try simp only [List.set_cons_zero])
              refine wpAnyH_ready (rs := [7]) (by kernel_rfl) (by simp) ?_
              refine AllReadyH.cons (o := ⟨_, _, _, _, _, _⟩) rfl (fun K hK => ?_) AllReadyH.nil
              · obtain ⟨c0, c1, c2, c3, c4, c5⟩ := hn6.c6
                obtain ⟨g0, g1, g2, g3, g4, g5⟩ := hn6.f6
                go_simp
                clear c0 c1 c2 c3 c4 c5 g0 g1 g2 g3 g4 g5
                replace hn5 := hn5.other6 HNE.out (.string z2.c.nm) (.int .i64 z2.c.kd) (.int .u16 (sv z2.c.M)) (.slice z2.ar z2.c.R.length z2.cr) (.slice z2.aw z2.c.Q.length z2.cw) (.slice z2.af z2.c.F.length z2.cf)
                replace hR1 := hR1.set6 hn6 (.string z2.c.nm) (.int .i64 z2.c.kd) (.int .u16 (sv z2.c.M)) (.slice z2.ar z2.c.R.length z2.cr) (.slice z2.aw z2.c.Q.length z2.cw) (.slice z2.af z2.c.F.length z2.cf)
                replace hR2 := hR2.set6 hn6 (.string z2.c.nm) (.int .i64 z2.c.kd) (.int .u16 (sv z2.c.M)) (.slice z2.ar z2.c.R.length z2.cr) (.slice z2.aw z2.c.Q.length z2.cw) (.slice z2.af z2.c.F.length z2.cf)
                replace hn6 := hn6.set6 (.string z2.c.nm) (.int .i64 z2.c.kd) (.int .u16 (sv z2.c.M)) (.slice z2.ar z2.c.R.length z2.cr) (.slice z2.aw z2.c.Q.length z2.cw) (.slice z2.af z2.c.F.length z2.cf)
                replace J := keeps_set6 J hg6 (.string z2.c.nm) (.int .i64 z2.c.kd) (.int .u16 (sv z2.c.M)) (.slice z2.ar z2.c.R.length z2.cr) (.slice z2.aw z2.c.Q.length z2.cw) (.slice z2.af z2.c.F.length z2.cf)
                generalize ((((((V57.setCell ⟨B6, 0, none⟩ (.string z2.c.nm)).setCell ⟨B6, 1, none⟩ (.int .i64 z2.c.kd)).setCell ⟨B6, 2, none⟩ (.int .u16 (sv z2.c.M))).setCell ⟨B6, 3, none⟩ (.slice z2.ar z2.c.R.length z2.cr)).setCell ⟨B6, 4, none⟩ (.slice z2.aw z2.c.Q.length z2.cw)).setCell ⟨B6, 5, none⟩ (.slice z2.af z2.c.F.length z2.cf)) = V58 at *
                refine hK.out _ _ ?_ (fun hHeld => ?_)
                · exact ⟨(HB1.out.keep J).c7, (HB2.out.keep J).c7⟩
                clear hK K
                (try simp only [Act.put]); (try simp only [List.setIfInBounds_toArray]); (try simp only [List.set_cons_succ]); (try simp only [List.set_cons_zero])
                refine wpAnyH_done (by kernel_rfl) ?_ _
                go_wp2_with fail
                go_meet
                case rel => exact ⟨B5, B6, z1, z2, rfl, rfl, HZ1.out, HZ2.out, hn5, hn6, hR1, hR2, J⟩
  case rest =>
    obtain ⟨B5, B6, z1, z2, rfl, rfl, hz1, hz2, hn5, hn6, hR1, hR2, J⟩ := hcut
    have KK := HKW.out.trans J
    clear J HB1 HB2 HM HKW hz1 hz2
    go_wp2_with fail
    refine (awake29_any _).mono ?_
    rintro e w1 ⟨rfl, K⟩
    replace hn5 := hn5.keep K; replace hn6 := hn6.keep K; replace hR1 := hR1.keep K; replace hR2 := hR2.keep K; replace KK := KK.trans K
    clear K
    obtain ⟨c0, c1, c2, c3, c4, c5⟩ := hn5.c6
    obtain ⟨d0, d1, d2, d3, d4, d5⟩ := hn6.c6
    go_wp2_with fail
    clear c0 c1 c2 c3 c4 c5 d0 d1 d2 d3 d4 d5
    refine (jof_any z1 z2 _ hR1.rd hR2.rd).mono ?_
    intro e w2 hret
    obtain ⟨z3, rfl, hz3, hR3, K⟩ := hret
    unfold vg
    dsimp only
    replace hn5 := hn5.keep K; replace hn6 := hn6.keep K; replace hR1 := hR1.keep K; replace hR2 := hR2.keep K; replace KK := KK.trans K
    clear K
    have hn7 := Blk.new w2 32 #[.string z3.c.nm, .int .i64 z3.c.kd, .int .u16 (sv z3.c.M), .slice z3.ar z3.c.R.length z3.cr, .slice z3.aw z3.c.Q.length z3.cw, .slice z3.af z3.c.F.length z3.cf]
    have K := (Keeps.refl w2).alloc (.cells #[.string z3.c.nm, .int .i64 z3.c.kd, .int .u16 (sv z3.c.M), .slice z3.ar z3.c.R.length z3.cr, .slice z3.aw z3.c.Q.length z3.cw, .slice z3.af z3.c.F.length z3.cf] 32)
    replace hn5 := hn5.keep K; replace hn6 := hn6.keep K; replace hR1 := hR1.keep K; replace hR2 := hR2.keep K; replace hR3 := hR3.keep K; replace KK := KK.trans K
    clear K
    obtain ⟨c0, c1, c2, c3, c4, c5⟩ := hn5.c6
    obtain ⟨d0, d1, d2, d3, d4, d5⟩ := hn6.c6
    have HZ3 := Lib.hid hz3
    clear hz3
    go_wp2_with fail
    clear c0 c1 c2 c3 c4 c5 d0 d1 d2 d3 d4 d5
    generalize w2.alloc (.cells #[.string z3.c.nm, .int .i64 z3.c.kd, .int .u16 (sv z3.c.M), .slice z3.ar z3.c.R.length z3.cr, .slice z3.aw z3.c.Q.length z3.cw, .slice z3.af z3.c.F.length z3.cf] 32) = W2' at *
    generalize w2.heap.size = B7 at *
    refine (rof_any z1 z2 _ hR1.rd hR2.rd).mono ?_
    intro e w3 hret
    obtain ⟨z4, rfl, hz4, hR4, K⟩ := hret
    unfold vg
    dsimp only
    replace hn5 := hn5.keep K; replace hn6 := hn6.keep K; replace hn7 := hn7.keep K; replace hR1 := hR1.keep K; replace hR2 := hR2.keep K; replace hR3 := hR3.keep K; replace KK := KK.trans K
    clear K
    have hn8 := Blk.new w3 32 #[.string z4.c.nm, .int .i64 z4.c.kd, .int .u16 (sv z4.c.M), .slice z4.ar z4.c.R.length z4.cr, .slice z4.aw z4.c.Q.length z4.cw, .slice z4.af z4.c.F.length z4.cf]
    have K := (Keeps.refl w3).alloc (.cells #[.string z4.c.nm, .int .i64 z4.c.kd, .int .u16 (sv z4.c.M), .slice z4.ar z4.c.R.length z4.cr, .slice z4.aw z4.c.Q.length z4.cw, .slice z4.af z4.c.F.length z4.cf] 32)
    replace hn5 := hn5.keep K; replace hn6 := hn6.keep K; replace hn7 := hn7.keep K; replace hR1 := hR1.keep K; replace hR2 := hR2.keep K; replace hR3 := hR3.keep K; replace hR4 := hR4.keep K; replace KK := KK.trans K
    clear K
    obtain ⟨c0, c1, c2, c3, c4, c5⟩ := hn5.c6
    obtain ⟨d0, d1, d2, d3, d4, d5⟩ := hn6.c6
    have HZ4 := Lib.hid hz4
    clear hz4
    go_wp2_with fail
    clear c0 c1 c2 c3 c4 c5 d0 d1 d2 d3 d4 d5
    generalize w3.alloc (.cells #[.string z4.c.nm, .int .i64 z4.c.kd, .int .u16 (sv z4.c.M), .slice z4.ar z4.c.R.length z4.cr, .slice z4.aw z4.c.Q.length z4.cw, .slice z4.af z4.c.F.length z4.cf] 32) = W3' at *
    generalize w3.heap.size = B9 at *
    refine (jfaults_any z1 z2 _ hR1.rd hR2.rd).mono ?_
    rintro e w4 ⟨v4, rfl, hO4⟩
    have K := hO4.2
    obtain ⟨a4, cc4, rfl, q4⟩ := hO4.rd
    clear hO4
    replace hn5 := hn5.keep K; replace hn6 := hn6.keep K; replace hn7 := hn7.keep K; replace hn8 := hn8.keep K; replace hR1 := hR1.keep K; replace hR2 := hR2.keep K; replace hR3 := hR3.keep K; replace hR4 := hR4.keep K; replace KK := KK.trans K
    clear K
    obtain ⟨c0, c1, c2, c3, c4, c5⟩ := hn5.c6
    obtain ⟨d0, d1, d2, d3, d4, d5⟩ := hn6.c6
    go_wp2_with fail
    clear c0 c1 c2 c3 c4 c5 d0 d1 d2 d3 d4 d5
    refine (rfaults_any z1 z2 _ hR1.rd hR2.rd).mono ?_
    rintro e w5 ⟨v5, rfl, hO5⟩
    have K := hO5.2
    obtain ⟨a5, cc5, rfl, q5⟩ := hO5.rd
    clear hO5
    replace q4 := q4.keep K; replace hn7 := hn7.keep K; replace hn8 := hn8.keep K; replace hR3 := hR3.keep K; replace hR4 := hR4.keep K; replace KK := KK.trans K
    clear K hn5 hn6 hR1 hR2
    obtain ⟨c0, c1, c2, c3, c4, c5⟩ := hn7.c6
    obtain ⟨d0, d1, d2, d3, d4, d5⟩ := hn8.c6
    have he0 := HZ3.out
    have hok : ofE z1.c z2.c = 0 → cvf z3.c = 0 := fun h => by rw [he0]; exact (of_ok h).cvf
    have h34 : z3.c = z4.c := HZ3.out.trans HZ4.out.symm
    have HOK := Lib.hid hok; have H34 := Lib.hid h34
    clear he0 hok h34 HZ3 HZ4
    generalize ofE z1.c z2.c = eo at *
    generalize jfltE z1.c z2.c = ef at *
    generalize jfltL z1.c z2.c = lf at *
    have Q4 := Lib.hid q4; have Q5 := Lib.hid q5
    clear q4 q5
    go_wp2_with fail
    clear c0 c1 c2 c3 c4 c5 d0 d1 d2 d3 d4 d5
    refine (rEqual_any z3 z4 H34.out _ hR3.rd hR4.rd).mono ?_
    rintro e w6 ⟨rfl, K⟩
    have hn7 := hn7.keep K
    have hR3 := hR3.keep K
    have Q4' := Lib.hid (Q4.out.keep K); have Q5' := Lib.hid (Q5.out.keep K)
    replace KK := KK.trans K
    clear K Q4 Q5
    go_wp2_with fail
    refine (rSame19e_any a4 _ cc4 lf a5 cc5 _ Q4'.out Q5'.out).mono ?_
    rintro e w7 ⟨rfl, K⟩
    have hn7 := hn7.keep K
    have hR3 := hR3.keep K
    replace KK := KK.trans K
    clear K Q4' Q5'
    obtain ⟨c0, c1, c2, c3, c4, c5⟩ := hn7.c6
    by_cases hz : eo = 0
    · have hv := HOK.out hz
      have HV := Lib.hid hv
      clear hv HOK
      subst hz
      go_wp2_with fail
      clear c0 c1 c2 c3 c4 c5
      refine (validG_any z3 _ hR3.rd).mono ?_
      rintro e w8 ⟨rfl, K⟩
      rw [HV.out]
      replace KK := KK.trans K
      go_wp2_with fail
      go_ret
      exact ⟨rfl, KK⟩
    · have hb : (eo != 0) = true := by simpa using hz
      clear hz
      go_wp2_with fail
      go_ret
      exact ⟨rfl, KK⟩
end Go.Proofs.YtnlohknlchgfgaaGreat
