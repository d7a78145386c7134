/- Texts joined into one (wip/bin/pack.py): Law29d. -/
import Derived.Test.YtnlohknlchgfgaaGreatDoorKLaw29a
import Derived.Test.YtnlohknlchgfgaaGreatDoorKZj
import Derived.Test.YtnlohknlchgfgaaGreatDoorKSa
import Derived.Lib.QuietBelow
import Derived.Deep.DeepCutAuto
/- The statement JointSafe. -/
namespace Go.Proofs.YtnlohknlchgfgaaGreatDoor
open Go.RowKit Go.Lib Go.Shelf
theorem of_safe29 {x : S} {z1 z2 z3 : CA} (h3 : z3.c = ofC z1.c z2.c) (h : ofE z1.c z2.c = 0) (h1 : safC x z1 = true) (h2 : safC x z2 = true) (t1 : z1.c.R.length ≤ 10 ∧ z1.c.Q.length ≤ 10) (t2 : z2.c.R.length ≤ 10 ∧ z2.c.Q.length ≤ 10) :
    cvf z3.c = 0 ∧ safC x z3 = true ∧ Few9 z3.c := by
  have ho := of_ok h
  refine ⟨by rw [h3]; exact ho.cvf, ?_, by rw [h3]; exact of_few h t1 t2⟩
  unfold safC at *
  rw [h3, ho.c]
  exact joint_safe ho h1 h2
set_option maxRecDepth 20000 in
set_option maxHeartbeats 16000000 in
theorem JointSafe_any (c d : D29) (x : S) (w : World) (hT : Tab w) (hc : OkD w c) (hd : OkD w d) :
    Calls Tryz.prog 3 #[vD c, vD d, .int .u16 (sv x)] w fun e w' => e = .returned (.bool true) ∧ Keeps w w' := by
  have hs : ∀ o, (w.alloc o).heap.size = w.heap.size + 1 := fun o => World.size_alloc ..
  have hb1 := (Blk.new w 27 (cD c)).keep ((Keeps.refl _).alloc (.cells (cD d) 27))
  have hb2 := Blk.new (w.alloc (.cells (cD c) 27)) 27 (cD d)
  rw [hs] at hb2
  have KW := ((Keeps.refl w).alloc (.cells (cD c) 27)).alloc (.cells (cD d) 27)
  have hm := made2_any c d w hc hd
  unfold vD at *
  have HM := Lib.hid hm; have HB1 := Lib.hid hb1; have HB2 := Lib.hid hb2; have HKW := Lib.hid KW
  clear hm hb1 hb2 KW hs hc hd
  have HT := Lib.hid hT; clear hT
  go_enter Tryz.func3, Tryz.ntmps3
  go_wp2_with fail
  generalize (w.alloc (.cells (cD c) 27)).alloc (.cells (cD d) 27) = W2 at *
  go_cut [7, 8] from 11 (fun s5 s6 wx => ∃ B5 B6 z1 z2, s5 = .pointer (some ⟨B5, 0, none⟩) ∧ s6 = .pointer (some ⟨B6, 0, none⟩) ∧ z1.c = mdC ⟨#[97]⟩ c ∧ z2.c = mdC ⟨#[98]⟩ d ∧ Blk wx B5 32 #[.string z1.c.nm, .int .i64 z1.c.kd, .int .u16 (sv z1.c.M), .slice z1.ar z1.c.R.length z1.cr, .slice z1.aw z1.c.Q.length z1.cw, .slice z1.af z1.c.F.length z1.cf] ∧ Blk wx B6 32 #[.string z2.c.nm, .int .i64 z2.c.kd, .int .u16 (sv z2.c.M), .slice z2.ar z2.c.R.length z2.cr, .slice z2.aw z2.c.Q.length z2.cw, .slice z2.af z2.c.F.length z2.cf] ∧ RoG wx z1 ∧ RoG wx z2 ∧ Keeps W2 wx)
  case first =>
    have J : Keeps W2 W2.drew := (Keeps.refl W2).drew
    refine wp_region_held_drew (S := (fun w' => (w'.cell? ⟨w.heap.size, 0, none⟩ = some (.int .u8 c.kd) ∧ w'.cell? ⟨w.heap.size, 1, none⟩ = some (.int .u8 c.N) ∧ w'.cell? ⟨w.heap.size, 2, none⟩ = some (.int .u8 c.md) ∧ w'.cell? ⟨w.heap.size, 3, none⟩ = some (.slice c.ar c.lr.length c.cr) ∧ w'.cell? ⟨w.heap.size, 4, none⟩ = some (.slice c.aw c.lw.length c.cw) ∧ w'.cell? ⟨w.heap.size, 5, none⟩ = some (.slice c.af c.lf.length c.cf) ∧ w'.cell? ⟨w.heap.size, 6, none⟩ = some (.int .u8 c.mv)) ∧ (w'.cell? ⟨w.heap.size + 1, 0, none⟩ = some (.int .u8 d.kd) ∧ w'.cell? ⟨w.heap.size + 1, 1, none⟩ = some (.int .u8 d.N) ∧ w'.cell? ⟨w.heap.size + 1, 2, none⟩ = some (.int .u8 d.md) ∧ w'.cell? ⟨w.heap.size + 1, 3, none⟩ = some (.slice d.ar d.lr.length d.cr) ∧ w'.cell? ⟨w.heap.size + 1, 4, none⟩ = some (.slice d.aw d.lw.length d.cw) ∧ w'.cell? ⟨w.heap.size + 1, 5, none⟩ = some (.slice d.af d.lf.length d.cf) ∧ w'.cell? ⟨w.heap.size + 1, 6, none⟩ = some (.int .u8 d.mv)))) (by kernel_rfl) ?_ (fun hHeld => ?_)
    · exact ⟨(HB1.out.keep J).c7, (HB2.out.keep J).c7⟩
    generalize W2.drew = V0 at *
    refine wpAnyH_take (i := 0) (oi := ⟨_, _, _, _, _, _⟩) (v := ?_) rfl (by kernel_rfl) (by kernel_rfl) (by kernel_rfl) (fun _ _ _ h => h) (Or.inl ⟨by rfl, ?_⟩) (by assumption) ?_
    rotate_left 1
    · intro w hSw; (try dsimp only at hSw); go_simp <;> with_reducible rfl
    (try simp only [Act.put]); (try simp only [List.setIfInBounds_toArray]); (try simp only [List.set_cons_succ]); (try simp only [List.set_cons_zero])
    refine wpAnyH_take (i := 2) (oi := ⟨_, _, _, _, _, _⟩) (v := ?_) rfl (by kernel_rfl) (by kernel_rfl) (by kernel_rfl) (fun _ _ _ h => h) (Or.inl ⟨by rfl, ?_⟩) (by assumption) ?_
    rotate_left 1
    · intro w hSw; (try dsimp only at hSw); go_simp <;> with_reducible rfl
    (try simp only [Act.put]); (try simp only [List.setIfInBounds_toArray]); (try simp only [List.set_cons_succ]); (try simp only [List.set_cons_zero])
    refine wpAnyH_ready (rs := [1, 4, 5]) (by kernel_rfl) (by simp) ?_
    refine AllReadyH.cons (o := ⟨_, _, _, _, _, _⟩) rfl (fun K hK => ?_) (AllReadyH.cons (o := ⟨_, _, _, _, _, _⟩) rfl (fun K hK => ?_) (AllReadyH.cons (o := ⟨_, _, _, _, _, _⟩) rfl (fun K hK => ?_) AllReadyH.nil))
    · go_simp
      refine (HM.out _ _ _ _ _ _ _ _ _ _ _ _ _ _ _ (by first | exact Or.inl rfl | exact Or.inr rfl) (HKW.out.trans J)).mono ?_
      rintro e V1 ⟨z1, rfl, hz1, hR1, hK9⟩
      have HZ1 := Lib.hid hz1
      clear hz1
      replace J := J.trans hK9
      clear hK9
      unfold vg
      dsimp only
      refine hK.out _ _ ?_ (fun hHeld => ?_)
      · exact ⟨(HB1.out.keep J).c7, (HB2.out.keep J).c7⟩
      clear hK K
      (try simp only [Act.put]); (try simp only [List.setIfInBounds_toArray]); (try simp only [List.set_cons_succ]); (try simp only [List.set_cons_zero])
      refine wpAnyH_ready (rs := [3, 4, 5]) (by kernel_rfl) (by simp) ?_
      refine AllReadyH.cons (o := ⟨_, _, _, _, _, _⟩) rfl (fun K hK => ?_) (AllReadyH.cons (o := ⟨_, _, _, _, _, _⟩) rfl (fun K hK => ?_) (AllReadyH.cons (o := ⟨_, _, _, _, _, _⟩) rfl (fun K hK => ?_) AllReadyH.nil))
      · go_simp
        refine (HM.out _ _ _ _ _ _ _ _ _ _ _ _ _ _ _ (by first | exact Or.inl rfl | exact Or.inr rfl) (HKW.out.trans J)).mono ?_
        rintro e V2 ⟨z2, rfl, hz2, hR2, hK9⟩
        have HZ2 := Lib.hid hz2
        clear hz2
        replace hR1 := hR1.keep hK9
        replace J := J.trans hK9
        clear hK9
        unfold vg
        dsimp only
        refine hK.out _ _ ?_ (fun hHeld => ?_)
        · exact ⟨(HB1.out.keep J).c7, (HB2.out.keep J).c7⟩
        clear hK K
        (try simp only [Act.put]); (try simp only [List.setIfInBounds_toArray]); (try simp only [List.set_cons_succ]); (try simp only [List.set_cons_zero])
        refine wpAnyH_ready (rs := [4, 5]) (by kernel_rfl) (by simp) ?_
        refine AllReadyH.cons (o := ⟨_, _, _, _, _, _⟩) rfl (fun K hK => ?_) (AllReadyH.cons (o := ⟨_, _, _, _, _, _⟩) rfl (fun K hK => ?_) AllReadyH.nil)
        · go_simp
          have hn5 := Blk.new V2 32 zG
          have hg5 : W2.heap.size ≤ V2.heap.size := J.size
          have KA := (Keeps.refl V2).alloc (.cells zG 32)
          replace hR1 := hR1.keep KA
          replace hR2 := hR2.keep KA
          replace J := J.trans KA
          clear KA
          generalize V2.alloc (.cells zG 32) = V3 at *
          generalize V2.heap.size = B5 at *
          refine hK.out _ _ ?_ (fun hHeld => ?_)
          · exact ⟨(HB1.out.keep J).c7, (HB2.out.keep J).c7⟩
          clear hK K
          (try simp only [Act.put]); (try simp only [List.setIfInBounds_toArray]); (try simp only [List.set_cons_succ]); (try simp only [List.set_cons_zero])
          refine wpAnyH_ready (rs := [5]) (by kernel_rfl) (by simp) ?_
          refine AllReadyH.cons (o := ⟨_, _, _, _, _, _⟩) rfl (fun K hK => ?_) AllReadyH.nil
          · go_simp
            have hn6 := Blk.new V3 32 zG
            have hg6 : W2.heap.size ≤ V3.heap.size := J.size
            have KA := (Keeps.refl V3).alloc (.cells zG 32)
            have hne : V3.heap.size ≠ B5 := by have := hn5.lt; omega
            replace hR1 := hR1.keep KA
            replace hR2 := hR2.keep KA
            replace hn5 := hn5.keep KA
            replace J := J.trans KA
            clear KA
            generalize V3.alloc (.cells zG 32) = V4 at *
            generalize V3.heap.size = B6 at *
            have HNE := Lib.hid (Ne.symm hne)
            clear hne
            refine hK.out _ _ ?_ (fun hHeld => ?_)
            · exact ⟨(HB1.out.keep J).c7, (HB2.out.keep J).c7⟩
            clear hK K
            (try simp only [Act.put]); (try simp only [List.setIfInBounds_toArray]); (try simp only [List.set_cons_succ]); (try simp only [List.set_cons_zero])
            refine wpAnyH_ready (rs := [6]) (by kernel_rfl) (by simp) ?_
            refine AllReadyH.cons (o := ⟨_, _, _, _, _, _⟩) rfl (fun K hK => ?_) AllReadyH.nil
            · obtain ⟨c0, c1, c2, c3, c4, c5⟩ := hn5.c6
              obtain ⟨g0, g1, g2, g3, g4, g5⟩ := hn5.f6
              go_simp
              clear c0 c1 c2 c3 c4 c5 g0 g1 g2 g3 g4 g5
              replace hn6 := hn6.other6 HNE.out.symm (.string z1.c.nm) (.int .i64 z1.c.kd) (.int .u16 (sv z1.c.M)) (.slice z1.ar z1.c.R.length z1.cr) (.slice z1.aw z1.c.Q.length z1.cw) (.slice z1.af z1.c.F.length z1.cf)
              replace hR1 := hR1.set6 hn5 (.string z1.c.nm) (.int .i64 z1.c.kd) (.int .u16 (sv z1.c.M)) (.slice z1.ar z1.c.R.length z1.cr) (.slice z1.aw z1.c.Q.length z1.cw) (.slice z1.af z1.c.F.length z1.cf)
              replace hR2 := hR2.set6 hn5 (.string z1.c.nm) (.int .i64 z1.c.kd) (.int .u16 (sv z1.c.M)) (.slice z1.ar z1.c.R.length z1.cr) (.slice z1.aw z1.c.Q.length z1.cw) (.slice z1.af z1.c.F.length z1.cf)
              replace hn5 := hn5.set6 (.string z1.c.nm) (.int .i64 z1.c.kd) (.int .u16 (sv z1.c.M)) (.slice z1.ar z1.c.R.length z1.cr) (.slice z1.aw z1.c.Q.length z1.cw) (.slice z1.af z1.c.F.length z1.cf)
              replace J := keeps_set6 J hg5 (.string z1.c.nm) (.int .i64 z1.c.kd) (.int .u16 (sv z1.c.M)) (.slice z1.ar z1.c.R.length z1.cr) (.slice z1.aw z1.c.Q.length z1.cw) (.slice z1.af z1.c.F.length z1.cf)
              generalize ((((((V4.setCell ⟨B5, 0, none⟩ (.string z1.c.nm)).setCell ⟨B5, 1, none⟩ (.int .i64 z1.c.kd)).setCell ⟨B5, 2, none⟩ (.int .u16 (sv z1.c.M))).setCell ⟨B5, 3, none⟩ (.slice z1.ar z1.c.R.length z1.cr)).setCell ⟨B5, 4, none⟩ (.slice z1.aw z1.c.Q.length z1.cw)).setCell ⟨B5, 5, none⟩ (.slice z1.af z1.c.F.length z1.cf)) = V5 at *
              refine hK.out _ _ ?_ (fun hHeld => ?_)
              · exact ⟨(HB1.out.keep J).c7, (HB2.out.keep J).c7⟩
              clear hK K
              (try simp only [Act.put]); (try simp only [List.setIfInBounds_toArray]); (try simp only [List.set_cons_succ]); (try simp only [List.set_cons_zero])
              refine wpAnyH_ready (rs := [7]) (by kernel_rfl) (by simp) ?_
              refine AllReadyH.cons (o := ⟨_, _, _, _, _, _⟩) rfl (fun K hK => ?_) AllReadyH.nil
              · obtain ⟨c0, c1, c2, c3, c4, c5⟩ := hn6.c6
                obtain ⟨g0, g1, g2, g3, g4, g5⟩ := hn6.f6
                go_simp
                clear c0 c1 c2 c3 c4 c5 g0 g1 g2 g3 g4 g5
                replace hn5 := hn5.other6 HNE.out (.string z2.c.nm) (.int .i64 z2.c.kd) (.int .u16 (sv z2.c.M)) (.slice z2.ar z2.c.R.length z2.cr) (.slice z2.aw z2.c.Q.length z2.cw) (.slice z2.af z2.c.F.length z2.cf)
                replace hR1 := hR1.set6 hn6 (.string z2.c.nm) (.int .i64 z2.c.kd) (.int .u16 (sv z2.c.M)) (.slice z2.ar z2.c.R.length z2.cr) (.slice z2.aw z2.c.Q.length z2.cw) (.slice z2.af z2.c.F.length z2.cf)
                replace hR2 := hR2.set6 hn6 (.string z2.c.nm) (.int .i64 z2.c.kd) (.int .u16 (sv z2.c.M)) (.slice z2.ar z2.c.R.length z2.cr) (.slice z2.aw z2.c.Q.length z2.cw) (.slice z2.af z2.c.F.length z2.cf)
                replace hn6 := hn6.set6 (.string z2.c.nm) (.int .i64 z2.c.kd) (.int .u16 (sv z2.c.M)) (.slice z2.ar z2.c.R.length z2.cr) (.slice z2.aw z2.c.Q.length z2.cw) (.slice z2.af z2.c.F.length z2.cf)
                replace J := keeps_set6 J hg6 (.string z2.c.nm) (.int .i64 z2.c.kd) (.int .u16 (sv z2.c.M)) (.slice z2.ar z2.c.R.length z2.cr) (.slice z2.aw z2.c.Q.length z2.cw) (.slice z2.af z2.c.F.length z2.cf)
                generalize ((((((V5.setCell ⟨B6, 0, none⟩ (.string z2.c.nm)).setCell ⟨B6, 1, none⟩ (.int .i64 z2.c.kd)).setCell ⟨B6, 2, none⟩ (.int .u16 (sv z2.c.M))).setCell ⟨B6, 3, none⟩ (.slice z2.ar z2.c.R.length z2.cr)).setCell ⟨B6, 4, none⟩ (.slice z2.aw z2.c.Q.length z2.cw)).setCell ⟨B6, 5, none⟩ (.slice z2.af z2.c.F.length z2.cf)) = V6 at *
                refine hK.out _ _ ?_ (fun hHeld => ?_)
                · exact ⟨(HB1.out.keep J).c7, (HB2.out.keep J).c7⟩
                clear hK K
                (try simp only [Act.put]); (try simp only [List.setIfInBounds_toArray]); (try simp only [List.set_cons_succ]); (try simp only [List.set_cons_zero])
                refine wpAnyH_done (by kernel_rfl) ?_ _
                go_wp2_with fail
                go_meet
                case rel => exact ⟨B5, B6, z1, z2, rfl, rfl, HZ1.out, HZ2.out, hn5, hn6, hR1, hR2, J⟩
        · go_simp
          have hn6 := Blk.new V2 32 zG
          have hg6 : W2.heap.size ≤ V2.heap.size := J.size
          have KA := (Keeps.refl V2).alloc (.cells zG 32)
          replace hR1 := hR1.keep KA
          replace hR2 := hR2.keep KA
          replace J := J.trans KA
          clear KA
          generalize V2.alloc (.cells zG 32) = V7 at *
          generalize V2.heap.size = B6 at *
          refine hK.out _ _ ?_ (fun hHeld => ?_)
          · exact ⟨(HB1.out.keep J).c7, (HB2.out.keep J).c7⟩
          clear hK K
          (try simp only [Act.put]); (try simp only [List.setIfInBounds_toArray]); (try simp only [List.set_cons_succ]); (try simp only [List.set_cons_zero])
          refine wpAnyH_ready (rs := [4]) (by kernel_rfl) (by simp) ?_
          refine AllReadyH.cons (o := ⟨_, _, _, _, _, _⟩) rfl (fun K hK => ?_) AllReadyH.nil
          · go_simp
            have hn5 := Blk.new V7 32 zG
            have hg5 : W2.heap.size ≤ V7.heap.size := J.size
            have KA := (Keeps.refl V7).alloc (.cells zG 32)
            have hne : V7.heap.size ≠ B6 := by have := hn6.lt; omega
            replace hR1 := hR1.keep KA
            replace hR2 := hR2.keep KA
            replace hn6 := hn6.keep KA
            replace J := J.trans KA
            clear KA
            generalize V7.alloc (.cells zG 32) = V8 at *
            generalize V7.heap.size = B5 at *
            have HNE := Lib.hid hne
            clear hne
            refine hK.out _ _ ?_ (fun hHeld => ?_)
            · exact ⟨(HB1.out.keep J).c7, (HB2.out.keep J).c7⟩
            clear hK K
            (try simp only [Act.put]); (try simp only [List.setIfInBounds_toArray]); (try simp only [List.set_cons_succ]); (try simp only [List.set_cons_zero])
            refine wpAnyH_ready (rs := [6]) (by kernel_rfl) (by simp) ?_
            refine AllReadyH.cons (o := ⟨_, _, _, _, _, _⟩) rfl (fun K hK => ?_) AllReadyH.nil
            · obtain ⟨c0, c1, c2, c3, c4, c5⟩ := hn5.c6
              obtain ⟨g0, g1, g2, g3, g4, g5⟩ := hn5.f6
              go_simp
              clear c0 c1 c2 c3 c4 c5 g0 g1 g2 g3 g4 g5
              replace hn6 := hn6.other6 HNE.out.symm (.string z1.c.nm) (.int .i64 z1.c.kd) (.int .u16 (sv z1.c.M)) (.slice z1.ar z1.c.R.length z1.cr) (.slice z1.aw z1.c.Q.length z1.cw) (.slice z1.af z1.c.F.length z1.cf)
              replace hR1 := hR1.set6 hn5 (.string z1.c.nm) (.int .i64 z1.c.kd) (.int .u16 (sv z1.c.M)) (.slice z1.ar z1.c.R.length z1.cr) (.slice z1.aw z1.c.Q.length z1.cw) (.slice z1.af z1.c.F.length z1.cf)
              replace hR2 := hR2.set6 hn5 (.string z1.c.nm) (.int .i64 z1.c.kd) (.int .u16 (sv z1.c.M)) (.slice z1.ar z1.c.R.length z1.cr) (.slice z1.aw z1.c.Q.length z1.cw) (.slice z1.af z1.c.F.length z1.cf)
              replace hn5 := hn5.set6 (.string z1.c.nm) (.int .i64 z1.c.kd) (.int .u16 (sv z1.c.M)) (.slice z1.ar z1.c.R.length z1.cr) (.slice z1.aw z1.c.Q.length z1.cw) (.slice z1.af z1.c.F.length z1.cf)
              replace J := keeps_set6 J hg5 (.string z1.c.nm) (.int .i64 z1.c.kd) (.int .u16 (sv z1.c.M)) (.slice z1.ar z1.c.R.length z1.cr) (.slice z1.aw z1.c.Q.length z1.cw) (.slice z1.af z1.c.F.length z1.cf)
              generalize ((((((V8.setCell ⟨B5, 0, none⟩ (.string z1.c.nm)).setCell ⟨B5, 1, none⟩ (.int .i64 z1.c.kd)).setCell ⟨B5, 2, none⟩ (.int .u16 (sv z1.c.M))).setCell ⟨B5, 3, none⟩ (.slice z1.ar z1.c.R.length z1.cr)).setCell ⟨B5, 4, none⟩ (.slice z1.aw z1.c.Q.length z1.cw)).setCell ⟨B5, 5, none⟩ (.slice z1.af z1.c.F.length z1.cf)) = V9 at *
              refine hK.out _ _ ?_ (fun hHeld => ?_)
              · exact ⟨(HB1.out.keep J).c7, (HB2.out.keep J).c7⟩
              clear hK K
              (try simp only [Act.put]); (try simp only [List.setIfInBounds_toArray]); (try simp only [List.set_cons_succ]); (try simp only [List.set_cons_zero])
              refine wpAnyH_ready (rs := [7]) (by kernel_rfl) (by simp) ?_
              refine AllReadyH.cons (o := ⟨_, _, _, _, _, _⟩) rfl (fun K hK => ?_) AllReadyH.nil
              · obtain ⟨c0, c1, c2, c3, c4, c5⟩ := hn6.c6
                obtain ⟨g0, g1, g2, g3, g4, g5⟩ := hn6.f6
                go_simp
                clear c0 c1 c2 c3 c4 c5 g0 g1 g2 g3 g4 g5
                replace hn5 := hn5.other6 HNE.out (.string z2.c.nm) (.int .i64 z2.c.kd) (.int .u16 (sv z2.c.M)) (.slice z2.ar z2.c.R.length z2.cr) (.slice z2.aw z2.c.Q.length z2.cw) (.slice z2.af z2.c.F.length z2.cf)
                replace hR1 := hR1.set6 hn6 (.string z2.c.nm) (.int .i64 z2.c.kd) (.int .u16 (sv z2.c.M)) (.slice z2.ar z2.c.R.length z2.cr) (.slice z2.aw z2.c.Q.length z2.cw) (.slice z2.af z2.c.F.length z2.cf)
                replace hR2 := hR2.set6 hn6 (.string z2.c.nm) (.int .i64 z2.c.kd) (.int .u16 (sv z2.c.M)) (.slice z2.ar z2.c.R.length z2.cr) (.slice z2.aw z2.c.Q.length z2.cw) (.slice z2.af z2.c.F.length z2.cf)
                replace hn6 := hn6.set6 (.string z2.c.nm) (.int .i64 z2.c.kd) (.int .u16 (sv z2.c.M)) (.slice z2.ar z2.c.R.length z2.cr) (.slice z2.aw z2.c.Q.length z2.cw) (.slice z2.af z2.c.F.length z2.cf)
                replace J := keeps_set6 J hg6 (.string z2.c.nm) (.int .i64 z2.c.kd) (.int .u16 (sv z2.c.M)) (.slice z2.ar z2.c.R.length z2.cr) (.slice z2.aw z2.c.Q.length z2.cw) (.slice z2.af z2.c.F.length z2.cf)
                generalize ((((((V9.setCell ⟨B6, 0, none⟩ (.string z2.c.nm)).setCell ⟨B6, 1, none⟩ (.int .i64 z2.c.kd)).setCell ⟨B6, 2, none⟩ (.int .u16 (sv z2.c.M))).setCell ⟨B6, 3, none⟩ (.slice z2.ar z2.c.R.length z2.cr)).setCell ⟨B6, 4, none⟩ (.slice z2.aw z2.c.Q.length z2.cw)).setCell ⟨B6, 5, none⟩ (.slice z2.af z2.c.F.length z2.cf)) = V10 at *
                refine hK.out _ _ ?_ (fun hHeld => ?_)
                · exact ⟨(HB1.out.keep J).c7, (HB2.out.keep J).c7⟩
                clear hK K
                (try simp only [Act.put]); (try simp only [List.setIfInBounds_toArray]); (try simp only [List.set_cons_succ]); (try simp only [List.set_cons_zero])
                refine wpAnyH_done (by kernel_rfl) ?_ _
                go_wp2_with fail
                go_meet
                case rel => exact ⟨B5, B6, z1, z2, rfl, rfl, HZ1.out, HZ2.out, hn5, hn6, hR1, hR2, J⟩
      · go_simp
        have hn5 := Blk.new V1 32 zG
        have hg5 : W2.heap.size ≤ V1.heap.size := J.size
        have KA := (Keeps.refl V1).alloc (.cells zG 32)
        replace hR1 := hR1.keep KA
        replace J := J.trans KA
        clear KA
        generalize V1.alloc (.cells zG 32) = V11 at *
        generalize V1.heap.size = B5 at *
        refine hK.out _ _ ?_ (fun hHeld => ?_)
        · exact ⟨(HB1.out.keep J).c7, (HB2.out.keep J).c7⟩
        clear hK K
        (try simp only [Act.put]); (try simp only [List.setIfInBounds_toArray]); (try simp only [List.set_cons_succ]); (try simp only [List.set_cons_zero])
        refine wpAnyH_ready (rs := [3, 5]) (by kernel_rfl) (by simp) ?_
        refine AllReadyH.cons (o := ⟨_, _, _, _, _, _⟩) rfl (fun K hK => ?_) (AllReadyH.cons (o := ⟨_, _, _, _, _, _⟩) rfl (fun K hK => ?_) AllReadyH.nil)
        · go_simp
          refine (HM.out _ _ _ _ _ _ _ _ _ _ _ _ _ _ _ (by first | exact Or.inl rfl | exact Or.inr rfl) (HKW.out.trans J)).mono ?_
          rintro e V12 ⟨z2, rfl, hz2, hR2, hK9⟩
          have HZ2 := Lib.hid hz2
          clear hz2
          replace hR1 := hR1.keep hK9
          replace hn5 := hn5.keep hK9
          replace J := J.trans hK9
          clear hK9
          unfold vg
          dsimp only
          refine hK.out _ _ ?_ (fun hHeld => ?_)
          · exact ⟨(HB1.out.keep J).c7, (HB2.out.keep J).c7⟩
          clear hK K
          (try simp only [Act.put]); (try simp only [List.setIfInBounds_toArray]); (try simp only [List.set_cons_succ]); (try simp only [List.set_cons_zero])
          refine wpAnyH_ready (rs := [5]) (by kernel_rfl) (by simp) ?_
          refine AllReadyH.cons (o := ⟨_, _, _, _, _, _⟩) rfl (fun K hK => ?_) AllReadyH.nil
          · go_simp
            have hn6 := Blk.new V12 32 zG
            have hg6 : W2.heap.size ≤ V12.heap.size := J.size
            have KA := (Keeps.refl V12).alloc (.cells zG 32)
            have hne : V12.heap.size ≠ B5 := by have := hn5.lt; omega
            replace hR1 := hR1.keep KA
            replace hR2 := hR2.keep KA
            replace hn5 := hn5.keep KA
            replace J := J.trans KA
            clear KA
            generalize V12.alloc (.cells zG 32) = V13 at *
            generalize V12.heap.size = B6 at *
            have HNE := Lib.hid (Ne.symm hne)
            clear hne
            refine hK.out _ _ ?_ (fun hHeld => ?_)
            · exact ⟨(HB1.out.keep J).c7, (HB2.out.keep J).c7⟩
            clear hK K
            (try simp only [Act.put]); (try simp only [List.setIfInBounds_toArray]); (try simp only [List.set_cons_succ]); (try simp only [List.set_cons_zero])
            refine wpAnyH_ready (rs := [6]) (by kernel_rfl) (by simp) ?_
            refine AllReadyH.cons (o := ⟨_, _, _, _, _, _⟩) rfl (fun K hK => ?_) AllReadyH.nil
            · obtain ⟨c0, c1, c2, c3, c4, c5⟩ := hn5.c6
              obtain ⟨g0, g1, g2, g3, g4, g5⟩ := hn5.f6
              go_simp
              clear c0 c1 c2 c3 c4 c5 g0 g1 g2 g3 g4 g5
              replace hn6 := hn6.other6 HNE.out.symm (.string z1.c.nm) (.int .i64 z1.c.kd) (.int .u16 (sv z1.c.M)) (.slice z1.ar z1.c.R.length z1.cr) (.slice z1.aw z1.c.Q.length z1.cw) (.slice z1.af z1.c.F.length z1.cf)
              replace hR1 := hR1.set6 hn5 (.string z1.c.nm) (.int .i64 z1.c.kd) (.int .u16 (sv z1.c.M)) (.slice z1.ar z1.c.R.length z1.cr) (.slice z1.aw z1.c.Q.length z1.cw) (.slice z1.af z1.c.F.length z1.cf)
              replace hR2 := hR2.set6 hn5 (.string z1.c.nm) (.int .i64 z1.c.kd) (.int .u16 (sv z1.c.M)) (.slice z1.ar z1.c.R.length z1.cr) (.slice z1.aw z1.c.Q.length z1.cw) (.slice z1.af z1.c.F.length z1.cf)
              replace hn5 := hn5.set6 (.string z1.c.nm) (.int .i64 z1.c.kd) (.int .u16 (sv z1.c.M)) (.slice z1.ar z1.c.R.length z1.cr) (.slice z1.aw z1.c.Q.length z1.cw) (.slice z1.af z1.c.F.length z1.cf)
              replace J := keeps_set6 J hg5 (.string z1.c.nm) (.int .i64 z1.c.kd) (.int .u16 (sv z1.c.M)) (.slice z1.ar z1.c.R.length z1.cr) (.slice z1.aw z1.c.Q.length z1.cw) (.slice z1.af z1.c.F.length z1.cf)
              generalize ((((((V13.setCell ⟨B5, 0, none⟩ (.string z1.c.nm)).setCell ⟨B5, 1, none⟩ (.int .i64 z1.c.kd)).setCell ⟨B5, 2, none⟩ (.int .u16 (sv z1.c.M))).setCell ⟨B5, 3, none⟩ (.slice z1.ar z1.c.R.length z1.cr)).setCell ⟨B5, 4, none⟩ (.slice z1.aw z1.c.Q.length z1.cw)).setCell ⟨B5, 5, none⟩ (.slice z1.af z1.c.F.length z1.cf)) = V14 at *
              refine hK.out _ _ ?_ (fun hHeld => ?_)
              · exact ⟨(HB1.out.keep J).c7, (HB2.out.keep J).c7⟩
              clear hK K
              (try simp only [Act.put]); (try simp only [List.setIfInBounds_toArray]); (try simp only [List.set_cons_succ]); (try simp only [List.set_cons_zero])
              refine wpAnyH_ready (rs := [7]) (by kernel_rfl) (by simp) ?_
              refine AllReadyH.cons (o := ⟨_, _, _, _, _, _⟩) rfl (fun K hK => ?_) AllReadyH.nil
              · obtain ⟨c0, c1, c2, c3, c4, c5⟩ := hn6.c6
                obtain ⟨g0, g1, g2, g3, g4, g5⟩ := hn6.f6
                go_simp
                clear c0 c1 c2 c3 c4 c5 g0 g1 g2 g3 g4 g5
                replace hn5 := hn5.other6 HNE.out (.string z2.c.nm) (.int .i64 z2.c.kd) (.int .u16 (sv z2.c.M)) (.slice z2.ar z2.c.R.length z2.cr) (.slice z2.aw z2.c.Q.length z2.cw) (.slice z2.af z2.c.F.length z2.cf)
                replace hR1 := hR1.set6 hn6 (.string z2.c.nm) (.int .i64 z2.c.kd) (.int .u16 (sv z2.c.M)) (.slice z2.ar z2.c.R.length z2.cr) (.slice z2.aw z2.c.Q.length z2.cw) (.slice z2.af z2.c.F.length z2.cf)
                replace hR2 := hR2.set6 hn6 (.string z2.c.nm) (.int .i64 z2.c.kd) (.int .u16 (sv z2.c.M)) (.slice z2.ar z2.c.R.length z2.cr) (.slice z2.aw z2.c.Q.length z2.cw) (.slice z2.af z2.c.F.length z2.cf)
                replace hn6 := hn6.set6 (.string z2.c.nm) (.int .i64 z2.c.kd) (.int .u16 (sv z2.c.M)) (.slice z2.ar z2.c.R.length z2.cr) (.slice z2.aw z2.c.Q.length z2.cw) (.slice z2.af z2.c.F.length z2.cf)
                replace J := keeps_set6 J hg6 (.string z2.c.nm) (.int .i64 z2.c.kd) (.int .u16 (sv z2.c.M)) (.slice z2.ar z2.c.R.length z2.cr) (.slice z2.aw z2.c.Q.length z2.cw) (.slice z2.af z2.c.F.length z2.cf)
                generalize ((((((V14.setCell ⟨B6, 0, none⟩ (.string z2.c.nm)).setCell ⟨B6, 1, none⟩ (.int .i64 z2.c.kd)).setCell ⟨B6, 2, none⟩ (.int .u16 (sv z2.c.M))).setCell ⟨B6, 3, none⟩ (.slice z2.ar z2.c.R.length z2.cr)).setCell ⟨B6, 4, none⟩ (.slice z2.aw z2.c.Q.length z2.cw)).setCell ⟨B6, 5, none⟩ (.slice z2.af z2.c.F.length z2.cf)) = V15 at *
                refine hK.out _ _ ?_ (fun hHeld => ?_)
                · exact ⟨(HB1.out.keep J).c7, (HB2.out.keep J).c7⟩
                clear hK K
                (try simp only [Act.put]); (try simp only [List.setIfInBounds_toArray]); (try simp only [List.set_cons_succ]); (try simp only [List.set_cons_zero])
                refine wpAnyH_done (by kernel_rfl) ?_ _
                go_wp2_with fail
                go_meet
                case rel => exact ⟨B5, B6, z1, z2, rfl, rfl, HZ1.out, HZ2.out, hn5, hn6, hR1, hR2, J⟩
        · go_simp
          have hn6 := Blk.new V11 32 zG
          have hg6 : W2.heap.size ≤ V11.heap.size := J.size
          have KA := (Keeps.refl V11).alloc (.cells zG 32)
          have hne : V11.heap.size ≠ B5 := by have := hn5.lt; omega
          replace hR1 := hR1.keep KA
          replace hn5 := hn5.keep KA
          replace J := J.trans KA
          clear KA
          generalize V11.alloc (.cells zG 32) = V16 at *
          generalize V11.heap.size = B6 at *
          have HNE := Lib.hid (Ne.symm hne)
          clear hne
          refine hK.out _ _ ?_ (fun hHeld => ?_)
          · exact ⟨(HB1.out.keep J).c7, (HB2.out.keep J).c7⟩
          clear hK K
          (try simp only [Act.put]); (try simp only [List.setIfInBounds_toArray]); (try simp only [List.set_cons_succ]); (try simp only [List.set_cons_zero])
          refine wpAnyH_ready (rs := [3]) (by kernel_rfl) (by simp) ?_
          refine AllReadyH.cons (o := ⟨_, _, _, _, _, _⟩) rfl (fun K hK => ?_) AllReadyH.nil
          · go_simp
            refine (HM.out _ _ _ _ _ _ _ _ _ _ _ _ _ _ _ (by first | exact Or.inl rfl | exact Or.inr rfl) (HKW.out.trans J)).mono ?_
            rintro e V17 ⟨z2, rfl, hz2, hR2, hK9⟩
            have HZ2 := Lib.hid hz2
            clear hz2
            replace hR1 := hR1.keep hK9
            replace hn5 := hn5.keep hK9
            replace hn6 := hn6.keep hK9
            replace J := J.trans hK9
            clear hK9
            unfold vg
            dsimp only
            refine hK.out _ _ ?_ (fun hHeld => ?_)
            · exact ⟨(HB1.out.keep J).c7, (HB2.out.keep J).c7⟩
            clear hK K
            (try simp only [Act.put]); (try simp only [List.setIfInBounds_toArray]); (try simp only [List.set_cons_succ]); (try simp only [List.set_cons_zero])
            refine wpAnyH_ready (rs := [6]) (by kernel_rfl) (by simp) ?_
            refine AllReadyH.cons (o := ⟨_, _, _, _, _, _⟩) rfl (fun K hK => ?_) AllReadyH.nil
            · obtain ⟨c0, c1, c2, c3, c4, c5⟩ := hn5.c6
              obtain ⟨g0, g1, g2, g3, g4, g5⟩ := hn5.f6
              go_simp
              clear c0 c1 c2 c3 c4 c5 g0 g1 g2 g3 g4 g5
              replace hn6 := hn6.other6 HNE.out.symm (.string z1.c.nm) (.int .i64 z1.c.kd) (.int .u16 (sv z1.c.M)) (.slice z1.ar z1.c.R.length z1.cr) (.slice z1.aw z1.c.Q.length z1.cw) (.slice z1.af z1.c.F.length z1.cf)
              replace hR1 := hR1.set6 hn5 (.string z1.c.nm) (.int .i64 z1.c.kd) (.int .u16 (sv z1.c.M)) (.slice z1.ar z1.c.R.length z1.cr) (.slice z1.aw z1.c.Q.length z1.cw) (.slice z1.af z1.c.F.length z1.cf)
              replace hR2 := hR2.set6 hn5 (.string z1.c.nm) (.int .i64 z1.c.kd) (.int .u16 (sv z1.c.M)) (.slice z1.ar z1.c.R.length z1.cr) (.slice z1.aw z1.c.Q.length z1.cw) (.slice z1.af z1.c.F.length z1.cf)
              replace hn5 := hn5.set6 (.string z1.c.nm) (.int .i64 z1.c.kd) (.int .u16 (sv z1.c.M)) (.slice z1.ar z1.c.R.length z1.cr) (.slice z1.aw z1.c.Q.length z1.cw) (.slice z1.af z1.c.F.length z1.cf)
              replace J := keeps_set6 J hg5 (.string z1.c.nm) (.int .i64 z1.c.kd) (.int .u16 (sv z1.c.M)) (.slice z1.ar z1.c.R.length z1.cr) (.slice z1.aw z1.c.Q.length z1.cw) (.slice z1.af z1.c.F.length z1.cf)
              generalize ((((((V17.setCell ⟨B5, 0, none⟩ (.string z1.c.nm)).setCell ⟨B5, 1, none⟩ (.int .i64 z1.c.kd)).setCell ⟨B5, 2, none⟩ (.int .u16 (sv z1.c.M))).setCell ⟨B5, 3, none⟩ (.slice z1.ar z1.c.R.length z1.cr)).setCell ⟨B5, 4, none⟩ (.slice z1.aw z1.c.Q.length z1.cw)).setCell ⟨B5, 5, none⟩ (.slice z1.af z1.c.F.length z1.cf)) = V18 at *
              refine hK.out _ _ ?_ (fun hHeld => ?_)
              · exact ⟨(HB1.out.keep J).c7, (HB2.out.keep J).c7⟩
              clear hK K
              (try simp only [Act.put]); (try simp only [List.setIfInBounds_toArray]); (try simp only [List.set_cons_succ]); (try simp only [List.set_cons_zero])
              refine wpAnyH_ready (rs := [7]) (by kernel_rfl) (by simp) ?_
              refine AllReadyH.cons (o := ⟨_, _, _, _, _, _⟩) rfl (fun K hK => ?_) AllReadyH.nil
              · obtain ⟨c0, c1, c2, c3, c4, c5⟩ := hn6.c6
                obtain ⟨g0, g1, g2, g3, g4, g5⟩ := hn6.f6
                go_simp
                clear c0 c1 c2 c3 c4 c5 g0 g1 g2 g3 g4 g5
                replace hn5 := hn5.other6 HNE.out (.string z2.c.nm) (.int .i64 z2.c.kd) (.int .u16 (sv z2.c.M)) (.slice z2.ar z2.c.R.length z2.cr) (.slice z2.aw z2.c.Q.length z2.cw) (.slice z2.af z2.c.F.length z2.cf)
                replace hR1 := hR1.set6 hn6 (.string z2.c.nm) (.int .i64 z2.c.kd) (.int .u16 (sv z2.c.M)) (.slice z2.ar z2.c.R.length z2.cr) (.slice z2.aw z2.c.Q.length z2.cw) (.slice z2.af z2.c.F.length z2.cf)
                replace hR2 := hR2.set6 hn6 (.string z2.c.nm) (.int .i64 z2.c.kd) (.int .u16 (sv z2.c.M)) (.slice z2.ar z2.c.R.length z2.cr) (.slice z2.aw z2.c.Q.length z2.cw) (.slice z2.af z2.c.F.length z2.cf)
                replace hn6 := hn6.set6 (.string z2.c.nm) (.int .i64 z2.c.kd) (.int .u16 (sv z2.c.M)) (.slice z2.ar z2.c.R.length z2.cr) (.slice z2.aw z2.c.Q.length z2.cw) (.slice z2.af z2.c.F.length z2.cf)
                replace J := keeps_set6 J hg6 (.string z2.c.nm) (.int .i64 z2.c.kd) (.int .u16 (sv z2.c.M)) (.slice z2.ar z2.c.R.length z2.cr) (.slice z2.aw z2.c.Q.length z2.cw) (.slice z2.af z2.c.F.length z2.cf)
                generalize ((((((V18.setCell ⟨B6, 0, none⟩ (.string z2.c.nm)).setCell ⟨B6, 1, none⟩ (.int .i64 z2.c.kd)).setCell ⟨B6, 2, none⟩ (.int .u16 (sv z2.c.M))).setCell ⟨B6, 3, none⟩ (.slice z2.ar z2.c.R.length z2.cr)).setCell ⟨B6, 4, none⟩ (.slice z2.aw z2.c.Q.length z2.cw)).setCell ⟨B6, 5, none⟩ (.slice z2.af z2.c.F.length z2.cf)) = V19 at *
                refine hK.out _ _ ?_ (fun hHeld => ?_)
                · exact ⟨(HB1.out.keep J).c7, (HB2.out.keep J).c7⟩
                clear hK K
                (try simp only [Act.put]); (try simp only [List.setIfInBounds_toArray]); (try simp only [List.set_cons_succ]); (try simp only [List.set_cons_zero])
                refine wpAnyH_done (by kernel_rfl) ?_ _
                go_wp2_with fail
                go_meet
                case rel => exact ⟨B5, B6, z1, z2, rfl, rfl, HZ1.out, HZ2.out, hn5, hn6, hR1, hR2, J⟩
      · go_simp
        have hn6 := Blk.new V1 32 zG
        have hg6 : W2.heap.size ≤ V1.heap.size := J.size
        have KA := (Keeps.refl V1).alloc (.cells zG 32)
        replace hR1 := hR1.keep KA
        replace J := J.trans KA
        clear KA
        generalize V1.alloc (.cells zG 32) = V20 at *
        generalize V1.heap.size = B6 at *
        refine hK.out _ _ ?_ (fun hHeld => ?_)
        · exact ⟨(HB1.out.keep J).c7, (HB2.out.keep J).c7⟩
        clear hK K
        (try simp only [Act.put]); (try simp only [List.setIfInBounds_toArray]); (try simp only [List.set_cons_succ]); (try simp only [List.set_cons_zero])
        refine wpAnyH_ready (rs := [3, 4]) (by kernel_rfl) (by simp) ?_
        refine AllReadyH.cons (o := ⟨_, _, _, _, _, _⟩) rfl (fun K hK => ?_) (AllReadyH.cons (o := ⟨_, _, _, _, _, _⟩) rfl (fun K hK => ?_) AllReadyH.nil)
        · go_simp
          refine (HM.out _ _ _ _ _ _ _ _ _ _ _ _ _ _ _ (by first | exact Or.inl rfl | exact Or.inr rfl) (HKW.out.trans J)).mono ?_
          rintro e V21 ⟨z2, rfl, hz2, hR2, hK9⟩
          have HZ2 := Lib.hid hz2
          clear hz2
          replace hR1 := hR1.keep hK9
          replace hn6 := hn6.keep hK9
          replace J := J.trans hK9
          clear hK9
          unfold vg
          dsimp only
          refine hK.out _ _ ?_ (fun hHeld => ?_)
          · exact ⟨(HB1.out.keep J).c7, (HB2.out.keep J).c7⟩
          clear hK K
          (try simp only [Act.put]); (try simp only [List.setIfInBounds_toArray]); (try simp only [List.set_cons_succ]); (try simp only [List.set_cons_zero])
          refine wpAnyH_ready (rs := [4]) (by kernel_rfl) (by simp) ?_
          refine AllReadyH.cons (o := ⟨_, _, _, _, _, _⟩) rfl (fun K hK => ?_) AllReadyH.nil
          · go_simp
            have hn5 := Blk.new V21 32 zG
            have hg5 : W2.heap.size ≤ V21.heap.size := J.size
            have KA := (Keeps.refl V21).alloc (.cells zG 32)
            have hne : V21.heap.size ≠ B6 := by have := hn6.lt; omega
            replace hR1 := hR1.keep KA
            replace hR2 := hR2.keep KA
            replace hn6 := hn6.keep KA
            replace J := J.trans KA
            clear KA
            generalize V21.alloc (.cells zG 32) = V22 at *
            generalize V21.heap.size = B5 at *
            have HNE := Lib.hid hne
            clear hne
            refine hK.out _ _ ?_ (fun hHeld => ?_)
            · exact ⟨(HB1.out.keep J).c7, (HB2.out.keep J).c7⟩
            clear hK K
            (try simp only [Act.put]); (try simp only [List.setIfInBounds_toArray]); (try simp only [List.set_cons_succ]); (try simp only [List.set_cons_zero])
            refine wpAnyH_ready (rs := [6]) (by kernel_rfl) (by simp) ?_
            refine AllReadyH.cons (o := ⟨_, _, _, _, _, _⟩) rfl (fun K hK => ?_) AllReadyH.nil
            · obtain ⟨c0, c1, c2, c3, c4, c5⟩ := hn5.c6
              obtain ⟨g0, g1, g2, g3, g4, g5⟩ := hn5.f6
              go_simp
              clear c0 c1 c2 c3 c4 c5 g0 g1 g2 g3 g4 g5
              replace hn6 := hn6.other6 HNE.out.symm (.string z1.c.nm) (.int .i64 z1.c.kd) (.int .u16 (sv z1.c.M)) (.slice z1.ar z1.c.R.length z1.cr) (.slice z1.aw z1.c.Q.length z1.cw) (.slice z1.af z1.c.F.length z1.cf)
              replace hR1 := hR1.set6 hn5 (.string z1.c.nm) (.int .i64 z1.c.kd) (.int .u16 (sv z1.c.M)) (.slice z1.ar z1.c.R.length z1.cr) (.slice z1.aw z1.c.Q.length z1.cw) (.slice z1.af z1.c.F.length z1.cf)
              replace hR2 := hR2.set6 hn5 (.string z1.c.nm) (.int .i64 z1.c.kd) (.int .u16 (sv z1.c.M)) (.slice z1.ar z1.c.R.length z1.cr) (.slice z1.aw z1.c.Q.length z1.cw) (.slice z1.af z1.c.F.length z1.cf)
              replace hn5 := hn5.set6 (.string z1.c.nm) (.int .i64 z1.c.kd) (.int .u16 (sv z1.c.M)) (.slice z1.ar z1.c.R.length z1.cr) (.slice z1.aw z1.c.Q.length z1.cw) (.slice z1.af z1.c.F.length z1.cf)
              replace J := keeps_set6 J hg5 (.string z1.c.nm) (.int .i64 z1.c.kd) (.int .u16 (sv z1.c.M)) (.slice z1.ar z1.c.R.length z1.cr) (.slice z1.aw z1.c.Q.length z1.cw) (.slice z1.af z1.c.F.length z1.cf)
              generalize ((((((V22.setCell ⟨B5, 0, none⟩ (.string z1.c.nm)).setCell ⟨B5, 1, none⟩ (.int .i64 z1.c.kd)).setCell ⟨B5, 2, none⟩ (.int .u16 (sv z1.c.M))).setCell ⟨B5, 3, none⟩ (.slice z1.ar z1.c.R.length z1.cr)).setCell ⟨B5, 4, none⟩ (.slice z1.aw z1.c.Q.length z1.cw)).setCell ⟨B5, 5, none⟩ (.slice z1.af z1.c.F.length z1.cf)) = V23 at *
              refine hK.out _ _ ?_ (fun hHeld => ?_)
              · exact ⟨(HB1.out.keep J).c7, (HB2.out.keep J).c7⟩
              clear hK K
              (try simp only [Act.put]); (try simp only [List.setIfInBounds_toArray]); (try simp only [List.set_cons_succ]); (try simp only [List.set_cons_zero])
              refine wpAnyH_ready (rs := [7]) (by kernel_rfl) (by simp) ?_
              refine AllReadyH.cons (o := ⟨_, _, _, _, _, _⟩) rfl (fun K hK => ?_) AllReadyH.nil
              · obtain ⟨c0, c1, c2, c3, c4, c5⟩ := hn6.c6
                obtain ⟨g0, g1, g2, g3, g4, g5⟩ := hn6.f6
                go_simp
                clear c0 c1 c2 c3 c4 c5 g0 g1 g2 g3 g4 g5
                replace hn5 := hn5.other6 HNE.out (.string z2.c.nm) (.int .i64 z2.c.kd) (.int .u16 (sv z2.c.M)) (.slice z2.ar z2.c.R.length z2.cr) (.slice z2.aw z2.c.Q.length z2.cw) (.slice z2.af z2.c.F.length z2.cf)
                replace hR1 := hR1.set6 hn6 (.string z2.c.nm) (.int .i64 z2.c.kd) (.int .u16 (sv z2.c.M)) (.slice z2.ar z2.c.R.length z2.cr) (.slice z2.aw z2.c.Q.length z2.cw) (.slice z2.af z2.c.F.length z2.cf)
                replace hR2 := hR2.set6 hn6 (.string z2.c.nm) (.int .i64 z2.c.kd) (.int .u16 (sv z2.c.M)) (.slice z2.ar z2.c.R.length z2.cr) (.slice z2.aw z2.c.Q.length z2.cw) (.slice z2.af z2.c.F.length z2.cf)
                replace hn6 := hn6.set6 (.string z2.c.nm) (.int .i64 z2.c.kd) (.int .u16 (sv z2.c.M)) (.slice z2.ar z2.c.R.length z2.cr) (.slice z2.aw z2.c.Q.length z2.cw) (.slice z2.af z2.c.F.length z2.cf)
                replace J := keeps_set6 J hg6 (.string z2.c.nm) (.int .i64 z2.c.kd) (.int .u16 (sv z2.c.M)) (.slice z2.ar z2.c.R.length z2.cr) (.slice z2.aw z2.c.Q.length z2.cw) (.slice z2.af z2.c.F.length z2.cf)
                generalize ((((((V23.setCell ⟨B6, 0, none⟩ (.string z2.c.nm)).setCell ⟨B6, 1, none⟩ (.int .i64 z2.c.kd)).setCell ⟨B6, 2, none⟩ (.int .u16 (sv z2.c.M))).setCell ⟨B6, 3, none⟩ (.slice z2.ar z2.c.R.length z2.cr)).setCell ⟨B6, 4, none⟩ (.slice z2.aw z2.c.Q.length z2.cw)).setCell ⟨B6, 5, none⟩ (.slice z2.af z2.c.F.length z2.cf)) = V24 at *
                refine hK.out _ _ ?_ (fun hHeld => ?_)
                · exact ⟨(HB1.out.keep J).c7, (HB2.out.keep J).c7⟩
                clear hK K
                (try simp only [Act.put]); (try simp only [List.setIfInBounds_toArray]); (try simp only [List.set_cons_succ]); (try simp only [List.set_cons_zero])
                refine wpAnyH_done (by kernel_rfl) ?_ _
                go_wp2_with fail
                go_meet
                case rel => exact ⟨B5, B6, z1, z2, rfl, rfl, HZ1.out, HZ2.out, hn5, hn6, hR1, hR2, J⟩
        · go_simp
          have hn5 := Blk.new V20 32 zG
          have hg5 : W2.heap.size ≤ V20.heap.size := J.size
          have KA := (Keeps.refl V20).alloc (.cells zG 32)
          have hne : V20.heap.size ≠ B6 := by have := hn6.lt; omega
          replace hR1 := hR1.keep KA
          replace hn6 := hn6.keep KA
          replace J := J.trans KA
          clear KA
          generalize V20.alloc (.cells zG 32) = V25 at *
          generalize V20.heap.size = B5 at *
          have HNE := Lib.hid hne
          clear hne
          refine hK.out _ _ ?_ (fun hHeld => ?_)
          · exact ⟨(HB1.out.keep J).c7, (HB2.out.keep J).c7⟩
          clear hK K
          (try simp only [Act.put]); (try simp only [List.setIfInBounds_toArray]); (try simp only [List.set_cons_succ]); (try simp only [List.set_cons_zero])
          refine wpAnyH_ready (rs := [3]) (by kernel_rfl) (by simp) ?_
          refine AllReadyH.cons (o := ⟨_, _, _, _, _, _⟩) rfl (fun K hK => ?_) AllReadyH.nil
          · go_simp
            refine (HM.out _ _ _ _ _ _ _ _ _ _ _ _ _ _ _ (by first | exact Or.inl rfl | exact Or.inr rfl) (HKW.out.trans J)).mono ?_
            rintro e V26 ⟨z2, rfl, hz2, hR2, hK9⟩
            have HZ2 := Lib.hid hz2
            clear hz2
            replace hR1 := hR1.keep hK9
            replace hn5 := hn5.keep hK9
            replace hn6 := hn6.keep hK9
            replace J := J.trans hK9
            clear hK9
            unfold vg
            dsimp only
            refine hK.out _ _ ?_ (fun hHeld => ?_)
            · exact ⟨(HB1.out.keep J).c7, (HB2.out.keep J).c7⟩
            clear hK K
            (try simp only [Act.put]); (try simp only [List.setIfInBounds_toArray]); (try simp only [List.set_cons_succ]); (try simp only [List.set_cons_zero])
            refine wpAnyH_ready (rs := [6]) (by kernel_rfl) (by simp) ?_
            refine AllReadyH.cons (o := ⟨_, _, _, _, _, _⟩) rfl (fun K hK => ?_) AllReadyH.nil
            · obtain ⟨c0, c1, c2, c3, c4, c5⟩ := hn5.c6
              obtain ⟨g0, g1, g2, g3, g4, g5⟩ := hn5.f6
              go_simp
              clear c0 c1 c2 c3 c4 c5 g0 g1 g2 g3 g4 g5
              replace hn6 := hn6.other6 HNE.out.symm (.string z1.c.nm) (.int .i64 z1.c.kd) (.int .u16 (sv z1.c.M)) (.slice z1.ar z1.c.R.length z1.cr) (.slice z1.aw z1.c.Q.length z1.cw) (.slice z1.af z1.c.F.length z1.cf)
              replace hR1 := hR1.set6 hn5 (.string z1.c.nm) (.int .i64 z1.c.kd) (.int .u16 (sv z1.c.M)) (.slice z1.ar z1.c.R.length z1.cr) (.slice z1.aw z1.c.Q.length z1.cw) (.slice z1.af z1.c.F.length z1.cf)
              replace hR2 := hR2.set6 hn5 (.string z1.c.nm) (.int .i64 z1.c.kd) (.int .u16 (sv z1.c.M)) (.slice z1.ar z1.c.R.length z1.cr) (.slice z1.aw z1.c.Q.length z1.cw) (.slice z1.af z1.c.F.length z1.cf)
              replace hn5 := hn5.set6 (.string z1.c.nm) (.int .i64 z1.c.kd) (.int .u16 (sv z1.c.M)) (.slice z1.ar z1.c.R.length z1.cr) (.slice z1.aw z1.c.Q.length z1.cw) (.slice z1.af z1.c.F.length z1.cf)
              replace J := keeps_set6 J hg5 (.string z1.c.nm) (.int .i64 z1.c.kd) (.int .u16 (sv z1.c.M)) (.slice z1.ar z1.c.R.length z1.cr) (.slice z1.aw z1.c.Q.length z1.cw) (.slice z1.af z1.c.F.length z1.cf)
              generalize ((((((V26.setCell ⟨B5, 0, none⟩ (.string z1.c.nm)).setCell ⟨B5, 1, none⟩ (.int .i64 z1.c.kd)).setCell ⟨B5, 2, none⟩ (.int .u16 (sv z1.c.M))).setCell ⟨B5, 3, none⟩ (.slice z1.ar z1.c.R.length z1.cr)).setCell ⟨B5, 4, none⟩ (.slice z1.aw z1.c.Q.length z1.cw)).setCell ⟨B5, 5, none⟩ (.slice z1.af z1.c.F.length z1.cf)) = V27 at *
              refine hK.out _ _ ?_ (fun hHeld => ?_)
              · exact ⟨(HB1.out.keep J).c7, (HB2.out.keep J).c7⟩
              clear hK K
              (try simp only [Act.put]); (try simp only [List.setIfInBounds_toArray]); (try simp only [List.set_cons_succ]); (try simp only [List.set_cons_zero])
              refine wpAnyH_ready (rs := [7]) (by kernel_rfl) (by simp) ?_
              refine AllReadyH.cons (o := ⟨_, _, _, _, _, _⟩) rfl (fun K hK => ?_) AllReadyH.nil
              · obtain ⟨c0, c1, c2, c3, c4, c5⟩ := hn6.c6
                obtain ⟨g0, g1, g2, g3, g4, g5⟩ := hn6.f6
                go_simp
                clear c0 c1 c2 c3 c4 c5 g0 g1 g2 g3 g4 g5
                replace hn5 := hn5.other6 HNE.out (.string z2.c.nm) (.int .i64 z2.c.kd) (.int .u16 (sv z2.c.M)) (.slice z2.ar z2.c.R.length z2.cr) (.slice z2.aw z2.c.Q.length z2.cw) (.slice z2.af z2.c.F.length z2.cf)
                replace hR1 := hR1.set6 hn6 (.string z2.c.nm) (.int .i64 z2.c.kd) (.int .u16 (sv z2.c.M)) (.slice z2.ar z2.c.R.length z2.cr) (.slice z2.aw z2.c.Q.length z2.cw) (.slice z2.af z2.c.F.length z2.cf)
                replace hR2 := hR2.set6 hn6 (.string z2.c.nm) (.int .i64 z2.c.kd) (.int .u16 (sv z2.c.M)) (.slice z2.ar z2.c.R.length z2.cr) (.slice z2.aw z2.c.Q.length z2.cw) (.slice z2.af z2.c.F.length z2.cf)
                replace hn6 := hn6.set6 (.string z2.c.nm) (.int .i64 z2.c.kd) (.int .u16 (sv z2.c.M)) (.slice z2.ar z2.c.R.length z2.cr) (.slice z2.aw z2.c.Q.length z2.cw) (.slice z2.af z2.c.F.length z2.cf)
                replace J := keeps_set6 J hg6 (.string z2.c.nm) (.int .i64 z2.c.kd) (.int .u16 (sv z2.c.M)) (.slice z2.ar z2.c.R.length z2.cr) (.slice z2.aw z2.c.Q.length z2.cw) (.slice z2.af z2.c.F.length z2.cf)
                generalize ((((((V27.setCell ⟨B6, 0, none⟩ (.string z2.c.nm)).setCell ⟨B6, 1, none⟩ (.int .i64 z2.c.kd)).setCell ⟨B6, 2, none⟩ (.int .u16 (sv z2.c.M))).setCell ⟨B6, 3, none⟩ (.slice z2.ar z2.c.R.length z2.cr)).setCell ⟨B6, 4, none⟩ (.slice z2.aw z2.c.Q.length z2.cw)).setCell ⟨B6, 5, none⟩ (.slice z2.af z2.c.F.length z2.cf)) = V28 at *
                refine hK.out _ _ ?_ (fun hHeld => ?_)
                · exact ⟨(HB1.out.keep J).c7, (HB2.out.keep J).c7⟩
                clear hK K
                (try simp only [Act.put]); (try simp only [List.setIfInBounds_toArray]); (try simp only [List.set_cons_succ]); (try simp only [List.set_cons_zero])
                refine wpAnyH_done (by kernel_rfl) ?_ _
                go_wp2_with fail
                go_meet
                case rel => exact ⟨B5, B6, z1, z2, rfl, rfl, HZ1.out, HZ2.out, hn5, hn6, hR1, hR2, J⟩
    · go_simp
      have hn5 := Blk.new V0 32 zG
      have hg5 : W2.heap.size ≤ V0.heap.size := J.size
      have KA := (Keeps.refl V0).alloc (.cells zG 32)
      replace J := J.trans KA
      clear KA
      generalize V0.alloc (.cells zG 32) = V29 at *
      generalize V0.heap.size = B5 at *
      refine hK.out _ _ ?_ (fun hHeld => ?_)
      · exact ⟨(HB1.out.keep J).c7, (HB2.out.keep J).c7⟩
      clear hK K
      (try simp only [Act.put]); (try simp only [List.setIfInBounds_toArray]); (try simp only [List.set_cons_succ]); (try simp only [List.set_cons_zero])
      refine wpAnyH_ready (rs := [1, 5]) (by kernel_rfl) (by simp) ?_
      refine AllReadyH.cons (o := ⟨_, _, _, _, _, _⟩) rfl (fun K hK => ?_) (AllReadyH.cons (o := ⟨_, _, _, _, _, _⟩) rfl (fun K hK => ?_) AllReadyH.nil)
      · go_simp
        refine (HM.out _ _ _ _ _ _ _ _ _ _ _ _ _ _ _ (by first | exact Or.inl rfl | exact Or.inr rfl) (HKW.out.trans J)).mono ?_
        rintro e V30 ⟨z1, rfl, hz1, hR1, hK9⟩
        have HZ1 := Lib.hid hz1
        clear hz1
        replace hn5 := hn5.keep hK9
        replace J := J.trans hK9
        clear hK9
        unfold vg
        dsimp only
        refine hK.out _ _ ?_ (fun hHeld => ?_)
        · exact ⟨(HB1.out.keep J).c7, (HB2.out.keep J).c7⟩
        clear hK K
        (try simp only [Act.put]); (try simp only [List.setIfInBounds_toArray]); (try simp only [List.set_cons_succ]); (try simp only [List.set_cons_zero])
        refine wpAnyH_ready (rs := [3, 5]) (by kernel_rfl) (by simp) ?_
        refine AllReadyH.cons (o := ⟨_, _, _, _, _, _⟩) rfl (fun K hK => ?_) (AllReadyH.cons (o := ⟨_, _, _, _, _, _⟩) rfl (fun K hK => ?_) AllReadyH.nil)
        · go_simp
          refine (HM.out _ _ _ _ _ _ _ _ _ _ _ _ _ _ _ (by first | exact Or.inl rfl | exact Or.inr rfl) (HKW.out.trans J)).mono ?_
          rintro e V31 ⟨z2, rfl, hz2, hR2, hK9⟩
          have HZ2 := Lib.hid hz2
          clear hz2
          replace hR1 := hR1.keep hK9
          replace hn5 := hn5.keep hK9
          replace J := J.trans hK9
          clear hK9
          unfold vg
          dsimp only
          refine hK.out _ _ ?_ (fun hHeld => ?_)
          · exact ⟨(HB1.out.keep J).c7, (HB2.out.keep J).c7⟩
          clear hK K
          (try simp only [Act.put]); (try simp only [List.setIfInBounds_toArray]); (try simp only [List.set_cons_succ]); (try simp only [List.set_cons_zero])
          refine wpAnyH_ready (rs := [5]) (by kernel_rfl) (by simp) ?_
          refine AllReadyH.cons (o := ⟨_, _, _, _, _, _⟩) rfl (fun K hK => ?_) AllReadyH.nil
          · go_simp
            have hn6 := Blk.new V31 32 zG
            have hg6 : W2.heap.size ≤ V31.heap.size := J.size
            have KA := (Keeps.refl V31).alloc (.cells zG 32)
            have hne : V31.heap.size ≠ B5 := by have := hn5.lt; omega
            replace hR1 := hR1.keep KA
            replace hR2 := hR2.keep KA
            replace hn5 := hn5.keep KA
            replace J := J.trans KA
            clear KA
            generalize V31.alloc (.cells zG 32) = V32 at *
            generalize V31.heap.size = B6 at *
            have HNE := Lib.hid (Ne.symm hne)
            clear hne
            refine hK.out _ _ ?_ (fun hHeld => ?_)
            · exact ⟨(HB1.out.keep J).c7, (HB2.out.keep J).c7⟩
            clear hK K
            (try simp only [Act.put]); (try simp only [List.setIfInBounds_toArray]); (try simp only [List.set_cons_succ]); (try simp only [List.set_cons_zero])
            refine wpAnyH_ready (rs := [6]) (by kernel_rfl) (by simp) ?_
            refine AllReadyH.cons (o := ⟨_, _, _, _, _, _⟩) rfl (fun K hK => ?_) AllReadyH.nil
            · obtain ⟨c0, c1, c2, c3, c4, c5⟩ := hn5.c6
              obtain ⟨g0, g1, g2, g3, g4, g5⟩ := hn5.f6
              go_simp
              clear c0 c1 c2 c3 c4 c5 g0 g1 g2 g3 g4 g5
              replace hn6 := hn6.other6 HNE.out.symm (.string z1.c.nm) (.int .i64 z1.c.kd) (.int .u16 (sv z1.c.M)) (.slice z1.ar z1.c.R.length z1.cr) (.slice z1.aw z1.c.Q.length z1.cw) (.slice z1.af z1.c.F.length z1.cf)
              replace hR1 := hR1.set6 hn5 (.string z1.c.nm) (.int .i64 z1.c.kd) (.int .u16 (sv z1.c.M)) (.slice z1.ar z1.c.R.length z1.cr) (.slice z1.aw z1.c.Q.length z1.cw) (.slice z1.af z1.c.F.length z1.cf)
              replace hR2 := hR2.set6 hn5 (.string z1.c.nm) (.int .i64 z1.c.kd) (.int .u16 (sv z1.c.M)) (.slice z1.ar z1.c.R.length z1.cr) (.slice z1.aw z1.c.Q.length z1.cw) (.slice z1.af z1.c.F.length z1.cf)
              replace hn5 := hn5.set6 (.string z1.c.nm) (.int .i64 z1.c.kd) (.int .u16 (sv z1.c.M)) (.slice z1.ar z1.c.R.length z1.cr) (.slice z1.aw z1.c.Q.length z1.cw) (.slice z1.af z1.c.F.length z1.cf)
              replace J := keeps_set6 J hg5 (.string z1.c.nm) (.int .i64 z1.c.kd) (.int .u16 (sv z1.c.M)) (.slice z1.ar z1.c.R.length z1.cr) (.slice z1.aw z1.c.Q.length z1.cw) (.slice z1.af z1.c.F.length z1.cf)
              generalize ((((((V32.setCell ⟨B5, 0, none⟩ (.string z1.c.nm)).setCell ⟨B5, 1, none⟩ (.int .i64 z1.c.kd)).setCell ⟨B5, 2, none⟩ (.int .u16 (sv z1.c.M))).setCell ⟨B5, 3, none⟩ (.slice z1.ar z1.c.R.length z1.cr)).setCell ⟨B5, 4, none⟩ (.slice z1.aw z1.c.Q.length z1.cw)).setCell ⟨B5, 5, none⟩ (.slice z1.af z1.c.F.length z1.cf)) = V33 at *
              refine hK.out _ _ ?_ (fun hHeld => ?_)
              · exact ⟨(HB1.out.keep J).c7, (HB2.out.keep J).c7⟩
              clear hK K
              (try simp only [Act.put]); (try simp only [List.setIfInBounds_toArray]); (try simp only [List.set_cons_succ]); (try simp only [List.set_cons_zero])
              refine wpAnyH_ready (rs := [7]) (by kernel_rfl) (by simp) ?_
              refine AllReadyH.cons (o := ⟨_, _, _, _, _, _⟩) rfl (fun K hK => ?_) AllReadyH.nil
              · obtain ⟨c0, c1, c2, c3, c4, c5⟩ := hn6.c6
                obtain ⟨g0, g1, g2, g3, g4, g5⟩ := hn6.f6
                go_simp
                clear c0 c1 c2 c3 c4 c5 g0 g1 g2 g3 g4 g5
                replace hn5 := hn5.other6 HNE.out (.string z2.c.nm) (.int .i64 z2.c.kd) (.int .u16 (sv z2.c.M)) (.slice z2.ar z2.c.R.length z2.cr) (.slice z2.aw z2.c.Q.length z2.cw) (.slice z2.af z2.c.F.length z2.cf)
                replace hR1 := hR1.set6 hn6 (.string z2.c.nm) (.int .i64 z2.c.kd) (.int .u16 (sv z2.c.M)) (.slice z2.ar z2.c.R.length z2.cr) (.slice z2.aw z2.c.Q.length z2.cw) (.slice z2.af z2.c.F.length z2.cf)
                replace hR2 := hR2.set6 hn6 (.string z2.c.nm) (.int .i64 z2.c.kd) (.int .u16 (sv z2.c.M)) (.slice z2.ar z2.c.R.length z2.cr) (.slice z2.aw z2.c.Q.length z2.cw) (.slice z2.af z2.c.F.length z2.cf)
                replace hn6 := hn6.set6 (.string z2.c.nm) (.int .i64 z2.c.kd) (.int .u16 (sv z2.c.M)) (.slice z2.ar z2.c.R.length z2.cr) (.slice z2.aw z2.c.Q.length z2.cw) (.slice z2.af z2.c.F.length z2.cf)
                replace J := keeps_set6 J hg6 (.string z2.c.nm) (.int .i64 z2.c.kd) (.int .u16 (sv z2.c.M)) (.slice z2.ar z2.c.R.length z2.cr) (.slice z2.aw z2.c.Q.length z2.cw) (.slice z2.af z2.c.F.length z2.cf)
                generalize ((((((V33.setCell ⟨B6, 0, none⟩ (.string z2.c.nm)).setCell ⟨B6, 1, none⟩ (.int .i64 z2.c.kd)).setCell ⟨B6, 2, none⟩ (.int .u16 (sv z2.c.M))).setCell ⟨B6, 3, none⟩ (.slice z2.ar z2.c.R.length z2.cr)).setCell ⟨B6, 4, none⟩ (.slice z2.aw z2.c.Q.length z2.cw)).setCell ⟨B6, 5, none⟩ (.slice z2.af z2.c.F.length z2.cf)) = V34 at *
                refine hK.out _ _ ?_ (fun hHeld => ?_)
                · exact ⟨(HB1.out.keep J).c7, (HB2.out.keep J).c7⟩
                clear hK K
                (try simp only [Act.put]); (try simp only [List.setIfInBounds_toArray]); (try simp only [List.set_cons_succ]); (try simp only [List.set_cons_zero])
                refine wpAnyH_done (by kernel_rfl) ?_ _
                go_wp2_with fail
                go_meet
                case rel => exact ⟨B5, B6, z1, z2, rfl, rfl, HZ1.out, HZ2.out, hn5, hn6, hR1, hR2, J⟩
        · go_simp
          have hn6 := Blk.new V30 32 zG
          have hg6 : W2.heap.size ≤ V30.heap.size := J.size
          have KA := (Keeps.refl V30).alloc (.cells zG 32)
          have hne : V30.heap.size ≠ B5 := by have := hn5.lt; omega
          replace hR1 := hR1.keep KA
          replace hn5 := hn5.keep KA
          replace J := J.trans KA
          clear KA
          generalize V30.alloc (.cells zG 32) = V35 at *
          generalize V30.heap.size = B6 at *
          have HNE := Lib.hid (Ne.symm hne)
          clear hne
          refine hK.out _ _ ?_ (fun hHeld => ?_)
          · exact ⟨(HB1.out.keep J).c7, (HB2.out.keep J).c7⟩
          clear hK K
          (try simp only [Act.put]); (try simp only [List.setIfInBounds_toArray]); (try simp only [List.set_cons_succ]); (try simp only [List.set_cons_zero])
          refine wpAnyH_ready (rs := [3]) (by kernel_rfl) (by simp) ?_
          refine AllReadyH.cons (o := ⟨_, _, _, _, _, _⟩) rfl (fun K hK => ?_) AllReadyH.nil
          · go_simp
            refine (HM.out _ _ _ _ _ _ _ _ _ _ _ _ _ _ _ (by first | exact Or.inl rfl | exact Or.inr rfl) (HKW.out.trans J)).mono ?_
            rintro e V36 ⟨z2, rfl, hz2, hR2, hK9⟩
            have HZ2 := Lib.hid hz2
            clear hz2
            replace hR1 := hR1.keep hK9
            replace hn5 := hn5.keep hK9
            replace hn6 := hn6.keep hK9
            replace J := J.trans hK9
            clear hK9
            unfold vg
            dsimp only
            refine hK.out _ _ ?_ (fun hHeld => ?_)
            · exact ⟨(HB1.out.keep J).c7, (HB2.out.keep J).c7⟩
            clear hK K
            (try simp only [Act.put]); (try simp only [List.setIfInBounds_toArray]); (try simp only [List.set_cons_succ]); (try simp only [List.set_cons_zero])
            refine wpAnyH_ready (rs := [6]) (by kernel_rfl) (by simp) ?_
            refine AllReadyH.cons (o := ⟨_, _, _, _, _, _⟩) rfl (fun K hK => ?_) AllReadyH.nil
            · obtain ⟨c0, c1, c2, c3, c4, c5⟩ := hn5.c6
              obtain ⟨g0, g1, g2, g3, g4, g5⟩ := hn5.f6
              go_simp
              clear c0 c1 c2 c3 c4 c5 g0 g1 g2 g3 g4 g5
              replace hn6 := hn6.other6 HNE.out.symm (.string z1.c.nm) (.int .i64 z1.c.kd) (.int .u16 (sv z1.c.M)) (.slice z1.ar z1.c.R.length z1.cr) (.slice z1.aw z1.c.Q.length z1.cw) (.slice z1.af z1.c.F.length z1.cf)
              replace hR1 := hR1.set6 hn5 (.string z1.c.nm) (.int .i64 z1.c.kd) (.int .u16 (sv z1.c.M)) (.slice z1.ar z1.c.R.length z1.cr) (.slice z1.aw z1.c.Q.length z1.cw) (.slice z1.af z1.c.F.length z1.cf)
              replace hR2 := hR2.set6 hn5 (.string z1.c.nm) (.int .i64 z1.c.kd) (.int .u16 (sv z1.c.M)) (.slice z1.ar z1.c.R.length z1.cr) (.slice z1.aw z1.c.Q.length z1.cw) (.slice z1.af z1.c.F.length z1.cf)
              replace hn5 := hn5.set6 (.string z1.c.nm) (.int .i64 z1.c.kd) (.int .u16 (sv z1.c.M)) (.slice z1.ar z1.c.R.length z1.cr) (.slice z1.aw z1.c.Q.length z1.cw) (.slice z1.af z1.c.F.length z1.cf)
              replace J := keeps_set6 J hg5 (.string z1.c.nm) (.int .i64 z1.c.kd) (.int .u16 (sv z1.c.M)) (.slice z1.ar z1.c.R.length z1.cr) (.slice z1.aw z1.c.Q.length z1.cw) (.slice z1.af z1.c.F.length z1.cf)
              generalize ((((((V36.setCell ⟨B5, 0, none⟩ (.string z1.c.nm)).setCell ⟨B5, 1, none⟩ (.int .i64 z1.c.kd)).setCell ⟨B5, 2, none⟩ (.int .u16 (sv z1.c.M))).setCell ⟨B5, 3, none⟩ (.slice z1.ar z1.c.R.length z1.cr)).setCell ⟨B5, 4, none⟩ (.slice z1.aw z1.c.Q.length z1.cw)).setCell ⟨B5, 5, none⟩ (.slice z1.af z1.c.F.length z1.cf)) = V37 at *
              refine hK.out _ _ ?_ (fun hHeld => ?_)
              · exact ⟨(HB1.out.keep J).c7, (HB2.out.keep J).c7⟩
              clear hK K
              (try simp only [Act.put]); (try simp only [List.setIfInBounds_toArray]); (try simp only [List.set_cons_succ]); (try simp only [List.set_cons_zero])
              refine wpAnyH_ready (rs := [7]) (by kernel_rfl) (by simp) ?_
              refine AllReadyH.cons (o := ⟨_, _, _, _, _, _⟩) rfl (fun K hK => ?_) AllReadyH.nil
              · obtain ⟨c0, c1, c2, c3, c4, c5⟩ := hn6.c6
                obtain ⟨g0, g1, g2, g3, g4, g5⟩ := hn6.f6
                go_simp
                clear c0 c1 c2 c3 c4 c5 g0 g1 g2 g3 g4 g5
                replace hn5 := hn5.other6 HNE.out (.string z2.c.nm) (.int .i64 z2.c.kd) (.int .u16 (sv z2.c.M)) (.slice z2.ar z2.c.R.length z2.cr) (.slice z2.aw z2.c.Q.length z2.cw) (.slice z2.af z2.c.F.length z2.cf)
                replace hR1 := hR1.set6 hn6 (.string z2.c.nm) (.int .i64 z2.c.kd) (.int .u16 (sv z2.c.M)) (.slice z2.ar z2.c.R.length z2.cr) (.slice z2.aw z2.c.Q.length z2.cw) (.slice z2.af z2.c.F.length z2.cf)
                replace hR2 := hR2.set6 hn6 (.string z2.c.nm) (.int .i64 z2.c.kd) (.int .u16 (sv z2.c.M)) (.slice z2.ar z2.c.R.length z2.cr) (.slice z2.aw z2.c.Q.length z2.cw) (.slice z2.af z2.c.F.length z2.cf)
                replace hn6 := hn6.set6 (.string z2.c.nm) (.int .i64 z2.c.kd) (.int .u16 (sv z2.c.M)) (.slice z2.ar z2.c.R.length z2.cr) (.slice z2.aw z2.c.Q.length z2.cw) (.slice z2.af z2.c.F.length z2.cf)
                replace J := keeps_set6 J hg6 (.string z2.c.nm) (.int .i64 z2.c.kd) (.int .u16 (sv z2.c.M)) (.slice z2.ar z2.c.R.length z2.cr) (.slice z2.aw z2.c.Q.length z2.cw) (.slice z2.af z2.c.F.length z2.cf)
                generalize ((((((V37.setCell ⟨B6, 0, none⟩ (.string z2.c.nm)).setCell ⟨B6, 1, none⟩ (.int .i64 z2.c.kd)).setCell ⟨B6, 2, none⟩ (.int .u16 (sv z2.c.M))).setCell ⟨B6, 3, none⟩ (.slice z2.ar z2.c.R.length z2.cr)).setCell ⟨B6, 4, none⟩ (.slice z2.aw z2.c.Q.length z2.cw)).setCell ⟨B6, 5, none⟩ (.slice z2.af z2.c.F.length z2.cf)) = V38 at *
                refine hK.out _ _ ?_ (fun hHeld => ?_)
                · exact ⟨(HB1.out.keep J).c7, (HB2.out.keep J).c7⟩
                clear hK K
                (try simp only [Act.put]); (try simp only [List.setIfInBounds_toArray]); (try simp only [List.set_cons_succ]); (try simp only [List.set_cons_zero])
                refine wpAnyH_done (by kernel_rfl) ?_ _
                go_wp2_with fail
                go_meet
                case rel => exact ⟨B5, B6, z1, z2, rfl, rfl, HZ1.out, HZ2.out, hn5, hn6, hR1, hR2, J⟩
      · go_simp
        have hn6 := Blk.new V29 32 zG
        have hg6 : W2.heap.size ≤ V29.heap.size := J.size
        have KA := (Keeps.refl V29).alloc (.cells zG 32)
        have hne : V29.heap.size ≠ B5 := by have := hn5.lt; omega
        replace hn5 := hn5.keep KA
        replace J := J.trans KA
        clear KA
        generalize V29.alloc (.cells zG 32) = V39 at *
        generalize V29.heap.size = B6 at *
        have HNE := Lib.hid (Ne.symm hne)
        clear hne
        refine hK.out _ _ ?_ (fun hHeld => ?_)
        · exact ⟨(HB1.out.keep J).c7, (HB2.out.keep J).c7⟩
        clear hK K
        (try simp only [Act.put]); (try simp only [List.setIfInBounds_toArray]); (try simp only [List.set_cons_succ]); (try simp only [List.set_cons_zero])
        refine wpAnyH_ready (rs := [1]) (by kernel_rfl) (by simp) ?_
        refine AllReadyH.cons (o := ⟨_, _, _, _, _, _⟩) rfl (fun K hK => ?_) AllReadyH.nil
        · go_simp
          refine (HM.out _ _ _ _ _ _ _ _ _ _ _ _ _ _ _ (by first | exact Or.inl rfl | exact Or.inr rfl) (HKW.out.trans J)).mono ?_
          rintro e V40 ⟨z1, rfl, hz1, hR1, hK9⟩
          have HZ1 := Lib.hid hz1
          clear hz1
          replace hn5 := hn5.keep hK9
          replace hn6 := hn6.keep hK9
          replace J := J.trans hK9
          clear hK9
          unfold vg
          dsimp only
          refine hK.out _ _ ?_ (fun hHeld => ?_)
          · exact ⟨(HB1.out.keep J).c7, (HB2.out.keep J).c7⟩
          clear hK K
          (try simp only [Act.put]); (try simp only [List.setIfInBounds_toArray]); (try simp only [List.set_cons_succ]); (try simp only [List.set_cons_zero])
          refine wpAnyH_ready (rs := [3]) (by kernel_rfl) (by simp) ?_
          refine AllReadyH.cons (o := ⟨_, _, _, _, _, _⟩) rfl (fun K hK => ?_) AllReadyH.nil
          · go_simp
            refine (HM.out _ _ _ _ _ _ _ _ _ _ _ _ _ _ _ (by first | exact Or.inl rfl | exact Or.inr rfl) (HKW.out.trans J)).mono ?_
            rintro e V41 ⟨z2, rfl, hz2, hR2, hK9⟩
            have HZ2 := Lib.hid hz2
            clear hz2
            replace hR1 := hR1.keep hK9
            replace hn5 := hn5.keep hK9
            replace hn6 := hn6.keep hK9
            replace J := J.trans hK9
            clear hK9
            unfold vg
            dsimp only
            refine hK.out _ _ ?_ (fun hHeld => ?_)
            · exact ⟨(HB1.out.keep J).c7, (HB2.out.keep J).c7⟩
            clear hK K
            (try simp only [Act.put]); (try simp only [List.setIfInBounds_toArray]); (try simp only [List.set_cons_succ]); (try simp only [List.set_cons_zero])
            refine wpAnyH_ready (rs := [6]) (by kernel_rfl) (by simp) ?_
            refine AllReadyH.cons (o := ⟨_, _, _, _, _, _⟩) rfl (fun K hK => ?_) AllReadyH.nil
            · obtain ⟨c0, c1, c2, c3, c4, c5⟩ := hn5.c6
              obtain ⟨g0, g1, g2, g3, g4, g5⟩ := hn5.f6
              go_simp
              clear c0 c1 c2 c3 c4 c5 g0 g1 g2 g3 g4 g5
              replace hn6 := hn6.other6 HNE.out.symm (.string z1.c.nm) (.int .i64 z1.c.kd) (.int .u16 (sv z1.c.M)) (.slice z1.ar z1.c.R.length z1.cr) (.slice z1.aw z1.c.Q.length z1.cw) (.slice z1.af z1.c.F.length z1.cf)
              replace hR1 := hR1.set6 hn5 (.string z1.c.nm) (.int .i64 z1.c.kd) (.int .u16 (sv z1.c.M)) (.slice z1.ar z1.c.R.length z1.cr) (.slice z1.aw z1.c.Q.length z1.cw) (.slice z1.af z1.c.F.length z1.cf)
              replace hR2 := hR2.set6 hn5 (.string z1.c.nm) (.int .i64 z1.c.kd) (.int .u16 (sv z1.c.M)) (.slice z1.ar z1.c.R.length z1.cr) (.slice z1.aw z1.c.Q.length z1.cw) (.slice z1.af z1.c.F.length z1.cf)
              replace hn5 := hn5.set6 (.string z1.c.nm) (.int .i64 z1.c.kd) (.int .u16 (sv z1.c.M)) (.slice z1.ar z1.c.R.length z1.cr) (.slice z1.aw z1.c.Q.length z1.cw) (.slice z1.af z1.c.F.length z1.cf)
              replace J := keeps_set6 J hg5 (.string z1.c.nm) (.int .i64 z1.c.kd) (.int .u16 (sv z1.c.M)) (.slice z1.ar z1.c.R.length z1.cr) (.slice z1.aw z1.c.Q.length z1.cw) (.slice z1.af z1.c.F.length z1.cf)
              generalize ((((((V41.setCell ⟨B5, 0, none⟩ (.string z1.c.nm)).setCell ⟨B5, 1, none⟩ (.int .i64 z1.c.kd)).setCell ⟨B5, 2, none⟩ (.int .u16 (sv z1.c.M))).setCell ⟨B5, 3, none⟩ (.slice z1.ar z1.c.R.length z1.cr)).setCell ⟨B5, 4, none⟩ (.slice z1.aw z1.c.Q.length z1.cw)).setCell ⟨B5, 5, none⟩ (.slice z1.af z1.c.F.length z1.cf)) = V42 at *
              refine hK.out _ _ ?_ (fun hHeld => ?_)
              · exact ⟨(HB1.out.keep J).c7, (HB2.out.keep J).c7⟩
              clear hK K
              (try simp only [Act.put]); (try simp only [List.setIfInBounds_toArray]); (try simp only [List.set_cons_succ]); (try simp only [List.set_cons_zero])
              refine wpAnyH_ready (rs := [7]) (by kernel_rfl) (by simp) ?_
              refine AllReadyH.cons (o := ⟨_, _, _, _, _, _⟩) rfl (fun K hK => ?_) AllReadyH.nil
              · obtain ⟨c0, c1, c2, c3, c4, c5⟩ := hn6.c6
                obtain ⟨g0, g1, g2, g3, g4, g5⟩ := hn6.f6
                go_simp
                clear c0 c1 c2 c3 c4 c5 g0 g1 g2 g3 g4 g5
                replace hn5 := hn5.other6 HNE.out (.string z2.c.nm) (.int .i64 z2.c.kd) (.int .u16 (sv z2.c.M)) (.slice z2.ar z2.c.R.length z2.cr) (.slice z2.aw z2.c.Q.length z2.cw) (.slice z2.af z2.c.F.length z2.cf)
                replace hR1 := hR1.set6 hn6 (.string z2.c.nm) (.int .i64 z2.c.kd) (.int .u16 (sv z2.c.M)) (.slice z2.ar z2.c.R.length z2.cr) (.slice z2.aw z2.c.Q.length z2.cw) (.slice z2.af z2.c.F.length z2.cf)
                replace hR2 := hR2.set6 hn6 (.string z2.c.nm) (.int .i64 z2.c.kd) (.int .u16 (sv z2.c.M)) (.slice z2.ar z2.c.R.length z2.cr) (.slice z2.aw z2.c.Q.length z2.cw) (.slice z2.af z2.c.F.length z2.cf)
                replace hn6 := hn6.set6 (.string z2.c.nm) (.int .i64 z2.c.kd) (.int .u16 (sv z2.c.M)) (.slice z2.ar z2.c.R.length z2.cr) (.slice z2.aw z2.c.Q.length z2.cw) (.slice z2.af z2.c.F.length z2.cf)
                replace J := keeps_set6 J hg6 (.string z2.c.nm) (.int .i64 z2.c.kd) (.int .u16 (sv z2.c.M)) (.slice z2.ar z2.c.R.length z2.cr) (.slice z2.aw z2.c.Q.length z2.cw) (.slice z2.af z2.c.F.length z2.cf)
                generalize ((((((V42.setCell ⟨B6, 0, none⟩ (.string z2.c.nm)).setCell ⟨B6, 1, none⟩ (.int .i64 z2.c.kd)).setCell ⟨B6, 2, none⟩ (.int .u16 (sv z2.c.M))).setCell ⟨B6, 3, none⟩ (.slice z2.ar z2.c.R.length z2.cr)).setCell ⟨B6, 4, none⟩ (.slice z2.aw z2.c.Q.length z2.cw)).setCell ⟨B6, 5, none⟩ (.slice z2.af z2.c.F.length z2.cf)) = V43 at *
                refine hK.out _ _ ?_ (fun hHeld => ?_)
                · exact ⟨(HB1.out.keep J).c7, (HB2.out.keep J).c7⟩
                clear hK K
                (try simp only [Act.put]); (try simp only [List.setIfInBounds_toArray]); (try simp only [List.set_cons_succ]); (try simp only [List.set_cons_zero])
                refine wpAnyH_done (by kernel_rfl) ?_ _
                go_wp2_with fail
                go_meet
                case rel => exact ⟨B5, B6, z1, z2, rfl, rfl, HZ1.out, HZ2.out, hn5, hn6, hR1, hR2, J⟩
    · go_simp
      have hn6 := Blk.new V0 32 zG
      have hg6 : W2.heap.size ≤ V0.heap.size := J.size
      have KA := (Keeps.refl V0).alloc (.cells zG 32)
      replace J := J.trans KA
      clear KA
      generalize V0.alloc (.cells zG 32) = V44 at *
      generalize V0.heap.size = B6 at *
      refine hK.out _ _ ?_ (fun hHeld => ?_)
      · exact ⟨(HB1.out.keep J).c7, (HB2.out.keep J).c7⟩
      clear hK K
      (try simp only [Act.put]); (try simp only [List.setIfInBounds_toArray]); (try simp only [List.set_cons_succ]); (try simp only [List.set_cons_zero])
      refine wpAnyH_ready (rs := [1, 4]) (by kernel_rfl) (by simp) ?_
      refine AllReadyH.cons (o := ⟨_, _, _, _, _, _⟩) rfl (fun K hK => ?_) (AllReadyH.cons (o := ⟨_, _, _, _, _, _⟩) rfl (fun K hK => ?_) AllReadyH.nil)
      · go_simp
        refine (HM.out _ _ _ _ _ _ _ _ _ _ _ _ _ _ _ (by first | exact Or.inl rfl | exact Or.inr rfl) (HKW.out.trans J)).mono ?_
        rintro e V45 ⟨z1, rfl, hz1, hR1, hK9⟩
        have HZ1 := Lib.hid hz1
        clear hz1
        replace hn6 := hn6.keep hK9
        replace J := J.trans hK9
        clear hK9
        unfold vg
        dsimp only
        refine hK.out _ _ ?_ (fun hHeld => ?_)
        · exact ⟨(HB1.out.keep J).c7, (HB2.out.keep J).c7⟩
        clear hK K
        (try simp only [Act.put]); (try simp only [List.setIfInBounds_toArray]); (try simp only [List.set_cons_succ]); (try simp only [List.set_cons_zero])
        refine wpAnyH_ready (rs := [3, 4]) (by kernel_rfl) (by simp) ?_
        refine AllReadyH.cons (o := ⟨_, _, _, _, _, _⟩) rfl (fun K hK => ?_) (AllReadyH.cons (o := ⟨_, _, _, _, _, _⟩) rfl (fun K hK => ?_) AllReadyH.nil)
        · go_simp
          refine (HM.out _ _ _ _ _ _ _ _ _ _ _ _ _ _ _ (by first | exact Or.inl rfl | exact Or.inr rfl) (HKW.out.trans J)).mono ?_
          rintro e V46 ⟨z2, rfl, hz2, hR2, hK9⟩
          have HZ2 := Lib.hid hz2
          clear hz2
          replace hR1 := hR1.keep hK9
          replace hn6 := hn6.keep hK9
          replace J := J.trans hK9
          clear hK9
          unfold vg
          dsimp only
          refine hK.out _ _ ?_ (fun hHeld => ?_)
          · exact ⟨(HB1.out.keep J).c7, (HB2.out.keep J).c7⟩
          clear hK K
          (try simp only [Act.put]); (try simp only [List.setIfInBounds_toArray]); (try simp only [List.set_cons_succ]); (try simp only [List.set_cons_zero])
          refine wpAnyH_ready (rs := [4]) (by kernel_rfl) (by simp) ?_
          refine AllReadyH.cons (o := ⟨_, _, _, _, _, _⟩) rfl (fun K hK => ?_) AllReadyH.nil
          · go_simp
            have hn5 := Blk.new V46 32 zG
            have hg5 : W2.heap.size ≤ V46.heap.size := J.size
            have KA := (Keeps.refl V46).alloc (.cells zG 32)
            have hne : V46.heap.size ≠ B6 := by have := hn6.lt; omega
            replace hR1 := hR1.keep KA
            replace hR2 := hR2.keep KA
            replace hn6 := hn6.keep KA
            replace J := J.trans KA
            clear KA
            generalize V46.alloc (.cells zG 32) = V47 at *
            generalize V46.heap.size = B5 at *
            have HNE := Lib.hid hne
            clear hne
            refine hK.out _ _ ?_ (fun hHeld => ?_)
            · exact ⟨(HB1.out.keep J).c7, (HB2.out.keep J).c7⟩
            clear hK K
            (try simp only [Act.put]); (try simp only [List.setIfInBounds_toArray]); (try simp only [List.set_cons_succ]); (try simp only [List.set_cons_zero])
            refine wpAnyH_ready (rs := [6]) (by kernel_rfl) (by simp) ?_
            refine AllReadyH.cons (o := ⟨_, _, _, _, _, _⟩) rfl (fun K hK => ?_) AllReadyH.nil
            · obtain ⟨c0, c1, c2, c3, c4, c5⟩ := hn5.c6
              obtain ⟨g0, g1, g2, g3, g4, g5⟩ := hn5.f6
              go_simp
              clear c0 c1 c2 c3 c4 c5 g0 g1 g2 g3 g4 g5
              replace hn6 := hn6.other6 HNE.out.symm (.string z1.c.nm) (.int .i64 z1.c.kd) (.int .u16 (sv z1.c.M)) (.slice z1.ar z1.c.R.length z1.cr) (.slice z1.aw z1.c.Q.length z1.cw) (.slice z1.af z1.c.F.length z1.cf)
              replace hR1 := hR1.set6 hn5 (.string z1.c.nm) (.int .i64 z1.c.kd) (.int .u16 (sv z1.c.M)) (.slice z1.ar z1.c.R.length z1.cr) (.slice z1.aw z1.c.Q.length z1.cw) (.slice z1.af z1.c.F.length z1.cf)
              replace hR2 := hR2.set6 hn5 (.string z1.c.nm) (.int .i64 z1.c.kd) (.int .u16 (sv z1.c.M)) (.slice z1.ar z1.c.R.length z1.cr) (.slice z1.aw z1.c.Q.length z1.cw) (.slice z1.af z1.c.F.length z1.cf)
              replace hn5 := hn5.set6 (.string z1.c.nm) (.int .i64 z1.c.kd) (.int .u16 (sv z1.c.M)) (.slice z1.ar z1.c.R.length z1.cr) (.slice z1.aw z1.c.Q.length z1.cw) (.slice z1.af z1.c.F.length z1.cf)
              replace J := keeps_set6 J hg5 (.string z1.c.nm) (.int .i64 z1.c.kd) (.int .u16 (sv z1.c.M)) (.slice z1.ar z1.c.R.length z1.cr) (.slice z1.aw z1.c.Q.length z1.cw) (.slice z1.af z1.c.F.length z1.cf)
              generalize ((((((V47.setCell ⟨B5, 0, none⟩ (.string z1.c.nm)).setCell ⟨B5, 1, none⟩ (.int .i64 z1.c.kd)).setCell ⟨B5, 2, none⟩ (.int .u16 (sv z1.c.M))).setCell ⟨B5, 3, none⟩ (.slice z1.ar z1.c.R.length z1.cr)).setCell ⟨B5, 4, none⟩ (.slice z1.aw z1.c.Q.length z1.cw)).setCell ⟨B5, 5, none⟩ (.slice z1.af z1.c.F.length z1.cf)) = V48 at *
              refine hK.out _ _ ?_ (fun hHeld => ?_)
              · exact ⟨(HB1.out.keep J).c7, (HB2.out.keep J).c7⟩
              clear hK K
              (try simp only [Act.put]); (try simp only [List.setIfInBounds_toArray]); (try simp only [List.set_cons_succ]); (try simp only [List.set_cons_zero])
              refine wpAnyH_ready (rs := [7]) (by kernel_rfl) (by simp) ?_
              refine AllReadyH.cons (o := ⟨_, _, _, _, _, _⟩) rfl (fun K hK => ?_) AllReadyH.nil
              · obtain ⟨c0, c1, c2, c3, c4, c5⟩ := hn6.c6
                obtain ⟨g0, g1, g2, g3, g4, g5⟩ := hn6.f6
                go_simp
                clear c0 c1 c2 c3 c4 c5 g0 g1 g2 g3 g4 g5
                replace hn5 := hn5.other6 HNE.out (.string z2.c.nm) (.int .i64 z2.c.kd) (.int .u16 (sv z2.c.M)) (.slice z2.ar z2.c.R.length z2.cr) (.slice z2.aw z2.c.Q.length z2.cw) (.slice z2.af z2.c.F.length z2.cf)
                replace hR1 := hR1.set6 hn6 (.string z2.c.nm) (.int .i64 z2.c.kd) (.int .u16 (sv z2.c.M)) (.slice z2.ar z2.c.R.length z2.cr) (.slice z2.aw z2.c.Q.length z2.cw) (.slice z2.af z2.c.F.length z2.cf)
                replace hR2 := hR2.set6 hn6 (.string z2.c.nm) (.int .i64 z2.c.kd) (.int .u16 (sv z2.c.M)) (.slice z2.ar z2.c.R.length z2.cr) (.slice z2.aw z2.c.Q.length z2.cw) (.slice z2.af z2.c.F.length z2.cf)
                replace hn6 := hn6.set6 (.string z2.c.nm) (.int .i64 z2.c.kd) (.int .u16 (sv z2.c.M)) (.slice z2.ar z2.c.R.length z2.cr) (.slice z2.aw z2.c.Q.length z2.cw) (.slice z2.af z2.c.F.length z2.cf)
                replace J := keeps_set6 J hg6 (.string z2.c.nm) (.int .i64 z2.c.kd) (.int .u16 (sv z2.c.M)) (.slice z2.ar z2.c.R.length z2.cr) (.slice z2.aw z2.c.Q.length z2.cw) (.slice z2.af z2.c.F.length z2.cf)
                generalize ((((((V48.setCell ⟨B6, 0, none⟩ (.string z2.c.nm)).setCell ⟨B6, 1, none⟩ (.int .i64 z2.c.kd)).setCell ⟨B6, 2, none⟩ (.int .u16 (sv z2.c.M))).setCell ⟨B6, 3, none⟩ (.slice z2.ar z2.c.R.length z2.cr)).setCell ⟨B6, 4, none⟩ (.slice z2.aw z2.c.Q.length z2.cw)).setCell ⟨B6, 5, none⟩ (.slice z2.af z2.c.F.length z2.cf)) = V49 at *
                refine hK.out _ _ ?_ (fun hHeld => ?_)
                · exact ⟨(HB1.out.keep J).c7, (HB2.out.keep J).c7⟩
                clear hK K
                (try simp only [Act.put]); (try simp only [List.setIfInBounds_toArray]); (try simp only [List.set_cons_succ]); (try simp only [List.set_cons_zero])
                refine wpAnyH_done (by kernel_rfl) ?_ _
                go_wp2_with fail
                go_meet
                case rel => exact ⟨B5, B6, z1, z2, rfl, rfl, HZ1.out, HZ2.out, hn5, hn6, hR1, hR2, J⟩
        · go_simp
          have hn5 := Blk.new V45 32 zG
          have hg5 : W2.heap.size ≤ V45.heap.size := J.size
          have KA := (Keeps.refl V45).alloc (.cells zG 32)
          have hne : V45.heap.size ≠ B6 := by have := hn6.lt; omega
          replace hR1 := hR1.keep KA
          replace hn6 := hn6.keep KA
          replace J := J.trans KA
          clear KA
          generalize V45.alloc (.cells zG 32) = V50 at *
          generalize V45.heap.size = B5 at *
          have HNE := Lib.hid hne
          clear hne
          refine hK.out _ _ ?_ (fun hHeld => ?_)
          · exact ⟨(HB1.out.keep J).c7, (HB2.out.keep J).c7⟩
          clear hK K
          (try simp only [Act.put]); (try simp only [List.setIfInBounds_toArray]); (try simp only [List.set_cons_succ]); (try simp only [List.set_cons_zero])
          refine wpAnyH_ready (rs := [3]) (by kernel_rfl) (by simp) ?_
          refine AllReadyH.cons (o := ⟨_, _, _, _, _, _⟩) rfl (fun K hK => ?_) AllReadyH.nil
          · go_simp
            refine (HM.out _ _ _ _ _ _ _ _ _ _ _ _ _ _ _ (by first | exact Or.inl rfl | exact Or.inr rfl) (HKW.out.trans J)).mono ?_
            rintro e V51 ⟨z2, rfl, hz2, hR2, hK9⟩
            have HZ2 := Lib.hid hz2
            clear hz2
            replace hR1 := hR1.keep hK9
            replace hn5 := hn5.keep hK9
            replace hn6 := hn6.keep hK9
            replace J := J.trans hK9
            clear hK9
            unfold vg
            dsimp only
            refine hK.out _ _ ?_ (fun hHeld => ?_)
            · exact ⟨(HB1.out.keep J).c7, (HB2.out.keep J).c7⟩
            clear hK K
            (try simp only [Act.put]); (try simp only [List.setIfInBounds_toArray]); (try simp only [List.set_cons_succ]); (try simp only [List.set_cons_zero])
            refine wpAnyH_ready (rs := [6]) (by kernel_rfl) (by simp) ?_
            refine AllReadyH.cons (o := ⟨_, _, _, _, _, _⟩) rfl (fun K hK => ?_) AllReadyH.nil
            · obtain ⟨c0, c1, c2, c3, c4, c5⟩ := hn5.c6
              obtain ⟨g0, g1, g2, g3, g4, g5⟩ := hn5.f6
              go_simp
              clear c0 c1 c2 c3 c4 c5 g0 g1 g2 g3 g4 g5
              replace hn6 := hn6.other6 HNE.out.symm (.string z1.c.nm) (.int .i64 z1.c.kd) (.int .u16 (sv z1.c.M)) (.slice z1.ar z1.c.R.length z1.cr) (.slice z1.aw z1.c.Q.length z1.cw) (.slice z1.af z1.c.F.length z1.cf)
              replace hR1 := hR1.set6 hn5 (.string z1.c.nm) (.int .i64 z1.c.kd) (.int .u16 (sv z1.c.M)) (.slice z1.ar z1.c.R.length z1.cr) (.slice z1.aw z1.c.Q.length z1.cw) (.slice z1.af z1.c.F.length z1.cf)
              replace hR2 := hR2.set6 hn5 (.string z1.c.nm) (.int .i64 z1.c.kd) (.int .u16 (sv z1.c.M)) (.slice z1.ar z1.c.R.length z1.cr) (.slice z1.aw z1.c.Q.length z1.cw) (.slice z1.af z1.c.F.length z1.cf)
              replace hn5 := hn5.set6 (.string z1.c.nm) (.int .i64 z1.c.kd) (.int .u16 (sv z1.c.M)) (.slice z1.ar z1.c.R.length z1.cr) (.slice z1.aw z1.c.Q.length z1.cw) (.slice z1.af z1.c.F.length z1.cf)
              replace J := keeps_set6 J hg5 (.string z1.c.nm) (.int .i64 z1.c.kd) (.int .u16 (sv z1.c.M)) (.slice z1.ar z1.c.R.length z1.cr) (.slice z1.aw z1.c.Q.length z1.cw) (.slice z1.af z1.c.F.length z1.cf)
              generalize ((((((V51.setCell ⟨B5, 0, none⟩ (.string z1.c.nm)).setCell ⟨B5, 1, none⟩ (.int .i64 z1.c.kd)).setCell ⟨B5, 2, none⟩ (.int .u16 (sv z1.c.M))).setCell ⟨B5, 3, none⟩ (.slice z1.ar z1.c.R.length z1.cr)).setCell ⟨B5, 4, none⟩ (.slice z1.aw z1.c.Q.length z1.cw)).setCell ⟨B5, 5, none⟩ (.slice z1.af z1.c.F.length z1.cf)) = V52 at *
              refine hK.out _ _ ?_ (fun hHeld => ?_)
              · exact ⟨(HB1.out.keep J).c7, (HB2.out.keep J).c7⟩
              clear hK K
              (try simp only [Act.put]); (try simp only [List.setIfInBounds_toArray]); (try simp only [List.set_cons_succ]); (try simp only [List.set_cons_zero])
              refine wpAnyH_ready (rs := [7]) (by kernel_rfl) (by simp) ?_
              refine AllReadyH.cons (o := ⟨_, _, _, _, _, _⟩) rfl (fun K hK => ?_) AllReadyH.nil
              · obtain ⟨c0, c1, c2, c3, c4, c5⟩ := hn6.c6
                obtain ⟨g0, g1, g2, g3, g4, g5⟩ := hn6.f6
                go_simp
                clear c0 c1 c2 c3 c4 c5 g0 g1 g2 g3 g4 g5
                replace hn5 := hn5.other6 HNE.out (.string z2.c.nm) (.int .i64 z2.c.kd) (.int .u16 (sv z2.c.M)) (.slice z2.ar z2.c.R.length z2.cr) (.slice z2.aw z2.c.Q.length z2.cw) (.slice z2.af z2.c.F.length z2.cf)
                replace hR1 := hR1.set6 hn6 (.string z2.c.nm) (.int .i64 z2.c.kd) (.int .u16 (sv z2.c.M)) (.slice z2.ar z2.c.R.length z2.cr) (.slice z2.aw z2.c.Q.length z2.cw) (.slice z2.af z2.c.F.length z2.cf)
                replace hR2 := hR2.set6 hn6 (.string z2.c.nm) (.int .i64 z2.c.kd) (.int .u16 (sv z2.c.M)) (.slice z2.ar z2.c.R.length z2.cr) (.slice z2.aw z2.c.Q.length z2.cw) (.slice z2.af z2.c.F.length z2.cf)
                replace hn6 := hn6.set6 (.string z2.c.nm) (.int .i64 z2.c.kd) (.int .u16 (sv z2.c.M)) (.slice z2.ar z2.c.R.length z2.cr) (.slice z2.aw z2.c.Q.length z2.cw) (.slice z2.af z2.c.F.length z2.cf)
                replace J := keeps_set6 J hg6 (.string z2.c.nm) (.int .i64 z2.c.kd) (.int .u16 (sv z2.c.M)) (.slice z2.ar z2.c.R.length z2.cr) (.slice z2.aw z2.c.Q.length z2.cw) (.slice z2.af z2.c.F.length z2.cf)
                generalize ((((((V52.setCell ⟨B6, 0, none⟩ (.string z2.c.nm)).setCell ⟨B6, 1, none⟩ (.int .i64 z2.c.kd)).setCell ⟨B6, 2, none⟩ (.int .u16 (sv z2.c.M))).setCell ⟨B6, 3, none⟩ (.slice z2.ar z2.c.R.length z2.cr)).setCell ⟨B6, 4, none⟩ (.slice z2.aw z2.c.Q.length z2.cw)).setCell ⟨B6, 5, none⟩ (.slice z2.af z2.c.F.length z2.cf)) = V53 at *
                refine hK.out _ _ ?_ (fun hHeld => ?_)
                · exact ⟨(HB1.out.keep J).c7, (HB2.out.keep J).c7⟩
                clear hK K
                (try simp only [Act.put]); (try simp only [List.setIfInBounds_toArray]); (try simp only [List.set_cons_succ]); (try simp only [List.set_cons_zero])
                refine wpAnyH_done (by kernel_rfl) ?_ _
                go_wp2_with fail
                go_meet
                case rel => exact ⟨B5, B6, z1, z2, rfl, rfl, HZ1.out, HZ2.out, hn5, hn6, hR1, hR2, J⟩
      · go_simp
        have hn5 := Blk.new V44 32 zG
        have hg5 : W2.heap.size ≤ V44.heap.size := J.size
        have KA := (Keeps.refl V44).alloc (.cells zG 32)
        have hne : V44.heap.size ≠ B6 := by have := hn6.lt; omega
        replace hn6 := hn6.keep KA
        replace J := J.trans KA
        clear KA
        generalize V44.alloc (.cells zG 32) = V54 at *
        generalize V44.heap.size = B5 at *
        have HNE := Lib.hid hne
        clear hne
        refine hK.out _ _ ?_ (fun hHeld => ?_)
        · exact ⟨(HB1.out.keep J).c7, (HB2.out.keep J).c7⟩
        clear hK K
        (try simp only [Act.put]); (try simp only [List.setIfInBounds_toArray]); (try simp only [List.set_cons_succ]); (try simp only [List.set_cons_zero])
        refine wpAnyH_ready (rs := [1]) (by kernel_rfl) (by simp) ?_
        refine AllReadyH.cons (o := ⟨_, _, _, _, _, _⟩) rfl (fun K hK => ?_) AllReadyH.nil
        · go_simp
          refine (HM.out _ _ _ _ _ _ _ _ _ _ _ _ _ _ _ (by first | exact Or.inl rfl | exact Or.inr rfl) (HKW.out.trans J)).mono ?_
          rintro e V55 ⟨z1, rfl, hz1, hR1, hK9⟩
          have HZ1 := Lib.hid hz1
          clear hz1
          replace hn5 := hn5.keep hK9
          replace hn6 := hn6.keep hK9
          replace J := J.trans hK9
          clear hK9
          unfold vg
          dsimp only
          refine hK.out _ _ ?_ (fun hHeld => ?_)
          · exact ⟨(HB1.out.keep J).c7, (HB2.out.keep J).c7⟩
          clear hK K
          (try simp only [Act.put]); (try simp only [List.setIfInBounds_toArray]); (try simp only [List.set_cons_succ]); (try simp only [List.set_cons_zero])
          refine wpAnyH_ready (rs := [3]) (by kernel_rfl) (by simp) ?_
          refine AllReadyH.cons (o := ⟨_, _, _, _, _, _⟩) rfl (fun K hK => ?_) AllReadyH.nil
          · go_simp
            refine (HM.out _ _ _ _ _ _ _ _ _ _ _ _ _ _ _ (by first | exact Or.inl rfl | exact Or.inr rfl) (HKW.out.trans J)).mono ?_
            rintro e V56 ⟨z2, rfl, hz2, hR2, hK9⟩
            have HZ2 := Lib.hid hz2
            clear hz2
            replace hR1 := hR1.keep hK9
            replace hn5 := hn5.keep hK9
            replace hn6 := hn6.keep hK9
            replace J := J.trans hK9
            clear hK9
            unfold vg
            dsimp only
            refine hK.out _ _ ?_ (fun hHeld => ?_)
            · exact ⟨(HB1.out.keep J).c7, (HB2.out.keep J).c7⟩
            clear hK K
            (try simp only [Act.put]); (try simp only [List.setIfInBounds_toArray]); (try simp only [List.set_cons_succ]); (try simp only [List.set_cons_zero])
            refine wpAnyH_ready (rs := [6]) (by kernel_rfl) (by simp) ?_
            refine AllReadyH.cons (o := ⟨_, _, _, _, _, _⟩) rfl (fun K hK => ?_) AllReadyH.nil
            · obtain ⟨c0, c1, c2, c3, c4, c5⟩ := hn5.c6
              obtain ⟨g0, g1, g2, g3, g4, g5⟩ := hn5.f6
              go_simp
              clear c0 c1 c2 c3 c4 c5 g0 g1 g2 g3 g4 g5
              replace hn6 := hn6.other6 HNE.out.symm (.string z1.c.nm) (.int .i64 z1.c.kd) (.int .u16 (sv z1.c.M)) (.slice z1.ar z1.c.R.length z1.cr) (.slice z1.aw z1.c.Q.length z1.cw) (.slice z1.af z1.c.F.length z1.cf)
              replace hR1 := hR1.set6 hn5 (.string z1.c.nm) (.int .i64 z1.c.kd) (.int .u16 (sv z1.c.M)) (.slice z1.ar z1.c.R.length z1.cr) (.slice z1.aw z1.c.Q.length z1.cw) (.slice z1.af z1.c.F.length z1.cf)
              replace hR2 := hR2.set6 hn5 (.string z1.c.nm) (.int .i64 z1.c.kd) (.int .u16 (sv z1.c.M)) (.slice z1.ar z1.c.R.length z1.cr) (.slice z1.aw z1.c.Q.length z1.cw) (.slice z1.af z1.c.F.length z1.cf)
              replace hn5 := hn5.set6 (.string z1.c.nm) (.int .i64 z1.c.kd) (.int .u16 (sv z1.c.M)) (.slice z1.ar z1.c.R.length z1.cr) (.slice z1.aw z1.c.Q.length z1.cw) (.slice z1.af z1.c.F.length z1.cf)
              replace J := keeps_set6 J hg5 (.string z1.c.nm) (.int .i64 z1.c.kd) (.int .u16 (sv z1.c.M)) (.slice z1.ar z1.c.R.length z1.cr) (.slice z1.aw z1.c.Q.length z1.cw) (.slice z1.af z1.c.F.length z1.cf)
              generalize ((((((V56.setCell ⟨B5, 0, none⟩ (.string z1.c.nm)).setCell ⟨B5, 1, none⟩ (.int .i64 z1.c.kd)).setCell ⟨B5, 2, none⟩ (.int .u16 (sv z1.c.M))).setCell ⟨B5, 3, none⟩ (.slice z1.ar z1.c.R.length z1.cr)).setCell ⟨B5, 4, none⟩ (.slice z1.aw z1.c.Q.length z1.cw)).setCell ⟨B5, 5, none⟩ (.slice z1.af z1.c.F.length z1.cf)) = V57 at *
              refine hK.out _ _ ?_ (fun hHeld => ?_)
              · exact ⟨(HB1.out.keep J).c7, (HB2.out.keep J).c7⟩
              clear hK K
              (try simp only [Act.put]); (try simp only [List.setIfInBounds_toArray]); (try simp only [List.set_cons_succ]); (try simp only [List.set_cons_zero])
              refine wpAnyH_ready (rs := [7]) (by kernel_rfl) (by simp) ?_
              refine AllReadyH.cons (o := ⟨_, _, _, _, _, _⟩) rfl (fun K hK => ?_) AllReadyH.nil
              · obtain ⟨c0, c1, c2, c3, c4, c5⟩ := hn6.c6
                obtain ⟨g0, g1, g2, g3, g4, g5⟩ := hn6.f6
                go_simp
                clear c0 c1 c2 c3 c4 c5 g0 g1 g2 g3 g4 g5
                replace hn5 := hn5.other6 HNE.out (.string z2.c.nm) (.int .i64 z2.c.kd) (.int .u16 (sv z2.c.M)) (.slice z2.ar z2.c.R.length z2.cr) (.slice z2.aw z2.c.Q.length z2.cw) (.slice z2.af z2.c.F.length z2.cf)
                replace hR1 := hR1.set6 hn6 (.string z2.c.nm) (.int .i64 z2.c.kd) (.int .u16 (sv z2.c.M)) (.slice z2.ar z2.c.R.length z2.cr) (.slice z2.aw z2.c.Q.length z2.cw) (.slice z2.af z2.c.F.length z2.cf)
                replace hR2 := hR2.set6 hn6 (.string z2.c.nm) (.int .i64 z2.c.kd) (.int .u16 (sv z2.c.M)) (.slice z2.ar z2.c.R.length z2.cr) (.slice z2.aw z2.c.Q.length z2.cw) (.slice z2.af z2.c.F.length z2.cf)
                replace hn6 := hn6.set6 (.string z2.c.nm) (.int .i64 z2.c.kd) (.int .u16 (sv z2.c.M)) (.slice z2.ar z2.c.R.length z2.cr) (.slice z2.aw z2.c.Q.length z2.cw) (.slice z2.af z2.c.F.length z2.cf)
                replace J := keeps_set6 J hg6 (.string z2.c.nm) (.int .i64 z2.c.kd) (.int .u16 (sv z2.c.M)) (.slice z2.ar z2.c.R.length z2.cr) (.slice z2.aw z2.c.Q.length z2.cw) (.slice z2.af z2.c.F.length z2.cf)
                generalize ((((((V57.setCell ⟨B6, 0, none⟩ (.string z2.c.nm)).setCell ⟨B6, 1, none⟩ (.int .i64 z2.c.kd)).setCell ⟨B6, 2, none⟩ (.int .u16 (sv z2.c.M))).setCell ⟨B6, 3, none⟩ (.slice z2.ar z2.c.R.length z2.cr)).setCell ⟨B6, 4, none⟩ (.slice z2.aw z2.c.Q.length z2.cw)).setCell ⟨B6, 5, none⟩ (.slice z2.af z2.c.F.length z2.cf)) = V58 at *
                refine hK.out _ _ ?_ (fun hHeld => ?_)
                · exact ⟨(HB1.out.keep J).c7, (HB2.out.keep J).c7⟩
                clear hK K
                (try simp only [Act.put]); (try simp only [List.setIfInBounds_toArray]); (try simp only [List.set_cons_succ]); (try simp only [List.set_cons_zero])
                refine wpAnyH_done (by kernel_rfl) ?_ _
                go_wp2_with fail
                go_meet
                case rel => exact ⟨B5, B6, z1, z2, rfl, rfl, HZ1.out, HZ2.out, hn5, hn6, hR1, hR2, J⟩
  case rest =>
    obtain ⟨B5, B6, z1, z2, rfl, rfl, hz1, hz2, hn5, hn6, hR1, hR2, J⟩ := hcut
    have KK := HKW.out.trans J
    clear J HB1 HB2 HM HKW
    have hv1 : cvf z1.c = 0 := by rw [hz1]; exact mdC_valid (by decide) c
    have hv2 : cvf z2.c = 0 := by rw [hz2]; exact mdC_valid (by decide) d
    have hw1 : Few9 z1.c := by rw [hz1]; exact md_few (by decide) c
    have hw2 : Few9 z2.c := by rw [hz2]; exact md_few (by decide) d
    have ht1 : z1.c.R.length ≤ 10 ∧ z1.c.Q.length ≤ 10 := by rw [hz1]; exact md_ten _ c
    have ht2 : z2.c.R.length ≤ 10 ∧ z2.c.Q.length ≤ 10 := by rw [hz2]; exact md_ten _ d
    have HV1 := Lib.hid hv1; have HV2 := Lib.hid hv2; have HW1 := Lib.hid hw1; have HW2 := Lib.hid hw2; have HT1 := Lib.hid ht1; have HT2 := Lib.hid ht2
    clear hz1 hz2 hv1 hv2 hw1 hw2 ht1 ht2
    go_wp2_with fail
    refine (awake29_any _).mono ?_
    rintro e w1 ⟨rfl, K⟩
    replace hn5 := hn5.keep K; replace hn6 := hn6.keep K; replace hR1 := hR1.keep K; replace hR2 := hR2.keep K; replace KK := KK.trans K
    clear K
    obtain ⟨c0, c1, c2, c3, c4, c5⟩ := hn5.c6
    go_wp2_with fail
    clear c0 c1 c2 c3 c4 c5
    have hc1 := rsafG_any z1 x _ hR1.rd HV1.out HW1.out
    unfold vg at hc1
    have hq1 : ∃ q, q = safC x z1 := ⟨_, rfl⟩
    obtain ⟨q1, hq1⟩ := hq1
    rw [← hq1] at hc1
    have HQ1 := Lib.hid hq1; clear hq1
    refine hc1.mono ?_
    clear hc1
    rintro e w2 ⟨rfl, K⟩
    replace hn5 := hn5.keep K; replace hn6 := hn6.keep K; replace hR1 := hR1.keep K; replace hR2 := hR2.keep K; replace KK := KK.trans K
    clear K
    cases q1 with
    | false =>
      go_wp2_with fail
      refine (awake29_any _).mono ?_
      rintro e w3 ⟨rfl, K⟩
      go_wp2_with fail
      go_ret
      exact ⟨rfl, KK.trans K⟩
    | true =>
    obtain ⟨d0, d1, d2, d3, d4, d5⟩ := hn6.c6
    go_wp2_with fail
    clear d0 d1 d2 d3 d4 d5
    have hc2 := rsafG_any z2 x _ hR2.rd HV2.out HW2.out
    unfold vg at hc2
    have hq2 : ∃ q, q = safC x z2 := ⟨_, rfl⟩
    obtain ⟨q2, hq2⟩ := hq2
    rw [← hq2] at hc2
    have HQ2 := Lib.hid hq2; clear hq2
    refine hc2.mono ?_
    clear hc2
    rintro e w3 ⟨rfl, K⟩
    replace hn5 := hn5.keep K; replace hn6 := hn6.keep K; replace hR1 := hR1.keep K; replace hR2 := hR2.keep K; replace KK := KK.trans K
    clear K
    cases q2 with
    | false =>
      go_wp2_with fail
      refine (awake29_any _).mono ?_
      rintro e w4 ⟨rfl, K⟩
      go_wp2_with fail
      go_ret
      exact ⟨rfl, KK.trans K⟩
    | true =>
    obtain ⟨c0, c1, c2, c3, c4, c5⟩ := hn5.c6
    obtain ⟨d0, d1, d2, d3, d4, d5⟩ := hn6.c6
    go_wp2_with fail
    clear c0 c1 c2 c3 c4 c5 d0 d1 d2 d3 d4 d5
    refine (jof_any z1 z2 _ hR1.rd hR2.rd).mono ?_
    intro e w4 hret
    obtain ⟨z3, rfl, hz3, hR3, K⟩ := hret
    unfold vg
    dsimp only
    replace KK := KK.trans K
    clear K hn5 hn6 hR1 hR2
    have hn7 := Blk.new w4 32 #[.string z3.c.nm, .int .i64 z3.c.kd, .int .u16 (sv z3.c.M), .slice z3.ar z3.c.R.length z3.cr, .slice z3.aw z3.c.Q.length z3.cw, .slice z3.af z3.c.F.length z3.cf]
    have K := (Keeps.refl w4).alloc (.cells #[.string z3.c.nm, .int .i64 z3.c.kd, .int .u16 (sv z3.c.M), .slice z3.ar z3.c.R.length z3.cr, .slice z3.aw z3.c.Q.length z3.cw, .slice z3.af z3.c.F.length z3.cf] 32)
    replace hR3 := hR3.keep K; replace KK := KK.trans K
    clear K
    have hE : ofE z1.c z2.c = 0 ∨ ofE z1.c z2.c = 3 := of_err HV1.out HV2.out
    have HOK := Lib.hid (fun h => of_safe29 hz3 h HQ1.out.symm HQ2.out.symm HT1.out HT2.out)
    clear hz3
    generalize ofE z1.c z2.c = eo at *
    rcases hE with rfl | rfl
    · have hok := HOK.out rfl
      have HO := Lib.hid hok
      clear hok HOK
      obtain ⟨c0, c1, c2, c3, c4, c5⟩ := hn7.c6
      go_wp2_with fail
      generalize w4.alloc (.cells #[.string z3.c.nm, .int .i64 z3.c.kd, .int .u16 (sv z3.c.M), .slice z3.ar z3.c.R.length z3.cr, .slice z3.aw z3.c.Q.length z3.cw, .slice z3.af z3.c.F.length z3.cf] 32) = W at *
      generalize w4.heap.size = B7 at *
      have hc3 := csafG_any z3 x W (HT.out.keep KK) hR3 HO.out.1
      unfold vg at hc3
      rw [HO.out.2.1] at hc3
      refine hc3.mono ?_
      clear hc3
      rintro e w5 ⟨rfl, K⟩
      clear c0 c1 c2 c3 c4 c5
      obtain ⟨c0, c1, c2, c3, c4, c5⟩ := (hn7.keep K).c6
      go_wp2_with fail
      have hc4 := rsafG_any z3 x _ (hR3.keep K).rd HO.out.1 HO.out.2.2
      unfold vg at hc4
      rw [HO.out.2.1] at hc4
      refine hc4.mono ?_
      clear hc4
      rintro e w6 ⟨rfl, K2⟩
      go_wp2_with fail
      go_ret
      exact ⟨rfl, KK.trans (K.trans K2)⟩
    · go_wp2_with fail
      go_ret
      exact ⟨rfl, KK⟩
end Go.Proofs.YtnlohknlchgfgaaGreatDoor
