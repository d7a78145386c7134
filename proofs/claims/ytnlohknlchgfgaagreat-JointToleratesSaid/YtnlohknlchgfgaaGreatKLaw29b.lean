/- Texts joined into one (wip/bin/pack.py): Law29b. -/
import Derived.Test.YtnlohknlchgfgaaGreatKLaw29a
import Derived.Test.YtnlohknlchgfgaaGreatKZj
import Derived.Lib.QuietBelow
import Derived.Deep.DeepCutAuto
/- The statement JointTolerates. -/
namespace Go.Proofs.YtnlohknlchgfgaaGreat
open Go.RowKit Go.Lib Go.Shelf
theorem of_tol29 {z1 z2 z3 : CA} (h3 : z3.c = ofC z1.c z2.c) (h : ofE z1.c z2.c = 0) : cvf z3.c = 0 ∧ (∀ s ∈ z3.c.R, accS z1.c.R s = true ∧ accS z2.c.R s = true) ∧ (∀ s ∈ z3.c.Q, accS z1.c.Q s = true ∧ accS z2.c.Q s = true) ∧ ∀ z, tolC z z3 = (tolC z z1 && tolC z z2) := by
  have ho := of_ok h
  have hv : cvf z3.c = 0 := by rw [h3]; exact ho.cvf
  unfold ofC at h3
  rw [if_neg (by simp [h])] at h3
  refine ⟨hv, ?_, ?_, fun z => ?_⟩
  · rw [h3]; exact joint_accs ho.r
  · rw [h3]; exact joint_accs ho.q
  · unfold tolC
    rw [h3]
    dsimp only
    rw [ho.nmz.1]
    exact joint_tol ho z
set_option maxRecDepth 20000 in
set_option maxHeartbeats 16000000 in
theorem JointTolerates_any (c d : D29) (z : S) (w : World) (hc : OkD w c) (hd : OkD w d) :
    Calls Tryz.prog 4 #[vD c, vD d, .int .u16 (sv z)] w fun e w' => e = .returned (.bool true) ∧ Keeps w w' := by
  have hs : ∀ o, (w.alloc o).heap.size = w.heap.size + 1 := fun o => World.size_alloc ..
  have hb1 := (Blk.new w 27 (cD c)).keep ((Keeps.refl _).alloc (.cells (cD d) 27))
  have hb2 := Blk.new (w.alloc (.cells (cD c) 27)) 27 (cD d)
  rw [hs] at hb2
  have KW := ((Keeps.refl w).alloc (.cells (cD c) 27)).alloc (.cells (cD d) 27)
  have hm := made2_any c d w hc hd
  unfold vD at *
  have HM := Lib.hid hm; have HB1 := Lib.hid hb1; have HB2 := Lib.hid hb2; have HKW := Lib.hid KW
  clear hm hb1 hb2 KW hs hc hd
  go_enter Tryz.func4, Tryz.ntmps4
  go_wp2_with fail
  generalize (w.alloc (.cells (cD c) 27)).alloc (.cells (cD d) 27) = W2 at *
  go_cut [7, 8] from 16 (fun s5 s6 wx => ∃ B5 B6 z1 z2, s5 = .pointer (some ⟨B5, 0, none⟩) ∧ s6 = .pointer (some ⟨B6, 0, none⟩) ∧ z1.c = mdC ⟨#[97]⟩ c ∧ z2.c = mdC ⟨#[98]⟩ d ∧ Blk wx B5 32 #[.string z1.c.nm, .int .i64 z1.c.kd, .int .u16 (sv z1.c.M), .slice z1.ar z1.c.R.length z1.cr, .slice z1.aw z1.c.Q.length z1.cw, .slice z1.af z1.c.F.length z1.cf] ∧ Blk wx B6 32 #[.string z2.c.nm, .int .i64 z2.c.kd, .int .u16 (sv z2.c.M), .slice z2.ar z2.c.R.length z2.cr, .slice z2.aw z2.c.Q.length z2.cw, .slice z2.af z2.c.F.length z2.cf] ∧ RoG wx z1 ∧ RoG wx z2 ∧ Keeps W2 wx)
  case first =>
    have J : Keeps W2 W2.drew := (Keeps.refl W2).drew
    refine wp_region_held_drew (S := (fun w' => (w'.cell? ⟨w.heap.size, 0, none⟩ = some (.int .u8 c.kd) ∧ w'.cell? ⟨w.heap.size, 1, none⟩ = some (.int .u8 c.N) ∧ w'.cell? ⟨w.heap.size, 2, none⟩ = some (.int .u8 c.md) ∧ w'.cell? ⟨w.heap.size, 3, none⟩ = some (.slice c.ar c.lr.length c.cr) ∧ w'.cell? ⟨w.heap.size, 4, none⟩ = some (.slice c.aw c.lw.length c.cw) ∧ w'.cell? ⟨w.heap.size, 5, none⟩ = some (.slice c.af c.lf.length c.cf) ∧ w'.cell? ⟨w.heap.size, 6, none⟩ = some (.int .u8 c.mv)) ∧ (w'.cell? ⟨w.heap.size + 1, 0, none⟩ = some (.int .u8 d.kd) ∧ w'.cell? ⟨w.heap.size + 1, 1, none⟩ = some (.int .u8 d.N) ∧ w'.cell? ⟨w.heap.size + 1, 2, none⟩ = some (.int .u8 d.md) ∧ w'.cell? ⟨w.heap.size + 1, 3, none⟩ = some (.slice d.ar d.lr.length d.cr) ∧ w'.cell? ⟨w.heap.size + 1, 4, none⟩ = some (.slice d.aw d.lw.length d.cw) ∧ w'.cell? ⟨w.heap.size + 1, 5, none⟩ = some (.slice d.af d.lf.length d.cf) ∧ w'.cell? ⟨w.heap.size + 1, 6, none⟩ = some (.int .u8 d.mv)))) (by kernel_rfl) ?_ (fun hHeld => ?_)
    · exact ⟨(HB1.out.keep J).c7, (HB2.out.keep J).c7⟩
    generalize W2.drew = V0 at *
    refine wpAnyH_take (i := 0) (oi := ⟨_, _, _, _, _, _⟩) (v := ?_) rfl (by kernel_rfl) (by kernel_rfl) (by kernel_rfl) (fun _ _ _ h => h) (Or.inl ⟨by rfl, ?_⟩) (by assumption) ?_
    rotate_left 1
    · intro w hSw; (try dsimp only at hSw); go_simp <;> with_reducible rfl
    (try simp only [Act.put]); (try simp only [List.setIfInBounds_toArray]); (try simp only [List.set_cons_succ]); (try simp only [List.set_cons_zero])
    refine wpAnyH_take (i := 2) (oi := ⟨_, _, _, _, _, _⟩) (v := ?_) rfl (by kernel_rfl) (by kernel_rfl) (by kernel_rfl) (fun _ _ _ h => h) (Or.inl ⟨by rfl, ?_⟩) (by assumption) ?_
    rotate_left 1
    · intro w hSw; (try dsimp only at hSw); go_simp <;> with_reducible rfl
    (try simp only [Act.put]); (try simp only [List.setIfInBounds_toArray]); (try simp only [List.set_cons_succ]); (try simp only [List.set_cons_zero])
    refine wpAnyH_ready (rs := [1, 4, 5]) (by kernel_rfl) (by simp) ?_
    refine AllReadyH.cons (o := ⟨_, _, _, _, _, _⟩) rfl (fun K hK => ?_) (AllReadyH.cons (o := ⟨_, _, _, _, _, _⟩) rfl (fun K hK => ?_) (AllReadyH.cons (o := ⟨_, _, _, _, _, _⟩) rfl (fun K hK => ?_) AllReadyH.nil))
    · go_simp
      refine (HM.out _ _ _ _ _ _ _ _ _ _ _ _ _ _ _ (by first | exact Or.inl rfl | exact Or.inr rfl) (HKW.out.trans J)).mono ?_
      rintro e V1 ⟨z1, rfl, hz1, hR1, hK9⟩
      have HZ1 := Lib.hid hz1
      clear hz1
      replace J := J.trans hK9
      clear hK9
      unfold vg
      dsimp only
      refine hK.out _ _ ?_ (fun hHeld => ?_)
      · exact ⟨(HB1.out.keep J).c7, (HB2.out.keep J).c7⟩
      clear hK K
      (try simp only [Act.put]); (try simp only [List.setIfInBounds_toArray]); (try simp only [List.set_cons_succ]); (try simp only [List.set_cons_zero])
      refine wpAnyH_ready (rs := [3, 4, 5]) (by kernel_rfl) (by simp) ?_
      refine AllReadyH.cons (o := ⟨_, _, _, _, _, _⟩) rfl (fun K hK => ?_) (AllReadyH.cons (o := ⟨_, _, _, _, _, _⟩) rfl (fun K hK => ?_) (AllReadyH.cons (o := ⟨_, _, _, _, _, _⟩) rfl (fun K hK => ?_) AllReadyH.nil))
      · go_simp
        refine (HM.out _ _ _ _ _ _ _ _ _ _ _ _ _ _ _ (by first | exact Or.inl rfl | exact Or.inr rfl) (HKW.out.trans J)).mono ?_
        rintro e V2 ⟨z2, rfl, hz2, hR2, hK9⟩
        have HZ2 := Lib.hid hz2
        clear hz2
        replace hR1 := hR1.keep hK9
        replace J := J.trans hK9
        clear hK9
        unfold vg
        dsimp only
        refine hK.out _ _ ?_ (fun hHeld => ?_)
        · exact ⟨(HB1.out.keep J).c7, (HB2.out.keep J).c7⟩
        clear hK K
        (try simp only [Act.put]); (try simp only [List.setIfInBounds_toArray]); (try simp only [List.set_cons_succ]); (try simp only [List.set_cons_zero])
        refine wpAnyH_ready (rs := [4, 5]) (by kernel_rfl) (by simp) ?_
        refine AllReadyH.cons (o := ⟨_, _, _, _, _, _⟩) rfl (fun K hK => ?_) (AllReadyH.cons (o := ⟨_, _, _, _, _, _⟩) rfl (fun K hK => ?_) AllReadyH.nil)
        · go_simp
          have hn5 := Blk.new V2 32 zG
          have hg5 : W2.heap.size ≤ V2.heap.size := J.size
          have KA := (Keeps.refl V2).alloc (.cells zG 32)
          replace hR1 := hR1.keep KA
          replace hR2 := hR2.keep KA
          replace J := J.trans KA
          clear KA
          generalize V2.alloc (.cells zG 32) = V3 at *
          generalize V2.heap.size = B5 at *
          refine hK.out _ _ ?_ (fun hHeld => ?_)
          · exact ⟨(HB1.out.keep J).c7, (HB2.out.keep J).c7⟩
          clear hK K
          (try simp only [Act.put]); (try simp only [List.setIfInBounds_toArray]); (try simp only [List.set_cons_succ]); (try simp only [List.set_cons_zero])
          refine wpAnyH_ready (rs := [5]) (by kernel_rfl) (by simp) ?_
          refine AllReadyH.cons (o := ⟨_, _, _, _, _, _⟩) rfl (fun K hK => ?_) AllReadyH.nil
          · go_simp
            have hn6 := Blk.new V3 32 zG
            have hg6 : W2.heap.size ≤ V3.heap.size := J.size
            have KA := (Keeps.refl V3).alloc (.cells zG 32)
            have hne : V3.heap.size ≠ B5 := by have := hn5.lt; omega
            replace hR1 := hR1.keep KA
            replace hR2 := hR2.keep KA
            replace hn5 := hn5.keep KA
            replace J := J.trans KA
            clear KA
            generalize V3.alloc (.cells zG 32) = V4 at *
            generalize V3.heap.size = B6 at *
            have HNE := Lib.hid (Ne.symm hne)
            clear hne
            refine hK.out _ _ ?_ (fun hHeld => ?_)
            · exact ⟨(HB1.out.keep J).c7, (HB2.out.keep J).c7⟩
            clear hK K
            (try simp only [Act.put]); (try simp only [List.setIfInBounds_toArray]); (try simp only [List.set_cons_succ]); (try simp only [List.set_cons_zero])
            refine wpAnyH_ready (rs := [6]) (by kernel_rfl) (by simp) ?_
            refine AllReadyH.cons (o := ⟨_, _, _, _, _, _⟩) rfl (fun K hK => ?_) AllReadyH.nil
            · obtain ⟨c0, c1, c2, c3, c4, c5⟩ := hn5.c6
              obtain ⟨g0, g1, g2, g3, g4, g5⟩ := hn5.f6
              go_simp
              clear c0 c1 c2 c3 c4 c5 g0 g1 g2 g3 g4 g5
              replace hn6 := hn6.other6 HNE.out.symm (.string z1.c.nm) (.int .i64 z1.c.kd) (.int .u16 (sv z1.c.M)) (.slice z1.ar z1.c.R.length z1.cr) (.slice z1.aw z1.c.Q.length z1.cw) (.slice z1.af z1.c.F.length z1.cf)
              replace hR1 := hR1.set6 hn5 (.string z1.c.nm) (.int .i64 z1.c.kd) (.int .u16 (sv z1.c.M)) (.slice z1.ar z1.c.R.length z1.cr) (.slice z1.aw z1.c.Q.length z1.cw) (.slice z1.af z1.c.F.length z1.cf)
              replace hR2 := hR2.set6 hn5 (.string z1.c.nm) (.int .i64 z1.c.kd) (.int .u16 (sv z1.c.M)) (.slice z1.ar z1.c.R.length z1.cr) (.slice z1.aw z1.c.Q.length z1.cw) (.slice z1.af z1.c.F.length z1.cf)
              replace hn5 := hn5.set6 (.string z1.c.nm) (.int .i64 z1.c.kd) (.int .u16 (sv z1.c.M)) (.slice z1.ar z1.c.R.length z1.cr) (.slice z1.aw z1.c.Q.length z1.cw) (.slice z1.af z1.c.F.length z1.cf)
              replace J := keeps_set6 J hg5 (.string z1.c.nm) (.int .i64 z1.c.kd) (.int .u16 (sv z1.c.M)) (.slice z1.ar z1.c.R.length z1.cr) (.slice z1.aw z1.c.Q.length z1.cw) (.slice z1.af z1.c.F.length z1.cf)
              generalize ((((((V4.setCell ⟨B5, 0, none⟩ (.string z1.c.nm)).setCell ⟨B5, 1, none⟩ (.int .i64 z1.c.kd)).setCell ⟨B5, 2, none⟩ (.int .u16 (sv z1.c.M))).setCell ⟨B5, 3, none⟩ (.slice z1.ar z1.c.R.length z1.cr)).setCell ⟨B5, 4, none⟩ (.slice z1.aw z1.c.Q.length z1.cw)).setCell ⟨B5, 5, none⟩ (.slice z1.af z1.c.F.length z1.cf)) = V5 at *
              refine hK.out _ _ ?_ (fun hHeld => ?_)
              · exact ⟨(HB1.out.keep J).c7, (HB2.out.keep J).c7⟩
              clear hK K
              (try simp only [Act.put]); (try simp only [List.setIfInBounds_toArray]); (try simp only [List.set_cons_succ]); (try simp only [List.set_cons_zero])
              refine wpAnyH_ready (rs := [7]) (by kernel_rfl) (by simp) ?_
              refine AllReadyH.cons (o := ⟨_, _, _, _, _, _⟩) rfl (fun K hK => ?_) AllReadyH.nil
              · obtain ⟨c0, c1, c2, c3, c4, c5⟩ := hn6.c6
                obtain ⟨g0, g1, g2, g3, g4, g5⟩ := hn6.f6
                go_simp
                clear c0 c1 c2 c3 c4 c5 g0 g1 g2 g3 g4 g5
                replace hn5 := hn5.other6 HNE.out (.string z2.c.nm) (.int .i64 z2.c.kd) (.int .u16 (sv z2.c.M)) (.slice z2.ar z2.c.R.length z2.cr) (.slice z2.aw z2.c.Q.length z2.cw) (.slice z2.af z2.c.F.length z2.cf)
                replace hR1 := hR1.set6 hn6 (.string z2.c.nm) (.int .i64 z2.c.kd) (.int .u16 (sv z2.c.M)) (.slice z2.ar z2.c.R.length z2.cr) (.slice z2.aw z2.c.Q.length z2.cw) (.slice z2.af z2.c.F.length z2.cf)
                replace hR2 := hR2.set6 hn6 (.string z2.c.nm) (.int .i64 z2.c.kd) (.int .u16 (sv z2.c.M)) (.slice z2.ar z2.c.R.length z2.cr) (.slice z2.aw z2.c.Q.length z2.cw) (.slice z2.af z2.c.F.length z2.cf)
                replace hn6 := hn6.set6 (.string z2.c.nm) (.int .i64 z2.c.kd) (.int .u16 (sv z2.c.M)) (.slice z2.ar z2.c.R.length z2.cr) (.slice z2.aw z2.c.Q.length z2.cw) (.slice z2.af z2.c.F.length z2.cf)
                replace J := keeps_set6 J hg6 (.string z2.c.nm) (.int .i64 z2.c.kd) (.int .u16 (sv z2.c.M)) (.slice z2.ar z2.c.R.length z2.cr) (.slice z2.aw z2.c.Q.length z2.cw) (.slice z2.af z2.c.F.length z2.cf)
                generalize ((((((V5.setCell ⟨B6, 0, none⟩ (.string z2.c.nm)).setCell ⟨B6, 1, none⟩ (.int .i64 z2.c.kd)).setCell ⟨B6, 2, none⟩ (.int .u16 (sv z2.c.M))).setCell ⟨B6, 3, none⟩ (.slice z2.ar z2.c.R.length z2.cr)).setCell ⟨B6, 4, none⟩ (.slice z2.aw z2.c.Q.length z2.cw)).setCell ⟨B6, 5, none⟩ (.slice z2.af z2.c.F.length z2.cf)) = V6 at *
                refine hK.out _ _ ?_ (fun hHeld => ?_)
                · exact ⟨(HB1.out.keep J).c7, (HB2.out.keep J).c7⟩
                clear hK K
                (try simp only [Act.put]); (try simp only [List.setIfInBounds_toArray]); (try simp only [List.set_cons_succ]); (try simp only [List.set_cons_zero])
                refine wpAnyH_done (by kernel_rfl) ?_ _
                go_wp2_with fail
                go_meet
                case rel => exact ⟨B5, B6, z1, z2, rfl, rfl, HZ1.out, HZ2.out, hn5, hn6, hR1, hR2, J⟩
        · go_simp
          have hn6 := Blk.new V2 32 zG
          have hg6 : W2.heap.size ≤ V2.heap.size := J.size
          have KA := (Keeps.refl V2).alloc (.cells zG 32)
          replace hR1 := hR1.keep KA
          replace hR2 := hR2.keep KA
          replace J := J.trans KA
          clear KA
          generalize V2.alloc (.cells zG 32) = V7 at *
          generalize V2.heap.size = B6 at *
          refine hK.out _ _ ?_ (fun hHeld => ?_)
          · exact ⟨(HB1.out.keep J).c7, (HB2.out.keep J).c7⟩
          clear hK K
          (try simp only [Act.put]); (try simp only [List.setIfInBounds_toArray]); (try simp only [List.set_cons_succ]); (try simp only [List.set_cons_zero])
          refine wpAnyH_ready (rs := [4]) (by kernel_rfl) (by simp) ?_
          refine AllReadyH.cons (o := ⟨_, _, _, _, _, _⟩) rfl (fun K hK => ?_) AllReadyH.nil
          · go_simp
            have hn5 := Blk.new V7 32 zG
            have hg5 : W2.heap.size ≤ V7.heap.size := J.size
            have KA := (Keeps.refl V7).alloc (.cells zG 32)
            have hne : V7.heap.size ≠ B6 := by have := hn6.lt; omega
            replace hR1 := hR1.keep KA
            replace hR2 := hR2.keep KA
            replace hn6 := hn6.keep KA
            replace J := J.trans KA
            clear KA
            generalize V7.alloc (.cells zG 32) = V8 at *
            generalize V7.heap.size = B5 at *
            have HNE := Lib.hid hne
            clear hne
            refine hK.out _ _ ?_ (fun hHeld => ?_)
            · exact ⟨(HB1.out.keep J).c7, (HB2.out.keep J).c7⟩
            clear hK K
            (try simp only [Act.put]); (try simp only [List.setIfInBounds_toArray]); (try simp only [List.set_cons_succ]); (try simp only [List.set_cons_zero])
            refine wpAnyH_ready (rs := [6]) (by kernel_rfl) (by simp) ?_
            refine AllReadyH.cons (o := ⟨_, _, _, _, _, _⟩) rfl (fun K hK => ?_) AllReadyH.nil
            · obtain ⟨c0, c1, c2, c3, c4, c5⟩ := hn5.c6
              obtain ⟨g0, g1, g2, g3, g4, g5⟩ := hn5.f6
              go_simp
              clear c0 c1 c2 c3 c4 c5 g0 g1 g2 g3 g4 g5
              replace hn6 := hn6.other6 HNE.out.symm (.string z1.c.nm) (.int .i64 z1.c.kd) (.int .u16 (sv z1.c.M)) (.slice z1.ar z1.c.R.length z1.cr) (.slice z1.aw z1.c.Q.length z1.cw) (.slice z1.af z1.c.F.length z1.cf)
              replace hR1 := hR1.set6 hn5 (.string z1.c.nm) (.int .i64 z1.c.kd) (.int .u16 (sv z1.c.M)) (.slice z1.ar z1.c.R.length z1.cr) (.slice z1.aw z1.c.Q.length z1.cw) (.slice z1.af z1.c.F.length z1.cf)
              replace hR2 := hR2.set6 hn5 (.string z1.c.nm) (.int .i64 z1.c.kd) (.int .u16 (sv z1.c.M)) (.slice z1.ar z1.c.R.length z1.cr) (.slice z1.aw z1.c.Q.length z1.cw) (.slice z1.af z1.c.F.length z1.cf)
              replace hn5 := hn5.set6 (.string z1.c.nm) (.int .i64 z1.c.kd) (.int .u16 (sv z1.c.M)) (.slice z1.ar z1.c.R.length z1.cr) (.slice z1.aw z1.c.Q.length z1.cw) (.slice z1.af z1.c.F.length z1.cf)
              replace J := keeps_set6 J hg5 (.string z1.c.nm) (.int .i64 z1.c.kd) (.int .u16 (sv z1.c.M)) (.slice z1.ar z1.c.R.length z1.cr) (.slice z1.aw z1.c.Q.length z1.cw) (.slice z1.af z1.c.F.length z1.cf)
              generalize ((((((V8.setCell ⟨B5, 0, none⟩ (.string z1.c.nm)).setCell ⟨B5, 1, none⟩ (.int .i64 z1.c.kd)).setCell ⟨B5, 2, none⟩ (.int .u16 (sv z1.c.M))).setCell ⟨B5, 3, none⟩ (.slice z1.ar z1.c.R.length z1.cr)).setCell ⟨B5, 4, none⟩ (.slice z1.aw z1.c.Q.length z1.cw)).setCell ⟨B5, 5, none⟩ (.slice z1.af z1.c.F.length z1.cf)) = V9 at *
              refine hK.out _ _ ?_ (fun hHeld => ?_)
              · exact ⟨(HB1.out.keep J).c7, (HB2.out.keep J).c7⟩
              clear hK K
              (try simp only [Act.put]); (try simp only [List.setIfInBounds_toArray]); (try simp only [List.set_cons_succ]); (try simp only [List.set_cons_zero])
              refine wpAnyH_ready (rs := [7]) (by kernel_rfl) (by simp) ?_
              refine AllReadyH.cons (o := ⟨_, _, _, _, _, _⟩) rfl (fun K hK => ?_) AllReadyH.nil
              · obtain ⟨c0, c1, c2, c3, c4, c5⟩ := hn6.c6
                obtain ⟨g0, g1, g2, g3, g4, g5⟩ := hn6.f6
                go_simp
                clear c0 c1 c2 c3 c4 c5 g0 g1 g2 g3 g4 g5
                replace hn5 := hn5.other6 HNE.out (.string z2.c.nm) (.int .i64 z2.c.kd) (.int .u16 (sv z2.c.M)) (.slice z2.ar z2.c.R.length z2.cr) (.slice z2.aw z2.c.Q.length z2.cw) (.slice z2.af z2.c.F.length z2.cf)
                replace hR1 := hR1.set6 hn6 (.string z2.c.nm) (.int .i64 z2.c.kd) (.int .u16 (sv z2.c.M)) (.slice z2.ar z2.c.R.length z2.cr) (.slice z2.aw z2.c.Q.length z2.cw) (.slice z2.af z2.c.F.length z2.cf)
                replace hR2 := hR2.set6 hn6 (.string z2.c.nm) (.int .i64 z2.c.kd) (.int .u16 (sv z2.c.M)) (.slice z2.ar z2.c.R.length z2.cr) (.slice z2.aw z2.c.Q.length z2.cw) (.slice z2.af z2.c.F.length z2.cf)
                replace hn6 := hn6.set6 (.string z2.c.nm) (.int .i64 z2.c.kd) (.int .u16 (sv z2.c.M)) (.slice z2.ar z2.c.R.length z2.cr) (.slice z2.aw z2.c.Q.length z2.cw) (.slice z2.af z2.c.F.length z2.cf)
                replace J := keeps_set6 J hg6 (.string z2.c.nm) (.int .i64 z2.c.kd) (.int .u16 (sv z2.c.M)) (.slice z2.ar z2.c.R.length z2.cr) (.slice z2.aw z2.c.Q.length z2.cw) (.slice z2.af z2.c.F.length z2.cf)
                generalize ((((((V9.setCell ⟨B6, 0, none⟩ (.string z2.c.nm)).setCell ⟨B6, 1, none⟩ (.int .i64 z2.c.kd)).setCell ⟨B6, 2, none⟩ (.int .u16 (sv z2.c.M))).setCell ⟨B6, 3, none⟩ (.slice z2.ar z2.c.R.length z2.cr)).setCell ⟨B6, 4, none⟩ (.slice z2.aw z2.c.Q.length z2.cw)).setCell ⟨B6, 5, none⟩ (.slice z2.af z2.c.F.length z2.cf)) = V10 at *
                refine hK.out _ _ ?_ (fun hHeld => ?_)
                · exact ⟨(HB1.out.keep J).c7, (HB2.out.keep J).c7⟩
                clear hK K
                (try simp only [Act.put]); (try simp only [List.setIfInBounds_toArray]); (try simp only [List.set_cons_succ]); (try simp only [List.set_cons_zero])
                refine wpAnyH_done (by kernel_rfl) ?_ _
                go_wp2_with fail
                go_meet
                case rel => exact ⟨B5, B6, z1, z2, rfl, rfl, HZ1.out, HZ2.out, hn5, hn6, hR1, hR2, J⟩
      · go_simp
        have hn5 := Blk.new V1 32 zG
        have hg5 : W2.heap.size ≤ V1.heap.size := J.size
        have KA := (Keeps.refl V1).alloc (.cells zG 32)
        replace hR1 := hR1.keep KA
        replace J := J.trans KA
        clear KA
        generalize V1.alloc (.cells zG 32) = V11 at *
        generalize V1.heap.size = B5 at *
        refine hK.out _ _ ?_ (fun hHeld => ?_)
        · exact ⟨(HB1.out.keep J).c7, (HB2.out.keep J).c7⟩
        clear hK K
        (try simp only [Act.put]); (try simp only [List.setIfInBounds_toArray]); (try simp only [List.set_cons_succ]); (try simp only [List.set_cons_zero])
        refine wpAnyH_ready (rs := [3, 5]) (by kernel_rfl) (by simp) ?_
        refine AllReadyH.cons (o := ⟨_, _, _, _, _, _⟩) rfl (fun K hK => ?_) (AllReadyH.cons (o := ⟨_, _, _, _, _, _⟩) rfl (fun K hK => ?_) AllReadyH.nil)
        · go_simp
          refine (HM.out _ _ _ _ _ _ _ _ _ _ _ _ _ _ _ (by first | exact Or.inl rfl | exact Or.inr rfl) (HKW.out.trans J)).mono ?_
          rintro e V12 ⟨z2, rfl, hz2, hR2, hK9⟩
          have HZ2 := Lib.hid hz2
          clear hz2
          replace hR1 := hR1.keep hK9
          replace hn5 := hn5.keep hK9
          replace J := J.trans hK9
          clear hK9
          unfold vg
          dsimp only
          refine hK.out _ _ ?_ (fun hHeld => ?_)
          · exact ⟨(HB1.out.keep J).c7, (HB2.out.keep J).c7⟩
          clear hK K
          (try simp only [Act.put]); (try simp only [List.setIfInBounds_toArray]); (try simp only [List.set_cons_succ]); (try simp only [List.set_cons_zero])
          refine wpAnyH_ready (rs := [5]) (by kernel_rfl) (by simp) ?_
          refine AllReadyH.cons (o := ⟨_, _, _, _, _, _⟩) rfl (fun K hK => ?_) AllReadyH.nil
          · go_simp
            have hn6 := Blk.new V12 32 zG
            have hg6 : W2.heap.size ≤ V12.heap.size := J.size
            have KA := (Keeps.refl V12).alloc (.cells zG 32)
            have hne : V12.heap.size ≠ B5 := by have := hn5.lt; omega
            replace hR1 := hR1.keep KA
            replace hR2 := hR2.keep KA
            replace hn5 := hn5.keep KA
            replace J := J.trans KA
            clear KA
            generalize V12.alloc (.cells zG 32) = V13 at *
            generalize V12.heap.size = B6 at *
            have HNE := Lib.hid (Ne.symm hne)
            clear hne
            refine hK.out _ _ ?_ (fun hHeld => ?_)
            · exact ⟨(HB1.out.keep J).c7, (HB2.out.keep J).c7⟩
            clear hK K
            (try simp only [Act.put]); (try simp only [List.setIfInBounds_toArray]); (try simp only [List.set_cons_succ]); (try simp only [List.set_cons_zero])
            refine wpAnyH_ready (rs := [6]) (by kernel_rfl) (by simp) ?_
            refine AllReadyH.cons (o := ⟨_, _, _, _, _, _⟩) rfl (fun K hK => ?_) AllReadyH.nil
            · obtain ⟨c0, c1, c2, c3, c4, c5⟩ := hn5.c6
              obtain ⟨g0, g1, g2, g3, g4, g5⟩ := hn5.f6
              go_simp
              clear c0 c1 c2 c3 c4 c5 g0 g1 g2 g3 g4 g5
              replace hn6 := hn6.other6 HNE.out.symm (.string z1.c.nm) (.int .i64 z1.c.kd) (.int .u16 (sv z1.c.M)) (.slice z1.ar z1.c.R.length z1.cr) (.slice z1.aw z1.c.Q.length z1.cw) (.slice z1.af z1.c.F.length z1.cf)
              replace hR1 := hR1.set6 hn5 (.string z1.c.nm) (.int .i64 z1.c.kd) (.int .u16 (sv z1.c.M)) (.slice z1.ar z1.c.R.length z1.cr) (.slice z1.aw z1.c.Q.length z1.cw) (.slice z1.af z1.c.F.length z1.cf)
              replace hR2 := hR2.set6 hn5 (.string z1.c.nm) (.int .i64 z1.c.kd) (.int .u16 (sv z1.c.M)) (.slice z1.ar z1.c.R.length z1.cr) (.slice z1.aw z1.c.Q.length z1.cw) (.slice z1.af z1.c.F.length z1.cf)
              replace hn5 := hn5.set6 (.string z1.c.nm) (.int .i64 z1.c.kd) (.int .u16 (sv z1.c.M)) (.slice z1.ar z1.c.R.length z1.cr) (.slice z1.aw z1.c.Q.length z1.cw) (.slice z1.af z1.c.F.length z1.cf)
              replace J := keeps_set6 J hg5 (.string z1.c.nm) (.int .i64 z1.c.kd) (.int .u16 (sv z1.c.M)) (.slice z1.ar z1.c.R.length z1.cr) (.slice z1.aw z1.c.Q.length z1.cw) (.slice z1.af z1.c.F.length z1.cf)
              generalize ((((((V13.setCell ⟨B5, 0, none⟩ (.string z1.c.nm)).setCell ⟨B5, 1, none⟩ (.int .i64 z1.c.kd)).setCell ⟨B5, 2, none⟩ (.int .u16 (sv z1.c.M))).setCell ⟨B5, 3, none⟩ (.slice z1.ar z1.c.R.length z1.cr)).setCell ⟨B5, 4, none⟩ (.slice z1.aw z1.c.Q.length z1.cw)).setCell ⟨B5, 5, none⟩ (.slice z1.af z1.c.F.length z1.cf)) = V14 at *
              refine hK.out _ _ ?_ (fun hHeld => ?_)
              · exact ⟨(HB1.out.keep J).c7, (HB2.out.keep J).c7⟩
              clear hK K
              (try simp only [Act.put]); (try simp only [List.setIfInBounds_toArray]); (try simp only [List.set_cons_succ]); (try simp only [List.set_cons_zero])
              refine wpAnyH_ready (rs := [7]) (by kernel_rfl) (by simp) ?_
              refine AllReadyH.cons (o := ⟨_, _, _, _, _, _⟩) rfl (fun K hK => ?_) AllReadyH.nil
              · obtain ⟨c0, c1, c2, c3, c4, c5⟩ := hn6.c6
                obtain ⟨g0, g1, g2, g3, g4, g5⟩ := hn6.f6
                go_simp
                clear c0 c1 c2 c3 c4 c5 g0 g1 g2 g3 g4 g5
                replace hn5 := hn5.other6 HNE.out (.string z2.c.nm) (.int .i64 z2.c.kd) (.int .u16 (sv z2.c.M)) (.slice z2.ar z2.c.R.length z2.cr) (.slice z2.aw z2.c.Q.length z2.cw) (.slice z2.af z2.c.F.length z2.cf)
                replace hR1 := hR1.set6 hn6 (.string z2.c.nm) (.int .i64 z2.c.kd) (.int .u16 (sv z2.c.M)) (.slice z2.ar z2.c.R.length z2.cr) (.slice z2.aw z2.c.Q.length z2.cw) (.slice z2.af z2.c.F.length z2.cf)
                replace hR2 := hR2.set6 hn6 (.string z2.c.nm) (.int .i64 z2.c.kd) (.int .u16 (sv z2.c.M)) (.slice z2.ar z2.c.R.length z2.cr) (.slice z2.aw z2.c.Q.length z2.cw) (.slice z2.af z2.c.F.length z2.cf)
                replace hn6 := hn6.set6 (.string z2.c.nm) (.int .i64 z2.c.kd) (.int .u16 (sv z2.c.M)) (.slice z2.ar z2.c.R.length z2.cr) (.slice z2.aw z2.c.Q.length z2.cw) (.slice z2.af z2.c.F.length z2.cf)
                replace J := keeps_set6 J hg6 (.string z2.c.nm) (.int .i64 z2.c.kd) (.int .u16 (sv z2.c.M)) (.slice z2.ar z2.c.R.length z2.cr) (.slice z2.aw z2.c.Q.length z2.cw) (.slice z2.af z2.c.F.length z2.cf)
                generalize ((((((V14.setCell ⟨B6, 0, none⟩ (.string z2.c.nm)).setCell ⟨B6, 1, none⟩ (.int .i64 z2.c.kd)).setCell ⟨B6, 2, none⟩ (.int .u16 (sv z2.c.M))).setCell ⟨B6, 3, none⟩ (.slice z2.ar z2.c.R.length z2.cr)).setCell ⟨B6, 4, none⟩ (.slice z2.aw z2.c.Q.length z2.cw)).setCell ⟨B6, 5, none⟩ (.slice z2.af z2.c.F.length z2.cf)) = V15 at *
                refine hK.out _ _ ?_ (fun hHeld => ?_)
                · exact ⟨(HB1.out.keep J).c7, (HB2.out.keep J).c7⟩
                clear hK K
                (try simp only [Act.put]); (try simp only [List.setIfInBounds_toArray]); (try simp only [List.set_cons_succ]); (try simp only [List.set_cons_zero])
                refine wpAnyH_done (by kernel_rfl) ?_ _
                go_wp2_with fail
                go_meet
                case rel => exact ⟨B5, B6, z1, z2, rfl, rfl, HZ1.out, HZ2.out, hn5, hn6, hR1, hR2, J⟩
        · go_simp
          have hn6 := Blk.new V11 32 zG
          have hg6 : W2.heap.size ≤ V11.heap.size := J.size
          have KA := (Keeps.refl V11).alloc (.cells zG 32)
          have hne : V11.heap.size ≠ B5 := by have := hn5.lt; omega
          replace hR1 := hR1.keep KA
          replace hn5 := hn5.keep KA
          replace J := J.trans KA
          clear KA
          generalize V11.alloc (.cells zG 32) = V16 at *
          generalize V11.heap.size = B6 at *
          have HNE := Lib.hid (Ne.symm hne)
          clear hne
          refine hK.out _ _ ?_ (fun hHeld => ?_)
          · exact ⟨(HB1.out.keep J).c7, (HB2.out.keep J).c7⟩
          clear hK K
          (try simp only [Act.put]); (try simp only [List.setIfInBounds_toArray]); (try simp only [List.set_cons_succ]); (try simp only [List.set_cons_zero])
          refine wpAnyH_ready (rs := [3]) (by kernel_rfl) (by simp) ?_
          refine AllReadyH.cons (o := ⟨_, _, _, _, _, _⟩) rfl (fun K hK => ?_) AllReadyH.nil
          · go_simp
            refine (HM.out _ _ _ _ _ _ _ _ _ _ _ _ _ _ _ (by first | exact Or.inl rfl | exact Or.inr rfl) (HKW.out.trans J)).mono ?_
            rintro e V17 ⟨z2, rfl, hz2, hR2, hK9⟩
            have HZ2 := Lib.hid hz2
            clear hz2
            replace hR1 := hR1.keep hK9
            replace hn5 := hn5.keep hK9
            replace hn6 := hn6.keep hK9
            replace J := J.trans hK9
            clear hK9
            unfold vg
            dsimp only
            refine hK.out _ _ ?_ (fun hHeld => ?_)
            · exact ⟨(HB1.out.keep J).c7, (HB2.out.keep J).c7⟩
            clear hK K
            (try simp only [Act.put]); (try simp only [List.setIfInBounds_toArray]); (try simp only [List.set_cons_succ]); (try simp only [List.set_cons_zero])
            refine wpAnyH_ready (rs := [6]) (by kernel_rfl) (by simp) ?_
            refine AllReadyH.cons (o := ⟨_, _, _, _, _, _⟩) rfl (fun K hK => ?_) AllReadyH.nil
            · obtain ⟨c0, c1, c2, c3, c4, c5⟩ := hn5.c6
              obtain ⟨g0, g1, g2, g3, g4, g5⟩ := hn5.f6
              go_simp
              clear c0 c1 c2 c3 c4 c5 g0 g1 g2 g3 g4 g5
              replace hn6 := hn6.other6 HNE.out.symm (.string z1.c.nm) (.int .i64 z1.c.kd) (.int .u16 (sv z1.c.M)) (.slice z1.ar z1.c.R.length z1.cr) (.slice z1.aw z1.c.Q.length z1.cw) (.slice z1.af z1.c.F.length z1.cf)
              replace hR1 := hR1.set6 hn5 (.string z1.c.nm) (.int .i64 z1.c.kd) (.int .u16 (sv z1.c.M)) (.slice z1.ar z1.c.R.length z1.cr) (.slice z1.aw z1.c.Q.length z1.cw) (.slice z1.af z1.c.F.length z1.cf)
              replace hR2 := hR2.set6 hn5 (.string z1.c.nm) (.int .i64 z1.c.kd) (.int .u16 (sv z1.c.M)) (.slice z1.ar z1.c.R.length z1.cr) (.slice z1.aw z1.c.Q.length z1.cw) (.slice z1.af z1.c.F.length z1.cf)
              replace hn5 := hn5.set6 (.string z1.c.nm) (.int .i64 z1.c.kd) (.int .u16 (sv z1.c.M)) (.slice z1.ar z1.c.R.length z1.cr) (.slice z1.aw z1.c.Q.length z1.cw) (.slice z1.af z1.c.F.length z1.cf)
              replace J := keeps_set6 J hg5 (.string z1.c.nm) (.int .i64 z1.c.kd) (.int .u16 (sv z1.c.M)) (.slice z1.ar z1.c.R.length z1.cr) (.slice z1.aw z1.c.Q.length z1.cw) (.slice z1.af z1.c.F.length z1.cf)
              generalize ((((((V17.setCell ⟨B5, 0, none⟩ (.string z1.c.nm)).setCell ⟨B5, 1, none⟩ (.int .i64 z1.c.kd)).setCell ⟨B5, 2, none⟩ (.int .u16 (sv z1.c.M))).setCell ⟨B5, 3, none⟩ (.slice z1.ar z1.c.R.length z1.cr)).setCell ⟨B5, 4, none⟩ (.slice z1.aw z1.c.Q.length z1.cw)).setCell ⟨B5, 5, none⟩ (.slice z1.af z1.c.F.length z1.cf)) = V18 at *
              refine hK.out _ _ ?_ (fun hHeld => ?_)
              · exact ⟨(HB1.out.keep J).c7, (HB2.out.keep J).c7⟩
              clear hK K
              (try simp only [Act.put]); (try simp only [List.setIfInBounds_toArray]); (try simp only [List.set_cons_succ]); (try simp only [List.set_cons_zero])
              refine wpAnyH_ready (rs := [7]) (by kernel_rfl) (by simp) ?_
              refine AllReadyH.cons (o := ⟨_, _, _, _, _, _⟩) rfl (fun K hK => ?_) AllReadyH.nil
              · obtain ⟨c0, c1, c2, c3, c4, c5⟩ := hn6.c6
                obtain ⟨g0, g1, g2, g3, g4, g5⟩ := hn6.f6
                go_simp
                clear c0 c1 c2 c3 c4 c5 g0 g1 g2 g3 g4 g5
                replace hn5 := hn5.other6 HNE.out (.string z2.c.nm) (.int .i64 z2.c.kd) (.int .u16 (sv z2.c.M)) (.slice z2.ar z2.c.R.length z2.cr) (.slice z2.aw z2.c.Q.length z2.cw) (.slice z2.af z2.c.F.length z2.cf)
                replace hR1 := hR1.set6 hn6 (.string z2.c.nm) (.int .i64 z2.c.kd) (.int .u16 (sv z2.c.M)) (.slice z2.ar z2.c.R.length z2.cr) (.slice z2.aw z2.c.Q.length z2.cw) (.slice z2.af z2.c.F.length z2.cf)
                replace hR2 := hR2.set6 hn6 (.string z2.c.nm) (.int .i64 z2.c.kd) (.int .u16 (sv z2.c.M)) (.slice z2.ar z2.c.R.length z2.cr) (.slice z2.aw z2.c.Q.length z2.cw) (.slice z2.af z2.c.F.length z2.cf)
                replace hn6 := hn6.set6 (.string z2.c.nm) (.int .i64 z2.c.kd) (.int .u16 (sv z2.c.M)) (.slice z2.ar z2.c.R.length z2.cr) (.slice z2.aw z2.c.Q.length z2.cw) (.slice z2.af z2.c.F.length z2.cf)
                replace J := keeps_set6 J hg6 (.string z2.c.nm) (.int .i64 z2.c.kd) (.int .u16 (sv z2.c.M)) (.slice z2.ar z2.c.R.length z2.cr) (.slice z2.aw z2.c.Q.length z2.cw) (.slice z2.af z2.c.F.length z2.cf)
                generalize ((((((V18.setCell ⟨B6, 0, none⟩ (.string z2.c.nm)).setCell ⟨B6, 1, none⟩ (.int .i64 z2.c.kd)).setCell ⟨B6, 2, none⟩ (.int .u16 (sv z2.c.M))).setCell ⟨B6, 3, none⟩ (.slice z2.ar z2.c.R.length z2.cr)).setCell ⟨B6, 4, none⟩ (.slice z2.aw z2.c.Q.length z2.cw)).setCell ⟨B6, 5, none⟩ (.slice z2.af z2.c.F.length z2.cf)) = V19 at *
                refine hK.out _ _ ?_ (fun hHeld => ?_)
                · exact ⟨(HB1.out.keep J).c7, (HB2.out.keep J).c7⟩
                clear hK K
                (try simp only [Act.put]); (try simp only [List.setIfInBounds_toArray]); (try simp only [List.set_cons_succ]); (try simp only [List.set_cons_zero])
                refine wpAnyH_done (by kernel_rfl) ?_ _
                go_wp2_with fail
                go_meet
                case rel => exact ⟨B5, B6, z1, z2, rfl, rfl, HZ1.out, HZ2.out, hn5, hn6, hR1, hR2, J⟩
      · go_simp
        have hn6 := Blk.new V1 32 zG
        have hg6 : W2.heap.size ≤ V1.heap.size := J.size
        have KA := (Keeps.refl V1).alloc (.cells zG 32)
        replace hR1 := hR1.keep KA
        replace J := J.trans KA
        clear KA
        generalize V1.alloc (.cells zG 32) = V20 at *
        generalize V1.heap.size = B6 at *
        refine hK.out _ _ ?_ (fun hHeld => ?_)
        · exact ⟨(HB1.out.keep J).c7, (HB2.out.keep J).c7⟩
        clear hK K
        (try simp only [Act.put]); (try simp only [List.setIfInBounds_toArray]); (try simp only [List.set_cons_succ]); (try simp only [List.set_cons_zero])
        refine wpAnyH_ready (rs := [3, 4]) (by kernel_rfl) (by simp) ?_
        refine AllReadyH.cons (o := ⟨_, _, _, _, _, _⟩) rfl (fun K hK => ?_) (AllReadyH.cons (o := ⟨_, _, _, _, _, _⟩) rfl (fun K hK => ?_) AllReadyH.nil)
        · go_simp
          refine (HM.out _ _ _ _ _ _ _ _ _ _ _ _ _ _ _ (by first | exact Or.inl rfl | exact Or.inr rfl) (HKW.out.trans J)).mono ?_
          rintro e V21 ⟨z2, rfl, hz2, hR2, hK9⟩
          have HZ2 := Lib.hid hz2
          clear hz2
          replace hR1 := hR1.keep hK9
          replace hn6 := hn6.keep hK9
          replace J := J.trans hK9
          clear hK9
          unfold vg
          dsimp only
          refine hK.out _ _ ?_ (fun hHeld => ?_)
          · exact ⟨(HB1.out.keep J).c7, (HB2.out.keep J).c7⟩
          clear hK K
          (try simp only [Act.put]); (try simp only [List.setIfInBounds_toArray]); (try simp only [List.set_cons_succ]); (try simp only [List.set_cons_zero])
          refine wpAnyH_ready (rs := [4]) (by kernel_rfl) (by simp) ?_
          refine AllReadyH.cons (o := ⟨_, _, _, _, _, _⟩) rfl (fun K hK => ?_) AllReadyH.nil
          · go_simp
            have hn5 := Blk.new V21 32 zG
            have hg5 : W2.heap.size ≤ V21.heap.size := J.size
            have KA := (Keeps.refl V21).alloc (.cells zG 32)
            have hne : V21.heap.size ≠ B6 := by have := hn6.lt; omega
            replace hR1 := hR1.keep KA
            replace hR2 := hR2.keep KA
            replace hn6 := hn6.keep KA
            replace J := J.trans KA
            clear KA
            generalize V21.alloc (.cells zG 32) = V22 at *
            generalize V21.heap.size = B5 at *
            have HNE := Lib.hid hne
            clear hne
            refine hK.out _ _ ?_ (fun hHeld => ?_)
            · exact ⟨(HB1.out.keep J).c7, (HB2.out.keep J).c7⟩
            clear hK K
            (try simp only [Act.put]); (try simp only [List.setIfInBounds_toArray]); (try simp only [List.set_cons_succ]); (try simp only [List.set_cons_zero])
            refine wpAnyH_ready (rs := [6]) (by kernel_rfl) (by simp) ?_
            refine AllReadyH.cons (o := ⟨_, _, _, _, _, _⟩) rfl (fun K hK => ?_) AllReadyH.nil
            · obtain ⟨c0, c1, c2, c3, c4, c5⟩ := hn5.c6
              obtain ⟨g0, g1, g2, g3, g4, g5⟩ := hn5.f6
              go_simp
              clear c0 c1 c2 c3 c4 c5 g0 g1 g2 g3 g4 g5
              replace hn6 := hn6.other6 HNE.out.symm (.string z1.c.nm) (.int .i64 z1.c.kd) (.int .u16 (sv z1.c.M)) (.slice z1.ar z1.c.R.length z1.cr) (.slice z1.aw z1.c.Q.length z1.cw) (.slice z1.af z1.c.F.length z1.cf)
              replace hR1 := hR1.set6 hn5 (.string z1.c.nm) (.int .i64 z1.c.kd) (.int .u16 (sv z1.c.M)) (.slice z1.ar z1.c.R.length z1.cr) (.slice z1.aw z1.c.Q.length z1.cw) (.slice z1.af z1.c.F.length z1.cf)
              replace hR2 := hR2.set6 hn5 (.string z1.c.nm) (.int .i64 z1.c.kd) (.int .u16 (sv z1.c.M)) (.slice z1.ar z1.c.R.length z1.cr) (.slice z1.aw z1.c.Q.length z1.cw) (.slice z1.af z1.c.F.length z1.cf)
              replace hn5 := hn5.set6 (.string z1.c.nm) (.int .i64 z1.c.kd) (.int .u16 (sv z1.c.M)) (.slice z1.ar z1.c.R.length z1.cr) (.slice z1.aw z1.c.Q.length z1.cw) (.slice z1.af z1.c.F.length z1.cf)
              replace J := keeps_set6 J hg5 (.string z1.c.nm) (.int .i64 z1.c.kd) (.int .u16 (sv z1.c.M)) (.slice z1.ar z1.c.R.length z1.cr) (.slice z1.aw z1.c.Q.length z1.cw) (.slice z1.af z1.c.F.length z1.cf)
              generalize ((((((V22.setCell ⟨B5, 0, none⟩ (.string z1.c.nm)).setCell ⟨B5, 1, none⟩ (.int .i64 z1.c.kd)).setCell ⟨B5, 2, none⟩ (.int .u16 (sv z1.c.M))).setCell ⟨B5, 3, none⟩ (.slice z1.ar z1.c.R.length z1.cr)).setCell ⟨B5, 4, none⟩ (.slice z1.aw z1.c.Q.length z1.cw)).setCell ⟨B5, 5, none⟩ (.slice z1.af z1.c.F.length z1.cf)) = V23 at *
              refine hK.out _ _ ?_ (fun hHeld => ?_)
              · exact ⟨(HB1.out.keep J).c7, (HB2.out.keep J).c7⟩
              clear hK K
              (try simp only [Act.put]); (try simp only [List.setIfInBounds_toArray]); (try simp only [List.set_cons_succ]); (try simp only [List.set_cons_zero])
              refine wpAnyH_ready (rs := [7]) (by kernel_rfl) (by simp) ?_
              refine AllReadyH.cons (o := ⟨_, _, _, _, _, _⟩) rfl (fun K hK => ?_) AllReadyH.nil
              · obtain ⟨c0, c1, c2, c3, c4, c5⟩ := hn6.c6
                obtain ⟨g0, g1, g2, g3, g4, g5⟩ := hn6.f6
                go_simp
                clear c0 c1 c2 c3 c4 c5 g0 g1 g2 g3 g4 g5
                replace hn5 := hn5.other6 HNE.out (.string z2.c.nm) (.int .i64 z2.c.kd) (.int .u16 (sv z2.c.M)) (.slice z2.ar z2.c.R.length z2.cr) (.slice z2.aw z2.c.Q.length z2.cw) (.slice z2.af z2.c.F.length z2.cf)
                replace hR1 := hR1.set6 hn6 (.string z2.c.nm) (.int .i64 z2.c.kd) (.int .u16 (sv z2.c.M)) (.slice z2.ar z2.c.R.length z2.cr) (.slice z2.aw z2.c.Q.length z2.cw) (.slice z2.af z2.c.F.length z2.cf)
                replace hR2 := hR2.set6 hn6 (.string z2.c.nm) (.int .i64 z2.c.kd) (.int .u16 (sv z2.c.M)) (.slice z2.ar z2.c.R.length z2.cr) (.slice z2.aw z2.c.Q.length z2.cw) (.slice z2.af z2.c.F.length z2.cf)
                replace hn6 := hn6.set6 (.string z2.c.nm) (.int .i64 z2.c.kd) (.int .u16 (sv z2.c.M)) (.slice z2.ar z2.c.R.length z2.cr) (.slice z2.aw z2.c.Q.length z2.cw) (.slice z2.af z2.c.F.length z2.cf)
                replace J := keeps_set6 J hg6 (.string z2.c.nm) (.int .i64 z2.c.kd) (.int .u16 (sv z2.c.M)) (.slice z2.ar z2.c.R.length z2.cr) (.slice z2.aw z2.c.Q.length z2.cw) (.slice z2.af z2.c.F.length z2.cf)
                generalize ((((((V23.setCell ⟨B6, 0, none⟩ (.string z2.c.nm)).setCell ⟨B6, 1, none⟩ (.int .i64 z2.c.kd)).setCell ⟨B6, 2, none⟩ (.int .u16 (sv z2.c.M))).setCell ⟨B6, 3, none⟩ (.slice z2.ar z2.c.R.length z2.cr)).setCell ⟨B6, 4, none⟩ (.slice z2.aw z2.c.Q.length z2.cw)).setCell ⟨B6, 5, none⟩ (.slice z2.af z2.c.F.length z2.cf)) = V24 at *
                refine hK.out _ _ ?_ (fun hHeld => ?_)
                · exact ⟨(HB1.out.keep J).c7, (HB2.out.keep J).c7⟩
                clear hK K
                (try simp only [Act.put]); (try simp only [List.setIfInBounds_toArray]); (try simp only [List.set_cons_succ]); (try simp only [List.set_cons_zero])
                refine wpAnyH_done (by kernel_rfl) ?_ _
                go_wp2_with fail
                go_meet
                case rel => exact ⟨B5, B6, z1, z2, rfl, rfl, HZ1.out, HZ2.out, hn5, hn6, hR1, hR2, J⟩
        · go_simp
          have hn5 := Blk.new V20 32 zG
          have hg5 : W2.heap.size ≤ V20.heap.size := J.size
          have KA := (Keeps.refl V20).alloc (.cells zG 32)
          have hne : V20.heap.size ≠ B6 := by have := hn6.lt; omega
          replace hR1 := hR1.keep KA
          replace hn6 := hn6.keep KA
          replace J := J.trans KA
          clear KA
          generalize V20.alloc (.cells zG 32) = V25 at *
          generalize V20.heap.size = B5 at *
          have HNE := Lib.hid hne
          clear hne
          refine hK.out _ _ ?_ (fun hHeld => ?_)
          · exact ⟨(HB1.out.keep J).c7, (HB2.out.keep J).c7⟩
          clear hK K
          (try simp only [Act.put]); (try simp only [List.setIfInBounds_toArray]); (try simp only [List.set_cons_succ]); (try simp only [List.set_cons_zero])
          refine wpAnyH_ready (rs := [3]) (by kernel_rfl) (by simp) ?_
          refine AllReadyH.cons (o := ⟨_, _, _, _, _, _⟩) rfl (fun K hK => ?_) AllReadyH.nil
          · go_simp
            refine (HM.out _ _ _ _ _ _ _ _ _ _ _ _ _ _ _ (by first | exact Or.inl rfl | exact Or.inr rfl) (HKW.out.trans J)).mono ?_
            rintro e V26 ⟨z2, rfl, hz2, hR2, hK9⟩
            have HZ2 := Lib.hid hz2
            clear hz2
            replace hR1 := hR1.keep hK9
            replace hn5 := hn5.keep hK9
            replace hn6 := hn6.keep hK9
            replace J := J.trans hK9
            clear hK9
            unfold vg
            dsimp only
            refine hK.out _ _ ?_ (fun hHeld => ?_)
            · exact ⟨(HB1.out.keep J).c7, (HB2.out.keep J).c7⟩
            clear hK K
            (try simp only [Act.put]); (try simp only [List.setIfInBounds_toArray]); (try simp only [List.set_cons_succ]); (try simp only [List.set_cons_zero])
            refine wpAnyH_ready (rs := [6]) (by kernel_rfl) (by simp) ?_
            refine AllReadyH.cons (o := ⟨_, _, _, _, _, _⟩) rfl (fun K hK => ?_) AllReadyH.nil
            · obtain ⟨c0, c1, c2, c3, c4, c5⟩ := hn5.c6
              obtain ⟨g0, g1, g2, g3, g4, g5⟩ := hn5.f6
              go_simp
              clear c0 c1 c2 c3 c4 c5 g0 g1 g2 g3 g4 g5
              replace hn6 := hn6.other6 HNE.out.symm (.string z1.c.nm) (.int .i64 z1.c.kd) (.int .u16 (sv z1.c.M)) (.slice z1.ar z1.c.R.length z1.cr) (.slice z1.aw z1.c.Q.length z1.cw) (.slice z1.af z1.c.F.length z1.cf)
              replace hR1 := hR1.set6 hn5 (.string z1.c.nm) (.int .i64 z1.c.kd) (.int .u16 (sv z1.c.M)) (.slice z1.ar z1.c.R.length z1.cr) (.slice z1.aw z1.c.Q.length z1.cw) (.slice z1.af z1.c.F.length z1.cf)
              replace hR2 := hR2.set6 hn5 (.string z1.c.nm) (.int .i64 z1.c.kd) (.int .u16 (sv z1.c.M)) (.slice z1.ar z1.c.R.length z1.cr) (.slice z1.aw z1.c.Q.length z1.cw) (.slice z1.af z1.c.F.length z1.cf)
              replace hn5 := hn5.set6 (.string z1.c.nm) (.int .i64 z1.c.kd) (.int .u16 (sv z1.c.M)) (.slice z1.ar z1.c.R.length z1.cr) (.slice z1.aw z1.c.Q.length z1.cw) (.slice z1.af z1.c.F.length z1.cf)
              replace J := keeps_set6 J hg5 (.string z1.c.nm) (.int .i64 z1.c.kd) (.int .u16 (sv z1.c.M)) (.slice z1.ar z1.c.R.length z1.cr) (.slice z1.aw z1.c.Q.length z1.cw) (.slice z1.af z1.c.F.length z1.cf)
              generalize ((((((V26.setCell ⟨B5, 0, none⟩ (.string z1.c.nm)).setCell ⟨B5, 1, none⟩ (.int .i64 z1.c.kd)).setCell ⟨B5, 2, none⟩ (.int .u16 (sv z1.c.M))).setCell ⟨B5, 3, none⟩ (.slice z1.ar z1.c.R.length z1.cr)).setCell ⟨B5, 4, none⟩ (.slice z1.aw z1.c.Q.length z1.cw)).setCell ⟨B5, 5, none⟩ (.slice z1.af z1.c.F.length z1.cf)) = V27 at *
              refine hK.out _ _ ?_ (fun hHeld => ?_)
              · exact ⟨(HB1.out.keep J).c7, (HB2.out.keep J).c7⟩
              clear hK K
              (try simp only [Act.put]); (try simp only [List.setIfInBounds_toArray]); (try simp only [List.set_cons_succ]); (try simp only [List.set_cons_zero])
              refine wpAnyH_ready (rs := [7]) (by kernel_rfl) (by simp) ?_
              refine AllReadyH.cons (o := ⟨_, _, _, _, _, _⟩) rfl (fun K hK => ?_) AllReadyH.nil
              · obtain ⟨c0, c1, c2, c3, c4, c5⟩ := hn6.c6
                obtain ⟨g0, g1, g2, g3, g4, g5⟩ := hn6.f6
                go_simp
                clear c0 c1 c2 c3 c4 c5 g0 g1 g2 g3 g4 g5
                replace hn5 := hn5.other6 HNE.out (.string z2.c.nm) (.int .i64 z2.c.kd) (.int .u16 (sv z2.c.M)) (.slice z2.ar z2.c.R.length z2.cr) (.slice z2.aw z2.c.Q.length z2.cw) (.slice z2.af z2.c.F.length z2.cf)
                replace hR1 := hR1.set6 hn6 (.string z2.c.nm) (.int .i64 z2.c.kd) (.int .u16 (sv z2.c.M)) (.slice z2.ar z2.c.R.length z2.cr) (.slice z2.aw z2.c.Q.length z2.cw) (.slice z2.af z2.c.F.length z2.cf)
                replace hR2 := hR2.set6 hn6 (.string z2.c.nm) (.int .i64 z2.c.kd) (.int .u16 (sv z2.c.M)) (.slice z2.ar z2.c.R.length z2.cr) (.slice z2.aw z2.c.Q.length z2.cw) (.slice z2.af z2.c.F.length z2.cf)
                replace hn6 := hn6.set6 (.string z2.c.nm) (.int .i64 z2.c.kd) (.int .u16 (sv z2.c.M)) (.slice z2.ar z2.c.R.length z2.cr) (.slice z2.aw z2.c.Q.length z2.cw) (.slice z2.af z2.c.F.length z2.cf)
                replace J := keeps_set6 J hg6 (.string z2.c.nm) (.int .i64 z2.c.kd) (.int .u16 (sv z2.c.M)) (.slice z2.ar z2.c.R.length z2.cr) (.slice z2.aw z2.c.Q.length z2.cw) (.slice z2.af z2.c.F.length z2.cf)
                generalize ((((((V27.setCell ⟨B6, 0, none⟩ (.string z2.c.nm)).setCell ⟨B6, 1, none⟩ (.int .i64 z2.c.kd)).setCell ⟨B6, 2, none⟩ (.int .u16 (sv z2.c.M))).setCell ⟨B6, 3, none⟩ (.slice z2.ar z2.c.R.length z2.cr)).setCell ⟨B6, 4, none⟩ (.slice z2.aw z2.c.Q.length z2.cw)).setCell ⟨B6, 5, none⟩ (.slice z2.af z2.c.F.length z2.cf)) = V28 at *
                refine hK.out _ _ ?_ (fun hHeld => ?_)
                · exact ⟨(HB1.out.keep J).c7, (HB2.out.keep J).c7⟩
                clear hK K
                (try simp only [Act.put]); (try simp only [List.setIfInBounds_toArray]); (try simp only [List.set_cons_succ]); (try simp only [List.set_cons_zero])
                refine wpAnyH_done (by kernel_rfl) ?_ _
                go_wp2_with fail
                go_meet
                case rel => exact ⟨B5, B6, z1, z2, rfl, rfl, HZ1.out, HZ2.out, hn5, hn6, hR1, hR2, J⟩
    · go_simp
      have hn5 := Blk.new V0 32 zG
      have hg5 : W2.heap.size ≤ V0.heap.size := J.size
      have KA := (Keeps.refl V0).alloc (.cells zG 32)
      replace J := J.trans KA
      clear KA
      generalize V0.alloc (.cells zG 32) = V29 at *
      generalize V0.heap.size = B5 at *
      refine hK.out _ _ ?_ (fun hHeld => ?_)
      · exact ⟨(HB1.out.keep J).c7, (HB2.out.keep J).c7⟩
      clear hK K
      (try simp only [Act.put]); (try simp only [List.setIfInBounds_toArray]); (try simp only [List.set_cons_succ]); (try simp only [List.set_cons_zero])
      refine wpAnyH_ready (rs := [1, 5]) (by kernel_rfl) (by simp) ?_
      refine AllReadyH.cons (o := ⟨_, _, _, _, _, _⟩) rfl (fun K hK => ?_) (AllReadyH.cons (o := ⟨_, _, _, _, _, _⟩) rfl (fun K hK => ?_) AllReadyH.nil)
      · go_simp
        refine (HM.out _ _ _ _ _ _ _ _ _ _ _ _ _ _ _ (by first | exact Or.inl rfl | exact Or.inr rfl) (HKW.out.trans J)).mono ?_
        rintro e V30 ⟨z1, rfl, hz1, hR1, hK9⟩
        have HZ1 := Lib.hid hz1
        clear hz1
        replace hn5 := hn5.keep hK9
        replace J := J.trans hK9
        clear hK9
        unfold vg
        dsimp only
        refine hK.out _ _ ?_ (fun hHeld => ?_)
        · exact ⟨(HB1.out.keep J).c7, (HB2.out.keep J).c7⟩
        clear hK K
        (try simp only [Act.put]); (try simp only [List.setIfInBounds_toArray]); (try simp only [List.set_cons_succ]); (try simp only [List.set_cons_zero])
        refine wpAnyH_ready (rs := [3, 5]) (by kernel_rfl) (by simp) ?_
        refine AllReadyH.cons (o := ⟨_, _, _, _, _, _⟩) rfl (fun K hK => ?_) (AllReadyH.cons (o := ⟨_, _, _, _, _, _⟩) rfl (fun K hK => ?_) AllReadyH.nil)
        · go_simp
          refine (HM.out _ _ _ _ _ _ _ _ _ _ _ _ _ _ _ (by first | exact Or.inl rfl | exact Or.inr rfl) (HKW.out.trans J)).mono ?_
          rintro e V31 ⟨z2, rfl, hz2, hR2, hK9⟩
          have HZ2 := Lib.hid hz2
          clear hz2
          replace hR1 := hR1.keep hK9
          replace hn5 := hn5.keep hK9
          replace J := J.trans hK9
          clear hK9
          unfold vg
          dsimp only
          refine hK.out _ _ ?_ (fun hHeld => ?_)
          · exact ⟨(HB1.out.keep J).c7, (HB2.out.keep J).c7⟩
          clear hK K
          (try simp only [Act.put]); (try simp only [List.setIfInBounds_toArray]); (try simp only [List.set_cons_succ]); (try simp only [List.set_cons_zero])
          refine wpAnyH_ready (rs := [5]) (by kernel_rfl) (by simp) ?_
          refine AllReadyH.cons (o := ⟨_, _, _, _, _, _⟩) rfl (fun K hK => ?_) AllReadyH.nil
          · go_simp
            have hn6 := Blk.new V31 32 zG
            have hg6 : W2.heap.size ≤ V31.heap.size := J.size
            have KA := (Keeps.refl V31).alloc (.cells zG 32)
            have hne : V31.heap.size ≠ B5 := by have := hn5.lt; omega
            replace hR1 := hR1.keep KA
            replace hR2 := hR2.keep KA
            replace hn5 := hn5.keep KA
            replace J := J.trans KA
            clear KA
            generalize V31.alloc (.cells zG 32) = V32 at *
            generalize V31.heap.size = B6 at *
            have HNE := Lib.hid (Ne.symm hne)
            clear hne
            refine hK.out _ _ ?_ (fun hHeld => ?_)
            · exact ⟨(HB1.out.keep J).c7, (HB2.out.keep J).c7⟩
            clear hK K
            (try simp only [Act.put]); (try simp only [List.setIfInBounds_toArray]); (try simp only [List.set_cons_succ]); (try simp only [List.set_cons_zero])
            refine wpAnyH_ready (rs := [6]) (by kernel_rfl) (by simp) ?_
            refine AllReadyH.cons (o := ⟨_, _, _, _, _, _⟩) rfl (fun K hK => ?_) AllReadyH.nil
            · obtain ⟨c0, c1, c2, c3, c4, c5⟩ := hn5.c6
              obtain ⟨g0, g1, g2, g3, g4, g5⟩ := hn5.f6
              go_simp
              clear c0 c1 c2 c3 c4 c5 g0 g1 g2 g3 g4 g5
              replace hn6 := hn6.other6 HNE.out.symm (.string z1.c.nm) (.int .i64 z1.c.kd) (.int .u16 (sv z1.c.M)) (.slice z1.ar z1.c.R.length z1.cr) (.slice z1.aw z1.c.Q.length z1.cw) (.slice z1.af z1.c.F.length z1.cf)
              replace hR1 := hR1.set6 hn5 (.string z1.c.nm) (.int .i64 z1.c.kd) (.int .u16 (sv z1.c.M)) (.slice z1.ar z1.c.R.length z1.cr) (.slice z1.aw z1.c.Q.length z1.cw) (.slice z1.af z1.c.F.length z1.cf)
              replace hR2 := hR2.set6 hn5 (.string z1.c.nm) (.int .i64 z1.c.kd) (.int .u16 (sv z1.c.M)) (.slice z1.ar z1.c.R.length z1.cr) (.slice z1.aw z1.c.Q.length z1.cw) (.slice z1.af z1.c.F.length z1.cf)
              replace hn5 := hn5.set6 (.string z1.c.nm) (.int .i64 z1.c.kd) (.int .u16 (sv z1.c.M)) (.slice z1.ar z1.c.R.length z1.cr) (.slice z1.aw z1.c.Q.length z1.cw) (.slice z1.af z1.c.F.length z1.cf)
              replace J := keeps_set6 J hg5 (.string z1.c.nm) (.int .i64 z1.c.kd) (.int .u16 (sv z1.c.M)) (.slice z1.ar z1.c.R.length z1.cr) (.slice z1.aw z1.c.Q.length z1.cw) (.slice z1.af z1.c.F.length z1.cf)
              generalize ((((((V32.setCell ⟨B5, 0, none⟩ (.string z1.c.nm)).setCell ⟨B5, 1, none⟩ (.int .i64 z1.c.kd)).setCell ⟨B5, 2, none⟩ (.int .u16 (sv z1.c.M))).setCell ⟨B5, 3, none⟩ (.slice z1.ar z1.c.R.length z1.cr)).setCell ⟨B5, 4, none⟩ (.slice z1.aw z1.c.Q.length z1.cw)).setCell ⟨B5, 5, none⟩ (.slice z1.af z1.c.F.length z1.cf)) = V33 at *
              refine hK.out _ _ ?_ (fun hHeld => ?_)
              · exact ⟨(HB1.out.keep J).c7, (HB2.out.keep J).c7⟩
              clear hK K
              (try simp only [Act.put]); (try simp only [List.setIfInBounds_toArray]); (try simp only [List.set_cons_succ]); (try simp only [List.set_cons_zero])
              refine wpAnyH_ready (rs := [7]) (by kernel_rfl) (by simp) ?_
              refine AllReadyH.cons (o := ⟨_, _, _, _, _, _⟩) rfl (fun K hK => ?_) AllReadyH.nil
              · obtain ⟨c0, c1, c2, c3, c4, c5⟩ := hn6.c6
                obtain ⟨g0, g1, g2, g3, g4, g5⟩ := hn6.f6
                go_simp
                clear c0 c1 c2 c3 c4 c5 g0 g1 g2 g3 g4 g5
                replace hn5 := hn5.other6 HNE.out (.string z2.c.nm) (.int .i64 z2.c.kd) (.int .u16 (sv z2.c.M)) (.slice z2.ar z2.c.R.length z2.cr) (.slice z2.aw z2.c.Q.length z2.cw) (.slice z2.af z2.c.F.length z2.cf)
                replace hR1 := hR1.set6 hn6 (.string z2.c.nm) (.int .i64 z2.c.kd) (.int .u16 (sv z2.c.M)) (.slice z2.ar z2.c.R.length z2.cr) (.slice z2.aw z2.c.Q.length z2.cw) (.slice z2.af z2.c.F.length z2.cf)
                replace hR2 := hR2.set6 hn6 (.string z2.c.nm) (.int .i64 z2.c.kd) (.int .u16 (sv z2.c.M)) (.slice z2.ar z2.c.R.length z2.cr) (.slice z2.aw z2.c.Q.length z2.cw) (.slice z2.af z2.c.F.length z2.cf)
                replace hn6 := hn6.set6 (.string z2.c.nm) (.int .i64 z2.c.kd) (.int .u16 (sv z2.c.M)) (.slice z2.ar z2.c.R.length z2.cr) (.slice z2.aw z2.c.Q.length z2.cw) (.slice z2.af z2.c.F.length z2.cf)
                replace J := keeps_set6 J hg6 (.string z2.c.nm) (.int .i64 z2.c.kd) (.int .u16 (sv z2.c.M)) (.slice z2.ar z2.c.R.length z2.cr) (.slice z2.aw z2.c.Q.length z2.cw) (.slice z2.af z2.c.F.length z2.cf)
                generalize ((((((V33.setCell ⟨B6, 0, none⟩ (.string z2.c.nm)).setCell ⟨B6, 1, none⟩ (.int .i64 z2.c.kd)).setCell ⟨B6, 2, none⟩ (.int .u16 (sv z2.c.M))).setCell ⟨B6, 3, none⟩ (.slice z2.ar z2.c.R.length z2.cr)).setCell ⟨B6, 4, none⟩ (.slice z2.aw z2.c.Q.length z2.cw)).setCell ⟨B6, 5, none⟩ (.slice z2.af z2.c.F.length z2.cf)) = V34 at *
                refine hK.out _ _ ?_ (fun hHeld => ?_)
                · exact ⟨(HB1.out.keep J).c7, (HB2.out.keep J).c7⟩
                clear hK K
                (try simp only [Act.put]); (try simp only [List.setIfInBounds_toArray]); (try simp only [List.set_cons_succ]); (try simp only [List.set_cons_zero])
                refine wpAnyH_done (by kernel_rfl) ?_ _
                go_wp2_with fail
                go_meet
                case rel => exact ⟨B5, B6, z1, z2, rfl, rfl, HZ1.out, HZ2.out, hn5, hn6, hR1, hR2, J⟩
        · go_simp
          have hn6 := Blk.new V30 32 zG
          have hg6 : W2.heap.size ≤ V30.heap.size := J.size
          have KA := (Keeps.refl V30).alloc (.cells zG 32)
          have hne : V30.heap.size ≠ B5 := by have := hn5.lt; omega
          replace hR1 := hR1.keep KA
          replace hn5 := hn5.keep KA
          replace J := J.trans KA
          clear KA
          generalize V30.alloc (.cells zG 32) = V35 at *
          generalize V30.heap.size = B6 at *
          have HNE := Lib.hid (Ne.symm hne)
          clear hne
          refine hK.out _ _ ?_ (fun hHeld => ?_)
          · exact ⟨(HB1.out.keep J).c7, (HB2.out.keep J).c7⟩
          clear hK K
          (try simp only [Act.put]); (try simp only [List.setIfInBounds_toArray]); (try simp only [List.set_cons_succ]); (try simp only [List.set_cons_zero])
          refine wpAnyH_ready (rs := [3]) (by kernel_rfl) (by simp) ?_
          refine AllReadyH.cons (o := ⟨_, _, _, _, _, _⟩) rfl (fun K hK => ?_) AllReadyH.nil
          · go_simp
            refine (HM.out _ _ _ _ _ _ _ _ _ _ _ _ _ _ _ (by first | exact Or.inl rfl | exact Or.inr rfl) (HKW.out.trans J)).mono ?_
            rintro e V36 ⟨z2, rfl, hz2, hR2, hK9⟩
            have HZ2 := Lib.hid hz2
            clear hz2
            replace hR1 := hR1.keep hK9
            replace hn5 := hn5.keep hK9
            replace hn6 := hn6.keep hK9
            replace J := J.trans hK9
            clear hK9
            unfold vg
            dsimp only
            refine hK.out _ _ ?_ (fun hHeld => ?_)
            · exact ⟨(HB1.out.keep J).c7, (HB2.out.keep J).c7⟩
            clear hK K
            (try simp only [Act.put]); (try simp only [List.setIfInBounds_toArray]); (try simp only [List.set_cons_succ]); (try simp only [List.set_cons_zero])
            refine wpAnyH_ready (rs := [6]) (by kernel_rfl) (by simp) ?_
            refine AllReadyH.cons (o := ⟨_, _, _, _, _, _⟩) rfl (fun K hK => ?_) AllReadyH.nil
            · obtain ⟨c0, c1, c2, c3, c4, c5⟩ := hn5.c6
              obtain ⟨g0, g1, g2, g3, g4, g5⟩ := hn5.f6
              go_simp
              clear c0 c1 c2 c3 c4 c5 g0 g1 g2 g3 g4 g5
              replace hn6 := hn6.other6 HNE.out.symm (.string z1.c.nm) (.int .i64 z1.c.kd) (.int .u16 (sv z1.c.M)) (.slice z1.ar z1.c.R.length z1.cr) (.slice z1.aw z1.c.Q.length z1.cw) (.slice z1.af z1.c.F.length z1.cf)
              replace hR1 := hR1.set6 hn5 (.string z1.c.nm) (.int .i64 z1.c.kd) (.int .u16 (sv z1.c.M)) (.slice z1.ar z1.c.R.length z1.cr) (.slice z1.aw z1.c.Q.length z1.cw) (.slice z1.af z1.c.F.length z1.cf)
              replace hR2 := hR2.set6 hn5 (.string z1.c.nm) (.int .i64 z1.c.kd) (.int .u16 (sv z1.c.M)) (.slice z1.ar z1.c.R.length z1.cr) (.slice z1.aw z1.c.Q.length z1.cw) (.slice z1.af z1.c.F.length z1.cf)
              replace hn5 := hn5.set6 (.string z1.c.nm) (.int .i64 z1.c.kd) (.int .u16 (sv z1.c.M)) (.slice z1.ar z1.c.R.length z1.cr) (.slice z1.aw z1.c.Q.length z1.cw) (.slice z1.af z1.c.F.length z1.cf)
              replace J := keeps_set6 J hg5 (.string z1.c.nm) (.int .i64 z1.c.kd) (.int .u16 (sv z1.c.M)) (.slice z1.ar z1.c.R.length z1.cr) (.slice z1.aw z1.c.Q.length z1.cw) (.slice z1.af z1.c.F.length z1.cf)
              generalize ((((((V36.setCell ⟨B5, 0, none⟩ (.string z1.c.nm)).setCell ⟨B5, 1, none⟩ (.int .i64 z1.c.kd)).setCell ⟨B5, 2, none⟩ (.int .u16 (sv z1.c.M))).setCell ⟨B5, 3, none⟩ (.slice z1.ar z1.c.R.length z1.cr)).setCell ⟨B5, 4, none⟩ (.slice z1.aw z1.c.Q.length z1.cw)).setCell ⟨B5, 5, none⟩ (.slice z1.af z1.c.F.length z1.cf)) = V37 at *
              refine hK.out _ _ ?_ (fun hHeld => ?_)
              · exact ⟨(HB1.out.keep J).c7, (HB2.out.keep J).c7⟩
              clear hK K
              (try simp only [Act.put]); (try simp only [List.setIfInBounds_toArray]); (try simp only [List.set_cons_succ]); (try simp only [List.set_cons_zero])
              refine wpAnyH_ready (rs := [7]) (by kernel_rfl) (by simp) ?_
              refine AllReadyH.cons (o := ⟨_, _, _, _, _, _⟩) rfl (fun K hK => ?_) AllReadyH.nil
              · obtain ⟨c0, c1, c2, c3, c4, c5⟩ := hn6.c6
                obtain ⟨g0, g1, g2, g3, g4, g5⟩ := hn6.f6
                go_simp
                clear c0 c1 c2 c3 c4 c5 g0 g1 g2 g3 g4 g5
                replace hn5 := hn5.other6 HNE.out (.string z2.c.nm) (.int .i64 z2.c.kd) (.int .u16 (sv z2.c.M)) (.slice z2.ar z2.c.R.length z2.cr) (.slice z2.aw z2.c.Q.length z2.cw) (.slice z2.af z2.c.F.length z2.cf)
                replace hR1 := hR1.set6 hn6 (.string z2.c.nm) (.int .i64 z2.c.kd) (.int .u16 (sv z2.c.M)) (.slice z2.ar z2.c.R.length z2.cr) (.slice z2.aw z2.c.Q.length z2.cw) (.slice z2.af z2.c.F.length z2.cf)
                replace hR2 := hR2.set6 hn6 (.string z2.c.nm) (.int .i64 z2.c.kd) (.int .u16 (sv z2.c.M)) (.slice z2.ar z2.c.R.length z2.cr) (.slice z2.aw z2.c.Q.length z2.cw) (.slice z2.af z2.c.F.length z2.cf)
                replace hn6 := hn6.set6 (.string z2.c.nm) (.int .i64 z2.c.kd) (.int .u16 (sv z2.c.M)) (.slice z2.ar z2.c.R.length z2.cr) (.slice z2.aw z2.c.Q.length z2.cw) (.slice z2.af z2.c.F.length z2.cf)
                replace J := keeps_set6 J hg6 (.string z2.c.nm) (.int .i64 z2.c.kd) (.int .u16 (sv z2.c.M)) (.slice z2.ar z2.c.R.length z2.cr) (.slice z2.aw z2.c.Q.length z2.cw) (.slice z2.af z2.c.F.length z2.cf)
                generalize ((((((V37.setCell ⟨B6, 0, none⟩ (.string z2.c.nm)).setCell ⟨B6, 1, none⟩ (.int .i64 z2.c.kd)).setCell ⟨B6, 2, none⟩ (.int .u16 (sv z2.c.M))).setCell ⟨B6, 3, none⟩ (.slice z2.ar z2.c.R.length z2.cr)).setCell ⟨B6, 4, none⟩ (.slice z2.aw z2.c.Q.length z2.cw)).setCell ⟨B6, 5, none⟩ (.slice z2.af z2.c.F.length z2.cf)) = V38 at *
                refine hK.out _ _ ?_ (fun hHeld => ?_)
                · exact ⟨(HB1.out.keep J).c7, (HB2.out.keep J).c7⟩
                clear hK K
                (try simp only [Act.put]); (try simp only [List.setIfInBounds_toArray]); (try simp only [List.set_cons_succ]); (try simp only [List.set_cons_zero])
                refine wpAnyH_done (by kernel_rfl) ?_ _
                go_wp2_with fail
                go_meet
                case rel => exact ⟨B5, B6, z1, z2, rfl, rfl, HZ1.out, HZ2.out, hn5, hn6, hR1, hR2, J⟩
      · go_simp
        have hn6 := Blk.new V29 32 zG
        have hg6 : W2.heap.size ≤ V29.heap.size := J.size
        have KA := (Keeps.refl V29).alloc (.cells zG 32)
        have hne : V29.heap.size ≠ B5 := by have := hn5.lt; omega
        replace hn5 := hn5.keep KA
        replace J := J.trans KA
        clear KA
        generalize V29.alloc (.cells zG 32) = V39 at *
        generalize V29.heap.size = B6 at *
        have HNE := Lib.hid (Ne.symm hne)
        clear hne
        refine hK.out _ _ ?_ (fun hHeld => ?_)
        · exact ⟨(HB1.out.keep J).c7, (HB2.out.keep J).c7⟩
        clear hK K
        (try simp only [Act.put]); (try simp only [List.setIfInBounds_toArray]); (try simp only [List.set_cons_succ]); (try simp only [List.set_cons_zero])
        refine wpAnyH_ready (rs := [1]) (by kernel_rfl) (by simp) ?_
        refine AllReadyH.cons (o := ⟨_, _, _, _, _, _⟩) rfl (fun K hK => ?_) AllReadyH.nil
        · go_simp
          refine (HM.out _ _ _ _ _ _ _ _ _ _ _ _ _ _ _ (by first | exact Or.inl rfl | exact Or.inr rfl) (HKW.out.trans J)).mono ?_
          rintro e V40 ⟨z1, rfl, hz1, hR1, hK9⟩
          have HZ1 := Lib.hid hz1
          clear hz1
          replace hn5 := hn5.keep hK9
          replace hn6 := hn6.keep hK9
          replace J := J.trans hK9
          clear hK9
          unfold vg
          dsimp only
          refine hK.out _ _ ?_ (fun hHeld => ?_)
          · exact ⟨(HB1.out.keep J).c7, (HB2.out.keep J).c7⟩
          clear hK K
          (try simp only [Act.put]); (try simp only [List.setIfInBounds_toArray]); (try simp only [List.set_cons_succ]); (try simp only [List.set_cons_zero])
          refine wpAnyH_ready (rs := [3]) (by kernel_rfl) (by simp) ?_
          refine AllReadyH.cons (o := ⟨_, _, _, _, _, _⟩) rfl (fun K hK => ?_) AllReadyH.nil
          · go_simp
            refine (HM.out _ _ _ _ _ _ _ _ _ _ _ _ _ _ _ (by first | exact Or.inl rfl | exact Or.inr rfl) (HKW.out.trans J)).mono ?_
            rintro e V41 ⟨z2, rfl, hz2, hR2, hK9⟩
            have HZ2 := Lib.hid hz2
            clear hz2
            replace hR1 := hR1.keep hK9
            replace hn5 := hn5.keep hK9
            replace hn6 := hn6.keep hK9
            replace J := J.trans hK9
            clear hK9
            unfold vg
            dsimp only
            refine hK.out _ _ ?_ (fun hHeld => ?_)
            · exact ⟨(HB1.out.keep J).c7, (HB2.out.keep J).c7⟩
            clear hK K
            (try simp only [Act.put]); (try simp only [List.setIfInBounds_toArray]); (try simp only [List.set_cons_succ]); (try simp only [List.set_cons_zero])
            refine wpAnyH_ready (rs := [6]) (by kernel_rfl) (by simp) ?_
            refine AllReadyH.cons (o := ⟨_, _, _, _, _, _⟩) rfl (fun K hK => ?_) AllReadyH.nil
            · obtain ⟨c0, c1, c2, c3, c4, c5⟩ := hn5.c6
              obtain ⟨g0, g1, g2, g3, g4, g5⟩ := hn5.f6
              go_simp
              clear c0 c1 c2 c3 c4 c5 g0 g1 g2 g3 g4 g5
              replace hn6 := hn6.other6 HNE.out.symm (.string z1.c.nm) (.int .i64 z1.c.kd) (.int .u16 (sv z1.c.M)) (.slice z1.ar z1.c.R.length z1.cr) (.slice z1.aw z1.c.Q.length z1.cw) (.slice z1.af z1.c.F.length z1.cf)
              replace hR1 := hR1.set6 hn5 (.string z1.c.nm) (.int .i64 z1.c.kd) (.int .u16 (sv z1.c.M)) (.slice z1.ar z1.c.R.length z1.cr) (.slice z1.aw z1.c.Q.length z1.cw) (.slice z1.af z1.c.F.length z1.cf)
              replace hR2 := hR2.set6 hn5 (.string z1.c.nm) (.int .i64 z1.c.kd) (.int .u16 (sv z1.c.M)) (.slice z1.ar z1.c.R.length z1.cr) (.slice z1.aw z1.c.Q.length z1.cw) (.slice z1.af z1.c.F.length z1.cf)
              replace hn5 := hn5.set6 (.string z1.c.nm) (.int .i64 z1.c.kd) (.int .u16 (sv z1.c.M)) (.slice z1.ar z1.c.R.length z1.cr) (.slice z1.aw z1.c.Q.length z1.cw) (.slice z1.af z1.c.F.length z1.cf)
              replace J := keeps_set6 J hg5 (.string z1.c.nm) (.int .i64 z1.c.kd) (.int .u16 (sv z1.c.M)) (.slice z1.ar z1.c.R.length z1.cr) (.slice z1.aw z1.c.Q.length z1.cw) (.slice z1.af z1.c.F.length z1.cf)
              generalize ((((((V41.setCell ⟨B5, 0, none⟩ (.string z1.c.nm)).setCell ⟨B5, 1, none⟩ (.int .i64 z1.c.kd)).setCell ⟨B5, 2, none⟩ (.int .u16 (sv z1.c.M))).setCell ⟨B5, 3, none⟩ (.slice z1.ar z1.c.R.length z1.cr)).setCell ⟨B5, 4, none⟩ (.slice z1.aw z1.c.Q.length z1.cw)).setCell ⟨B5, 5, none⟩ (.slice z1.af z1.c.F.length z1.cf)) = V42 at *
              refine hK.out _ _ ?_ (fun hHeld => ?_)
              · exact ⟨(HB1.out.keep J).c7, (HB2.out.keep J).c7⟩
              clear hK K
              (try simp only [Act.put]); (try simp only [List.setIfInBounds_toArray]); (try simp only [List.set_cons_succ]); (try simp only [List.set_cons_zero])
              refine wpAnyH_ready (rs := [7]) (by kernel_rfl) (by simp) ?_
              refine AllReadyH.cons (o := ⟨_, _, _, _, _, _⟩) rfl (fun K hK => ?_) AllReadyH.nil
              · obtain ⟨c0, c1, c2, c3, c4, c5⟩ := hn6.c6
                obtain ⟨g0, g1, g2, g3, g4, g5⟩ := hn6.f6
                go_simp
                clear c0 c1 c2 c3 c4 c5 g0 g1 g2 g3 g4 g5
                replace hn5 := hn5.other6 HNE.out (.string z2.c.nm) (.int .i64 z2.c.kd) (.int .u16 (sv z2.c.M)) (.slice z2.ar z2.c.R.length z2.cr) (.slice z2.aw z2.c.Q.length z2.cw) (.slice z2.af z2.c.F.length z2.cf)
                replace hR1 := hR1.set6 hn6 (.string z2.c.nm) (.int .i64 z2.c.kd) (.int .u16 (sv z2.c.M)) (.slice z2.ar z2.c.R.length z2.cr) (.slice z2.aw z2.c.Q.length z2.cw) (.slice z2.af z2.c.F.length z2.cf)
                replace hR2 := hR2.set6 hn6 (.string z2.c.nm) (.int .i64 z2.c.kd) (.int .u16 (sv z2.c.M)) (.slice z2.ar z2.c.R.length z2.cr) (.slice z2.aw z2.c.Q.length z2.cw) (.slice z2.af z2.c.F.length z2.cf)
                replace hn6 := hn6.set6 (.string z2.c.nm) (.int .i64 z2.c.kd) (.int .u16 (sv z2.c.M)) (.slice z2.ar z2.c.R.length z2.cr) (.slice z2.aw z2.c.Q.length z2.cw) (.slice z2.af z2.c.F.length z2.cf)
                replace J := keeps_set6 J hg6 (.string z2.c.nm) (.int .i64 z2.c.kd) (.int .u16 (sv z2.c.M)) (.slice z2.ar z2.c.R.length z2.cr) (.slice z2.aw z2.c.Q.length z2.cw) (.slice z2.af z2.c.F.length z2.cf)
                generalize ((((((V42.setCell ⟨B6, 0, none⟩ (.string z2.c.nm)).setCell ⟨B6, 1, none⟩ (.int .i64 z2.c.kd)).setCell ⟨B6, 2, none⟩ (.int .u16 (sv z2.c.M))).setCell ⟨B6, 3, none⟩ (.slice z2.ar z2.c.R.length z2.cr)).setCell ⟨B6, 4, none⟩ (.slice z2.aw z2.c.Q.length z2.cw)).setCell ⟨B6, 5, none⟩ (.slice z2.af z2.c.F.length z2.cf)) = V43 at *
                refine hK.out _ _ ?_ (fun hHeld => ?_)
                · exact ⟨(HB1.out.keep J).c7, (HB2.out.keep J).c7⟩
                clear hK K
                (try simp only [Act.put]); (try simp only [List.setIfInBounds_toArray]); (try simp only [List.set_cons_succ]); (try simp only [List.set_cons_zero])
                refine wpAnyH_done (by kernel_rfl) ?_ _
                go_wp2_with fail
                go_meet
                case rel => exact ⟨B5, B6, z1, z2, rfl, rfl, HZ1.out, HZ2.out, hn5, hn6, hR1, hR2, J⟩
    · go_simp
      have hn6 := Blk.new V0 32 zG
      have hg6 : W2.heap.size ≤ V0.heap.size := J.size
      have KA := (Keeps.refl V0).alloc (.cells zG 32)
      replace J := J.trans KA
      clear KA
      generalize V0.alloc (.cells zG 32) = V44 at *
      generalize V0.heap.size = B6 at *
      refine hK.out _ _ ?_ (fun hHeld => ?_)
      · exact ⟨(HB1.out.keep J).c7, (HB2.out.keep J).c7⟩
      clear hK K
      (try simp only [Act.put]); (try simp only [List.setIfInBounds_toArray]); (try simp only [List.set_cons_succ]); (try simp only [List.set_cons_zero])
      refine wpAnyH_ready (rs := [1, 4]) (by kernel_rfl) (by simp) ?_
      refine AllReadyH.cons (o := ⟨_, _, _, _, _, _⟩) rfl (fun K hK => ?_) (AllReadyH.cons (o := ⟨_, _, _, _, _, _⟩) rfl (fun K hK => ?_) AllReadyH.nil)
      · go_simp
        refine (HM.out _ _ _ _ _ _ _ _ _ _ _ _ _ _ _ (by first | exact Or.inl rfl | exact Or.inr rfl) (HKW.out.trans J)).mono ?_
        rintro e V45 ⟨z1, rfl, hz1, hR1, hK9⟩
        have HZ1 := Lib.hid hz1
        clear hz1
        replace hn6 := hn6.keep hK9
        replace J := J.trans hK9
        clear hK9
        unfold vg
        dsimp only
        refine hK.out _ _ ?_ (fun hHeld => ?_)
        · exact ⟨(HB1.out.keep J).c7, (HB2.out.keep J).c7⟩
        clear hK K
        (try simp only [Act.put]); (try simp only [List.setIfInBounds_toArray]); (try simp only [List.set_cons_succ]); (try simp only [List.set_cons_zero])
        refine wpAnyH_ready (rs := [3, 4]) (by kernel_rfl) (by simp) ?_
        refine AllReadyH.cons (o := ⟨_, _, _, _, _, _⟩) rfl (fun K hK => ?_) (AllReadyH.cons (o := ⟨_, _, _, _, _, _⟩) rfl (fun K hK => ?_) AllReadyH.nil)
        · go_simp
          refine (HM.out _ _ _ _ _ _ _ _ _ _ _ _ _ _ _ (by first | exact Or.inl rfl | exact Or.inr rfl) (HKW.out.trans J)).mono ?_
          rintro e V46 ⟨z2, rfl, hz2, hR2, hK9⟩
          have HZ2 := Lib.hid hz2
          clear hz2
          replace hR1 := hR1.keep hK9
          replace hn6 := hn6.keep hK9
          replace J := J.trans hK9
          clear hK9
          unfold vg
          dsimp only
          refine hK.out _ _ ?_ (fun hHeld => ?_)
          · exact ⟨(HB1.out.keep J).c7, (HB2.out.keep J).c7⟩
          clear hK K
          (try simp only [Act.put]); (try simp only [List.setIfInBounds_toArray]); (try simp only [List.set_cons_succ]); (try simp only [List.set_cons_zero])
          refine wpAnyH_ready (rs := [4]) (by kernel_rfl) (by simp) ?_
          refine AllReadyH.cons (o := ⟨_, _, _, _, _, _⟩) rfl (fun K hK => ?_) AllReadyH.nil
          · go_simp
            have hn5 := Blk.new V46 32 zG
            have hg5 : W2.heap.size ≤ V46.heap.size := J.size
            have KA := (Keeps.refl V46).alloc (.cells zG 32)
            have hne : V46.heap.size ≠ B6 := by have := hn6.lt; omega
            replace hR1 := hR1.keep KA
            replace hR2 := hR2.keep KA
            replace hn6 := hn6.keep KA
            replace J := J.trans KA
            clear KA
            generalize V46.alloc (.cells zG 32) = V47 at *
            generalize V46.heap.size = B5 at *
            have HNE := Lib.hid hne
            clear hne
            refine hK.out _ _ ?_ (fun hHeld => ?_)
            · exact ⟨(HB1.out.keep J).c7, (HB2.out.keep J).c7⟩
            clear hK K
            (try simp only [Act.put]); (try simp only [List.setIfInBounds_toArray]); (try simp only [List.set_cons_succ]); (try simp only [List.set_cons_zero])
            refine wpAnyH_ready (rs := [6]) (by kernel_rfl) (by simp) ?_
            refine AllReadyH.cons (o := ⟨_, _, _, _, _, _⟩) rfl (fun K hK => ?_) AllReadyH.nil
            · obtain ⟨c0, c1, c2, c3, c4, c5⟩ := hn5.c6
              obtain ⟨g0, g1, g2, g3, g4, g5⟩ := hn5.f6
              go_simp
              clear c0 c1 c2 c3 c4 c5 g0 g1 g2 g3 g4 g5
              replace hn6 := hn6.other6 HNE.out.symm (.string z1.c.nm) (.int .i64 z1.c.kd) (.int .u16 (sv z1.c.M)) (.slice z1.ar z1.c.R.length z1.cr) (.slice z1.aw z1.c.Q.length z1.cw) (.slice z1.af z1.c.F.length z1.cf)
              replace hR1 := hR1.set6 hn5 (.string z1.c.nm) (.int .i64 z1.c.kd) (.int .u16 (sv z1.c.M)) (.slice z1.ar z1.c.R.length z1.cr) (.slice z1.aw z1.c.Q.length z1.cw) (.slice z1.af z1.c.F.length z1.cf)
              replace hR2 := hR2.set6 hn5 (.string z1.c.nm) (.int .i64 z1.c.kd) (.int .u16 (sv z1.c.M)) (.slice z1.ar z1.c.R.length z1.cr) (.slice z1.aw z1.c.Q.length z1.cw) (.slice z1.af z1.c.F.length z1.cf)
              replace hn5 := hn5.set6 (.string z1.c.nm) (.int .i64 z1.c.kd) (.int .u16 (sv z1.c.M)) (.slice z1.ar z1.c.R.length z1.cr) (.slice z1.aw z1.c.Q.length z1.cw) (.slice z1.af z1.c.F.length z1.cf)
              replace J := keeps_set6 J hg5 (.string z1.c.nm) (.int .i64 z1.c.kd) (.int .u16 (sv z1.c.M)) (.slice z1.ar z1.c.R.length z1.cr) (.slice z1.aw z1.c.Q.length z1.cw) (.slice z1.af z1.c.F.length z1.cf)
              generalize ((((((V47.setCell ⟨B5, 0, none⟩ (.string z1.c.nm)).setCell ⟨B5, 1, none⟩ (.int .i64 z1.c.kd)).setCell ⟨B5, 2, none⟩ (.int .u16 (sv z1.c.M))).setCell ⟨B5, 3, none⟩ (.slice z1.ar z1.c.R.length z1.cr)).setCell ⟨B5, 4, none⟩ (.slice z1.aw z1.c.Q.length z1.cw)).setCell ⟨B5, 5, none⟩ (.slice z1.af z1.c.F.length z1.cf)) = V48 at *
              refine hK.out _ _ ?_ (fun hHeld => ?_)
              · exact ⟨(HB1.out.keep J).c7, (HB2.out.keep J).c7⟩
              clear hK K
              (try simp only [Act.put]); (try simp only [List.setIfInBounds_toArray]); (try simp only [List.set_cons_succ]); (try simp only [List.set_cons_zero])
              refine wpAnyH_ready (rs := [7]) (by kernel_rfl) (by simp) ?_
              refine AllReadyH.cons (o := ⟨_, _, _, _, _, _⟩) rfl (fun K hK => ?_) AllReadyH.nil
              · obtain ⟨c0, c1, c2, c3, c4, c5⟩ := hn6.c6
                obtain ⟨g0, g1, g2, g3, g4, g5⟩ := hn6.f6
                go_simp
                clear c0 c1 c2 c3 c4 c5 g0 g1 g2 g3 g4 g5
                replace hn5 := hn5.other6 HNE.out (.string z2.c.nm) (.int .i64 z2.c.kd) (.int .u16 (sv z2.c.M)) (.slice z2.ar z2.c.R.length z2.cr) (.slice z2.aw z2.c.Q.length z2.cw) (.slice z2.af z2.c.F.length z2.cf)
                replace hR1 := hR1.set6 hn6 (.string z2.c.nm) (.int .i64 z2.c.kd) (.int .u16 (sv z2.c.M)) (.slice z2.ar z2.c.R.length z2.cr) (.slice z2.aw z2.c.Q.length z2.cw) (.slice z2.af z2.c.F.length z2.cf)
                replace hR2 := hR2.set6 hn6 (.string z2.c.nm) (.int .i64 z2.c.kd) (.int .u16 (sv z2.c.M)) (.slice z2.ar z2.c.R.length z2.cr) (.slice z2.aw z2.c.Q.length z2.cw) (.slice z2.af z2.c.F.length z2.cf)
                replace hn6 := hn6.set6 (.string z2.c.nm) (.int .i64 z2.c.kd) (.int .u16 (sv z2.c.M)) (.slice z2.ar z2.c.R.length z2.cr) (.slice z2.aw z2.c.Q.length z2.cw) (.slice z2.af z2.c.F.length z2.cf)
                replace J := keeps_set6 J hg6 (.string z2.c.nm) (.int .i64 z2.c.kd) (.int .u16 (sv z2.c.M)) (.slice z2.ar z2.c.R.length z2.cr) (.slice z2.aw z2.c.Q.length z2.cw) (.slice z2.af z2.c.F.length z2.cf)
                generalize ((((((V48.setCell ⟨B6, 0, none⟩ (.string z2.c.nm)).setCell ⟨B6, 1, none⟩ (.int .i64 z2.c.kd)).setCell ⟨B6, 2, none⟩ (.int .u16 (sv z2.c.M))).setCell ⟨B6, 3, none⟩ (.slice z2.ar z2.c.R.length z2.cr)).setCell ⟨B6, 4, none⟩ (.slice z2.aw z2.c.Q.length z2.cw)).setCell ⟨B6, 5, none⟩ (.slice z2.af z2.c.F.length z2.cf)) = V49 at *
                refine hK.out _ _ ?_ (fun hHeld => ?_)
                · exact ⟨(HB1.out.keep J).c7, (HB2.out.keep J).c7⟩
                clear hK K
                (try simp only [Act.put]); (try simp only [List.setIfInBounds_toArray]); (try simp only [List.set_cons_succ]); (try simp only [List.set_cons_zero])
                refine wpAnyH_done (by kernel_rfl) ?_ _
                go_wp2_with fail
                go_meet
                case rel => exact ⟨B5, B6, z1, z2, rfl, rfl, HZ1.out, HZ2.out, hn5, hn6, hR1, hR2, J⟩
        · go_simp
          have hn5 := Blk.new V45 32 zG
          have hg5 : W2.heap.size ≤ V45.heap.size := J.size
          have KA := (Keeps.refl V45).alloc (.cells zG 32)
          have hne : V45.heap.size ≠ B6 := by have := hn6.lt; omega
          replace hR1 := hR1.keep KA
          replace hn6 := hn6.keep KA
          replace J := J.trans KA
          clear KA
          generalize V45.alloc (.cells zG 32) = V50 at *
          generalize V45.heap.size = B5 at *
          have HNE := Lib.hid hne
          clear hne
          refine hK.out _ _ ?_ (fun hHeld => ?_)
          · exact ⟨(HB1.out.keep J).c7, (HB2.out.keep J).c7⟩
          clear hK K
          (try simp only [Act.put]); (try simp only [List.setIfInBounds_toArray]); (try simp only [List.set_cons_succ]); (try simp only [List.set_cons_zero])
          refine wpAnyH_ready (rs := [3]) (by kernel_rfl) (by simp) ?_
          refine AllReadyH.cons (o := ⟨_, _, _, _, _, _⟩) rfl (fun K hK => ?_) AllReadyH.nil
          · go_simp
            refine (HM.out _ _ _ _ _ _ _ _ _ _ _ _ _ _ _ (by first | exact Or.inl rfl | exact Or.inr rfl) (HKW.out.trans J)).mono ?_
            rintro e V51 ⟨z2, rfl, hz2, hR2, hK9⟩
            have HZ2 := Lib.hid hz2
            clear hz2
            replace hR1 := hR1.keep hK9
            replace hn5 := hn5.keep hK9
            replace hn6 := hn6.keep hK9
            replace J := J.trans hK9
            clear hK9
            unfold vg
            dsimp only
            refine hK.out _ _ ?_ (fun hHeld => ?_)
            · exact ⟨(HB1.out.keep J).c7, (HB2.out.keep J).c7⟩
            clear hK K
            (try simp only [Act.put]); (try simp only [List.setIfInBounds_toArray]); (try simp only [List.set_cons_succ]); (try simp only [List.set_cons_zero])
            refine wpAnyH_ready (rs := [6]) (by kernel_rfl) (by simp) ?_
            refine AllReadyH.cons (o := ⟨_, _, _, _, _, _⟩) rfl (fun K hK => ?_) AllReadyH.nil
            · obtain ⟨c0, c1, c2, c3, c4, c5⟩ := hn5.c6
              obtain ⟨g0, g1, g2, g3, g4, g5⟩ := hn5.f6
              go_simp
              clear c0 c1 c2 c3 c4 c5 g0 g1 g2 g3 g4 g5
              replace hn6 := hn6.other6 HNE.out.symm (.string z1.c.nm) (.int .i64 z1.c.kd) (.int .u16 (sv z1.c.M)) (.slice z1.ar z1.c.R.length z1.cr) (.slice z1.aw z1.c.Q.length z1.cw) (.slice z1.af z1.c.F.length z1.cf)
              replace hR1 := hR1.set6 hn5 (.string z1.c.nm) (.int .i64 z1.c.kd) (.int .u16 (sv z1.c.M)) (.slice z1.ar z1.c.R.length z1.cr) (.slice z1.aw z1.c.Q.length z1.cw) (.slice z1.af z1.c.F.length z1.cf)
              replace hR2 := hR2.set6 hn5 (.string z1.c.nm) (.int .i64 z1.c.kd) (.int .u16 (sv z1.c.M)) (.slice z1.ar z1.c.R.length z1.cr) (.slice z1.aw z1.c.Q.length z1.cw) (.slice z1.af z1.c.F.length z1.cf)
              replace hn5 := hn5.set6 (.string z1.c.nm) (.int .i64 z1.c.kd) (.int .u16 (sv z1.c.M)) (.slice z1.ar z1.c.R.length z1.cr) (.slice z1.aw z1.c.Q.length z1.cw) (.slice z1.af z1.c.F.length z1.cf)
              replace J := keeps_set6 J hg5 (.string z1.c.nm) (.int .i64 z1.c.kd) (.int .u16 (sv z1.c.M)) (.slice z1.ar z1.c.R.length z1.cr) (.slice z1.aw z1.c.Q.length z1.cw) (.slice z1.af z1.c.F.length z1.cf)
              generalize ((((((V51.setCell ⟨B5, 0, none⟩ (.string z1.c.nm)).setCell ⟨B5, 1, none⟩ (.int .i64 z1.c.kd)).setCell ⟨B5, 2, none⟩ (.int .u16 (sv z1.c.M))).setCell ⟨B5, 3, none⟩ (.slice z1.ar z1.c.R.length z1.cr)).setCell ⟨B5, 4, none⟩ (.slice z1.aw z1.c.Q.length z1.cw)).setCell ⟨B5, 5, none⟩ (.slice z1.af z1.c.F.length z1.cf)) = V52 at *
              refine hK.out _ _ ?_ (fun hHeld => ?_)
              · exact ⟨(HB1.out.keep J).c7, (HB2.out.keep J).c7⟩
              clear hK K
              (try simp only [Act.put]); (try simp only [List.setIfInBounds_toArray]); (try simp only [List.set_cons_succ]); (try simp only [List.set_cons_zero])
              refine wpAnyH_ready (rs := [7]) (by kernel_rfl) (by simp) ?_
              refine AllReadyH.cons (o := ⟨_, _, _, _, _, _⟩) rfl (fun K hK => ?_) AllReadyH.nil
              · obtain ⟨c0, c1, c2, c3, c4, c5⟩ := hn6.c6
                obtain ⟨g0, g1, g2, g3, g4, g5⟩ := hn6.f6
                go_simp
                clear c0 c1 c2 c3 c4 c5 g0 g1 g2 g3 g4 g5
                replace hn5 := hn5.other6 HNE.out (.string z2.c.nm) (.int .i64 z2.c.kd) (.int .u16 (sv z2.c.M)) (.slice z2.ar z2.c.R.length z2.cr) (.slice z2.aw z2.c.Q.length z2.cw) (.slice z2.af z2.c.F.length z2.cf)
                replace hR1 := hR1.set6 hn6 (.string z2.c.nm) (.int .i64 z2.c.kd) (.int .u16 (sv z2.c.M)) (.slice z2.ar z2.c.R.length z2.cr) (.slice z2.aw z2.c.Q.length z2.cw) (.slice z2.af z2.c.F.length z2.cf)
                replace hR2 := hR2.set6 hn6 (.string z2.c.nm) (.int .i64 z2.c.kd) (.int .u16 (sv z2.c.M)) (.slice z2.ar z2.c.R.length z2.cr) (.slice z2.aw z2.c.Q.length z2.cw) (.slice z2.af z2.c.F.length z2.cf)
                replace hn6 := hn6.set6 (.string z2.c.nm) (.int .i64 z2.c.kd) (.int .u16 (sv z2.c.M)) (.slice z2.ar z2.c.R.length z2.cr) (.slice z2.aw z2.c.Q.length z2.cw) (.slice z2.af z2.c.F.length z2.cf)
                replace J := keeps_set6 J hg6 (.string z2.c.nm) (.int .i64 z2.c.kd) (.int .u16 (sv z2.c.M)) (.slice z2.ar z2.c.R.length z2.cr) (.slice z2.aw z2.c.Q.length z2.cw) (.slice z2.af z2.c.F.length z2.cf)
                generalize ((((((V52.setCell ⟨B6, 0, none⟩ (.string z2.c.nm)).setCell ⟨B6, 1, none⟩ (.int .i64 z2.c.kd)).setCell ⟨B6, 2, none⟩ (.int .u16 (sv z2.c.M))).setCell ⟨B6, 3, none⟩ (.slice z2.ar z2.c.R.length z2.cr)).setCell ⟨B6, 4, none⟩ (.slice z2.aw z2.c.Q.length z2.cw)).setCell ⟨B6, 5, none⟩ (.slice z2.af z2.c.F.length z2.cf)) = V53 at *
                refine hK.out _ _ ?_ (fun hHeld => ?_)
                · exact ⟨(HB1.out.keep J).c7, (HB2.out.keep J).c7⟩
                clear hK K
                (try simp only [Act.put]); (try simp only [List.setIfInBounds_toArray]); (try simp only [List.set_cons_succ]); (try simp only [List.set_cons_zero])
                refine wpAnyH_done (by kernel_rfl) ?_ _
                go_wp2_with fail
                go_meet
                case rel => exact ⟨B5, B6, z1, z2, rfl, rfl, HZ1.out, HZ2.out, hn5, hn6, hR1, hR2, J⟩
      · go_simp
        have hn5 := Blk.new V44 32 zG
        have hg5 : W2.heap.size ≤ V44.heap.size := J.size
        have KA := (Keeps.refl V44).alloc (.cells zG 32)
        have hne : V44.heap.size ≠ B6 := by have := hn6.lt; omega
        replace hn6 := hn6.keep KA
        replace J := J.trans KA
        clear KA
        generalize V44.alloc (.cells zG 32) = V54 at *
        generalize V44.heap.size = B5 at *
        have HNE := Lib.hid hne
        clear hne
        refine hK.out _ _ ?_ (fun hHeld => ?_)
        · exact ⟨(HB1.out.keep J).c7, (HB2.out.keep J).c7⟩
        clear hK K
        (try simp only [Act.put]); (try simp only [List.setIfInBounds_toArray]); (try simp only [List.set_cons_succ]); (try simp only [List.set_cons_zero])
        refine wpAnyH_ready (rs := [1]) (by kernel_rfl) (by simp) ?_
        refine AllReadyH.cons (o := ⟨_, _, _, _, _, _⟩) rfl (fun K hK => ?_) AllReadyH.nil
        · go_simp
          refine (HM.out _ _ _ _ _ _ _ _ _ _ _ _ _ _ _ (by first | exact Or.inl rfl | exact Or.inr rfl) (HKW.out.trans J)).mono ?_
          rintro e V55 ⟨z1, rfl, hz1, hR1, hK9⟩
          have HZ1 := Lib.hid hz1
          clear hz1
          replace hn5 := hn5.keep hK9
          replace hn6 := hn6.keep hK9
          replace J := J.trans hK9
          clear hK9
          unfold vg
          dsimp only
          refine hK.out _ _ ?_ (fun hHeld => ?_)
          · exact ⟨(HB1.out.keep J).c7, (HB2.out.keep J).c7⟩
          clear hK K
          (try simp only [Act.put]); (try simp only [List.setIfInBounds_toArray]); (try simp only [List.set_cons_succ]); (try simp only [List.set_cons_zero])
          refine wpAnyH_ready (rs := [3]) (by kernel_rfl) (by simp) ?_
          refine AllReadyH.cons (o := ⟨_, _, _, _, _, _⟩) rfl (fun K hK => ?_) AllReadyH.nil
          · go_simp
            refine (HM.out _ _ _ _ _ _ _ _ _ _ _ _ _ _ _ (by first | exact Or.inl rfl | exact Or.inr rfl) (HKW.out.trans J)).mono ?_
            rintro e V56 ⟨z2, rfl, hz2, hR2, hK9⟩
            have HZ2 := Lib.hid hz2
            clear hz2
            replace hR1 := hR1.keep hK9
            replace hn5 := hn5.keep hK9
            replace hn6 := hn6.keep hK9
            replace J := J.trans hK9
            clear hK9
            unfold vg
            dsimp only
            refine hK.out _ _ ?_ (fun hHeld => ?_)
            · exact ⟨(HB1.out.keep J).c7, (HB2.out.keep J).c7⟩
            clear hK K
            (try simp only [Act.put]); (try simp only [List.setIfInBounds_toArray]); (try simp only [List.set_cons_succ]); (try simp only [List.set_cons_zero])
            refine wpAnyH_ready (rs := [6]) (by kernel_rfl) (by simp) ?_
            refine AllReadyH.cons (o := ⟨_, _, _, _, _, _⟩) rfl (fun K hK => ?_) AllReadyH.nil
            · obtain ⟨c0, c1, c2, c3, c4, c5⟩ := hn5.c6
              obtain ⟨g0, g1, g2, g3, g4, g5⟩ := hn5.f6
              go_simp
              clear c0 c1 c2 c3 c4 c5 g0 g1 g2 g3 g4 g5
              replace hn6 := hn6.other6 HNE.out.symm (.string z1.c.nm) (.int .i64 z1.c.kd) (.int .u16 (sv z1.c.M)) (.slice z1.ar z1.c.R.length z1.cr) (.slice z1.aw z1.c.Q.length z1.cw) (.slice z1.af z1.c.F.length z1.cf)
              replace hR1 := hR1.set6 hn5 (.string z1.c.nm) (.int .i64 z1.c.kd) (.int .u16 (sv z1.c.M)) (.slice z1.ar z1.c.R.length z1.cr) (.slice z1.aw z1.c.Q.length z1.cw) (.slice z1.af z1.c.F.length z1.cf)
              replace hR2 := hR2.set6 hn5 (.string z1.c.nm) (.int .i64 z1.c.kd) (.int .u16 (sv z1.c.M)) (.slice z1.ar z1.c.R.length z1.cr) (.slice z1.aw z1.c.Q.length z1.cw) (.slice z1.af z1.c.F.length z1.cf)
              replace hn5 := hn5.set6 (.string z1.c.nm) (.int .i64 z1.c.kd) (.int .u16 (sv z1.c.M)) (.slice z1.ar z1.c.R.length z1.cr) (.slice z1.aw z1.c.Q.length z1.cw) (.slice z1.af z1.c.F.length z1.cf)
              replace J := keeps_set6 J hg5 (.string z1.c.nm) (.int .i64 z1.c.kd) (.int .u16 (sv z1.c.M)) (.slice z1.ar z1.c.R.length z1.cr) (.slice z1.aw z1.c.Q.length z1.cw) (.slice z1.af z1.c.F.length z1.cf)
              generalize ((((((V56.setCell ⟨B5, 0, none⟩ (.string z1.c.nm)).setCell ⟨B5, 1, none⟩ (.int .i64 z1.c.kd)).setCell ⟨B5, 2, none⟩ (.int .u16 (sv z1.c.M))).setCell ⟨B5, 3, none⟩ (.slice z1.ar z1.c.R.length z1.cr)).setCell ⟨B5, 4, none⟩ (.slice z1.aw z1.c.Q.length z1.cw)).setCell ⟨B5, 5, none⟩ (.slice z1.af z1.c.F.length z1.cf)) = V57 at *
              refine hK.out _ _ ?_ (fun hHeld => ?_)
              · exact ⟨(HB1.out.keep J).c7, (HB2.out.keep J).c7⟩
              clear hK K
              (try simp only [Act.put]); (try simp only [List.setIfInBounds_toArray]); (try simp only [List.set_cons_succ]); (try simp only [List.set_cons_zero])
              refine wpAnyH_ready (rs := [7]) (by kernel_rfl) (by simp) ?_
              refine AllReadyH.cons (o := ⟨_, _, _, _, _, _⟩) rfl (fun K hK => ?_) AllReadyH.nil
              · obtain ⟨c0, c1, c2, c3, c4, c5⟩ := hn6.c6
                obtain ⟨g0, g1, g2, g3, g4, g5⟩ := hn6.f6
                go_simp
                clear c0 c1 c2 c3 c4 c5 g0 g1 g2 g3 g4 g5
                replace hn5 := hn5.other6 HNE.out (.string z2.c.nm) (.int .i64 z2.c.kd) (.int .u16 (sv z2.c.M)) (.slice z2.ar z2.c.R.length z2.cr) (.slice z2.aw z2.c.Q.length z2.cw) (.slice z2.af z2.c.F.length z2.cf)
                replace hR1 := hR1.set6 hn6 (.string z2.c.nm) (.int .i64 z2.c.kd) (.int .u16 (sv z2.c.M)) (.slice z2.ar z2.c.R.length z2.cr) (.slice z2.aw z2.c.Q.length z2.cw) (.slice z2.af z2.c.F.length z2.cf)
                replace hR2 := hR2.set6 hn6 (.string z2.c.nm) (.int .i64 z2.c.kd) (.int .u16 (sv z2.c.M)) (.slice z2.ar z2.c.R.length z2.cr) (.slice z2.aw z2.c.Q.length z2.cw) (.slice z2.af z2.c.F.length z2.cf)
                replace hn6 := hn6.set6 (.string z2.c.nm) (.int .i64 z2.c.kd) (.int .u16 (sv z2.c.M)) (.slice z2.ar z2.c.R.length z2.cr) (.slice z2.aw z2.c.Q.length z2.cw) (.slice z2.af z2.c.F.length z2.cf)
                replace J := keeps_set6 J hg6 (.string z2.c.nm) (.int .i64 z2.c.kd) (.int .u16 (sv z2.c.M)) (.slice z2.ar z2.c.R.length z2.cr) (.slice z2.aw z2.c.Q.length z2.cw) (.slice z2.af z2.c.F.length z2.cf)
                generalize ((((((V57.setCell ⟨B6, 0, none⟩ (.string z2.c.nm)).setCell ⟨B6, 1, none⟩ (.int .i64 z2.c.kd)).setCell ⟨B6, 2, none⟩ (.int .u16 (sv z2.c.M))).setCell ⟨B6, 3, none⟩ (.slice z2.ar z2.c.R.length z2.cr)).setCell ⟨B6, 4, none⟩ (.slice z2.aw z2.c.Q.length z2.cw)).setCell ⟨B6, 5, none⟩ (.slice z2.af z2.c.F.length z2.cf)) = V58 at *
                refine hK.out _ _ ?_ (fun hHeld => ?_)
                · exact ⟨(HB1.out.keep J).c7, (HB2.out.keep J).c7⟩
                clear hK K
                (try simp only [Act.put]); (try simp only [List.setIfInBounds_toArray]); (try simp only [List.set_cons_succ]); (try simp only [List.set_cons_zero])
                refine wpAnyH_done (by kernel_rfl) ?_ _
                go_wp2_with fail
                go_meet
                case rel => exact ⟨B5, B6, z1, z2, rfl, rfl, HZ1.out, HZ2.out, hn5, hn6, hR1, hR2, J⟩
  case rest =>
    obtain ⟨B5, B6, z1, z2, rfl, rfl, hz1, hz2, hn5, hn6, hR1, hR2, J⟩ := hcut
    have KK := HKW.out.trans J
    clear J HB1 HB2 HM HKW
    have hv1 : cvf z1.c = 0 := by rw [hz1]; exact mdC_valid (by decide) c
    have hv2 : cvf z2.c = 0 := by rw [hz2]; exact mdC_valid (by decide) d
    have HV1 := Lib.hid hv1; have HV2 := Lib.hid hv2
    clear hz1 hz2 hv1 hv2
    go_wp2_with fail
    refine (awake29_any _).mono ?_
    rintro e w1 ⟨rfl, K⟩
    replace hn5 := hn5.keep K; replace hn6 := hn6.keep K; replace hR1 := hR1.keep K; replace hR2 := hR2.keep K; replace KK := KK.trans K
    clear K
    obtain ⟨c0, c1, c2, c3, c4, c5⟩ := hn5.c6
    obtain ⟨d0, d1, d2, d3, d4, d5⟩ := hn6.c6
    go_wp2_with fail
    clear c0 c1 c2 c3 c4 c5 d0 d1 d2 d3 d4 d5
    refine (jof_any z1 z2 _ hR1.rd hR2.rd).mono ?_
    intro e w2 hret
    obtain ⟨z3, rfl, hz3, hR3, K⟩ := hret
    unfold vg
    dsimp only
    replace hn5 := hn5.keep K; replace hn6 := hn6.keep K; replace hR1 := hR1.keep K; replace hR2 := hR2.keep K; replace KK := KK.trans K
    clear K
    have hn7 := Blk.new w2 32 #[.string z3.c.nm, .int .i64 z3.c.kd, .int .u16 (sv z3.c.M), .slice z3.ar z3.c.R.length z3.cr, .slice z3.aw z3.c.Q.length z3.cw, .slice z3.af z3.c.F.length z3.cf]
    have K := (Keeps.refl w2).alloc (.cells #[.string z3.c.nm, .int .i64 z3.c.kd, .int .u16 (sv z3.c.M), .slice z3.ar z3.c.R.length z3.cr, .slice z3.aw z3.c.Q.length z3.cw, .slice z3.af z3.c.F.length z3.cf] 32)
    replace hn5 := hn5.keep K; replace hn6 := hn6.keep K; replace hR1 := hR1.keep K; replace hR2 := hR2.keep K; replace hR3 := hR3.keep K; replace KK := KK.trans K
    clear K
    have hE : ofE z1.c z2.c = 0 ∨ ofE z1.c z2.c = 3 := of_err HV1.out HV2.out
    have HOK := Lib.hid (fun h => of_tol29 hz3 h)
    clear hz3
    generalize ofE z1.c z2.c = eo at *
    rcases hE with rfl | rfl
    · have hok := HOK.out rfl
      have HO := Lib.hid hok
      clear hok HOK
      obtain ⟨c0, c1, c2, c3, c4, c5⟩ := hn7.c6
      go_wp2_with fail
      clear c0 c1 c2 c3 c4 c5
      generalize w2.alloc (.cells #[.string z3.c.nm, .int .i64 z3.c.kd, .int .u16 (sv z3.c.M), .slice z3.ar z3.c.R.length z3.cr, .slice z3.aw z3.c.Q.length z3.cw, .slice z3.af z3.c.F.length z3.cf] 32) = W at *
      generalize w2.heap.size = B7 at *
      obtain ⟨c0, c1, c2, c3, c4, c5⟩ := hn7.c6
      go_wp2_with fail
      clear c0 c1 c2 c3 c4 c5
      have sr := hR3.rd.r.small
      go_loopw [35] (fun v wr => ∃ k : Nat, k ≤ z3.c.R.length ∧ v = .int .i64 k ∧ W = wr) (fun v _ => z3.c.R.length - (RowKit.intOf v).toNat)
      case atStart => exact ⟨0, Nat.zero_le _, rfl, rfl⟩
      case round =>
        obtain ⟨k, hk, rfl, rfl⟩ := hrel
        by_cases hlt : k < z3.c.R.length
        · have hc := hR3.rd.r.at hlt
          have hs := hR3.rd.r.isSome (by omega)
          have hmem : at_ z3.c.R k ∈ z3.c.R := at_mem hlt
          have ha := HO.out.2.1 _ hmem
          generalize at_ z3.c.R k = x at *
          have h1 := rAcc8_any z1.ar z1.c.R.length z1.cr z1.c.R x W hR1.rd.r
          have h2 := rAcc8_any z2.ar z2.c.R.length z2.cr z2.c.R x W hR2.rd.r
          rw [ha.1] at h1
          rw [ha.2] at h2
          have H1 := Lib.hid h1; have H2 := Lib.hid h2
          clear h1 h2 ha hmem
          have c3 := hn5.cell 3 (v := .slice z1.ar z1.c.R.length z1.cr) rfl
          have d3 := hn6.cell 3 (v := .slice z2.ar z2.c.R.length z2.cr) rfl
          go_wp2_with fail
          refine H1.out.mono ?_
          rintro e w9 ⟨rfl, rfl⟩
          go_wp2_with fail
          refine H2.out.mono ?_
          rintro e w9 ⟨rfl, rfl⟩
          go_wp2_with fail
          go_roundw
          case rel => exact ⟨k + 1, by omega, by go_num, trivial⟩
          case measure => simp [RowKit.intOf]; omega
        · have hlt2 := hlt
          clear hk
          obtain ⟨c0, c1, c2, c3, c4, c5⟩ := hn7.c6
          go_wp2_with fail
          clear c0 c1 c2 c3 c4 c5 hlt hlt2
          have sq := hR3.rd.q.small
          go_loopw [55] (fun v wr => ∃ k : Nat, k ≤ z3.c.Q.length ∧ v = .int .i64 k ∧ W = wr) (fun v _ => z3.c.Q.length - (RowKit.intOf v).toNat)
          case atStart => exact ⟨0, Nat.zero_le _, rfl, rfl⟩
          case round =>
            obtain ⟨k, hk, rfl, rfl⟩ := hrel
            by_cases hlt : k < z3.c.Q.length
            · have hc := hR3.rd.q.at hlt
              have hs := hR3.rd.q.isSome (by omega)
              have hmem : at_ z3.c.Q k ∈ z3.c.Q := at_mem hlt
              have ha := HO.out.2.2.1 _ hmem
              generalize at_ z3.c.Q k = x at *
              have h1 := rAcc8_any z1.aw z1.c.Q.length z1.cw z1.c.Q x W hR1.rd.q
              have h2 := rAcc8_any z2.aw z2.c.Q.length z2.cw z2.c.Q x W hR2.rd.q
              rw [ha.1] at h1
              rw [ha.2] at h2
              have H1 := Lib.hid h1; have H2 := Lib.hid h2
              clear h1 h2 ha hmem
              have c3 := hn5.cell 4 (v := .slice z1.aw z1.c.Q.length z1.cw) rfl
              have d3 := hn6.cell 4 (v := .slice z2.aw z2.c.Q.length z2.cw) rfl
              go_wp2_with fail
              refine H1.out.mono ?_
              rintro e w9 ⟨rfl, rfl⟩
              go_wp2_with fail
              refine H2.out.mono ?_
              rintro e w9 ⟨rfl, rfl⟩
              go_wp2_with fail
              go_roundw
              case rel => exact ⟨k + 1, by omega, by go_num, trivial⟩
              case measure => simp [RowKit.intOf]; omega
            · have hlt2 := hlt
              clear hk
              have rd2 := rd_new 32 6 W (gl [z1, z2]) 2 (by decide) rfl
              have K := (Keeps.refl W).alloc (.cells #[.string z1.c.nm, .int .i64 z1.c.kd, .int .u16 (sv z1.c.M), .slice z1.ar z1.c.R.length z1.cr, .slice z1.aw z1.c.Q.length z1.cw, .slice z1.af z1.c.F.length z1.cf, .string z2.c.nm, .int .i64 z2.c.kd, .int .u16 (sv z2.c.M), .slice z2.ar z2.c.R.length z2.cr, .slice z2.aw z2.c.Q.length z2.cw, .slice z2.af z2.c.F.length z2.cf] 32)
              replace rd2 : Rd (W.alloc (.cells #[.string z1.c.nm, .int .i64 z1.c.kd, .int .u16 (sv z1.c.M), .slice z1.ar z1.c.R.length z1.cr, .slice z1.aw z1.c.Q.length z1.cw, .slice z1.af z1.c.F.length z1.cf, .string z2.c.nm, .int .i64 z2.c.kd, .int .u16 (sv z2.c.M), .slice z2.ar z2.c.R.length z2.cr, .slice z2.aw z2.c.Q.length z2.cw, .slice z2.af z2.c.F.length z2.cf] 32)) (some ⟨W.heap.size, 0, none⟩) 2 2 6 (gl [z1, z2]) := rd2
              have HR2 := Lib.hid rd2
              have l2 : RdL (W.alloc (.cells #[.string z1.c.nm, .int .i64 z1.c.kd, .int .u16 (sv z1.c.M), .slice z1.ar z1.c.R.length z1.cr, .slice z1.aw z1.c.Q.length z1.cw, .slice z1.af z1.c.F.length z1.cf, .string z2.c.nm, .int .i64 z2.c.kd, .int .u16 (sv z2.c.M), .slice z2.ar z2.c.R.length z2.cr, .slice z2.aw z2.c.Q.length z2.cw, .slice z2.af z2.c.F.length z2.cf] 32)) [z1, z2] := fun y hy => by
                rcases List.mem_cons.1 hy with rfl | hy
                · exact hR1.rd.keep K
                · rw [List.mem_singleton.1 hy]; exact hR2.rd.keep K
              have v2 : ValL [z1, z2] := fun y hy => by
                rcases List.mem_cons.1 hy with rfl | hy
                · exact HV1.out
                · rw [List.mem_singleton.1 hy]; exact HV2.out
              have v3 : ValL [z3] := fun y hy => by rw [List.mem_singleton.1 hy]; exact HO.out.1
              have e2 : [z1, z2].all (tolC z) = (tolC z z1 && tolC z z2) := by simp
              have e3 : [z3].all (tolC z) = (tolC z z1 && tolC z z2) := by simp [HO.out.2.2.2 z]
              obtain ⟨c0, c1, c2, c3, c4, c5⟩ := hn7.c6
              obtain ⟨d0, d1, d2, d3, d4, d5⟩ := hn5.c6
              obtain ⟨f0, f1, f2, f3, f4, f5⟩ := hn6.c6
              obtain ⟨g0, g1, g2, g3, g4, g5⟩ := (hn7.keep K).c6
              replace hR3 := hR3.keep K
              replace KK := KK.trans K
              have L2 := Lib.hid l2; have V2 := Lib.hid v2; have V3 := Lib.hid v3; have E2 := Lib.hid e2; have E3 := Lib.hid e3
              clear rd2 l2 v2 v3 e2 e3 hR1 hR2 hn5 hn6 hn7 HO HV1 HV2
              have HX := Lib.hid (show (W.alloc (.cells #[.string z1.c.nm, .int .i64 z1.c.kd, .int .u16 (sv z1.c.M), .slice z1.ar z1.c.R.length z1.cr, .slice z1.aw z1.c.Q.length z1.cw, .slice z1.af z1.c.F.length z1.cf, .string z2.c.nm, .int .i64 z2.c.kd, .int .u16 (sv z2.c.M), .slice z2.ar z2.c.R.length z2.cr, .slice z2.aw z2.c.Q.length z2.cw, .slice z2.af z2.c.F.length z2.cf] 32)).heap.size = W.heap.size + 1 from World.size_alloc ..)
              go_wp2_with fail
              clear c0 c1 c2 c3 c4 c5 d0 d1 d2 d3 d4 d5 f0 f1 f2 f3 f4 f5 g0 g1 g2 g3 g4 g5
              generalize W.alloc (.cells #[.string z1.c.nm, .int .i64 z1.c.kd, .int .u16 (sv z1.c.M), .slice z1.ar z1.c.R.length z1.cr, .slice z1.aw z1.c.Q.length z1.cw, .slice z1.af z1.c.F.length z1.cf, .string z2.c.nm, .int .i64 z2.c.kd, .int .u16 (sv z2.c.M), .slice z2.ar z2.c.R.length z2.cr, .slice z2.aw z2.c.Q.length z2.cw, .slice z2.af z2.c.F.length z2.cf] 32) = X at *
              generalize W.heap.size = BT at *
              have rd3 := rd_new 32 6 X (gl [z3]) 1 (by decide) rfl
              rw [HX.out] at rd3
              have K := (Keeps.refl X).alloc (.cells #[.string z3.c.nm, .int .i64 z3.c.kd, .int .u16 (sv z3.c.M), .slice z3.ar z3.c.R.length z3.cr, .slice z3.aw z3.c.Q.length z3.cw, .slice z3.af z3.c.F.length z3.cf] 32)
              have l3 : RdL (X.alloc (.cells #[.string z3.c.nm, .int .i64 z3.c.kd, .int .u16 (sv z3.c.M), .slice z3.ar z3.c.R.length z3.cr, .slice z3.aw z3.c.Q.length z3.cw, .slice z3.af z3.c.F.length z3.cf] 32)) [z3] := fun y hy => by rw [List.mem_singleton.1 hy]; exact hR3.rd.keep K
              refine (jtol_any _ 1 1 [z3] z _ rd3 l3 V3.out).mono ?_
              rintro e w5 ⟨rfl, K5⟩
              rw [E3.out]
              replace K := K.trans K5
              have R5 := HR2.out.keep K
              have L5 := L2.out.keep K
              replace KK := KK.trans K
              clear K K5 rd3 l3 hR3
              have HR5 := Lib.hid R5; have HL5 := Lib.hid L5
              clear R5 L5
              go_wp2_with fail
              refine (jtol_any _ 2 2 [z1, z2] z _ HR5.out HL5.out V2.out).mono ?_
              rintro e w6 ⟨rfl, K6⟩
              rw [E2.out]
              have HR6 := Lib.hid (HR5.out.keep K6); have HL6 := Lib.hid (HL5.out.keep K6)
              replace KK := KK.trans K6
              clear K6
              generalize (tolC z z1 && tolC z z2) = q at *
              have hqq : (q == q) = true := by simp
              go_wp2_with fail
              refine (cloneG_any _ 2 [z1, z2] _ HR6.out (by simp)).mono ?_
              rintro e w7 ⟨v7, rfl, hO7⟩
              have K7 := hO7.2
              obtain ⟨a7, cc7, rfl, r7⟩ := hO7.rd
              have HR7 := Lib.hid (HR6.out.keep K7); have HL7 := Lib.hid (HL6.out.keep K7); have Hr7 := Lib.hid r7
              replace KK := KK.trans K7
              clear hO7 r7 K7
              go_wp2_with fail
              refine (jtol_any _ 2 _ [z1, z2] z _ Hr7.out HL7.out V2.out).mono ?_
              rintro e w8 ⟨rfl, K8⟩
              rw [E2.out]
              have HR8 := Lib.hid (HR7.out.keep K8); have HL8 := Lib.hid (HL7.out.keep K8)
              replace KK := KK.trans K8
              clear K8
              go_wp2_with fail
              refine (rjtol_any _ 2 2 [z1, z2] z _ HR8.out HL8.out V2.out).mono ?_
              rintro e w9 ⟨rfl, K9⟩
              rw [E2.out]
              replace KK := KK.trans K9
              clear K9
              go_wp2_with fail
              go_ret
              exact ⟨rfl, KK⟩
    · go_wp2_with fail
      go_ret
      exact ⟨rfl, KK⟩
end Go.Proofs.YtnlohknlchgfgaaGreat
