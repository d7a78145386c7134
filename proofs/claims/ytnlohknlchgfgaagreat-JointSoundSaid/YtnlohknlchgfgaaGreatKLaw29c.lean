/- Texts joined into one (wip/bin/pack.py): Law29c. -/
import Derived.Test.YtnlohknlchgfgaaGreatKLaw29a
import Derived.Test.YtnlohknlchgfgaaGreatKZj
import Derived.Test.YtnlohknlchgfgaaGreatKZk
import Derived.Lib.QuietBelow
import Derived.Deep.DeepCutAuto
/- The statement JointSound. -/
namespace Go.Proofs.YtnlohknlchgfgaaGreat
open Go.RowKit Go.Lib Go.Shelf
theorem sv_low (x : S) : sv x % 256 = sv (x &&& 255#16) := by
  unfold sv
  rw [BitVec.toNat_and, show (255#16).toNat = 2 ^ 8 - 1 from rfl, Nat.and_two_pow_sub_one_eq_mod]
  simp
theorem of_snd29 {z1 z2 z3 : CA} {wt : S} {m : List F2} (h3 : z3.c = ofC z1.c z2.c) (h : ofE z1.c z2.c = 0) : cvf z3.c = 0 ∧ ((sndC wt m z1 = true ∧ sndC wt m z2 = true) → sndC wt m z3 = true) := by
  have ho := of_ok h
  have hv : cvf z3.c = 0 := by rw [h3]; exact ho.cvf
  unfold ofC at h3
  rw [if_neg (by simp [h])] at h3
  refine ⟨hv, fun ⟨ha, hb⟩ => ?_⟩
  unfold sndC at *
  rw [h3]
  dsimp only
  rw [ho.nmz.1]
  exact joint_sound ho ha hb
theorem normF_two (a b : F2) : (normF [a, b]).length ≤ 2 := Nat.le_trans (normR_le _ _ _ _) (by simp)
theorem sv_wt (x y : S) : bits .and .u16 (sv x / (256 : Int)) (sv y) / (256 : Int) = sv (((x >>> 8) &&& y) >>> 8) := by
  have h : ∀ z : S, sv z / (256 : Int) = sv (z >>> 8) := fun z => by
    unfold sv
    rw [BitVec.toNat_ushiftRight, Nat.shiftRight_eq_div_pow]
    simp
  rw [h x, sv_and, h]
set_option maxRecDepth 20000 in
set_option maxHeartbeats 16000000 in
theorem JointSound_any (c d : D29) (x0 x1 : S) (w : World) (hc : OkD w c) (hd : OkD w d) :
    Calls Tryz.prog 6 #[vD c, vD d, .agg #[.int .u16 (sv x0), .int .u16 (sv x1)]] w fun e w' => e = .returned (.bool true) ∧ Keeps w w' := by
  have hs : ∀ o, (w.alloc o).heap.size = w.heap.size + 1 := fun o => World.size_alloc ..
  have hs2 : ∀ o o', ((w.alloc o).alloc o').heap.size = w.heap.size + 2 := fun o o' => by rw [World.size_alloc, World.size_alloc]
  have hb1 := ((Blk.new w 27 (cD c)).keep ((Keeps.refl _).alloc (.cells (cD d) 27))).keep ((Keeps.refl _).alloc (.cells #[.int .u16 (sv x0), .int .u16 (sv x1)] 56))
  have hb2 := (Blk.new (w.alloc (.cells (cD c) 27)) 27 (cD d)).keep ((Keeps.refl _).alloc (.cells #[.int .u16 (sv x0), .int .u16 (sv x1)] 56))
  have hb3 := Blk.new ((w.alloc (.cells (cD c) 27)).alloc (.cells (cD d) 27)) 56 #[.int .u16 (sv x0), .int .u16 (sv x1)]
  rw [hs] at hb2
  rw [hs2] at hb3
  have KW := (((Keeps.refl w).alloc (.cells (cD c) 27)).alloc (.cells (cD d) 27)).alloc (.cells #[.int .u16 (sv x0), .int .u16 (sv x1)] 56)
  have hm := made2_any c d w hc hd
  unfold vD at *
  have HM := Lib.hid hm; have HB1 := Lib.hid hb1; have HB2 := Lib.hid hb2; have HB3 := Lib.hid hb3; have HKW := Lib.hid KW
  clear hm hb1 hb2 hb3 KW hs hs2 hc hd
  go_enter Tryz.func6, Tryz.ntmps6
  go_wp2_with fail
  generalize ((w.alloc (.cells (cD c) 27)).alloc (.cells (cD d) 27)).alloc (.cells #[.int .u16 (sv x0), .int .u16 (sv x1)] 56) = W2 at *
  go_cut [7, 8] from 15 (fun s5 s6 wx => ∃ B5 B6 z1 z2, s5 = .pointer (some ⟨B5, 0, none⟩) ∧ s6 = .pointer (some ⟨B6, 0, none⟩) ∧ z1.c = mdC ⟨#[97]⟩ c ∧ z2.c = mdC ⟨#[98]⟩ d ∧ Blk wx B5 32 #[.string z1.c.nm, .int .i64 z1.c.kd, .int .u16 (sv z1.c.M), .slice z1.ar z1.c.R.length z1.cr, .slice z1.aw z1.c.Q.length z1.cw, .slice z1.af z1.c.F.length z1.cf] ∧ Blk wx B6 32 #[.string z2.c.nm, .int .i64 z2.c.kd, .int .u16 (sv z2.c.M), .slice z2.ar z2.c.R.length z2.cr, .slice z2.aw z2.c.Q.length z2.cw, .slice z2.af z2.c.F.length z2.cf] ∧ RoG wx z1 ∧ RoG wx z2 ∧ Keeps W2 wx)
  case first =>
    have J : Keeps W2 W2.drew := (Keeps.refl W2).drew
    refine wp_region_held_drew (S := (fun w' => (w'.cell? ⟨w.heap.size, 0, none⟩ = some (.int .u8 c.kd) ∧ w'.cell? ⟨w.heap.size, 1, none⟩ = some (.int .u8 c.N) ∧ w'.cell? ⟨w.heap.size, 2, none⟩ = some (.int .u8 c.md) ∧ w'.cell? ⟨w.heap.size, 3, none⟩ = some (.slice c.ar c.lr.length c.cr) ∧ w'.cell? ⟨w.heap.size, 4, none⟩ = some (.slice c.aw c.lw.length c.cw) ∧ w'.cell? ⟨w.heap.size, 5, none⟩ = some (.slice c.af c.lf.length c.cf) ∧ w'.cell? ⟨w.heap.size, 6, none⟩ = some (.int .u8 c.mv)) ∧ (w'.cell? ⟨w.heap.size + 1, 0, none⟩ = some (.int .u8 d.kd) ∧ w'.cell? ⟨w.heap.size + 1, 1, none⟩ = some (.int .u8 d.N) ∧ w'.cell? ⟨w.heap.size + 1, 2, none⟩ = some (.int .u8 d.md) ∧ w'.cell? ⟨w.heap.size + 1, 3, none⟩ = some (.slice d.ar d.lr.length d.cr) ∧ w'.cell? ⟨w.heap.size + 1, 4, none⟩ = some (.slice d.aw d.lw.length d.cw) ∧ w'.cell? ⟨w.heap.size + 1, 5, none⟩ = some (.slice d.af d.lf.length d.cf) ∧ w'.cell? ⟨w.heap.size + 1, 6, none⟩ = some (.int .u8 d.mv)))) (by kernel_rfl) ?_ (fun hHeld => ?_)
    · exact ⟨(HB1.out.keep J).c7, (HB2.out.keep J).c7⟩
    generalize W2.drew = V0 at *
    refine wpAnyH_take (i := 0) (oi := ⟨_, _, _, _, _, _⟩) (v := ?_) rfl (by kernel_rfl) (by kernel_rfl) (by kernel_rfl) (fun _ _ _ h => h) (Or.inl ⟨by rfl, ?_⟩) (by assumption) ?_
    rotate_left 1
    · intro w hSw; (try dsimp only at hSw); go_simp <;> with_reducible rfl
    (try simp only [Act.put]); (try simp only [List.setIfInBounds_toArray]); (try simp only [List.set_cons_succ]); (try simp only [List.set_cons_zero])
    refine wpAnyH_take (i := 2) (oi := ⟨_, _, _, _, _, _⟩) (v := ?_) rfl (by kernel_rfl) (by kernel_rfl) (by kernel_rfl) (fun _ _ _ h => h) (Or.inl ⟨by rfl, ?_⟩) (by assumption) ?_
    rotate_left 1
    · intro w hSw; (try dsimp only at hSw); go_simp <;> with_reducible rfl
    (try simp only [Act.put]); (try simp only [List.setIfInBounds_toArray]); (try simp only [List.set_cons_succ]); (try simp only [List.set_cons_zero])
    refine wpAnyH_ready (rs := [1, 4, 5]) (by kernel_rfl) (by simp) ?_
    refine AllReadyH.cons (o := ⟨_, _, _, _, _, _⟩) rfl (fun K hK => ?_) (AllReadyH.cons (o := ⟨_, _, _, _, _, _⟩) rfl (fun K hK => ?_) (AllReadyH.cons (o := ⟨_, _, _, _, _, _⟩) rfl (fun K hK => ?_) AllReadyH.nil))
    · go_simp
      refine (HM.out _ _ _ _ _ _ _ _ _ _ _ _ _ _ _ (by first | exact Or.inl rfl | exact Or.inr rfl) (HKW.out.trans J)).mono ?_
      rintro e V1 ⟨z1, rfl, hz1, hR1, hK9⟩
      have HZ1 := Lib.hid hz1
      clear hz1
      replace J := J.trans hK9
      clear hK9
      unfold vg
      dsimp only
      refine hK.out _ _ ?_ (fun hHeld => ?_)
      · exact ⟨(HB1.out.keep J).c7, (HB2.out.keep J).c7⟩
      clear hK K
      (try simp only [Act.put]); (try simp only [List.setIfInBounds_toArray]); (try simp only [List.set_cons_succ]); (try simp only [List.set_cons_zero])
      refine wpAnyH_ready (rs := [3, 4, 5]) (by kernel_rfl) (by simp) ?_
      refine AllReadyH.cons (o := ⟨_, _, _, _, _, _⟩) rfl (fun K hK => ?_) (AllReadyH.cons (o := ⟨_, _, _, _, _, _⟩) rfl (fun K hK => ?_) (AllReadyH.cons (o := ⟨_, _, _, _, _, _⟩) rfl (fun K hK => ?_) AllReadyH.nil))
      · go_simp
        refine (HM.out _ _ _ _ _ _ _ _ _ _ _ _ _ _ _ (by first | exact Or.inl rfl | exact Or.inr rfl) (HKW.out.trans J)).mono ?_
        rintro e V2 ⟨z2, rfl, hz2, hR2, hK9⟩
        have HZ2 := Lib.hid hz2
        clear hz2
        replace hR1 := hR1.keep hK9
        replace J := J.trans hK9
        clear hK9
        unfold vg
        dsimp only
        refine hK.out _ _ ?_ (fun hHeld => ?_)
        · exact ⟨(HB1.out.keep J).c7, (HB2.out.keep J).c7⟩
        clear hK K
        (try simp only [Act.put]); (try simp only [List.setIfInBounds_toArray]); (try simp only [List.set_cons_succ]); (try simp only [List.set_cons_zero])
        refine wpAnyH_ready (rs := [4, 5]) (by kernel_rfl) (by simp) ?_
        refine AllReadyH.cons (o := ⟨_, _, _, _, _, _⟩) rfl (fun K hK => ?_) (AllReadyH.cons (o := ⟨_, _, _, _, _, _⟩) rfl (fun K hK => ?_) AllReadyH.nil)
        · go_simp
          have hn5 := Blk.new V2 32 zG
          have hg5 : W2.heap.size ≤ V2.heap.size := J.size
          have KA := (Keeps.refl V2).alloc (.cells zG 32)
          replace hR1 := hR1.keep KA
          replace hR2 := hR2.keep KA
          replace J := J.trans KA
          clear KA
          generalize V2.alloc (.cells zG 32) = V3 at *
          generalize V2.heap.size = B5 at *
          refine hK.out _ _ ?_ (fun hHeld => ?_)
          · exact ⟨(HB1.out.keep J).c7, (HB2.out.keep J).c7⟩
          clear hK K
          (try simp only [Act.put]); (try simp only [List.setIfInBounds_toArray]); (try simp only [List.set_cons_succ]); (try simp only [List.set_cons_zero])
          refine wpAnyH_ready (rs := [5]) (by kernel_rfl) (by simp) ?_
          refine AllReadyH.cons (o := ⟨_, _, _, _, _, _⟩) rfl (fun K hK => ?_) AllReadyH.nil
          · go_simp
            have hn6 := Blk.new V3 32 zG
            have hg6 : W2.heap.size ≤ V3.heap.size := J.size
            have KA := (Keeps.refl V3).alloc (.cells zG 32)
            have hne : V3.heap.size ≠ B5 := by have := hn5.lt; omega
            replace hR1 := hR1.keep KA
            replace hR2 := hR2.keep KA
            replace hn5 := hn5.keep KA
            replace J := J.trans KA
            clear KA
            generalize V3.alloc (.cells zG 32) = V4 at *
            generalize V3.heap.size = B6 at *
            have HNE := Lib.hid (Ne.symm hne)
            clear hne
            refine hK.out _ _ ?_ (fun hHeld => ?_)
            · exact ⟨(HB1.out.keep J).c7, (HB2.out.keep J).c7⟩
            clear hK K
            (try simp only [Act.put]); (try simp only [List.setIfInBounds_toArray]); (try simp only [List.set_cons_succ]); (try simp only [List.set_cons_zero])
            refine wpAnyH_ready (rs := [6]) (by kernel_rfl) (by simp) ?_
            refine AllReadyH.cons (o := ⟨_, _, _, _, _, _⟩) rfl (fun K hK => ?_) AllReadyH.nil
            · obtain ⟨c0, c1, c2, c3, c4, c5⟩ := hn5.c6
              obtain ⟨g0, g1, g2, g3, g4, g5⟩ := hn5.f6
              go_simp
              clear c0 c1 c2 c3 c4 c5 g0 g1 g2 g3 g4 g5
              replace hn6 := hn6.other6 HNE.out.symm (.string z1.c.nm) (.int .i64 z1.c.kd) (.int .u16 (sv z1.c.M)) (.slice z1.ar z1.c.R.length z1.cr) (.slice z1.aw z1.c.Q.length z1.cw) (.slice z1.af z1.c.F.length z1.cf)
              replace hR1 := hR1.set6 hn5 (.string z1.c.nm) (.int .i64 z1.c.kd) (.int .u16 (sv z1.c.M)) (.slice z1.ar z1.c.R.length z1.cr) (.slice z1.aw z1.c.Q.length z1.cw) (.slice z1.af z1.c.F.length z1.cf)
              replace hR2 := hR2.set6 hn5 (.string z1.c.nm) (.int .i64 z1.c.kd) (.int .u16 (sv z1.c.M)) (.slice z1.ar z1.c.R.length z1.cr) (.slice z1.aw z1.c.Q.length z1.cw) (.slice z1.af z1.c.F.length z1.cf)
              replace hn5 := hn5.set6 (.string z1.c.nm) (.int .i64 z1.c.kd) (.int .u16 (sv z1.c.M)) (.slice z1.ar z1.c.R.length z1.cr) (.slice z1.aw z1.c.Q.length z1.cw) (.slice z1.af z1.c.F.length z1.cf)
              replace J := keeps_set6 J hg5 (.string z1.c.nm) (.int .i64 z1.c.kd) (.int .u16 (sv z1.c.M)) (.slice z1.ar z1.c.R.length z1.cr) (.slice z1.aw z1.c.Q.length z1.cw) (.slice z1.af z1.c.F.length z1.cf)
              generalize ((((((V4.setCell ⟨B5, 0, none⟩ (.string z1.c.nm)).setCell ⟨B5, 1, none⟩ (.int .i64 z1.c.kd)).setCell ⟨B5, 2, none⟩ (.int .u16 (sv z1.c.M))).setCell ⟨B5, 3, none⟩ (.slice z1.ar z1.c.R.length z1.cr)).setCell ⟨B5, 4, none⟩ (.slice z1.aw z1.c.Q.length z1.cw)).setCell ⟨B5, 5, none⟩ (.slice z1.af z1.c.F.length z1.cf)) = V5 at *
              refine hK.out _ _ ?_ (fun hHeld => ?_)
              · exact ⟨(HB1.out.keep J).c7, (HB2.out.keep J).c7⟩
              clear hK K
              (try simp only [Act.put]); (try simp only [List.setIfInBounds_toArray]); (try simp only [List.set_cons_succ]); (try simp only [List.set_cons_zero])
              refine wpAnyH_ready (rs := [7]) (by kernel_rfl) (by simp) ?_
              refine AllReadyH.cons (o := ⟨_, _, _, _, _, _⟩) rfl (fun K hK => ?_) AllReadyH.nil
              · obtain ⟨c0, c1, c2, c3, c4, c5⟩ := hn6.c6
                obtain ⟨g0, g1, g2, g3, g4, g5⟩ := hn6.f6
                go_simp
                clear c0 c1 c2 c3 c4 c5 g0 g1 g2 g3 g4 g5
                replace hn5 := hn5.other6 HNE.out (.string z2.c.nm) (.int .i64 z2.c.kd) (.int .u16 (sv z2.c.M)) (.slice z2.ar z2.c.R.length z2.cr) (.slice z2.aw z2.c.Q.length z2.cw) (.slice z2.af z2.c.F.length z2.cf)
                replace hR1 := hR1.set6 hn6 (.string z2.c.nm) (.int .i64 z2.c.kd) (.int .u16 (sv z2.c.M)) (.slice z2.ar z2.c.R.length z2.cr) (.slice z2.aw z2.c.Q.length z2.cw) (.slice z2.af z2.c.F.length z2.cf)
                replace hR2 := hR2.set6 hn6 (.string z2.c.nm) (.int .i64 z2.c.kd) (.int .u16 (sv z2.c.M)) (.slice z2.ar z2.c.R.length z2.cr) (.slice z2.aw z2.c.Q.length z2.cw) (.slice z2.af z2.c.F.length z2.cf)
                replace hn6 := hn6.set6 (.string z2.c.nm) (.int .i64 z2.c.kd) (.int .u16 (sv z2.c.M)) (.slice z2.ar z2.c.R.length z2.cr) (.slice z2.aw z2.c.Q.length z2.cw) (.slice z2.af z2.c.F.length z2.cf)
                replace J := keeps_set6 J hg6 (.string z2.c.nm) (.int .i64 z2.c.kd) (.int .u16 (sv z2.c.M)) (.slice z2.ar z2.c.R.length z2.cr) (.slice z2.aw z2.c.Q.length z2.cw) (.slice z2.af z2.c.F.length z2.cf)
                generalize ((((((V5.setCell ⟨B6, 0, none⟩ (.string z2.c.nm)).setCell ⟨B6, 1, none⟩ (.int .i64 z2.c.kd)).setCell ⟨B6, 2, none⟩ (.int .u16 (sv z2.c.M))).setCell ⟨B6, 3, none⟩ (.slice z2.ar z2.c.R.length z2.cr)).setCell ⟨B6, 4, none⟩ (.slice z2.aw z2.c.Q.length z2.cw)).setCell ⟨B6, 5, none⟩ (.slice z2.af z2.c.F.length z2.cf)) = V6 at *
                refine hK.out _ _ ?_ (fun hHeld => ?_)
                · exact ⟨(HB1.out.keep J).c7, (HB2.out.keep J).c7⟩
                clear hK K
                (try simp only [Act.put]); (try simp only [List.setIfInBounds_toArray]); (try simp only [List.set_cons_succ]); (try simp only [List.set_cons_zero])
                refine wpAnyH_done (by kernel_rfl) ?_ _
                go_wp2_with fail
                go_meet
                case rel => exact ⟨B5, B6, z1, z2, rfl, rfl, HZ1.out, HZ2.out, hn5, hn6, hR1, hR2, J⟩
        · go_simp
          have hn6 := Blk.new V2 32 zG
          have hg6 : W2.heap.size ≤ V2.heap.size := J.size
          have KA := (Keeps.refl V2).alloc (.cells zG 32)
          replace hR1 := hR1.keep KA
          replace hR2 := hR2.keep KA
          replace J := J.trans KA
          clear KA
          generalize V2.alloc (.cells zG 32) = V7 at *
          generalize V2.heap.size = B6 at *
          refine hK.out _ _ ?_ (fun hHeld => ?_)
          · exact ⟨(HB1.out.keep J).c7, (HB2.out.keep J).c7⟩
          clear hK K
          (try simp only [Act.put]); (try simp only [List.setIfInBounds_toArray]); (try simp only [List.set_cons_succ]); (try simp only [List.set_cons_zero])
          refine wpAnyH_ready (rs := [4]) (by kernel_rfl) (by simp) ?_
          refine AllReadyH.cons (o := ⟨_, _, _, _, _, _⟩) rfl (fun K hK => ?_) AllReadyH.nil
          · go_simp
            have hn5 := Blk.new V7 32 zG
            have hg5 : W2.heap.size ≤ V7.heap.size := J.size
            have KA := (Keeps.refl V7).alloc (.cells zG 32)
            have hne : V7.heap.size ≠ B6 := by have := hn6.lt; omega
            replace hR1 := hR1.keep KA
            replace hR2 := hR2.keep KA
            replace hn6 := hn6.keep KA
            replace J := J.trans KA
            clear KA
            generalize V7.alloc (.cells zG 32) = V8 at *
            generalize V7.heap.size = B5 at *
            have HNE := Lib.hid hne
            clear hne
            refine hK.out _ _ ?_ (fun hHeld => ?_)
            · exact ⟨(HB1.out.keep J).c7, (HB2.out.keep J).c7⟩
            clear hK K
            (try simp only [Act.put]); (try simp only [List.setIfInBounds_toArray]); (try simp only [List.set_cons_succ]); (try simp only [List.set_cons_zero])
            refine wpAnyH_ready (rs := [6]) (by kernel_rfl) (by simp) ?_
            refine AllReadyH.cons (o := ⟨_, _, _, _, _, _⟩) rfl (fun K hK => ?_) AllReadyH.nil
            · obtain ⟨c0, c1, c2, c3, c4, c5⟩ := hn5.c6
              obtain ⟨g0, g1, g2, g3, g4, g5⟩ := hn5.f6
              go_simp
              clear c0 c1 c2 c3 c4 c5 g0 g1 g2 g3 g4 g5
              replace hn6 := hn6.other6 HNE.out.symm (.string z1.c.nm) (.int .i64 z1.c.kd) (.int .u16 (sv z1.c.M)) (.slice z1.ar z1.c.R.length z1.cr) (.slice z1.aw z1.c.Q.length z1.cw) (.slice z1.af z1.c.F.length z1.cf)
              replace hR1 := hR1.set6 hn5 (.string z1.c.nm) (.int .i64 z1.c.kd) (.int .u16 (sv z1.c.M)) (.slice z1.ar z1.c.R.length z1.cr) (.slice z1.aw z1.c.Q.length z1.cw) (.slice z1.af z1.c.F.length z1.cf)
              replace hR2 := hR2.set6 hn5 (.string z1.c.nm) (.int .i64 z1.c.kd) (.int .u16 (sv z1.c.M)) (.slice z1.ar z1.c.R.length z1.cr) (.slice z1.aw z1.c.Q.length z1.cw) (.slice z1.af z1.c.F.length z1.cf)
              replace hn5 := hn5.set6 (.string z1.c.nm) (.int .i64 z1.c.kd) (.int .u16 (sv z1.c.M)) (.slice z1.ar z1.c.R.length z1.cr) (.slice z1.aw z1.c.Q.length z1.cw) (.slice z1.af z1.c.F.length z1.cf)
              replace J := keeps_set6 J hg5 (.string z1.c.nm) (.int .i64 z1.c.kd) (.int .u16 (sv z1.c.M)) (.slice z1.ar z1.c.R.length z1.cr) (.slice z1.aw z1.c.Q.length z1.cw) (.slice z1.af z1.c.F.length z1.cf)
              generalize ((((((V8.setCell ⟨B5, 0, none⟩ (.string z1.c.nm)).setCell ⟨B5, 1, none⟩ (.int .i64 z1.c.kd)).setCell ⟨B5, 2, none⟩ (.int .u16 (sv z1.c.M))).setCell ⟨B5, 3, none⟩ (.slice z1.ar z1.c.R.length z1.cr)).setCell ⟨B5, 4, none⟩ (.slice z1.aw z1.c.Q.length z1.cw)).setCell ⟨B5, 5, none⟩ (.slice z1.af z1.c.F.length z1.cf)) = V9 at *
              refine hK.out _ _ ?_ (fun hHeld => ?_)
              · exact ⟨(HB1.out.keep J).c7, (HB2.out.keep J).c7⟩
              clear hK K
              (try simp only [Act.put]); (try simp only [List.setIfInBounds_toArray]); (try simp only [List.set_cons_succ]); (try simp only [List.set_cons_zero])
              refine wpAnyH_ready (rs := [7]) (by kernel_rfl) (by simp) ?_
              refine AllReadyH.cons (o := ⟨_, _, _, _, _, _⟩) rfl (fun K hK => ?_) AllReadyH.nil
              · obtain ⟨c0, c1, c2, c3, c4, c5⟩ := hn6.c6
                obtain ⟨g0, g1, g2, g3, g4, g5⟩ := hn6.f6
                go_simp
                clear c0 c1 c2 c3 c4 c5 g0 g1 g2 g3 g4 g5
                replace hn5 := hn5.other6 HNE.out (.string z2.c.nm) (.int .i64 z2.c.kd) (.int .u16 (sv z2.c.M)) (.slice z2.ar z2.c.R.length z2.cr) (.slice z2.aw z2.c.Q.length z2.cw) (.slice z2.af z2.c.F.length z2.cf)
                replace hR1 := hR1.set6 hn6 (.string z2.c.nm) (.int .i64 z2.c.kd) (.int .u16 (sv z2.c.M)) (.slice z2.ar z2.c.R.length z2.cr) (.slice z2.aw z2.c.Q.length z2.cw) (.slice z2.af z2.c.F.length z2.cf)
                replace hR2 := hR2.set6 hn6 (.string z2.c.nm) (.int .i64 z2.c.kd) (.int .u16 (sv z2.c.M)) (.slice z2.ar z2.c.R.length z2.cr) (.slice z2.aw z2.c.Q.length z2.cw) (.slice z2.af z2.c.F.length z2.cf)
                replace hn6 := hn6.set6 (.string z2.c.nm) (.int .i64 z2.c.kd) (.int .u16 (sv z2.c.M)) (.slice z2.ar z2.c.R.length z2.cr) (.slice z2.aw z2.c.Q.length z2.cw) (.slice z2.af z2.c.F.length z2.cf)
                replace J := keeps_set6 J hg6 (.string z2.c.nm) (.int .i64 z2.c.kd) (.int .u16 (sv z2.c.M)) (.slice z2.ar z2.c.R.length z2.cr) (.slice z2.aw z2.c.Q.length z2.cw) (.slice z2.af z2.c.F.length z2.cf)
                generalize ((((((V9.setCell ⟨B6, 0, none⟩ (.string z2.c.nm)).setCell ⟨B6, 1, none⟩ (.int .i64 z2.c.kd)).setCell ⟨B6, 2, none⟩ (.int .u16 (sv z2.c.M))).setCell ⟨B6, 3, none⟩ (.slice z2.ar z2.c.R.length z2.cr)).setCell ⟨B6, 4, none⟩ (.slice z2.aw z2.c.Q.length z2.cw)).setCell ⟨B6, 5, none⟩ (.slice z2.af z2.c.F.length z2.cf)) = V10 at *
                refine hK.out _ _ ?_ (fun hHeld => ?_)
                · exact ⟨(HB1.out.keep J).c7, (HB2.out.keep J).c7⟩
                clear hK K
                (try simp only [Act.put]); (try simp only [List.setIfInBounds_toArray]); (try simp only [List.set_cons_succ]); (try simp only [List.set_cons_zero])
                refine wpAnyH_done (by kernel_rfl) ?_ _
                go_wp2_with fail
                go_meet
                case rel => exact ⟨B5, B6, z1, z2, rfl, rfl, HZ1.out, HZ2.out, hn5, hn6, hR1, hR2, J⟩
      · go_simp
        have hn5 := Blk.new V1 32 zG
        have hg5 : W2.heap.size ≤ V1.heap.size := J.size
        have KA := (Keeps.refl V1).alloc (.cells zG 32)
        replace hR1 := hR1.keep KA
        replace J := J.trans KA
        clear KA
        generalize V1.alloc (.cells zG 32) = V11 at *
        generalize V1.heap.size = B5 at *
        refine hK.out _ _ ?_ (fun hHeld => ?_)
        · exact ⟨(HB1.out.keep J).c7, (HB2.out.keep J).c7⟩
        clear hK K
        (try simp only [Act.put]); (try simp only [List.setIfInBounds_toArray]); (try simp only [List.set_cons_succ]); (try simp only [List.set_cons_zero])
        refine wpAnyH_ready (rs := [3, 5]) (by kernel_rfl) (by simp) ?_
        refine AllReadyH.cons (o := ⟨_, _, _, _, _, _⟩) rfl (fun K hK => ?_) (AllReadyH.cons (o := ⟨_, _, _, _, _, _⟩) rfl (fun K hK => ?_) AllReadyH.nil)
        · go_simp
          refine (HM.out _ _ _ _ _ _ _ _ _ _ _ _ _ _ _ (by first | exact Or.inl rfl | exact Or.inr rfl) (HKW.out.trans J)).mono ?_
          rintro e V12 ⟨z2, rfl, hz2, hR2, hK9⟩
          have HZ2 := Lib.hid hz2
          clear hz2
          replace hR1 := hR1.keep hK9
          replace hn5 := hn5.keep hK9
          replace J := J.trans hK9
          clear hK9
          unfold vg
          dsimp only
          refine hK.out _ _ ?_ (fun hHeld => ?_)
          · exact ⟨(HB1.out.keep J).c7, (HB2.out.keep J).c7⟩
          clear hK K
          (try simp only [Act.put]); (try simp only [List.setIfInBounds_toArray]); (try simp only [List.set_cons_succ]); (try simp only [List.set_cons_zero])
          refine wpAnyH_ready (rs := [5]) (by kernel_rfl) (by simp) ?_
          refine AllReadyH.cons (o := ⟨_, _, _, _, _, _⟩) rfl (fun K hK => ?_) AllReadyH.nil
          · go_simp
            have hn6 := Blk.new V12 32 zG
            have hg6 : W2.heap.size ≤ V12.heap.size := J.size
            have KA := (Keeps.refl V12).alloc (.cells zG 32)
            have hne : V12.heap.size ≠ B5 := by have := hn5.lt; omega
            replace hR1 := hR1.keep KA
            replace hR2 := hR2.keep KA
            replace hn5 := hn5.keep KA
            replace J := J.trans KA
            clear KA
            generalize V12.alloc (.cells zG 32) = V13 at *
            generalize V12.heap.size = B6 at *
            have HNE := Lib.hid (Ne.symm hne)
            clear hne
            refine hK.out _ _ ?_ (fun hHeld => ?_)
            · exact ⟨(HB1.out.keep J).c7, (HB2.out.keep J).c7⟩
            clear hK K
            (try simp only [Act.put]); (try simp only [List.setIfInBounds_toArray]); (try simp only [List.set_cons_succ]); (try simp only [List.set_cons_zero])
            refine wpAnyH_ready (rs := [6]) (by kernel_rfl) (by simp) ?_
            refine AllReadyH.cons (o := ⟨_, _, _, _, _, _⟩) rfl (fun K hK => ?_) AllReadyH.nil
            · obtain ⟨c0, c1, c2, c3, c4, c5⟩ := hn5.c6
              obtain ⟨g0, g1, g2, g3, g4, g5⟩ := hn5.f6
              go_simp
              clear c0 c1 c2 c3 c4 c5 g0 g1 g2 g3 g4 g5
              replace hn6 := hn6.other6 HNE.out.symm (.string z1.c.nm) (.int .i64 z1.c.kd) (.int .u16 (sv z1.c.M)) (.slice z1.ar z1.c.R.length z1.cr) (.slice z1.aw z1.c.Q.length z1.cw) (.slice z1.af z1.c.F.length z1.cf)
              replace hR1 := hR1.set6 hn5 (.string z1.c.nm) (.int .i64 z1.c.kd) (.int .u16 (sv z1.c.M)) (.slice z1.ar z1.c.R.length z1.cr) (.slice z1.aw z1.c.Q.length z1.cw) (.slice z1.af z1.c.F.length z1.cf)
              replace hR2 := hR2.set6 hn5 (.string z1.c.nm) (.int .i64 z1.c.kd) (.int .u16 (sv z1.c.M)) (.slice z1.ar z1.c.R.length z1.cr) (.slice z1.aw z1.c.Q.length z1.cw) (.slice z1.af z1.c.F.length z1.cf)
              replace hn5 := hn5.set6 (.string z1.c.nm) (.int .i64 z1.c.kd) (.int .u16 (sv z1.c.M)) (.slice z1.ar z1.c.R.length z1.cr) (.slice z1.aw z1.c.Q.length z1.cw) (.slice z1.af z1.c.F.length z1.cf)
              replace J := keeps_set6 J hg5 (.string z1.c.nm) (.int .i64 z1.c.kd) (.int .u16 (sv z1.c.M)) (.slice z1.ar z1.c.R.length z1.cr) (.slice z1.aw z1.c.Q.length z1.cw) (.slice z1.af z1.c.F.length z1.cf)
              generalize ((((((V13.setCell ⟨B5, 0, none⟩ (.string z1.c.nm)).setCell ⟨B5, 1, none⟩ (.int .i64 z1.c.kd)).setCell ⟨B5, 2, none⟩ (.int .u16 (sv z1.c.M))).setCell ⟨B5, 3, none⟩ (.slice z1.ar z1.c.R.length z1.cr)).setCell ⟨B5, 4, none⟩ (.slice z1.aw z1.c.Q.length z1.cw)).setCell ⟨B5, 5, none⟩ (.slice z1.af z1.c.F.length z1.cf)) = V14 at *
              refine hK.out _ _ ?_ (fun hHeld => ?_)
              · exact ⟨(HB1.out.keep J).c7, (HB2.out.keep J).c7⟩
              clear hK K
              (try simp only [Act.put]); (try simp only [List.setIfInBounds_toArray]); (try simp only [List.set_cons_succ]); (try simp only [List.set_cons_zero])
              refine wpAnyH_ready (rs := [7]) (by kernel_rfl) (by simp) ?_
              refine AllReadyH.cons (o := ⟨_, _, _, _, _, _⟩) rfl (fun K hK => ?_) AllReadyH.nil
              · obtain ⟨c0, c1, c2, c3, c4, c5⟩ := hn6.c6
                obtain ⟨g0, g1, g2, g3, g4, g5⟩ := hn6.f6
                go_simp
                clear c0 c1 c2 c3 c4 c5 g0 g1 g2 g3 g4 g5
                replace hn5 := hn5.other6 HNE.out (.string z2.c.nm) (.int .i64 z2.c.kd) (.int .u16 (sv z2.c.M)) (.slice z2.ar z2.c.R.length z2.cr) (.slice z2.aw z2.c.Q.length z2.cw) (.slice z2.af z2.c.F.length z2.cf)
                replace hR1 := hR1.set6 hn6 (.string z2.c.nm) (.int .i64 z2.c.kd) (.int .u16 (sv z2.c.M)) (.slice z2.ar z2.c.R.length z2.cr) (.slice z2.aw z2.c.Q.length z2.cw) (.slice z2.af z2.c.F.length z2.cf)
                replace hR2 := hR2.set6 hn6 (.string z2.c.nm) (.int .i64 z2.c.kd) (.int .u16 (sv z2.c.M)) (.slice z2.ar z2.c.R.length z2.cr) (.slice z2.aw z2.c.Q.length z2.cw) (.slice z2.af z2.c.F.length z2.cf)
                replace hn6 := hn6.set6 (.string z2.c.nm) (.int .i64 z2.c.kd) (.int .u16 (sv z2.c.M)) (.slice z2.ar z2.c.R.length z2.cr) (.slice z2.aw z2.c.Q.length z2.cw) (.slice z2.af z2.c.F.length z2.cf)
                replace J := keeps_set6 J hg6 (.string z2.c.nm) (.int .i64 z2.c.kd) (.int .u16 (sv z2.c.M)) (.slice z2.ar z2.c.R.length z2.cr) (.slice z2.aw z2.c.Q.length z2.cw) (.slice z2.af z2.c.F.length z2.cf)
                generalize ((((((V14.setCell ⟨B6, 0, none⟩ (.string z2.c.nm)).setCell ⟨B6, 1, none⟩ (.int .i64 z2.c.kd)).setCell ⟨B6, 2, none⟩ (.int .u16 (sv z2.c.M))).setCell ⟨B6, 3, none⟩ (.slice z2.ar z2.c.R.length z2.cr)).setCell ⟨B6, 4, none⟩ (.slice z2.aw z2.c.Q.length z2.cw)).setCell ⟨B6, 5, none⟩ (.slice z2.af z2.c.F.length z2.cf)) = V15 at *
                refine hK.out _ _ ?_ (fun hHeld => ?_)
                · exact ⟨(HB1.out.keep J).c7, (HB2.out.keep J).c7⟩
                clear hK K
                (try simp only [Act.put]); (try simp only [List.setIfInBounds_toArray]); (try simp only [List.set_cons_succ]); (try simp only [List.set_cons_zero])
                refine wpAnyH_done (by kernel_rfl) ?_ _
                go_wp2_with fail
                go_meet
                case rel => exact ⟨B5, B6, z1, z2, rfl, rfl, HZ1.out, HZ2.out, hn5, hn6, hR1, hR2, J⟩
        · go_simp
          have hn6 := Blk.new V11 32 zG
          have hg6 : W2.heap.size ≤ V11.heap.size := J.size
          have KA := (Keeps.refl V11).alloc (.cells zG 32)
          have hne : V11.heap.size ≠ B5 := by have := hn5.lt; omega
          replace hR1 := hR1.keep KA
          replace hn5 := hn5.keep KA
          replace J := J.trans KA
          clear KA
          generalize V11.alloc (.cells zG 32) = V16 at *
          generalize V11.heap.size = B6 at *
          have HNE := Lib.hid (Ne.symm hne)
          clear hne
          refine hK.out _ _ ?_ (fun hHeld => ?_)
          · exact ⟨(HB1.out.keep J).c7, (HB2.out.keep J).c7⟩
          clear hK K
          (try simp only [Act.put]); (try simp only [List.setIfInBounds_toArray]); (try simp only [List.set_cons_succ]); (try simp only [List.set_cons_zero])
          refine wpAnyH_ready (rs := [3]) (by kernel_rfl) (by simp) ?_
          refine AllReadyH.cons (o := ⟨_, _, _, _, _, _⟩) rfl (fun K hK => ?_) AllReadyH.nil
          · go_simp
            refine (HM.out _ _ _ _ _ _ _ _ _ _ _ _ _ _ _ (by first | exact Or.inl rfl | exact Or.inr rfl) (HKW.out.trans J)).mono ?_
            rintro e V17 ⟨z2, rfl, hz2, hR2, hK9⟩
            have HZ2 := Lib.hid hz2
            clear hz2
            replace hR1 := hR1.keep hK9
            replace hn5 := hn5.keep hK9
            replace hn6 := hn6.keep hK9
            replace J := J.trans hK9
            clear hK9
            unfold vg
            dsimp only
            refine hK.out _ _ ?_ (fun hHeld => ?_)
            · exact ⟨(HB1.out.keep J).c7, (HB2.out.keep J).c7⟩
            clear hK K
            (try simp only [Act.put]); (try simp only [List.setIfInBounds_toArray]); (try simp only [List.set_cons_succ]); (try simp only [List.set_cons_zero])
            refine wpAnyH_ready (rs := [6]) (by kernel_rfl) (by simp) ?_
            refine AllReadyH.cons (o := ⟨_, _, _, _, _, _⟩) rfl (fun K hK => ?_) AllReadyH.nil
            · obtain ⟨c0, c1, c2, c3, c4, c5⟩ := hn5.c6
              obtain ⟨g0, g1, g2, g3, g4, g5⟩ := hn5.f6
              go_simp
              clear c0 c1 c2 c3 c4 c5 g0 g1 g2 g3 g4 g5
              replace hn6 := hn6.other6 HNE.out.symm (.string z1.c.nm) (.int .i64 z1.c.kd) (.int .u16 (sv z1.c.M)) (.slice z1.ar z1.c.R.length z1.cr) (.slice z1.aw z1.c.Q.length z1.cw) (.slice z1.af z1.c.F.length z1.cf)
              replace hR1 := hR1.set6 hn5 (.string z1.c.nm) (.int .i64 z1.c.kd) (.int .u16 (sv z1.c.M)) (.slice z1.ar z1.c.R.length z1.cr) (.slice z1.aw z1.c.Q.length z1.cw) (.slice z1.af z1.c.F.length z1.cf)
              replace hR2 := hR2.set6 hn5 (.string z1.c.nm) (.int .i64 z1.c.kd) (.int .u16 (sv z1.c.M)) (.slice z1.ar z1.c.R.length z1.cr) (.slice z1.aw z1.c.Q.length z1.cw) (.slice z1.af z1.c.F.length z1.cf)
              replace hn5 := hn5.set6 (.string z1.c.nm) (.int .i64 z1.c.kd) (.int .u16 (sv z1.c.M)) (.slice z1.ar z1.c.R.length z1.cr) (.slice z1.aw z1.c.Q.length z1.cw) (.slice z1.af z1.c.F.length z1.cf)
              replace J := keeps_set6 J hg5 (.string z1.c.nm) (.int .i64 z1.c.kd) (.int .u16 (sv z1.c.M)) (.slice z1.ar z1.c.R.length z1.cr) (.slice z1.aw z1.c.Q.length z1.cw) (.slice z1.af z1.c.F.length z1.cf)
              generalize ((((((V17.setCell ⟨B5, 0, none⟩ (.string z1.c.nm)).setCell ⟨B5, 1, none⟩ (.int .i64 z1.c.kd)).setCell ⟨B5, 2, none⟩ (.int .u16 (sv z1.c.M))).setCell ⟨B5, 3, none⟩ (.slice z1.ar z1.c.R.length z1.cr)).setCell ⟨B5, 4, none⟩ (.slice z1.aw z1.c.Q.length z1.cw)).setCell ⟨B5, 5, none⟩ (.slice z1.af z1.c.F.length z1.cf)) = V18 at *
              refine hK.out _ _ ?_ (fun hHeld => ?_)
              · exact ⟨(HB1.out.keep J).c7, (HB2.out.keep J).c7⟩
              clear hK K
              (try simp only [Act.put]); (try simp only [List.setIfInBounds_toArray]); (try simp only [List.set_cons_succ]); (try simp only [List.set_cons_zero])
              refine wpAnyH_ready (rs := [7]) (by kernel_rfl) (by simp) ?_
              refine AllReadyH.cons (o := ⟨_, _, _, _, _, _⟩) rfl (fun K hK => ?_) AllReadyH.nil
              · obtain ⟨c0, c1, c2, c3, c4, c5⟩ := hn6.c6
                obtain ⟨g0, g1, g2, g3, g4, g5⟩ := hn6.f6
                go_simp
                clear c0 c1 c2 c3 c4 c5 g0 g1 g2 g3 g4 g5
                replace hn5 := hn5.other6 HNE.out (.string z2.c.nm) (.int .i64 z2.c.kd) (.int .u16 (sv z2.c.M)) (.slice z2.ar z2.c.R.length z2.cr) (.slice z2.aw z2.c.Q.length z2.cw) (.slice z2.af z2.c.F.length z2.cf)
                replace hR1 := hR1.set6 hn6 (.string z2.c.nm) (.int .i64 z2.c.kd) (.int .u16 (sv z2.c.M)) (.slice z2.ar z2.c.R.length z2.cr) (.slice z2.aw z2.c.Q.length z2.cw) (.slice z2.af z2.c.F.length z2.cf)
                replace hR2 := hR2.set6 hn6 (.string z2.c.nm) (.int .i64 z2.c.kd) (.int .u16 (sv z2.c.M)) (.slice z2.ar z2.c.R.length z2.cr) (.slice z2.aw z2.c.Q.length z2.cw) (.slice z2.af z2.c.F.length z2.cf)
                replace hn6 := hn6.set6 (.string z2.c.nm) (.int .i64 z2.c.kd) (.int .u16 (sv z2.c.M)) (.slice z2.ar z2.c.R.length z2.cr) (.slice z2.aw z2.c.Q.length z2.cw) (.slice z2.af z2.c.F.length z2.cf)
                replace J := keeps_set6 J hg6 (.string z2.c.nm) (.int .i64 z2.c.kd) (.int .u16 (sv z2.c.M)) (.slice z2.ar z2.c.R.length z2.cr) (.slice z2.aw z2.c.Q.length z2.cw) (.slice z2.af z2.c.F.length z2.cf)
                generalize ((((((V18.setCell ⟨B6, 0, none⟩ (.string z2.c.nm)).setCell ⟨B6, 1, none⟩ (.int .i64 z2.c.kd)).setCell ⟨B6, 2, none⟩ (.int .u16 (sv z2.c.M))).setCell ⟨B6, 3, none⟩ (.slice z2.ar z2.c.R.length z2.cr)).setCell ⟨B6, 4, none⟩ (.slice z2.aw z2.c.Q.length z2.cw)).setCell ⟨B6, 5, none⟩ (.slice z2.af z2.c.F.length z2.cf)) = V19 at *
                refine hK.out _ _ ?_ (fun hHeld => ?_)
                · exact ⟨(HB1.out.keep J).c7, (HB2.out.keep J).c7⟩
                clear hK K
                (try simp only [Act.put]); (try simp only [List.setIfInBounds_toArray]); (try simp only [List.set_cons_succ]); (try simp only [List.set_cons_zero])
                refine wpAnyH_done (by kernel_rfl) ?_ _
                go_wp2_with fail
                go_meet
                case rel => exact ⟨B5, B6, z1, z2, rfl, rfl, HZ1.out, HZ2.out, hn5, hn6, hR1, hR2, J⟩
      · go_simp
        have hn6 := Blk.new V1 32 zG
        have hg6 : W2.heap.size ≤ V1.heap.size := J.size
        have KA := (Keeps.refl V1).alloc (.cells zG 32)
        replace hR1 := hR1.keep KA
        replace J := J.trans KA
        clear KA
        generalize V1.alloc (.cells zG 32) = V20 at *
        generalize V1.heap.size = B6 at *
        refine hK.out _ _ ?_ (fun hHeld => ?_)
        · exact ⟨(HB1.out.keep J).c7, (HB2.out.keep J).c7⟩
        clear hK K
        (try simp only [Act.put]); (try simp only [List.setIfInBounds_toArray]); (try simp only [List.set_cons_succ]); (try simp only [List.set_cons_zero])
        refine wpAnyH_ready (rs := [3, 4]) (by kernel_rfl) (by simp) ?_
        refine AllReadyH.cons (o := ⟨_, _, _, _, _, _⟩) rfl (fun K hK => ?_) (AllReadyH.cons (o := ⟨_, _, _, _, _, _⟩) rfl (fun K hK => ?_) AllReadyH.nil)
        · go_simp
          refine (HM.out _ _ _ _ _ _ _ _ _ _ _ _ _ _ _ (by first | exact Or.inl rfl | exact Or.inr rfl) (HKW.out.trans J)).mono ?_
          rintro e V21 ⟨z2, rfl, hz2, hR2, hK9⟩
          have HZ2 := Lib.hid hz2
          clear hz2
          replace hR1 := hR1.keep hK9
          replace hn6 := hn6.keep hK9
          replace J := J.trans hK9
          clear hK9
          unfold vg
          dsimp only
          refine hK.out _ _ ?_ (fun hHeld => ?_)
          · exact ⟨(HB1.out.keep J).c7, (HB2.out.keep J).c7⟩
          clear hK K
          (try simp only [Act.put]); (try simp only [List.setIfInBounds_toArray]); (try simp only [List.set_cons_succ]); (try simp only [List.set_cons_zero])
          refine wpAnyH_ready (rs := [4]) (by kernel_rfl) (by simp) ?_
          refine AllReadyH.cons (o := ⟨_, _, _, _, _, _⟩) rfl (fun K hK => ?_) AllReadyH.nil
          · go_simp
            have hn5 := Blk.new V21 32 zG
            have hg5 : W2.heap.size ≤ V21.heap.size := J.size
            have KA := (Keeps.refl V21).alloc (.cells zG 32)
            have hne : V21.heap.size ≠ B6 := by have := hn6.lt; omega
            replace hR1 := hR1.keep KA
            replace hR2 := hR2.keep KA
            replace hn6 := hn6.keep KA
            replace J := J.trans KA
            clear KA
            generalize V21.alloc (.cells zG 32) = V22 at *
            generalize V21.heap.size = B5 at *
            have HNE := Lib.hid hne
            clear hne
            refine hK.out _ _ ?_ (fun hHeld => ?_)
            · exact ⟨(HB1.out.keep J).c7, (HB2.out.keep J).c7⟩
            clear hK K
            (try simp only [Act.put]); (try simp only [List.setIfInBounds_toArray]); (try simp only [List.set_cons_succ]); (try simp only [List.set_cons_zero])
            refine wpAnyH_ready (rs := [6]) (by kernel_rfl) (by simp) ?_
            refine AllReadyH.cons (o := ⟨_, _, _, _, _, _⟩) rfl (fun K hK => ?_) AllReadyH.nil
            · obtain ⟨c0, c1, c2, c3, c4, c5⟩ := hn5.c6
              obtain ⟨g0, g1, g2, g3, g4, g5⟩ := hn5.f6
              go_simp
              clear c0 c1 c2 c3 c4 c5 g0 g1 g2 g3 g4 g5
              replace hn6 := hn6.other6 HNE.out.symm (.string z1.c.nm) (.int .i64 z1.c.kd) (.int .u16 (sv z1.c.M)) (.slice z1.ar z1.c.R.length z1.cr) (.slice z1.aw z1.c.Q.length z1.cw) (.slice z1.af z1.c.F.length z1.cf)
              replace hR1 := hR1.set6 hn5 (.string z1.c.nm) (.int .i64 z1.c.kd) (.int .u16 (sv z1.c.M)) (.slice z1.ar z1.c.R.length z1.cr) (.slice z1.aw z1.c.Q.length z1.cw) (.slice z1.af z1.c.F.length z1.cf)
              replace hR2 := hR2.set6 hn5 (.string z1.c.nm) (.int .i64 z1.c.kd) (.int .u16 (sv z1.c.M)) (.slice z1.ar z1.c.R.length z1.cr) (.slice z1.aw z1.c.Q.length z1.cw) (.slice z1.af z1.c.F.length z1.cf)
              replace hn5 := hn5.set6 (.string z1.c.nm) (.int .i64 z1.c.kd) (.int .u16 (sv z1.c.M)) (.slice z1.ar z1.c.R.length z1.cr) (.slice z1.aw z1.c.Q.length z1.cw) (.slice z1.af z1.c.F.length z1.cf)
              replace J := keeps_set6 J hg5 (.string z1.c.nm) (.int .i64 z1.c.kd) (.int .u16 (sv z1.c.M)) (.slice z1.ar z1.c.R.length z1.cr) (.slice z1.aw z1.c.Q.length z1.cw) (.slice z1.af z1.c.F.length z1.cf)
              generalize ((((((V22.setCell ⟨B5, 0, none⟩ (.string z1.c.nm)).setCell ⟨B5, 1, none⟩ (.int .i64 z1.c.kd)).setCell ⟨B5, 2, none⟩ (.int .u16 (sv z1.c.M))).setCell ⟨B5, 3, none⟩ (.slice z1.ar z1.c.R.length z1.cr)).setCell ⟨B5, 4, none⟩ (.slice z1.aw z1.c.Q.length z1.cw)).setCell ⟨B5, 5, none⟩ (.slice z1.af z1.c.F.length z1.cf)) = V23 at *
              refine hK.out _ _ ?_ (fun hHeld => ?_)
              · exact ⟨(HB1.out.keep J).c7, (HB2.out.keep J).c7⟩
              clear hK K
              (try simp only [Act.put]); (try simp only [List.setIfInBounds_toArray]); (try simp only [List.set_cons_succ]); (try simp only [List.set_cons_zero])
              refine wpAnyH_ready (rs := [7]) (by kernel_rfl) (by simp) ?_
              refine AllReadyH.cons (o := ⟨_, _, _, _, _, _⟩) rfl (fun K hK => ?_) AllReadyH.nil
              · obtain ⟨c0, c1, c2, c3, c4, c5⟩ := hn6.c6
                obtain ⟨g0, g1, g2, g3, g4, g5⟩ := hn6.f6
                go_simp
                clear c0 c1 c2 c3 c4 c5 g0 g1 g2 g3 g4 g5
                replace hn5 := hn5.other6 HNE.out (.string z2.c.nm) (.int .i64 z2.c.kd) (.int .u16 (sv z2.c.M)) (.slice z2.ar z2.c.R.length z2.cr) (.slice z2.aw z2.c.Q.length z2.cw) (.slice z2.af z2.c.F.length z2.cf)
                replace hR1 := hR1.set6 hn6 (.string z2.c.nm) (.int .i64 z2.c.kd) (.int .u16 (sv z2.c.M)) (.slice z2.ar z2.c.R.length z2.cr) (.slice z2.aw z2.c.Q.length z2.cw) (.slice z2.af z2.c.F.length z2.cf)
                replace hR2 := hR2.set6 hn6 (.string z2.c.nm) (.int .i64 z2.c.kd) (.int .u16 (sv z2.c.M)) (.slice z2.ar z2.c.R.length z2.cr) (.slice z2.aw z2.c.Q.length z2.cw) (.slice z2.af z2.c.F.length z2.cf)
                replace hn6 := hn6.set6 (.string z2.c.nm) (.int .i64 z2.c.kd) (.int .u16 (sv z2.c.M)) (.slice z2.ar z2.c.R.length z2.cr) (.slice z2.aw z2.c.Q.length z2.cw) (.slice z2.af z2.c.F.length z2.cf)
                replace J := keeps_set6 J hg6 (.string z2.c.nm) (.int .i64 z2.c.kd) (.int .u16 (sv z2.c.M)) (.slice z2.ar z2.c.R.length z2.cr) (.slice z2.aw z2.c.Q.length z2.cw) (.slice z2.af z2.c.F.length z2.cf)
                generalize ((((((V23.setCell ⟨B6, 0, none⟩ (.string z2.c.nm)).setCell ⟨B6, 1, none⟩ (.int .i64 z2.c.kd)).setCell ⟨B6, 2, none⟩ (.int .u16 (sv z2.c.M))).setCell ⟨B6, 3, none⟩ (.slice z2.ar z2.c.R.length z2.cr)).setCell ⟨B6, 4, none⟩ (.slice z2.aw z2.c.Q.length z2.cw)).setCell ⟨B6, 5, none⟩ (.slice z2.af z2.c.F.length z2.cf)) = V24 at *
                refine hK.out _ _ ?_ (fun hHeld => ?_)
                · exact ⟨(HB1.out.keep J).c7, (HB2.out.keep J).c7⟩
                clear hK K
                (try simp only [Act.put]); (try simp only [List.setIfInBounds_toArray]); (try simp only [List.set_cons_succ]); (try simp only [List.set_cons_zero])
                refine wpAnyH_done (by kernel_rfl) ?_ _
                go_wp2_with fail
                go_meet
                case rel => exact ⟨B5, B6, z1, z2, rfl, rfl, HZ1.out, HZ2.out, hn5, hn6, hR1, hR2, J⟩
        · go_simp
          have hn5 := Blk.new V20 32 zG
          have hg5 : W2.heap.size ≤ V20.heap.size := J.size
          have KA := (Keeps.refl V20).alloc (.cells zG 32)
          have hne : V20.heap.size ≠ B6 := by have := hn6.lt; omega
          replace hR1 := hR1.keep KA
          replace hn6 := hn6.keep KA
          replace J := J.trans KA
          clear KA
          generalize V20.alloc (.cells zG 32) = V25 at *
          generalize V20.heap.size = B5 at *
          have HNE := Lib.hid hne
          clear hne
          refine hK.out _ _ ?_ (fun hHeld => ?_)
          · exact ⟨(HB1.out.keep J).c7, (HB2.out.keep J).c7⟩
          clear hK K
          (try simp only [Act.put]); (try simp only [List.setIfInBounds_toArray]); (try simp only [List.set_cons_succ]); (try simp only [List.set_cons_zero])
          refine wpAnyH_ready (rs := [3]) (by kernel_rfl) (by simp) ?_
          refine AllReadyH.cons (o := ⟨_, _, _, _, _, _⟩) rfl (fun K hK => ?_) AllReadyH.nil
          · go_simp
            refine (HM.out _ _ _ _ _ _ _ _ _ _ _ _ _ _ _ (by first | exact Or.inl rfl | exact Or.inr rfl) (HKW.out.trans J)).mono ?_
            rintro e V26 ⟨z2, rfl, hz2, hR2, hK9⟩
            have HZ2 := Lib.hid hz2
            clear hz2
            replace hR1 := hR1.keep hK9
            replace hn5 := hn5.keep hK9
            replace hn6 := hn6.keep hK9
            replace J := J.trans hK9
            clear hK9
            unfold vg
            dsimp only
            refine hK.out _ _ ?_ (fun hHeld => ?_)
            · exact ⟨(HB1.out.keep J).c7, (HB2.out.keep J).c7⟩
            clear hK K
            (try simp only [Act.put]); (try simp only [List.setIfInBounds_toArray]); (try simp only [List.set_cons_succ]); (try simp only [List.set_cons_zero])
            refine wpAnyH_ready (rs := [6]) (by kernel_rfl) (by simp) ?_
            refine AllReadyH.cons (o := ⟨_, _, _, _, _, _⟩) rfl (fun K hK => ?_) AllReadyH.nil
            · obtain ⟨c0, c1, c2, c3, c4, c5⟩ := hn5.c6
              obtain ⟨g0, g1, g2, g3, g4, g5⟩ := hn5.f6
              go_simp
              clear c0 c1 c2 c3 c4 c5 g0 g1 g2 g3 g4 g5
              replace hn6 := hn6.other6 HNE.out.symm (.string z1.c.nm) (.int .i64 z1.c.kd) (.int .u16 (sv z1.c.M)) (.slice z1.ar z1.c.R.length z1.cr) (.slice z1.aw z1.c.Q.length z1.cw) (.slice z1.af z1.c.F.length z1.cf)
              replace hR1 := hR1.set6 hn5 (.string z1.c.nm) (.int .i64 z1.c.kd) (.int .u16 (sv z1.c.M)) (.slice z1.ar z1.c.R.length z1.cr) (.slice z1.aw z1.c.Q.length z1.cw) (.slice z1.af z1.c.F.length z1.cf)
              replace hR2 := hR2.set6 hn5 (.string z1.c.nm) (.int .i64 z1.c.kd) (.int .u16 (sv z1.c.M)) (.slice z1.ar z1.c.R.length z1.cr) (.slice z1.aw z1.c.Q.length z1.cw) (.slice z1.af z1.c.F.length z1.cf)
              replace hn5 := hn5.set6 (.string z1.c.nm) (.int .i64 z1.c.kd) (.int .u16 (sv z1.c.M)) (.slice z1.ar z1.c.R.length z1.cr) (.slice z1.aw z1.c.Q.length z1.cw) (.slice z1.af z1.c.F.length z1.cf)
              replace J := keeps_set6 J hg5 (.string z1.c.nm) (.int .i64 z1.c.kd) (.int .u16 (sv z1.c.M)) (.slice z1.ar z1.c.R.length z1.cr) (.slice z1.aw z1.c.Q.length z1.cw) (.slice z1.af z1.c.F.length z1.cf)
              generalize ((((((V26.setCell ⟨B5, 0, none⟩ (.string z1.c.nm)).setCell ⟨B5, 1, none⟩ (.int .i64 z1.c.kd)).setCell ⟨B5, 2, none⟩ (.int .u16 (sv z1.c.M))).setCell ⟨B5, 3, none⟩ (.slice z1.ar z1.c.R.length z1.cr)).setCell ⟨B5, 4, none⟩ (.slice z1.aw z1.c.Q.length z1.cw)).setCell ⟨B5, 5, none⟩ (.slice z1.af z1.c.F.length z1.cf)) = V27 at *
              refine hK.out _ _ ?_ (fun hHeld => ?_)
              · exact ⟨(HB1.out.keep J).c7, (HB2.out.keep J).c7⟩
              clear hK K
              (try simp only [Act.put]); (try simp only [List.setIfInBounds_toArray]); (try simp only [List.set_cons_succ]); (try simp only [List.set_cons_zero])
              refine wpAnyH_ready (rs := [7]) (by kernel_rfl) (by simp) ?_
              refine AllReadyH.cons (o := ⟨_, _, _, _, _, _⟩) rfl (fun K hK => ?_) AllReadyH.nil
              · obtain ⟨c0, c1, c2, c3, c4, c5⟩ := hn6.c6
                obtain ⟨g0, g1, g2, g3, g4, g5⟩ := hn6.f6
                go_simp
                clear c0 c1 c2 c3 c4 c5 g0 g1 g2 g3 g4 g5
                replace hn5 := hn5.other6 HNE.out (.string z2.c.nm) (.int .i64 z2.c.kd) (.int .u16 (sv z2.c.M)) (.slice z2.ar z2.c.R.length z2.cr) (.slice z2.aw z2.c.Q.length z2.cw) (.slice z2.af z2.c.F.length z2.cf)
                replace hR1 := hR1.set6 hn6 (.string z2.c.nm) (.int .i64 z2.c.kd) (.int .u16 (sv z2.c.M)) (.slice z2.ar z2.c.R.length z2.cr) (.slice z2.aw z2.c.Q.length z2.cw) (.slice z2.af z2.c.F.length z2.cf)
                replace hR2 := hR2.set6 hn6 (.string z2.c.nm) (.int .i64 z2.c.kd) (.int .u16 (sv z2.c.M)) (.slice z2.ar z2.c.R.length z2.cr) (.slice z2.aw z2.c.Q.length z2.cw) (.slice z2.af z2.c.F.length z2.cf)
                replace hn6 := hn6.set6 (.string z2.c.nm) (.int .i64 z2.c.kd) (.int .u16 (sv z2.c.M)) (.slice z2.ar z2.c.R.length z2.cr) (.slice z2.aw z2.c.Q.length z2.cw) (.slice z2.af z2.c.F.length z2.cf)
                replace J := keeps_set6 J hg6 (.string z2.c.nm) (.int .i64 z2.c.kd) (.int .u16 (sv z2.c.M)) (.slice z2.ar z2.c.R.length z2.cr) (.slice z2.aw z2.c.Q.length z2.cw) (.slice z2.af z2.c.F.length z2.cf)
                generalize ((((((V27.setCell ⟨B6, 0, none⟩ (.string z2.c.nm)).setCell ⟨B6, 1, none⟩ (.int .i64 z2.c.kd)).setCell ⟨B6, 2, none⟩ (.int .u16 (sv z2.c.M))).setCell ⟨B6, 3, none⟩ (.slice z2.ar z2.c.R.length z2.cr)).setCell ⟨B6, 4, none⟩ (.slice z2.aw z2.c.Q.length z2.cw)).setCell ⟨B6, 5, none⟩ (.slice z2.af z2.c.F.length z2.cf)) = V28 at *
                refine hK.out _ _ ?_ (fun hHeld => ?_)
                · exact ⟨(HB1.out.keep J).c7, (HB2.out.keep J).c7⟩
                clear hK K
                (try simp only [Act.put]); (try simp only [List.setIfInBounds_toArray]); (try simp only [List.set_cons_succ]); (try simp only [List.set_cons_zero])
                refine wpAnyH_done (by kernel_rfl) ?_ _
                go_wp2_with fail
                go_meet
                case rel => exact ⟨B5, B6, z1, z2, rfl, rfl, HZ1.out, HZ2.out, hn5, hn6, hR1, hR2, J⟩
    · go_simp
      have hn5 := Blk.new V0 32 zG
      have hg5 : W2.heap.size ≤ V0.heap.size := J.size
      have KA := (Keeps.refl V0).alloc (.cells zG 32)
      replace J := J.trans KA
      clear KA
      generalize V0.alloc (.cells zG 32) = V29 at *
      generalize V0.heap.size = B5 at *
      refine hK.out _ _ ?_ (fun hHeld => ?_)
      · exact ⟨(HB1.out.keep J).c7, (HB2.out.keep J).c7⟩
      clear hK K
      (try simp only [Act.put]); (try simp only [List.setIfInBounds_toArray]); (try simp only [List.set_cons_succ]); (try simp only [List.set_cons_zero])
      refine wpAnyH_ready (rs := [1, 5]) (by kernel_rfl) (by simp) ?_
      refine AllReadyH.cons (o := ⟨_, _, _, _, _, _⟩) rfl (fun K hK => ?_) (AllReadyH.cons (o := ⟨_, _, _, _, _, _⟩) rfl (fun K hK => ?_) AllReadyH.nil)
      · go_simp
        refine (HM.out _ _ _ _ _ _ _ _ _ _ _ _ _ _ _ (by first | exact Or.inl rfl | exact Or.inr rfl) (HKW.out.trans J)).mono ?_
        rintro e V30 ⟨z1, rfl, hz1, hR1, hK9⟩
        have HZ1 := Lib.hid hz1
        clear hz1
        replace hn5 := hn5.keep hK9
        replace J := J.trans hK9
        clear hK9
        unfold vg
        dsimp only
        refine hK.out _ _ ?_ (fun hHeld => ?_)
        · exact ⟨(HB1.out.keep J).c7, (HB2.out.keep J).c7⟩
        clear hK K
        (try simp only [Act.put]); (try simp only [List.setIfInBounds_toArray]); (try simp only [List.set_cons_succ]); (try simp only [List.set_cons_zero])
        refine wpAnyH_ready (rs := [3, 5]) (by kernel_rfl) (by simp) ?_
        refine AllReadyH.cons (o := ⟨_, _, _, _, _, _⟩) rfl (fun K hK => ?_) (AllReadyH.cons (o := ⟨_, _, _, _, _, _⟩) rfl (fun K hK => ?_) AllReadyH.nil)
        · go_simp
          refine (HM.out _ _ _ _ _ _ _ _ _ _ _ _ _ _ _ (by first | exact Or.inl rfl | exact Or.inr rfl) (HKW.out.trans J)).mono ?_
          rintro e V31 ⟨z2, rfl, hz2, hR2, hK9⟩
          have HZ2 := Lib.hid hz2
          clear hz2
          replace hR1 := hR1.keep hK9
          replace hn5 := hn5.keep hK9
          replace J := J.trans hK9
          clear hK9
          unfold vg
          dsimp only
          refine hK.out _ _ ?_ (fun hHeld => ?_)
          · exact ⟨(HB1.out.keep J).c7, (HB2.out.keep J).c7⟩
          clear hK K
          (try simp only [Act.put]); (try simp only [List.setIfInBounds_toArray]); (try simp only [List.set_cons_succ]); (try simp only [List.set_cons_zero])
          refine wpAnyH_ready (rs := [5]) (by kernel_rfl) (by simp) ?_
          refine AllReadyH.cons (o := ⟨_, _, _, _, _, _⟩) rfl (fun K hK => ?_) AllReadyH.nil
          · go_simp
            have hn6 := Blk.new V31 32 zG
            have hg6 : W2.heap.size ≤ V31.heap.size := J.size
            have KA := (Keeps.refl V31).alloc (.cells zG 32)
            have hne : V31.heap.size ≠ B5 := by have := hn5.lt; omega
            replace hR1 := hR1.keep KA
            replace hR2 := hR2.keep KA
            replace hn5 := hn5.keep KA
            replace J := J.trans KA
            clear KA
            generalize V31.alloc (.cells zG 32) = V32 at *
            generalize V31.heap.size = B6 at *
            have HNE := Lib.hid (Ne.symm hne)
            clear hne
            refine hK.out _ _ ?_ (fun hHeld => ?_)
            · exact ⟨(HB1.out.keep J).c7, (HB2.out.keep J).c7⟩
            clear hK K
            (try simp only [Act.put]); (try simp only [List.setIfInBounds_toArray]); (try simp only [List.set_cons_succ]); (try simp only [List.set_cons_zero])
            refine wpAnyH_ready (rs := [6]) (by kernel_rfl) (by simp) ?_
            refine AllReadyH.cons (o := ⟨_, _, _, _, _, _⟩) rfl (fun K hK => ?_) AllReadyH.nil
            · obtain ⟨c0, c1, c2, c3, c4, c5⟩ := hn5.c6
              obtain ⟨g0, g1, g2, g3, g4, g5⟩ := hn5.f6
              go_simp
              clear c0 c1 c2 c3 c4 c5 g0 g1 g2 g3 g4 g5
              replace hn6 := hn6.other6 HNE.out.symm (.string z1.c.nm) (.int .i64 z1.c.kd) (.int .u16 (sv z1.c.M)) (.slice z1.ar z1.c.R.length z1.cr) (.slice z1.aw z1.c.Q.length z1.cw) (.slice z1.af z1.c.F.length z1.cf)
              replace hR1 := hR1.set6 hn5 (.string z1.c.nm) (.int .i64 z1.c.kd) (.int .u16 (sv z1.c.M)) (.slice z1.ar z1.c.R.length z1.cr) (.slice z1.aw z1.c.Q.length z1.cw) (.slice z1.af z1.c.F.length z1.cf)
              replace hR2 := hR2.set6 hn5 (.string z1.c.nm) (.int .i64 z1.c.kd) (.int .u16 (sv z1.c.M)) (.slice z1.ar z1.c.R.length z1.cr) (.slice z1.aw z1.c.Q.length z1.cw) (.slice z1.af z1.c.F.length z1.cf)
              replace hn5 := hn5.set6 (.string z1.c.nm) (.int .i64 z1.c.kd) (.int .u16 (sv z1.c.M)) (.slice z1.ar z1.c.R.length z1.cr) (.slice z1.aw z1.c.Q.length z1.cw) (.slice z1.af z1.c.F.length z1.cf)
              replace J := keeps_set6 J hg5 (.string z1.c.nm) (.int .i64 z1.c.kd) (.int .u16 (sv z1.c.M)) (.slice z1.ar z1.c.R.length z1.cr) (.slice z1.aw z1.c.Q.length z1.cw) (.slice z1.af z1.c.F.length z1.cf)
              generalize ((((((V32.setCell ⟨B5, 0, none⟩ (.string z1.c.nm)).setCell ⟨B5, 1, none⟩ (.int .i64 z1.c.kd)).setCell ⟨B5, 2, none⟩ (.int .u16 (sv z1.c.M))).setCell ⟨B5, 3, none⟩ (.slice z1.ar z1.c.R.length z1.cr)).setCell ⟨B5, 4, none⟩ (.slice z1.aw z1.c.Q.length z1.cw)).setCell ⟨B5, 5, none⟩ (.slice z1.af z1.c.F.length z1.cf)) = V33 at *
              refine hK.out _ _ ?_ (fun hHeld => ?_)
              · exact ⟨(HB1.out.keep J).c7, (HB2.out.keep J).c7⟩
              clear hK K
              (try simp only [Act.put]); (try simp only [List.setIfInBounds_toArray]); (try simp only [List.set_cons_succ]); (try simp only [List.set_cons_zero])
              refine wpAnyH_ready (rs := [7]) (by kernel_rfl) (by simp) ?_
              refine AllReadyH.cons (o := ⟨_, _, _, _, _, _⟩) rfl (fun K hK => ?_) AllReadyH.nil
              · obtain ⟨c0, c1, c2, c3, c4, c5⟩ := hn6.c6
                obtain ⟨g0, g1, g2, g3, g4, g5⟩ := hn6.f6
                go_simp
                clear c0 c1 c2 c3 c4 c5 g0 g1 g2 g3 g4 g5
                replace hn5 := hn5.other6 HNE.out (.string z2.c.nm) (.int .i64 z2.c.kd) (.int .u16 (sv z2.c.M)) (.slice z2.ar z2.c.R.length z2.cr) (.slice z2.aw z2.c.Q.length z2.cw) (.slice z2.af z2.c.F.length z2.cf)
                replace hR1 := hR1.set6 hn6 (.string z2.c.nm) (.int .i64 z2.c.kd) (.int .u16 (sv z2.c.M)) (.slice z2.ar z2.c.R.length z2.cr) (.slice z2.aw z2.c.Q.length z2.cw) (.slice z2.af z2.c.F.length z2.cf)
                replace hR2 := hR2.set6 hn6 (.string z2.c.nm) (.int .i64 z2.c.kd) (.int .u16 (sv z2.c.M)) (.slice z2.ar z2.c.R.length z2.cr) (.slice z2.aw z2.c.Q.length z2.cw) (.slice z2.af z2.c.F.length z2.cf)
                replace hn6 := hn6.set6 (.string z2.c.nm) (.int .i64 z2.c.kd) (.int .u16 (sv z2.c.M)) (.slice z2.ar z2.c.R.length z2.cr) (.slice z2.aw z2.c.Q.length z2.cw) (.slice z2.af z2.c.F.length z2.cf)
                replace J := keeps_set6 J hg6 (.string z2.c.nm) (.int .i64 z2.c.kd) (.int .u16 (sv z2.c.M)) (.slice z2.ar z2.c.R.length z2.cr) (.slice z2.aw z2.c.Q.length z2.cw) (.slice z2.af z2.c.F.length z2.cf)
                generalize ((((((V33.setCell ⟨B6, 0, none⟩ (.string z2.c.nm)).setCell ⟨B6, 1, none⟩ (.int .i64 z2.c.kd)).setCell ⟨B6, 2, none⟩ (.int .u16 (sv z2.c.M))).setCell ⟨B6, 3, none⟩ (.slice z2.ar z2.c.R.length z2.cr)).setCell ⟨B6, 4, none⟩ (.slice z2.aw z2.c.Q.length z2.cw)).setCell ⟨B6, 5, none⟩ (.slice z2.af z2.c.F.length z2.cf)) = V34 at *
                refine hK.out _ _ ?_ (fun hHeld => ?_)
                · exact ⟨(HB1.out.keep J).c7, (HB2.out.keep J).c7⟩
                clear hK K
                (try simp only [Act.put]); (try simp only [List.setIfInBounds_toArray]); (try simp only [List.set_cons_succ]); (try simp only [List.set_cons_zero])
                refine wpAnyH_done (by kernel_rfl) ?_ _
                go_wp2_with fail
                go_meet
                case rel => exact ⟨B5, B6, z1, z2, rfl, rfl, HZ1.out, HZ2.out, hn5, hn6, hR1, hR2, J⟩
        · go_simp
          have hn6 := Blk.new V30 32 zG
          have hg6 : W2.heap.size ≤ V30.heap.size := J.size
          have KA := (Keeps.refl V30).alloc (.cells zG 32)
          have hne : V30.heap.size ≠ B5 := by have := hn5.lt; omega
          replace hR1 := hR1.keep KA
          replace hn5 := hn5.keep KA
          replace J := J.trans KA
          clear KA
          generalize V30.alloc (.cells zG 32) = V35 at *
          generalize V30.heap.size = B6 at *
          have HNE := Lib.hid (Ne.symm hne)
          clear hne
          refine hK.out _ _ ?_ (fun hHeld => ?_)
          · exact ⟨(HB1.out.keep J).c7, (HB2.out.keep J).c7⟩
          clear hK K
          (try simp only [Act.put]); (try simp only [List.setIfInBounds_toArray]); (try simp only [List.set_cons_succ]); (try simp only [List.set_cons_zero])
          refine wpAnyH_ready (rs := [3]) (by kernel_rfl) (by simp) ?_
          refine AllReadyH.cons (o := ⟨_, _, _, _, _, _⟩) rfl (fun K hK => ?_) AllReadyH.nil
          · go_simp
            refine (HM.out _ _ _ _ _ _ _ _ _ _ _ _ _ _ _ (by first | exact Or.inl rfl | exact Or.inr rfl) (HKW.out.trans J)).mono ?_
            rintro e V36 ⟨z2, rfl, hz2, hR2, hK9⟩
            have HZ2 := Lib.hid hz2
            clear hz2
            replace hR1 := hR1.keep hK9
            replace hn5 := hn5.keep hK9
            replace hn6 := hn6.keep hK9
            replace J := J.trans hK9
            clear hK9
            unfold vg
            dsimp only
            refine hK.out _ _ ?_ (fun hHeld => ?_)
            · exact ⟨(HB1.out.keep J).c7, (HB2.out.keep J).c7⟩
            clear hK K
            (try simp only [Act.put]); (try simp only [List.setIfInBounds_toArray]); (try simp only [List.set_cons_succ]); (try simp only [List.set_cons_zero])
            refine wpAnyH_ready (rs := [6]) (by kernel_rfl) (by simp) ?_
            refine AllReadyH.cons (o := ⟨_, _, _, _, _, _⟩) rfl (fun K hK => ?_) AllReadyH.nil
            · obtain ⟨c0, c1, c2, c3, c4, c5⟩ := hn5.c6
              obtain ⟨g0, g1, g2, g3, g4, g5⟩ := hn5.f6
              go_simp
              clear c0 c1 c2 c3 c4 c5 g0 g1 g2 g3 g4 g5
              replace hn6 := hn6.other6 HNE.out.symm (.string z1.c.nm) (.int .i64 z1.c.kd) (.int .u16 (sv z1.c.M)) (.slice z1.ar z1.c.R.length z1.cr) (.slice z1.aw z1.c.Q.length z1.cw) (.slice z1.af z1.c.F.length z1.cf)
              replace hR1 := hR1.set6 hn5 (.string z1.c.nm) (.int .i64 z1.c.kd) (.int .u16 (sv z1.c.M)) (.slice z1.ar z1.c.R.length z1.cr) (.slice z1.aw z1.c.Q.length z1.cw) (.slice z1.af z1.c.F.length z1.cf)
              replace hR2 := hR2.set6 hn5 (.string z1.c.nm) (.int .i64 z1.c.kd) (.int .u16 (sv z1.c.M)) (.slice z1.ar z1.c.R.length z1.cr) (.slice z1.aw z1.c.Q.length z1.cw) (.slice z1.af z1.c.F.length z1.cf)
              replace hn5 := hn5.set6 (.string z1.c.nm) (.int .i64 z1.c.kd) (.int .u16 (sv z1.c.M)) (.slice z1.ar z1.c.R.length z1.cr) (.slice z1.aw z1.c.Q.length z1.cw) (.slice z1.af z1.c.F.length z1.cf)
              replace J := keeps_set6 J hg5 (.string z1.c.nm) (.int .i64 z1.c.kd) (.int .u16 (sv z1.c.M)) (.slice z1.ar z1.c.R.length z1.cr) (.slice z1.aw z1.c.Q.length z1.cw) (.slice z1.af z1.c.F.length z1.cf)
              generalize ((((((V36.setCell ⟨B5, 0, none⟩ (.string z1.c.nm)).setCell ⟨B5, 1, none⟩ (.int .i64 z1.c.kd)).setCell ⟨B5, 2, none⟩ (.int .u16 (sv z1.c.M))).setCell ⟨B5, 3, none⟩ (.slice z1.ar z1.c.R.length z1.cr)).setCell ⟨B5, 4, none⟩ (.slice z1.aw z1.c.Q.length z1.cw)).setCell ⟨B5, 5, none⟩ (.slice z1.af z1.c.F.length z1.cf)) = V37 at *
              refine hK.out _ _ ?_ (fun hHeld => ?_)
              · exact ⟨(HB1.out.keep J).c7, (HB2.out.keep J).c7⟩
              clear hK K
              (try simp only [Act.put]); (try simp only [List.setIfInBounds_toArray]); (try simp only [List.set_cons_succ]); (try simp only [List.set_cons_zero])
              refine wpAnyH_ready (rs := [7]) (by kernel_rfl) (by simp) ?_
              refine AllReadyH.cons (o := ⟨_, _, _, _, _, _⟩) rfl (fun K hK => ?_) AllReadyH.nil
              · obtain ⟨c0, c1, c2, c3, c4, c5⟩ := hn6.c6
                obtain ⟨g0, g1, g2, g3, g4, g5⟩ := hn6.f6
                go_simp
                clear c0 c1 c2 c3 c4 c5 g0 g1 g2 g3 g4 g5
                replace hn5 := hn5.other6 HNE.out (.string z2.c.nm) (.int .i64 z2.c.kd) (.int .u16 (sv z2.c.M)) (.slice z2.ar z2.c.R.length z2.cr) (.slice z2.aw z2.c.Q.length z2.cw) (.slice z2.af z2.c.F.length z2.cf)
                replace hR1 := hR1.set6 hn6 (.string z2.c.nm) (.int .i64 z2.c.kd) (.int .u16 (sv z2.c.M)) (.slice z2.ar z2.c.R.length z2.cr) (.slice z2.aw z2.c.Q.length z2.cw) (.slice z2.af z2.c.F.length z2.cf)
                replace hR2 := hR2.set6 hn6 (.string z2.c.nm) (.int .i64 z2.c.kd) (.int .u16 (sv z2.c.M)) (.slice z2.ar z2.c.R.length z2.cr) (.slice z2.aw z2.c.Q.length z2.cw) (.slice z2.af z2.c.F.length z2.cf)
                replace hn6 := hn6.set6 (.string z2.c.nm) (.int .i64 z2.c.kd) (.int .u16 (sv z2.c.M)) (.slice z2.ar z2.c.R.length z2.cr) (.slice z2.aw z2.c.Q.length z2.cw) (.slice z2.af z2.c.F.length z2.cf)
                replace J := keeps_set6 J hg6 (.string z2.c.nm) (.int .i64 z2.c.kd) (.int .u16 (sv z2.c.M)) (.slice z2.ar z2.c.R.length z2.cr) (.slice z2.aw z2.c.Q.length z2.cw) (.slice z2.af z2.c.F.length z2.cf)
                generalize ((((((V37.setCell ⟨B6, 0, none⟩ (.string z2.c.nm)).setCell ⟨B6, 1, none⟩ (.int .i64 z2.c.kd)).setCell ⟨B6, 2, none⟩ (.int .u16 (sv z2.c.M))).setCell ⟨B6, 3, none⟩ (.slice z2.ar z2.c.R.length z2.cr)).setCell ⟨B6, 4, none⟩ (.slice z2.aw z2.c.Q.length z2.cw)).setCell ⟨B6, 5, none⟩ (.slice z2.af z2.c.F.length z2.cf)) = V38 at *
                refine hK.out _ _ ?_ (fun hHeld => ?_)
                · exact ⟨(HB1.out.keep J).c7, (HB2.out.keep J).c7⟩
                clear hK K
                (try simp only [Act.put]); (try simp only [List.setIfInBounds_toArray]); (try simp only [List.set_cons_succ]); (try simp only [List.set_cons_zero])
                refine wpAnyH_done (by kernel_rfl) ?_ _
                go_wp2_with fail
                go_meet
                case rel => exact ⟨B5, B6, z1, z2, rfl, rfl, HZ1.out, HZ2.out, hn5, hn6, hR1, hR2, J⟩
      · go_simp
        have hn6 := Blk.new V29 32 zG
        have hg6 : W2.heap.size ≤ V29.heap.size := J.size
        have KA := (Keeps.refl V29).alloc (.cells zG 32)
        have hne : V29.heap.size ≠ B5 := by have := hn5.lt; omega
        replace hn5 := hn5.keep KA
        replace J := J.trans KA
        clear KA
        generalize V29.alloc (.cells zG 32) = V39 at *
        generalize V29.heap.size = B6 at *
        have HNE := Lib.hid (Ne.symm hne)
        clear hne
        refine hK.out _ _ ?_ (fun hHeld => ?_)
        · exact ⟨(HB1.out.keep J).c7, (HB2.out.keep J).c7⟩
        clear hK K
        (try simp only [Act.put]); (try simp only [List.setIfInBounds_toArray]); (try simp only [List.set_cons_succ]); (try simp only [List.set_cons_zero])
        refine wpAnyH_ready (rs := [1]) (by kernel_rfl) (by simp) ?_
        refine AllReadyH.cons (o := ⟨_, _, _, _, _, _⟩) rfl (fun K hK => ?_) AllReadyH.nil
        · go_simp
          refine (HM.out _ _ _ _ _ _ _ _ _ _ _ _ _ _ _ (by first | exact Or.inl rfl | exact Or.inr rfl) (HKW.out.trans J)).mono ?_
          rintro e V40 ⟨z1, rfl, hz1, hR1, hK9⟩
          have HZ1 := Lib.hid hz1
          clear hz1
          replace hn5 := hn5.keep hK9
          replace hn6 := hn6.keep hK9
          replace J := J.trans hK9
          clear hK9
          unfold vg
          dsimp only
          refine hK.out _ _ ?_ (fun hHeld => ?_)
          · exact ⟨(HB1.out.keep J).c7, (HB2.out.keep J).c7⟩
          clear hK K
          (try simp only [Act.put]); (try simp only [List.setIfInBounds_toArray]); (try simp only [List.set_cons_succ]); (try simp only [List.set_cons_zero])
          refine wpAnyH_ready (rs := [3]) (by kernel_rfl) (by simp) ?_
          refine AllReadyH.cons (o := ⟨_, _, _, _, _, _⟩) rfl (fun K hK => ?_) AllReadyH.nil
          · go_simp
            refine (HM.out _ _ _ _ _ _ _ _ _ _ _ _ _ _ _ (by first | exact Or.inl rfl | exact Or.inr rfl) (HKW.out.trans J)).mono ?_
            rintro e V41 ⟨z2, rfl, hz2, hR2, hK9⟩
            have HZ2 := Lib.hid hz2
            clear hz2
            replace hR1 := hR1.keep hK9
            replace hn5 := hn5.keep hK9
            replace hn6 := hn6.keep hK9
            replace J := J.trans hK9
            clear hK9
            unfold vg
            dsimp only
            refine hK.out _ _ ?_ (fun hHeld => ?_)
            · exact ⟨(HB1.out.keep J).c7, (HB2.out.keep J).c7⟩
            clear hK K
            (try simp only [Act.put]); (try simp only [List.setIfInBounds_toArray]); (try simp only [List.set_cons_succ]); (try simp only [List.set_cons_zero])
            refine wpAnyH_ready (rs := [6]) (by kernel_rfl) (by simp) ?_
            refine AllReadyH.cons (o := ⟨_, _, _, _, _, _⟩) rfl (fun K hK => ?_) AllReadyH.nil
            · obtain ⟨c0, c1, c2, c3, c4, c5⟩ := hn5.c6
              obtain ⟨g0, g1, g2, g3, g4, g5⟩ := hn5.f6
              go_simp
              clear c0 c1 c2 c3 c4 c5 g0 g1 g2 g3 g4 g5
              replace hn6 := hn6.other6 HNE.out.symm (.string z1.c.nm) (.int .i64 z1.c.kd) (.int .u16 (sv z1.c.M)) (.slice z1.ar z1.c.R.length z1.cr) (.slice z1.aw z1.c.Q.length z1.cw) (.slice z1.af z1.c.F.length z1.cf)
              replace hR1 := hR1.set6 hn5 (.string z1.c.nm) (.int .i64 z1.c.kd) (.int .u16 (sv z1.c.M)) (.slice z1.ar z1.c.R.length z1.cr) (.slice z1.aw z1.c.Q.length z1.cw) (.slice z1.af z1.c.F.length z1.cf)
              replace hR2 := hR2.set6 hn5 (.string z1.c.nm) (.int .i64 z1.c.kd) (.int .u16 (sv z1.c.M)) (.slice z1.ar z1.c.R.length z1.cr) (.slice z1.aw z1.c.Q.length z1.cw) (.slice z1.af z1.c.F.length z1.cf)
              replace hn5 := hn5.set6 (.string z1.c.nm) (.int .i64 z1.c.kd) (.int .u16 (sv z1.c.M)) (.slice z1.ar z1.c.R.length z1.cr) (.slice z1.aw z1.c.Q.length z1.cw) (.slice z1.af z1.c.F.length z1.cf)
              replace J := keeps_set6 J hg5 (.string z1.c.nm) (.int .i64 z1.c.kd) (.int .u16 (sv z1.c.M)) (.slice z1.ar z1.c.R.length z1.cr) (.slice z1.aw z1.c.Q.length z1.cw) (.slice z1.af z1.c.F.length z1.cf)
              generalize ((((((V41.setCell ⟨B5, 0, none⟩ (.string z1.c.nm)).setCell ⟨B5, 1, none⟩ (.int .i64 z1.c.kd)).setCell ⟨B5, 2, none⟩ (.int .u16 (sv z1.c.M))).setCell ⟨B5, 3, none⟩ (.slice z1.ar z1.c.R.length z1.cr)).setCell ⟨B5, 4, none⟩ (.slice z1.aw z1.c.Q.length z1.cw)).setCell ⟨B5, 5, none⟩ (.slice z1.af z1.c.F.length z1.cf)) = V42 at *
              refine hK.out _ _ ?_ (fun hHeld => ?_)
              · exact ⟨(HB1.out.keep J).c7, (HB2.out.keep J).c7⟩
              clear hK K
              (try simp only [Act.put]); (try simp only [List.setIfInBounds_toArray]); (try simp only [List.set_cons_succ]); (try simp only [List.set_cons_zero])
              refine wpAnyH_ready (rs := [7]) (by kernel_rfl) (by simp) ?_
              refine AllReadyH.cons (o := ⟨_, _, _, _, _, _⟩) rfl (fun K hK => ?_) AllReadyH.nil
              · obtain ⟨c0, c1, c2, c3, c4, c5⟩ := hn6.c6
                obtain ⟨g0, g1, g2, g3, g4, g5⟩ := hn6.f6
                go_simp
                clear c0 c1 c2 c3 c4 c5 g0 g1 g2 g3 g4 g5
                replace hn5 := hn5.other6 HNE.out (.string z2.c.nm) (.int .i64 z2.c.kd) (.int .u16 (sv z2.c.M)) (.slice z2.ar z2.c.R.length z2.cr) (.slice z2.aw z2.c.Q.length z2.cw) (.slice z2.af z2.c.F.length z2.cf)
                replace hR1 := hR1.set6 hn6 (.string z2.c.nm) (.int .i64 z2.c.kd) (.int .u16 (sv z2.c.M)) (.slice z2.ar z2.c.R.length z2.cr) (.slice z2.aw z2.c.Q.length z2.cw) (.slice z2.af z2.c.F.length z2.cf)
                replace hR2 := hR2.set6 hn6 (.string z2.c.nm) (.int .i64 z2.c.kd) (.int .u16 (sv z2.c.M)) (.slice z2.ar z2.c.R.length z2.cr) (.slice z2.aw z2.c.Q.length z2.cw) (.slice z2.af z2.c.F.length z2.cf)
                replace hn6 := hn6.set6 (.string z2.c.nm) (.int .i64 z2.c.kd) (.int .u16 (sv z2.c.M)) (.slice z2.ar z2.c.R.length z2.cr) (.slice z2.aw z2.c.Q.length z2.cw) (.slice z2.af z2.c.F.length z2.cf)
                replace J := keeps_set6 J hg6 (.string z2.c.nm) (.int .i64 z2.c.kd) (.int .u16 (sv z2.c.M)) (.slice z2.ar z2.c.R.length z2.cr) (.slice z2.aw z2.c.Q.length z2.cw) (.slice z2.af z2.c.F.length z2.cf)
                generalize ((((((V42.setCell ⟨B6, 0, none⟩ (.string z2.c.nm)).setCell ⟨B6, 1, none⟩ (.int .i64 z2.c.kd)).setCell ⟨B6, 2, none⟩ (.int .u16 (sv z2.c.M))).setCell ⟨B6, 3, none⟩ (.slice z2.ar z2.c.R.length z2.cr)).setCell ⟨B6, 4, none⟩ (.slice z2.aw z2.c.Q.length z2.cw)).setCell ⟨B6, 5, none⟩ (.slice z2.af z2.c.F.length z2.cf)) = V43 at *
                refine hK.out _ _ ?_ (fun hHeld => ?_)
                · exact ⟨(HB1.out.keep J).c7, (HB2.out.keep J).c7⟩
                clear hK K
                (try simp only [Act.put]); (try simp only [List.setIfInBounds_toArray]); (try simp only [List.set_cons_succ]); (try simp only [List.set_cons_zero])
                refine wpAnyH_done (by kernel_rfl) ?_ _
                go_wp2_with fail
                go_meet
                case rel => exact ⟨B5, B6, z1, z2, rfl, rfl, HZ1.out, HZ2.out, hn5, hn6, hR1, hR2, J⟩
    · go_simp
      have hn6 := Blk.new V0 32 zG
      have hg6 : W2.heap.size ≤ V0.heap.size := J.size
      have KA := (Keeps.refl V0).alloc (.cells zG 32)
      replace J := J.trans KA
      clear KA
      generalize V0.alloc (.cells zG 32) = V44 at *
      generalize V0.heap.size = B6 at *
      refine hK.out _ _ ?_ (fun hHeld => ?_)
      · exact ⟨(HB1.out.keep J).c7, (HB2.out.keep J).c7⟩
      clear hK K
      (try simp only [Act.put]); (try simp only [List.setIfInBounds_toArray]); (try simp only [List.set_cons_succ]); (try simp only [List.set_cons_zero])
      refine wpAnyH_ready (rs := [1, 4]) (by kernel_rfl) (by simp) ?_
      refine AllReadyH.cons (o := ⟨_, _, _, _, _, _⟩) rfl (fun K hK => ?_) (AllReadyH.cons (o := ⟨_, _, _, _, _, _⟩) rfl (fun K hK => ?_) AllReadyH.nil)
      · go_simp
        refine (HM.out _ _ _ _ _ _ _ _ _ _ _ _ _ _ _ (by first | exact Or.inl rfl | exact Or.inr rfl) (HKW.out.trans J)).mono ?_
        rintro e V45 ⟨z1, rfl, hz1, hR1, hK9⟩
        have HZ1 := Lib.hid hz1
        clear hz1
        replace hn6 := hn6.keep hK9
        replace J := J.trans hK9
        clear hK9
        unfold vg
        dsimp only
        refine hK.out _ _ ?_ (fun hHeld => ?_)
        · exact ⟨(HB1.out.keep J).c7, (HB2.out.keep J).c7⟩
        clear hK K
        (try simp only [Act.put]); (try simp only [List.setIfInBounds_toArray]); (try simp only [List.set_cons_succ]); (try simp only [List.set_cons_zero])
        refine wpAnyH_ready (rs := [3, 4]) (by kernel_rfl) (by simp) ?_
        refine AllReadyH.cons (o := ⟨_, _, _, _, _, _⟩) rfl (fun K hK => ?_) (AllReadyH.cons (o := ⟨_, _, _, _, _, _⟩) rfl (fun K hK => ?_) AllReadyH.nil)
        · go_simp
          refine (HM.out _ _ _ _ _ _ _ _ _ _ _ _ _ _ _ (by first | exact Or.inl rfl | exact Or.inr rfl) (HKW.out.trans J)).mono ?_
          rintro e V46 ⟨z2, rfl, hz2, hR2, hK9⟩
          have HZ2 := Lib.hid hz2
          clear hz2
          replace hR1 := hR1.keep hK9
          replace hn6 := hn6.keep hK9
          replace J := J.trans hK9
          clear hK9
          unfold vg
          dsimp only
          refine hK.out _ _ ?_ (fun hHeld => ?_)
          · exact ⟨(HB1.out.keep J).c7, (HB2.out.keep J).c7⟩
          clear hK K
          (try simp only [Act.put]); (try simp only [List.setIfInBounds_toArray]); (try simp only [List.set_cons_succ]); (try simp only [List.set_cons_zero])
          refine wpAnyH_ready (rs := [4]) (by kernel_rfl) (by simp) ?_
          refine AllReadyH.cons (o := ⟨_, _, _, _, _, _⟩) rfl (fun K hK => ?_) AllReadyH.nil
          · go_simp
            have hn5 := Blk.new V46 32 zG
            have hg5 : W2.heap.size ≤ V46.heap.size := J.size
            have KA := (Keeps.refl V46).alloc (.cells zG 32)
            have hne : V46.heap.size ≠ B6 := by have := hn6.lt; omega
            replace hR1 := hR1.keep KA
            replace hR2 := hR2.keep KA
            replace hn6 := hn6.keep KA
            replace J := J.trans KA
            clear KA
            generalize V46.alloc (.cells zG 32) = V47 at *
            generalize V46.heap.size = B5 at *
            have HNE := Lib.hid hne
            clear hne
            refine hK.out _ _ ?_ (fun hHeld => ?_)
            · exact ⟨(HB1.out.keep J).c7, (HB2.out.keep J).c7⟩
            clear hK K
            (try simp only [Act.put]); (try simp only [List.setIfInBounds_toArray]); (try simp only [List.set_cons_succ]); (try simp only [List.set_cons_zero])
            refine wpAnyH_ready (rs := [6]) (by kernel_rfl) (by simp) ?_
            refine AllReadyH.cons (o := ⟨_, _, _, _, _, _⟩) rfl (fun K hK => ?_) AllReadyH.nil
            · obtain ⟨c0, c1, c2, c3, c4, c5⟩ := hn5.c6
              obtain ⟨g0, g1, g2, g3, g4, g5⟩ := hn5.f6
              go_simp
              clear c0 c1 c2 c3 c4 c5 g0 g1 g2 g3 g4 g5
              replace hn6 := hn6.other6 HNE.out.symm (.string z1.c.nm) (.int .i64 z1.c.kd) (.int .u16 (sv z1.c.M)) (.slice z1.ar z1.c.R.length z1.cr) (.slice z1.aw z1.c.Q.length z1.cw) (.slice z1.af z1.c.F.length z1.cf)
              replace hR1 := hR1.set6 hn5 (.string z1.c.nm) (.int .i64 z1.c.kd) (.int .u16 (sv z1.c.M)) (.slice z1.ar z1.c.R.length z1.cr) (.slice z1.aw z1.c.Q.length z1.cw) (.slice z1.af z1.c.F.length z1.cf)
              replace hR2 := hR2.set6 hn5 (.string z1.c.nm) (.int .i64 z1.c.kd) (.int .u16 (sv z1.c.M)) (.slice z1.ar z1.c.R.length z1.cr) (.slice z1.aw z1.c.Q.length z1.cw) (.slice z1.af z1.c.F.length z1.cf)
              replace hn5 := hn5.set6 (.string z1.c.nm) (.int .i64 z1.c.kd) (.int .u16 (sv z1.c.M)) (.slice z1.ar z1.c.R.length z1.cr) (.slice z1.aw z1.c.Q.length z1.cw) (.slice z1.af z1.c.F.length z1.cf)
              replace J := keeps_set6 J hg5 (.string z1.c.nm) (.int .i64 z1.c.kd) (.int .u16 (sv z1.c.M)) (.slice z1.ar z1.c.R.length z1.cr) (.slice z1.aw z1.c.Q.length z1.cw) (.slice z1.af z1.c.F.length z1.cf)
              generalize ((((((V47.setCell ⟨B5, 0, none⟩ (.string z1.c.nm)).setCell ⟨B5, 1, none⟩ (.int .i64 z1.c.kd)).setCell ⟨B5, 2, none⟩ (.int .u16 (sv z1.c.M))).setCell ⟨B5, 3, none⟩ (.slice z1.ar z1.c.R.length z1.cr)).setCell ⟨B5, 4, none⟩ (.slice z1.aw z1.c.Q.length z1.cw)).setCell ⟨B5, 5, none⟩ (.slice z1.af z1.c.F.length z1.cf)) = V48 at *
              refine hK.out _ _ ?_ (fun hHeld => ?_)
              · exact ⟨(HB1.out.keep J).c7, (HB2.out.keep J).c7⟩
              clear hK K
              (try simp only [Act.put]); (try simp only [List.setIfInBounds_toArray]); (try simp only [List.set_cons_succ]); (try simp only [List.set_cons_zero])
              refine wpAnyH_ready (rs := [7]) (by kernel_rfl) (by simp) ?_
              refine AllReadyH.cons (o := ⟨_, _, _, _, _, _⟩) rfl (fun K hK => ?_) AllReadyH.nil
              · obtain ⟨c0, c1, c2, c3, c4, c5⟩ := hn6.c6
                obtain ⟨g0, g1, g2, g3, g4, g5⟩ := hn6.f6
                go_simp
                clear c0 c1 c2 c3 c4 c5 g0 g1 g2 g3 g4 g5
                replace hn5 := hn5.other6 HNE.out (.string z2.c.nm) (.int .i64 z2.c.kd) (.int .u16 (sv z2.c.M)) (.slice z2.ar z2.c.R.length z2.cr) (.slice z2.aw z2.c.Q.length z2.cw) (.slice z2.af z2.c.F.length z2.cf)
                replace hR1 := hR1.set6 hn6 (.string z2.c.nm) (.int .i64 z2.c.kd) (.int .u16 (sv z2.c.M)) (.slice z2.ar z2.c.R.length z2.cr) (.slice z2.aw z2.c.Q.length z2.cw) (.slice z2.af z2.c.F.length z2.cf)
                replace hR2 := hR2.set6 hn6 (.string z2.c.nm) (.int .i64 z2.c.kd) (.int .u16 (sv z2.c.M)) (.slice z2.ar z2.c.R.length z2.cr) (.slice z2.aw z2.c.Q.length z2.cw) (.slice z2.af z2.c.F.length z2.cf)
                replace hn6 := hn6.set6 (.string z2.c.nm) (.int .i64 z2.c.kd) (.int .u16 (sv z2.c.M)) (.slice z2.ar z2.c.R.length z2.cr) (.slice z2.aw z2.c.Q.length z2.cw) (.slice z2.af z2.c.F.length z2.cf)
                replace J := keeps_set6 J hg6 (.string z2.c.nm) (.int .i64 z2.c.kd) (.int .u16 (sv z2.c.M)) (.slice z2.ar z2.c.R.length z2.cr) (.slice z2.aw z2.c.Q.length z2.cw) (.slice z2.af z2.c.F.length z2.cf)
                generalize ((((((V48.setCell ⟨B6, 0, none⟩ (.string z2.c.nm)).setCell ⟨B6, 1, none⟩ (.int .i64 z2.c.kd)).setCell ⟨B6, 2, none⟩ (.int .u16 (sv z2.c.M))).setCell ⟨B6, 3, none⟩ (.slice z2.ar z2.c.R.length z2.cr)).setCell ⟨B6, 4, none⟩ (.slice z2.aw z2.c.Q.length z2.cw)).setCell ⟨B6, 5, none⟩ (.slice z2.af z2.c.F.length z2.cf)) = V49 at *
                refine hK.out _ _ ?_ (fun hHeld => ?_)
                · exact ⟨(HB1.out.keep J).c7, (HB2.out.keep J).c7⟩
                clear hK K
                (try simp only [Act.put]); (try simp only [List.setIfInBounds_toArray]); (try simp only [List.set_cons_succ]); (try simp only [List.set_cons_zero])
                refine wpAnyH_done (by kernel_rfl) ?_ _
                go_wp2_with fail
                go_meet
                case rel => exact ⟨B5, B6, z1, z2, rfl, rfl, HZ1.out, HZ2.out, hn5, hn6, hR1, hR2, J⟩
        · go_simp
          have hn5 := Blk.new V45 32 zG
          have hg5 : W2.heap.size ≤ V45.heap.size := J.size
          have KA := (Keeps.refl V45).alloc (.cells zG 32)
          have hne : V45.heap.size ≠ B6 := by have := hn6.lt; omega
          replace hR1 := hR1.keep KA
          replace hn6 := hn6.keep KA
          replace J := J.trans KA
          clear KA
          generalize V45.alloc (.cells zG 32) = V50 at *
          generalize V45.heap.size = B5 at *
          have HNE := Lib.hid hne
          clear hne
          refine hK.out _ _ ?_ (fun hHeld => ?_)
          · exact ⟨(HB1.out.keep J).c7, (HB2.out.keep J).c7⟩
          clear hK K
          (try simp only [Act.put]); (try simp only [List.setIfInBounds_toArray]); (try simp only [List.set_cons_succ]); (try simp only [List.set_cons_zero])
          refine wpAnyH_ready (rs := [3]) (by kernel_rfl) (by simp) ?_
          refine AllReadyH.cons (o := ⟨_, _, _, _, _, _⟩) rfl (fun K hK => ?_) AllReadyH.nil
          · go_simp
            refine (HM.out _ _ _ _ _ _ _ _ _ _ _ _ _ _ _ (by first | exact Or.inl rfl | exact Or.inr rfl) (HKW.out.trans J)).mono ?_
            rintro e V51 ⟨z2, rfl, hz2, hR2, hK9⟩
            have HZ2 := Lib.hid hz2
            clear hz2
            replace hR1 := hR1.keep hK9
            replace hn5 := hn5.keep hK9
            replace hn6 := hn6.keep hK9
            replace J := J.trans hK9
            clear hK9
            unfold vg
            dsimp only
            refine hK.out _ _ ?_ (fun hHeld => ?_)
            · exact ⟨(HB1.out.keep J).c7, (HB2.out.keep J).c7⟩
            clear hK K
            (try simp only [Act.put]); (try simp only [List.setIfInBounds_toArray]); (try simp only [List.set_cons_succ]); (try simp only [List.set_cons_zero])
            refine wpAnyH_ready (rs := [6]) (by kernel_rfl) (by simp) ?_
            refine AllReadyH.cons (o := ⟨_, _, _, _, _, _⟩) rfl (fun K hK => ?_) AllReadyH.nil
            · obtain ⟨c0, c1, c2, c3, c4, c5⟩ := hn5.c6
              obtain ⟨g0, g1, g2, g3, g4, g5⟩ := hn5.f6
              go_simp
              clear c0 c1 c2 c3 c4 c5 g0 g1 g2 g3 g4 g5
              replace hn6 := hn6.other6 HNE.out.symm (.string z1.c.nm) (.int .i64 z1.c.kd) (.int .u16 (sv z1.c.M)) (.slice z1.ar z1.c.R.length z1.cr) (.slice z1.aw z1.c.Q.length z1.cw) (.slice z1.af z1.c.F.length z1.cf)
              replace hR1 := hR1.set6 hn5 (.string z1.c.nm) (.int .i64 z1.c.kd) (.int .u16 (sv z1.c.M)) (.slice z1.ar z1.c.R.length z1.cr) (.slice z1.aw z1.c.Q.length z1.cw) (.slice z1.af z1.c.F.length z1.cf)
              replace hR2 := hR2.set6 hn5 (.string z1.c.nm) (.int .i64 z1.c.kd) (.int .u16 (sv z1.c.M)) (.slice z1.ar z1.c.R.length z1.cr) (.slice z1.aw z1.c.Q.length z1.cw) (.slice z1.af z1.c.F.length z1.cf)
              replace hn5 := hn5.set6 (.string z1.c.nm) (.int .i64 z1.c.kd) (.int .u16 (sv z1.c.M)) (.slice z1.ar z1.c.R.length z1.cr) (.slice z1.aw z1.c.Q.length z1.cw) (.slice z1.af z1.c.F.length z1.cf)
              replace J := keeps_set6 J hg5 (.string z1.c.nm) (.int .i64 z1.c.kd) (.int .u16 (sv z1.c.M)) (.slice z1.ar z1.c.R.length z1.cr) (.slice z1.aw z1.c.Q.length z1.cw) (.slice z1.af z1.c.F.length z1.cf)
              generalize ((((((V51.setCell ⟨B5, 0, none⟩ (.string z1.c.nm)).setCell ⟨B5, 1, none⟩ (.int .i64 z1.c.kd)).setCell ⟨B5, 2, none⟩ (.int .u16 (sv z1.c.M))).setCell ⟨B5, 3, none⟩ (.slice z1.ar z1.c.R.length z1.cr)).setCell ⟨B5, 4, none⟩ (.slice z1.aw z1.c.Q.length z1.cw)).setCell ⟨B5, 5, none⟩ (.slice z1.af z1.c.F.length z1.cf)) = V52 at *
              refine hK.out _ _ ?_ (fun hHeld => ?_)
              · exact ⟨(HB1.out.keep J).c7, (HB2.out.keep J).c7⟩
              clear hK K
              (try simp only [Act.put]); (try simp only [List.setIfInBounds_toArray]); (try simp only [List.set_cons_succ]); (try simp only [List.set_cons_zero])
              refine wpAnyH_ready (rs := [7]) (by kernel_rfl) (by simp) ?_
              refine AllReadyH.cons (o := ⟨_, _, _, _, _, _⟩) rfl (fun K hK => ?_) AllReadyH.nil
              · obtain ⟨c0, c1, c2, c3, c4, c5⟩ := hn6.c6
                obtain ⟨g0, g1, g2, g3, g4, g5⟩ := hn6.f6
                go_simp
                clear c0 c1 c2 c3 c4 c5 g0 g1 g2 g3 g4 g5
                replace hn5 := hn5.other6 HNE.out (.string z2.c.nm) (.int .i64 z2.c.kd) (.int .u16 (sv z2.c.M)) (.slice z2.ar z2.c.R.length z2.cr) (.slice z2.aw z2.c.Q.length z2.cw) (.slice z2.af z2.c.F.length z2.cf)
                replace hR1 := hR1.set6 hn6 (.string z2.c.nm) (.int .i64 z2.c.kd) (.int .u16 (sv z2.c.M)) (.slice z2.ar z2.c.R.length z2.cr) (.slice z2.aw z2.c.Q.length z2.cw) (.slice z2.af z2.c.F.length z2.cf)
                replace hR2 := hR2.set6 hn6 (.string z2.c.nm) (.int .i64 z2.c.kd) (.int .u16 (sv z2.c.M)) (.slice z2.ar z2.c.R.length z2.cr) (.slice z2.aw z2.c.Q.length z2.cw) (.slice z2.af z2.c.F.length z2.cf)
                replace hn6 := hn6.set6 (.string z2.c.nm) (.int .i64 z2.c.kd) (.int .u16 (sv z2.c.M)) (.slice z2.ar z2.c.R.length z2.cr) (.slice z2.aw z2.c.Q.length z2.cw) (.slice z2.af z2.c.F.length z2.cf)
                replace J := keeps_set6 J hg6 (.string z2.c.nm) (.int .i64 z2.c.kd) (.int .u16 (sv z2.c.M)) (.slice z2.ar z2.c.R.length z2.cr) (.slice z2.aw z2.c.Q.length z2.cw) (.slice z2.af z2.c.F.length z2.cf)
                generalize ((((((V52.setCell ⟨B6, 0, none⟩ (.string z2.c.nm)).setCell ⟨B6, 1, none⟩ (.int .i64 z2.c.kd)).setCell ⟨B6, 2, none⟩ (.int .u16 (sv z2.c.M))).setCell ⟨B6, 3, none⟩ (.slice z2.ar z2.c.R.length z2.cr)).setCell ⟨B6, 4, none⟩ (.slice z2.aw z2.c.Q.length z2.cw)).setCell ⟨B6, 5, none⟩ (.slice z2.af z2.c.F.length z2.cf)) = V53 at *
                refine hK.out _ _ ?_ (fun hHeld => ?_)
                · exact ⟨(HB1.out.keep J).c7, (HB2.out.keep J).c7⟩
                clear hK K
                (try simp only [Act.put]); (try simp only [List.setIfInBounds_toArray]); (try simp only [List.set_cons_succ]); (try simp only [List.set_cons_zero])
                refine wpAnyH_done (by kernel_rfl) ?_ _
                go_wp2_with fail
                go_meet
                case rel => exact ⟨B5, B6, z1, z2, rfl, rfl, HZ1.out, HZ2.out, hn5, hn6, hR1, hR2, J⟩
      · go_simp
        have hn5 := Blk.new V44 32 zG
        have hg5 : W2.heap.size ≤ V44.heap.size := J.size
        have KA := (Keeps.refl V44).alloc (.cells zG 32)
        have hne : V44.heap.size ≠ B6 := by have := hn6.lt; omega
        replace hn6 := hn6.keep KA
        replace J := J.trans KA
        clear KA
        generalize V44.alloc (.cells zG 32) = V54 at *
        generalize V44.heap.size = B5 at *
        have HNE := Lib.hid hne
        clear hne
        refine hK.out _ _ ?_ (fun hHeld => ?_)
        · exact ⟨(HB1.out.keep J).c7, (HB2.out.keep J).c7⟩
        clear hK K
        (try simp only [Act.put]); (try simp only [List.setIfInBounds_toArray]); (try simp only [List.set_cons_succ]); (try simp only [List.set_cons_zero])
        refine wpAnyH_ready (rs := [1]) (by kernel_rfl) (by simp) ?_
        refine AllReadyH.cons (o := ⟨_, _, _, _, _, _⟩) rfl (fun K hK => ?_) AllReadyH.nil
        · go_simp
          refine (HM.out _ _ _ _ _ _ _ _ _ _ _ _ _ _ _ (by first | exact Or.inl rfl | exact Or.inr rfl) (HKW.out.trans J)).mono ?_
          rintro e V55 ⟨z1, rfl, hz1, hR1, hK9⟩
          have HZ1 := Lib.hid hz1
          clear hz1
          replace hn5 := hn5.keep hK9
          replace hn6 := hn6.keep hK9
          replace J := J.trans hK9
          clear hK9
          unfold vg
          dsimp only
          refine hK.out _ _ ?_ (fun hHeld => ?_)
          · exact ⟨(HB1.out.keep J).c7, (HB2.out.keep J).c7⟩
          clear hK K
          (try simp only [Act.put]); (try simp only [List.setIfInBounds_toArray]); (try simp only [List.set_cons_succ]); (try simp only [List.set_cons_zero])
          refine wpAnyH_ready (rs := [3]) (by kernel_rfl) (by simp) ?_
          refine AllReadyH.cons (o := ⟨_, _, _, _, _, _⟩) rfl (fun K hK => ?_) AllReadyH.nil
          · go_simp
            refine (HM.out _ _ _ _ _ _ _ _ _ _ _ _ _ _ _ (by first | exact Or.inl rfl | exact Or.inr rfl) (HKW.out.trans J)).mono ?_
            rintro e V56 ⟨z2, rfl, hz2, hR2, hK9⟩
            have HZ2 := Lib.hid hz2
            clear hz2
            replace hR1 := hR1.keep hK9
            replace hn5 := hn5.keep hK9
            replace hn6 := hn6.keep hK9
            replace J := J.trans hK9
            clear hK9
            unfold vg
            dsimp only
            refine hK.out _ _ ?_ (fun hHeld => ?_)
            · exact ⟨(HB1.out.keep J).c7, (HB2.out.keep J).c7⟩
            clear hK K
            (try simp only [Act.put]); (try simp only [List.setIfInBounds_toArray]); (try simp only [List.set_cons_succ]); (try simp only [List.set_cons_zero])
            refine wpAnyH_ready (rs := [6]) (by kernel_rfl) (by simp) ?_
            refine AllReadyH.cons (o := ⟨_, _, _, _, _, _⟩) rfl (fun K hK => ?_) AllReadyH.nil
            · obtain ⟨c0, c1, c2, c3, c4, c5⟩ := hn5.c6
              obtain ⟨g0, g1, g2, g3, g4, g5⟩ := hn5.f6
              go_simp
              clear c0 c1 c2 c3 c4 c5 g0 g1 g2 g3 g4 g5
              replace hn6 := hn6.other6 HNE.out.symm (.string z1.c.nm) (.int .i64 z1.c.kd) (.int .u16 (sv z1.c.M)) (.slice z1.ar z1.c.R.length z1.cr) (.slice z1.aw z1.c.Q.length z1.cw) (.slice z1.af z1.c.F.length z1.cf)
              replace hR1 := hR1.set6 hn5 (.string z1.c.nm) (.int .i64 z1.c.kd) (.int .u16 (sv z1.c.M)) (.slice z1.ar z1.c.R.length z1.cr) (.slice z1.aw z1.c.Q.length z1.cw) (.slice z1.af z1.c.F.length z1.cf)
              replace hR2 := hR2.set6 hn5 (.string z1.c.nm) (.int .i64 z1.c.kd) (.int .u16 (sv z1.c.M)) (.slice z1.ar z1.c.R.length z1.cr) (.slice z1.aw z1.c.Q.length z1.cw) (.slice z1.af z1.c.F.length z1.cf)
              replace hn5 := hn5.set6 (.string z1.c.nm) (.int .i64 z1.c.kd) (.int .u16 (sv z1.c.M)) (.slice z1.ar z1.c.R.length z1.cr) (.slice z1.aw z1.c.Q.length z1.cw) (.slice z1.af z1.c.F.length z1.cf)
              replace J := keeps_set6 J hg5 (.string z1.c.nm) (.int .i64 z1.c.kd) (.int .u16 (sv z1.c.M)) (.slice z1.ar z1.c.R.length z1.cr) (.slice z1.aw z1.c.Q.length z1.cw) (.slice z1.af z1.c.F.length z1.cf)
              generalize ((((((V56.setCell ⟨B5, 0, none⟩ (.string z1.c.nm)).setCell ⟨B5, 1, none⟩ (.int .i64 z1.c.kd)).setCell ⟨B5, 2, none⟩ (.int .u16 (sv z1.c.M))).setCell ⟨B5, 3, none⟩ (.slice z1.ar z1.c.R.length z1.cr)).setCell ⟨B5, 4, none⟩ (.slice z1.aw z1.c.Q.length z1.cw)).setCell ⟨B5, 5, none⟩ (.slice z1.af z1.c.F.length z1.cf)) = V57 at *
              refine hK.out _ _ ?_ (fun hHeld => ?_)
              · exact ⟨(HB1.out.keep J).c7, (HB2.out.keep J).c7⟩
              clear hK K
              (try simp only [Act.put]); (try simp only [List.setIfInBounds_toArray]); (try simp only [List.set_cons_succ]); (try simp only [List.set_cons_zero])
              refine wpAnyH_ready (rs := [7]) (by kernel_rfl) (by simp) ?_
              refine AllReadyH.cons (o := ⟨_, _, _, _, _, _⟩) rfl (fun K hK => ?_) AllReadyH.nil
              · obtain ⟨c0, c1, c2, c3, c4, c5⟩ := hn6.c6
                obtain ⟨g0, g1, g2, g3, g4, g5⟩ := hn6.f6
                go_simp
                clear c0 c1 c2 c3 c4 c5 g0 g1 g2 g3 g4 g5
                replace hn5 := hn5.other6 HNE.out (.string z2.c.nm) (.int .i64 z2.c.kd) (.int .u16 (sv z2.c.M)) (.slice z2.ar z2.c.R.length z2.cr) (.slice z2.aw z2.c.Q.length z2.cw) (.slice z2.af z2.c.F.length z2.cf)
                replace hR1 := hR1.set6 hn6 (.string z2.c.nm) (.int .i64 z2.c.kd) (.int .u16 (sv z2.c.M)) (.slice z2.ar z2.c.R.length z2.cr) (.slice z2.aw z2.c.Q.length z2.cw) (.slice z2.af z2.c.F.length z2.cf)
                replace hR2 := hR2.set6 hn6 (.string z2.c.nm) (.int .i64 z2.c.kd) (.int .u16 (sv z2.c.M)) (.slice z2.ar z2.c.R.length z2.cr) (.slice z2.aw z2.c.Q.length z2.cw) (.slice z2.af z2.c.F.length z2.cf)
                replace hn6 := hn6.set6 (.string z2.c.nm) (.int .i64 z2.c.kd) (.int .u16 (sv z2.c.M)) (.slice z2.ar z2.c.R.length z2.cr) (.slice z2.aw z2.c.Q.length z2.cw) (.slice z2.af z2.c.F.length z2.cf)
                replace J := keeps_set6 J hg6 (.string z2.c.nm) (.int .i64 z2.c.kd) (.int .u16 (sv z2.c.M)) (.slice z2.ar z2.c.R.length z2.cr) (.slice z2.aw z2.c.Q.length z2.cw) (.slice z2.af z2.c.F.length z2.cf)
                generalize ((((((V57.setCell ⟨B6, 0, none⟩ (.string z2.c.nm)).setCell ⟨B6, 1, none⟩ (.int .i64 z2.c.kd)).setCell ⟨B6, 2, none⟩ (.int .u16 (sv z2.c.M))).setCell ⟨B6, 3, none⟩ (.slice z2.ar z2.c.R.length z2.cr)).setCell ⟨B6, 4, none⟩ (.slice z2.aw z2.c.Q.length z2.cw)).setCell ⟨B6, 5, none⟩ (.slice z2.af z2.c.F.length z2.cf)) = V58 at *
                refine hK.out _ _ ?_ (fun hHeld => ?_)
                · exact ⟨(HB1.out.keep J).c7, (HB2.out.keep J).c7⟩
                clear hK K
                (try simp only [Act.put]); (try simp only [List.setIfInBounds_toArray]); (try simp only [List.set_cons_succ]); (try simp only [List.set_cons_zero])
                refine wpAnyH_done (by kernel_rfl) ?_ _
                go_wp2_with fail
                go_meet
                case rel => exact ⟨B5, B6, z1, z2, rfl, rfl, HZ1.out, HZ2.out, hn5, hn6, hR1, hR2, J⟩
  case rest =>
    obtain ⟨B5, B6, z1, z2, rfl, rfl, hz1, hz2, hn5, hn6, hR1, hR2, J⟩ := hcut
    have KK := HKW.out.trans J
    have hnX := HB3.out.keep J
    clear J HB1 HB2 HB3 HM HKW
    have hv1 : cvf z1.c = 0 := by rw [hz1]; exact mdC_valid (by decide) c
    have hv2 : cvf z2.c = 0 := by rw [hz2]; exact mdC_valid (by decide) d
    have HV1 := Lib.hid hv1; have HV2 := Lib.hid hv2
    clear hz1 hz2 hv1 hv2
    have x0c := hnX.cell 0 (v := .int .u16 (sv x0)) rfl
    have x1c := hnX.cell 1 (v := .int .u16 (sv x1)) rfl
    go_wp2_with fail
    have hx0 : sv x0 % 256 = sv (x0 &&& 255#16) := sv_low x0
    have hx1 : sv x1 % 256 = sv (x1 &&& 255#16) := sv_low x1
    rw [hx0, hx1]
    clear hx0 hx1
    have rd0 := rd_new 59 2 wc (fl [(x0 &&& 255#16, 0#16), (x1 &&& 255#16, 0#16)]) 2 (by decide) rfl
    have K := (Keeps.refl wc).alloc (.cells #[.int .u16 (sv (x0 &&& 255#16)), .int .u16 (sv 0#16), .int .u16 (sv (x1 &&& 255#16)), .int .u16 (sv 0#16)] 59)
    refine (normal_any _ 2 [(x0 &&& 255#16, 0#16), (x1 &&& 255#16, 0#16)] _ rd0 (by simp)).mono ?_
    rintro e w1 ⟨v1, rfl, hO1⟩
    replace K := K.trans hO1.2
    have hml : (normF [(x0 &&& 255#16, 0#16), (x1 &&& 255#16, 0#16)]).length ≤ 1000000 := Nat.le_trans (normF_two _ _) (by decide)
    generalize normF [(x0 &&& 255#16, 0#16), (x1 &&& 255#16, 0#16)] = m at *
    obtain ⟨am, cm, rfl, rdm⟩ := hO1.rd
    replace hn5 := hn5.keep K; replace hn6 := hn6.keep K; replace hR1 := hR1.keep K; replace hR2 := hR2.keep K; replace KK := KK.trans K; replace x0c := K.cell x0c; replace x1c := K.cell x1c
    clear K hO1 rd0 hnX
    go_wp2_with fail
    rw [sv_wt x0 x1]
    generalize ((x0 >>> 8) &&& x1) >>> 8 = wt at *
    clear x0c x1c
    refine (awake29_any _).mono ?_
    rintro e w2 ⟨rfl, K⟩
    replace hn5 := hn5.keep K; replace hn6 := hn6.keep K; replace hR1 := hR1.keep K; replace hR2 := hR2.keep K; replace KK := KK.trans K; replace rdm := rdm.keep K
    clear K
    obtain ⟨c0, c1, c2, c3, c4, c5⟩ := hn5.c6
    obtain ⟨d0, d1, d2, d3, d4, d5⟩ := hn6.c6
    have K := (Keeps.refl w2).alloc (.cells #[.string z1.c.nm, .int .i64 z1.c.kd, .int .u16 (sv z1.c.M), .slice z1.ar z1.c.R.length z1.cr, .slice z1.aw z1.c.Q.length z1.cw, .slice z1.af z1.c.F.length z1.cf, .string z2.c.nm, .int .i64 z2.c.kd, .int .u16 (sv z2.c.M), .slice z2.ar z2.c.R.length z2.cr, .slice z2.aw z2.c.Q.length z2.cw, .slice z2.af z2.c.F.length z2.cf] 32)
    have rd2 : Rd (w2.alloc (.cells #[.string z1.c.nm, .int .i64 z1.c.kd, .int .u16 (sv z1.c.M), .slice z1.ar z1.c.R.length z1.cr, .slice z1.aw z1.c.Q.length z1.cw, .slice z1.af z1.c.F.length z1.cf, .string z2.c.nm, .int .i64 z2.c.kd, .int .u16 (sv z2.c.M), .slice z2.ar z2.c.R.length z2.cr, .slice z2.aw z2.c.Q.length z2.cw, .slice z2.af z2.c.F.length z2.cf] 32)) (some ⟨w2.heap.size, 0, none⟩) 2 2 6 (gl [z1, z2]) := rd_new 32 6 w2 (gl [z1, z2]) 2 (by decide) rfl
    have l2 : RdL (w2.alloc (.cells #[.string z1.c.nm, .int .i64 z1.c.kd, .int .u16 (sv z1.c.M), .slice z1.ar z1.c.R.length z1.cr, .slice z1.aw z1.c.Q.length z1.cw, .slice z1.af z1.c.F.length z1.cf, .string z2.c.nm, .int .i64 z2.c.kd, .int .u16 (sv z2.c.M), .slice z2.ar z2.c.R.length z2.cr, .slice z2.aw z2.c.Q.length z2.cw, .slice z2.af z2.c.F.length z2.cf] 32)) [z1, z2] := fun y hy => by
      rcases List.mem_cons.1 hy with rfl | hy
      · exact hR1.rd.keep K
      · rw [List.mem_singleton.1 hy]; exact hR2.rd.keep K
    have v2 : ValL [z1, z2] := fun y hy => by
      rcases List.mem_cons.1 hy with rfl | hy
      · exact HV1.out
      · rw [List.mem_singleton.1 hy]; exact HV2.out
    have HR2 := Lib.hid rd2; have L2 := Lib.hid l2; have V2 := Lib.hid v2; have RM := Lib.hid (rdm.keep K)
    replace hn5 := hn5.keep K; replace hn6 := hn6.keep K; replace hR1 := hR1.keep K; replace hR2 := hR2.keep K; replace KK := KK.trans K
    clear K rd2 l2 v2 rdm
    go_wp2_with fail
    clear c0 c1 c2 c3 c4 c5 d0 d1 d2 d3 d4 d5
    generalize w2.alloc (.cells #[.string z1.c.nm, .int .i64 z1.c.kd, .int .u16 (sv z1.c.M), .slice z1.ar z1.c.R.length z1.cr, .slice z1.aw z1.c.Q.length z1.cw, .slice z1.af z1.c.F.length z1.cf, .string z2.c.nm, .int .i64 z2.c.kd, .int .u16 (sv z2.c.M), .slice z2.ar z2.c.R.length z2.cr, .slice z2.aw z2.c.Q.length z2.cw, .slice z2.af z2.c.F.length z2.cf] 32) = X at *
    generalize w2.heap.size = BT at *
    refine (cloneG_any _ 2 [z1, z2] _ HR2.out (by simp)).mono ?_
    rintro e w7 ⟨v7, rfl, hO7⟩
    have K := hO7.2
    obtain ⟨a7, cc7, rfl, r7⟩ := hO7.rd
    have HR7 := Lib.hid (HR2.out.keep K); have HL7 := Lib.hid (L2.out.keep K); have Hr7 := Lib.hid r7; have RM7 := Lib.hid (RM.out.keep K)
    replace hn5 := hn5.keep K; replace hn6 := hn6.keep K; replace hR1 := hR1.keep K; replace hR2 := hR2.keep K; replace KK := KK.trans K
    clear hO7 r7 K HR2 L2 RM
    go_wp2_with fail
    refine (cloneF_any _ _ m _ RM7.out hml).mono ?_
    rintro e w8 ⟨v8, rfl, hO8⟩
    have K := hO8.2
    obtain ⟨a8, cc8, rfl, r8⟩ := hO8.rd
    have HR8 := Lib.hid (HR7.out.keep K); have HL8 := Lib.hid (HL7.out.keep K); have Hs8 := Lib.hid (Hr7.out.keep K); have RM8 := Lib.hid (RM7.out.keep K); have Hr8 := Lib.hid r8
    replace hn5 := hn5.keep K; replace hn6 := hn6.keep K; replace hR1 := hR1.keep K; replace hR2 := hR2.keep K; replace KK := KK.trans K
    clear hO8 r8 K HR7 HL7 Hr7 RM7
    go_wp2_with fail
    refine (jsnd_any _ 2 _ [z1, z2] wt _ _ _ m _ Hs8.out Hr8.out hml HL8.out V2.out).mono ?_
    rintro e w9 ⟨rfl, K⟩
    have HR9 := Lib.hid (HR8.out.keep K); have HL9 := Lib.hid (HL8.out.keep K); have RM9 := Lib.hid (RM8.out.keep K)
    replace hn5 := hn5.keep K; replace hn6 := hn6.keep K; replace hR1 := hR1.keep K; replace hR2 := hR2.keep K; replace KK := KK.trans K
    clear K HR8 HL8 Hs8 RM8 Hr8
    go_wp2_with fail
    refine (rjsnd_any _ 2 2 [z1, z2] wt _ _ _ m _ HR9.out RM9.out hml HL9.out V2.out).mono ?_
    rintro e w10 ⟨rfl, K⟩
    have RM10 := Lib.hid (RM9.out.keep K)
    replace hn5 := hn5.keep K; replace hn6 := hn6.keep K; replace hR1 := hR1.keep K; replace hR2 := hR2.keep K; replace KK := KK.trans K
    clear K HR9 HL9 RM9
    have hsq : [z1, z2].all (sndC wt m) = (sndC wt m z1 && sndC wt m z2) := by simp
    rw [hsq]
    clear hsq
    obtain ⟨q, hq⟩ : ∃ q, q = (sndC wt m z1 && sndC wt m z2) := ⟨_, rfl⟩
    rw [← hq]
    have HQ := Lib.hid hq
    clear hq
    obtain ⟨c0, c1, c2, c3, c4, c5⟩ := hn5.c6
    obtain ⟨d0, d1, d2, d3, d4, d5⟩ := hn6.c6
    go_wp2_with fail
    clear c0 c1 c2 c3 c4 c5 d0 d1 d2 d3 d4 d5
    refine (jof_any z1 z2 _ hR1.rd hR2.rd).mono ?_
    intro e w11 hret
    obtain ⟨z3, rfl, hz3, hR3, K⟩ := hret
    unfold vg
    dsimp only
    replace KK := KK.trans K
    replace RM10 := Lib.hid (RM10.out.keep K)
    clear K hn5 hn6 hR1 hR2
    have hn7 := Blk.new w11 32 #[.string z3.c.nm, .int .i64 z3.c.kd, .int .u16 (sv z3.c.M), .slice z3.ar z3.c.R.length z3.cr, .slice z3.aw z3.c.Q.length z3.cw, .slice z3.af z3.c.F.length z3.cf]
    have K := (Keeps.refl w11).alloc (.cells #[.string z3.c.nm, .int .i64 z3.c.kd, .int .u16 (sv z3.c.M), .slice z3.ar z3.c.R.length z3.cr, .slice z3.aw z3.c.Q.length z3.cw, .slice z3.af z3.c.F.length z3.cf] 32)
    replace hR3 := hR3.keep K; replace KK := KK.trans K
    replace RM10 := Lib.hid (RM10.out.keep K)
    clear K
    have hE : ofE z1.c z2.c = 0 ∨ ofE z1.c z2.c = 3 := of_err HV1.out HV2.out
    have HOK := Lib.hid (fun h => of_snd29 (wt := wt) (m := m) hz3 h)
    clear hz3
    generalize ofE z1.c z2.c = eo at *
    rcases hE with rfl | rfl
    · have hok := HOK.out rfl
      have HO := Lib.hid hok
      clear hok HOK
      have hv3 : ValL [z3] := fun y hy => by rw [List.mem_singleton.1 hy]; exact HO.out.1
      have HV3 := Lib.hid hv3
      clear hv3
      have HN7 := Lib.hid hn7; have HR3 := Lib.hid hR3
      clear hn7 hR3
      go_wp2_with fail
      generalize w11.alloc (.cells #[.string z3.c.nm, .int .i64 z3.c.kd, .int .u16 (sv z3.c.M), .slice z3.ar z3.c.R.length z3.cr, .slice z3.aw z3.c.Q.length z3.cw, .slice z3.af z3.c.F.length z3.cf] 32) = W at *
      generalize w11.heap.size = B7 at *
      have J : Keeps W W.drew := (Keeps.refl W).drew
      cases q with
      | false =>
        refine wp_region_held_drew (S := (fun w' => w'.cell? ⟨B7, 0, none⟩ = some (.string z3.c.nm) ∧ w'.cell? ⟨B7, 1, none⟩ = some (.int .i64 z3.c.kd) ∧ w'.cell? ⟨B7, 2, none⟩ = some (.int .u16 (sv z3.c.M)) ∧ w'.cell? ⟨B7, 3, none⟩ = some (.slice z3.ar z3.c.R.length z3.cr) ∧ w'.cell? ⟨B7, 4, none⟩ = some (.slice z3.aw z3.c.Q.length z3.cw) ∧ w'.cell? ⟨B7, 5, none⟩ = some (.slice z3.af z3.c.F.length z3.cf))) (by kernel_rfl) ?_ (fun hHeld => ?_)
        · exact (HN7.out.keep J).c6
        generalize W.drew = V0 at *
        refine wpAnyH_take (i := 0) (oi := ⟨_, _, _, _, _, _⟩) (v := ?_) rfl (by kernel_rfl) (by kernel_rfl) (by kernel_rfl) (fun _ _ _ h => h) (Or.inl ⟨by rfl, ?_⟩) (by assumption) ?_
        rotate_left 1
        · intro w hSw; (try dsimp only at hSw); go_simp <;> with_reducible rfl
        (try simp only [Act.put]); (try simp only [List.setIfInBounds_toArray]); (try simp only [List.set_cons_succ]); (try simp only [List.set_cons_zero])
        refine wpAnyH_take (i := 1) (oi := ⟨_, _, _, _, _, _⟩) (v := ?_) rfl (by kernel_rfl) (by kernel_rfl) (by kernel_rfl) (fun _ _ _ h => h) (Or.inl ⟨by rfl, ?_⟩) (by assumption) ?_
        rotate_left 1
        · intro w hSw; (try dsimp only at hSw); go_simp <;> with_reducible rfl
        (try simp only [Act.put]); (try simp only [List.setIfInBounds_toArray]); (try simp only [List.set_cons_succ]); (try simp only [List.set_cons_zero])
        refine wpAnyH_take (i := 2) (oi := ⟨_, _, _, _, _, _⟩) (v := ?_) rfl (by kernel_rfl) (by kernel_rfl) (by kernel_rfl) (fun _ _ _ h => h) (Or.inl ⟨by rfl, ?_⟩) (by assumption) ?_
        rotate_left 1
        · intro w hSw; (try dsimp only at hSw); go_simp <;> with_reducible rfl
        (try simp only [Act.put]); (try simp only [List.setIfInBounds_toArray]); (try simp only [List.set_cons_succ]); (try simp only [List.set_cons_zero])
        refine wpAnyH_take (i := 3) (oi := ⟨_, _, _, _, _, _⟩) (v := undef) rfl (by kernel_rfl) (by kernel_rfl) (by kernel_rfl) (fun _ _ _ h => h) (Or.inr ⟨by rfl, rfl⟩) (by assumption) ?_
        (try simp only [Act.put]); (try simp only [List.setIfInBounds_toArray]); (try simp only [List.set_cons_succ]); (try simp only [List.set_cons_zero])
        refine wpAnyH_take (i := 4) (oi := ⟨_, _, _, _, _, _⟩) (v := undef) rfl (by kernel_rfl) (by kernel_rfl) (by kernel_rfl) (fun _ _ _ h => h) (Or.inr ⟨by rfl, rfl⟩) (by assumption) ?_
        (try simp only [Act.put]); (try simp only [List.setIfInBounds_toArray]); (try simp only [List.set_cons_succ]); (try simp only [List.set_cons_zero])
        refine wpAnyH_take (i := 5) (oi := ⟨_, _, _, _, _, _⟩) (v := undef) rfl (by kernel_rfl) (by kernel_rfl) (by kernel_rfl) (fun _ _ _ h => h) (Or.inr ⟨by rfl, rfl⟩) (by assumption) ?_
        (try simp only [Act.put]); (try simp only [List.setIfInBounds_toArray]); (try simp only [List.set_cons_succ]); (try simp only [List.set_cons_zero])
        refine wpAnyH_take (i := 6) (oi := ⟨_, _, _, _, _, _⟩) (v := undef) rfl (by kernel_rfl) (by kernel_rfl) (by kernel_rfl) (fun _ _ _ h => h) (Or.inr ⟨by rfl, rfl⟩) (by assumption) ?_
        (try simp only [Act.put]); (try simp only [List.setIfInBounds_toArray]); (try simp only [List.set_cons_succ]); (try simp only [List.set_cons_zero])
        refine wpAnyH_take (i := 7) (oi := ⟨_, _, _, _, _, _⟩) (v := undef) rfl (by kernel_rfl) (by kernel_rfl) (by kernel_rfl) (fun _ _ _ h => h) (Or.inr ⟨by rfl, rfl⟩) (by assumption) ?_
        (try simp only [Act.put]); (try simp only [List.setIfInBounds_toArray]); (try simp only [List.set_cons_succ]); (try simp only [List.set_cons_zero])
        refine wpAnyH_take (i := 8) (oi := ⟨_, _, _, _, _, _⟩) (v := undef) rfl (by kernel_rfl) (by kernel_rfl) (by kernel_rfl) (fun _ _ _ h => h) (Or.inr ⟨by rfl, rfl⟩) (by assumption) ?_
        (try simp only [Act.put]); (try simp only [List.setIfInBounds_toArray]); (try simp only [List.set_cons_succ]); (try simp only [List.set_cons_zero])
        refine wpAnyH_take (i := 9) (oi := ⟨_, _, _, _, _, _⟩) (v := undef) rfl (by kernel_rfl) (by kernel_rfl) (by kernel_rfl) (fun _ _ _ h => h) (Or.inr ⟨by rfl, rfl⟩) (by assumption) ?_
        (try simp only [Act.put]); (try simp only [List.setIfInBounds_toArray]); (try simp only [List.set_cons_succ]); (try simp only [List.set_cons_zero])
        refine wpAnyH_take (i := 10) (oi := ⟨_, _, _, _, _, _⟩) (v := undef) rfl (by kernel_rfl) (by kernel_rfl) (by kernel_rfl) (fun _ _ _ h => h) (Or.inr ⟨by rfl, rfl⟩) (by assumption) ?_
        (try simp only [Act.put]); (try simp only [List.setIfInBounds_toArray]); (try simp only [List.set_cons_succ]); (try simp only [List.set_cons_zero])
        refine wpAnyH_take (i := 11) (oi := ⟨_, _, _, _, _, _⟩) (v := undef) rfl (by kernel_rfl) (by kernel_rfl) (by kernel_rfl) (fun _ _ _ h => h) (Or.inr ⟨by rfl, rfl⟩) (by assumption) ?_
        (try simp only [Act.put]); (try simp only [List.setIfInBounds_toArray]); (try simp only [List.set_cons_succ]); (try simp only [List.set_cons_zero])
        refine wpAnyH_take (i := 12) (oi := ⟨_, _, _, _, _, _⟩) (v := undef) rfl (by kernel_rfl) (by kernel_rfl) (by kernel_rfl) (fun _ _ _ h => h) (Or.inr ⟨by rfl, rfl⟩) (by assumption) ?_
        (try simp only [Act.put]); (try simp only [List.setIfInBounds_toArray]); (try simp only [List.set_cons_succ]); (try simp only [List.set_cons_zero])
        refine wpAnyH_take (i := 13) (oi := ⟨_, _, _, _, _, _⟩) (v := undef) rfl (by kernel_rfl) (by kernel_rfl) (by kernel_rfl) (fun _ _ _ h => h) (Or.inr ⟨by rfl, rfl⟩) (by assumption) ?_
        (try simp only [Act.put]); (try simp only [List.setIfInBounds_toArray]); (try simp only [List.set_cons_succ]); (try simp only [List.set_cons_zero])
        refine wpAnyH_take (i := 14) (oi := ⟨_, _, _, _, _, _⟩) (v := undef) rfl (by kernel_rfl) (by kernel_rfl) (by kernel_rfl) (fun _ _ _ h => h) (Or.inr ⟨by rfl, rfl⟩) (by assumption) ?_
        (try simp only [Act.put]); (try simp only [List.setIfInBounds_toArray]); (try simp only [List.set_cons_succ]); (try simp only [List.set_cons_zero])
        refine wpAnyH_take (i := 15) (oi := ⟨_, _, _, _, _, _⟩) (v := ?_) rfl (by kernel_rfl) (by kernel_rfl) (by kernel_rfl) (fun _ _ _ h => h) (Or.inl ⟨by rfl, ?_⟩) (by assumption) ?_
        rotate_left 1
        · intro w hSw; (try dsimp only at hSw); go_simp <;> with_reducible rfl
        (try simp only [Act.put]); (try simp only [List.setIfInBounds_toArray]); (try simp only [List.set_cons_succ]); (try simp only [List.set_cons_zero])
        refine wpAnyH_take (i := 16) (oi := ⟨_, _, _, _, _, _⟩) (v := ?_) rfl (by kernel_rfl) (by kernel_rfl) (by kernel_rfl) (fun _ _ _ h => h) (Or.inl ⟨by rfl, ?_⟩) (by assumption) ?_
        rotate_left 1
        · intro w hSw; (try dsimp only at hSw); go_simp <;> with_reducible rfl
        (try simp only [Act.put]); (try simp only [List.setIfInBounds_toArray]); (try simp only [List.set_cons_succ]); (try simp only [List.set_cons_zero])
        refine wpAnyH_done (by kernel_rfl) ?_ _
        go_wp2_with fail
        go_ret
        exact ⟨rfl, KK.trans J⟩
      | true =>
        have h3 : sndC wt m z3 = true := HO.out.2 (by have := HQ.out.symm; simpa using this)
        have H3 := Lib.hid h3
        clear h3
        refine wp_region_held_drew (S := (fun w' => w'.cell? ⟨B7, 0, none⟩ = some (.string z3.c.nm) ∧ w'.cell? ⟨B7, 1, none⟩ = some (.int .i64 z3.c.kd) ∧ w'.cell? ⟨B7, 2, none⟩ = some (.int .u16 (sv z3.c.M)) ∧ w'.cell? ⟨B7, 3, none⟩ = some (.slice z3.ar z3.c.R.length z3.cr) ∧ w'.cell? ⟨B7, 4, none⟩ = some (.slice z3.aw z3.c.Q.length z3.cw) ∧ w'.cell? ⟨B7, 5, none⟩ = some (.slice z3.af z3.c.F.length z3.cf))) (by kernel_rfl) ?_ (fun hHeld => ?_)
        · exact (HN7.out.keep J).c6
        generalize W.drew = V0 at *
        refine wpAnyH_take (i := 0) (oi := ⟨_, _, _, _, _, _⟩) (v := ?_) rfl (by kernel_rfl) (by kernel_rfl) (by kernel_rfl) (fun _ _ _ h => h) (Or.inl ⟨by rfl, ?_⟩) (by assumption) ?_
        rotate_left 1
        · intro w hSw; (try dsimp only at hSw); go_simp <;> with_reducible rfl
        (try simp only [Act.put]); (try simp only [List.setIfInBounds_toArray]); (try simp only [List.set_cons_succ]); (try simp only [List.set_cons_zero])
        refine wpAnyH_take (i := 1) (oi := ⟨_, _, _, _, _, _⟩) (v := ?_) rfl (by kernel_rfl) (by kernel_rfl) (by kernel_rfl) (fun _ _ _ h => h) (Or.inl ⟨by rfl, ?_⟩) (by assumption) ?_
        rotate_left 1
        · intro w hSw; (try dsimp only at hSw); go_simp <;> with_reducible rfl
        (try simp only [Act.put]); (try simp only [List.setIfInBounds_toArray]); (try simp only [List.set_cons_succ]); (try simp only [List.set_cons_zero])
        refine wpAnyH_take (i := 2) (oi := ⟨_, _, _, _, _, _⟩) (v := ?_) rfl (by kernel_rfl) (by kernel_rfl) (by kernel_rfl) (fun _ _ _ h => h) (Or.inl ⟨by rfl, ?_⟩) (by assumption) ?_
        rotate_left 1
        · intro w hSw; (try dsimp only at hSw); go_simp <;> with_reducible rfl
        (try simp only [Act.put]); (try simp only [List.setIfInBounds_toArray]); (try simp only [List.set_cons_succ]); (try simp only [List.set_cons_zero])
        refine wpAnyH_take (i := 3) (oi := ⟨_, _, _, _, _, _⟩) (v := ?_) rfl (by kernel_rfl) (by kernel_rfl) (by kernel_rfl) (fun _ _ _ h => h) (Or.inl ⟨by rfl, ?_⟩) (by assumption) ?_
        rotate_left 1
        · intro w hSw; (try dsimp only at hSw); go_simp <;> with_reducible rfl
        (try simp only [Act.put]); (try simp only [List.setIfInBounds_toArray]); (try simp only [List.set_cons_succ]); (try simp only [List.set_cons_zero])
        refine wpAnyH_take (i := 5) (oi := ⟨_, _, _, _, _, _⟩) (v := ?_) rfl (by kernel_rfl) (by kernel_rfl) (by kernel_rfl) (fun _ _ _ h => h) (Or.inl ⟨by rfl, ?_⟩) (by assumption) ?_
        rotate_left 1
        · intro w hSw; (try dsimp only at hSw); go_simp <;> with_reducible rfl
        (try simp only [Act.put]); (try simp only [List.setIfInBounds_toArray]); (try simp only [List.set_cons_succ]); (try simp only [List.set_cons_zero])
        refine wpAnyH_take (i := 6) (oi := ⟨_, _, _, _, _, _⟩) (v := ?_) rfl (by kernel_rfl) (by kernel_rfl) (by kernel_rfl) (fun _ _ _ h => h) (Or.inl ⟨by rfl, ?_⟩) (by assumption) ?_
        rotate_left 1
        · intro w hSw; (try dsimp only at hSw); go_simp <;> with_reducible rfl
        (try simp only [Act.put]); (try simp only [List.setIfInBounds_toArray]); (try simp only [List.set_cons_succ]); (try simp only [List.set_cons_zero])
        refine wpAnyH_ready (rs := [4, 7]) (by kernel_rfl) (by simp) ?_
        refine AllReadyH.cons (o := ⟨_, _, _, _, _, _⟩) rfl (fun K hK => ?_) (AllReadyH.cons (o := ⟨_, _, _, _, _, _⟩) rfl (fun K hK => ?_) AllReadyH.nil)
        · go_simp
          have r3 := rd_new 32 6 V0 (gl [z3]) 1 (by decide) rfl
          have KA := (Keeps.refl V0).alloc (.cells #[.string z3.c.nm, .int .i64 z3.c.kd, .int .u16 (sv z3.c.M), .slice z3.ar z3.c.R.length z3.cr, .slice z3.aw z3.c.Q.length z3.cw, .slice z3.af z3.c.F.length z3.cf] 32)
          replace r3 : Rd (V0.alloc (.cells #[.string z3.c.nm, .int .i64 z3.c.kd, .int .u16 (sv z3.c.M), .slice z3.ar z3.c.R.length z3.cr, .slice z3.aw z3.c.Q.length z3.cw, .slice z3.af z3.c.F.length z3.cf] 32)) (some ⟨V0.heap.size, 0, none⟩) 1 1 6 (gl [z3]) := r3
          replace J := J.trans KA
          clear KA
          generalize V0.alloc (.cells #[.string z3.c.nm, .int .i64 z3.c.kd, .int .u16 (sv z3.c.M), .slice z3.ar z3.c.R.length z3.cr, .slice z3.aw z3.c.Q.length z3.cw, .slice z3.af z3.c.F.length z3.cf] 32) = V1 at *
          generalize V0.heap.size = BS at *
          refine hK.out _ _ ?_ (fun hHeld => ?_)
          · exact (HN7.out.keep J).c6
          clear hK K
          (try simp only [Act.put]); (try simp only [List.setIfInBounds_toArray]); (try simp only [List.set_cons_succ]); (try simp only [List.set_cons_zero])
          refine wpAnyH_ready (rs := [7]) (by kernel_rfl) (by simp) ?_
          refine AllReadyH.cons (o := ⟨_, _, _, _, _, _⟩) rfl (fun K hK => ?_) AllReadyH.nil
          go_simp
          refine (cloneF_any _ _ m _ (RM10.out.keep J) hml).mono ?_
          rintro e V2 ⟨v8, rfl, hO8⟩
          have K8 := hO8.2
          obtain ⟨a8, cc8, rfl, r8⟩ := hO8.rd
          clear hO8
          replace r3 := r3.keep K8
          replace J := J.trans K8
          clear K8
          refine hK.out _ _ ?_ (fun hHeld => ?_)
          · exact (HN7.out.keep J).c6
          clear hK K
          (try simp only [Act.put]); (try simp only [List.setIfInBounds_toArray]); (try simp only [List.set_cons_succ]); (try simp only [List.set_cons_zero])
          refine wpAnyH_ready (rs := [8]) (by kernel_rfl) (by simp) ?_
          refine AllReadyH.cons (o := ⟨_, _, _, _, _, _⟩) rfl (fun K hK => ?_) AllReadyH.nil
          go_simp
          refine (jsnd_any _ 1 1 [z3] wt _ _ _ m _ r3 r8 hml (fun y hy => by rw [List.mem_singleton.1 hy]; exact (HR3.out.keep J).rd) HV3.out).mono ?_
          rintro e V4 ⟨rfl, K8⟩
          replace J := J.trans K8
          clear K8 r3 r8
          rw [show [z3].all (sndC wt m) = true by simp [H3.out]]
          refine hK.out _ _ ?_ (fun hHeld => ?_)
          · exact (HN7.out.keep J).c6
          clear hK K
          (try simp only [Act.put]); (try simp only [List.setIfInBounds_toArray]); (try simp only [List.set_cons_succ]); (try simp only [List.set_cons_zero])
          refine wpAnyH_take (i := 9) (oi := ⟨_, _, _, _, _, _⟩) (v := ?_) rfl (by kernel_rfl) (by kernel_rfl) (by kernel_rfl) (fun _ _ _ h => h) (Or.inl ⟨by rfl, ?_⟩) (by assumption) ?_
          rotate_left 1
          · intro w hSw; (try dsimp only at hSw); go_simp <;> with_reducible rfl
          (try simp only [Act.put]); (try simp only [List.setIfInBounds_toArray]); (try simp only [List.set_cons_succ]); (try simp only [List.set_cons_zero])
          refine wpAnyH_take (i := 10) (oi := ⟨_, _, _, _, _, _⟩) (v := ?_) rfl (by kernel_rfl) (by kernel_rfl) (by kernel_rfl) (fun _ _ _ h => h) (Or.inl ⟨by rfl, ?_⟩) (by assumption) ?_
          rotate_left 1
          · intro w hSw; (try dsimp only at hSw); go_simp <;> with_reducible rfl
          (try simp only [Act.put]); (try simp only [List.setIfInBounds_toArray]); (try simp only [List.set_cons_succ]); (try simp only [List.set_cons_zero])
          refine wpAnyH_take (i := 11) (oi := ⟨_, _, _, _, _, _⟩) (v := ?_) rfl (by kernel_rfl) (by kernel_rfl) (by kernel_rfl) (fun _ _ _ h => h) (Or.inl ⟨by rfl, ?_⟩) (by assumption) ?_
          rotate_left 1
          · intro w hSw; (try dsimp only at hSw); go_simp <;> with_reducible rfl
          (try simp only [Act.put]); (try simp only [List.setIfInBounds_toArray]); (try simp only [List.set_cons_succ]); (try simp only [List.set_cons_zero])
          refine wpAnyH_take (i := 12) (oi := ⟨_, _, _, _, _, _⟩) (v := ?_) rfl (by kernel_rfl) (by kernel_rfl) (by kernel_rfl) (fun _ _ _ h => h) (Or.inl ⟨by rfl, ?_⟩) (by assumption) ?_
          rotate_left 1
          · intro w hSw; (try dsimp only at hSw); go_simp <;> with_reducible rfl
          (try simp only [Act.put]); (try simp only [List.setIfInBounds_toArray]); (try simp only [List.set_cons_succ]); (try simp only [List.set_cons_zero])
          refine wpAnyH_ready (rs := [13]) (by kernel_rfl) (by simp) ?_
          refine AllReadyH.cons (o := ⟨_, _, _, _, _, _⟩) rfl (fun K hK => ?_) AllReadyH.nil
          go_simp
          have hcl := rsndG_any z3 wt _ _ _ m V4 (HR3.out.keep J).rd (RM10.out.keep J) hml HO.out.1
          unfold vg at hcl
          rw [H3.out] at hcl
          refine hcl.mono ?_
          rintro e V5 ⟨rfl, K8⟩
          replace J := J.trans K8
          clear K8 hcl
          refine hK.out _ _ ?_ (fun hHeld => ?_)
          · exact (HN7.out.keep J).c6
          clear hK K
          (try simp only [Act.put]); (try simp only [List.setIfInBounds_toArray]); (try simp only [List.set_cons_succ]); (try simp only [List.set_cons_zero])
          refine wpAnyH_take (i := 14) (oi := ⟨_, _, _, _, _, _⟩) (v := ?_) rfl (by kernel_rfl) (by kernel_rfl) (by kernel_rfl) (fun _ _ _ h => h) (Or.inl ⟨by rfl, ?_⟩) (by assumption) ?_
          rotate_left 1
          · intro w hSw; (try dsimp only at hSw); go_simp <;> with_reducible rfl
          (try simp only [Act.put]); (try simp only [List.setIfInBounds_toArray]); (try simp only [List.set_cons_succ]); (try simp only [List.set_cons_zero])
          refine wpAnyH_take (i := 15) (oi := ⟨_, _, _, _, _, _⟩) (v := ?_) rfl (by kernel_rfl) (by kernel_rfl) (by kernel_rfl) (fun _ _ _ h => h) (Or.inl ⟨by rfl, ?_⟩) (by assumption) ?_
          rotate_left 1
          · intro w hSw; (try dsimp only at hSw); go_simp <;> with_reducible rfl
          (try simp only [Act.put]); (try simp only [List.setIfInBounds_toArray]); (try simp only [List.set_cons_succ]); (try simp only [List.set_cons_zero])
          refine wpAnyH_take (i := 16) (oi := ⟨_, _, _, _, _, _⟩) (v := ?_) rfl (by kernel_rfl) (by kernel_rfl) (by kernel_rfl) (fun _ _ _ h => h) (Or.inl ⟨by rfl, ?_⟩) (by assumption) ?_
          rotate_left 1
          · intro w hSw; (try dsimp only at hSw); go_simp <;> with_reducible rfl
          (try simp only [Act.put]); (try simp only [List.setIfInBounds_toArray]); (try simp only [List.set_cons_succ]); (try simp only [List.set_cons_zero])
          refine wpAnyH_done (by kernel_rfl) ?_ _
          go_wp2_with fail
          go_ret
          exact ⟨rfl, KK.trans J⟩
        · go_simp
          refine (cloneF_any _ _ m _ (RM10.out.keep J) hml).mono ?_
          rintro e V1 ⟨v8, rfl, hO8⟩
          have K8 := hO8.2
          obtain ⟨a8, cc8, rfl, r8⟩ := hO8.rd
          clear hO8
          replace J := J.trans K8
          clear K8
          refine hK.out _ _ ?_ (fun hHeld => ?_)
          · exact (HN7.out.keep J).c6
          clear hK K
          (try simp only [Act.put]); (try simp only [List.setIfInBounds_toArray]); (try simp only [List.set_cons_succ]); (try simp only [List.set_cons_zero])
          refine wpAnyH_ready (rs := [4]) (by kernel_rfl) (by simp) ?_
          refine AllReadyH.cons (o := ⟨_, _, _, _, _, _⟩) rfl (fun K hK => ?_) AllReadyH.nil
          go_simp
          have r3 := rd_new 32 6 V1 (gl [z3]) 1 (by decide) rfl
          have KA := (Keeps.refl V1).alloc (.cells #[.string z3.c.nm, .int .i64 z3.c.kd, .int .u16 (sv z3.c.M), .slice z3.ar z3.c.R.length z3.cr, .slice z3.aw z3.c.Q.length z3.cw, .slice z3.af z3.c.F.length z3.cf] 32)
          replace r3 : Rd (V1.alloc (.cells #[.string z3.c.nm, .int .i64 z3.c.kd, .int .u16 (sv z3.c.M), .slice z3.ar z3.c.R.length z3.cr, .slice z3.aw z3.c.Q.length z3.cw, .slice z3.af z3.c.F.length z3.cf] 32)) (some ⟨V1.heap.size, 0, none⟩) 1 1 6 (gl [z3]) := r3
          replace r8 := r8.keep KA
          replace J := J.trans KA
          clear KA
          generalize V1.alloc (.cells #[.string z3.c.nm, .int .i64 z3.c.kd, .int .u16 (sv z3.c.M), .slice z3.ar z3.c.R.length z3.cr, .slice z3.aw z3.c.Q.length z3.cw, .slice z3.af z3.c.F.length z3.cf] 32) = V2 at *
          generalize V1.heap.size = BS at *
          refine hK.out _ _ ?_ (fun hHeld => ?_)
          · exact (HN7.out.keep J).c6
          clear hK K
          (try simp only [Act.put]); (try simp only [List.setIfInBounds_toArray]); (try simp only [List.set_cons_succ]); (try simp only [List.set_cons_zero])
          refine wpAnyH_ready (rs := [8]) (by kernel_rfl) (by simp) ?_
          refine AllReadyH.cons (o := ⟨_, _, _, _, _, _⟩) rfl (fun K hK => ?_) AllReadyH.nil
          go_simp
          refine (jsnd_any _ 1 1 [z3] wt _ _ _ m _ r3 r8 hml (fun y hy => by rw [List.mem_singleton.1 hy]; exact (HR3.out.keep J).rd) HV3.out).mono ?_
          rintro e V4 ⟨rfl, K8⟩
          replace J := J.trans K8
          clear K8 r3 r8
          rw [show [z3].all (sndC wt m) = true by simp [H3.out]]
          refine hK.out _ _ ?_ (fun hHeld => ?_)
          · exact (HN7.out.keep J).c6
          clear hK K
          (try simp only [Act.put]); (try simp only [List.setIfInBounds_toArray]); (try simp only [List.set_cons_succ]); (try simp only [List.set_cons_zero])
          refine wpAnyH_take (i := 9) (oi := ⟨_, _, _, _, _, _⟩) (v := ?_) rfl (by kernel_rfl) (by kernel_rfl) (by kernel_rfl) (fun _ _ _ h => h) (Or.inl ⟨by rfl, ?_⟩) (by assumption) ?_
          rotate_left 1
          · intro w hSw; (try dsimp only at hSw); go_simp <;> with_reducible rfl
          (try simp only [Act.put]); (try simp only [List.setIfInBounds_toArray]); (try simp only [List.set_cons_succ]); (try simp only [List.set_cons_zero])
          refine wpAnyH_take (i := 10) (oi := ⟨_, _, _, _, _, _⟩) (v := ?_) rfl (by kernel_rfl) (by kernel_rfl) (by kernel_rfl) (fun _ _ _ h => h) (Or.inl ⟨by rfl, ?_⟩) (by assumption) ?_
          rotate_left 1
          · intro w hSw; (try dsimp only at hSw); go_simp <;> with_reducible rfl
          (try simp only [Act.put]); (try simp only [List.setIfInBounds_toArray]); (try simp only [List.set_cons_succ]); (try simp only [List.set_cons_zero])
          refine wpAnyH_take (i := 11) (oi := ⟨_, _, _, _, _, _⟩) (v := ?_) rfl (by kernel_rfl) (by kernel_rfl) (by kernel_rfl) (fun _ _ _ h => h) (Or.inl ⟨by rfl, ?_⟩) (by assumption) ?_
          rotate_left 1
          · intro w hSw; (try dsimp only at hSw); go_simp <;> with_reducible rfl
          (try simp only [Act.put]); (try simp only [List.setIfInBounds_toArray]); (try simp only [List.set_cons_succ]); (try simp only [List.set_cons_zero])
          refine wpAnyH_take (i := 12) (oi := ⟨_, _, _, _, _, _⟩) (v := ?_) rfl (by kernel_rfl) (by kernel_rfl) (by kernel_rfl) (fun _ _ _ h => h) (Or.inl ⟨by rfl, ?_⟩) (by assumption) ?_
          rotate_left 1
          · intro w hSw; (try dsimp only at hSw); go_simp <;> with_reducible rfl
          (try simp only [Act.put]); (try simp only [List.setIfInBounds_toArray]); (try simp only [List.set_cons_succ]); (try simp only [List.set_cons_zero])
          refine wpAnyH_ready (rs := [13]) (by kernel_rfl) (by simp) ?_
          refine AllReadyH.cons (o := ⟨_, _, _, _, _, _⟩) rfl (fun K hK => ?_) AllReadyH.nil
          go_simp
          have hcl := rsndG_any z3 wt _ _ _ m V4 (HR3.out.keep J).rd (RM10.out.keep J) hml HO.out.1
          unfold vg at hcl
          rw [H3.out] at hcl
          refine hcl.mono ?_
          rintro e V5 ⟨rfl, K8⟩
          replace J := J.trans K8
          clear K8 hcl
          refine hK.out _ _ ?_ (fun hHeld => ?_)
          · exact (HN7.out.keep J).c6
          clear hK K
          (try simp only [Act.put]); (try simp only [List.setIfInBounds_toArray]); (try simp only [List.set_cons_succ]); (try simp only [List.set_cons_zero])
          refine wpAnyH_take (i := 14) (oi := ⟨_, _, _, _, _, _⟩) (v := ?_) rfl (by kernel_rfl) (by kernel_rfl) (by kernel_rfl) (fun _ _ _ h => h) (Or.inl ⟨by rfl, ?_⟩) (by assumption) ?_
          rotate_left 1
          · intro w hSw; (try dsimp only at hSw); go_simp <;> with_reducible rfl
          (try simp only [Act.put]); (try simp only [List.setIfInBounds_toArray]); (try simp only [List.set_cons_succ]); (try simp only [List.set_cons_zero])
          refine wpAnyH_take (i := 15) (oi := ⟨_, _, _, _, _, _⟩) (v := ?_) rfl (by kernel_rfl) (by kernel_rfl) (by kernel_rfl) (fun _ _ _ h => h) (Or.inl ⟨by rfl, ?_⟩) (by assumption) ?_
          rotate_left 1
          · intro w hSw; (try dsimp only at hSw); go_simp <;> with_reducible rfl
          (try simp only [Act.put]); (try simp only [List.setIfInBounds_toArray]); (try simp only [List.set_cons_succ]); (try simp only [List.set_cons_zero])
          refine wpAnyH_take (i := 16) (oi := ⟨_, _, _, _, _, _⟩) (v := ?_) rfl (by kernel_rfl) (by kernel_rfl) (by kernel_rfl) (fun _ _ _ h => h) (Or.inl ⟨by rfl, ?_⟩) (by assumption) ?_
          rotate_left 1
          · intro w hSw; (try dsimp only at hSw); go_simp <;> with_reducible rfl
          (try simp only [Act.put]); (try simp only [List.setIfInBounds_toArray]); (try simp only [List.set_cons_succ]); (try simp only [List.set_cons_zero])
          refine wpAnyH_done (by kernel_rfl) ?_ _
          go_wp2_with fail
          go_ret
          exact ⟨rfl, KK.trans J⟩
    · go_wp2_with fail
      go_ret
      exact ⟨rfl, KK⟩
end Go.Proofs.YtnlohknlchgfgaaGreat
