/- Texts joined into one (wip/bin/pack.py): Law29f. -/
import Derived.Test.YtnlohknlchgfgaaGreatDoorKSf
import Derived.Test.YtnlohknlchgfgaaGreatDoorKZc
import Derived.Test.YtnlohknlchgfgaaGreatDoorKZi
import Derived.Test.YtnlohknlchgfgaaGreatDoorKZj
/- The statement JointErrors. -/
namespace Go.Proofs.YtnlohknlchgfgaaGreatDoor
open Go.RowKit Go.Lib Go.Shelf
/-- what the two configurations of the statement have in common, one of them not valid -/
structure Bad2 (z1 z2 : CA) (er : Int) : Prop where
  of : ofE z1.c z2.c = er
  ofc : ofC z1.c z2.c = cf00
  fe : jfltE z1.c z2.c = er
  fl : jfltL z1.c z2.c = []
  ce : chainE [z1.c, z2.c] = er
  cl : chainL [z1.c, z2.c] = []
  ve : vldL [z1, z2] = er
  bad : ∃ y ∈ [z1, z2], cvf y.c ≠ 0
theorem bad2_of {z1 z2 : CA} {er : Int} (hne : er ≠ 0) (h : vldL [z1, z2] = er) : Bad2 z1 z2 er := by
  have h2 := h
  rw [vld2] at h2
  have e1 : ofE z1.c z2.c = er := by
    unfold ofE
    by_cases h1 : cvf z1.c = 0
    · rw [if_neg (by simp [h1])] at h2 ⊢
      by_cases h3 : cvf z2.c = 0
      · rw [if_neg (by simp [h3])] at h2; exact absurd h2.symm hne
      · rw [if_pos h3] at h2 ⊢; exact h2
    · rw [if_pos h1] at h2 ⊢; exact h2
  have e2 : jfltE z1.c z2.c = er := by
    unfold jfltE
    by_cases h1 : cvf z1.c = 0
    · rw [if_neg (by simp [h1])] at h2 ⊢
      by_cases h3 : cvf z2.c = 0
      · rw [if_neg (by simp [h3])] at h2; exact absurd h2.symm hne
      · rw [if_pos h3] at h2 ⊢; exact h2
    · rw [if_pos h1] at h2 ⊢; exact h2
  have hvc : vldC [z1.c, z2.c] = er := by rw [← h, vldL_eq]; rfl
  obtain ⟨c1, c2⟩ := chain_bad (l := [z1.c, z2.c]) (by simp) (by rw [hvc]; exact hne)
  refine ⟨e1, ?_, e2, ?_, by rw [c1, hvc], c2, h, ?_⟩
  · unfold ofC; rw [if_pos (by rw [e1]; exact hne)]
  · unfold jfltL; rw [if_pos (by rw [e2]; exact hne)]
  · by_cases h1 : cvf z1.c = 0
    · by_cases h3 : cvf z2.c = 0
      · rw [if_neg (by simp [h1]), if_neg (by simp [h3])] at h2; exact absurd h2.symm hne
      · exact ⟨z2, by simp, h3⟩
    · exact ⟨z1, by simp, h1⟩
theorem Bad2.saf {z1 z2 : CA} {er : Int} (h : Bad2 z1 z2 er) (z : S) : [z1, z2].all (safE z) = false := all_bad (by obtain ⟨y, hy, hn⟩ := h.bad; exact ⟨y, hy, by unfold safE; rw [if_neg hn]⟩)
theorem Bad2.tol {z1 z2 : CA} {er : Int} (h : Bad2 z1 z2 er) (z : S) : [z1, z2].all (tolE z) = false := all_bad (by obtain ⟨y, hy, hn⟩ := h.bad; exact ⟨y, hy, by unfold tolE; rw [if_neg hn]⟩)
theorem Bad2.snd {z1 z2 : CA} {er : Int} (h : Bad2 z1 z2 er) (z : S) (m : List F2) : [z1, z2].all (sndE z m) = false := all_bad (by obtain ⟨y, hy, hn⟩ := h.bad; exact ⟨y, hy, by unfold sndE; rw [if_neg hn]⟩)
theorem own_none {e : TypeId} {sz : Nat} {w w' : World} {v : Value} {n : Nat} {xs : List Value} (h : Own e sz w w' v n xs) (hn : n = 0) : ∃ a c, v = .slice a 0 c ∧ Keeps w w' := by
  obtain ⟨a, c, rfl, _⟩ := h.rd
  subst hn
  exact ⟨a, c, rfl, h.2⟩
set_option maxRecDepth 20000 in
set_option maxHeartbeats 16000000 in
theorem JointErrors_any (x : CA) (d : D29) (first : Bool) (w : World) (hT : Tab w) (hx : RdG w x) (hd : OkD w d) :
    Calls Tryz.prog 5 #[vg x, vD d, .bool first] w fun e w' => e = .returned (.bool true) ∧ Keeps w w' := by
  have hs : ∀ o, (w.alloc o).heap.size = w.heap.size + 1 := fun o => World.size_alloc ..
  have hb3 := (Blk.new w 32 #[.string x.c.nm, .int .i64 x.c.kd, .int .u16 (sv x.c.M), .slice x.ar x.c.R.length x.cr, .slice x.aw x.c.Q.length x.cw, .slice x.af x.c.F.length x.cf]).keep ((Keeps.refl _).alloc (.cells (cD d) 27))
  have hb4 := Blk.new (w.alloc (.cells #[.string x.c.nm, .int .i64 x.c.kd, .int .u16 (sv x.c.M), .slice x.ar x.c.R.length x.cr, .slice x.aw x.c.Q.length x.cw, .slice x.af x.c.F.length x.cf] 32)) 27 (cD d)
  rw [hs] at hb4
  have KW := ((Keeps.refl w).alloc (.cells #[.string x.c.nm, .int .i64 x.c.kd, .int .u16 (sv x.c.M), .slice x.ar x.c.R.length x.cr, .slice x.aw x.c.Q.length x.cw, .slice x.af x.c.F.length x.cf] 32)).alloc (.cells (cD d) 27)
  have hmd := fun W (J : Keeps w W) => made_any ⟨#[98]⟩ d W (hd.keep J)
  have hmv : cvf (mdC ⟨#[98]⟩ d) = 0 := mdC_valid (by decide) d
  have hwv := fun W (J : Keeps w W) => rvalidG_any x W (hx.keep J)
  have hfew := fun W => few27_any x.c.nm x.c.kd x.c.M (ar := x.ar) (nr := x.c.R.length) (cr := x.cr) (aw := x.aw) (nq := x.c.Q.length) (cw := x.cw) (af := x.af) (nf := x.c.F.length) (cf := x.cf) W
  obtain ⟨er, her⟩ : ∃ er, er = cvf x.c := ⟨_, rfl⟩
  rw [← her] at hwv
  obtain ⟨mc, hmc⟩ : ∃ mc, mc = mdC ⟨#[98]⟩ d := ⟨_, rfl⟩
  rw [← hmc] at hmd hmv
  unfold vg vD at *
  have HMD := Lib.hid hmd; have HMV := Lib.hid hmv; have HB3 := Lib.hid hb3; have HB4 := Lib.hid hb4; have HKW := Lib.hid KW; have HX := Lib.hid (hx.keep KW); have HT := Lib.hid (hT.keep KW); have HER := Lib.hid her; have HWV := Lib.hid hwv; have HFEW := Lib.hid hfew
  clear hmd hmv hb3 hb4 KW hs hT hx hd her hwv hmc hfew
  go_enter Tryz.func5, Tryz.ntmps5
  go_wp2_with fail
  generalize (w.alloc (.cells #[.string x.c.nm, .int .i64 x.c.kd, .int .u16 (sv x.c.M), .slice x.ar x.c.R.length x.cr, .slice x.aw x.c.Q.length x.cw, .slice x.af x.c.F.length x.cf] 32)).alloc (.cells (cD d) 27) = W2 at *
  refine (awake29_any _).mono ?_
  rintro e w1 ⟨rfl, K1⟩
  obtain ⟨c0, c1, c2, c3, c4, c5⟩ := (HB3.out.keep K1).c6
  go_wp2_with fail
  clear c0 c1 c2 c3 c4 c5
  refine (HFEW.out _).mono ?_
  rintro e w3 ⟨rfl, K⟩
  replace K1 := K1.trans K
  clear K
  generalize fewB x.c.nm x.c.R.length x.c.Q.length x.c.F.length = fw at *
  cases fw with
  | false =>
    go_wp2_with fail
    refine (awake29_any _).mono ?_
    rintro e w4 ⟨rfl, K⟩
    go_wp2_with fail
    go_ret
    exact ⟨rfl, (HKW.out.trans K1).trans K⟩
  | true =>
  obtain ⟨c0, c1, c2, c3, c4, c5⟩ := (HB3.out.keep K1).c6
  go_wp2_with fail
  clear c0 c1 c2 c3 c4 c5
  refine (HWV.out _ (HKW.out.trans K1)).mono ?_
  rintro e w4 ⟨rfl, K⟩
  replace K1 := K1.trans K
  clear K
  rcases Decidable.em (er = 0) with he | he
  · subst he
    go_wp2_with fail
    go_ret
    exact ⟨rfl, HKW.out.trans K1⟩
  have hb : (er == 0) = false := by simpa using he
  have HNEE := Lib.hid he
  clear he
  have hp : ∀ W', Keeps w4 W' → (W'.cell? ⟨w.heap.size, 0, none⟩ = some (.string x.c.nm) ∧ W'.cell? ⟨w.heap.size, 1, none⟩ = some (.int .i64 x.c.kd) ∧ W'.cell? ⟨w.heap.size, 2, none⟩ = some (.int .u16 (sv x.c.M)) ∧ W'.cell? ⟨w.heap.size, 3, none⟩ = some (.slice x.ar x.c.R.length x.cr) ∧ W'.cell? ⟨w.heap.size, 4, none⟩ = some (.slice x.aw x.c.Q.length x.cw) ∧ W'.cell? ⟨w.heap.size, 5, none⟩ = some (.slice x.af x.c.F.length x.cf)) ∧ (W'.cell? ⟨w.heap.size + 1, 0, none⟩ = some (.int .u8 d.kd) ∧ W'.cell? ⟨w.heap.size + 1, 1, none⟩ = some (.int .u8 d.N) ∧ W'.cell? ⟨w.heap.size + 1, 2, none⟩ = some (.int .u8 d.md) ∧ W'.cell? ⟨w.heap.size + 1, 3, none⟩ = some (.slice d.ar d.lr.length d.cr) ∧ W'.cell? ⟨w.heap.size + 1, 4, none⟩ = some (.slice d.aw d.lw.length d.cw) ∧ W'.cell? ⟨w.heap.size + 1, 5, none⟩ = some (.slice d.af d.lf.length d.cf) ∧ W'.cell? ⟨w.heap.size + 1, 6, none⟩ = some (.int .u8 d.mv)) := fun W' J => ⟨((HB3.out.keep K1).keep J).c6, ((HB4.out.keep K1).keep J).c7⟩
  have HP := Lib.hid hp
  clear hp
  go_wp2_with fail
  go_cut [8, 9] from 35 (fun s8 s9 wx => ∃ B8 B9 z, s8 = .pointer (some ⟨B8, 0, none⟩) ∧ s9 = .pointer (some ⟨B9, 0, none⟩) ∧ Hid (z.c = mc) ∧ Hid (Blk wx B8 32 #[.string x.c.nm, .int .i64 x.c.kd, .int .u16 (sv x.c.M), .slice x.ar x.c.R.length x.cr, .slice x.aw x.c.Q.length x.cw, .slice x.af x.c.F.length x.cf]) ∧ Hid (Blk wx B9 32 #[.string z.c.nm, .int .i64 z.c.kd, .int .u16 (sv z.c.M), .slice z.ar z.c.R.length z.cr, .slice z.aw z.c.Q.length z.cw, .slice z.af z.c.F.length z.cf]) ∧ Hid (RoG wx z) ∧ Hid (B8 ≠ B9) ∧ Hid (W2.heap.size ≤ B8) ∧ Hid (W2.heap.size ≤ B9) ∧ Keeps w4 wx)
  case first =>
    have J : Keeps w4 w4.drew := (Keeps.refl w4).drew
    refine wp_region_held_drew (S := (fun w' => (w'.cell? ⟨w.heap.size, 0, none⟩ = some (.string x.c.nm) ∧ w'.cell? ⟨w.heap.size, 1, none⟩ = some (.int .i64 x.c.kd) ∧ w'.cell? ⟨w.heap.size, 2, none⟩ = some (.int .u16 (sv x.c.M)) ∧ w'.cell? ⟨w.heap.size, 3, none⟩ = some (.slice x.ar x.c.R.length x.cr) ∧ w'.cell? ⟨w.heap.size, 4, none⟩ = some (.slice x.aw x.c.Q.length x.cw) ∧ w'.cell? ⟨w.heap.size, 5, none⟩ = some (.slice x.af x.c.F.length x.cf)) ∧ (w'.cell? ⟨(w.heap.size + 1), 0, none⟩ = some (.int .u8 d.kd) ∧ w'.cell? ⟨(w.heap.size + 1), 1, none⟩ = some (.int .u8 d.N) ∧ w'.cell? ⟨(w.heap.size + 1), 2, none⟩ = some (.int .u8 d.md) ∧ w'.cell? ⟨(w.heap.size + 1), 3, none⟩ = some (.slice d.ar d.lr.length d.cr) ∧ w'.cell? ⟨(w.heap.size + 1), 4, none⟩ = some (.slice d.aw d.lw.length d.cw) ∧ w'.cell? ⟨(w.heap.size + 1), 5, none⟩ = some (.slice d.af d.lf.length d.cf) ∧ w'.cell? ⟨(w.heap.size + 1), 6, none⟩ = some (.int .u8 d.mv)))) (by kernel_rfl) ?_ (fun hHeld => ?_)
    · exact HP.out _ J
    generalize w4.drew = V0 at *
    refine wpAnyH_take (i := 0) (oi := ⟨_, _, _, _, _, _⟩) (v := ?_) rfl (by kernel_rfl) (by kernel_rfl) (by kernel_rfl) (fun _ _ _ h => h) (Or.inl ⟨by rfl, ?_⟩) (by assumption) ?_
    rotate_left 1
    · intro w hSw; (try dsimp only at hSw); go_simp <;> with_reducible rfl
    (try simp only [Act.put]); (try simp only [List.setIfInBounds_toArray]); (try simp only [List.set_cons_succ]); (try simp only [List.set_cons_zero])
    refine wpAnyH_take (i := 1) (oi := ⟨_, _, _, _, _, _⟩) (v := ?_) rfl (by kernel_rfl) (by kernel_rfl) (by kernel_rfl) (fun _ _ _ h => h) (Or.inl ⟨by rfl, ?_⟩) (by assumption) ?_
    rotate_left 1
    · intro w hSw; (try dsimp only at hSw); go_simp <;> with_reducible rfl
    (try simp only [Act.put]); (try simp only [List.setIfInBounds_toArray]); (try simp only [List.set_cons_succ]); (try simp only [List.set_cons_zero])
    refine wpAnyH_ready (rs := [2, 3, 4]) (by kernel_rfl) (by simp) ?_
    refine AllReadyH.cons (o := ⟨_, _, _, _, _, _⟩) rfl (fun K hK => ?_) (AllReadyH.cons (o := ⟨_, _, _, _, _, _⟩) rfl (fun K hK => ?_) (AllReadyH.cons (o := ⟨_, _, _, _, _, _⟩) rfl (fun K hK => ?_) AllReadyH.nil))
    · go_simp
      have hcl := HMD.out V0 ((HKW.out.trans K1).trans J)
      refine hcl.mono ?_
      clear hcl
      rintro e V1 ⟨z, rfl, hz, hR, K9⟩
      have HZ := Lib.hid hz
      clear hz
      unfold vg
      dsimp only
      replace J := J.trans K9
      clear K9
      refine hK.out _ _ ?_ (fun hHeld => ?_)
      · exact HP.out _ J
      clear hK K
      (try simp only [Act.put]); (try simp only [List.setIfInBounds_toArray]); (try simp only [List.set_cons_succ]); (try simp only [List.set_cons_zero])
      refine wpAnyH_ready (rs := [3, 4]) (by kernel_rfl) (by simp) ?_
      refine AllReadyH.cons (o := ⟨_, _, _, _, _, _⟩) rfl (fun K hK => ?_) (AllReadyH.cons (o := ⟨_, _, _, _, _, _⟩) rfl (fun K hK => ?_) AllReadyH.nil)
      · go_simp
        have hn8 := Blk.new V1 32 zG
        have KA := (Keeps.refl V1).alloc (.cells zG 32)
        have hg8 : w4.heap.size ≤ V1.heap.size := J.size
        replace hR := hR.keep KA
        replace J := J.trans KA
        clear KA
        generalize V1.alloc (.cells zG 32) = V2 at *
        generalize V1.heap.size = B8 at *
        refine hK.out _ _ ?_ (fun hHeld => ?_)
        · exact HP.out _ J
        clear hK K
        (try simp only [Act.put]); (try simp only [List.setIfInBounds_toArray]); (try simp only [List.set_cons_succ]); (try simp only [List.set_cons_zero])
        refine wpAnyH_ready (rs := [4]) (by kernel_rfl) (by simp) ?_
        refine AllReadyH.cons (o := ⟨_, _, _, _, _, _⟩) rfl (fun K hK => ?_) AllReadyH.nil
        · go_simp
          have hn9 := Blk.new V2 32 zG
          have KA := (Keeps.refl V2).alloc (.cells zG 32)
          have hg9 : w4.heap.size ≤ V2.heap.size := J.size
          have hne : V2.heap.size ≠ B8 := by have := hn8.lt; omega
          replace hR := hR.keep KA
          replace hn8 := hn8.keep KA
          replace J := J.trans KA
          clear KA
          generalize V2.alloc (.cells zG 32) = V3 at *
          generalize V2.heap.size = B9 at *
          have HNE89 := Lib.hid hne.symm
          clear hne
          refine hK.out _ _ ?_ (fun hHeld => ?_)
          · exact HP.out _ J
          clear hK K
          (try simp only [Act.put]); (try simp only [List.setIfInBounds_toArray]); (try simp only [List.set_cons_succ]); (try simp only [List.set_cons_zero])
          refine wpAnyH_ready (rs := [5]) (by kernel_rfl) (by simp) ?_
          refine AllReadyH.cons (o := ⟨_, _, _, _, _, _⟩) rfl (fun K hK => ?_) AllReadyH.nil
          obtain ⟨c0, c1, c2, c3, c4, c5⟩ := hn8.c6
          obtain ⟨g0, g1, g2, g3, g4, g5⟩ := hn8.f6
          go_simp
          clear c0 c1 c2 c3 c4 c5 g0 g1 g2 g3 g4 g5
          replace hn9 := hn9.other6 HNE89.out.symm (.string x.c.nm) (.int .i64 x.c.kd) (.int .u16 (sv x.c.M)) (.slice x.ar x.c.R.length x.cr) (.slice x.aw x.c.Q.length x.cw) (.slice x.af x.c.F.length x.cf)
          replace hR := hR.set6 hn8 (.string x.c.nm) (.int .i64 x.c.kd) (.int .u16 (sv x.c.M)) (.slice x.ar x.c.R.length x.cr) (.slice x.aw x.c.Q.length x.cw) (.slice x.af x.c.F.length x.cf)
          replace hn8 := hn8.set6 (.string x.c.nm) (.int .i64 x.c.kd) (.int .u16 (sv x.c.M)) (.slice x.ar x.c.R.length x.cr) (.slice x.aw x.c.Q.length x.cw) (.slice x.af x.c.F.length x.cf)
          replace J := keeps_set6 J hg8 (.string x.c.nm) (.int .i64 x.c.kd) (.int .u16 (sv x.c.M)) (.slice x.ar x.c.R.length x.cr) (.slice x.aw x.c.Q.length x.cw) (.slice x.af x.c.F.length x.cf)
          generalize ((((((V3.setCell ⟨B8, 0, none⟩ (.string x.c.nm)).setCell ⟨B8, 1, none⟩ (.int .i64 x.c.kd)).setCell ⟨B8, 2, none⟩ (.int .u16 (sv x.c.M))).setCell ⟨B8, 3, none⟩ (.slice x.ar x.c.R.length x.cr)).setCell ⟨B8, 4, none⟩ (.slice x.aw x.c.Q.length x.cw)).setCell ⟨B8, 5, none⟩ (.slice x.af x.c.F.length x.cf)) = VA at *
          refine hK.out _ _ ?_ (fun hHeld => ?_)
          · exact HP.out _ J
          clear hK K
          (try simp only [Act.put]); (try simp only [List.setIfInBounds_toArray]); (try simp only [List.set_cons_succ]); (try simp only [List.set_cons_zero])
          refine wpAnyH_ready (rs := [6]) (by kernel_rfl) (by simp) ?_
          refine AllReadyH.cons (o := ⟨_, _, _, _, _, _⟩) rfl (fun K hK => ?_) AllReadyH.nil
          obtain ⟨c0, c1, c2, c3, c4, c5⟩ := hn9.c6
          obtain ⟨g0, g1, g2, g3, g4, g5⟩ := hn9.f6
          go_simp
          clear c0 c1 c2 c3 c4 c5 g0 g1 g2 g3 g4 g5
          replace hn8 := hn8.other6 HNE89.out (.string z.c.nm) (.int .i64 z.c.kd) (.int .u16 (sv z.c.M)) (.slice z.ar z.c.R.length z.cr) (.slice z.aw z.c.Q.length z.cw) (.slice z.af z.c.F.length z.cf)
          replace hR := hR.set6 hn9 (.string z.c.nm) (.int .i64 z.c.kd) (.int .u16 (sv z.c.M)) (.slice z.ar z.c.R.length z.cr) (.slice z.aw z.c.Q.length z.cw) (.slice z.af z.c.F.length z.cf)
          replace hn9 := hn9.set6 (.string z.c.nm) (.int .i64 z.c.kd) (.int .u16 (sv z.c.M)) (.slice z.ar z.c.R.length z.cr) (.slice z.aw z.c.Q.length z.cw) (.slice z.af z.c.F.length z.cf)
          replace J := keeps_set6 J hg9 (.string z.c.nm) (.int .i64 z.c.kd) (.int .u16 (sv z.c.M)) (.slice z.ar z.c.R.length z.cr) (.slice z.aw z.c.Q.length z.cw) (.slice z.af z.c.F.length z.cf)
          generalize ((((((VA.setCell ⟨B9, 0, none⟩ (.string z.c.nm)).setCell ⟨B9, 1, none⟩ (.int .i64 z.c.kd)).setCell ⟨B9, 2, none⟩ (.int .u16 (sv z.c.M))).setCell ⟨B9, 3, none⟩ (.slice z.ar z.c.R.length z.cr)).setCell ⟨B9, 4, none⟩ (.slice z.aw z.c.Q.length z.cw)).setCell ⟨B9, 5, none⟩ (.slice z.af z.c.F.length z.cf)) = VB at *
          refine hK.out _ _ ?_ (fun hHeld => ?_)
          · exact HP.out _ J
          clear hK K
          (try simp only [Act.put]); (try simp only [List.setIfInBounds_toArray]); (try simp only [List.set_cons_succ]); (try simp only [List.set_cons_zero])
          refine wpAnyH_done (by kernel_rfl) ?_ _
          go_wp2_with fail
          go_meet
          case rel => exact ⟨B8, B9, z, rfl, rfl, HZ, Lib.hid hn8, Lib.hid hn9, Lib.hid hR, HNE89, Lib.hid (Nat.le_trans K1.size hg8), Lib.hid (Nat.le_trans K1.size hg9), J⟩
      · go_simp
        have hn9 := Blk.new V1 32 zG
        have KA := (Keeps.refl V1).alloc (.cells zG 32)
        have hg9 : w4.heap.size ≤ V1.heap.size := J.size
        replace hR := hR.keep KA
        replace J := J.trans KA
        clear KA
        generalize V1.alloc (.cells zG 32) = V4 at *
        generalize V1.heap.size = B9 at *
        refine hK.out _ _ ?_ (fun hHeld => ?_)
        · exact HP.out _ J
        clear hK K
        (try simp only [Act.put]); (try simp only [List.setIfInBounds_toArray]); (try simp only [List.set_cons_succ]); (try simp only [List.set_cons_zero])
        refine wpAnyH_ready (rs := [3]) (by kernel_rfl) (by simp) ?_
        refine AllReadyH.cons (o := ⟨_, _, _, _, _, _⟩) rfl (fun K hK => ?_) AllReadyH.nil
        · go_simp
          have hn8 := Blk.new V4 32 zG
          have KA := (Keeps.refl V4).alloc (.cells zG 32)
          have hg8 : w4.heap.size ≤ V4.heap.size := J.size
          have hne : V4.heap.size ≠ B9 := by have := hn9.lt; omega
          replace hR := hR.keep KA
          replace hn9 := hn9.keep KA
          replace J := J.trans KA
          clear KA
          generalize V4.alloc (.cells zG 32) = V5 at *
          generalize V4.heap.size = B8 at *
          have HNE89 := Lib.hid hne
          clear hne
          refine hK.out _ _ ?_ (fun hHeld => ?_)
          · exact HP.out _ J
          clear hK K
          (try simp only [Act.put]); (try simp only [List.setIfInBounds_toArray]); (try simp only [List.set_cons_succ]); (try simp only [List.set_cons_zero])
          refine wpAnyH_ready (rs := [5]) (by kernel_rfl) (by simp) ?_
          refine AllReadyH.cons (o := ⟨_, _, _, _, _, _⟩) rfl (fun K hK => ?_) AllReadyH.nil
          obtain ⟨c0, c1, c2, c3, c4, c5⟩ := hn8.c6
          obtain ⟨g0, g1, g2, g3, g4, g5⟩ := hn8.f6
          go_simp
          clear c0 c1 c2 c3 c4 c5 g0 g1 g2 g3 g4 g5
          replace hn9 := hn9.other6 HNE89.out.symm (.string x.c.nm) (.int .i64 x.c.kd) (.int .u16 (sv x.c.M)) (.slice x.ar x.c.R.length x.cr) (.slice x.aw x.c.Q.length x.cw) (.slice x.af x.c.F.length x.cf)
          replace hR := hR.set6 hn8 (.string x.c.nm) (.int .i64 x.c.kd) (.int .u16 (sv x.c.M)) (.slice x.ar x.c.R.length x.cr) (.slice x.aw x.c.Q.length x.cw) (.slice x.af x.c.F.length x.cf)
          replace hn8 := hn8.set6 (.string x.c.nm) (.int .i64 x.c.kd) (.int .u16 (sv x.c.M)) (.slice x.ar x.c.R.length x.cr) (.slice x.aw x.c.Q.length x.cw) (.slice x.af x.c.F.length x.cf)
          replace J := keeps_set6 J hg8 (.string x.c.nm) (.int .i64 x.c.kd) (.int .u16 (sv x.c.M)) (.slice x.ar x.c.R.length x.cr) (.slice x.aw x.c.Q.length x.cw) (.slice x.af x.c.F.length x.cf)
          generalize ((((((V5.setCell ⟨B8, 0, none⟩ (.string x.c.nm)).setCell ⟨B8, 1, none⟩ (.int .i64 x.c.kd)).setCell ⟨B8, 2, none⟩ (.int .u16 (sv x.c.M))).setCell ⟨B8, 3, none⟩ (.slice x.ar x.c.R.length x.cr)).setCell ⟨B8, 4, none⟩ (.slice x.aw x.c.Q.length x.cw)).setCell ⟨B8, 5, none⟩ (.slice x.af x.c.F.length x.cf)) = VA at *
          refine hK.out _ _ ?_ (fun hHeld => ?_)
          · exact HP.out _ J
          clear hK K
          (try simp only [Act.put]); (try simp only [List.setIfInBounds_toArray]); (try simp only [List.set_cons_succ]); (try simp only [List.set_cons_zero])
          refine wpAnyH_ready (rs := [6]) (by kernel_rfl) (by simp) ?_
          refine AllReadyH.cons (o := ⟨_, _, _, _, _, _⟩) rfl (fun K hK => ?_) AllReadyH.nil
          obtain ⟨c0, c1, c2, c3, c4, c5⟩ := hn9.c6
          obtain ⟨g0, g1, g2, g3, g4, g5⟩ := hn9.f6
          go_simp
          clear c0 c1 c2 c3 c4 c5 g0 g1 g2 g3 g4 g5
          replace hn8 := hn8.other6 HNE89.out (.string z.c.nm) (.int .i64 z.c.kd) (.int .u16 (sv z.c.M)) (.slice z.ar z.c.R.length z.cr) (.slice z.aw z.c.Q.length z.cw) (.slice z.af z.c.F.length z.cf)
          replace hR := hR.set6 hn9 (.string z.c.nm) (.int .i64 z.c.kd) (.int .u16 (sv z.c.M)) (.slice z.ar z.c.R.length z.cr) (.slice z.aw z.c.Q.length z.cw) (.slice z.af z.c.F.length z.cf)
          replace hn9 := hn9.set6 (.string z.c.nm) (.int .i64 z.c.kd) (.int .u16 (sv z.c.M)) (.slice z.ar z.c.R.length z.cr) (.slice z.aw z.c.Q.length z.cw) (.slice z.af z.c.F.length z.cf)
          replace J := keeps_set6 J hg9 (.string z.c.nm) (.int .i64 z.c.kd) (.int .u16 (sv z.c.M)) (.slice z.ar z.c.R.length z.cr) (.slice z.aw z.c.Q.length z.cw) (.slice z.af z.c.F.length z.cf)
          generalize ((((((VA.setCell ⟨B9, 0, none⟩ (.string z.c.nm)).setCell ⟨B9, 1, none⟩ (.int .i64 z.c.kd)).setCell ⟨B9, 2, none⟩ (.int .u16 (sv z.c.M))).setCell ⟨B9, 3, none⟩ (.slice z.ar z.c.R.length z.cr)).setCell ⟨B9, 4, none⟩ (.slice z.aw z.c.Q.length z.cw)).setCell ⟨B9, 5, none⟩ (.slice z.af z.c.F.length z.cf)) = VB at *
          refine hK.out _ _ ?_ (fun hHeld => ?_)
          · exact HP.out _ J
          clear hK K
          (try simp only [Act.put]); (try simp only [List.setIfInBounds_toArray]); (try simp only [List.set_cons_succ]); (try simp only [List.set_cons_zero])
          refine wpAnyH_done (by kernel_rfl) ?_ _
          go_wp2_with fail
          go_meet
          case rel => exact ⟨B8, B9, z, rfl, rfl, HZ, Lib.hid hn8, Lib.hid hn9, Lib.hid hR, HNE89, Lib.hid (Nat.le_trans K1.size hg8), Lib.hid (Nat.le_trans K1.size hg9), J⟩
    · go_simp
      have hn8 := Blk.new V0 32 zG
      have KA := (Keeps.refl V0).alloc (.cells zG 32)
      have hg8 : w4.heap.size ≤ V0.heap.size := J.size
      replace J := J.trans KA
      clear KA
      generalize V0.alloc (.cells zG 32) = V6 at *
      generalize V0.heap.size = B8 at *
      refine hK.out _ _ ?_ (fun hHeld => ?_)
      · exact HP.out _ J
      clear hK K
      (try simp only [Act.put]); (try simp only [List.setIfInBounds_toArray]); (try simp only [List.set_cons_succ]); (try simp only [List.set_cons_zero])
      refine wpAnyH_ready (rs := [2, 4]) (by kernel_rfl) (by simp) ?_
      refine AllReadyH.cons (o := ⟨_, _, _, _, _, _⟩) rfl (fun K hK => ?_) (AllReadyH.cons (o := ⟨_, _, _, _, _, _⟩) rfl (fun K hK => ?_) AllReadyH.nil)
      · go_simp
        have hcl := HMD.out V6 ((HKW.out.trans K1).trans J)
        refine hcl.mono ?_
        clear hcl
        rintro e V7 ⟨z, rfl, hz, hR, K9⟩
        have HZ := Lib.hid hz
        clear hz
        unfold vg
        dsimp only
        replace hn8 := hn8.keep K9
        replace J := J.trans K9
        clear K9
        refine hK.out _ _ ?_ (fun hHeld => ?_)
        · exact HP.out _ J
        clear hK K
        (try simp only [Act.put]); (try simp only [List.setIfInBounds_toArray]); (try simp only [List.set_cons_succ]); (try simp only [List.set_cons_zero])
        refine wpAnyH_ready (rs := [4]) (by kernel_rfl) (by simp) ?_
        refine AllReadyH.cons (o := ⟨_, _, _, _, _, _⟩) rfl (fun K hK => ?_) AllReadyH.nil
        · go_simp
          have hn9 := Blk.new V7 32 zG
          have KA := (Keeps.refl V7).alloc (.cells zG 32)
          have hg9 : w4.heap.size ≤ V7.heap.size := J.size
          have hne : V7.heap.size ≠ B8 := by have := hn8.lt; omega
          replace hR := hR.keep KA
          replace hn8 := hn8.keep KA
          replace J := J.trans KA
          clear KA
          generalize V7.alloc (.cells zG 32) = V8 at *
          generalize V7.heap.size = B9 at *
          have HNE89 := Lib.hid hne.symm
          clear hne
          refine hK.out _ _ ?_ (fun hHeld => ?_)
          · exact HP.out _ J
          clear hK K
          (try simp only [Act.put]); (try simp only [List.setIfInBounds_toArray]); (try simp only [List.set_cons_succ]); (try simp only [List.set_cons_zero])
          refine wpAnyH_ready (rs := [5]) (by kernel_rfl) (by simp) ?_
          refine AllReadyH.cons (o := ⟨_, _, _, _, _, _⟩) rfl (fun K hK => ?_) AllReadyH.nil
          obtain ⟨c0, c1, c2, c3, c4, c5⟩ := hn8.c6
          obtain ⟨g0, g1, g2, g3, g4, g5⟩ := hn8.f6
          go_simp
          clear c0 c1 c2 c3 c4 c5 g0 g1 g2 g3 g4 g5
          replace hn9 := hn9.other6 HNE89.out.symm (.string x.c.nm) (.int .i64 x.c.kd) (.int .u16 (sv x.c.M)) (.slice x.ar x.c.R.length x.cr) (.slice x.aw x.c.Q.length x.cw) (.slice x.af x.c.F.length x.cf)
          replace hR := hR.set6 hn8 (.string x.c.nm) (.int .i64 x.c.kd) (.int .u16 (sv x.c.M)) (.slice x.ar x.c.R.length x.cr) (.slice x.aw x.c.Q.length x.cw) (.slice x.af x.c.F.length x.cf)
          replace hn8 := hn8.set6 (.string x.c.nm) (.int .i64 x.c.kd) (.int .u16 (sv x.c.M)) (.slice x.ar x.c.R.length x.cr) (.slice x.aw x.c.Q.length x.cw) (.slice x.af x.c.F.length x.cf)
          replace J := keeps_set6 J hg8 (.string x.c.nm) (.int .i64 x.c.kd) (.int .u16 (sv x.c.M)) (.slice x.ar x.c.R.length x.cr) (.slice x.aw x.c.Q.length x.cw) (.slice x.af x.c.F.length x.cf)
          generalize ((((((V8.setCell ⟨B8, 0, none⟩ (.string x.c.nm)).setCell ⟨B8, 1, none⟩ (.int .i64 x.c.kd)).setCell ⟨B8, 2, none⟩ (.int .u16 (sv x.c.M))).setCell ⟨B8, 3, none⟩ (.slice x.ar x.c.R.length x.cr)).setCell ⟨B8, 4, none⟩ (.slice x.aw x.c.Q.length x.cw)).setCell ⟨B8, 5, none⟩ (.slice x.af x.c.F.length x.cf)) = VA at *
          refine hK.out _ _ ?_ (fun hHeld => ?_)
          · exact HP.out _ J
          clear hK K
          (try simp only [Act.put]); (try simp only [List.setIfInBounds_toArray]); (try simp only [List.set_cons_succ]); (try simp only [List.set_cons_zero])
          refine wpAnyH_ready (rs := [6]) (by kernel_rfl) (by simp) ?_
          refine AllReadyH.cons (o := ⟨_, _, _, _, _, _⟩) rfl (fun K hK => ?_) AllReadyH.nil
          obtain ⟨c0, c1, c2, c3, c4, c5⟩ := hn9.c6
          obtain ⟨g0, g1, g2, g3, g4, g5⟩ := hn9.f6
          go_simp
          clear c0 c1 c2 c3 c4 c5 g0 g1 g2 g3 g4 g5
          replace hn8 := hn8.other6 HNE89.out (.string z.c.nm) (.int .i64 z.c.kd) (.int .u16 (sv z.c.M)) (.slice z.ar z.c.R.length z.cr) (.slice z.aw z.c.Q.length z.cw) (.slice z.af z.c.F.length z.cf)
          replace hR := hR.set6 hn9 (.string z.c.nm) (.int .i64 z.c.kd) (.int .u16 (sv z.c.M)) (.slice z.ar z.c.R.length z.cr) (.slice z.aw z.c.Q.length z.cw) (.slice z.af z.c.F.length z.cf)
          replace hn9 := hn9.set6 (.string z.c.nm) (.int .i64 z.c.kd) (.int .u16 (sv z.c.M)) (.slice z.ar z.c.R.length z.cr) (.slice z.aw z.c.Q.length z.cw) (.slice z.af z.c.F.length z.cf)
          replace J := keeps_set6 J hg9 (.string z.c.nm) (.int .i64 z.c.kd) (.int .u16 (sv z.c.M)) (.slice z.ar z.c.R.length z.cr) (.slice z.aw z.c.Q.length z.cw) (.slice z.af z.c.F.length z.cf)
          generalize ((((((VA.setCell ⟨B9, 0, none⟩ (.string z.c.nm)).setCell ⟨B9, 1, none⟩ (.int .i64 z.c.kd)).setCell ⟨B9, 2, none⟩ (.int .u16 (sv z.c.M))).setCell ⟨B9, 3, none⟩ (.slice z.ar z.c.R.length z.cr)).setCell ⟨B9, 4, none⟩ (.slice z.aw z.c.Q.length z.cw)).setCell ⟨B9, 5, none⟩ (.slice z.af z.c.F.length z.cf)) = VB at *
          refine hK.out _ _ ?_ (fun hHeld => ?_)
          · exact HP.out _ J
          clear hK K
          (try simp only [Act.put]); (try simp only [List.setIfInBounds_toArray]); (try simp only [List.set_cons_succ]); (try simp only [List.set_cons_zero])
          refine wpAnyH_done (by kernel_rfl) ?_ _
          go_wp2_with fail
          go_meet
          case rel => exact ⟨B8, B9, z, rfl, rfl, HZ, Lib.hid hn8, Lib.hid hn9, Lib.hid hR, HNE89, Lib.hid (Nat.le_trans K1.size hg8), Lib.hid (Nat.le_trans K1.size hg9), J⟩
      · go_simp
        have hn9 := Blk.new V6 32 zG
        have KA := (Keeps.refl V6).alloc (.cells zG 32)
        have hg9 : w4.heap.size ≤ V6.heap.size := J.size
        have hne : V6.heap.size ≠ B8 := by have := hn8.lt; omega
        replace hn8 := hn8.keep KA
        replace J := J.trans KA
        clear KA
        generalize V6.alloc (.cells zG 32) = V9 at *
        generalize V6.heap.size = B9 at *
        have HNE89 := Lib.hid hne.symm
        clear hne
        refine hK.out _ _ ?_ (fun hHeld => ?_)
        · exact HP.out _ J
        clear hK K
        (try simp only [Act.put]); (try simp only [List.setIfInBounds_toArray]); (try simp only [List.set_cons_succ]); (try simp only [List.set_cons_zero])
        refine wpAnyH_ready (rs := [2]) (by kernel_rfl) (by simp) ?_
        refine AllReadyH.cons (o := ⟨_, _, _, _, _, _⟩) rfl (fun K hK => ?_) AllReadyH.nil
        · go_simp
          have hcl := HMD.out V9 ((HKW.out.trans K1).trans J)
          refine hcl.mono ?_
          clear hcl
          rintro e V10 ⟨z, rfl, hz, hR, K9⟩
          have HZ := Lib.hid hz
          clear hz
          unfold vg
          dsimp only
          replace hn8 := hn8.keep K9
          replace hn9 := hn9.keep K9
          replace J := J.trans K9
          clear K9
          refine hK.out _ _ ?_ (fun hHeld => ?_)
          · exact HP.out _ J
          clear hK K
          (try simp only [Act.put]); (try simp only [List.setIfInBounds_toArray]); (try simp only [List.set_cons_succ]); (try simp only [List.set_cons_zero])
          refine wpAnyH_ready (rs := [5]) (by kernel_rfl) (by simp) ?_
          refine AllReadyH.cons (o := ⟨_, _, _, _, _, _⟩) rfl (fun K hK => ?_) AllReadyH.nil
          obtain ⟨c0, c1, c2, c3, c4, c5⟩ := hn8.c6
          obtain ⟨g0, g1, g2, g3, g4, g5⟩ := hn8.f6
          go_simp
          clear c0 c1 c2 c3 c4 c5 g0 g1 g2 g3 g4 g5
          replace hn9 := hn9.other6 HNE89.out.symm (.string x.c.nm) (.int .i64 x.c.kd) (.int .u16 (sv x.c.M)) (.slice x.ar x.c.R.length x.cr) (.slice x.aw x.c.Q.length x.cw) (.slice x.af x.c.F.length x.cf)
          replace hR := hR.set6 hn8 (.string x.c.nm) (.int .i64 x.c.kd) (.int .u16 (sv x.c.M)) (.slice x.ar x.c.R.length x.cr) (.slice x.aw x.c.Q.length x.cw) (.slice x.af x.c.F.length x.cf)
          replace hn8 := hn8.set6 (.string x.c.nm) (.int .i64 x.c.kd) (.int .u16 (sv x.c.M)) (.slice x.ar x.c.R.length x.cr) (.slice x.aw x.c.Q.length x.cw) (.slice x.af x.c.F.length x.cf)
          replace J := keeps_set6 J hg8 (.string x.c.nm) (.int .i64 x.c.kd) (.int .u16 (sv x.c.M)) (.slice x.ar x.c.R.length x.cr) (.slice x.aw x.c.Q.length x.cw) (.slice x.af x.c.F.length x.cf)
          generalize ((((((V10.setCell ⟨B8, 0, none⟩ (.string x.c.nm)).setCell ⟨B8, 1, none⟩ (.int .i64 x.c.kd)).setCell ⟨B8, 2, none⟩ (.int .u16 (sv x.c.M))).setCell ⟨B8, 3, none⟩ (.slice x.ar x.c.R.length x.cr)).setCell ⟨B8, 4, none⟩ (.slice x.aw x.c.Q.length x.cw)).setCell ⟨B8, 5, none⟩ (.slice x.af x.c.F.length x.cf)) = VA at *
          refine hK.out _ _ ?_ (fun hHeld => ?_)
          · exact HP.out _ J
          clear hK K
          (try simp only [Act.put]); (try simp only [List.setIfInBounds_toArray]); (try simp only [List.set_cons_succ]); (try simp only [List.set_cons_zero])
          refine wpAnyH_ready (rs := [6]) (by kernel_rfl) (by simp) ?_
          refine AllReadyH.cons (o := ⟨_, _, _, _, _, _⟩) rfl (fun K hK => ?_) AllReadyH.nil
          obtain ⟨c0, c1, c2, c3, c4, c5⟩ := hn9.c6
          obtain ⟨g0, g1, g2, g3, g4, g5⟩ := hn9.f6
          go_simp
          clear c0 c1 c2 c3 c4 c5 g0 g1 g2 g3 g4 g5
          replace hn8 := hn8.other6 HNE89.out (.string z.c.nm) (.int .i64 z.c.kd) (.int .u16 (sv z.c.M)) (.slice z.ar z.c.R.length z.cr) (.slice z.aw z.c.Q.length z.cw) (.slice z.af z.c.F.length z.cf)
          replace hR := hR.set6 hn9 (.string z.c.nm) (.int .i64 z.c.kd) (.int .u16 (sv z.c.M)) (.slice z.ar z.c.R.length z.cr) (.slice z.aw z.c.Q.length z.cw) (.slice z.af z.c.F.length z.cf)
          replace hn9 := hn9.set6 (.string z.c.nm) (.int .i64 z.c.kd) (.int .u16 (sv z.c.M)) (.slice z.ar z.c.R.length z.cr) (.slice z.aw z.c.Q.length z.cw) (.slice z.af z.c.F.length z.cf)
          replace J := keeps_set6 J hg9 (.string z.c.nm) (.int .i64 z.c.kd) (.int .u16 (sv z.c.M)) (.slice z.ar z.c.R.length z.cr) (.slice z.aw z.c.Q.length z.cw) (.slice z.af z.c.F.length z.cf)
          generalize ((((((VA.setCell ⟨B9, 0, none⟩ (.string z.c.nm)).setCell ⟨B9, 1, none⟩ (.int .i64 z.c.kd)).setCell ⟨B9, 2, none⟩ (.int .u16 (sv z.c.M))).setCell ⟨B9, 3, none⟩ (.slice z.ar z.c.R.length z.cr)).setCell ⟨B9, 4, none⟩ (.slice z.aw z.c.Q.length z.cw)).setCell ⟨B9, 5, none⟩ (.slice z.af z.c.F.length z.cf)) = VB at *
          refine hK.out _ _ ?_ (fun hHeld => ?_)
          · exact HP.out _ J
          clear hK K
          (try simp only [Act.put]); (try simp only [List.setIfInBounds_toArray]); (try simp only [List.set_cons_succ]); (try simp only [List.set_cons_zero])
          refine wpAnyH_done (by kernel_rfl) ?_ _
          go_wp2_with fail
          go_meet
          case rel => exact ⟨B8, B9, z, rfl, rfl, HZ, Lib.hid hn8, Lib.hid hn9, Lib.hid hR, HNE89, Lib.hid (Nat.le_trans K1.size hg8), Lib.hid (Nat.le_trans K1.size hg9), J⟩
    · go_simp
      have hn9 := Blk.new V0 32 zG
      have KA := (Keeps.refl V0).alloc (.cells zG 32)
      have hg9 : w4.heap.size ≤ V0.heap.size := J.size
      replace J := J.trans KA
      clear KA
      generalize V0.alloc (.cells zG 32) = V11 at *
      generalize V0.heap.size = B9 at *
      refine hK.out _ _ ?_ (fun hHeld => ?_)
      · exact HP.out _ J
      clear hK K
      (try simp only [Act.put]); (try simp only [List.setIfInBounds_toArray]); (try simp only [List.set_cons_succ]); (try simp only [List.set_cons_zero])
      refine wpAnyH_ready (rs := [2, 3]) (by kernel_rfl) (by simp) ?_
      refine AllReadyH.cons (o := ⟨_, _, _, _, _, _⟩) rfl (fun K hK => ?_) (AllReadyH.cons (o := ⟨_, _, _, _, _, _⟩) rfl (fun K hK => ?_) AllReadyH.nil)
      · go_simp
        have hcl := HMD.out V11 ((HKW.out.trans K1).trans J)
        refine hcl.mono ?_
        clear hcl
        rintro e V12 ⟨z, rfl, hz, hR, K9⟩
        have HZ := Lib.hid hz
        clear hz
        unfold vg
        dsimp only
        replace hn9 := hn9.keep K9
        replace J := J.trans K9
        clear K9
        refine hK.out _ _ ?_ (fun hHeld => ?_)
        · exact HP.out _ J
        clear hK K
        (try simp only [Act.put]); (try simp only [List.setIfInBounds_toArray]); (try simp only [List.set_cons_succ]); (try simp only [List.set_cons_zero])
        refine wpAnyH_ready (rs := [3]) (by kernel_rfl) (by simp) ?_
        refine AllReadyH.cons (o := ⟨_, _, _, _, _, _⟩) rfl (fun K hK => ?_) AllReadyH.nil
        · go_simp
          have hn8 := Blk.new V12 32 zG
          have KA := (Keeps.refl V12).alloc (.cells zG 32)
          have hg8 : w4.heap.size ≤ V12.heap.size := J.size
          have hne : V12.heap.size ≠ B9 := by have := hn9.lt; omega
          replace hR := hR.keep KA
          replace hn9 := hn9.keep KA
          replace J := J.trans KA
          clear KA
          generalize V12.alloc (.cells zG 32) = V13 at *
          generalize V12.heap.size = B8 at *
          have HNE89 := Lib.hid hne
          clear hne
          refine hK.out _ _ ?_ (fun hHeld => ?_)
          · exact HP.out _ J
          clear hK K
          (try simp only [Act.put]); (try simp only [List.setIfInBounds_toArray]); (try simp only [List.set_cons_succ]); (try simp only [List.set_cons_zero])
          refine wpAnyH_ready (rs := [5]) (by kernel_rfl) (by simp) ?_
          refine AllReadyH.cons (o := ⟨_, _, _, _, _, _⟩) rfl (fun K hK => ?_) AllReadyH.nil
          obtain ⟨c0, c1, c2, c3, c4, c5⟩ := hn8.c6
          obtain ⟨g0, g1, g2, g3, g4, g5⟩ := hn8.f6
          go_simp
          clear c0 c1 c2 c3 c4 c5 g0 g1 g2 g3 g4 g5
          replace hn9 := hn9.other6 HNE89.out.symm (.string x.c.nm) (.int .i64 x.c.kd) (.int .u16 (sv x.c.M)) (.slice x.ar x.c.R.length x.cr) (.slice x.aw x.c.Q.length x.cw) (.slice x.af x.c.F.length x.cf)
          replace hR := hR.set6 hn8 (.string x.c.nm) (.int .i64 x.c.kd) (.int .u16 (sv x.c.M)) (.slice x.ar x.c.R.length x.cr) (.slice x.aw x.c.Q.length x.cw) (.slice x.af x.c.F.length x.cf)
          replace hn8 := hn8.set6 (.string x.c.nm) (.int .i64 x.c.kd) (.int .u16 (sv x.c.M)) (.slice x.ar x.c.R.length x.cr) (.slice x.aw x.c.Q.length x.cw) (.slice x.af x.c.F.length x.cf)
          replace J := keeps_set6 J hg8 (.string x.c.nm) (.int .i64 x.c.kd) (.int .u16 (sv x.c.M)) (.slice x.ar x.c.R.length x.cr) (.slice x.aw x.c.Q.length x.cw) (.slice x.af x.c.F.length x.cf)
          generalize ((((((V13.setCell ⟨B8, 0, none⟩ (.string x.c.nm)).setCell ⟨B8, 1, none⟩ (.int .i64 x.c.kd)).setCell ⟨B8, 2, none⟩ (.int .u16 (sv x.c.M))).setCell ⟨B8, 3, none⟩ (.slice x.ar x.c.R.length x.cr)).setCell ⟨B8, 4, none⟩ (.slice x.aw x.c.Q.length x.cw)).setCell ⟨B8, 5, none⟩ (.slice x.af x.c.F.length x.cf)) = VA at *
          refine hK.out _ _ ?_ (fun hHeld => ?_)
          · exact HP.out _ J
          clear hK K
          (try simp only [Act.put]); (try simp only [List.setIfInBounds_toArray]); (try simp only [List.set_cons_succ]); (try simp only [List.set_cons_zero])
          refine wpAnyH_ready (rs := [6]) (by kernel_rfl) (by simp) ?_
          refine AllReadyH.cons (o := ⟨_, _, _, _, _, _⟩) rfl (fun K hK => ?_) AllReadyH.nil
          obtain ⟨c0, c1, c2, c3, c4, c5⟩ := hn9.c6
          obtain ⟨g0, g1, g2, g3, g4, g5⟩ := hn9.f6
          go_simp
          clear c0 c1 c2 c3 c4 c5 g0 g1 g2 g3 g4 g5
          replace hn8 := hn8.other6 HNE89.out (.string z.c.nm) (.int .i64 z.c.kd) (.int .u16 (sv z.c.M)) (.slice z.ar z.c.R.length z.cr) (.slice z.aw z.c.Q.length z.cw) (.slice z.af z.c.F.length z.cf)
          replace hR := hR.set6 hn9 (.string z.c.nm) (.int .i64 z.c.kd) (.int .u16 (sv z.c.M)) (.slice z.ar z.c.R.length z.cr) (.slice z.aw z.c.Q.length z.cw) (.slice z.af z.c.F.length z.cf)
          replace hn9 := hn9.set6 (.string z.c.nm) (.int .i64 z.c.kd) (.int .u16 (sv z.c.M)) (.slice z.ar z.c.R.length z.cr) (.slice z.aw z.c.Q.length z.cw) (.slice z.af z.c.F.length z.cf)
          replace J := keeps_set6 J hg9 (.string z.c.nm) (.int .i64 z.c.kd) (.int .u16 (sv z.c.M)) (.slice z.ar z.c.R.length z.cr) (.slice z.aw z.c.Q.length z.cw) (.slice z.af z.c.F.length z.cf)
          generalize ((((((VA.setCell ⟨B9, 0, none⟩ (.string z.c.nm)).setCell ⟨B9, 1, none⟩ (.int .i64 z.c.kd)).setCell ⟨B9, 2, none⟩ (.int .u16 (sv z.c.M))).setCell ⟨B9, 3, none⟩ (.slice z.ar z.c.R.length z.cr)).setCell ⟨B9, 4, none⟩ (.slice z.aw z.c.Q.length z.cw)).setCell ⟨B9, 5, none⟩ (.slice z.af z.c.F.length z.cf)) = VB at *
          refine hK.out _ _ ?_ (fun hHeld => ?_)
          · exact HP.out _ J
          clear hK K
          (try simp only [Act.put]); (try simp only [List.setIfInBounds_toArray]); (try simp only [List.set_cons_succ]); (try simp only [List.set_cons_zero])
          refine wpAnyH_done (by kernel_rfl) ?_ _
          go_wp2_with fail
          go_meet
          case rel => exact ⟨B8, B9, z, rfl, rfl, HZ, Lib.hid hn8, Lib.hid hn9, Lib.hid hR, HNE89, Lib.hid (Nat.le_trans K1.size hg8), Lib.hid (Nat.le_trans K1.size hg9), J⟩
      · go_simp
        have hn8 := Blk.new V11 32 zG
        have KA := (Keeps.refl V11).alloc (.cells zG 32)
        have hg8 : w4.heap.size ≤ V11.heap.size := J.size
        have hne : V11.heap.size ≠ B9 := by have := hn9.lt; omega
        replace hn9 := hn9.keep KA
        replace J := J.trans KA
        clear KA
        generalize V11.alloc (.cells zG 32) = V14 at *
        generalize V11.heap.size = B8 at *
        have HNE89 := Lib.hid hne
        clear hne
        refine hK.out _ _ ?_ (fun hHeld => ?_)
        · exact HP.out _ J
        clear hK K
        (try simp only [Act.put]); (try simp only [List.setIfInBounds_toArray]); (try simp only [List.set_cons_succ]); (try simp only [List.set_cons_zero])
        refine wpAnyH_ready (rs := [2]) (by kernel_rfl) (by simp) ?_
        refine AllReadyH.cons (o := ⟨_, _, _, _, _, _⟩) rfl (fun K hK => ?_) AllReadyH.nil
        · go_simp
          have hcl := HMD.out V14 ((HKW.out.trans K1).trans J)
          refine hcl.mono ?_
          clear hcl
          rintro e V15 ⟨z, rfl, hz, hR, K9⟩
          have HZ := Lib.hid hz
          clear hz
          unfold vg
          dsimp only
          replace hn8 := hn8.keep K9
          replace hn9 := hn9.keep K9
          replace J := J.trans K9
          clear K9
          refine hK.out _ _ ?_ (fun hHeld => ?_)
          · exact HP.out _ J
          clear hK K
          (try simp only [Act.put]); (try simp only [List.setIfInBounds_toArray]); (try simp only [List.set_cons_succ]); (try simp only [List.set_cons_zero])
          refine wpAnyH_ready (rs := [5]) (by kernel_rfl) (by simp) ?_
          refine AllReadyH.cons (o := ⟨_, _, _, _, _, _⟩) rfl (fun K hK => ?_) AllReadyH.nil
          obtain ⟨c0, c1, c2, c3, c4, c5⟩ := hn8.c6
          obtain ⟨g0, g1, g2, g3, g4, g5⟩ := hn8.f6
          go_simp
          clear c0 c1 c2 c3 c4 c5 g0 g1 g2 g3 g4 g5
          replace hn9 := hn9.other6 HNE89.out.symm (.string x.c.nm) (.int .i64 x.c.kd) (.int .u16 (sv x.c.M)) (.slice x.ar x.c.R.length x.cr) (.slice x.aw x.c.Q.length x.cw) (.slice x.af x.c.F.length x.cf)
          replace hR := hR.set6 hn8 (.string x.c.nm) (.int .i64 x.c.kd) (.int .u16 (sv x.c.M)) (.slice x.ar x.c.R.length x.cr) (.slice x.aw x.c.Q.length x.cw) (.slice x.af x.c.F.length x.cf)
          replace hn8 := hn8.set6 (.string x.c.nm) (.int .i64 x.c.kd) (.int .u16 (sv x.c.M)) (.slice x.ar x.c.R.length x.cr) (.slice x.aw x.c.Q.length x.cw) (.slice x.af x.c.F.length x.cf)
          replace J := keeps_set6 J hg8 (.string x.c.nm) (.int .i64 x.c.kd) (.int .u16 (sv x.c.M)) (.slice x.ar x.c.R.length x.cr) (.slice x.aw x.c.Q.length x.cw) (.slice x.af x.c.F.length x.cf)
          generalize ((((((V15.setCell ⟨B8, 0, none⟩ (.string x.c.nm)).setCell ⟨B8, 1, none⟩ (.int .i64 x.c.kd)).setCell ⟨B8, 2, none⟩ (.int .u16 (sv x.c.M))).setCell ⟨B8, 3, none⟩ (.slice x.ar x.c.R.length x.cr)).setCell ⟨B8, 4, none⟩ (.slice x.aw x.c.Q.length x.cw)).setCell ⟨B8, 5, none⟩ (.slice x.af x.c.F.length x.cf)) = VA at *
          refine hK.out _ _ ?_ (fun hHeld => ?_)
          · exact HP.out _ J
          clear hK K
          (try simp only [Act.put]); (try simp only [List.setIfInBounds_toArray]); (try simp only [List.set_cons_succ]); (try simp only [List.set_cons_zero])
          refine wpAnyH_ready (rs := [6]) (by kernel_rfl) (by simp) ?_
          refine AllReadyH.cons (o := ⟨_, _, _, _, _, _⟩) rfl (fun K hK => ?_) AllReadyH.nil
          obtain ⟨c0, c1, c2, c3, c4, c5⟩ := hn9.c6
          obtain ⟨g0, g1, g2, g3, g4, g5⟩ := hn9.f6
          go_simp
          clear c0 c1 c2 c3 c4 c5 g0 g1 g2 g3 g4 g5
          replace hn8 := hn8.other6 HNE89.out (.string z.c.nm) (.int .i64 z.c.kd) (.int .u16 (sv z.c.M)) (.slice z.ar z.c.R.length z.cr) (.slice z.aw z.c.Q.length z.cw) (.slice z.af z.c.F.length z.cf)
          replace hR := hR.set6 hn9 (.string z.c.nm) (.int .i64 z.c.kd) (.int .u16 (sv z.c.M)) (.slice z.ar z.c.R.length z.cr) (.slice z.aw z.c.Q.length z.cw) (.slice z.af z.c.F.length z.cf)
          replace hn9 := hn9.set6 (.string z.c.nm) (.int .i64 z.c.kd) (.int .u16 (sv z.c.M)) (.slice z.ar z.c.R.length z.cr) (.slice z.aw z.c.Q.length z.cw) (.slice z.af z.c.F.length z.cf)
          replace J := keeps_set6 J hg9 (.string z.c.nm) (.int .i64 z.c.kd) (.int .u16 (sv z.c.M)) (.slice z.ar z.c.R.length z.cr) (.slice z.aw z.c.Q.length z.cw) (.slice z.af z.c.F.length z.cf)
          generalize ((((((VA.setCell ⟨B9, 0, none⟩ (.string z.c.nm)).setCell ⟨B9, 1, none⟩ (.int .i64 z.c.kd)).setCell ⟨B9, 2, none⟩ (.int .u16 (sv z.c.M))).setCell ⟨B9, 3, none⟩ (.slice z.ar z.c.R.length z.cr)).setCell ⟨B9, 4, none⟩ (.slice z.aw z.c.Q.length z.cw)).setCell ⟨B9, 5, none⟩ (.slice z.af z.c.F.length z.cf)) = VB at *
          refine hK.out _ _ ?_ (fun hHeld => ?_)
          · exact HP.out _ J
          clear hK K
          (try simp only [Act.put]); (try simp only [List.setIfInBounds_toArray]); (try simp only [List.set_cons_succ]); (try simp only [List.set_cons_zero])
          refine wpAnyH_done (by kernel_rfl) ?_ _
          go_wp2_with fail
          go_meet
          case rel => exact ⟨B8, B9, z, rfl, rfl, HZ, Lib.hid hn8, Lib.hid hn9, Lib.hid hR, HNE89, Lib.hid (Nat.le_trans K1.size hg8), Lib.hid (Nat.le_trans K1.size hg9), J⟩
  case rest =>
    obtain ⟨B8, B9, z, rfl, rfl, HZ, H8, H9, HRZ, HNE, HG8, HG9, KX⟩ := hcut
    have KK := K1.trans KX
    have HXB := Lib.hid (HX.out.keep KK)
    have H3 := Lib.hid ((HB3.out.keep K1).keep KX)
    have HZV : Hid (cvf z.c = 0) := by rw [HZ.out]; exact HMV.out
    clear HP K1 KX HB4 HMD HWV HFEW
    cases first with
    | true =>
      have hbd : Bad2 x z er := bad2_of HNEE.out (by rw [vld2, if_pos (by rw [← HER.out]; exact HNEE.out), HER.out])
      have HBD := Lib.hid hbd; clear hbd
      have hq : RdX wc [x, z] := fun y hy => by
        rcases List.mem_cons.1 hy with rfl | hy
        · exact ⟨HXB.out, fun h => absurd (HER.out.trans h) HNEE.out⟩
        · rw [List.mem_singleton.1 hy]; exact ⟨HRZ.out.rd, fun _ => HRZ.out⟩
      have HQ := Lib.hid hq; clear hq HRZ HG8 HG9; have HXX := HXB; clear HXB
      obtain ⟨c0, c1, c2, c3, c4, c5⟩ := H8.out.c6
      obtain ⟨d0, d1, d2, d3, d4, d5⟩ := H9.out.c6
      have K := (Keeps.refl wc).alloc (.cells #[.string x.c.nm, .int .i64 x.c.kd, .int .u16 (sv x.c.M), .slice x.ar x.c.R.length x.cr, .slice x.aw x.c.Q.length x.cw, .slice x.af x.c.F.length x.cf, .string z.c.nm, .int .i64 z.c.kd, .int .u16 (sv z.c.M), .slice z.ar z.c.R.length z.cr, .slice z.aw z.c.Q.length z.cw, .slice z.af z.c.F.length z.cf] 32)
      have hsz : wc.heap.size = wc.heap.size := rfl
      have hr2 : Rd (wc.alloc (.cells #[.string x.c.nm, .int .i64 x.c.kd, .int .u16 (sv x.c.M), .slice x.ar x.c.R.length x.cr, .slice x.aw x.c.Q.length x.cw, .slice x.af x.c.F.length x.cf, .string z.c.nm, .int .i64 z.c.kd, .int .u16 (sv z.c.M), .slice z.ar z.c.R.length z.cr, .slice z.aw z.c.Q.length z.cw, .slice z.af z.c.F.length z.cf] 32)) (some ⟨wc.heap.size, 0, none⟩) 2 2 6 (gl [x, z]) := by rw [← hsz]; exact rd_new 32 6 wc (gl [x, z]) 2 (by decide) rfl
      clear hsz
      have HR := Lib.hid hr2; clear hr2
      replace H8 := Lib.hid (H8.out.keep K); replace H9 := Lib.hid (H9.out.keep K); replace HQ := Lib.hid (HQ.out.keep K); replace H3 := Lib.hid (H3.out.keep K); replace HXX := Lib.hid (HXX.out.keep K); replace KK := KK.trans K; clear K
      obtain ⟨p0, p1, p2, p3, p4, p5⟩ := H8.out.c6
      obtain ⟨q0, q1, q2, q3, q4, q5⟩ := H9.out.c6
      go_wp2_with fail
      clear c0 c1 c2 c3 c4 c5 d0 d1 d2 d3 d4 d5 p0 p1 p2 p3 p4 p5 q0 q1 q2 q3 q4 q5
      generalize wc.alloc (.cells #[.string x.c.nm, .int .i64 x.c.kd, .int .u16 (sv x.c.M), .slice x.ar x.c.R.length x.cr, .slice x.aw x.c.Q.length x.cw, .slice x.af x.c.F.length x.cf, .string z.c.nm, .int .i64 z.c.kd, .int .u16 (sv z.c.M), .slice z.ar z.c.R.length z.cr, .slice z.aw z.c.Q.length z.cw, .slice z.af z.c.F.length z.cf] 32) = X1 at *
      generalize wc.heap.size = BT at *
      refine (jof_any x z _ (HQ.out x (by simp)).1 (HQ.out z (by simp)).1).mono ?_
      intro e X2 hret
      obtain ⟨z3, rfl, hz3, _, K⟩ := hret
      rw [HBD.out.ofc] at hz3
      rw [HBD.out.of]
      have hl3 : z3.c.R.length = 0 := by rw [hz3]; rfl
      have HL3 := Lib.hid hl3; clear hl3 hz3
      unfold vg
      dsimp only
      replace H8 := Lib.hid (H8.out.keep K); replace H9 := Lib.hid (H9.out.keep K); replace HQ := Lib.hid (HQ.out.keep K); replace H3 := Lib.hid (H3.out.keep K); replace HXX := Lib.hid (HXX.out.keep K); replace HR := Lib.hid (HR.out.keep K); replace KK := KK.trans K; clear K
      have K := (Keeps.refl X2).alloc (.cells #[.string z3.c.nm, .int .i64 z3.c.kd, .int .u16 (sv z3.c.M), .slice z3.ar z3.c.R.length z3.cr, .slice z3.aw z3.c.Q.length z3.cw, .slice z3.af z3.c.F.length z3.cf] 32)
      have hb11 := Blk.new X2 32 #[.string z3.c.nm, .int .i64 z3.c.kd, .int .u16 (sv z3.c.M), .slice z3.ar z3.c.R.length z3.cr, .slice z3.aw z3.c.Q.length z3.cw, .slice z3.af z3.c.F.length z3.cf]
      have H11 := Lib.hid hb11; clear hb11
      replace H8 := Lib.hid (H8.out.keep K); replace H9 := Lib.hid (H9.out.keep K); replace HQ := Lib.hid (HQ.out.keep K); replace H3 := Lib.hid (H3.out.keep K); replace HXX := Lib.hid (HXX.out.keep K); replace HR := Lib.hid (HR.out.keep K); replace KK := KK.trans K; clear K
      obtain ⟨c0, c1, c2, c3, c4, c5⟩ := H8.out.c6
      obtain ⟨d0, d1, d2, d3, d4, d5⟩ := H9.out.c6
      go_wp2_with fail
      clear c0 c1 c2 c3 c4 c5 d0 d1 d2 d3 d4 d5
      generalize X2.alloc (.cells #[.string z3.c.nm, .int .i64 z3.c.kd, .int .u16 (sv z3.c.M), .slice z3.ar z3.c.R.length z3.cr, .slice z3.aw z3.c.Q.length z3.cw, .slice z3.af z3.c.F.length z3.cf] 32) = X3 at *
      generalize X2.heap.size = B11 at *
      refine (jfaults_any x z _ (HQ.out x (by simp)).1 (HQ.out z (by simp)).1).mono ?_
      rintro e X4 ⟨v, rfl, hO⟩
      rw [HBD.out.fe]
      obtain ⟨a4, c4, rfl, K⟩ := own_none hO (by rw [HBD.out.fl]; rfl)
      clear hO
      replace H8 := Lib.hid (H8.out.keep K); replace H9 := Lib.hid (H9.out.keep K); replace HQ := Lib.hid (HQ.out.keep K); replace H3 := Lib.hid (H3.out.keep K); replace HXX := Lib.hid (HXX.out.keep K); replace HR := Lib.hid (HR.out.keep K); replace H11 := Lib.hid (H11.out.keep K); replace KK := KK.trans K; clear K
      go_wp2_with fail
      refine (cloneG_any _ _ [x, z] _ HR.out (by simp)).mono ?_
      rintro e X5 ⟨v, rfl, hO⟩
      have K := hO.2
      obtain ⟨ac, cc, rfl, rc⟩ := hO.rd
      have HC := Lib.hid rc
      clear hO rc
      replace H8 := Lib.hid (H8.out.keep K); replace H9 := Lib.hid (H9.out.keep K); replace HQ := Lib.hid (HQ.out.keep K); replace H3 := Lib.hid (H3.out.keep K); replace HXX := Lib.hid (HXX.out.keep K); replace HR := Lib.hid (HR.out.keep K); replace H11 := Lib.hid (H11.out.keep K); replace KK := KK.trans K; clear K
      go_wp2_with fail
      refine (jchain_any _ _ _ [x, z] _ HC.out HQ.out.rd (by simp)).mono ?_
      rintro e X6 ⟨v, ys, rfl, hO, hys, _⟩
      simp only [List.map_cons, List.map_nil] at hys ⊢
      rw [HBD.out.cl] at hys
      rw [HBD.out.ce]
      obtain ⟨a6, c6, rfl, K⟩ := own_none hO (by rw [← List.length_map (f := fun y : CA => y.c), hys]; rfl)
      clear hO hys HC
      replace H8 := Lib.hid (H8.out.keep K); replace H9 := Lib.hid (H9.out.keep K); replace HQ := Lib.hid (HQ.out.keep K); replace H3 := Lib.hid (H3.out.keep K); replace HXX := Lib.hid (HXX.out.keep K); replace HR := Lib.hid (HR.out.keep K); replace H11 := Lib.hid (H11.out.keep K); replace KK := KK.trans K; clear K
      go_wp2_with fail
      refine (cloneG_any _ _ [x, z] _ HR.out (by simp)).mono ?_
      rintro e X7 ⟨v, rfl, hO⟩
      have K := hO.2
      obtain ⟨ac, cc, rfl, rc⟩ := hO.rd
      have HC := Lib.hid rc
      clear hO rc
      replace H8 := Lib.hid (H8.out.keep K); replace H9 := Lib.hid (H9.out.keep K); replace HQ := Lib.hid (HQ.out.keep K); replace H3 := Lib.hid (H3.out.keep K); replace HXX := Lib.hid (HXX.out.keep K); replace HR := Lib.hid (HR.out.keep K); replace H11 := Lib.hid (H11.out.keep K); replace KK := KK.trans K; clear K
      go_wp2_with fail
      have hcl := jrouteE_any _ _ [x, z] _ HC.out HQ.out.rd (by rw [HBD.out.ve]; exact HNEE.out)
      rw [HBD.out.ve] at hcl
      refine hcl.mono ?_
      rintro e X8 ⟨rfl, K⟩
      clear hcl HC
      replace H8 := Lib.hid (H8.out.keep K); replace H9 := Lib.hid (H9.out.keep K); replace HQ := Lib.hid (HQ.out.keep K); replace H3 := Lib.hid (H3.out.keep K); replace HXX := Lib.hid (HXX.out.keep K); replace HR := Lib.hid (HR.out.keep K); replace H11 := Lib.hid (H11.out.keep K); replace KK := KK.trans K; clear K
      obtain ⟨c0, c1, c2, c3, c4, c5⟩ := H3.out.c6
      have K := (Keeps.refl X8).alloc (.cells #[.string x.c.nm, .int .i64 x.c.kd, .int .u16 (sv x.c.M), .slice x.ar x.c.R.length x.cr, .slice x.aw x.c.Q.length x.cw, .slice x.af x.c.F.length x.cf] 32)
      have hr1 : Rd (X8.alloc (.cells #[.string x.c.nm, .int .i64 x.c.kd, .int .u16 (sv x.c.M), .slice x.ar x.c.R.length x.cr, .slice x.aw x.c.Q.length x.cw, .slice x.af x.c.F.length x.cf] 32)) (some ⟨X8.heap.size, 0, none⟩) 1 1 6 (gl [x]) := rd_new 32 6 X8 (gl [x]) 1 (by decide) rfl
      have HR1 := Lib.hid hr1; clear hr1
      replace H8 := Lib.hid (H8.out.keep K); replace H9 := Lib.hid (H9.out.keep K); replace HQ := Lib.hid (HQ.out.keep K); replace H3 := Lib.hid (H3.out.keep K); replace HXX := Lib.hid (HXX.out.keep K); replace HR := Lib.hid (HR.out.keep K); replace H11 := Lib.hid (H11.out.keep K); replace KK := KK.trans K; clear K
      go_wp2_with fail
      clear c0 c1 c2 c3 c4 c5
      generalize X8.alloc (.cells #[.string x.c.nm, .int .i64 x.c.kd, .int .u16 (sv x.c.M), .slice x.ar x.c.R.length x.cr, .slice x.aw x.c.Q.length x.cw, .slice x.af x.c.F.length x.cf] 32) = X9 at *
      generalize X8.heap.size = BU at *
      have hcl := junsE_any _ _ x 0#16 _ HR1.out HXX.out (HT.out.keep KK) (by rw [← HER.out]; exact HNEE.out)
      rw [← HER.out] at hcl
      simp only [sv_zero, vcl, cl0] at hcl
      refine hcl.mono ?_
      rintro e Y1 ⟨rfl, K⟩
      clear hcl HR1 HXX
      replace HQ := Lib.hid (HQ.out.keep K); replace HR := Lib.hid (HR.out.keep K); replace H11 := Lib.hid (H11.out.keep K); replace KK := KK.trans K; clear K
      have K := (Keeps.refl Y1).alloc (.cells #[.int .i64 0, .int .u16 0, .int .u16 0, .int .u16 0] 47)
      clear H8 H9 H3
      replace HQ := Lib.hid (HQ.out.keep K); replace HR := Lib.hid (HR.out.keep K); replace H11 := Lib.hid (H11.out.keep K); replace KK := KK.trans K; clear K
      go_wp2_with fail
      generalize Y1.alloc (.cells #[.int .i64 0, .int .u16 0, .int .u16 0, .int .u16 0] 47) = Y2 at *
      refine (cloneG_any _ _ [x, z] _ HR.out (by simp)).mono ?_
      rintro e Y3 ⟨v, rfl, hO⟩
      have K := hO.2
      obtain ⟨ac, cc, rfl, rc⟩ := hO.rd
      have HC := Lib.hid rc
      clear hO rc
      replace HQ := Lib.hid (HQ.out.keep K); replace HR := Lib.hid (HR.out.keep K); replace H11 := Lib.hid (H11.out.keep K); replace KK := KK.trans K; clear K
      go_wp2_with fail
      have hcl := jsafE_any _ _ _ [x, z] 0#16 _ (HT.out.keep KK) HC.out HQ.out
      rw [HBD.out.saf] at hcl
      simp only [sv_zero] at hcl
      refine hcl.mono ?_
      rintro e Y4 ⟨rfl, K⟩
      clear hcl HC
      replace HQ := Lib.hid (HQ.out.keep K); replace HR := Lib.hid (HR.out.keep K); replace H11 := Lib.hid (H11.out.keep K); replace KK := KK.trans K; clear K
      go_wp2_with fail
      refine (cloneG_any _ _ [x, z] _ HR.out (by simp)).mono ?_
      rintro e Y5 ⟨v, rfl, hO⟩
      have K := hO.2
      obtain ⟨ac, cc, rfl, rc⟩ := hO.rd
      have HC := Lib.hid rc
      clear hO rc
      replace HQ := Lib.hid (HQ.out.keep K); replace HR := Lib.hid (HR.out.keep K); replace H11 := Lib.hid (H11.out.keep K); replace KK := KK.trans K; clear K
      go_wp2_with fail
      have hcl := jtolE_any _ _ _ [x, z] 0#16 _ HC.out HQ.out
      rw [HBD.out.tol] at hcl
      simp only [sv_zero] at hcl
      refine hcl.mono ?_
      rintro e Y6 ⟨rfl, K⟩
      clear hcl HC
      replace HQ := Lib.hid (HQ.out.keep K); replace HR := Lib.hid (HR.out.keep K); replace H11 := Lib.hid (H11.out.keep K); replace KK := KK.trans K; clear K
      go_wp2_with fail
      refine (cloneG_any _ _ [x, z] _ HR.out (by simp)).mono ?_
      rintro e Y7 ⟨v, rfl, hO⟩
      have K := hO.2
      obtain ⟨ac, cc, rfl, rc⟩ := hO.rd
      have HC := Lib.hid rc
      clear hO rc
      replace HQ := Lib.hid (HQ.out.keep K); replace HR := Lib.hid (HR.out.keep K); replace H11 := Lib.hid (H11.out.keep K); replace KK := KK.trans K; clear K
      go_wp2_with fail
      have K := (Keeps.refl Y7).alloc (.cells #[.int .u16 0, .int .u16 0] 62)
      have hrf : Rd (Y7.alloc (.cells #[.int .u16 0, .int .u16 0] 62)) (some ⟨Y7.heap.size, 0, none⟩) 1 1 2 (fl [(0#16, 0#16)]) := rd_new 62 2 Y7 (fl [(0#16, 0#16)]) 1 (by decide) rfl
      have HRF := Lib.hid hrf; clear hrf
      replace HC := Lib.hid (HC.out.keep K)
      replace HQ := Lib.hid (HQ.out.keep K); replace HR := Lib.hid (HR.out.keep K); replace H11 := Lib.hid (H11.out.keep K); replace KK := KK.trans K; clear K
      generalize Y7.alloc (.cells #[.int .u16 0, .int .u16 0] 62) = Y8 at *
      generalize Y7.heap.size = BV at *
      have hcl := jsndE_any _ _ _ [x, z] 0#16 _ _ _ [(0#16, 0#16)] _ HC.out HRF.out (by decide) HQ.out.rd
      rw [HBD.out.snd] at hcl
      simp only [sv_zero] at hcl
      refine hcl.mono ?_
      rintro e Y9 ⟨rfl, K⟩
      clear hcl HC HRF
      replace H11 := Lib.hid (H11.out.keep K); replace KK := KK.trans K; clear K
      have c3 := H11.out.cell 3 (v := .slice z3.ar z3.c.R.length z3.cr) rfl
      rw [HL3.out] at c3
      have hbe : (er == er) = true := by simp
      go_wp2_with fail
      go_ret
      exact ⟨rfl, HKW.out.trans KK⟩
    | false =>
      have hbd : Bad2 z x er := bad2_of HNEE.out (by rw [vld2, if_neg (by simp [HZV.out]), ← HER.out, if_pos HNEE.out])
      have HBD := Lib.hid hbd; clear hbd
      obtain ⟨i0, i1, i2, i3, i4, i5⟩ := H8.out.c6
      obtain ⟨j0, j1, j2, j3, j4, j5⟩ := H8.out.f6
      obtain ⟨k0, k1, k2, k3, k4, k5⟩ := H9.out.c6
      have n8 := H8.out.set6 (.string z.c.nm) (.int .i64 z.c.kd) (.int .u16 (sv z.c.M)) (.slice z.ar z.c.R.length z.cr) (.slice z.aw z.c.Q.length z.cw) (.slice z.af z.c.F.length z.cf)
      have n9 := H9.out.other6 HNE.out.symm (.string z.c.nm) (.int .i64 z.c.kd) (.int .u16 (sv z.c.M)) (.slice z.ar z.c.R.length z.cr) (.slice z.aw z.c.Q.length z.cw) (.slice z.af z.c.F.length z.cf)
      have nR := HRZ.out.set6 H8.out (.string z.c.nm) (.int .i64 z.c.kd) (.int .u16 (sv z.c.M)) (.slice z.ar z.c.R.length z.cr) (.slice z.aw z.c.Q.length z.cw) (.slice z.af z.c.F.length z.cf)
      have nJ := keeps_set6 KK HG8.out (.string z.c.nm) (.int .i64 z.c.kd) (.int .u16 (sv z.c.M)) (.slice z.ar z.c.R.length z.cr) (.slice z.aw z.c.Q.length z.cw) (.slice z.af z.c.F.length z.cf)
      have m8 := n8.other6 HNE.out (.string x.c.nm) (.int .i64 x.c.kd) (.int .u16 (sv x.c.M)) (.slice x.ar x.c.R.length x.cr) (.slice x.aw x.c.Q.length x.cw) (.slice x.af x.c.F.length x.cf)
      have m9 := n9.set6 (.string x.c.nm) (.int .i64 x.c.kd) (.int .u16 (sv x.c.M)) (.slice x.ar x.c.R.length x.cr) (.slice x.aw x.c.Q.length x.cw) (.slice x.af x.c.F.length x.cf)
      have mR := nR.set6 n9 (.string x.c.nm) (.int .i64 x.c.kd) (.int .u16 (sv x.c.M)) (.slice x.ar x.c.R.length x.cr) (.slice x.aw x.c.Q.length x.cw) (.slice x.af x.c.F.length x.cf)
      have mJ := keeps_set6 nJ HG9.out (.string x.c.nm) (.int .i64 x.c.kd) (.int .u16 (sv x.c.M)) (.slice x.ar x.c.R.length x.cr) (.slice x.aw x.c.Q.length x.cw) (.slice x.af x.c.F.length x.cf)
      obtain ⟨m0, m1, m2, m3, m4, m5⟩ := n9.c6
      obtain ⟨l0, l1, l2, l3, l4, l5⟩ := n9.f6
      have hxb := HX.out.keep mJ
      have h3 := HB3.out.keep mJ
      have hq : RdX (((((((((((((wc.setCell ⟨B8, 0, none⟩ (.string z.c.nm)).setCell ⟨B8, 1, none⟩ (.int .i64 z.c.kd)).setCell ⟨B8, 2, none⟩ (.int .u16 (sv z.c.M))).setCell ⟨B8, 3, none⟩ (.slice z.ar z.c.R.length z.cr)).setCell ⟨B8, 4, none⟩ (.slice z.aw z.c.Q.length z.cw)).setCell ⟨B8, 5, none⟩ (.slice z.af z.c.F.length z.cf)).setCell ⟨B9, 0, none⟩ (.string x.c.nm)).setCell ⟨B9, 1, none⟩ (.int .i64 x.c.kd)).setCell ⟨B9, 2, none⟩ (.int .u16 (sv x.c.M))).setCell ⟨B9, 3, none⟩ (.slice x.ar x.c.R.length x.cr)).setCell ⟨B9, 4, none⟩ (.slice x.aw x.c.Q.length x.cw)).setCell ⟨B9, 5, none⟩ (.slice x.af x.c.F.length x.cf))) [z, x] := fun y hy => by
        rcases List.mem_cons.1 hy with rfl | hy
        · exact ⟨mR.rd, fun _ => mR⟩
        · rw [List.mem_singleton.1 hy]; exact ⟨hxb, fun h => absurd (HER.out.trans h) HNEE.out⟩
      clear H8 H9 HRZ HXB H3 KK
      have H8 := Lib.hid m8; have H9 := Lib.hid m9; have HXX := Lib.hid hxb; have H3 := Lib.hid h3; have HQ := Lib.hid hq; have KK := mJ
      clear n8 n9 nR nJ m8 m9 mR mJ hxb h3 hq HG8 HG9
      obtain ⟨c0, c1, c2, c3, c4, c5⟩ := H8.out.c6
      obtain ⟨d0, d1, d2, d3, d4, d5⟩ := H9.out.c6
      have K := (Keeps.refl ((((((((((((wc.setCell ⟨B8, 0, none⟩ (.string z.c.nm)).setCell ⟨B8, 1, none⟩ (.int .i64 z.c.kd)).setCell ⟨B8, 2, none⟩ (.int .u16 (sv z.c.M))).setCell ⟨B8, 3, none⟩ (.slice z.ar z.c.R.length z.cr)).setCell ⟨B8, 4, none⟩ (.slice z.aw z.c.Q.length z.cw)).setCell ⟨B8, 5, none⟩ (.slice z.af z.c.F.length z.cf)).setCell ⟨B9, 0, none⟩ (.string x.c.nm)).setCell ⟨B9, 1, none⟩ (.int .i64 x.c.kd)).setCell ⟨B9, 2, none⟩ (.int .u16 (sv x.c.M))).setCell ⟨B9, 3, none⟩ (.slice x.ar x.c.R.length x.cr)).setCell ⟨B9, 4, none⟩ (.slice x.aw x.c.Q.length x.cw)).setCell ⟨B9, 5, none⟩ (.slice x.af x.c.F.length x.cf))).alloc (.cells #[.string z.c.nm, .int .i64 z.c.kd, .int .u16 (sv z.c.M), .slice z.ar z.c.R.length z.cr, .slice z.aw z.c.Q.length z.cw, .slice z.af z.c.F.length z.cf, .string x.c.nm, .int .i64 x.c.kd, .int .u16 (sv x.c.M), .slice x.ar x.c.R.length x.cr, .slice x.aw x.c.Q.length x.cw, .slice x.af x.c.F.length x.cf] 32)
      have hsz : (((((((((((((wc.setCell ⟨B8, 0, none⟩ (.string z.c.nm)).setCell ⟨B8, 1, none⟩ (.int .i64 z.c.kd)).setCell ⟨B8, 2, none⟩ (.int .u16 (sv z.c.M))).setCell ⟨B8, 3, none⟩ (.slice z.ar z.c.R.length z.cr)).setCell ⟨B8, 4, none⟩ (.slice z.aw z.c.Q.length z.cw)).setCell ⟨B8, 5, none⟩ (.slice z.af z.c.F.length z.cf)).setCell ⟨B9, 0, none⟩ (.string x.c.nm)).setCell ⟨B9, 1, none⟩ (.int .i64 x.c.kd)).setCell ⟨B9, 2, none⟩ (.int .u16 (sv x.c.M))).setCell ⟨B9, 3, none⟩ (.slice x.ar x.c.R.length x.cr)).setCell ⟨B9, 4, none⟩ (.slice x.aw x.c.Q.length x.cw)).setCell ⟨B9, 5, none⟩ (.slice x.af x.c.F.length x.cf))).heap.size = wc.heap.size := by simp
      have hr2 : Rd ((((((((((((((wc.setCell ⟨B8, 0, none⟩ (.string z.c.nm)).setCell ⟨B8, 1, none⟩ (.int .i64 z.c.kd)).setCell ⟨B8, 2, none⟩ (.int .u16 (sv z.c.M))).setCell ⟨B8, 3, none⟩ (.slice z.ar z.c.R.length z.cr)).setCell ⟨B8, 4, none⟩ (.slice z.aw z.c.Q.length z.cw)).setCell ⟨B8, 5, none⟩ (.slice z.af z.c.F.length z.cf)).setCell ⟨B9, 0, none⟩ (.string x.c.nm)).setCell ⟨B9, 1, none⟩ (.int .i64 x.c.kd)).setCell ⟨B9, 2, none⟩ (.int .u16 (sv x.c.M))).setCell ⟨B9, 3, none⟩ (.slice x.ar x.c.R.length x.cr)).setCell ⟨B9, 4, none⟩ (.slice x.aw x.c.Q.length x.cw)).setCell ⟨B9, 5, none⟩ (.slice x.af x.c.F.length x.cf))).alloc (.cells #[.string z.c.nm, .int .i64 z.c.kd, .int .u16 (sv z.c.M), .slice z.ar z.c.R.length z.cr, .slice z.aw z.c.Q.length z.cw, .slice z.af z.c.F.length z.cf, .string x.c.nm, .int .i64 x.c.kd, .int .u16 (sv x.c.M), .slice x.ar x.c.R.length x.cr, .slice x.aw x.c.Q.length x.cw, .slice x.af x.c.F.length x.cf] 32)) (some ⟨wc.heap.size, 0, none⟩) 2 2 6 (gl [z, x]) := by rw [← hsz]; exact rd_new 32 6 ((((((((((((wc.setCell ⟨B8, 0, none⟩ (.string z.c.nm)).setCell ⟨B8, 1, none⟩ (.int .i64 z.c.kd)).setCell ⟨B8, 2, none⟩ (.int .u16 (sv z.c.M))).setCell ⟨B8, 3, none⟩ (.slice z.ar z.c.R.length z.cr)).setCell ⟨B8, 4, none⟩ (.slice z.aw z.c.Q.length z.cw)).setCell ⟨B8, 5, none⟩ (.slice z.af z.c.F.length z.cf)).setCell ⟨B9, 0, none⟩ (.string x.c.nm)).setCell ⟨B9, 1, none⟩ (.int .i64 x.c.kd)).setCell ⟨B9, 2, none⟩ (.int .u16 (sv x.c.M))).setCell ⟨B9, 3, none⟩ (.slice x.ar x.c.R.length x.cr)).setCell ⟨B9, 4, none⟩ (.slice x.aw x.c.Q.length x.cw)).setCell ⟨B9, 5, none⟩ (.slice x.af x.c.F.length x.cf)) (gl [z, x]) 2 (by decide) rfl
      clear hsz
      have HR := Lib.hid hr2; clear hr2
      replace H8 := Lib.hid (H8.out.keep K); replace H9 := Lib.hid (H9.out.keep K); replace HQ := Lib.hid (HQ.out.keep K); replace H3 := Lib.hid (H3.out.keep K); replace HXX := Lib.hid (HXX.out.keep K); replace KK := KK.trans K; clear K
      obtain ⟨p0, p1, p2, p3, p4, p5⟩ := H8.out.c6
      obtain ⟨q0, q1, q2, q3, q4, q5⟩ := H9.out.c6
      go_wp2_with fail
      clear c0 c1 c2 c3 c4 c5 d0 d1 d2 d3 d4 d5 p0 p1 p2 p3 p4 p5 q0 q1 q2 q3 q4 q5 i0 i1 i2 i3 i4 i5 j0 j1 j2 j3 j4 j5 k0 k1 k2 k3 k4 k5 m0 m1 m2 m3 m4 m5 l0 l1 l2 l3 l4 l5
      generalize (((((((((((((wc.setCell ⟨B8, 0, none⟩ (.string z.c.nm)).setCell ⟨B8, 1, none⟩ (.int .i64 z.c.kd)).setCell ⟨B8, 2, none⟩ (.int .u16 (sv z.c.M))).setCell ⟨B8, 3, none⟩ (.slice z.ar z.c.R.length z.cr)).setCell ⟨B8, 4, none⟩ (.slice z.aw z.c.Q.length z.cw)).setCell ⟨B8, 5, none⟩ (.slice z.af z.c.F.length z.cf)).setCell ⟨B9, 0, none⟩ (.string x.c.nm)).setCell ⟨B9, 1, none⟩ (.int .i64 x.c.kd)).setCell ⟨B9, 2, none⟩ (.int .u16 (sv x.c.M))).setCell ⟨B9, 3, none⟩ (.slice x.ar x.c.R.length x.cr)).setCell ⟨B9, 4, none⟩ (.slice x.aw x.c.Q.length x.cw)).setCell ⟨B9, 5, none⟩ (.slice x.af x.c.F.length x.cf))).alloc (.cells #[.string z.c.nm, .int .i64 z.c.kd, .int .u16 (sv z.c.M), .slice z.ar z.c.R.length z.cr, .slice z.aw z.c.Q.length z.cw, .slice z.af z.c.F.length z.cf, .string x.c.nm, .int .i64 x.c.kd, .int .u16 (sv x.c.M), .slice x.ar x.c.R.length x.cr, .slice x.aw x.c.Q.length x.cw, .slice x.af x.c.F.length x.cf] 32) = X1 at *
      generalize wc.heap.size = BT at *
      refine (jof_any z x _ (HQ.out z (by simp)).1 (HQ.out x (by simp)).1).mono ?_
      intro e X2 hret
      obtain ⟨z3, rfl, hz3, _, K⟩ := hret
      rw [HBD.out.ofc] at hz3
      rw [HBD.out.of]
      have hl3 : z3.c.R.length = 0 := by rw [hz3]; rfl
      have HL3 := Lib.hid hl3; clear hl3 hz3
      unfold vg
      dsimp only
      replace H8 := Lib.hid (H8.out.keep K); replace H9 := Lib.hid (H9.out.keep K); replace HQ := Lib.hid (HQ.out.keep K); replace H3 := Lib.hid (H3.out.keep K); replace HXX := Lib.hid (HXX.out.keep K); replace HR := Lib.hid (HR.out.keep K); replace KK := KK.trans K; clear K
      have K := (Keeps.refl X2).alloc (.cells #[.string z3.c.nm, .int .i64 z3.c.kd, .int .u16 (sv z3.c.M), .slice z3.ar z3.c.R.length z3.cr, .slice z3.aw z3.c.Q.length z3.cw, .slice z3.af z3.c.F.length z3.cf] 32)
      have hb11 := Blk.new X2 32 #[.string z3.c.nm, .int .i64 z3.c.kd, .int .u16 (sv z3.c.M), .slice z3.ar z3.c.R.length z3.cr, .slice z3.aw z3.c.Q.length z3.cw, .slice z3.af z3.c.F.length z3.cf]
      have H11 := Lib.hid hb11; clear hb11
      replace H8 := Lib.hid (H8.out.keep K); replace H9 := Lib.hid (H9.out.keep K); replace HQ := Lib.hid (HQ.out.keep K); replace H3 := Lib.hid (H3.out.keep K); replace HXX := Lib.hid (HXX.out.keep K); replace HR := Lib.hid (HR.out.keep K); replace KK := KK.trans K; clear K
      obtain ⟨c0, c1, c2, c3, c4, c5⟩ := H8.out.c6
      obtain ⟨d0, d1, d2, d3, d4, d5⟩ := H9.out.c6
      go_wp2_with fail
      clear c0 c1 c2 c3 c4 c5 d0 d1 d2 d3 d4 d5
      generalize X2.alloc (.cells #[.string z3.c.nm, .int .i64 z3.c.kd, .int .u16 (sv z3.c.M), .slice z3.ar z3.c.R.length z3.cr, .slice z3.aw z3.c.Q.length z3.cw, .slice z3.af z3.c.F.length z3.cf] 32) = X3 at *
      generalize X2.heap.size = B11 at *
      refine (jfaults_any z x _ (HQ.out z (by simp)).1 (HQ.out x (by simp)).1).mono ?_
      rintro e X4 ⟨v, rfl, hO⟩
      rw [HBD.out.fe]
      obtain ⟨a4, c4, rfl, K⟩ := own_none hO (by rw [HBD.out.fl]; rfl)
      clear hO
      replace H8 := Lib.hid (H8.out.keep K); replace H9 := Lib.hid (H9.out.keep K); replace HQ := Lib.hid (HQ.out.keep K); replace H3 := Lib.hid (H3.out.keep K); replace HXX := Lib.hid (HXX.out.keep K); replace HR := Lib.hid (HR.out.keep K); replace H11 := Lib.hid (H11.out.keep K); replace KK := KK.trans K; clear K
      go_wp2_with fail
      refine (cloneG_any _ _ [z, x] _ HR.out (by simp)).mono ?_
      rintro e X5 ⟨v, rfl, hO⟩
      have K := hO.2
      obtain ⟨ac, cc, rfl, rc⟩ := hO.rd
      have HC := Lib.hid rc
      clear hO rc
      replace H8 := Lib.hid (H8.out.keep K); replace H9 := Lib.hid (H9.out.keep K); replace HQ := Lib.hid (HQ.out.keep K); replace H3 := Lib.hid (H3.out.keep K); replace HXX := Lib.hid (HXX.out.keep K); replace HR := Lib.hid (HR.out.keep K); replace H11 := Lib.hid (H11.out.keep K); replace KK := KK.trans K; clear K
      go_wp2_with fail
      refine (jchain_any _ _ _ [z, x] _ HC.out HQ.out.rd (by simp)).mono ?_
      rintro e X6 ⟨v, ys, rfl, hO, hys, _⟩
      simp only [List.map_cons, List.map_nil] at hys ⊢
      rw [HBD.out.cl] at hys
      rw [HBD.out.ce]
      obtain ⟨a6, c6, rfl, K⟩ := own_none hO (by rw [← List.length_map (f := fun y : CA => y.c), hys]; rfl)
      clear hO hys HC
      replace H8 := Lib.hid (H8.out.keep K); replace H9 := Lib.hid (H9.out.keep K); replace HQ := Lib.hid (HQ.out.keep K); replace H3 := Lib.hid (H3.out.keep K); replace HXX := Lib.hid (HXX.out.keep K); replace HR := Lib.hid (HR.out.keep K); replace H11 := Lib.hid (H11.out.keep K); replace KK := KK.trans K; clear K
      go_wp2_with fail
      refine (cloneG_any _ _ [z, x] _ HR.out (by simp)).mono ?_
      rintro e X7 ⟨v, rfl, hO⟩
      have K := hO.2
      obtain ⟨ac, cc, rfl, rc⟩ := hO.rd
      have HC := Lib.hid rc
      clear hO rc
      replace H8 := Lib.hid (H8.out.keep K); replace H9 := Lib.hid (H9.out.keep K); replace HQ := Lib.hid (HQ.out.keep K); replace H3 := Lib.hid (H3.out.keep K); replace HXX := Lib.hid (HXX.out.keep K); replace HR := Lib.hid (HR.out.keep K); replace H11 := Lib.hid (H11.out.keep K); replace KK := KK.trans K; clear K
      go_wp2_with fail
      have hcl := jrouteE_any _ _ [z, x] _ HC.out HQ.out.rd (by rw [HBD.out.ve]; exact HNEE.out)
      rw [HBD.out.ve] at hcl
      refine hcl.mono ?_
      rintro e X8 ⟨rfl, K⟩
      clear hcl HC
      replace H8 := Lib.hid (H8.out.keep K); replace H9 := Lib.hid (H9.out.keep K); replace HQ := Lib.hid (HQ.out.keep K); replace H3 := Lib.hid (H3.out.keep K); replace HXX := Lib.hid (HXX.out.keep K); replace HR := Lib.hid (HR.out.keep K); replace H11 := Lib.hid (H11.out.keep K); replace KK := KK.trans K; clear K
      obtain ⟨c0, c1, c2, c3, c4, c5⟩ := H3.out.c6
      have K := (Keeps.refl X8).alloc (.cells #[.string x.c.nm, .int .i64 x.c.kd, .int .u16 (sv x.c.M), .slice x.ar x.c.R.length x.cr, .slice x.aw x.c.Q.length x.cw, .slice x.af x.c.F.length x.cf] 32)
      have hr1 : Rd (X8.alloc (.cells #[.string x.c.nm, .int .i64 x.c.kd, .int .u16 (sv x.c.M), .slice x.ar x.c.R.length x.cr, .slice x.aw x.c.Q.length x.cw, .slice x.af x.c.F.length x.cf] 32)) (some ⟨X8.heap.size, 0, none⟩) 1 1 6 (gl [x]) := rd_new 32 6 X8 (gl [x]) 1 (by decide) rfl
      have HR1 := Lib.hid hr1; clear hr1
      replace H8 := Lib.hid (H8.out.keep K); replace H9 := Lib.hid (H9.out.keep K); replace HQ := Lib.hid (HQ.out.keep K); replace H3 := Lib.hid (H3.out.keep K); replace HXX := Lib.hid (HXX.out.keep K); replace HR := Lib.hid (HR.out.keep K); replace H11 := Lib.hid (H11.out.keep K); replace KK := KK.trans K; clear K
      go_wp2_with fail
      clear c0 c1 c2 c3 c4 c5
      generalize X8.alloc (.cells #[.string x.c.nm, .int .i64 x.c.kd, .int .u16 (sv x.c.M), .slice x.ar x.c.R.length x.cr, .slice x.aw x.c.Q.length x.cw, .slice x.af x.c.F.length x.cf] 32) = X9 at *
      generalize X8.heap.size = BU at *
      have hcl := junsE_any _ _ x 0#16 _ HR1.out HXX.out (HT.out.keep KK) (by rw [← HER.out]; exact HNEE.out)
      rw [← HER.out] at hcl
      simp only [sv_zero, vcl, cl0] at hcl
      refine hcl.mono ?_
      rintro e Y1 ⟨rfl, K⟩
      clear hcl HR1 HXX
      replace HQ := Lib.hid (HQ.out.keep K); replace HR := Lib.hid (HR.out.keep K); replace H11 := Lib.hid (H11.out.keep K); replace KK := KK.trans K; clear K
      have K := (Keeps.refl Y1).alloc (.cells #[.int .i64 0, .int .u16 0, .int .u16 0, .int .u16 0] 47)
      clear H8 H9 H3
      replace HQ := Lib.hid (HQ.out.keep K); replace HR := Lib.hid (HR.out.keep K); replace H11 := Lib.hid (H11.out.keep K); replace KK := KK.trans K; clear K
      go_wp2_with fail
      generalize Y1.alloc (.cells #[.int .i64 0, .int .u16 0, .int .u16 0, .int .u16 0] 47) = Y2 at *
      refine (cloneG_any _ _ [z, x] _ HR.out (by simp)).mono ?_
      rintro e Y3 ⟨v, rfl, hO⟩
      have K := hO.2
      obtain ⟨ac, cc, rfl, rc⟩ := hO.rd
      have HC := Lib.hid rc
      clear hO rc
      replace HQ := Lib.hid (HQ.out.keep K); replace HR := Lib.hid (HR.out.keep K); replace H11 := Lib.hid (H11.out.keep K); replace KK := KK.trans K; clear K
      go_wp2_with fail
      have hcl := jsafE_any _ _ _ [z, x] 0#16 _ (HT.out.keep KK) HC.out HQ.out
      rw [HBD.out.saf] at hcl
      simp only [sv_zero] at hcl
      refine hcl.mono ?_
      rintro e Y4 ⟨rfl, K⟩
      clear hcl HC
      replace HQ := Lib.hid (HQ.out.keep K); replace HR := Lib.hid (HR.out.keep K); replace H11 := Lib.hid (H11.out.keep K); replace KK := KK.trans K; clear K
      go_wp2_with fail
      refine (cloneG_any _ _ [z, x] _ HR.out (by simp)).mono ?_
      rintro e Y5 ⟨v, rfl, hO⟩
      have K := hO.2
      obtain ⟨ac, cc, rfl, rc⟩ := hO.rd
      have HC := Lib.hid rc
      clear hO rc
      replace HQ := Lib.hid (HQ.out.keep K); replace HR := Lib.hid (HR.out.keep K); replace H11 := Lib.hid (H11.out.keep K); replace KK := KK.trans K; clear K
      go_wp2_with fail
      have hcl := jtolE_any _ _ _ [z, x] 0#16 _ HC.out HQ.out
      rw [HBD.out.tol] at hcl
      simp only [sv_zero] at hcl
      refine hcl.mono ?_
      rintro e Y6 ⟨rfl, K⟩
      clear hcl HC
      replace HQ := Lib.hid (HQ.out.keep K); replace HR := Lib.hid (HR.out.keep K); replace H11 := Lib.hid (H11.out.keep K); replace KK := KK.trans K; clear K
      go_wp2_with fail
      refine (cloneG_any _ _ [z, x] _ HR.out (by simp)).mono ?_
      rintro e Y7 ⟨v, rfl, hO⟩
      have K := hO.2
      obtain ⟨ac, cc, rfl, rc⟩ := hO.rd
      have HC := Lib.hid rc
      clear hO rc
      replace HQ := Lib.hid (HQ.out.keep K); replace HR := Lib.hid (HR.out.keep K); replace H11 := Lib.hid (H11.out.keep K); replace KK := KK.trans K; clear K
      go_wp2_with fail
      have K := (Keeps.refl Y7).alloc (.cells #[.int .u16 0, .int .u16 0] 62)
      have hrf : Rd (Y7.alloc (.cells #[.int .u16 0, .int .u16 0] 62)) (some ⟨Y7.heap.size, 0, none⟩) 1 1 2 (fl [(0#16, 0#16)]) := rd_new 62 2 Y7 (fl [(0#16, 0#16)]) 1 (by decide) rfl
      have HRF := Lib.hid hrf; clear hrf
      replace HC := Lib.hid (HC.out.keep K)
      replace HQ := Lib.hid (HQ.out.keep K); replace HR := Lib.hid (HR.out.keep K); replace H11 := Lib.hid (H11.out.keep K); replace KK := KK.trans K; clear K
      generalize Y7.alloc (.cells #[.int .u16 0, .int .u16 0] 62) = Y8 at *
      generalize Y7.heap.size = BV at *
      have hcl := jsndE_any _ _ _ [z, x] 0#16 _ _ _ [(0#16, 0#16)] _ HC.out HRF.out (by decide) HQ.out.rd
      rw [HBD.out.snd] at hcl
      simp only [sv_zero] at hcl
      refine hcl.mono ?_
      rintro e Y9 ⟨rfl, K⟩
      clear hcl HC HRF
      replace H11 := Lib.hid (H11.out.keep K); replace KK := KK.trans K; clear K
      have c3 := H11.out.cell 3 (v := .slice z3.ar z3.c.R.length z3.cr) rfl
      rw [HL3.out] at c3
      have hbe : (er == er) = true := by simp
      go_wp2_with fail
      go_ret
      exact ⟨rfl, HKW.out.trans KK⟩
end Go.Proofs.YtnlohknlchgfgaaGreatDoor
