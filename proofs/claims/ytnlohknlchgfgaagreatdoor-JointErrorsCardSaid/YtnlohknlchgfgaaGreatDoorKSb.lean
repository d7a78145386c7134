/- Texts joined into one (wip/bin/pack.py): ChG. -/
import Derived.Test.YtnlohknlchgfgaaGreatDoorKSa
import Derived.Deep.DeepCutAuto
/- joint.copied. -/
namespace Go.Proofs.YtnlohknlchgfgaaGreatDoor
open Go.RowKit Go.Lib Go.Shelf

theorem cv_lens {c : Cf} (h : cvf c = 0) : c.R.length ≤ 1000000 ∧ c.Q.length ≤ 1000000 ∧ c.F.length ≤ 1000000 := by
  obtain ⟨_, _, h1, h2, h3⟩ := cv_parts (cvf_cv h).2
  exact ⟨by have := ((valid_iff _).1 (cf_parts h1).1).len; omega, by have := ((valid_iff _).1 (cf_parts h2).1).len; omega, cvf_len h⟩
theorem clone_row {a : Option Addr} {c : Nat} {l : List S} {w : World} (h : Rd w a l.length c 1 (sl l)) (hb : l.length ≤ 1000000) (W : World) (k : Keeps w W) :
    Calls Tryz.prog 63 #[.slice a l.length c] W fun e w' => ∃ a' c', e = .returned (.slice a' l.length c') ∧ Row0 29 1 w' (.slice a' l.length c') l.length (sl l) ∧ Keeps W w' :=
  (cloneS_any a l.length c (sl l) W (h.keep k) (sl_oneCell l) hb).mono fun e w' ⟨v, he, ho, hk⟩ => by
    obtain ⟨a', c', rfl, _⟩ := own_rd ho
    exact ⟨a', c', he, Own.row0 (w0 := W) ⟨ho, hk⟩, hk⟩
theorem clone_rowF {a : Option Addr} {c : Nat} {l : List F2} {w : World} (h : Rd w a l.length c 2 (fl l)) (hb : l.length ≤ 1000000) (W : World) (k : Keeps w W) :
    Calls Tryz.prog 64 #[.slice a l.length c] W fun e w' => ∃ a' c', e = .returned (.slice a' l.length c') ∧ Row0 62 2 w' (.slice a' l.length c') l.length (fl l) ∧ Keeps W w' :=
  (cloneF_any a c l W (h.keep k) hb).mono fun e w' ⟨v, he, ho⟩ => by
    obtain ⟨a', c', rfl, _⟩ := ho.rd
    exact ⟨a', c', he, ho.row0, ho.2⟩
set_option maxRecDepth 20000 in
set_option maxHeartbeats 8000000 in
theorem copied_any (x : CA) (w : World) (hx : RdG w x) (hv : cvf x.c = 0) : Calls Tryz.prog 35 #[vg x] w fun e w' => RetG w x.c e w' := by
  obtain ⟨b1, b2, b3⟩ := cv_lens hv
  obtain ⟨⟨nm, kd, M, R, Q, F⟩, ar, cr, aw, cw, af, cf⟩ := x
  obtain ⟨r1, r2, r3⟩ := hx
  dsimp only at *
  have h1 := clone_row r1 b1
  have h2 := clone_row r2 b2
  have h3 := clone_rowF r3 b3
  have hs : ∀ o, (w.alloc o).heap.size = w.heap.size + 1 := fun o => World.size_alloc ..
  have hb := Blk.new w 32 #[.string nm, .int .i64 kd, .int .u16 (sv M), .slice ar R.length cr, .slice aw Q.length cw, .slice af F.length cf]
  have hb' := (hb.keep ((Keeps.refl _).alloc (.cells zG 32))).keep (Keeps.refl _).drew
  have hz := (Blk.new (w.alloc (.cells #[.string nm, .int .i64 kd, .int .u16 (sv M), .slice ar R.length cr, .slice aw Q.length cw, .slice af F.length cf] 32)) 32 zG).keep (Keeps.refl _).drew
  rw [hs] at hz
  have J := (((Keeps.refl w).alloc (.cells #[.string nm, .int .i64 kd, .int .u16 (sv M), .slice ar R.length cr, .slice aw Q.length cw, .slice af F.length cf] 32)).alloc (.cells zG 32)).drew
  have H1 := Lib.hid h1; have H2 := Lib.hid h2; have H3 := Lib.hid h3; have HB := Lib.hid hb'; have HZ := Lib.hid hz
  clear h1 h2 h3 hb hb' hz hs r1 r2 r3 b1 b2 b3 hv
  unfold vg
  dsimp only
  unfold zG at *
  go_enter Tryz.func35, Tryz.ntmps35
  go_wp2_with fail
  refine wp_region_held_drew (S := fun _ => True) (by kernel_rfl) trivial (fun hHeld => ?_)
  refine wpAnyH_take (i := 0) (oi := ⟨_, _, _, _, _, _⟩) (v := ?_) rfl (by kernel_rfl) (by kernel_rfl) (by kernel_rfl) (fun _ _ _ h => h) (Or.inl ⟨by rfl, ?_⟩) (by assumption) ?_
  rotate_left 1
  · intro w hSw; go_simp <;> with_reducible rfl
  (try simp only [Act.put]); (try simp only [List.setIfInBounds_toArray]); (try simp only [List.set_cons_succ]); (try simp only [List.set_cons_zero])
  refine wpAnyH_take (i := 3) (oi := ⟨_, _, _, _, _, _⟩) (v := ?_) rfl (by kernel_rfl) (by kernel_rfl) (by kernel_rfl) (fun _ _ _ h => h) (Or.inl ⟨by rfl, ?_⟩) (by assumption) ?_
  rotate_left 1
  · intro w hSw; go_simp <;> with_reducible rfl
  (try simp only [Act.put]); (try simp only [List.setIfInBounds_toArray]); (try simp only [List.set_cons_succ]); (try simp only [List.set_cons_zero])
  refine wpAnyH_take (i := 6) (oi := ⟨_, _, _, _, _, _⟩) (v := ?_) rfl (by kernel_rfl) (by kernel_rfl) (by kernel_rfl) (fun _ _ _ h => h) (Or.inl ⟨by rfl, ?_⟩) (by assumption) ?_
  rotate_left 1
  · intro w hSw; go_simp <;> with_reducible rfl
  (try simp only [Act.put]); (try simp only [List.setIfInBounds_toArray]); (try simp only [List.set_cons_succ]); (try simp only [List.set_cons_zero])
  have hB := HB.out; have hZ := HZ.out
  clear HB HZ
  refine wpAnyH_ready (rs := [1, 4, 7]) (by kernel_rfl) (by simp) ?_
  refine AllReadyH.cons (o := ⟨_, _, _, _, _, _⟩) rfl (fun K hK => ?_) (AllReadyH.cons (o := ⟨_, _, _, _, _, _⟩) rfl (fun K hK => ?_) (AllReadyH.cons (o := ⟨_, _, _, _, _, _⟩) rfl (fun K hK => ?_) AllReadyH.nil))
  · obtain ⟨c0, c1, c2, c3, c4, c5⟩ := hB.c6
    go_simp
    clear c0 c1 c2 c3 c4 c5
    refine hK.out _ _ ?_ (fun hHeld => ?_)
    · trivial
    clear hK K
    (try simp only [Act.put]); (try simp only [List.setIfInBounds_toArray]); (try simp only [List.set_cons_succ]); (try simp only [List.set_cons_zero])
    refine wpAnyH_ready (rs := [2, 4, 7]) (by kernel_rfl) (by simp) ?_
    refine AllReadyH.cons (o := ⟨_, _, _, _, _, _⟩) rfl (fun K hK => ?_) (AllReadyH.cons (o := ⟨_, _, _, _, _, _⟩) rfl (fun K hK => ?_) (AllReadyH.cons (o := ⟨_, _, _, _, _, _⟩) rfl (fun K hK => ?_) AllReadyH.nil))
    · go_simp
      refine (H1.out _ J).mono ?_
      rintro e V2 ⟨a1, c1', rfl, hr1, K9⟩
      replace hB := hB.keep K9; replace hZ := hZ.keep K9; replace J := J.trans K9
      clear K9
      refine hK.out _ _ ?_ (fun hHeld => ?_)
      · trivial
      clear hK K
      (try simp only [Act.put]); (try simp only [List.setIfInBounds_toArray]); (try simp only [List.set_cons_succ]); (try simp only [List.set_cons_zero])
      refine wpAnyH_ready (rs := [4, 7]) (by kernel_rfl) (by simp) ?_
      refine AllReadyH.cons (o := ⟨_, _, _, _, _, _⟩) rfl (fun K hK => ?_) (AllReadyH.cons (o := ⟨_, _, _, _, _, _⟩) rfl (fun K hK => ?_) AllReadyH.nil)
      · obtain ⟨c0, c1, c2, c3, c4, c5⟩ := hB.c6
        go_simp
        clear c0 c1 c2 c3 c4 c5
        refine hK.out _ _ ?_ (fun hHeld => ?_)
        · trivial
        clear hK K
        (try simp only [Act.put]); (try simp only [List.setIfInBounds_toArray]); (try simp only [List.set_cons_succ]); (try simp only [List.set_cons_zero])
        refine wpAnyH_ready (rs := [5, 7]) (by kernel_rfl) (by simp) ?_
        refine AllReadyH.cons (o := ⟨_, _, _, _, _, _⟩) rfl (fun K hK => ?_) (AllReadyH.cons (o := ⟨_, _, _, _, _, _⟩) rfl (fun K hK => ?_) AllReadyH.nil)
        · go_simp
          refine (H2.out _ J).mono ?_
          rintro e V4 ⟨a2, c2', rfl, hr2, K9⟩
          replace hB := hB.keep K9; replace hZ := hZ.keep K9; replace J := J.trans K9
          replace hr1 := hr1.keep K9
          clear K9
          refine hK.out _ _ ?_ (fun hHeld => ?_)
          · trivial
          clear hK K
          (try simp only [Act.put]); (try simp only [List.setIfInBounds_toArray]); (try simp only [List.set_cons_succ]); (try simp only [List.set_cons_zero])
          refine wpAnyH_ready (rs := [7]) (by kernel_rfl) (by simp) ?_
          refine AllReadyH.cons (o := ⟨_, _, _, _, _, _⟩) rfl (fun K hK => ?_) AllReadyH.nil
          · obtain ⟨c0, c1, c2, c3, c4, c5⟩ := hB.c6
            go_simp
            clear c0 c1 c2 c3 c4 c5
            refine hK.out _ _ ?_ (fun hHeld => ?_)
            · trivial
            clear hK K
            (try simp only [Act.put]); (try simp only [List.setIfInBounds_toArray]); (try simp only [List.set_cons_succ]); (try simp only [List.set_cons_zero])
            refine wpAnyH_take (i := 9) (oi := ⟨_, _, _, _, _, _⟩) (v := ?_) rfl (by kernel_rfl) (by kernel_rfl) (by kernel_rfl) (fun _ _ _ h => h) (Or.inl ⟨by rfl, ?_⟩) (by assumption) ?_
            rotate_left 1
            · intro w hSw; go_simp <;> with_reducible rfl
            (try simp only [Act.put]); (try simp only [List.setIfInBounds_toArray]); (try simp only [List.set_cons_succ]); (try simp only [List.set_cons_zero])
            refine wpAnyH_ready (rs := [8]) (by kernel_rfl) (by simp) ?_
            refine AllReadyH.cons (o := ⟨_, _, _, _, _, _⟩) rfl (fun K hK => ?_) AllReadyH.nil
            · go_simp
              refine (H3.out _ J).mono ?_
              rintro e V6 ⟨a3, c3', rfl, hr3, K9⟩
              replace hB := hB.keep K9; replace hZ := hZ.keep K9; replace J := J.trans K9
              replace hr1 := hr1.keep K9
              replace hr2 := hr2.keep K9
              clear K9
              refine hK.out _ _ ?_ (fun hHeld => ?_)
              · trivial
              clear hK K
              (try simp only [Act.put]); (try simp only [List.setIfInBounds_toArray]); (try simp only [List.set_cons_succ]); (try simp only [List.set_cons_zero])
              refine wpAnyH_ready (rs := [10]) (by kernel_rfl) (by simp) ?_
              refine AllReadyH.cons (o := ⟨_, _, _, _, _, _⟩) rfl (fun K hK => ?_) AllReadyH.nil
              · have f := hB.frozen 3
                have c := hB.cell 3 (v := .slice ar R.length cr) rfl
                go_simp
                clear f c
                have J9 : Keeps w (V6.setCell ⟨w.heap.size, 3, none⟩ (.slice a1 R.length c1')) := keeps_set J (Nat.le_refl _) _ _
                replace hr1 := hr1.set hB (by decide) 3 (.slice a1 R.length c1')
                replace hr2 := hr2.set hB (by decide) 3 (.slice a1 R.length c1')
                replace hr3 := hr3.set hB (by decide) 3 (.slice a1 R.length c1')
                replace hZ := hZ.setOther (show w.heap.size + 1 ≠ w.heap.size by omega) 3 (.slice a1 R.length c1')
                replace hB := hB.set 3 (.slice a1 R.length c1')
                simp only [List.setIfInBounds_toArray, List.set_cons_succ, List.set_cons_zero] at hB
                replace J := J9; clear J9
                generalize V6.setCell ⟨w.heap.size, 3, none⟩ (.slice a1 R.length c1') = V7 at *
                refine hK.out _ _ ?_ (fun hHeld => ?_)
                · trivial
                clear hK K
                (try simp only [Act.put]); (try simp only [List.setIfInBounds_toArray]); (try simp only [List.set_cons_succ]); (try simp only [List.set_cons_zero])
                refine wpAnyH_take (i := 11) (oi := ⟨_, _, _, _, _, _⟩) (v := ?_) rfl (by kernel_rfl) (by kernel_rfl) (by kernel_rfl) (fun _ _ _ h => h) (Or.inl ⟨by rfl, ?_⟩) (by assumption) ?_
                rotate_left 1
                · intro w hSw; go_simp <;> with_reducible rfl
                (try simp only [Act.put]); (try simp only [List.setIfInBounds_toArray]); (try simp only [List.set_cons_succ]); (try simp only [List.set_cons_zero])
                refine wpAnyH_ready (rs := [12]) (by kernel_rfl) (by simp) ?_
                refine AllReadyH.cons (o := ⟨_, _, _, _, _, _⟩) rfl (fun K hK => ?_) AllReadyH.nil
                · have f := hB.frozen 4
                  have c := hB.cell 4 (v := .slice aw Q.length cw) rfl
                  go_simp
                  clear f c
                  have J9 : Keeps w (V7.setCell ⟨w.heap.size, 4, none⟩ (.slice a2 Q.length c2')) := keeps_set J (Nat.le_refl _) _ _
                  replace hr1 := hr1.set hB (by decide) 4 (.slice a2 Q.length c2')
                  replace hr2 := hr2.set hB (by decide) 4 (.slice a2 Q.length c2')
                  replace hr3 := hr3.set hB (by decide) 4 (.slice a2 Q.length c2')
                  replace hZ := hZ.setOther (show w.heap.size + 1 ≠ w.heap.size by omega) 4 (.slice a2 Q.length c2')
                  replace hB := hB.set 4 (.slice a2 Q.length c2')
                  simp only [List.setIfInBounds_toArray, List.set_cons_succ, List.set_cons_zero] at hB
                  replace J := J9; clear J9
                  generalize V7.setCell ⟨w.heap.size, 4, none⟩ (.slice a2 Q.length c2') = V8 at *
                  refine hK.out _ _ ?_ (fun hHeld => ?_)
                  · trivial
                  clear hK K
                  (try simp only [Act.put]); (try simp only [List.setIfInBounds_toArray]); (try simp only [List.set_cons_succ]); (try simp only [List.set_cons_zero])
                  refine wpAnyH_take (i := 13) (oi := ⟨_, _, _, _, _, _⟩) (v := ?_) rfl (by kernel_rfl) (by kernel_rfl) (by kernel_rfl) (fun _ _ _ h => h) (Or.inl ⟨by rfl, ?_⟩) (by assumption) ?_
                  rotate_left 1
                  · intro w hSw; go_simp <;> with_reducible rfl
                  (try simp only [Act.put]); (try simp only [List.setIfInBounds_toArray]); (try simp only [List.set_cons_succ]); (try simp only [List.set_cons_zero])
                  refine wpAnyH_ready (rs := [14]) (by kernel_rfl) (by simp) ?_
                  refine AllReadyH.cons (o := ⟨_, _, _, _, _, _⟩) rfl (fun K hK => ?_) AllReadyH.nil
                  · have f := hB.frozen 5
                    have c := hB.cell 5 (v := .slice af F.length cf) rfl
                    go_simp
                    clear f c
                    have J9 : Keeps w (V8.setCell ⟨w.heap.size, 5, none⟩ (.slice a3 F.length c3')) := keeps_set J (Nat.le_refl _) _ _
                    replace hr1 := hr1.set hB (by decide) 5 (.slice a3 F.length c3')
                    replace hr2 := hr2.set hB (by decide) 5 (.slice a3 F.length c3')
                    replace hr3 := hr3.set hB (by decide) 5 (.slice a3 F.length c3')
                    replace hZ := hZ.setOther (show w.heap.size + 1 ≠ w.heap.size by omega) 5 (.slice a3 F.length c3')
                    replace hB := hB.set 5 (.slice a3 F.length c3')
                    simp only [List.setIfInBounds_toArray, List.set_cons_succ, List.set_cons_zero] at hB
                    replace J := J9; clear J9
                    generalize V8.setCell ⟨w.heap.size, 5, none⟩ (.slice a3 F.length c3') = V9 at *
                    refine hK.out _ _ ?_ (fun hHeld => ?_)
                    · trivial
                    clear hK K
                    (try simp only [Act.put]); (try simp only [List.setIfInBounds_toArray]); (try simp only [List.set_cons_succ]); (try simp only [List.set_cons_zero])
                    refine wpAnyH_done (by kernel_rfl) ?_ _
                    obtain ⟨c0, c1, c2, c3, c4, c5⟩ := hB.c6
                    obtain ⟨g0, g1, g2, g3, g4, g5⟩ := hZ.f6
                    obtain ⟨d0, d1, d2, d3, d4, d5⟩ := hZ.c6
                    go_wp2_with fail
                    clear c0 c1 c2 c3 c4 c5 g0 g1 g2 g3 g4 g5 d0 d1 d2 d3 d4 d5
                    have KZ := keeps_set6 J (Nat.le_succ _) (.string nm) (.int .i64 kd) (.int .u16 (sv M)) (.slice a1 R.length c1') (.slice a2 Q.length c2') (.slice a3 F.length c3')
                    have RZ : RoG _ (⟨⟨nm, kd, M, R, Q, F⟩, a1, c1', a2, c2', a3, c3'⟩ : CA) := RoG.set6 (z := ⟨⟨nm, kd, M, R, Q, F⟩, a1, c1', a2, c2', a3, c3'⟩) ⟨hr1, hr2, hr3⟩ hZ (.string nm) (.int .i64 kd) (.int .u16 (sv M)) (.slice a1 R.length c1') (.slice a2 Q.length c2') (.slice a3 F.length c3')
                    have hZ6 := hZ.set6 (.string nm) (.int .i64 kd) (.int .u16 (sv M)) (.slice a1 R.length c1') (.slice a2 Q.length c2') (.slice a3 F.length c3')
                    refine bodyPost_ret (resCfg1 (z := ⟨⟨nm, kd, M, R, Q, F⟩, a1, c1', a2, c2', a3, c3'⟩) rfl hZ6 rfl) rfl ?_
                    exact ⟨⟨⟨nm, kd, M, R, Q, F⟩, a1, c1', a2, c2', a3, c3'⟩, rfl, rfl, RZ, KZ⟩
        · obtain ⟨c0, c1, c2, c3, c4, c5⟩ := hB.c6
          go_simp
          clear c0 c1 c2 c3 c4 c5
          refine hK.out _ _ ?_ (fun hHeld => ?_)
          · trivial
          clear hK K
          (try simp only [Act.put]); (try simp only [List.setIfInBounds_toArray]); (try simp only [List.set_cons_succ]); (try simp only [List.set_cons_zero])
          refine wpAnyH_take (i := 9) (oi := ⟨_, _, _, _, _, _⟩) (v := ?_) rfl (by kernel_rfl) (by kernel_rfl) (by kernel_rfl) (fun _ _ _ h => h) (Or.inl ⟨by rfl, ?_⟩) (by assumption) ?_
          rotate_left 1
          · intro w hSw; go_simp <;> with_reducible rfl
          (try simp only [Act.put]); (try simp only [List.setIfInBounds_toArray]); (try simp only [List.set_cons_succ]); (try simp only [List.set_cons_zero])
          refine wpAnyH_ready (rs := [5]) (by kernel_rfl) (by simp) ?_
          refine AllReadyH.cons (o := ⟨_, _, _, _, _, _⟩) rfl (fun K hK => ?_) AllReadyH.nil
          · go_simp
            refine (H2.out _ J).mono ?_
            rintro e V11 ⟨a2, c2', rfl, hr2, K9⟩
            replace hB := hB.keep K9; replace hZ := hZ.keep K9; replace J := J.trans K9
            replace hr1 := hr1.keep K9
            clear K9
            refine hK.out _ _ ?_ (fun hHeld => ?_)
            · trivial
            clear hK K
            (try simp only [Act.put]); (try simp only [List.setIfInBounds_toArray]); (try simp only [List.set_cons_succ]); (try simp only [List.set_cons_zero])
            refine wpAnyH_ready (rs := [8]) (by kernel_rfl) (by simp) ?_
            refine AllReadyH.cons (o := ⟨_, _, _, _, _, _⟩) rfl (fun K hK => ?_) AllReadyH.nil
            · go_simp
              refine (H3.out _ J).mono ?_
              rintro e V12 ⟨a3, c3', rfl, hr3, K9⟩
              replace hB := hB.keep K9; replace hZ := hZ.keep K9; replace J := J.trans K9
              replace hr1 := hr1.keep K9
              replace hr2 := hr2.keep K9
              clear K9
              refine hK.out _ _ ?_ (fun hHeld => ?_)
              · trivial
              clear hK K
              (try simp only [Act.put]); (try simp only [List.setIfInBounds_toArray]); (try simp only [List.set_cons_succ]); (try simp only [List.set_cons_zero])
              refine wpAnyH_ready (rs := [10]) (by kernel_rfl) (by simp) ?_
              refine AllReadyH.cons (o := ⟨_, _, _, _, _, _⟩) rfl (fun K hK => ?_) AllReadyH.nil
              · have f := hB.frozen 3
                have c := hB.cell 3 (v := .slice ar R.length cr) rfl
                go_simp
                clear f c
                have J9 : Keeps w (V12.setCell ⟨w.heap.size, 3, none⟩ (.slice a1 R.length c1')) := keeps_set J (Nat.le_refl _) _ _
                replace hr1 := hr1.set hB (by decide) 3 (.slice a1 R.length c1')
                replace hr2 := hr2.set hB (by decide) 3 (.slice a1 R.length c1')
                replace hr3 := hr3.set hB (by decide) 3 (.slice a1 R.length c1')
                replace hZ := hZ.setOther (show w.heap.size + 1 ≠ w.heap.size by omega) 3 (.slice a1 R.length c1')
                replace hB := hB.set 3 (.slice a1 R.length c1')
                simp only [List.setIfInBounds_toArray, List.set_cons_succ, List.set_cons_zero] at hB
                replace J := J9; clear J9
                generalize V12.setCell ⟨w.heap.size, 3, none⟩ (.slice a1 R.length c1') = V13 at *
                refine hK.out _ _ ?_ (fun hHeld => ?_)
                · trivial
                clear hK K
                (try simp only [Act.put]); (try simp only [List.setIfInBounds_toArray]); (try simp only [List.set_cons_succ]); (try simp only [List.set_cons_zero])
                refine wpAnyH_take (i := 11) (oi := ⟨_, _, _, _, _, _⟩) (v := ?_) rfl (by kernel_rfl) (by kernel_rfl) (by kernel_rfl) (fun _ _ _ h => h) (Or.inl ⟨by rfl, ?_⟩) (by assumption) ?_
                rotate_left 1
                · intro w hSw; go_simp <;> with_reducible rfl
                (try simp only [Act.put]); (try simp only [List.setIfInBounds_toArray]); (try simp only [List.set_cons_succ]); (try simp only [List.set_cons_zero])
                refine wpAnyH_ready (rs := [12]) (by kernel_rfl) (by simp) ?_
                refine AllReadyH.cons (o := ⟨_, _, _, _, _, _⟩) rfl (fun K hK => ?_) AllReadyH.nil
                · have f := hB.frozen 4
                  have c := hB.cell 4 (v := .slice aw Q.length cw) rfl
                  go_simp
                  clear f c
                  have J9 : Keeps w (V13.setCell ⟨w.heap.size, 4, none⟩ (.slice a2 Q.length c2')) := keeps_set J (Nat.le_refl _) _ _
                  replace hr1 := hr1.set hB (by decide) 4 (.slice a2 Q.length c2')
                  replace hr2 := hr2.set hB (by decide) 4 (.slice a2 Q.length c2')
                  replace hr3 := hr3.set hB (by decide) 4 (.slice a2 Q.length c2')
                  replace hZ := hZ.setOther (show w.heap.size + 1 ≠ w.heap.size by omega) 4 (.slice a2 Q.length c2')
                  replace hB := hB.set 4 (.slice a2 Q.length c2')
                  simp only [List.setIfInBounds_toArray, List.set_cons_succ, List.set_cons_zero] at hB
                  replace J := J9; clear J9
                  generalize V13.setCell ⟨w.heap.size, 4, none⟩ (.slice a2 Q.length c2') = V14 at *
                  refine hK.out _ _ ?_ (fun hHeld => ?_)
                  · trivial
                  clear hK K
                  (try simp only [Act.put]); (try simp only [List.setIfInBounds_toArray]); (try simp only [List.set_cons_succ]); (try simp only [List.set_cons_zero])
                  refine wpAnyH_take (i := 13) (oi := ⟨_, _, _, _, _, _⟩) (v := ?_) rfl (by kernel_rfl) (by kernel_rfl) (by kernel_rfl) (fun _ _ _ h => h) (Or.inl ⟨by rfl, ?_⟩) (by assumption) ?_
                  rotate_left 1
                  · intro w hSw; go_simp <;> with_reducible rfl
                  (try simp only [Act.put]); (try simp only [List.setIfInBounds_toArray]); (try simp only [List.set_cons_succ]); (try simp only [List.set_cons_zero])
                  refine wpAnyH_ready (rs := [14]) (by kernel_rfl) (by simp) ?_
                  refine AllReadyH.cons (o := ⟨_, _, _, _, _, _⟩) rfl (fun K hK => ?_) AllReadyH.nil
                  · have f := hB.frozen 5
                    have c := hB.cell 5 (v := .slice af F.length cf) rfl
                    go_simp
                    clear f c
                    have J9 : Keeps w (V14.setCell ⟨w.heap.size, 5, none⟩ (.slice a3 F.length c3')) := keeps_set J (Nat.le_refl _) _ _
                    replace hr1 := hr1.set hB (by decide) 5 (.slice a3 F.length c3')
                    replace hr2 := hr2.set hB (by decide) 5 (.slice a3 F.length c3')
                    replace hr3 := hr3.set hB (by decide) 5 (.slice a3 F.length c3')
                    replace hZ := hZ.setOther (show w.heap.size + 1 ≠ w.heap.size by omega) 5 (.slice a3 F.length c3')
                    replace hB := hB.set 5 (.slice a3 F.length c3')
                    simp only [List.setIfInBounds_toArray, List.set_cons_succ, List.set_cons_zero] at hB
                    replace J := J9; clear J9
                    generalize V14.setCell ⟨w.heap.size, 5, none⟩ (.slice a3 F.length c3') = V15 at *
                    refine hK.out _ _ ?_ (fun hHeld => ?_)
                    · trivial
                    clear hK K
                    (try simp only [Act.put]); (try simp only [List.setIfInBounds_toArray]); (try simp only [List.set_cons_succ]); (try simp only [List.set_cons_zero])
                    refine wpAnyH_done (by kernel_rfl) ?_ _
                    obtain ⟨c0, c1, c2, c3, c4, c5⟩ := hB.c6
                    obtain ⟨g0, g1, g2, g3, g4, g5⟩ := hZ.f6
                    obtain ⟨d0, d1, d2, d3, d4, d5⟩ := hZ.c6
                    go_wp2_with fail
                    clear c0 c1 c2 c3 c4 c5 g0 g1 g2 g3 g4 g5 d0 d1 d2 d3 d4 d5
                    have KZ := keeps_set6 J (Nat.le_succ _) (.string nm) (.int .i64 kd) (.int .u16 (sv M)) (.slice a1 R.length c1') (.slice a2 Q.length c2') (.slice a3 F.length c3')
                    have RZ : RoG _ (⟨⟨nm, kd, M, R, Q, F⟩, a1, c1', a2, c2', a3, c3'⟩ : CA) := RoG.set6 (z := ⟨⟨nm, kd, M, R, Q, F⟩, a1, c1', a2, c2', a3, c3'⟩) ⟨hr1, hr2, hr3⟩ hZ (.string nm) (.int .i64 kd) (.int .u16 (sv M)) (.slice a1 R.length c1') (.slice a2 Q.length c2') (.slice a3 F.length c3')
                    have hZ6 := hZ.set6 (.string nm) (.int .i64 kd) (.int .u16 (sv M)) (.slice a1 R.length c1') (.slice a2 Q.length c2') (.slice a3 F.length c3')
                    refine bodyPost_ret (resCfg1 (z := ⟨⟨nm, kd, M, R, Q, F⟩, a1, c1', a2, c2', a3, c3'⟩) rfl hZ6 rfl) rfl ?_
                    exact ⟨⟨⟨nm, kd, M, R, Q, F⟩, a1, c1', a2, c2', a3, c3'⟩, rfl, rfl, RZ, KZ⟩
      · obtain ⟨c0, c1, c2, c3, c4, c5⟩ := hB.c6
        go_simp
        clear c0 c1 c2 c3 c4 c5
        refine hK.out _ _ ?_ (fun hHeld => ?_)
        · trivial
        clear hK K
        (try simp only [Act.put]); (try simp only [List.setIfInBounds_toArray]); (try simp only [List.set_cons_succ]); (try simp only [List.set_cons_zero])
        refine wpAnyH_ready (rs := [4]) (by kernel_rfl) (by simp) ?_
        refine AllReadyH.cons (o := ⟨_, _, _, _, _, _⟩) rfl (fun K hK => ?_) AllReadyH.nil
        · obtain ⟨c0, c1, c2, c3, c4, c5⟩ := hB.c6
          go_simp
          clear c0 c1 c2 c3 c4 c5
          refine hK.out _ _ ?_ (fun hHeld => ?_)
          · trivial
          clear hK K
          (try simp only [Act.put]); (try simp only [List.setIfInBounds_toArray]); (try simp only [List.set_cons_succ]); (try simp only [List.set_cons_zero])
          refine wpAnyH_take (i := 9) (oi := ⟨_, _, _, _, _, _⟩) (v := ?_) rfl (by kernel_rfl) (by kernel_rfl) (by kernel_rfl) (fun _ _ _ h => h) (Or.inl ⟨by rfl, ?_⟩) (by assumption) ?_
          rotate_left 1
          · intro w hSw; go_simp <;> with_reducible rfl
          (try simp only [Act.put]); (try simp only [List.setIfInBounds_toArray]); (try simp only [List.set_cons_succ]); (try simp only [List.set_cons_zero])
          refine wpAnyH_ready (rs := [5]) (by kernel_rfl) (by simp) ?_
          refine AllReadyH.cons (o := ⟨_, _, _, _, _, _⟩) rfl (fun K hK => ?_) AllReadyH.nil
          · go_simp
            refine (H2.out _ J).mono ?_
            rintro e V18 ⟨a2, c2', rfl, hr2, K9⟩
            replace hB := hB.keep K9; replace hZ := hZ.keep K9; replace J := J.trans K9
            replace hr1 := hr1.keep K9
            clear K9
            refine hK.out _ _ ?_ (fun hHeld => ?_)
            · trivial
            clear hK K
            (try simp only [Act.put]); (try simp only [List.setIfInBounds_toArray]); (try simp only [List.set_cons_succ]); (try simp only [List.set_cons_zero])
            refine wpAnyH_ready (rs := [8]) (by kernel_rfl) (by simp) ?_
            refine AllReadyH.cons (o := ⟨_, _, _, _, _, _⟩) rfl (fun K hK => ?_) AllReadyH.nil
            · go_simp
              refine (H3.out _ J).mono ?_
              rintro e V19 ⟨a3, c3', rfl, hr3, K9⟩
              replace hB := hB.keep K9; replace hZ := hZ.keep K9; replace J := J.trans K9
              replace hr1 := hr1.keep K9
              replace hr2 := hr2.keep K9
              clear K9
              refine hK.out _ _ ?_ (fun hHeld => ?_)
              · trivial
              clear hK K
              (try simp only [Act.put]); (try simp only [List.setIfInBounds_toArray]); (try simp only [List.set_cons_succ]); (try simp only [List.set_cons_zero])
              refine wpAnyH_ready (rs := [10]) (by kernel_rfl) (by simp) ?_
              refine AllReadyH.cons (o := ⟨_, _, _, _, _, _⟩) rfl (fun K hK => ?_) AllReadyH.nil
              · have f := hB.frozen 3
                have c := hB.cell 3 (v := .slice ar R.length cr) rfl
                go_simp
                clear f c
                have J9 : Keeps w (V19.setCell ⟨w.heap.size, 3, none⟩ (.slice a1 R.length c1')) := keeps_set J (Nat.le_refl _) _ _
                replace hr1 := hr1.set hB (by decide) 3 (.slice a1 R.length c1')
                replace hr2 := hr2.set hB (by decide) 3 (.slice a1 R.length c1')
                replace hr3 := hr3.set hB (by decide) 3 (.slice a1 R.length c1')
                replace hZ := hZ.setOther (show w.heap.size + 1 ≠ w.heap.size by omega) 3 (.slice a1 R.length c1')
                replace hB := hB.set 3 (.slice a1 R.length c1')
                simp only [List.setIfInBounds_toArray, List.set_cons_succ, List.set_cons_zero] at hB
                replace J := J9; clear J9
                generalize V19.setCell ⟨w.heap.size, 3, none⟩ (.slice a1 R.length c1') = V20 at *
                refine hK.out _ _ ?_ (fun hHeld => ?_)
                · trivial
                clear hK K
                (try simp only [Act.put]); (try simp only [List.setIfInBounds_toArray]); (try simp only [List.set_cons_succ]); (try simp only [List.set_cons_zero])
                refine wpAnyH_take (i := 11) (oi := ⟨_, _, _, _, _, _⟩) (v := ?_) rfl (by kernel_rfl) (by kernel_rfl) (by kernel_rfl) (fun _ _ _ h => h) (Or.inl ⟨by rfl, ?_⟩) (by assumption) ?_
                rotate_left 1
                · intro w hSw; go_simp <;> with_reducible rfl
                (try simp only [Act.put]); (try simp only [List.setIfInBounds_toArray]); (try simp only [List.set_cons_succ]); (try simp only [List.set_cons_zero])
                refine wpAnyH_ready (rs := [12]) (by kernel_rfl) (by simp) ?_
                refine AllReadyH.cons (o := ⟨_, _, _, _, _, _⟩) rfl (fun K hK => ?_) AllReadyH.nil
                · have f := hB.frozen 4
                  have c := hB.cell 4 (v := .slice aw Q.length cw) rfl
                  go_simp
                  clear f c
                  have J9 : Keeps w (V20.setCell ⟨w.heap.size, 4, none⟩ (.slice a2 Q.length c2')) := keeps_set J (Nat.le_refl _) _ _
                  replace hr1 := hr1.set hB (by decide) 4 (.slice a2 Q.length c2')
                  replace hr2 := hr2.set hB (by decide) 4 (.slice a2 Q.length c2')
                  replace hr3 := hr3.set hB (by decide) 4 (.slice a2 Q.length c2')
                  replace hZ := hZ.setOther (show w.heap.size + 1 ≠ w.heap.size by omega) 4 (.slice a2 Q.length c2')
                  replace hB := hB.set 4 (.slice a2 Q.length c2')
                  simp only [List.setIfInBounds_toArray, List.set_cons_succ, List.set_cons_zero] at hB
                  replace J := J9; clear J9
                  generalize V20.setCell ⟨w.heap.size, 4, none⟩ (.slice a2 Q.length c2') = V21 at *
                  refine hK.out _ _ ?_ (fun hHeld => ?_)
                  · trivial
                  clear hK K
                  (try simp only [Act.put]); (try simp only [List.setIfInBounds_toArray]); (try simp only [List.set_cons_succ]); (try simp only [List.set_cons_zero])
                  refine wpAnyH_take (i := 13) (oi := ⟨_, _, _, _, _, _⟩) (v := ?_) rfl (by kernel_rfl) (by kernel_rfl) (by kernel_rfl) (fun _ _ _ h => h) (Or.inl ⟨by rfl, ?_⟩) (by assumption) ?_
                  rotate_left 1
                  · intro w hSw; go_simp <;> with_reducible rfl
                  (try simp only [Act.put]); (try simp only [List.setIfInBounds_toArray]); (try simp only [List.set_cons_succ]); (try simp only [List.set_cons_zero])
                  refine wpAnyH_ready (rs := [14]) (by kernel_rfl) (by simp) ?_
                  refine AllReadyH.cons (o := ⟨_, _, _, _, _, _⟩) rfl (fun K hK => ?_) AllReadyH.nil
                  · have f := hB.frozen 5
                    have c := hB.cell 5 (v := .slice af F.length cf) rfl
                    go_simp
                    clear f c
                    have J9 : Keeps w (V21.setCell ⟨w.heap.size, 5, none⟩ (.slice a3 F.length c3')) := keeps_set J (Nat.le_refl _) _ _
                    replace hr1 := hr1.set hB (by decide) 5 (.slice a3 F.length c3')
                    replace hr2 := hr2.set hB (by decide) 5 (.slice a3 F.length c3')
                    replace hr3 := hr3.set hB (by decide) 5 (.slice a3 F.length c3')
                    replace hZ := hZ.setOther (show w.heap.size + 1 ≠ w.heap.size by omega) 5 (.slice a3 F.length c3')
                    replace hB := hB.set 5 (.slice a3 F.length c3')
                    simp only [List.setIfInBounds_toArray, List.set_cons_succ, List.set_cons_zero] at hB
                    replace J := J9; clear J9
                    generalize V21.setCell ⟨w.heap.size, 5, none⟩ (.slice a3 F.length c3') = V22 at *
                    refine hK.out _ _ ?_ (fun hHeld => ?_)
                    · trivial
                    clear hK K
                    (try simp only [Act.put]); (try simp only [List.setIfInBounds_toArray]); (try simp only [List.set_cons_succ]); (try simp only [List.set_cons_zero])
                    refine wpAnyH_done (by kernel_rfl) ?_ _
                    obtain ⟨c0, c1, c2, c3, c4, c5⟩ := hB.c6
                    obtain ⟨g0, g1, g2, g3, g4, g5⟩ := hZ.f6
                    obtain ⟨d0, d1, d2, d3, d4, d5⟩ := hZ.c6
                    go_wp2_with fail
                    clear c0 c1 c2 c3 c4 c5 g0 g1 g2 g3 g4 g5 d0 d1 d2 d3 d4 d5
                    have KZ := keeps_set6 J (Nat.le_succ _) (.string nm) (.int .i64 kd) (.int .u16 (sv M)) (.slice a1 R.length c1') (.slice a2 Q.length c2') (.slice a3 F.length c3')
                    have RZ : RoG _ (⟨⟨nm, kd, M, R, Q, F⟩, a1, c1', a2, c2', a3, c3'⟩ : CA) := RoG.set6 (z := ⟨⟨nm, kd, M, R, Q, F⟩, a1, c1', a2, c2', a3, c3'⟩) ⟨hr1, hr2, hr3⟩ hZ (.string nm) (.int .i64 kd) (.int .u16 (sv M)) (.slice a1 R.length c1') (.slice a2 Q.length c2') (.slice a3 F.length c3')
                    have hZ6 := hZ.set6 (.string nm) (.int .i64 kd) (.int .u16 (sv M)) (.slice a1 R.length c1') (.slice a2 Q.length c2') (.slice a3 F.length c3')
                    refine bodyPost_ret (resCfg1 (z := ⟨⟨nm, kd, M, R, Q, F⟩, a1, c1', a2, c2', a3, c3'⟩) rfl hZ6 rfl) rfl ?_
                    exact ⟨⟨⟨nm, kd, M, R, Q, F⟩, a1, c1', a2, c2', a3, c3'⟩, rfl, rfl, RZ, KZ⟩
    · obtain ⟨c0, c1, c2, c3, c4, c5⟩ := hB.c6
      go_simp
      clear c0 c1 c2 c3 c4 c5
      refine hK.out _ _ ?_ (fun hHeld => ?_)
      · trivial
      clear hK K
      (try simp only [Act.put]); (try simp only [List.setIfInBounds_toArray]); (try simp only [List.set_cons_succ]); (try simp only [List.set_cons_zero])
      refine wpAnyH_ready (rs := [2, 7]) (by kernel_rfl) (by simp) ?_
      refine AllReadyH.cons (o := ⟨_, _, _, _, _, _⟩) rfl (fun K hK => ?_) (AllReadyH.cons (o := ⟨_, _, _, _, _, _⟩) rfl (fun K hK => ?_) AllReadyH.nil)
      · go_simp
        refine (H1.out _ J).mono ?_
        rintro e V24 ⟨a1, c1', rfl, hr1, K9⟩
        replace hB := hB.keep K9; replace hZ := hZ.keep K9; replace J := J.trans K9
        clear K9
        refine hK.out _ _ ?_ (fun hHeld => ?_)
        · trivial
        clear hK K
        (try simp only [Act.put]); (try simp only [List.setIfInBounds_toArray]); (try simp only [List.set_cons_succ]); (try simp only [List.set_cons_zero])
        refine wpAnyH_ready (rs := [5, 7]) (by kernel_rfl) (by simp) ?_
        refine AllReadyH.cons (o := ⟨_, _, _, _, _, _⟩) rfl (fun K hK => ?_) (AllReadyH.cons (o := ⟨_, _, _, _, _, _⟩) rfl (fun K hK => ?_) AllReadyH.nil)
        · go_simp
          refine (H2.out _ J).mono ?_
          rintro e V25 ⟨a2, c2', rfl, hr2, K9⟩
          replace hB := hB.keep K9; replace hZ := hZ.keep K9; replace J := J.trans K9
          replace hr1 := hr1.keep K9
          clear K9
          refine hK.out _ _ ?_ (fun hHeld => ?_)
          · trivial
          clear hK K
          (try simp only [Act.put]); (try simp only [List.setIfInBounds_toArray]); (try simp only [List.set_cons_succ]); (try simp only [List.set_cons_zero])
          refine wpAnyH_ready (rs := [7]) (by kernel_rfl) (by simp) ?_
          refine AllReadyH.cons (o := ⟨_, _, _, _, _, _⟩) rfl (fun K hK => ?_) AllReadyH.nil
          · obtain ⟨c0, c1, c2, c3, c4, c5⟩ := hB.c6
            go_simp
            clear c0 c1 c2 c3 c4 c5
            refine hK.out _ _ ?_ (fun hHeld => ?_)
            · trivial
            clear hK K
            (try simp only [Act.put]); (try simp only [List.setIfInBounds_toArray]); (try simp only [List.set_cons_succ]); (try simp only [List.set_cons_zero])
            refine wpAnyH_take (i := 9) (oi := ⟨_, _, _, _, _, _⟩) (v := ?_) rfl (by kernel_rfl) (by kernel_rfl) (by kernel_rfl) (fun _ _ _ h => h) (Or.inl ⟨by rfl, ?_⟩) (by assumption) ?_
            rotate_left 1
            · intro w hSw; go_simp <;> with_reducible rfl
            (try simp only [Act.put]); (try simp only [List.setIfInBounds_toArray]); (try simp only [List.set_cons_succ]); (try simp only [List.set_cons_zero])
            refine wpAnyH_ready (rs := [8]) (by kernel_rfl) (by simp) ?_
            refine AllReadyH.cons (o := ⟨_, _, _, _, _, _⟩) rfl (fun K hK => ?_) AllReadyH.nil
            · go_simp
              refine (H3.out _ J).mono ?_
              rintro e V27 ⟨a3, c3', rfl, hr3, K9⟩
              replace hB := hB.keep K9; replace hZ := hZ.keep K9; replace J := J.trans K9
              replace hr1 := hr1.keep K9
              replace hr2 := hr2.keep K9
              clear K9
              refine hK.out _ _ ?_ (fun hHeld => ?_)
              · trivial
              clear hK K
              (try simp only [Act.put]); (try simp only [List.setIfInBounds_toArray]); (try simp only [List.set_cons_succ]); (try simp only [List.set_cons_zero])
              refine wpAnyH_ready (rs := [10]) (by kernel_rfl) (by simp) ?_
              refine AllReadyH.cons (o := ⟨_, _, _, _, _, _⟩) rfl (fun K hK => ?_) AllReadyH.nil
              · have f := hB.frozen 3
                have c := hB.cell 3 (v := .slice ar R.length cr) rfl
                go_simp
                clear f c
                have J9 : Keeps w (V27.setCell ⟨w.heap.size, 3, none⟩ (.slice a1 R.length c1')) := keeps_set J (Nat.le_refl _) _ _
                replace hr1 := hr1.set hB (by decide) 3 (.slice a1 R.length c1')
                replace hr2 := hr2.set hB (by decide) 3 (.slice a1 R.length c1')
                replace hr3 := hr3.set hB (by decide) 3 (.slice a1 R.length c1')
                replace hZ := hZ.setOther (show w.heap.size + 1 ≠ w.heap.size by omega) 3 (.slice a1 R.length c1')
                replace hB := hB.set 3 (.slice a1 R.length c1')
                simp only [List.setIfInBounds_toArray, List.set_cons_succ, List.set_cons_zero] at hB
                replace J := J9; clear J9
                generalize V27.setCell ⟨w.heap.size, 3, none⟩ (.slice a1 R.length c1') = V28 at *
                refine hK.out _ _ ?_ (fun hHeld => ?_)
                · trivial
                clear hK K
                (try simp only [Act.put]); (try simp only [List.setIfInBounds_toArray]); (try simp only [List.set_cons_succ]); (try simp only [List.set_cons_zero])
                refine wpAnyH_take (i := 11) (oi := ⟨_, _, _, _, _, _⟩) (v := ?_) rfl (by kernel_rfl) (by kernel_rfl) (by kernel_rfl) (fun _ _ _ h => h) (Or.inl ⟨by rfl, ?_⟩) (by assumption) ?_
                rotate_left 1
                · intro w hSw; go_simp <;> with_reducible rfl
                (try simp only [Act.put]); (try simp only [List.setIfInBounds_toArray]); (try simp only [List.set_cons_succ]); (try simp only [List.set_cons_zero])
                refine wpAnyH_ready (rs := [12]) (by kernel_rfl) (by simp) ?_
                refine AllReadyH.cons (o := ⟨_, _, _, _, _, _⟩) rfl (fun K hK => ?_) AllReadyH.nil
                · have f := hB.frozen 4
                  have c := hB.cell 4 (v := .slice aw Q.length cw) rfl
                  go_simp
                  clear f c
                  have J9 : Keeps w (V28.setCell ⟨w.heap.size, 4, none⟩ (.slice a2 Q.length c2')) := keeps_set J (Nat.le_refl _) _ _
                  replace hr1 := hr1.set hB (by decide) 4 (.slice a2 Q.length c2')
                  replace hr2 := hr2.set hB (by decide) 4 (.slice a2 Q.length c2')
                  replace hr3 := hr3.set hB (by decide) 4 (.slice a2 Q.length c2')
                  replace hZ := hZ.setOther (show w.heap.size + 1 ≠ w.heap.size by omega) 4 (.slice a2 Q.length c2')
                  replace hB := hB.set 4 (.slice a2 Q.length c2')
                  simp only [List.setIfInBounds_toArray, List.set_cons_succ, List.set_cons_zero] at hB
                  replace J := J9; clear J9
                  generalize V28.setCell ⟨w.heap.size, 4, none⟩ (.slice a2 Q.length c2') = V29 at *
                  refine hK.out _ _ ?_ (fun hHeld => ?_)
                  · trivial
                  clear hK K
                  (try simp only [Act.put]); (try simp only [List.setIfInBounds_toArray]); (try simp only [List.set_cons_succ]); (try simp only [List.set_cons_zero])
                  refine wpAnyH_take (i := 13) (oi := ⟨_, _, _, _, _, _⟩) (v := ?_) rfl (by kernel_rfl) (by kernel_rfl) (by kernel_rfl) (fun _ _ _ h => h) (Or.inl ⟨by rfl, ?_⟩) (by assumption) ?_
                  rotate_left 1
                  · intro w hSw; go_simp <;> with_reducible rfl
                  (try simp only [Act.put]); (try simp only [List.setIfInBounds_toArray]); (try simp only [List.set_cons_succ]); (try simp only [List.set_cons_zero])
                  refine wpAnyH_ready (rs := [14]) (by kernel_rfl) (by simp) ?_
                  refine AllReadyH.cons (o := ⟨_, _, _, _, _, _⟩) rfl (fun K hK => ?_) AllReadyH.nil
                  · have f := hB.frozen 5
                    have c := hB.cell 5 (v := .slice af F.length cf) rfl
                    go_simp
                    clear f c
                    have J9 : Keeps w (V29.setCell ⟨w.heap.size, 5, none⟩ (.slice a3 F.length c3')) := keeps_set J (Nat.le_refl _) _ _
                    replace hr1 := hr1.set hB (by decide) 5 (.slice a3 F.length c3')
                    replace hr2 := hr2.set hB (by decide) 5 (.slice a3 F.length c3')
                    replace hr3 := hr3.set hB (by decide) 5 (.slice a3 F.length c3')
                    replace hZ := hZ.setOther (show w.heap.size + 1 ≠ w.heap.size by omega) 5 (.slice a3 F.length c3')
                    replace hB := hB.set 5 (.slice a3 F.length c3')
                    simp only [List.setIfInBounds_toArray, List.set_cons_succ, List.set_cons_zero] at hB
                    replace J := J9; clear J9
                    generalize V29.setCell ⟨w.heap.size, 5, none⟩ (.slice a3 F.length c3') = V30 at *
                    refine hK.out _ _ ?_ (fun hHeld => ?_)
                    · trivial
                    clear hK K
                    (try simp only [Act.put]); (try simp only [List.setIfInBounds_toArray]); (try simp only [List.set_cons_succ]); (try simp only [List.set_cons_zero])
                    refine wpAnyH_done (by kernel_rfl) ?_ _
                    obtain ⟨c0, c1, c2, c3, c4, c5⟩ := hB.c6
                    obtain ⟨g0, g1, g2, g3, g4, g5⟩ := hZ.f6
                    obtain ⟨d0, d1, d2, d3, d4, d5⟩ := hZ.c6
                    go_wp2_with fail
                    clear c0 c1 c2 c3 c4 c5 g0 g1 g2 g3 g4 g5 d0 d1 d2 d3 d4 d5
                    have KZ := keeps_set6 J (Nat.le_succ _) (.string nm) (.int .i64 kd) (.int .u16 (sv M)) (.slice a1 R.length c1') (.slice a2 Q.length c2') (.slice a3 F.length c3')
                    have RZ : RoG _ (⟨⟨nm, kd, M, R, Q, F⟩, a1, c1', a2, c2', a3, c3'⟩ : CA) := RoG.set6 (z := ⟨⟨nm, kd, M, R, Q, F⟩, a1, c1', a2, c2', a3, c3'⟩) ⟨hr1, hr2, hr3⟩ hZ (.string nm) (.int .i64 kd) (.int .u16 (sv M)) (.slice a1 R.length c1') (.slice a2 Q.length c2') (.slice a3 F.length c3')
                    have hZ6 := hZ.set6 (.string nm) (.int .i64 kd) (.int .u16 (sv M)) (.slice a1 R.length c1') (.slice a2 Q.length c2') (.slice a3 F.length c3')
                    refine bodyPost_ret (resCfg1 (z := ⟨⟨nm, kd, M, R, Q, F⟩, a1, c1', a2, c2', a3, c3'⟩) rfl hZ6 rfl) rfl ?_
                    exact ⟨⟨⟨nm, kd, M, R, Q, F⟩, a1, c1', a2, c2', a3, c3'⟩, rfl, rfl, RZ, KZ⟩
        · obtain ⟨c0, c1, c2, c3, c4, c5⟩ := hB.c6
          go_simp
          clear c0 c1 c2 c3 c4 c5
          refine hK.out _ _ ?_ (fun hHeld => ?_)
          · trivial
          clear hK K
          (try simp only [Act.put]); (try simp only [List.setIfInBounds_toArray]); (try simp only [List.set_cons_succ]); (try simp only [List.set_cons_zero])
          refine wpAnyH_take (i := 9) (oi := ⟨_, _, _, _, _, _⟩) (v := ?_) rfl (by kernel_rfl) (by kernel_rfl) (by kernel_rfl) (fun _ _ _ h => h) (Or.inl ⟨by rfl, ?_⟩) (by assumption) ?_
          rotate_left 1
          · intro w hSw; go_simp <;> with_reducible rfl
          (try simp only [Act.put]); (try simp only [List.setIfInBounds_toArray]); (try simp only [List.set_cons_succ]); (try simp only [List.set_cons_zero])
          refine wpAnyH_ready (rs := [5]) (by kernel_rfl) (by simp) ?_
          refine AllReadyH.cons (o := ⟨_, _, _, _, _, _⟩) rfl (fun K hK => ?_) AllReadyH.nil
          · go_simp
            refine (H2.out _ J).mono ?_
            rintro e V32 ⟨a2, c2', rfl, hr2, K9⟩
            replace hB := hB.keep K9; replace hZ := hZ.keep K9; replace J := J.trans K9
            replace hr1 := hr1.keep K9
            clear K9
            refine hK.out _ _ ?_ (fun hHeld => ?_)
            · trivial
            clear hK K
            (try simp only [Act.put]); (try simp only [List.setIfInBounds_toArray]); (try simp only [List.set_cons_succ]); (try simp only [List.set_cons_zero])
            refine wpAnyH_ready (rs := [8]) (by kernel_rfl) (by simp) ?_
            refine AllReadyH.cons (o := ⟨_, _, _, _, _, _⟩) rfl (fun K hK => ?_) AllReadyH.nil
            · go_simp
              refine (H3.out _ J).mono ?_
              rintro e V33 ⟨a3, c3', rfl, hr3, K9⟩
              replace hB := hB.keep K9; replace hZ := hZ.keep K9; replace J := J.trans K9
              replace hr1 := hr1.keep K9
              replace hr2 := hr2.keep K9
              clear K9
              refine hK.out _ _ ?_ (fun hHeld => ?_)
              · trivial
              clear hK K
              (try simp only [Act.put]); (try simp only [List.setIfInBounds_toArray]); (try simp only [List.set_cons_succ]); (try simp only [List.set_cons_zero])
              refine wpAnyH_ready (rs := [10]) (by kernel_rfl) (by simp) ?_
              refine AllReadyH.cons (o := ⟨_, _, _, _, _, _⟩) rfl (fun K hK => ?_) AllReadyH.nil
              · have f := hB.frozen 3
                have c := hB.cell 3 (v := .slice ar R.length cr) rfl
                go_simp
                clear f c
                have J9 : Keeps w (V33.setCell ⟨w.heap.size, 3, none⟩ (.slice a1 R.length c1')) := keeps_set J (Nat.le_refl _) _ _
                replace hr1 := hr1.set hB (by decide) 3 (.slice a1 R.length c1')
                replace hr2 := hr2.set hB (by decide) 3 (.slice a1 R.length c1')
                replace hr3 := hr3.set hB (by decide) 3 (.slice a1 R.length c1')
                replace hZ := hZ.setOther (show w.heap.size + 1 ≠ w.heap.size by omega) 3 (.slice a1 R.length c1')
                replace hB := hB.set 3 (.slice a1 R.length c1')
                simp only [List.setIfInBounds_toArray, List.set_cons_succ, List.set_cons_zero] at hB
                replace J := J9; clear J9
                generalize V33.setCell ⟨w.heap.size, 3, none⟩ (.slice a1 R.length c1') = V34 at *
                refine hK.out _ _ ?_ (fun hHeld => ?_)
                · trivial
                clear hK K
                (try simp only [Act.put]); (try simp only [List.setIfInBounds_toArray]); (try simp only [List.set_cons_succ]); (try simp only [List.set_cons_zero])
                refine wpAnyH_take (i := 11) (oi := ⟨_, _, _, _, _, _⟩) (v := ?_) rfl (by kernel_rfl) (by kernel_rfl) (by kernel_rfl) (fun _ _ _ h => h) (Or.inl ⟨by rfl, ?_⟩) (by assumption) ?_
                rotate_left 1
                · intro w hSw; go_simp <;> with_reducible rfl
                (try simp only [Act.put]); (try simp only [List.setIfInBounds_toArray]); (try simp only [List.set_cons_succ]); (try simp only [List.set_cons_zero])
                refine wpAnyH_ready (rs := [12]) (by kernel_rfl) (by simp) ?_
                refine AllReadyH.cons (o := ⟨_, _, _, _, _, _⟩) rfl (fun K hK => ?_) AllReadyH.nil
                · have f := hB.frozen 4
                  have c := hB.cell 4 (v := .slice aw Q.length cw) rfl
                  go_simp
                  clear f c
                  have J9 : Keeps w (V34.setCell ⟨w.heap.size, 4, none⟩ (.slice a2 Q.length c2')) := keeps_set J (Nat.le_refl _) _ _
                  replace hr1 := hr1.set hB (by decide) 4 (.slice a2 Q.length c2')
                  replace hr2 := hr2.set hB (by decide) 4 (.slice a2 Q.length c2')
                  replace hr3 := hr3.set hB (by decide) 4 (.slice a2 Q.length c2')
                  replace hZ := hZ.setOther (show w.heap.size + 1 ≠ w.heap.size by omega) 4 (.slice a2 Q.length c2')
                  replace hB := hB.set 4 (.slice a2 Q.length c2')
                  simp only [List.setIfInBounds_toArray, List.set_cons_succ, List.set_cons_zero] at hB
                  replace J := J9; clear J9
                  generalize V34.setCell ⟨w.heap.size, 4, none⟩ (.slice a2 Q.length c2') = V35 at *
                  refine hK.out _ _ ?_ (fun hHeld => ?_)
                  · trivial
                  clear hK K
                  (try simp only [Act.put]); (try simp only [List.setIfInBounds_toArray]); (try simp only [List.set_cons_succ]); (try simp only [List.set_cons_zero])
                  refine wpAnyH_take (i := 13) (oi := ⟨_, _, _, _, _, _⟩) (v := ?_) rfl (by kernel_rfl) (by kernel_rfl) (by kernel_rfl) (fun _ _ _ h => h) (Or.inl ⟨by rfl, ?_⟩) (by assumption) ?_
                  rotate_left 1
                  · intro w hSw; go_simp <;> with_reducible rfl
                  (try simp only [Act.put]); (try simp only [List.setIfInBounds_toArray]); (try simp only [List.set_cons_succ]); (try simp only [List.set_cons_zero])
                  refine wpAnyH_ready (rs := [14]) (by kernel_rfl) (by simp) ?_
                  refine AllReadyH.cons (o := ⟨_, _, _, _, _, _⟩) rfl (fun K hK => ?_) AllReadyH.nil
                  · have f := hB.frozen 5
                    have c := hB.cell 5 (v := .slice af F.length cf) rfl
                    go_simp
                    clear f c
                    have J9 : Keeps w (V35.setCell ⟨w.heap.size, 5, none⟩ (.slice a3 F.length c3')) := keeps_set J (Nat.le_refl _) _ _
                    replace hr1 := hr1.set hB (by decide) 5 (.slice a3 F.length c3')
                    replace hr2 := hr2.set hB (by decide) 5 (.slice a3 F.length c3')
                    replace hr3 := hr3.set hB (by decide) 5 (.slice a3 F.length c3')
                    replace hZ := hZ.setOther (show w.heap.size + 1 ≠ w.heap.size by omega) 5 (.slice a3 F.length c3')
                    replace hB := hB.set 5 (.slice a3 F.length c3')
                    simp only [List.setIfInBounds_toArray, List.set_cons_succ, List.set_cons_zero] at hB
                    replace J := J9; clear J9
                    generalize V35.setCell ⟨w.heap.size, 5, none⟩ (.slice a3 F.length c3') = V36 at *
                    refine hK.out _ _ ?_ (fun hHeld => ?_)
                    · trivial
                    clear hK K
                    (try simp only [Act.put]); (try simp only [List.setIfInBounds_toArray]); (try simp only [List.set_cons_succ]); (try simp only [List.set_cons_zero])
                    refine wpAnyH_done (by kernel_rfl) ?_ _
                    obtain ⟨c0, c1, c2, c3, c4, c5⟩ := hB.c6
                    obtain ⟨g0, g1, g2, g3, g4, g5⟩ := hZ.f6
                    obtain ⟨d0, d1, d2, d3, d4, d5⟩ := hZ.c6
                    go_wp2_with fail
                    clear c0 c1 c2 c3 c4 c5 g0 g1 g2 g3 g4 g5 d0 d1 d2 d3 d4 d5
                    have KZ := keeps_set6 J (Nat.le_succ _) (.string nm) (.int .i64 kd) (.int .u16 (sv M)) (.slice a1 R.length c1') (.slice a2 Q.length c2') (.slice a3 F.length c3')
                    have RZ : RoG _ (⟨⟨nm, kd, M, R, Q, F⟩, a1, c1', a2, c2', a3, c3'⟩ : CA) := RoG.set6 (z := ⟨⟨nm, kd, M, R, Q, F⟩, a1, c1', a2, c2', a3, c3'⟩) ⟨hr1, hr2, hr3⟩ hZ (.string nm) (.int .i64 kd) (.int .u16 (sv M)) (.slice a1 R.length c1') (.slice a2 Q.length c2') (.slice a3 F.length c3')
                    have hZ6 := hZ.set6 (.string nm) (.int .i64 kd) (.int .u16 (sv M)) (.slice a1 R.length c1') (.slice a2 Q.length c2') (.slice a3 F.length c3')
                    refine bodyPost_ret (resCfg1 (z := ⟨⟨nm, kd, M, R, Q, F⟩, a1, c1', a2, c2', a3, c3'⟩) rfl hZ6 rfl) rfl ?_
                    exact ⟨⟨⟨nm, kd, M, R, Q, F⟩, a1, c1', a2, c2', a3, c3'⟩, rfl, rfl, RZ, KZ⟩
      · obtain ⟨c0, c1, c2, c3, c4, c5⟩ := hB.c6
        go_simp
        clear c0 c1 c2 c3 c4 c5
        refine hK.out _ _ ?_ (fun hHeld => ?_)
        · trivial
        clear hK K
        (try simp only [Act.put]); (try simp only [List.setIfInBounds_toArray]); (try simp only [List.set_cons_succ]); (try simp only [List.set_cons_zero])
        refine wpAnyH_ready (rs := [2]) (by kernel_rfl) (by simp) ?_
        refine AllReadyH.cons (o := ⟨_, _, _, _, _, _⟩) rfl (fun K hK => ?_) AllReadyH.nil
        · go_simp
          refine (H1.out _ J).mono ?_
          rintro e V38 ⟨a1, c1', rfl, hr1, K9⟩
          replace hB := hB.keep K9; replace hZ := hZ.keep K9; replace J := J.trans K9
          clear K9
          refine hK.out _ _ ?_ (fun hHeld => ?_)
          · trivial
          clear hK K
          (try simp only [Act.put]); (try simp only [List.setIfInBounds_toArray]); (try simp only [List.set_cons_succ]); (try simp only [List.set_cons_zero])
          refine wpAnyH_take (i := 9) (oi := ⟨_, _, _, _, _, _⟩) (v := ?_) rfl (by kernel_rfl) (by kernel_rfl) (by kernel_rfl) (fun _ _ _ h => h) (Or.inl ⟨by rfl, ?_⟩) (by assumption) ?_
          rotate_left 1
          · intro w hSw; go_simp <;> with_reducible rfl
          (try simp only [Act.put]); (try simp only [List.setIfInBounds_toArray]); (try simp only [List.set_cons_succ]); (try simp only [List.set_cons_zero])
          refine wpAnyH_ready (rs := [5]) (by kernel_rfl) (by simp) ?_
          refine AllReadyH.cons (o := ⟨_, _, _, _, _, _⟩) rfl (fun K hK => ?_) AllReadyH.nil
          · go_simp
            refine (H2.out _ J).mono ?_
            rintro e V39 ⟨a2, c2', rfl, hr2, K9⟩
            replace hB := hB.keep K9; replace hZ := hZ.keep K9; replace J := J.trans K9
            replace hr1 := hr1.keep K9
            clear K9
            refine hK.out _ _ ?_ (fun hHeld => ?_)
            · trivial
            clear hK K
            (try simp only [Act.put]); (try simp only [List.setIfInBounds_toArray]); (try simp only [List.set_cons_succ]); (try simp only [List.set_cons_zero])
            refine wpAnyH_ready (rs := [8]) (by kernel_rfl) (by simp) ?_
            refine AllReadyH.cons (o := ⟨_, _, _, _, _, _⟩) rfl (fun K hK => ?_) AllReadyH.nil
            · go_simp
              refine (H3.out _ J).mono ?_
              rintro e V40 ⟨a3, c3', rfl, hr3, K9⟩
              replace hB := hB.keep K9; replace hZ := hZ.keep K9; replace J := J.trans K9
              replace hr1 := hr1.keep K9
              replace hr2 := hr2.keep K9
              clear K9
              refine hK.out _ _ ?_ (fun hHeld => ?_)
              · trivial
              clear hK K
              (try simp only [Act.put]); (try simp only [List.setIfInBounds_toArray]); (try simp only [List.set_cons_succ]); (try simp only [List.set_cons_zero])
              refine wpAnyH_ready (rs := [10]) (by kernel_rfl) (by simp) ?_
              refine AllReadyH.cons (o := ⟨_, _, _, _, _, _⟩) rfl (fun K hK => ?_) AllReadyH.nil
              · have f := hB.frozen 3
                have c := hB.cell 3 (v := .slice ar R.length cr) rfl
                go_simp
                clear f c
                have J9 : Keeps w (V40.setCell ⟨w.heap.size, 3, none⟩ (.slice a1 R.length c1')) := keeps_set J (Nat.le_refl _) _ _
                replace hr1 := hr1.set hB (by decide) 3 (.slice a1 R.length c1')
                replace hr2 := hr2.set hB (by decide) 3 (.slice a1 R.length c1')
                replace hr3 := hr3.set hB (by decide) 3 (.slice a1 R.length c1')
                replace hZ := hZ.setOther (show w.heap.size + 1 ≠ w.heap.size by omega) 3 (.slice a1 R.length c1')
                replace hB := hB.set 3 (.slice a1 R.length c1')
                simp only [List.setIfInBounds_toArray, List.set_cons_succ, List.set_cons_zero] at hB
                replace J := J9; clear J9
                generalize V40.setCell ⟨w.heap.size, 3, none⟩ (.slice a1 R.length c1') = V41 at *
                refine hK.out _ _ ?_ (fun hHeld => ?_)
                · trivial
                clear hK K
                (try simp only [Act.put]); (try simp only [List.setIfInBounds_toArray]); (try simp only [List.set_cons_succ]); (try simp only [List.set_cons_zero])
                refine wpAnyH_take (i := 11) (oi := ⟨_, _, _, _, _, _⟩) (v := ?_) rfl (by kernel_rfl) (by kernel_rfl) (by kernel_rfl) (fun _ _ _ h => h) (Or.inl ⟨by rfl, ?_⟩) (by assumption) ?_
                rotate_left 1
                · intro w hSw; go_simp <;> with_reducible rfl
                (try simp only [Act.put]); (try simp only [List.setIfInBounds_toArray]); (try simp only [List.set_cons_succ]); (try simp only [List.set_cons_zero])
                refine wpAnyH_ready (rs := [12]) (by kernel_rfl) (by simp) ?_
                refine AllReadyH.cons (o := ⟨_, _, _, _, _, _⟩) rfl (fun K hK => ?_) AllReadyH.nil
                · have f := hB.frozen 4
                  have c := hB.cell 4 (v := .slice aw Q.length cw) rfl
                  go_simp
                  clear f c
                  have J9 : Keeps w (V41.setCell ⟨w.heap.size, 4, none⟩ (.slice a2 Q.length c2')) := keeps_set J (Nat.le_refl _) _ _
                  replace hr1 := hr1.set hB (by decide) 4 (.slice a2 Q.length c2')
                  replace hr2 := hr2.set hB (by decide) 4 (.slice a2 Q.length c2')
                  replace hr3 := hr3.set hB (by decide) 4 (.slice a2 Q.length c2')
                  replace hZ := hZ.setOther (show w.heap.size + 1 ≠ w.heap.size by omega) 4 (.slice a2 Q.length c2')
                  replace hB := hB.set 4 (.slice a2 Q.length c2')
                  simp only [List.setIfInBounds_toArray, List.set_cons_succ, List.set_cons_zero] at hB
                  replace J := J9; clear J9
                  generalize V41.setCell ⟨w.heap.size, 4, none⟩ (.slice a2 Q.length c2') = V42 at *
                  refine hK.out _ _ ?_ (fun hHeld => ?_)
                  · trivial
                  clear hK K
                  (try simp only [Act.put]); (try simp only [List.setIfInBounds_toArray]); (try simp only [List.set_cons_succ]); (try simp only [List.set_cons_zero])
                  refine wpAnyH_take (i := 13) (oi := ⟨_, _, _, _, _, _⟩) (v := ?_) rfl (by kernel_rfl) (by kernel_rfl) (by kernel_rfl) (fun _ _ _ h => h) (Or.inl ⟨by rfl, ?_⟩) (by assumption) ?_
                  rotate_left 1
                  · intro w hSw; go_simp <;> with_reducible rfl
                  (try simp only [Act.put]); (try simp only [List.setIfInBounds_toArray]); (try simp only [List.set_cons_succ]); (try simp only [List.set_cons_zero])
                  refine wpAnyH_ready (rs := [14]) (by kernel_rfl) (by simp) ?_
                  refine AllReadyH.cons (o := ⟨_, _, _, _, _, _⟩) rfl (fun K hK => ?_) AllReadyH.nil
                  · have f := hB.frozen 5
                    have c := hB.cell 5 (v := .slice af F.length cf) rfl
                    go_simp
                    clear f c
                    have J9 : Keeps w (V42.setCell ⟨w.heap.size, 5, none⟩ (.slice a3 F.length c3')) := keeps_set J (Nat.le_refl _) _ _
                    replace hr1 := hr1.set hB (by decide) 5 (.slice a3 F.length c3')
                    replace hr2 := hr2.set hB (by decide) 5 (.slice a3 F.length c3')
                    replace hr3 := hr3.set hB (by decide) 5 (.slice a3 F.length c3')
                    replace hZ := hZ.setOther (show w.heap.size + 1 ≠ w.heap.size by omega) 5 (.slice a3 F.length c3')
                    replace hB := hB.set 5 (.slice a3 F.length c3')
                    simp only [List.setIfInBounds_toArray, List.set_cons_succ, List.set_cons_zero] at hB
                    replace J := J9; clear J9
                    generalize V42.setCell ⟨w.heap.size, 5, none⟩ (.slice a3 F.length c3') = V43 at *
                    refine hK.out _ _ ?_ (fun hHeld => ?_)
                    · trivial
                    clear hK K
                    (try simp only [Act.put]); (try simp only [List.setIfInBounds_toArray]); (try simp only [List.set_cons_succ]); (try simp only [List.set_cons_zero])
                    refine wpAnyH_done (by kernel_rfl) ?_ _
                    obtain ⟨c0, c1, c2, c3, c4, c5⟩ := hB.c6
                    obtain ⟨g0, g1, g2, g3, g4, g5⟩ := hZ.f6
                    obtain ⟨d0, d1, d2, d3, d4, d5⟩ := hZ.c6
                    go_wp2_with fail
                    clear c0 c1 c2 c3 c4 c5 g0 g1 g2 g3 g4 g5 d0 d1 d2 d3 d4 d5
                    have KZ := keeps_set6 J (Nat.le_succ _) (.string nm) (.int .i64 kd) (.int .u16 (sv M)) (.slice a1 R.length c1') (.slice a2 Q.length c2') (.slice a3 F.length c3')
                    have RZ : RoG _ (⟨⟨nm, kd, M, R, Q, F⟩, a1, c1', a2, c2', a3, c3'⟩ : CA) := RoG.set6 (z := ⟨⟨nm, kd, M, R, Q, F⟩, a1, c1', a2, c2', a3, c3'⟩) ⟨hr1, hr2, hr3⟩ hZ (.string nm) (.int .i64 kd) (.int .u16 (sv M)) (.slice a1 R.length c1') (.slice a2 Q.length c2') (.slice a3 F.length c3')
                    have hZ6 := hZ.set6 (.string nm) (.int .i64 kd) (.int .u16 (sv M)) (.slice a1 R.length c1') (.slice a2 Q.length c2') (.slice a3 F.length c3')
                    refine bodyPost_ret (resCfg1 (z := ⟨⟨nm, kd, M, R, Q, F⟩, a1, c1', a2, c2', a3, c3'⟩) rfl hZ6 rfl) rfl ?_
                    exact ⟨⟨⟨nm, kd, M, R, Q, F⟩, a1, c1', a2, c2', a3, c3'⟩, rfl, rfl, RZ, KZ⟩
    · obtain ⟨c0, c1, c2, c3, c4, c5⟩ := hB.c6
      go_simp
      clear c0 c1 c2 c3 c4 c5
      refine hK.out _ _ ?_ (fun hHeld => ?_)
      · trivial
      clear hK K
      (try simp only [Act.put]); (try simp only [List.setIfInBounds_toArray]); (try simp only [List.set_cons_succ]); (try simp only [List.set_cons_zero])
      refine wpAnyH_ready (rs := [2, 4]) (by kernel_rfl) (by simp) ?_
      refine AllReadyH.cons (o := ⟨_, _, _, _, _, _⟩) rfl (fun K hK => ?_) (AllReadyH.cons (o := ⟨_, _, _, _, _, _⟩) rfl (fun K hK => ?_) AllReadyH.nil)
      · go_simp
        refine (H1.out _ J).mono ?_
        rintro e V45 ⟨a1, c1', rfl, hr1, K9⟩
        replace hB := hB.keep K9; replace hZ := hZ.keep K9; replace J := J.trans K9
        clear K9
        refine hK.out _ _ ?_ (fun hHeld => ?_)
        · trivial
        clear hK K
        (try simp only [Act.put]); (try simp only [List.setIfInBounds_toArray]); (try simp only [List.set_cons_succ]); (try simp only [List.set_cons_zero])
        refine wpAnyH_ready (rs := [4]) (by kernel_rfl) (by simp) ?_
        refine AllReadyH.cons (o := ⟨_, _, _, _, _, _⟩) rfl (fun K hK => ?_) AllReadyH.nil
        · obtain ⟨c0, c1, c2, c3, c4, c5⟩ := hB.c6
          go_simp
          clear c0 c1 c2 c3 c4 c5
          refine hK.out _ _ ?_ (fun hHeld => ?_)
          · trivial
          clear hK K
          (try simp only [Act.put]); (try simp only [List.setIfInBounds_toArray]); (try simp only [List.set_cons_succ]); (try simp only [List.set_cons_zero])
          refine wpAnyH_take (i := 9) (oi := ⟨_, _, _, _, _, _⟩) (v := ?_) rfl (by kernel_rfl) (by kernel_rfl) (by kernel_rfl) (fun _ _ _ h => h) (Or.inl ⟨by rfl, ?_⟩) (by assumption) ?_
          rotate_left 1
          · intro w hSw; go_simp <;> with_reducible rfl
          (try simp only [Act.put]); (try simp only [List.setIfInBounds_toArray]); (try simp only [List.set_cons_succ]); (try simp only [List.set_cons_zero])
          refine wpAnyH_ready (rs := [5]) (by kernel_rfl) (by simp) ?_
          refine AllReadyH.cons (o := ⟨_, _, _, _, _, _⟩) rfl (fun K hK => ?_) AllReadyH.nil
          · go_simp
            refine (H2.out _ J).mono ?_
            rintro e V47 ⟨a2, c2', rfl, hr2, K9⟩
            replace hB := hB.keep K9; replace hZ := hZ.keep K9; replace J := J.trans K9
            replace hr1 := hr1.keep K9
            clear K9
            refine hK.out _ _ ?_ (fun hHeld => ?_)
            · trivial
            clear hK K
            (try simp only [Act.put]); (try simp only [List.setIfInBounds_toArray]); (try simp only [List.set_cons_succ]); (try simp only [List.set_cons_zero])
            refine wpAnyH_ready (rs := [8]) (by kernel_rfl) (by simp) ?_
            refine AllReadyH.cons (o := ⟨_, _, _, _, _, _⟩) rfl (fun K hK => ?_) AllReadyH.nil
            · go_simp
              refine (H3.out _ J).mono ?_
              rintro e V48 ⟨a3, c3', rfl, hr3, K9⟩
              replace hB := hB.keep K9; replace hZ := hZ.keep K9; replace J := J.trans K9
              replace hr1 := hr1.keep K9
              replace hr2 := hr2.keep K9
              clear K9
              refine hK.out _ _ ?_ (fun hHeld => ?_)
              · trivial
              clear hK K
              (try simp only [Act.put]); (try simp only [List.setIfInBounds_toArray]); (try simp only [List.set_cons_succ]); (try simp only [List.set_cons_zero])
              refine wpAnyH_ready (rs := [10]) (by kernel_rfl) (by simp) ?_
              refine AllReadyH.cons (o := ⟨_, _, _, _, _, _⟩) rfl (fun K hK => ?_) AllReadyH.nil
              · have f := hB.frozen 3
                have c := hB.cell 3 (v := .slice ar R.length cr) rfl
                go_simp
                clear f c
                have J9 : Keeps w (V48.setCell ⟨w.heap.size, 3, none⟩ (.slice a1 R.length c1')) := keeps_set J (Nat.le_refl _) _ _
                replace hr1 := hr1.set hB (by decide) 3 (.slice a1 R.length c1')
                replace hr2 := hr2.set hB (by decide) 3 (.slice a1 R.length c1')
                replace hr3 := hr3.set hB (by decide) 3 (.slice a1 R.length c1')
                replace hZ := hZ.setOther (show w.heap.size + 1 ≠ w.heap.size by omega) 3 (.slice a1 R.length c1')
                replace hB := hB.set 3 (.slice a1 R.length c1')
                simp only [List.setIfInBounds_toArray, List.set_cons_succ, List.set_cons_zero] at hB
                replace J := J9; clear J9
                generalize V48.setCell ⟨w.heap.size, 3, none⟩ (.slice a1 R.length c1') = V49 at *
                refine hK.out _ _ ?_ (fun hHeld => ?_)
                · trivial
                clear hK K
                (try simp only [Act.put]); (try simp only [List.setIfInBounds_toArray]); (try simp only [List.set_cons_succ]); (try simp only [List.set_cons_zero])
                refine wpAnyH_take (i := 11) (oi := ⟨_, _, _, _, _, _⟩) (v := ?_) rfl (by kernel_rfl) (by kernel_rfl) (by kernel_rfl) (fun _ _ _ h => h) (Or.inl ⟨by rfl, ?_⟩) (by assumption) ?_
                rotate_left 1
                · intro w hSw; go_simp <;> with_reducible rfl
                (try simp only [Act.put]); (try simp only [List.setIfInBounds_toArray]); (try simp only [List.set_cons_succ]); (try simp only [List.set_cons_zero])
                refine wpAnyH_ready (rs := [12]) (by kernel_rfl) (by simp) ?_
                refine AllReadyH.cons (o := ⟨_, _, _, _, _, _⟩) rfl (fun K hK => ?_) AllReadyH.nil
                · have f := hB.frozen 4
                  have c := hB.cell 4 (v := .slice aw Q.length cw) rfl
                  go_simp
                  clear f c
                  have J9 : Keeps w (V49.setCell ⟨w.heap.size, 4, none⟩ (.slice a2 Q.length c2')) := keeps_set J (Nat.le_refl _) _ _
                  replace hr1 := hr1.set hB (by decide) 4 (.slice a2 Q.length c2')
                  replace hr2 := hr2.set hB (by decide) 4 (.slice a2 Q.length c2')
                  replace hr3 := hr3.set hB (by decide) 4 (.slice a2 Q.length c2')
                  replace hZ := hZ.setOther (show w.heap.size + 1 ≠ w.heap.size by omega) 4 (.slice a2 Q.length c2')
                  replace hB := hB.set 4 (.slice a2 Q.length c2')
                  simp only [List.setIfInBounds_toArray, List.set_cons_succ, List.set_cons_zero] at hB
                  replace J := J9; clear J9
                  generalize V49.setCell ⟨w.heap.size, 4, none⟩ (.slice a2 Q.length c2') = V50 at *
                  refine hK.out _ _ ?_ (fun hHeld => ?_)
                  · trivial
                  clear hK K
                  (try simp only [Act.put]); (try simp only [List.setIfInBounds_toArray]); (try simp only [List.set_cons_succ]); (try simp only [List.set_cons_zero])
                  refine wpAnyH_take (i := 13) (oi := ⟨_, _, _, _, _, _⟩) (v := ?_) rfl (by kernel_rfl) (by kernel_rfl) (by kernel_rfl) (fun _ _ _ h => h) (Or.inl ⟨by rfl, ?_⟩) (by assumption) ?_
                  rotate_left 1
                  · intro w hSw; go_simp <;> with_reducible rfl
                  (try simp only [Act.put]); (try simp only [List.setIfInBounds_toArray]); (try simp only [List.set_cons_succ]); (try simp only [List.set_cons_zero])
                  refine wpAnyH_ready (rs := [14]) (by kernel_rfl) (by simp) ?_
                  refine AllReadyH.cons (o := ⟨_, _, _, _, _, _⟩) rfl (fun K hK => ?_) AllReadyH.nil
                  · have f := hB.frozen 5
                    have c := hB.cell 5 (v := .slice af F.length cf) rfl
                    go_simp
                    clear f c
                    have J9 : Keeps w (V50.setCell ⟨w.heap.size, 5, none⟩ (.slice a3 F.length c3')) := keeps_set J (Nat.le_refl _) _ _
                    replace hr1 := hr1.set hB (by decide) 5 (.slice a3 F.length c3')
                    replace hr2 := hr2.set hB (by decide) 5 (.slice a3 F.length c3')
                    replace hr3 := hr3.set hB (by decide) 5 (.slice a3 F.length c3')
                    replace hZ := hZ.setOther (show w.heap.size + 1 ≠ w.heap.size by omega) 5 (.slice a3 F.length c3')
                    replace hB := hB.set 5 (.slice a3 F.length c3')
                    simp only [List.setIfInBounds_toArray, List.set_cons_succ, List.set_cons_zero] at hB
                    replace J := J9; clear J9
                    generalize V50.setCell ⟨w.heap.size, 5, none⟩ (.slice a3 F.length c3') = V51 at *
                    refine hK.out _ _ ?_ (fun hHeld => ?_)
                    · trivial
                    clear hK K
                    (try simp only [Act.put]); (try simp only [List.setIfInBounds_toArray]); (try simp only [List.set_cons_succ]); (try simp only [List.set_cons_zero])
                    refine wpAnyH_done (by kernel_rfl) ?_ _
                    obtain ⟨c0, c1, c2, c3, c4, c5⟩ := hB.c6
                    obtain ⟨g0, g1, g2, g3, g4, g5⟩ := hZ.f6
                    obtain ⟨d0, d1, d2, d3, d4, d5⟩ := hZ.c6
                    go_wp2_with fail
                    clear c0 c1 c2 c3 c4 c5 g0 g1 g2 g3 g4 g5 d0 d1 d2 d3 d4 d5
                    have KZ := keeps_set6 J (Nat.le_succ _) (.string nm) (.int .i64 kd) (.int .u16 (sv M)) (.slice a1 R.length c1') (.slice a2 Q.length c2') (.slice a3 F.length c3')
                    have RZ : RoG _ (⟨⟨nm, kd, M, R, Q, F⟩, a1, c1', a2, c2', a3, c3'⟩ : CA) := RoG.set6 (z := ⟨⟨nm, kd, M, R, Q, F⟩, a1, c1', a2, c2', a3, c3'⟩) ⟨hr1, hr2, hr3⟩ hZ (.string nm) (.int .i64 kd) (.int .u16 (sv M)) (.slice a1 R.length c1') (.slice a2 Q.length c2') (.slice a3 F.length c3')
                    have hZ6 := hZ.set6 (.string nm) (.int .i64 kd) (.int .u16 (sv M)) (.slice a1 R.length c1') (.slice a2 Q.length c2') (.slice a3 F.length c3')
                    refine bodyPost_ret (resCfg1 (z := ⟨⟨nm, kd, M, R, Q, F⟩, a1, c1', a2, c2', a3, c3'⟩) rfl hZ6 rfl) rfl ?_
                    exact ⟨⟨⟨nm, kd, M, R, Q, F⟩, a1, c1', a2, c2', a3, c3'⟩, rfl, rfl, RZ, KZ⟩
      · obtain ⟨c0, c1, c2, c3, c4, c5⟩ := hB.c6
        go_simp
        clear c0 c1 c2 c3 c4 c5
        refine hK.out _ _ ?_ (fun hHeld => ?_)
        · trivial
        clear hK K
        (try simp only [Act.put]); (try simp only [List.setIfInBounds_toArray]); (try simp only [List.set_cons_succ]); (try simp only [List.set_cons_zero])
        refine wpAnyH_ready (rs := [2]) (by kernel_rfl) (by simp) ?_
        refine AllReadyH.cons (o := ⟨_, _, _, _, _, _⟩) rfl (fun K hK => ?_) AllReadyH.nil
        · go_simp
          refine (H1.out _ J).mono ?_
          rintro e V53 ⟨a1, c1', rfl, hr1, K9⟩
          replace hB := hB.keep K9; replace hZ := hZ.keep K9; replace J := J.trans K9
          clear K9
          refine hK.out _ _ ?_ (fun hHeld => ?_)
          · trivial
          clear hK K
          (try simp only [Act.put]); (try simp only [List.setIfInBounds_toArray]); (try simp only [List.set_cons_succ]); (try simp only [List.set_cons_zero])
          refine wpAnyH_take (i := 9) (oi := ⟨_, _, _, _, _, _⟩) (v := ?_) rfl (by kernel_rfl) (by kernel_rfl) (by kernel_rfl) (fun _ _ _ h => h) (Or.inl ⟨by rfl, ?_⟩) (by assumption) ?_
          rotate_left 1
          · intro w hSw; go_simp <;> with_reducible rfl
          (try simp only [Act.put]); (try simp only [List.setIfInBounds_toArray]); (try simp only [List.set_cons_succ]); (try simp only [List.set_cons_zero])
          refine wpAnyH_ready (rs := [5]) (by kernel_rfl) (by simp) ?_
          refine AllReadyH.cons (o := ⟨_, _, _, _, _, _⟩) rfl (fun K hK => ?_) AllReadyH.nil
          · go_simp
            refine (H2.out _ J).mono ?_
            rintro e V54 ⟨a2, c2', rfl, hr2, K9⟩
            replace hB := hB.keep K9; replace hZ := hZ.keep K9; replace J := J.trans K9
            replace hr1 := hr1.keep K9
            clear K9
            refine hK.out _ _ ?_ (fun hHeld => ?_)
            · trivial
            clear hK K
            (try simp only [Act.put]); (try simp only [List.setIfInBounds_toArray]); (try simp only [List.set_cons_succ]); (try simp only [List.set_cons_zero])
            refine wpAnyH_ready (rs := [8]) (by kernel_rfl) (by simp) ?_
            refine AllReadyH.cons (o := ⟨_, _, _, _, _, _⟩) rfl (fun K hK => ?_) AllReadyH.nil
            · go_simp
              refine (H3.out _ J).mono ?_
              rintro e V55 ⟨a3, c3', rfl, hr3, K9⟩
              replace hB := hB.keep K9; replace hZ := hZ.keep K9; replace J := J.trans K9
              replace hr1 := hr1.keep K9
              replace hr2 := hr2.keep K9
              clear K9
              refine hK.out _ _ ?_ (fun hHeld => ?_)
              · trivial
              clear hK K
              (try simp only [Act.put]); (try simp only [List.setIfInBounds_toArray]); (try simp only [List.set_cons_succ]); (try simp only [List.set_cons_zero])
              refine wpAnyH_ready (rs := [10]) (by kernel_rfl) (by simp) ?_
              refine AllReadyH.cons (o := ⟨_, _, _, _, _, _⟩) rfl (fun K hK => ?_) AllReadyH.nil
              · have f := hB.frozen 3
                have c := hB.cell 3 (v := .slice ar R.length cr) rfl
                go_simp
                clear f c
                have J9 : Keeps w (V55.setCell ⟨w.heap.size, 3, none⟩ (.slice a1 R.length c1')) := keeps_set J (Nat.le_refl _) _ _
                replace hr1 := hr1.set hB (by decide) 3 (.slice a1 R.length c1')
                replace hr2 := hr2.set hB (by decide) 3 (.slice a1 R.length c1')
                replace hr3 := hr3.set hB (by decide) 3 (.slice a1 R.length c1')
                replace hZ := hZ.setOther (show w.heap.size + 1 ≠ w.heap.size by omega) 3 (.slice a1 R.length c1')
                replace hB := hB.set 3 (.slice a1 R.length c1')
                simp only [List.setIfInBounds_toArray, List.set_cons_succ, List.set_cons_zero] at hB
                replace J := J9; clear J9
                generalize V55.setCell ⟨w.heap.size, 3, none⟩ (.slice a1 R.length c1') = V56 at *
                refine hK.out _ _ ?_ (fun hHeld => ?_)
                · trivial
                clear hK K
                (try simp only [Act.put]); (try simp only [List.setIfInBounds_toArray]); (try simp only [List.set_cons_succ]); (try simp only [List.set_cons_zero])
                refine wpAnyH_take (i := 11) (oi := ⟨_, _, _, _, _, _⟩) (v := ?_) rfl (by kernel_rfl) (by kernel_rfl) (by kernel_rfl) (fun _ _ _ h => h) (Or.inl ⟨by rfl, ?_⟩) (by assumption) ?_
                rotate_left 1
                · intro w hSw; go_simp <;> with_reducible rfl
                (try simp only [Act.put]); (try simp only [List.setIfInBounds_toArray]); (try simp only [List.set_cons_succ]); (try simp only [List.set_cons_zero])
                refine wpAnyH_ready (rs := [12]) (by kernel_rfl) (by simp) ?_
                refine AllReadyH.cons (o := ⟨_, _, _, _, _, _⟩) rfl (fun K hK => ?_) AllReadyH.nil
                · have f := hB.frozen 4
                  have c := hB.cell 4 (v := .slice aw Q.length cw) rfl
                  go_simp
                  clear f c
                  have J9 : Keeps w (V56.setCell ⟨w.heap.size, 4, none⟩ (.slice a2 Q.length c2')) := keeps_set J (Nat.le_refl _) _ _
                  replace hr1 := hr1.set hB (by decide) 4 (.slice a2 Q.length c2')
                  replace hr2 := hr2.set hB (by decide) 4 (.slice a2 Q.length c2')
                  replace hr3 := hr3.set hB (by decide) 4 (.slice a2 Q.length c2')
                  replace hZ := hZ.setOther (show w.heap.size + 1 ≠ w.heap.size by omega) 4 (.slice a2 Q.length c2')
                  replace hB := hB.set 4 (.slice a2 Q.length c2')
                  simp only [List.setIfInBounds_toArray, List.set_cons_succ, List.set_cons_zero] at hB
                  replace J := J9; clear J9
                  generalize V56.setCell ⟨w.heap.size, 4, none⟩ (.slice a2 Q.length c2') = V57 at *
                  refine hK.out _ _ ?_ (fun hHeld => ?_)
                  · trivial
                  clear hK K
                  (try simp only [Act.put]); (try simp only [List.setIfInBounds_toArray]); (try simp only [List.set_cons_succ]); (try simp only [List.set_cons_zero])
                  refine wpAnyH_take (i := 13) (oi := ⟨_, _, _, _, _, _⟩) (v := ?_) rfl (by kernel_rfl) (by kernel_rfl) (by kernel_rfl) (fun _ _ _ h => h) (Or.inl ⟨by rfl, ?_⟩) (by assumption) ?_
                  rotate_left 1
                  · intro w hSw; go_simp <;> with_reducible rfl
                  (try simp only [Act.put]); (try simp only [List.setIfInBounds_toArray]); (try simp only [List.set_cons_succ]); (try simp only [List.set_cons_zero])
                  refine wpAnyH_ready (rs := [14]) (by kernel_rfl) (by simp) ?_
                  refine AllReadyH.cons (o := ⟨_, _, _, _, _, _⟩) rfl (fun K hK => ?_) AllReadyH.nil
                  · have f := hB.frozen 5
                    have c := hB.cell 5 (v := .slice af F.length cf) rfl
                    go_simp
                    clear f c
                    have J9 : Keeps w (V57.setCell ⟨w.heap.size, 5, none⟩ (.slice a3 F.length c3')) := keeps_set J (Nat.le_refl _) _ _
                    replace hr1 := hr1.set hB (by decide) 5 (.slice a3 F.length c3')
                    replace hr2 := hr2.set hB (by decide) 5 (.slice a3 F.length c3')
                    replace hr3 := hr3.set hB (by decide) 5 (.slice a3 F.length c3')
                    replace hZ := hZ.setOther (show w.heap.size + 1 ≠ w.heap.size by omega) 5 (.slice a3 F.length c3')
                    replace hB := hB.set 5 (.slice a3 F.length c3')
                    simp only [List.setIfInBounds_toArray, List.set_cons_succ, List.set_cons_zero] at hB
                    replace J := J9; clear J9
                    generalize V57.setCell ⟨w.heap.size, 5, none⟩ (.slice a3 F.length c3') = V58 at *
                    refine hK.out _ _ ?_ (fun hHeld => ?_)
                    · trivial
                    clear hK K
                    (try simp only [Act.put]); (try simp only [List.setIfInBounds_toArray]); (try simp only [List.set_cons_succ]); (try simp only [List.set_cons_zero])
                    refine wpAnyH_done (by kernel_rfl) ?_ _
                    obtain ⟨c0, c1, c2, c3, c4, c5⟩ := hB.c6
                    obtain ⟨g0, g1, g2, g3, g4, g5⟩ := hZ.f6
                    obtain ⟨d0, d1, d2, d3, d4, d5⟩ := hZ.c6
                    go_wp2_with fail
                    clear c0 c1 c2 c3 c4 c5 g0 g1 g2 g3 g4 g5 d0 d1 d2 d3 d4 d5
                    have KZ := keeps_set6 J (Nat.le_succ _) (.string nm) (.int .i64 kd) (.int .u16 (sv M)) (.slice a1 R.length c1') (.slice a2 Q.length c2') (.slice a3 F.length c3')
                    have RZ : RoG _ (⟨⟨nm, kd, M, R, Q, F⟩, a1, c1', a2, c2', a3, c3'⟩ : CA) := RoG.set6 (z := ⟨⟨nm, kd, M, R, Q, F⟩, a1, c1', a2, c2', a3, c3'⟩) ⟨hr1, hr2, hr3⟩ hZ (.string nm) (.int .i64 kd) (.int .u16 (sv M)) (.slice a1 R.length c1') (.slice a2 Q.length c2') (.slice a3 F.length c3')
                    have hZ6 := hZ.set6 (.string nm) (.int .i64 kd) (.int .u16 (sv M)) (.slice a1 R.length c1') (.slice a2 Q.length c2') (.slice a3 F.length c3')
                    refine bodyPost_ret (resCfg1 (z := ⟨⟨nm, kd, M, R, Q, F⟩, a1, c1', a2, c2', a3, c3'⟩) rfl hZ6 rfl) rfl ?_
                    exact ⟨⟨⟨nm, kd, M, R, Q, F⟩, a1, c1', a2, c2', a3, c3'⟩, rfl, rfl, RZ, KZ⟩
  · obtain ⟨c0, c1, c2, c3, c4, c5⟩ := hB.c6
    go_simp
    clear c0 c1 c2 c3 c4 c5
    refine hK.out _ _ ?_ (fun hHeld => ?_)
    · trivial
    clear hK K
    (try simp only [Act.put]); (try simp only [List.setIfInBounds_toArray]); (try simp only [List.set_cons_succ]); (try simp only [List.set_cons_zero])
    refine wpAnyH_ready (rs := [1, 7]) (by kernel_rfl) (by simp) ?_
    refine AllReadyH.cons (o := ⟨_, _, _, _, _, _⟩) rfl (fun K hK => ?_) (AllReadyH.cons (o := ⟨_, _, _, _, _, _⟩) rfl (fun K hK => ?_) AllReadyH.nil)
    · obtain ⟨c0, c1, c2, c3, c4, c5⟩ := hB.c6
      go_simp
      clear c0 c1 c2 c3 c4 c5
      refine hK.out _ _ ?_ (fun hHeld => ?_)
      · trivial
      clear hK K
      (try simp only [Act.put]); (try simp only [List.setIfInBounds_toArray]); (try simp only [List.set_cons_succ]); (try simp only [List.set_cons_zero])
      refine wpAnyH_ready (rs := [2, 7]) (by kernel_rfl) (by simp) ?_
      refine AllReadyH.cons (o := ⟨_, _, _, _, _, _⟩) rfl (fun K hK => ?_) (AllReadyH.cons (o := ⟨_, _, _, _, _, _⟩) rfl (fun K hK => ?_) AllReadyH.nil)
      · go_simp
        refine (H1.out _ J).mono ?_
        rintro e V61 ⟨a1, c1', rfl, hr1, K9⟩
        replace hB := hB.keep K9; replace hZ := hZ.keep K9; replace J := J.trans K9
        clear K9
        refine hK.out _ _ ?_ (fun hHeld => ?_)
        · trivial
        clear hK K
        (try simp only [Act.put]); (try simp only [List.setIfInBounds_toArray]); (try simp only [List.set_cons_succ]); (try simp only [List.set_cons_zero])
        refine wpAnyH_ready (rs := [5, 7]) (by kernel_rfl) (by simp) ?_
        refine AllReadyH.cons (o := ⟨_, _, _, _, _, _⟩) rfl (fun K hK => ?_) (AllReadyH.cons (o := ⟨_, _, _, _, _, _⟩) rfl (fun K hK => ?_) AllReadyH.nil)
        · go_simp
          refine (H2.out _ J).mono ?_
          rintro e V62 ⟨a2, c2', rfl, hr2, K9⟩
          replace hB := hB.keep K9; replace hZ := hZ.keep K9; replace J := J.trans K9
          replace hr1 := hr1.keep K9
          clear K9
          refine hK.out _ _ ?_ (fun hHeld => ?_)
          · trivial
          clear hK K
          (try simp only [Act.put]); (try simp only [List.setIfInBounds_toArray]); (try simp only [List.set_cons_succ]); (try simp only [List.set_cons_zero])
          refine wpAnyH_ready (rs := [7]) (by kernel_rfl) (by simp) ?_
          refine AllReadyH.cons (o := ⟨_, _, _, _, _, _⟩) rfl (fun K hK => ?_) AllReadyH.nil
          · obtain ⟨c0, c1, c2, c3, c4, c5⟩ := hB.c6
            go_simp
            clear c0 c1 c2 c3 c4 c5
            refine hK.out _ _ ?_ (fun hHeld => ?_)
            · trivial
            clear hK K
            (try simp only [Act.put]); (try simp only [List.setIfInBounds_toArray]); (try simp only [List.set_cons_succ]); (try simp only [List.set_cons_zero])
            refine wpAnyH_take (i := 9) (oi := ⟨_, _, _, _, _, _⟩) (v := ?_) rfl (by kernel_rfl) (by kernel_rfl) (by kernel_rfl) (fun _ _ _ h => h) (Or.inl ⟨by rfl, ?_⟩) (by assumption) ?_
            rotate_left 1
            · intro w hSw; go_simp <;> with_reducible rfl
            (try simp only [Act.put]); (try simp only [List.setIfInBounds_toArray]); (try simp only [List.set_cons_succ]); (try simp only [List.set_cons_zero])
            refine wpAnyH_ready (rs := [8]) (by kernel_rfl) (by simp) ?_
            refine AllReadyH.cons (o := ⟨_, _, _, _, _, _⟩) rfl (fun K hK => ?_) AllReadyH.nil
            · go_simp
              refine (H3.out _ J).mono ?_
              rintro e V64 ⟨a3, c3', rfl, hr3, K9⟩
              replace hB := hB.keep K9; replace hZ := hZ.keep K9; replace J := J.trans K9
              replace hr1 := hr1.keep K9
              replace hr2 := hr2.keep K9
              clear K9
              refine hK.out _ _ ?_ (fun hHeld => ?_)
              · trivial
              clear hK K
              (try simp only [Act.put]); (try simp only [List.setIfInBounds_toArray]); (try simp only [List.set_cons_succ]); (try simp only [List.set_cons_zero])
              refine wpAnyH_ready (rs := [10]) (by kernel_rfl) (by simp) ?_
              refine AllReadyH.cons (o := ⟨_, _, _, _, _, _⟩) rfl (fun K hK => ?_) AllReadyH.nil
              · have f := hB.frozen 3
                have c := hB.cell 3 (v := .slice ar R.length cr) rfl
                go_simp
                clear f c
                have J9 : Keeps w (V64.setCell ⟨w.heap.size, 3, none⟩ (.slice a1 R.length c1')) := keeps_set J (Nat.le_refl _) _ _
                replace hr1 := hr1.set hB (by decide) 3 (.slice a1 R.length c1')
                replace hr2 := hr2.set hB (by decide) 3 (.slice a1 R.length c1')
                replace hr3 := hr3.set hB (by decide) 3 (.slice a1 R.length c1')
                replace hZ := hZ.setOther (show w.heap.size + 1 ≠ w.heap.size by omega) 3 (.slice a1 R.length c1')
                replace hB := hB.set 3 (.slice a1 R.length c1')
                simp only [List.setIfInBounds_toArray, List.set_cons_succ, List.set_cons_zero] at hB
                replace J := J9; clear J9
                generalize V64.setCell ⟨w.heap.size, 3, none⟩ (.slice a1 R.length c1') = V65 at *
                refine hK.out _ _ ?_ (fun hHeld => ?_)
                · trivial
                clear hK K
                (try simp only [Act.put]); (try simp only [List.setIfInBounds_toArray]); (try simp only [List.set_cons_succ]); (try simp only [List.set_cons_zero])
                refine wpAnyH_take (i := 11) (oi := ⟨_, _, _, _, _, _⟩) (v := ?_) rfl (by kernel_rfl) (by kernel_rfl) (by kernel_rfl) (fun _ _ _ h => h) (Or.inl ⟨by rfl, ?_⟩) (by assumption) ?_
                rotate_left 1
                · intro w hSw; go_simp <;> with_reducible rfl
                (try simp only [Act.put]); (try simp only [List.setIfInBounds_toArray]); (try simp only [List.set_cons_succ]); (try simp only [List.set_cons_zero])
                refine wpAnyH_ready (rs := [12]) (by kernel_rfl) (by simp) ?_
                refine AllReadyH.cons (o := ⟨_, _, _, _, _, _⟩) rfl (fun K hK => ?_) AllReadyH.nil
                · have f := hB.frozen 4
                  have c := hB.cell 4 (v := .slice aw Q.length cw) rfl
                  go_simp
                  clear f c
                  have J9 : Keeps w (V65.setCell ⟨w.heap.size, 4, none⟩ (.slice a2 Q.length c2')) := keeps_set J (Nat.le_refl _) _ _
                  replace hr1 := hr1.set hB (by decide) 4 (.slice a2 Q.length c2')
                  replace hr2 := hr2.set hB (by decide) 4 (.slice a2 Q.length c2')
                  replace hr3 := hr3.set hB (by decide) 4 (.slice a2 Q.length c2')
                  replace hZ := hZ.setOther (show w.heap.size + 1 ≠ w.heap.size by omega) 4 (.slice a2 Q.length c2')
                  replace hB := hB.set 4 (.slice a2 Q.length c2')
                  simp only [List.setIfInBounds_toArray, List.set_cons_succ, List.set_cons_zero] at hB
                  replace J := J9; clear J9
                  generalize V65.setCell ⟨w.heap.size, 4, none⟩ (.slice a2 Q.length c2') = V66 at *
                  refine hK.out _ _ ?_ (fun hHeld => ?_)
                  · trivial
                  clear hK K
                  (try simp only [Act.put]); (try simp only [List.setIfInBounds_toArray]); (try simp only [List.set_cons_succ]); (try simp only [List.set_cons_zero])
                  refine wpAnyH_take (i := 13) (oi := ⟨_, _, _, _, _, _⟩) (v := ?_) rfl (by kernel_rfl) (by kernel_rfl) (by kernel_rfl) (fun _ _ _ h => h) (Or.inl ⟨by rfl, ?_⟩) (by assumption) ?_
                  rotate_left 1
                  · intro w hSw; go_simp <;> with_reducible rfl
                  (try simp only [Act.put]); (try simp only [List.setIfInBounds_toArray]); (try simp only [List.set_cons_succ]); (try simp only [List.set_cons_zero])
                  refine wpAnyH_ready (rs := [14]) (by kernel_rfl) (by simp) ?_
                  refine AllReadyH.cons (o := ⟨_, _, _, _, _, _⟩) rfl (fun K hK => ?_) AllReadyH.nil
                  · have f := hB.frozen 5
                    have c := hB.cell 5 (v := .slice af F.length cf) rfl
                    go_simp
                    clear f c
                    have J9 : Keeps w (V66.setCell ⟨w.heap.size, 5, none⟩ (.slice a3 F.length c3')) := keeps_set J (Nat.le_refl _) _ _
                    replace hr1 := hr1.set hB (by decide) 5 (.slice a3 F.length c3')
                    replace hr2 := hr2.set hB (by decide) 5 (.slice a3 F.length c3')
                    replace hr3 := hr3.set hB (by decide) 5 (.slice a3 F.length c3')
                    replace hZ := hZ.setOther (show w.heap.size + 1 ≠ w.heap.size by omega) 5 (.slice a3 F.length c3')
                    replace hB := hB.set 5 (.slice a3 F.length c3')
                    simp only [List.setIfInBounds_toArray, List.set_cons_succ, List.set_cons_zero] at hB
                    replace J := J9; clear J9
                    generalize V66.setCell ⟨w.heap.size, 5, none⟩ (.slice a3 F.length c3') = V67 at *
                    refine hK.out _ _ ?_ (fun hHeld => ?_)
                    · trivial
                    clear hK K
                    (try simp only [Act.put]); (try simp only [List.setIfInBounds_toArray]); (try simp only [List.set_cons_succ]); (try simp only [List.set_cons_zero])
                    refine wpAnyH_done (by kernel_rfl) ?_ _
                    obtain ⟨c0, c1, c2, c3, c4, c5⟩ := hB.c6
                    obtain ⟨g0, g1, g2, g3, g4, g5⟩ := hZ.f6
                    obtain ⟨d0, d1, d2, d3, d4, d5⟩ := hZ.c6
                    go_wp2_with fail
                    clear c0 c1 c2 c3 c4 c5 g0 g1 g2 g3 g4 g5 d0 d1 d2 d3 d4 d5
                    have KZ := keeps_set6 J (Nat.le_succ _) (.string nm) (.int .i64 kd) (.int .u16 (sv M)) (.slice a1 R.length c1') (.slice a2 Q.length c2') (.slice a3 F.length c3')
                    have RZ : RoG _ (⟨⟨nm, kd, M, R, Q, F⟩, a1, c1', a2, c2', a3, c3'⟩ : CA) := RoG.set6 (z := ⟨⟨nm, kd, M, R, Q, F⟩, a1, c1', a2, c2', a3, c3'⟩) ⟨hr1, hr2, hr3⟩ hZ (.string nm) (.int .i64 kd) (.int .u16 (sv M)) (.slice a1 R.length c1') (.slice a2 Q.length c2') (.slice a3 F.length c3')
                    have hZ6 := hZ.set6 (.string nm) (.int .i64 kd) (.int .u16 (sv M)) (.slice a1 R.length c1') (.slice a2 Q.length c2') (.slice a3 F.length c3')
                    refine bodyPost_ret (resCfg1 (z := ⟨⟨nm, kd, M, R, Q, F⟩, a1, c1', a2, c2', a3, c3'⟩) rfl hZ6 rfl) rfl ?_
                    exact ⟨⟨⟨nm, kd, M, R, Q, F⟩, a1, c1', a2, c2', a3, c3'⟩, rfl, rfl, RZ, KZ⟩
        · obtain ⟨c0, c1, c2, c3, c4, c5⟩ := hB.c6
          go_simp
          clear c0 c1 c2 c3 c4 c5
          refine hK.out _ _ ?_ (fun hHeld => ?_)
          · trivial
          clear hK K
          (try simp only [Act.put]); (try simp only [List.setIfInBounds_toArray]); (try simp only [List.set_cons_succ]); (try simp only [List.set_cons_zero])
          refine wpAnyH_take (i := 9) (oi := ⟨_, _, _, _, _, _⟩) (v := ?_) rfl (by kernel_rfl) (by kernel_rfl) (by kernel_rfl) (fun _ _ _ h => h) (Or.inl ⟨by rfl, ?_⟩) (by assumption) ?_
          rotate_left 1
          · intro w hSw; go_simp <;> with_reducible rfl
          (try simp only [Act.put]); (try simp only [List.setIfInBounds_toArray]); (try simp only [List.set_cons_succ]); (try simp only [List.set_cons_zero])
          refine wpAnyH_ready (rs := [5]) (by kernel_rfl) (by simp) ?_
          refine AllReadyH.cons (o := ⟨_, _, _, _, _, _⟩) rfl (fun K hK => ?_) AllReadyH.nil
          · go_simp
            refine (H2.out _ J).mono ?_
            rintro e V69 ⟨a2, c2', rfl, hr2, K9⟩
            replace hB := hB.keep K9; replace hZ := hZ.keep K9; replace J := J.trans K9
            replace hr1 := hr1.keep K9
            clear K9
            refine hK.out _ _ ?_ (fun hHeld => ?_)
            · trivial
            clear hK K
            (try simp only [Act.put]); (try simp only [List.setIfInBounds_toArray]); (try simp only [List.set_cons_succ]); (try simp only [List.set_cons_zero])
            refine wpAnyH_ready (rs := [8]) (by kernel_rfl) (by simp) ?_
            refine AllReadyH.cons (o := ⟨_, _, _, _, _, _⟩) rfl (fun K hK => ?_) AllReadyH.nil
            · go_simp
              refine (H3.out _ J).mono ?_
              rintro e V70 ⟨a3, c3', rfl, hr3, K9⟩
              replace hB := hB.keep K9; replace hZ := hZ.keep K9; replace J := J.trans K9
              replace hr1 := hr1.keep K9
              replace hr2 := hr2.keep K9
              clear K9
              refine hK.out _ _ ?_ (fun hHeld => ?_)
              · trivial
              clear hK K
              (try simp only [Act.put]); (try simp only [List.setIfInBounds_toArray]); (try simp only [List.set_cons_succ]); (try simp only [List.set_cons_zero])
              refine wpAnyH_ready (rs := [10]) (by kernel_rfl) (by simp) ?_
              refine AllReadyH.cons (o := ⟨_, _, _, _, _, _⟩) rfl (fun K hK => ?_) AllReadyH.nil
              · have f := hB.frozen 3
                have c := hB.cell 3 (v := .slice ar R.length cr) rfl
                go_simp
                clear f c
                have J9 : Keeps w (V70.setCell ⟨w.heap.size, 3, none⟩ (.slice a1 R.length c1')) := keeps_set J (Nat.le_refl _) _ _
                replace hr1 := hr1.set hB (by decide) 3 (.slice a1 R.length c1')
                replace hr2 := hr2.set hB (by decide) 3 (.slice a1 R.length c1')
                replace hr3 := hr3.set hB (by decide) 3 (.slice a1 R.length c1')
                replace hZ := hZ.setOther (show w.heap.size + 1 ≠ w.heap.size by omega) 3 (.slice a1 R.length c1')
                replace hB := hB.set 3 (.slice a1 R.length c1')
                simp only [List.setIfInBounds_toArray, List.set_cons_succ, List.set_cons_zero] at hB
                replace J := J9; clear J9
                generalize V70.setCell ⟨w.heap.size, 3, none⟩ (.slice a1 R.length c1') = V71 at *
                refine hK.out _ _ ?_ (fun hHeld => ?_)
                · trivial
                clear hK K
                (try simp only [Act.put]); (try simp only [List.setIfInBounds_toArray]); (try simp only [List.set_cons_succ]); (try simp only [List.set_cons_zero])
                refine wpAnyH_take (i := 11) (oi := ⟨_, _, _, _, _, _⟩) (v := ?_) rfl (by kernel_rfl) (by kernel_rfl) (by kernel_rfl) (fun _ _ _ h => h) (Or.inl ⟨by rfl, ?_⟩) (by assumption) ?_
                rotate_left 1
                · intro w hSw; go_simp <;> with_reducible rfl
                (try simp only [Act.put]); (try simp only [List.setIfInBounds_toArray]); (try simp only [List.set_cons_succ]); (try simp only [List.set_cons_zero])
                refine wpAnyH_ready (rs := [12]) (by kernel_rfl) (by simp) ?_
                refine AllReadyH.cons (o := ⟨_, _, _, _, _, _⟩) rfl (fun K hK => ?_) AllReadyH.nil
                · have f := hB.frozen 4
                  have c := hB.cell 4 (v := .slice aw Q.length cw) rfl
                  go_simp
                  clear f c
                  have J9 : Keeps w (V71.setCell ⟨w.heap.size, 4, none⟩ (.slice a2 Q.length c2')) := keeps_set J (Nat.le_refl _) _ _
                  replace hr1 := hr1.set hB (by decide) 4 (.slice a2 Q.length c2')
                  replace hr2 := hr2.set hB (by decide) 4 (.slice a2 Q.length c2')
                  replace hr3 := hr3.set hB (by decide) 4 (.slice a2 Q.length c2')
                  replace hZ := hZ.setOther (show w.heap.size + 1 ≠ w.heap.size by omega) 4 (.slice a2 Q.length c2')
                  replace hB := hB.set 4 (.slice a2 Q.length c2')
                  simp only [List.setIfInBounds_toArray, List.set_cons_succ, List.set_cons_zero] at hB
                  replace J := J9; clear J9
                  generalize V71.setCell ⟨w.heap.size, 4, none⟩ (.slice a2 Q.length c2') = V72 at *
                  refine hK.out _ _ ?_ (fun hHeld => ?_)
                  · trivial
                  clear hK K
                  (try simp only [Act.put]); (try simp only [List.setIfInBounds_toArray]); (try simp only [List.set_cons_succ]); (try simp only [List.set_cons_zero])
                  refine wpAnyH_take (i := 13) (oi := ⟨_, _, _, _, _, _⟩) (v := ?_) rfl (by kernel_rfl) (by kernel_rfl) (by kernel_rfl) (fun _ _ _ h => h) (Or.inl ⟨by rfl, ?_⟩) (by assumption) ?_
                  rotate_left 1
                  · intro w hSw; go_simp <;> with_reducible rfl
                  (try simp only [Act.put]); (try simp only [List.setIfInBounds_toArray]); (try simp only [List.set_cons_succ]); (try simp only [List.set_cons_zero])
                  refine wpAnyH_ready (rs := [14]) (by kernel_rfl) (by simp) ?_
                  refine AllReadyH.cons (o := ⟨_, _, _, _, _, _⟩) rfl (fun K hK => ?_) AllReadyH.nil
                  · have f := hB.frozen 5
                    have c := hB.cell 5 (v := .slice af F.length cf) rfl
                    go_simp
                    clear f c
                    have J9 : Keeps w (V72.setCell ⟨w.heap.size, 5, none⟩ (.slice a3 F.length c3')) := keeps_set J (Nat.le_refl _) _ _
                    replace hr1 := hr1.set hB (by decide) 5 (.slice a3 F.length c3')
                    replace hr2 := hr2.set hB (by decide) 5 (.slice a3 F.length c3')
                    replace hr3 := hr3.set hB (by decide) 5 (.slice a3 F.length c3')
                    replace hZ := hZ.setOther (show w.heap.size + 1 ≠ w.heap.size by omega) 5 (.slice a3 F.length c3')
                    replace hB := hB.set 5 (.slice a3 F.length c3')
                    simp only [List.setIfInBounds_toArray, List.set_cons_succ, List.set_cons_zero] at hB
                    replace J := J9; clear J9
                    generalize V72.setCell ⟨w.heap.size, 5, none⟩ (.slice a3 F.length c3') = V73 at *
                    refine hK.out _ _ ?_ (fun hHeld => ?_)
                    · trivial
                    clear hK K
                    (try simp only [Act.put]); (try simp only [List.setIfInBounds_toArray]); (try simp only [List.set_cons_succ]); (try simp only [List.set_cons_zero])
                    refine wpAnyH_done (by kernel_rfl) ?_ _
                    obtain ⟨c0, c1, c2, c3, c4, c5⟩ := hB.c6
                    obtain ⟨g0, g1, g2, g3, g4, g5⟩ := hZ.f6
                    obtain ⟨d0, d1, d2, d3, d4, d5⟩ := hZ.c6
                    go_wp2_with fail
                    clear c0 c1 c2 c3 c4 c5 g0 g1 g2 g3 g4 g5 d0 d1 d2 d3 d4 d5
                    have KZ := keeps_set6 J (Nat.le_succ _) (.string nm) (.int .i64 kd) (.int .u16 (sv M)) (.slice a1 R.length c1') (.slice a2 Q.length c2') (.slice a3 F.length c3')
                    have RZ : RoG _ (⟨⟨nm, kd, M, R, Q, F⟩, a1, c1', a2, c2', a3, c3'⟩ : CA) := RoG.set6 (z := ⟨⟨nm, kd, M, R, Q, F⟩, a1, c1', a2, c2', a3, c3'⟩) ⟨hr1, hr2, hr3⟩ hZ (.string nm) (.int .i64 kd) (.int .u16 (sv M)) (.slice a1 R.length c1') (.slice a2 Q.length c2') (.slice a3 F.length c3')
                    have hZ6 := hZ.set6 (.string nm) (.int .i64 kd) (.int .u16 (sv M)) (.slice a1 R.length c1') (.slice a2 Q.length c2') (.slice a3 F.length c3')
                    refine bodyPost_ret (resCfg1 (z := ⟨⟨nm, kd, M, R, Q, F⟩, a1, c1', a2, c2', a3, c3'⟩) rfl hZ6 rfl) rfl ?_
                    exact ⟨⟨⟨nm, kd, M, R, Q, F⟩, a1, c1', a2, c2', a3, c3'⟩, rfl, rfl, RZ, KZ⟩
      · obtain ⟨c0, c1, c2, c3, c4, c5⟩ := hB.c6
        go_simp
        clear c0 c1 c2 c3 c4 c5
        refine hK.out _ _ ?_ (fun hHeld => ?_)
        · trivial
        clear hK K
        (try simp only [Act.put]); (try simp only [List.setIfInBounds_toArray]); (try simp only [List.set_cons_succ]); (try simp only [List.set_cons_zero])
        refine wpAnyH_ready (rs := [2]) (by kernel_rfl) (by simp) ?_
        refine AllReadyH.cons (o := ⟨_, _, _, _, _, _⟩) rfl (fun K hK => ?_) AllReadyH.nil
        · go_simp
          refine (H1.out _ J).mono ?_
          rintro e V75 ⟨a1, c1', rfl, hr1, K9⟩
          replace hB := hB.keep K9; replace hZ := hZ.keep K9; replace J := J.trans K9
          clear K9
          refine hK.out _ _ ?_ (fun hHeld => ?_)
          · trivial
          clear hK K
          (try simp only [Act.put]); (try simp only [List.setIfInBounds_toArray]); (try simp only [List.set_cons_succ]); (try simp only [List.set_cons_zero])
          refine wpAnyH_take (i := 9) (oi := ⟨_, _, _, _, _, _⟩) (v := ?_) rfl (by kernel_rfl) (by kernel_rfl) (by kernel_rfl) (fun _ _ _ h => h) (Or.inl ⟨by rfl, ?_⟩) (by assumption) ?_
          rotate_left 1
          · intro w hSw; go_simp <;> with_reducible rfl
          (try simp only [Act.put]); (try simp only [List.setIfInBounds_toArray]); (try simp only [List.set_cons_succ]); (try simp only [List.set_cons_zero])
          refine wpAnyH_ready (rs := [5]) (by kernel_rfl) (by simp) ?_
          refine AllReadyH.cons (o := ⟨_, _, _, _, _, _⟩) rfl (fun K hK => ?_) AllReadyH.nil
          · go_simp
            refine (H2.out _ J).mono ?_
            rintro e V76 ⟨a2, c2', rfl, hr2, K9⟩
            replace hB := hB.keep K9; replace hZ := hZ.keep K9; replace J := J.trans K9
            replace hr1 := hr1.keep K9
            clear K9
            refine hK.out _ _ ?_ (fun hHeld => ?_)
            · trivial
            clear hK K
            (try simp only [Act.put]); (try simp only [List.setIfInBounds_toArray]); (try simp only [List.set_cons_succ]); (try simp only [List.set_cons_zero])
            refine wpAnyH_ready (rs := [8]) (by kernel_rfl) (by simp) ?_
            refine AllReadyH.cons (o := ⟨_, _, _, _, _, _⟩) rfl (fun K hK => ?_) AllReadyH.nil
            · go_simp
              refine (H3.out _ J).mono ?_
              rintro e V77 ⟨a3, c3', rfl, hr3, K9⟩
              replace hB := hB.keep K9; replace hZ := hZ.keep K9; replace J := J.trans K9
              replace hr1 := hr1.keep K9
              replace hr2 := hr2.keep K9
              clear K9
              refine hK.out _ _ ?_ (fun hHeld => ?_)
              · trivial
              clear hK K
              (try simp only [Act.put]); (try simp only [List.setIfInBounds_toArray]); (try simp only [List.set_cons_succ]); (try simp only [List.set_cons_zero])
              refine wpAnyH_ready (rs := [10]) (by kernel_rfl) (by simp) ?_
              refine AllReadyH.cons (o := ⟨_, _, _, _, _, _⟩) rfl (fun K hK => ?_) AllReadyH.nil
              · have f := hB.frozen 3
                have c := hB.cell 3 (v := .slice ar R.length cr) rfl
                go_simp
                clear f c
                have J9 : Keeps w (V77.setCell ⟨w.heap.size, 3, none⟩ (.slice a1 R.length c1')) := keeps_set J (Nat.le_refl _) _ _
                replace hr1 := hr1.set hB (by decide) 3 (.slice a1 R.length c1')
                replace hr2 := hr2.set hB (by decide) 3 (.slice a1 R.length c1')
                replace hr3 := hr3.set hB (by decide) 3 (.slice a1 R.length c1')
                replace hZ := hZ.setOther (show w.heap.size + 1 ≠ w.heap.size by omega) 3 (.slice a1 R.length c1')
                replace hB := hB.set 3 (.slice a1 R.length c1')
                simp only [List.setIfInBounds_toArray, List.set_cons_succ, List.set_cons_zero] at hB
                replace J := J9; clear J9
                generalize V77.setCell ⟨w.heap.size, 3, none⟩ (.slice a1 R.length c1') = V78 at *
                refine hK.out _ _ ?_ (fun hHeld => ?_)
                · trivial
                clear hK K
                (try simp only [Act.put]); (try simp only [List.setIfInBounds_toArray]); (try simp only [List.set_cons_succ]); (try simp only [List.set_cons_zero])
                refine wpAnyH_take (i := 11) (oi := ⟨_, _, _, _, _, _⟩) (v := ?_) rfl (by kernel_rfl) (by kernel_rfl) (by kernel_rfl) (fun _ _ _ h => h) (Or.inl ⟨by rfl, ?_⟩) (by assumption) ?_
                rotate_left 1
                · intro w hSw; go_simp <;> with_reducible rfl
                (try simp only [Act.put]); (try simp only [List.setIfInBounds_toArray]); (try simp only [List.set_cons_succ]); (try simp only [List.set_cons_zero])
                refine wpAnyH_ready (rs := [12]) (by kernel_rfl) (by simp) ?_
                refine AllReadyH.cons (o := ⟨_, _, _, _, _, _⟩) rfl (fun K hK => ?_) AllReadyH.nil
                · have f := hB.frozen 4
                  have c := hB.cell 4 (v := .slice aw Q.length cw) rfl
                  go_simp
                  clear f c
                  have J9 : Keeps w (V78.setCell ⟨w.heap.size, 4, none⟩ (.slice a2 Q.length c2')) := keeps_set J (Nat.le_refl _) _ _
                  replace hr1 := hr1.set hB (by decide) 4 (.slice a2 Q.length c2')
                  replace hr2 := hr2.set hB (by decide) 4 (.slice a2 Q.length c2')
                  replace hr3 := hr3.set hB (by decide) 4 (.slice a2 Q.length c2')
                  replace hZ := hZ.setOther (show w.heap.size + 1 ≠ w.heap.size by omega) 4 (.slice a2 Q.length c2')
                  replace hB := hB.set 4 (.slice a2 Q.length c2')
                  simp only [List.setIfInBounds_toArray, List.set_cons_succ, List.set_cons_zero] at hB
                  replace J := J9; clear J9
                  generalize V78.setCell ⟨w.heap.size, 4, none⟩ (.slice a2 Q.length c2') = V79 at *
                  refine hK.out _ _ ?_ (fun hHeld => ?_)
                  · trivial
                  clear hK K
                  (try simp only [Act.put]); (try simp only [List.setIfInBounds_toArray]); (try simp only [List.set_cons_succ]); (try simp only [List.set_cons_zero])
                  refine wpAnyH_take (i := 13) (oi := ⟨_, _, _, _, _, _⟩) (v := ?_) rfl (by kernel_rfl) (by kernel_rfl) (by kernel_rfl) (fun _ _ _ h => h) (Or.inl ⟨by rfl, ?_⟩) (by assumption) ?_
                  rotate_left 1
                  · intro w hSw; go_simp <;> with_reducible rfl
                  (try simp only [Act.put]); (try simp only [List.setIfInBounds_toArray]); (try simp only [List.set_cons_succ]); (try simp only [List.set_cons_zero])
                  refine wpAnyH_ready (rs := [14]) (by kernel_rfl) (by simp) ?_
                  refine AllReadyH.cons (o := ⟨_, _, _, _, _, _⟩) rfl (fun K hK => ?_) AllReadyH.nil
                  · have f := hB.frozen 5
                    have c := hB.cell 5 (v := .slice af F.length cf) rfl
                    go_simp
                    clear f c
                    have J9 : Keeps w (V79.setCell ⟨w.heap.size, 5, none⟩ (.slice a3 F.length c3')) := keeps_set J (Nat.le_refl _) _ _
                    replace hr1 := hr1.set hB (by decide) 5 (.slice a3 F.length c3')
                    replace hr2 := hr2.set hB (by decide) 5 (.slice a3 F.length c3')
                    replace hr3 := hr3.set hB (by decide) 5 (.slice a3 F.length c3')
                    replace hZ := hZ.setOther (show w.heap.size + 1 ≠ w.heap.size by omega) 5 (.slice a3 F.length c3')
                    replace hB := hB.set 5 (.slice a3 F.length c3')
                    simp only [List.setIfInBounds_toArray, List.set_cons_succ, List.set_cons_zero] at hB
                    replace J := J9; clear J9
                    generalize V79.setCell ⟨w.heap.size, 5, none⟩ (.slice a3 F.length c3') = V80 at *
                    refine hK.out _ _ ?_ (fun hHeld => ?_)
                    · trivial
                    clear hK K
                    (try simp only [Act.put]); (try simp only [List.setIfInBounds_toArray]); (try simp only [List.set_cons_succ]); (try simp only [List.set_cons_zero])
                    refine wpAnyH_done (by kernel_rfl) ?_ _
                    obtain ⟨c0, c1, c2, c3, c4, c5⟩ := hB.c6
                    obtain ⟨g0, g1, g2, g3, g4, g5⟩ := hZ.f6
                    obtain ⟨d0, d1, d2, d3, d4, d5⟩ := hZ.c6
                    go_wp2_with fail
                    clear c0 c1 c2 c3 c4 c5 g0 g1 g2 g3 g4 g5 d0 d1 d2 d3 d4 d5
                    have KZ := keeps_set6 J (Nat.le_succ _) (.string nm) (.int .i64 kd) (.int .u16 (sv M)) (.slice a1 R.length c1') (.slice a2 Q.length c2') (.slice a3 F.length c3')
                    have RZ : RoG _ (⟨⟨nm, kd, M, R, Q, F⟩, a1, c1', a2, c2', a3, c3'⟩ : CA) := RoG.set6 (z := ⟨⟨nm, kd, M, R, Q, F⟩, a1, c1', a2, c2', a3, c3'⟩) ⟨hr1, hr2, hr3⟩ hZ (.string nm) (.int .i64 kd) (.int .u16 (sv M)) (.slice a1 R.length c1') (.slice a2 Q.length c2') (.slice a3 F.length c3')
                    have hZ6 := hZ.set6 (.string nm) (.int .i64 kd) (.int .u16 (sv M)) (.slice a1 R.length c1') (.slice a2 Q.length c2') (.slice a3 F.length c3')
                    refine bodyPost_ret (resCfg1 (z := ⟨⟨nm, kd, M, R, Q, F⟩, a1, c1', a2, c2', a3, c3'⟩) rfl hZ6 rfl) rfl ?_
                    exact ⟨⟨⟨nm, kd, M, R, Q, F⟩, a1, c1', a2, c2', a3, c3'⟩, rfl, rfl, RZ, KZ⟩
    · obtain ⟨c0, c1, c2, c3, c4, c5⟩ := hB.c6
      go_simp
      clear c0 c1 c2 c3 c4 c5
      refine hK.out _ _ ?_ (fun hHeld => ?_)
      · trivial
      clear hK K
      (try simp only [Act.put]); (try simp only [List.setIfInBounds_toArray]); (try simp only [List.set_cons_succ]); (try simp only [List.set_cons_zero])
      refine wpAnyH_ready (rs := [1]) (by kernel_rfl) (by simp) ?_
      refine AllReadyH.cons (o := ⟨_, _, _, _, _, _⟩) rfl (fun K hK => ?_) AllReadyH.nil
      · obtain ⟨c0, c1, c2, c3, c4, c5⟩ := hB.c6
        go_simp
        clear c0 c1 c2 c3 c4 c5
        refine hK.out _ _ ?_ (fun hHeld => ?_)
        · trivial
        clear hK K
        (try simp only [Act.put]); (try simp only [List.setIfInBounds_toArray]); (try simp only [List.set_cons_succ]); (try simp only [List.set_cons_zero])
        refine wpAnyH_ready (rs := [2]) (by kernel_rfl) (by simp) ?_
        refine AllReadyH.cons (o := ⟨_, _, _, _, _, _⟩) rfl (fun K hK => ?_) AllReadyH.nil
        · go_simp
          refine (H1.out _ J).mono ?_
          rintro e V83 ⟨a1, c1', rfl, hr1, K9⟩
          replace hB := hB.keep K9; replace hZ := hZ.keep K9; replace J := J.trans K9
          clear K9
          refine hK.out _ _ ?_ (fun hHeld => ?_)
          · trivial
          clear hK K
          (try simp only [Act.put]); (try simp only [List.setIfInBounds_toArray]); (try simp only [List.set_cons_succ]); (try simp only [List.set_cons_zero])
          refine wpAnyH_take (i := 9) (oi := ⟨_, _, _, _, _, _⟩) (v := ?_) rfl (by kernel_rfl) (by kernel_rfl) (by kernel_rfl) (fun _ _ _ h => h) (Or.inl ⟨by rfl, ?_⟩) (by assumption) ?_
          rotate_left 1
          · intro w hSw; go_simp <;> with_reducible rfl
          (try simp only [Act.put]); (try simp only [List.setIfInBounds_toArray]); (try simp only [List.set_cons_succ]); (try simp only [List.set_cons_zero])
          refine wpAnyH_ready (rs := [5]) (by kernel_rfl) (by simp) ?_
          refine AllReadyH.cons (o := ⟨_, _, _, _, _, _⟩) rfl (fun K hK => ?_) AllReadyH.nil
          · go_simp
            refine (H2.out _ J).mono ?_
            rintro e V84 ⟨a2, c2', rfl, hr2, K9⟩
            replace hB := hB.keep K9; replace hZ := hZ.keep K9; replace J := J.trans K9
            replace hr1 := hr1.keep K9
            clear K9
            refine hK.out _ _ ?_ (fun hHeld => ?_)
            · trivial
            clear hK K
            (try simp only [Act.put]); (try simp only [List.setIfInBounds_toArray]); (try simp only [List.set_cons_succ]); (try simp only [List.set_cons_zero])
            refine wpAnyH_ready (rs := [8]) (by kernel_rfl) (by simp) ?_
            refine AllReadyH.cons (o := ⟨_, _, _, _, _, _⟩) rfl (fun K hK => ?_) AllReadyH.nil
            · go_simp
              refine (H3.out _ J).mono ?_
              rintro e V85 ⟨a3, c3', rfl, hr3, K9⟩
              replace hB := hB.keep K9; replace hZ := hZ.keep K9; replace J := J.trans K9
              replace hr1 := hr1.keep K9
              replace hr2 := hr2.keep K9
              clear K9
              refine hK.out _ _ ?_ (fun hHeld => ?_)
              · trivial
              clear hK K
              (try simp only [Act.put]); (try simp only [List.setIfInBounds_toArray]); (try simp only [List.set_cons_succ]); (try simp only [List.set_cons_zero])
              refine wpAnyH_ready (rs := [10]) (by kernel_rfl) (by simp) ?_
              refine AllReadyH.cons (o := ⟨_, _, _, _, _, _⟩) rfl (fun K hK => ?_) AllReadyH.nil
              · have f := hB.frozen 3
                have c := hB.cell 3 (v := .slice ar R.length cr) rfl
                go_simp
                clear f c
                have J9 : Keeps w (V85.setCell ⟨w.heap.size, 3, none⟩ (.slice a1 R.length c1')) := keeps_set J (Nat.le_refl _) _ _
                replace hr1 := hr1.set hB (by decide) 3 (.slice a1 R.length c1')
                replace hr2 := hr2.set hB (by decide) 3 (.slice a1 R.length c1')
                replace hr3 := hr3.set hB (by decide) 3 (.slice a1 R.length c1')
                replace hZ := hZ.setOther (show w.heap.size + 1 ≠ w.heap.size by omega) 3 (.slice a1 R.length c1')
                replace hB := hB.set 3 (.slice a1 R.length c1')
                simp only [List.setIfInBounds_toArray, List.set_cons_succ, List.set_cons_zero] at hB
                replace J := J9; clear J9
                generalize V85.setCell ⟨w.heap.size, 3, none⟩ (.slice a1 R.length c1') = V86 at *
                refine hK.out _ _ ?_ (fun hHeld => ?_)
                · trivial
                clear hK K
                (try simp only [Act.put]); (try simp only [List.setIfInBounds_toArray]); (try simp only [List.set_cons_succ]); (try simp only [List.set_cons_zero])
                refine wpAnyH_take (i := 11) (oi := ⟨_, _, _, _, _, _⟩) (v := ?_) rfl (by kernel_rfl) (by kernel_rfl) (by kernel_rfl) (fun _ _ _ h => h) (Or.inl ⟨by rfl, ?_⟩) (by assumption) ?_
                rotate_left 1
                · intro w hSw; go_simp <;> with_reducible rfl
                (try simp only [Act.put]); (try simp only [List.setIfInBounds_toArray]); (try simp only [List.set_cons_succ]); (try simp only [List.set_cons_zero])
                refine wpAnyH_ready (rs := [12]) (by kernel_rfl) (by simp) ?_
                refine AllReadyH.cons (o := ⟨_, _, _, _, _, _⟩) rfl (fun K hK => ?_) AllReadyH.nil
                · have f := hB.frozen 4
                  have c := hB.cell 4 (v := .slice aw Q.length cw) rfl
                  go_simp
                  clear f c
                  have J9 : Keeps w (V86.setCell ⟨w.heap.size, 4, none⟩ (.slice a2 Q.length c2')) := keeps_set J (Nat.le_refl _) _ _
                  replace hr1 := hr1.set hB (by decide) 4 (.slice a2 Q.length c2')
                  replace hr2 := hr2.set hB (by decide) 4 (.slice a2 Q.length c2')
                  replace hr3 := hr3.set hB (by decide) 4 (.slice a2 Q.length c2')
                  replace hZ := hZ.setOther (show w.heap.size + 1 ≠ w.heap.size by omega) 4 (.slice a2 Q.length c2')
                  replace hB := hB.set 4 (.slice a2 Q.length c2')
                  simp only [List.setIfInBounds_toArray, List.set_cons_succ, List.set_cons_zero] at hB
                  replace J := J9; clear J9
                  generalize V86.setCell ⟨w.heap.size, 4, none⟩ (.slice a2 Q.length c2') = V87 at *
                  refine hK.out _ _ ?_ (fun hHeld => ?_)
                  · trivial
                  clear hK K
                  (try simp only [Act.put]); (try simp only [List.setIfInBounds_toArray]); (try simp only [List.set_cons_succ]); (try simp only [List.set_cons_zero])
                  refine wpAnyH_take (i := 13) (oi := ⟨_, _, _, _, _, _⟩) (v := ?_) rfl (by kernel_rfl) (by kernel_rfl) (by kernel_rfl) (fun _ _ _ h => h) (Or.inl ⟨by rfl, ?_⟩) (by assumption) ?_
                  rotate_left 1
                  · intro w hSw; go_simp <;> with_reducible rfl
                  (try simp only [Act.put]); (try simp only [List.setIfInBounds_toArray]); (try simp only [List.set_cons_succ]); (try simp only [List.set_cons_zero])
                  refine wpAnyH_ready (rs := [14]) (by kernel_rfl) (by simp) ?_
                  refine AllReadyH.cons (o := ⟨_, _, _, _, _, _⟩) rfl (fun K hK => ?_) AllReadyH.nil
                  · have f := hB.frozen 5
                    have c := hB.cell 5 (v := .slice af F.length cf) rfl
                    go_simp
                    clear f c
                    have J9 : Keeps w (V87.setCell ⟨w.heap.size, 5, none⟩ (.slice a3 F.length c3')) := keeps_set J (Nat.le_refl _) _ _
                    replace hr1 := hr1.set hB (by decide) 5 (.slice a3 F.length c3')
                    replace hr2 := hr2.set hB (by decide) 5 (.slice a3 F.length c3')
                    replace hr3 := hr3.set hB (by decide) 5 (.slice a3 F.length c3')
                    replace hZ := hZ.setOther (show w.heap.size + 1 ≠ w.heap.size by omega) 5 (.slice a3 F.length c3')
                    replace hB := hB.set 5 (.slice a3 F.length c3')
                    simp only [List.setIfInBounds_toArray, List.set_cons_succ, List.set_cons_zero] at hB
                    replace J := J9; clear J9
                    generalize V87.setCell ⟨w.heap.size, 5, none⟩ (.slice a3 F.length c3') = V88 at *
                    refine hK.out _ _ ?_ (fun hHeld => ?_)
                    · trivial
                    clear hK K
                    (try simp only [Act.put]); (try simp only [List.setIfInBounds_toArray]); (try simp only [List.set_cons_succ]); (try simp only [List.set_cons_zero])
                    refine wpAnyH_done (by kernel_rfl) ?_ _
                    obtain ⟨c0, c1, c2, c3, c4, c5⟩ := hB.c6
                    obtain ⟨g0, g1, g2, g3, g4, g5⟩ := hZ.f6
                    obtain ⟨d0, d1, d2, d3, d4, d5⟩ := hZ.c6
                    go_wp2_with fail
                    clear c0 c1 c2 c3 c4 c5 g0 g1 g2 g3 g4 g5 d0 d1 d2 d3 d4 d5
                    have KZ := keeps_set6 J (Nat.le_succ _) (.string nm) (.int .i64 kd) (.int .u16 (sv M)) (.slice a1 R.length c1') (.slice a2 Q.length c2') (.slice a3 F.length c3')
                    have RZ : RoG _ (⟨⟨nm, kd, M, R, Q, F⟩, a1, c1', a2, c2', a3, c3'⟩ : CA) := RoG.set6 (z := ⟨⟨nm, kd, M, R, Q, F⟩, a1, c1', a2, c2', a3, c3'⟩) ⟨hr1, hr2, hr3⟩ hZ (.string nm) (.int .i64 kd) (.int .u16 (sv M)) (.slice a1 R.length c1') (.slice a2 Q.length c2') (.slice a3 F.length c3')
                    have hZ6 := hZ.set6 (.string nm) (.int .i64 kd) (.int .u16 (sv M)) (.slice a1 R.length c1') (.slice a2 Q.length c2') (.slice a3 F.length c3')
                    refine bodyPost_ret (resCfg1 (z := ⟨⟨nm, kd, M, R, Q, F⟩, a1, c1', a2, c2', a3, c3'⟩) rfl hZ6 rfl) rfl ?_
                    exact ⟨⟨⟨nm, kd, M, R, Q, F⟩, a1, c1', a2, c2', a3, c3'⟩, rfl, rfl, RZ, KZ⟩
  · obtain ⟨c0, c1, c2, c3, c4, c5⟩ := hB.c6
    go_simp
    clear c0 c1 c2 c3 c4 c5
    refine hK.out _ _ ?_ (fun hHeld => ?_)
    · trivial
    clear hK K
    (try simp only [Act.put]); (try simp only [List.setIfInBounds_toArray]); (try simp only [List.set_cons_succ]); (try simp only [List.set_cons_zero])
    refine wpAnyH_ready (rs := [1, 4]) (by kernel_rfl) (by simp) ?_
    refine AllReadyH.cons (o := ⟨_, _, _, _, _, _⟩) rfl (fun K hK => ?_) (AllReadyH.cons (o := ⟨_, _, _, _, _, _⟩) rfl (fun K hK => ?_) AllReadyH.nil)
    · obtain ⟨c0, c1, c2, c3, c4, c5⟩ := hB.c6
      go_simp
      clear c0 c1 c2 c3 c4 c5
      refine hK.out _ _ ?_ (fun hHeld => ?_)
      · trivial
      clear hK K
      (try simp only [Act.put]); (try simp only [List.setIfInBounds_toArray]); (try simp only [List.set_cons_succ]); (try simp only [List.set_cons_zero])
      refine wpAnyH_ready (rs := [2, 4]) (by kernel_rfl) (by simp) ?_
      refine AllReadyH.cons (o := ⟨_, _, _, _, _, _⟩) rfl (fun K hK => ?_) (AllReadyH.cons (o := ⟨_, _, _, _, _, _⟩) rfl (fun K hK => ?_) AllReadyH.nil)
      · go_simp
        refine (H1.out _ J).mono ?_
        rintro e V91 ⟨a1, c1', rfl, hr1, K9⟩
        replace hB := hB.keep K9; replace hZ := hZ.keep K9; replace J := J.trans K9
        clear K9
        refine hK.out _ _ ?_ (fun hHeld => ?_)
        · trivial
        clear hK K
        (try simp only [Act.put]); (try simp only [List.setIfInBounds_toArray]); (try simp only [List.set_cons_succ]); (try simp only [List.set_cons_zero])
        refine wpAnyH_ready (rs := [4]) (by kernel_rfl) (by simp) ?_
        refine AllReadyH.cons (o := ⟨_, _, _, _, _, _⟩) rfl (fun K hK => ?_) AllReadyH.nil
        · obtain ⟨c0, c1, c2, c3, c4, c5⟩ := hB.c6
          go_simp
          clear c0 c1 c2 c3 c4 c5
          refine hK.out _ _ ?_ (fun hHeld => ?_)
          · trivial
          clear hK K
          (try simp only [Act.put]); (try simp only [List.setIfInBounds_toArray]); (try simp only [List.set_cons_succ]); (try simp only [List.set_cons_zero])
          refine wpAnyH_take (i := 9) (oi := ⟨_, _, _, _, _, _⟩) (v := ?_) rfl (by kernel_rfl) (by kernel_rfl) (by kernel_rfl) (fun _ _ _ h => h) (Or.inl ⟨by rfl, ?_⟩) (by assumption) ?_
          rotate_left 1
          · intro w hSw; go_simp <;> with_reducible rfl
          (try simp only [Act.put]); (try simp only [List.setIfInBounds_toArray]); (try simp only [List.set_cons_succ]); (try simp only [List.set_cons_zero])
          refine wpAnyH_ready (rs := [5]) (by kernel_rfl) (by simp) ?_
          refine AllReadyH.cons (o := ⟨_, _, _, _, _, _⟩) rfl (fun K hK => ?_) AllReadyH.nil
          · go_simp
            refine (H2.out _ J).mono ?_
            rintro e V93 ⟨a2, c2', rfl, hr2, K9⟩
            replace hB := hB.keep K9; replace hZ := hZ.keep K9; replace J := J.trans K9
            replace hr1 := hr1.keep K9
            clear K9
            refine hK.out _ _ ?_ (fun hHeld => ?_)
            · trivial
            clear hK K
            (try simp only [Act.put]); (try simp only [List.setIfInBounds_toArray]); (try simp only [List.set_cons_succ]); (try simp only [List.set_cons_zero])
            refine wpAnyH_ready (rs := [8]) (by kernel_rfl) (by simp) ?_
            refine AllReadyH.cons (o := ⟨_, _, _, _, _, _⟩) rfl (fun K hK => ?_) AllReadyH.nil
            · go_simp
              refine (H3.out _ J).mono ?_
              rintro e V94 ⟨a3, c3', rfl, hr3, K9⟩
              replace hB := hB.keep K9; replace hZ := hZ.keep K9; replace J := J.trans K9
              replace hr1 := hr1.keep K9
              replace hr2 := hr2.keep K9
              clear K9
              refine hK.out _ _ ?_ (fun hHeld => ?_)
              · trivial
              clear hK K
              (try simp only [Act.put]); (try simp only [List.setIfInBounds_toArray]); (try simp only [List.set_cons_succ]); (try simp only [List.set_cons_zero])
              refine wpAnyH_ready (rs := [10]) (by kernel_rfl) (by simp) ?_
              refine AllReadyH.cons (o := ⟨_, _, _, _, _, _⟩) rfl (fun K hK => ?_) AllReadyH.nil
              · have f := hB.frozen 3
                have c := hB.cell 3 (v := .slice ar R.length cr) rfl
                go_simp
                clear f c
                have J9 : Keeps w (V94.setCell ⟨w.heap.size, 3, none⟩ (.slice a1 R.length c1')) := keeps_set J (Nat.le_refl _) _ _
                replace hr1 := hr1.set hB (by decide) 3 (.slice a1 R.length c1')
                replace hr2 := hr2.set hB (by decide) 3 (.slice a1 R.length c1')
                replace hr3 := hr3.set hB (by decide) 3 (.slice a1 R.length c1')
                replace hZ := hZ.setOther (show w.heap.size + 1 ≠ w.heap.size by omega) 3 (.slice a1 R.length c1')
                replace hB := hB.set 3 (.slice a1 R.length c1')
                simp only [List.setIfInBounds_toArray, List.set_cons_succ, List.set_cons_zero] at hB
                replace J := J9; clear J9
                generalize V94.setCell ⟨w.heap.size, 3, none⟩ (.slice a1 R.length c1') = V95 at *
                refine hK.out _ _ ?_ (fun hHeld => ?_)
                · trivial
                clear hK K
                (try simp only [Act.put]); (try simp only [List.setIfInBounds_toArray]); (try simp only [List.set_cons_succ]); (try simp only [List.set_cons_zero])
                refine wpAnyH_take (i := 11) (oi := ⟨_, _, _, _, _, _⟩) (v := ?_) rfl (by kernel_rfl) (by kernel_rfl) (by kernel_rfl) (fun _ _ _ h => h) (Or.inl ⟨by rfl, ?_⟩) (by assumption) ?_
                rotate_left 1
                · intro w hSw; go_simp <;> with_reducible rfl
                (try simp only [Act.put]); (try simp only [List.setIfInBounds_toArray]); (try simp only [List.set_cons_succ]); (try simp only [List.set_cons_zero])
                refine wpAnyH_ready (rs := [12]) (by kernel_rfl) (by simp) ?_
                refine AllReadyH.cons (o := ⟨_, _, _, _, _, _⟩) rfl (fun K hK => ?_) AllReadyH.nil
                · have f := hB.frozen 4
                  have c := hB.cell 4 (v := .slice aw Q.length cw) rfl
                  go_simp
                  clear f c
                  have J9 : Keeps w (V95.setCell ⟨w.heap.size, 4, none⟩ (.slice a2 Q.length c2')) := keeps_set J (Nat.le_refl _) _ _
                  replace hr1 := hr1.set hB (by decide) 4 (.slice a2 Q.length c2')
                  replace hr2 := hr2.set hB (by decide) 4 (.slice a2 Q.length c2')
                  replace hr3 := hr3.set hB (by decide) 4 (.slice a2 Q.length c2')
                  replace hZ := hZ.setOther (show w.heap.size + 1 ≠ w.heap.size by omega) 4 (.slice a2 Q.length c2')
                  replace hB := hB.set 4 (.slice a2 Q.length c2')
                  simp only [List.setIfInBounds_toArray, List.set_cons_succ, List.set_cons_zero] at hB
                  replace J := J9; clear J9
                  generalize V95.setCell ⟨w.heap.size, 4, none⟩ (.slice a2 Q.length c2') = V96 at *
                  refine hK.out _ _ ?_ (fun hHeld => ?_)
                  · trivial
                  clear hK K
                  (try simp only [Act.put]); (try simp only [List.setIfInBounds_toArray]); (try simp only [List.set_cons_succ]); (try simp only [List.set_cons_zero])
                  refine wpAnyH_take (i := 13) (oi := ⟨_, _, _, _, _, _⟩) (v := ?_) rfl (by kernel_rfl) (by kernel_rfl) (by kernel_rfl) (fun _ _ _ h => h) (Or.inl ⟨by rfl, ?_⟩) (by assumption) ?_
                  rotate_left 1
                  · intro w hSw; go_simp <;> with_reducible rfl
                  (try simp only [Act.put]); (try simp only [List.setIfInBounds_toArray]); (try simp only [List.set_cons_succ]); (try simp only [List.set_cons_zero])
                  refine wpAnyH_ready (rs := [14]) (by kernel_rfl) (by simp) ?_
                  refine AllReadyH.cons (o := ⟨_, _, _, _, _, _⟩) rfl (fun K hK => ?_) AllReadyH.nil
                  · have f := hB.frozen 5
                    have c := hB.cell 5 (v := .slice af F.length cf) rfl
                    go_simp
                    clear f c
                    have J9 : Keeps w (V96.setCell ⟨w.heap.size, 5, none⟩ (.slice a3 F.length c3')) := keeps_set J (Nat.le_refl _) _ _
                    replace hr1 := hr1.set hB (by decide) 5 (.slice a3 F.length c3')
                    replace hr2 := hr2.set hB (by decide) 5 (.slice a3 F.length c3')
                    replace hr3 := hr3.set hB (by decide) 5 (.slice a3 F.length c3')
                    replace hZ := hZ.setOther (show w.heap.size + 1 ≠ w.heap.size by omega) 5 (.slice a3 F.length c3')
                    replace hB := hB.set 5 (.slice a3 F.length c3')
                    simp only [List.setIfInBounds_toArray, List.set_cons_succ, List.set_cons_zero] at hB
                    replace J := J9; clear J9
                    generalize V96.setCell ⟨w.heap.size, 5, none⟩ (.slice a3 F.length c3') = V97 at *
                    refine hK.out _ _ ?_ (fun hHeld => ?_)
                    · trivial
                    clear hK K
                    (try simp only [Act.put]); (try simp only [List.setIfInBounds_toArray]); (try simp only [List.set_cons_succ]); (try simp only [List.set_cons_zero])
                    refine wpAnyH_done (by kernel_rfl) ?_ _
                    obtain ⟨c0, c1, c2, c3, c4, c5⟩ := hB.c6
                    obtain ⟨g0, g1, g2, g3, g4, g5⟩ := hZ.f6
                    obtain ⟨d0, d1, d2, d3, d4, d5⟩ := hZ.c6
                    go_wp2_with fail
                    clear c0 c1 c2 c3 c4 c5 g0 g1 g2 g3 g4 g5 d0 d1 d2 d3 d4 d5
                    have KZ := keeps_set6 J (Nat.le_succ _) (.string nm) (.int .i64 kd) (.int .u16 (sv M)) (.slice a1 R.length c1') (.slice a2 Q.length c2') (.slice a3 F.length c3')
                    have RZ : RoG _ (⟨⟨nm, kd, M, R, Q, F⟩, a1, c1', a2, c2', a3, c3'⟩ : CA) := RoG.set6 (z := ⟨⟨nm, kd, M, R, Q, F⟩, a1, c1', a2, c2', a3, c3'⟩) ⟨hr1, hr2, hr3⟩ hZ (.string nm) (.int .i64 kd) (.int .u16 (sv M)) (.slice a1 R.length c1') (.slice a2 Q.length c2') (.slice a3 F.length c3')
                    have hZ6 := hZ.set6 (.string nm) (.int .i64 kd) (.int .u16 (sv M)) (.slice a1 R.length c1') (.slice a2 Q.length c2') (.slice a3 F.length c3')
                    refine bodyPost_ret (resCfg1 (z := ⟨⟨nm, kd, M, R, Q, F⟩, a1, c1', a2, c2', a3, c3'⟩) rfl hZ6 rfl) rfl ?_
                    exact ⟨⟨⟨nm, kd, M, R, Q, F⟩, a1, c1', a2, c2', a3, c3'⟩, rfl, rfl, RZ, KZ⟩
      · obtain ⟨c0, c1, c2, c3, c4, c5⟩ := hB.c6
        go_simp
        clear c0 c1 c2 c3 c4 c5
        refine hK.out _ _ ?_ (fun hHeld => ?_)
        · trivial
        clear hK K
        (try simp only [Act.put]); (try simp only [List.setIfInBounds_toArray]); (try simp only [List.set_cons_succ]); (try simp only [List.set_cons_zero])
        refine wpAnyH_ready (rs := [2]) (by kernel_rfl) (by simp) ?_
        refine AllReadyH.cons (o := ⟨_, _, _, _, _, _⟩) rfl (fun K hK => ?_) AllReadyH.nil
        · go_simp
          refine (H1.out _ J).mono ?_
          rintro e V99 ⟨a1, c1', rfl, hr1, K9⟩
          replace hB := hB.keep K9; replace hZ := hZ.keep K9; replace J := J.trans K9
          clear K9
          refine hK.out _ _ ?_ (fun hHeld => ?_)
          · trivial
          clear hK K
          (try simp only [Act.put]); (try simp only [List.setIfInBounds_toArray]); (try simp only [List.set_cons_succ]); (try simp only [List.set_cons_zero])
          refine wpAnyH_take (i := 9) (oi := ⟨_, _, _, _, _, _⟩) (v := ?_) rfl (by kernel_rfl) (by kernel_rfl) (by kernel_rfl) (fun _ _ _ h => h) (Or.inl ⟨by rfl, ?_⟩) (by assumption) ?_
          rotate_left 1
          · intro w hSw; go_simp <;> with_reducible rfl
          (try simp only [Act.put]); (try simp only [List.setIfInBounds_toArray]); (try simp only [List.set_cons_succ]); (try simp only [List.set_cons_zero])
          refine wpAnyH_ready (rs := [5]) (by kernel_rfl) (by simp) ?_
          refine AllReadyH.cons (o := ⟨_, _, _, _, _, _⟩) rfl (fun K hK => ?_) AllReadyH.nil
          · go_simp
            refine (H2.out _ J).mono ?_
            rintro e V100 ⟨a2, c2', rfl, hr2, K9⟩
            replace hB := hB.keep K9; replace hZ := hZ.keep K9; replace J := J.trans K9
            replace hr1 := hr1.keep K9
            clear K9
            refine hK.out _ _ ?_ (fun hHeld => ?_)
            · trivial
            clear hK K
            (try simp only [Act.put]); (try simp only [List.setIfInBounds_toArray]); (try simp only [List.set_cons_succ]); (try simp only [List.set_cons_zero])
            refine wpAnyH_ready (rs := [8]) (by kernel_rfl) (by simp) ?_
            refine AllReadyH.cons (o := ⟨_, _, _, _, _, _⟩) rfl (fun K hK => ?_) AllReadyH.nil
            · go_simp
              refine (H3.out _ J).mono ?_
              rintro e V101 ⟨a3, c3', rfl, hr3, K9⟩
              replace hB := hB.keep K9; replace hZ := hZ.keep K9; replace J := J.trans K9
              replace hr1 := hr1.keep K9
              replace hr2 := hr2.keep K9
              clear K9
              refine hK.out _ _ ?_ (fun hHeld => ?_)
              · trivial
              clear hK K
              (try simp only [Act.put]); (try simp only [List.setIfInBounds_toArray]); (try simp only [List.set_cons_succ]); (try simp only [List.set_cons_zero])
              refine wpAnyH_ready (rs := [10]) (by kernel_rfl) (by simp) ?_
              refine AllReadyH.cons (o := ⟨_, _, _, _, _, _⟩) rfl (fun K hK => ?_) AllReadyH.nil
              · have f := hB.frozen 3
                have c := hB.cell 3 (v := .slice ar R.length cr) rfl
                go_simp
                clear f c
                have J9 : Keeps w (V101.setCell ⟨w.heap.size, 3, none⟩ (.slice a1 R.length c1')) := keeps_set J (Nat.le_refl _) _ _
                replace hr1 := hr1.set hB (by decide) 3 (.slice a1 R.length c1')
                replace hr2 := hr2.set hB (by decide) 3 (.slice a1 R.length c1')
                replace hr3 := hr3.set hB (by decide) 3 (.slice a1 R.length c1')
                replace hZ := hZ.setOther (show w.heap.size + 1 ≠ w.heap.size by omega) 3 (.slice a1 R.length c1')
                replace hB := hB.set 3 (.slice a1 R.length c1')
                simp only [List.setIfInBounds_toArray, List.set_cons_succ, List.set_cons_zero] at hB
                replace J := J9; clear J9
                generalize V101.setCell ⟨w.heap.size, 3, none⟩ (.slice a1 R.length c1') = V102 at *
                refine hK.out _ _ ?_ (fun hHeld => ?_)
                · trivial
                clear hK K
                (try simp only [Act.put]); (try simp only [List.setIfInBounds_toArray]); (try simp only [List.set_cons_succ]); (try simp only [List.set_cons_zero])
                refine wpAnyH_take (i := 11) (oi := ⟨_, _, _, _, _, _⟩) (v := ?_) rfl (by kernel_rfl) (by kernel_rfl) (by kernel_rfl) (fun _ _ _ h => h) (Or.inl ⟨by rfl, ?_⟩) (by assumption) ?_
                rotate_left 1
                · intro w hSw; go_simp <;> with_reducible rfl
                (try simp only [Act.put]); (try simp only [List.setIfInBounds_toArray]); (try simp only [List.set_cons_succ]); (try simp only [List.set_cons_zero])
                refine wpAnyH_ready (rs := [12]) (by kernel_rfl) (by simp) ?_
                refine AllReadyH.cons (o := ⟨_, _, _, _, _, _⟩) rfl (fun K hK => ?_) AllReadyH.nil
                · have f := hB.frozen 4
                  have c := hB.cell 4 (v := .slice aw Q.length cw) rfl
                  go_simp
                  clear f c
                  have J9 : Keeps w (V102.setCell ⟨w.heap.size, 4, none⟩ (.slice a2 Q.length c2')) := keeps_set J (Nat.le_refl _) _ _
                  replace hr1 := hr1.set hB (by decide) 4 (.slice a2 Q.length c2')
                  replace hr2 := hr2.set hB (by decide) 4 (.slice a2 Q.length c2')
                  replace hr3 := hr3.set hB (by decide) 4 (.slice a2 Q.length c2')
                  replace hZ := hZ.setOther (show w.heap.size + 1 ≠ w.heap.size by omega) 4 (.slice a2 Q.length c2')
                  replace hB := hB.set 4 (.slice a2 Q.length c2')
                  simp only [List.setIfInBounds_toArray, List.set_cons_succ, List.set_cons_zero] at hB
                  replace J := J9; clear J9
                  generalize V102.setCell ⟨w.heap.size, 4, none⟩ (.slice a2 Q.length c2') = V103 at *
                  refine hK.out _ _ ?_ (fun hHeld => ?_)
                  · trivial
                  clear hK K
                  (try simp only [Act.put]); (try simp only [List.setIfInBounds_toArray]); (try simp only [List.set_cons_succ]); (try simp only [List.set_cons_zero])
                  refine wpAnyH_take (i := 13) (oi := ⟨_, _, _, _, _, _⟩) (v := ?_) rfl (by kernel_rfl) (by kernel_rfl) (by kernel_rfl) (fun _ _ _ h => h) (Or.inl ⟨by rfl, ?_⟩) (by assumption) ?_
                  rotate_left 1
                  · intro w hSw; go_simp <;> with_reducible rfl
                  (try simp only [Act.put]); (try simp only [List.setIfInBounds_toArray]); (try simp only [List.set_cons_succ]); (try simp only [List.set_cons_zero])
                  refine wpAnyH_ready (rs := [14]) (by kernel_rfl) (by simp) ?_
                  refine AllReadyH.cons (o := ⟨_, _, _, _, _, _⟩) rfl (fun K hK => ?_) AllReadyH.nil
                  · have f := hB.frozen 5
                    have c := hB.cell 5 (v := .slice af F.length cf) rfl
                    go_simp
                    clear f c
                    have J9 : Keeps w (V103.setCell ⟨w.heap.size, 5, none⟩ (.slice a3 F.length c3')) := keeps_set J (Nat.le_refl _) _ _
                    replace hr1 := hr1.set hB (by decide) 5 (.slice a3 F.length c3')
                    replace hr2 := hr2.set hB (by decide) 5 (.slice a3 F.length c3')
                    replace hr3 := hr3.set hB (by decide) 5 (.slice a3 F.length c3')
                    replace hZ := hZ.setOther (show w.heap.size + 1 ≠ w.heap.size by omega) 5 (.slice a3 F.length c3')
                    replace hB := hB.set 5 (.slice a3 F.length c3')
                    simp only [List.setIfInBounds_toArray, List.set_cons_succ, List.set_cons_zero] at hB
                    replace J := J9; clear J9
                    generalize V103.setCell ⟨w.heap.size, 5, none⟩ (.slice a3 F.length c3') = V104 at *
                    refine hK.out _ _ ?_ (fun hHeld => ?_)
                    · trivial
                    clear hK K
                    (try simp only [Act.put]); (try simp only [List.setIfInBounds_toArray]); (try simp only [List.set_cons_succ]); (try simp only [List.set_cons_zero])
                    refine wpAnyH_done (by kernel_rfl) ?_ _
                    obtain ⟨c0, c1, c2, c3, c4, c5⟩ := hB.c6
                    obtain ⟨g0, g1, g2, g3, g4, g5⟩ := hZ.f6
                    obtain ⟨d0, d1, d2, d3, d4, d5⟩ := hZ.c6
                    go_wp2_with fail
                    clear c0 c1 c2 c3 c4 c5 g0 g1 g2 g3 g4 g5 d0 d1 d2 d3 d4 d5
                    have KZ := keeps_set6 J (Nat.le_succ _) (.string nm) (.int .i64 kd) (.int .u16 (sv M)) (.slice a1 R.length c1') (.slice a2 Q.length c2') (.slice a3 F.length c3')
                    have RZ : RoG _ (⟨⟨nm, kd, M, R, Q, F⟩, a1, c1', a2, c2', a3, c3'⟩ : CA) := RoG.set6 (z := ⟨⟨nm, kd, M, R, Q, F⟩, a1, c1', a2, c2', a3, c3'⟩) ⟨hr1, hr2, hr3⟩ hZ (.string nm) (.int .i64 kd) (.int .u16 (sv M)) (.slice a1 R.length c1') (.slice a2 Q.length c2') (.slice a3 F.length c3')
                    have hZ6 := hZ.set6 (.string nm) (.int .i64 kd) (.int .u16 (sv M)) (.slice a1 R.length c1') (.slice a2 Q.length c2') (.slice a3 F.length c3')
                    refine bodyPost_ret (resCfg1 (z := ⟨⟨nm, kd, M, R, Q, F⟩, a1, c1', a2, c2', a3, c3'⟩) rfl hZ6 rfl) rfl ?_
                    exact ⟨⟨⟨nm, kd, M, R, Q, F⟩, a1, c1', a2, c2', a3, c3'⟩, rfl, rfl, RZ, KZ⟩
    · obtain ⟨c0, c1, c2, c3, c4, c5⟩ := hB.c6
      go_simp
      clear c0 c1 c2 c3 c4 c5
      refine hK.out _ _ ?_ (fun hHeld => ?_)
      · trivial
      clear hK K
      (try simp only [Act.put]); (try simp only [List.setIfInBounds_toArray]); (try simp only [List.set_cons_succ]); (try simp only [List.set_cons_zero])
      refine wpAnyH_ready (rs := [1]) (by kernel_rfl) (by simp) ?_
      refine AllReadyH.cons (o := ⟨_, _, _, _, _, _⟩) rfl (fun K hK => ?_) AllReadyH.nil
      · obtain ⟨c0, c1, c2, c3, c4, c5⟩ := hB.c6
        go_simp
        clear c0 c1 c2 c3 c4 c5
        refine hK.out _ _ ?_ (fun hHeld => ?_)
        · trivial
        clear hK K
        (try simp only [Act.put]); (try simp only [List.setIfInBounds_toArray]); (try simp only [List.set_cons_succ]); (try simp only [List.set_cons_zero])
        refine wpAnyH_ready (rs := [2]) (by kernel_rfl) (by simp) ?_
        refine AllReadyH.cons (o := ⟨_, _, _, _, _, _⟩) rfl (fun K hK => ?_) AllReadyH.nil
        · go_simp
          refine (H1.out _ J).mono ?_
          rintro e V107 ⟨a1, c1', rfl, hr1, K9⟩
          replace hB := hB.keep K9; replace hZ := hZ.keep K9; replace J := J.trans K9
          clear K9
          refine hK.out _ _ ?_ (fun hHeld => ?_)
          · trivial
          clear hK K
          (try simp only [Act.put]); (try simp only [List.setIfInBounds_toArray]); (try simp only [List.set_cons_succ]); (try simp only [List.set_cons_zero])
          refine wpAnyH_take (i := 9) (oi := ⟨_, _, _, _, _, _⟩) (v := ?_) rfl (by kernel_rfl) (by kernel_rfl) (by kernel_rfl) (fun _ _ _ h => h) (Or.inl ⟨by rfl, ?_⟩) (by assumption) ?_
          rotate_left 1
          · intro w hSw; go_simp <;> with_reducible rfl
          (try simp only [Act.put]); (try simp only [List.setIfInBounds_toArray]); (try simp only [List.set_cons_succ]); (try simp only [List.set_cons_zero])
          refine wpAnyH_ready (rs := [5]) (by kernel_rfl) (by simp) ?_
          refine AllReadyH.cons (o := ⟨_, _, _, _, _, _⟩) rfl (fun K hK => ?_) AllReadyH.nil
          · go_simp
            refine (H2.out _ J).mono ?_
            rintro e V108 ⟨a2, c2', rfl, hr2, K9⟩
            replace hB := hB.keep K9; replace hZ := hZ.keep K9; replace J := J.trans K9
            replace hr1 := hr1.keep K9
            clear K9
            refine hK.out _ _ ?_ (fun hHeld => ?_)
            · trivial
            clear hK K
            (try simp only [Act.put]); (try simp only [List.setIfInBounds_toArray]); (try simp only [List.set_cons_succ]); (try simp only [List.set_cons_zero])
            refine wpAnyH_ready (rs := [8]) (by kernel_rfl) (by simp) ?_
            refine AllReadyH.cons (o := ⟨_, _, _, _, _, _⟩) rfl (fun K hK => ?_) AllReadyH.nil
            · go_simp
              refine (H3.out _ J).mono ?_
              rintro e V109 ⟨a3, c3', rfl, hr3, K9⟩
              replace hB := hB.keep K9; replace hZ := hZ.keep K9; replace J := J.trans K9
              replace hr1 := hr1.keep K9
              replace hr2 := hr2.keep K9
              clear K9
              refine hK.out _ _ ?_ (fun hHeld => ?_)
              · trivial
              clear hK K
              (try simp only [Act.put]); (try simp only [List.setIfInBounds_toArray]); (try simp only [List.set_cons_succ]); (try simp only [List.set_cons_zero])
              refine wpAnyH_ready (rs := [10]) (by kernel_rfl) (by simp) ?_
              refine AllReadyH.cons (o := ⟨_, _, _, _, _, _⟩) rfl (fun K hK => ?_) AllReadyH.nil
              · have f := hB.frozen 3
                have c := hB.cell 3 (v := .slice ar R.length cr) rfl
                go_simp
                clear f c
                have J9 : Keeps w (V109.setCell ⟨w.heap.size, 3, none⟩ (.slice a1 R.length c1')) := keeps_set J (Nat.le_refl _) _ _
                replace hr1 := hr1.set hB (by decide) 3 (.slice a1 R.length c1')
                replace hr2 := hr2.set hB (by decide) 3 (.slice a1 R.length c1')
                replace hr3 := hr3.set hB (by decide) 3 (.slice a1 R.length c1')
                replace hZ := hZ.setOther (show w.heap.size + 1 ≠ w.heap.size by omega) 3 (.slice a1 R.length c1')
                replace hB := hB.set 3 (.slice a1 R.length c1')
                simp only [List.setIfInBounds_toArray, List.set_cons_succ, List.set_cons_zero] at hB
                replace J := J9; clear J9
                generalize V109.setCell ⟨w.heap.size, 3, none⟩ (.slice a1 R.length c1') = V110 at *
                refine hK.out _ _ ?_ (fun hHeld => ?_)
                · trivial
                clear hK K
                (try simp only [Act.put]); (try simp only [List.setIfInBounds_toArray]); (try simp only [List.set_cons_succ]); (try simp only [List.set_cons_zero])
                refine wpAnyH_take (i := 11) (oi := ⟨_, _, _, _, _, _⟩) (v := ?_) rfl (by kernel_rfl) (by kernel_rfl) (by kernel_rfl) (fun _ _ _ h => h) (Or.inl ⟨by rfl, ?_⟩) (by assumption) ?_
                rotate_left 1
                · intro w hSw; go_simp <;> with_reducible rfl
                (try simp only [Act.put]); (try simp only [List.setIfInBounds_toArray]); (try simp only [List.set_cons_succ]); (try simp only [List.set_cons_zero])
                refine wpAnyH_ready (rs := [12]) (by kernel_rfl) (by simp) ?_
                refine AllReadyH.cons (o := ⟨_, _, _, _, _, _⟩) rfl (fun K hK => ?_) AllReadyH.nil
                · have f := hB.frozen 4
                  have c := hB.cell 4 (v := .slice aw Q.length cw) rfl
                  go_simp
                  clear f c
                  have J9 : Keeps w (V110.setCell ⟨w.heap.size, 4, none⟩ (.slice a2 Q.length c2')) := keeps_set J (Nat.le_refl _) _ _
                  replace hr1 := hr1.set hB (by decide) 4 (.slice a2 Q.length c2')
                  replace hr2 := hr2.set hB (by decide) 4 (.slice a2 Q.length c2')
                  replace hr3 := hr3.set hB (by decide) 4 (.slice a2 Q.length c2')
                  replace hZ := hZ.setOther (show w.heap.size + 1 ≠ w.heap.size by omega) 4 (.slice a2 Q.length c2')
                  replace hB := hB.set 4 (.slice a2 Q.length c2')
                  simp only [List.setIfInBounds_toArray, List.set_cons_succ, List.set_cons_zero] at hB
                  replace J := J9; clear J9
                  generalize V110.setCell ⟨w.heap.size, 4, none⟩ (.slice a2 Q.length c2') = V111 at *
                  refine hK.out _ _ ?_ (fun hHeld => ?_)
                  · trivial
                  clear hK K
                  (try simp only [Act.put]); (try simp only [List.setIfInBounds_toArray]); (try simp only [List.set_cons_succ]); (try simp only [List.set_cons_zero])
                  refine wpAnyH_take (i := 13) (oi := ⟨_, _, _, _, _, _⟩) (v := ?_) rfl (by kernel_rfl) (by kernel_rfl) (by kernel_rfl) (fun _ _ _ h => h) (Or.inl ⟨by rfl, ?_⟩) (by assumption) ?_
                  rotate_left 1
                  · intro w hSw; go_simp <;> with_reducible rfl
                  (try simp only [Act.put]); (try simp only [List.setIfInBounds_toArray]); (try simp only [List.set_cons_succ]); (try simp only [List.set_cons_zero])
                  refine wpAnyH_ready (rs := [14]) (by kernel_rfl) (by simp) ?_
                  refine AllReadyH.cons (o := ⟨_, _, _, _, _, _⟩) rfl (fun K hK => ?_) AllReadyH.nil
                  · have f := hB.frozen 5
                    have c := hB.cell 5 (v := .slice af F.length cf) rfl
                    go_simp
                    clear f c
                    have J9 : Keeps w (V111.setCell ⟨w.heap.size, 5, none⟩ (.slice a3 F.length c3')) := keeps_set J (Nat.le_refl _) _ _
                    replace hr1 := hr1.set hB (by decide) 5 (.slice a3 F.length c3')
                    replace hr2 := hr2.set hB (by decide) 5 (.slice a3 F.length c3')
                    replace hr3 := hr3.set hB (by decide) 5 (.slice a3 F.length c3')
                    replace hZ := hZ.setOther (show w.heap.size + 1 ≠ w.heap.size by omega) 5 (.slice a3 F.length c3')
                    replace hB := hB.set 5 (.slice a3 F.length c3')
                    simp only [List.setIfInBounds_toArray, List.set_cons_succ, List.set_cons_zero] at hB
                    replace J := J9; clear J9
                    generalize V111.setCell ⟨w.heap.size, 5, none⟩ (.slice a3 F.length c3') = V112 at *
                    refine hK.out _ _ ?_ (fun hHeld => ?_)
                    · trivial
                    clear hK K
                    (try simp only [Act.put]); (try simp only [List.setIfInBounds_toArray]); (try simp only [List.set_cons_succ]); (try simp only [List.set_cons_zero])
                    refine wpAnyH_done (by kernel_rfl) ?_ _
                    obtain ⟨c0, c1, c2, c3, c4, c5⟩ := hB.c6
                    obtain ⟨g0, g1, g2, g3, g4, g5⟩ := hZ.f6
                    obtain ⟨d0, d1, d2, d3, d4, d5⟩ := hZ.c6
                    go_wp2_with fail
                    clear c0 c1 c2 c3 c4 c5 g0 g1 g2 g3 g4 g5 d0 d1 d2 d3 d4 d5
                    have KZ := keeps_set6 J (Nat.le_succ _) (.string nm) (.int .i64 kd) (.int .u16 (sv M)) (.slice a1 R.length c1') (.slice a2 Q.length c2') (.slice a3 F.length c3')
                    have RZ : RoG _ (⟨⟨nm, kd, M, R, Q, F⟩, a1, c1', a2, c2', a3, c3'⟩ : CA) := RoG.set6 (z := ⟨⟨nm, kd, M, R, Q, F⟩, a1, c1', a2, c2', a3, c3'⟩) ⟨hr1, hr2, hr3⟩ hZ (.string nm) (.int .i64 kd) (.int .u16 (sv M)) (.slice a1 R.length c1') (.slice a2 Q.length c2') (.slice a3 F.length c3')
                    have hZ6 := hZ.set6 (.string nm) (.int .i64 kd) (.int .u16 (sv M)) (.slice a1 R.length c1') (.slice a2 Q.length c2') (.slice a3 F.length c3')
                    refine bodyPost_ret (resCfg1 (z := ⟨⟨nm, kd, M, R, Q, F⟩, a1, c1', a2, c2', a3, c3'⟩) rfl hZ6 rfl) rfl ?_
                    exact ⟨⟨⟨nm, kd, M, R, Q, F⟩, a1, c1', a2, c2', a3, c3'⟩, rfl, rfl, RZ, KZ⟩
end Go.Proofs.YtnlohknlchgfgaaGreatDoor
