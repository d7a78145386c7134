/- Texts joined into one (wip/bin/pack.py): ChP, ChR. -/
import Derived.Test.YtnlohknlchgfgaaGreatDoorKSa
import Derived.Test.YtnlohknlchgfgaaGreatDoorKSb
import Derived.Deep.DeepCutAuto
import Derived.Test.YtnlohknlchgfgaaGreatDoorKZf
/- joint.Chain. -/
namespace Go.Proofs.YtnlohknlchgfgaaGreatDoor
open Go.RowKit Go.Lib Go.Shelf
def RetCh (w : World) (L : List Cf) (e : Ending) (w' : World) : Prop := ∃ v ys, e = .returned (.tuple #[v, .int .i64 (chainE L)]) ∧ Own 32 6 w w' v ys.length (gl ys) ∧ ys.map (·.c) = chainL L ∧ RoL w' ys
theorem gA_drop (l : List CA) (i : Nat) : gA (l.drop 1) i = gA l (i + 1) := by unfold gA; simp [List.getD]
theorem rol_app {w : World} {l m : List CA} (h : RoL w l) (k : RoL w m) : RoL w (l ++ m) := fun x hx => (List.mem_append.1 hx).elim (h x) (k x)
theorem rog_grown {w w' w0 : World} {z : CA} (h : RoG w z) {v : Value} {n : Nat} {xs : List Value} (hO : Own 32 6 w0 w v n xs) (hg : w.grownBy w' v.ownBlock) : RoG w' z :=
  ⟨row_kept h.r hO.1 (by decide) hg, row_kept h.q hO.1 (by decide) hg, row_kept h.f hO.1 (by decide) hg⟩
theorem rol_grown {w w' w0 : World} {l : List CA} (h : RoL w l) {v : Value} {n : Nat} {xs : List Value} (hO : Own 32 6 w0 w v n xs) (hg : w.grownBy w' v.ownBlock) : RoL w' l := fun x hx => rog_grown (h x hx) hO hg
theorem keeps_grown {w w' w0 : World} {e : TypeId} {sz : Nat} {v : Value} {n : Nat} {xs : List Value} (hO : Own e sz w0 w v n xs) (hg : w.grownBy w' v.ownBlock) : Keeps w0 w' := Below.grown hO.2.below hg hO.2.size (fun k hk => (hO.1.lt k hk).1)
set_option maxRecDepth 20000 in
set_option maxHeartbeats 8000000 in
theorem jchain_any (a : Option Addr) (n c : Nat) (l : List CA) (w : World) (h : Rd w a n c 6 (gl l)) (hl : RdL w l) (hn : n ≤ 1000000) :
    Calls Tryz.prog 12 #[.slice a n c] w fun e w' => RetCh w (l.map (·.c)) e w' := by
  have s1 := h.small
  have l1 := gl_rdlen h
  have L1 := Lib.hid l1
  by_cases h0 : n = 0
  · subst h0
    obtain rfl : l = [] := List.eq_nil_of_length_eq_zero l1
    clear l1 h hl
    go_enter Tryz.func12, Tryz.ntmps12
    go_wp2_with fail
    go_ret2
    exact ⟨_, [], rfl, Own.nil _ _ (Keeps.refl _), rfl, fun x hx => by simp at hx⟩
  · have hv := jvalid_any a n c l w h hl
    rw [vldL_eq] at hv
    have hvv : ∃ q, q = vldC (l.map (·.c)) := ⟨_, rfl⟩
    obtain ⟨q, hq⟩ := hvv
    rw [← hq] at hv
    have HQ := Lib.hid hq; have HV := Lib.hid hv; have HR := Lib.hid h; have HL := Lib.hid hl
    have ha := h.isSome (by omega)
    have hn1 : (1 : Int) ≤ (n : Int) := by omega
    clear hq hv h hl l1
    go_enter Tryz.func12, Tryz.ntmps12
    go_wp2_with fail
    refine HV.out.mono ?_
    rintro e w1 ⟨rfl, K1⟩
    rcases (Decidable.em (q = 0)).symm with hz | hz
    · have hb : (q != 0) = true := by simpa using hz
      have HZ := Lib.hid hz
      clear hz
      go_wp2_with fail
      go_ret2
      obtain ⟨e1, e2⟩ := chain_bad (l := l.map (·.c)) (by rw [List.length_map]; have := L1.out; omega) (by rw [← HQ.out]; exact HZ.out)
      exact ⟨_, [], by rw [e1, ← HQ.out]; rfl, Own.nil _ _ K1, by rw [e2]; rfl, fun x hx => by simp at hx⟩
    subst hz
    have hvl : ValL l := fun x hx => vldC_all HQ.out.symm _ (List.mem_map.2 ⟨x, hx, rfl⟩)
    have HVL := Lib.hid hvl
    clear hvl
    obtain ⟨g0, g1, g2, g3, g4, g5⟩ := gl_at (HR.out.keep K1) (i := 0) (by omega)
    have hm0 := gA_mem (l := l) (i := 0) (by have := L1.out; omega)
    have hc := copied_any (gA l 0) w1 ((HL.out _ hm0).keep K1) (HVL.out _ hm0)
    have hce := chain_eq (l := l.map (·.c)) (by rw [List.length_map]; have := L1.out; omega) HQ.out.symm
    have hcm := cat_map l 0
    have HCE := Lib.hid hce; have HCM := Lib.hid hcm
    clear hce hcm hm0
    simp only [Nat.zero_mul] at g0 g1 g2 g3 g4 g5
    unfold vg at hc
    generalize gA l 0 = x0 at *
    have HC := Lib.hid hc
    clear hc
    go_wp2_with fail
    refine HC.out.mono ?_
    rintro e w2 ⟨z0, rfl, hz0, hR0, K2⟩
    have HZ0 := Lib.hid hz0
    clear hz0 g0 g1 g2 g3 g4 g5 HC
    have HR1 := Lib.hid (HR.out.keep (K1.trans K2)); have HL1 := Lib.hid (HL.out.keep (K1.trans K2))
    unfold vg
    go_wp2_with fail
    have hO := Own.made (e := 32) (sz := 6) (K1.trans K2) (eG z0) 1 (by decide) rfl
    have hRL : RoL (w2.alloc (.cells (eG z0).toArray 32)) [z0] := fun y hy => by rw [List.mem_singleton.1 hy]; exact hR0.keep ((Keeps.refl _).alloc _)
    have hD := (HR.out.drop (i := 1) (by omega)).small
    go_loopw [5, 26] (fun v5 v26 wr => ∃ (k : Nat) (ys : List CA), k ≤ n - 1 ∧ v26 = .int .i64 k ∧ Hid (Own 32 6 w wr v5 ys.length (gl ys)) ∧ Hid (RoL wr ys) ∧ Hid (ys.length = 1 + 2 * k) ∧
      Hid (chE (cat (l.map (·.c)) 0) ((l.map (·.c)).drop 1) = chE (cat (l.map (·.c)) k) ((l.map (·.c)).drop (k + 1)) ∧ cat (l.map (·.c)) 0 :: chT (cat (l.map (·.c)) 0) ((l.map (·.c)).drop 1) = ys.map (·.c) ++ chT (cat (l.map (·.c)) k) ((l.map (·.c)).drop (k + 1)))) (fun _ v _ => n - 1 - (RowKit.intOf v).toNat)
    case atStart =>
      exact ⟨0, [z0], by omega, rfl, Lib.hid hO, Lib.hid hRL, Lib.hid rfl, Lib.hid ⟨rfl, by rw [List.map_cons, List.map_nil, HZ0.out, HCM.out]; rfl⟩⟩
    case round =>
      obtain ⟨k, ys, hk, rfl, HO, HY, HN, HS⟩ := hrel
      by_cases hlt : k < n - 1
      · have hlt1 : k < n := by omega
        have HRr := Lib.hid (HR.out.keep HO.out.2); have HLr := Lib.hid (HL.out.keep HO.out.2)
        have hdr : Rd wr (subs a c 1 6) (n - 1) (c - 1) 6 (gl (l.drop 1)) := by
          have := HRr.out.drop (i := 1) (by omega)
          rw [gl_drop]; exact this
        have hs2 := hdr.isSome (by omega)
        obtain ⟨q0, q1, q2, q3, q4, q5⟩ := gl_at hdr hlt
        rw [gA_drop] at q0 q1 q2 q3 q4 q5
        clear hdr
        have hp : ∀ W', Keeps wr W' → W'.cell? (adr a (k * 6)) = some (.string (gA l k).c.nm) ∧ W'.cell? ⟨(adr a (k * 6)).block, (adr a (k * 6)).off + 1, none⟩ = some (.int .i64 (gA l k).c.kd) ∧ W'.cell? ⟨(adr a (k * 6)).block, (adr a (k * 6)).off + 2, none⟩ = some (.int .u16 (sv (gA l k).c.M)) ∧ W'.cell? ⟨(adr a (k * 6)).block, (adr a (k * 6)).off + 3, none⟩ = some (.slice (gA l k).ar (gA l k).c.R.length (gA l k).cr) ∧ W'.cell? ⟨(adr a (k * 6)).block, (adr a (k * 6)).off + 4, none⟩ = some (.slice (gA l k).aw (gA l k).c.Q.length (gA l k).cw) ∧ W'.cell? ⟨(adr a (k * 6)).block, (adr a (k * 6)).off + 5, none⟩ = some (.slice (gA l k).af (gA l k).c.F.length (gA l k).cf) := fun W' J => gl_at (HRr.out.keep J) hlt1
        have hmx := gA_mem (l := l) (i := k) (by have := L1.out; omega)
        have hmy := gA_mem (l := l) (i := k + 1) (by have := L1.out; omega)
        have hxr := HLr.out _ hmx; have hyr := HLr.out _ hmy; have hyv := HVL.out _ hmy
        have hst := chE_step (l := l.map (·.c)) (k := k) (by rw [List.length_map]; have := L1.out; omega)
        have hsT := chT_step (l := l.map (·.c)) (k := k) (by rw [List.length_map]; have := L1.out; omega)
        rw [cat_map l k, cat_map l (k + 1)] at hst hsT
        have hck := cat_map l k; have hck1 := cat_map l (k + 1)
        have HP0 := Lib.hid hp; have HXR := Lib.hid hxr; have HYR := Lib.hid hyr; have HYV := Lib.hid hyv; have HST := Lib.hid hst; have HSTT := Lib.hid hsT; have HCK := Lib.hid hck; have HCK1 := Lib.hid hck1
        clear hp hmx hmy hxr hyr hyv hst hsT hck hck1
        generalize gA l k = xk at *
        generalize gA l (k + 1) = yk at *
        go_wp2_with fail
        clear q0 q1 q2 q3 q4 q5
        have hn7 := Blk.new wr 32 #[.string yk.c.nm, .int .i64 yk.c.kd, .int .u16 (sv yk.c.M), .slice yk.ar yk.c.R.length yk.cr, .slice yk.aw yk.c.Q.length yk.cw, .slice yk.af yk.c.F.length yk.cf]
        have hlt7 : ∀ b, u5.ownBlock = some b → b < wr.heap.size := fun b hb => (HO.out.1.lt b hb).2
        have HLT7 := Lib.hid hlt7; clear hlt7
        have KB := (Keeps.refl wr).alloc (.cells #[.string yk.c.nm, .int .i64 yk.c.kd, .int .u16 (sv yk.c.M), .slice yk.ar yk.c.R.length yk.cr, .slice yk.aw yk.c.Q.length yk.cw, .slice yk.af yk.c.F.length yk.cf] 32)
        have hp : ∀ W', Keeps (wr.alloc (.cells #[.string yk.c.nm, .int .i64 yk.c.kd, .int .u16 (sv yk.c.M), .slice yk.ar yk.c.R.length yk.cr, .slice yk.aw yk.c.Q.length yk.cw, .slice yk.af yk.c.F.length yk.cf] 32)) W' → (W'.cell? (adr a (k * 6)) = some (.string xk.c.nm) ∧ W'.cell? ⟨(adr a (k * 6)).block, (adr a (k * 6)).off + 1, none⟩ = some (.int .i64 xk.c.kd) ∧ W'.cell? ⟨(adr a (k * 6)).block, (adr a (k * 6)).off + 2, none⟩ = some (.int .u16 (sv xk.c.M)) ∧ W'.cell? ⟨(adr a (k * 6)).block, (adr a (k * 6)).off + 3, none⟩ = some (.slice xk.ar xk.c.R.length xk.cr) ∧ W'.cell? ⟨(adr a (k * 6)).block, (adr a (k * 6)).off + 4, none⟩ = some (.slice xk.aw xk.c.Q.length xk.cw) ∧ W'.cell? ⟨(adr a (k * 6)).block, (adr a (k * 6)).off + 5, none⟩ = some (.slice xk.af xk.c.F.length xk.cf)) ∧ (W'.cell? ⟨wr.heap.size, 0, none⟩ = some (.string yk.c.nm) ∧ W'.cell? ⟨wr.heap.size, 1, none⟩ = some (.int .i64 yk.c.kd) ∧ W'.cell? ⟨wr.heap.size, 2, none⟩ = some (.int .u16 (sv yk.c.M)) ∧ W'.cell? ⟨wr.heap.size, 3, none⟩ = some (.slice yk.ar yk.c.R.length yk.cr) ∧ W'.cell? ⟨wr.heap.size, 4, none⟩ = some (.slice yk.aw yk.c.Q.length yk.cw) ∧ W'.cell? ⟨wr.heap.size, 5, none⟩ = some (.slice yk.af yk.c.F.length yk.cf)) := fun W' J => ⟨HP0.out W' (KB.trans J), (hn7.keep J).c6⟩
        have HP := Lib.hid hp
        have HOW := Lib.hid (HO.out.keep KB); have HYW := Lib.hid (HY.out.keep KB); have HXRW := Lib.hid (HXR.out.keep KB); have HYRW := Lib.hid (HYR.out.keep KB); have HN7 := Lib.hid hn7
        clear hp HP0 HO HY HXR HYR hn7 KB HRr HLr
        generalize wr.alloc (.cells #[.string yk.c.nm, .int .i64 yk.c.kd, .int .u16 (sv yk.c.M), .slice yk.ar yk.c.R.length yk.cr, .slice yk.aw yk.c.Q.length yk.cw, .slice yk.af yk.c.F.length yk.cf] 32) = W at *
        generalize wr.heap.size = B7 at *
        go_cut [8, 9] (fun s8 s9 wx => ∃ B8 z, s8 = .pointer (some ⟨B8, 0, none⟩) ∧ s9 = .int .i64 (ofE xk.c yk.c) ∧ Hid (z.c = ofC xk.c yk.c) ∧ Hid (Blk wx B8 32 #[.string z.c.nm, .int .i64 z.c.kd, .int .u16 (sv z.c.M), .slice z.ar z.c.R.length z.cr, .slice z.aw z.c.Q.length z.cw, .slice z.af z.c.F.length z.cf]) ∧ Hid (RoG wx z) ∧ Hid (W.heap.size ≤ B8) ∧ Keeps W wx)
        case first =>
          have J : Keeps W W.drew := (Keeps.refl W).drew
          refine wp_region_held_drew (S := (fun w' => (w'.cell? (adr a (k * 6)) = some (.string xk.c.nm) ∧ w'.cell? ⟨(adr a (k * 6)).block, (adr a (k * 6)).off + 1, none⟩ = some (.int .i64 xk.c.kd) ∧ w'.cell? ⟨(adr a (k * 6)).block, (adr a (k * 6)).off + 2, none⟩ = some (.int .u16 (sv xk.c.M)) ∧ w'.cell? ⟨(adr a (k * 6)).block, (adr a (k * 6)).off + 3, none⟩ = some (.slice xk.ar xk.c.R.length xk.cr) ∧ w'.cell? ⟨(adr a (k * 6)).block, (adr a (k * 6)).off + 4, none⟩ = some (.slice xk.aw xk.c.Q.length xk.cw) ∧ w'.cell? ⟨(adr a (k * 6)).block, (adr a (k * 6)).off + 5, none⟩ = some (.slice xk.af xk.c.F.length xk.cf)) ∧ (w'.cell? ⟨B7, 0, none⟩ = some (.string yk.c.nm) ∧ w'.cell? ⟨B7, 1, none⟩ = some (.int .i64 yk.c.kd) ∧ w'.cell? ⟨B7, 2, none⟩ = some (.int .u16 (sv yk.c.M)) ∧ w'.cell? ⟨B7, 3, none⟩ = some (.slice yk.ar yk.c.R.length yk.cr) ∧ w'.cell? ⟨B7, 4, none⟩ = some (.slice yk.aw yk.c.Q.length yk.cw) ∧ w'.cell? ⟨B7, 5, none⟩ = some (.slice yk.af yk.c.F.length yk.cf)))) (by kernel_rfl) ?_ (fun hHeld => ?_)
          · exact HP.out _ J
          generalize W.drew = V0 at *
          refine wpAnyH_take (i := 0) (oi := ⟨_, _, _, _, _, _⟩) (v := ?_) rfl (by kernel_rfl) (by kernel_rfl) (by kernel_rfl) (fun _ _ _ h => h) (Or.inl ⟨by rfl, ?_⟩) (by assumption) ?_
          rotate_left 1
          · intro w hSw; (try dsimp only at hSw); go_simp <;> with_reducible rfl
          (try simp only [Act.put]); (try simp only [List.setIfInBounds_toArray]); (try simp only [List.set_cons_succ]); (try simp only [List.set_cons_zero])
          refine wpAnyH_take (i := 1) (oi := ⟨_, _, _, _, _, _⟩) (v := ?_) rfl (by kernel_rfl) (by kernel_rfl) (by kernel_rfl) (fun _ _ _ h => h) (Or.inl ⟨by rfl, ?_⟩) (by assumption) ?_
          rotate_left 1
          · intro w hSw; (try dsimp only at hSw); go_simp <;> with_reducible rfl
          (try simp only [Act.put]); (try simp only [List.setIfInBounds_toArray]); (try simp only [List.set_cons_succ]); (try simp only [List.set_cons_zero])
          refine wpAnyH_take (i := 2) (oi := ⟨_, _, _, _, _, _⟩) (v := ?_) rfl (by kernel_rfl) (by kernel_rfl) (by kernel_rfl) (fun _ _ _ h => h) (Or.inl ⟨by rfl, ?_⟩) (by assumption) ?_
          rotate_left 1
          · intro w hSw; (try dsimp only at hSw); go_simp <;> with_reducible rfl
          (try simp only [Act.put]); (try simp only [List.setIfInBounds_toArray]); (try simp only [List.set_cons_succ]); (try simp only [List.set_cons_zero])
          refine wpAnyH_take (i := 3) (oi := ⟨_, _, _, _, _, _⟩) (v := ?_) rfl (by kernel_rfl) (by kernel_rfl) (by kernel_rfl) (fun _ _ _ h => h) (Or.inl ⟨by rfl, ?_⟩) (by assumption) ?_
          rotate_left 1
          · intro w hSw; (try dsimp only at hSw); go_simp <;> with_reducible rfl
          (try simp only [Act.put]); (try simp only [List.setIfInBounds_toArray]); (try simp only [List.set_cons_succ]); (try simp only [List.set_cons_zero])
          refine wpAnyH_take (i := 4) (oi := ⟨_, _, _, _, _, _⟩) (v := ?_) rfl (by kernel_rfl) (by kernel_rfl) (by kernel_rfl) (fun _ _ _ h => h) (Or.inl ⟨by rfl, ?_⟩) (by assumption) ?_
          rotate_left 1
          · intro w hSw; (try dsimp only at hSw); go_simp <;> with_reducible rfl
          (try simp only [Act.put]); (try simp only [List.setIfInBounds_toArray]); (try simp only [List.set_cons_succ]); (try simp only [List.set_cons_zero])
          refine wpAnyH_ready (rs := [5, 9]) (by kernel_rfl) (by simp) ?_
          refine AllReadyH.cons (o := ⟨_, _, _, _, _, _⟩) rfl (fun K hK => ?_) (AllReadyH.cons (o := ⟨_, _, _, _, _, _⟩) rfl (fun K hK => ?_) AllReadyH.nil)
          · go_simp
            have hcl := jof_any xk yk V0 (HXRW.out.keep J) (HYRW.out.keep J)
            unfold vg at hcl
            refine hcl.mono ?_
            clear hcl
            rintro e V1 ⟨z, rfl, hz, hR, K9⟩
            have HZ := Lib.hid hz
            clear hz
            unfold vg
            dsimp only
            replace J := J.trans K9
            clear K9
            refine hK.out _ _ ?_ (fun hHeld => ?_)
            · exact HP.out _ J
            clear hK K
            (try simp only [Act.put]); (try simp only [List.setIfInBounds_toArray]); (try simp only [List.set_cons_succ]); (try simp only [List.set_cons_zero])
            refine wpAnyH_take (i := 6) (oi := ⟨_, _, _, _, _, _⟩) (v := ?_) rfl (by kernel_rfl) (by kernel_rfl) (by kernel_rfl) (fun _ _ _ h => h) (Or.inl ⟨by rfl, ?_⟩) (by assumption) ?_
            rotate_left 1
            · intro w hSw; (try dsimp only at hSw); go_simp <;> with_reducible rfl
            (try simp only [Act.put]); (try simp only [List.setIfInBounds_toArray]); (try simp only [List.set_cons_succ]); (try simp only [List.set_cons_zero])
            refine wpAnyH_take (i := 7) (oi := ⟨_, _, _, _, _, _⟩) (v := ?_) rfl (by kernel_rfl) (by kernel_rfl) (by kernel_rfl) (fun _ _ _ h => h) (Or.inl ⟨by rfl, ?_⟩) (by assumption) ?_
            rotate_left 1
            · intro w hSw; (try dsimp only at hSw); go_simp <;> with_reducible rfl
            (try simp only [Act.put]); (try simp only [List.setIfInBounds_toArray]); (try simp only [List.set_cons_succ]); (try simp only [List.set_cons_zero])
            refine wpAnyH_take (i := 8) (oi := ⟨_, _, _, _, _, _⟩) (v := ?_) rfl (by kernel_rfl) (by kernel_rfl) (by kernel_rfl) (fun _ _ _ h => h) (Or.inl ⟨by rfl, ?_⟩) (by assumption) ?_
            rotate_left 1
            · intro w hSw; (try dsimp only at hSw); go_simp <;> with_reducible rfl
            (try simp only [Act.put]); (try simp only [List.setIfInBounds_toArray]); (try simp only [List.set_cons_succ]); (try simp only [List.set_cons_zero])
            refine wpAnyH_ready (rs := [9]) (by kernel_rfl) (by simp) ?_
            refine AllReadyH.cons (o := ⟨_, _, _, _, _, _⟩) rfl (fun K hK => ?_) AllReadyH.nil
            go_simp
            have hn8 := Blk.new V1 32 zG
            have KA := (Keeps.refl V1).alloc (.cells zG 32)
            have hg8 : W.heap.size ≤ V1.heap.size := J.size
            replace hR := hR.keep KA
            replace J := J.trans KA
            clear KA
            generalize V1.alloc (.cells zG 32) = V2 at *
            generalize V1.heap.size = B8 at *
            refine hK.out _ _ ?_ (fun hHeld => ?_)
            · exact HP.out _ J
            clear hK K
            (try simp only [Act.put]); (try simp only [List.setIfInBounds_toArray]); (try simp only [List.set_cons_succ]); (try simp only [List.set_cons_zero])
            refine wpAnyH_ready (rs := [10]) (by kernel_rfl) (by simp) ?_
            refine AllReadyH.cons (o := ⟨_, _, _, _, _, _⟩) rfl (fun K hK => ?_) AllReadyH.nil
            obtain ⟨c0, c1, c2, c3, c4, c5⟩ := hn8.c6
            obtain ⟨g0, g1, g2, g3, g4, g5⟩ := hn8.f6
            go_simp
            clear c0 c1 c2 c3 c4 c5 g0 g1 g2 g3 g4 g5
            replace hR := hR.set6 hn8 (.string z.c.nm) (.int .i64 z.c.kd) (.int .u16 (sv z.c.M)) (.slice z.ar z.c.R.length z.cr) (.slice z.aw z.c.Q.length z.cw) (.slice z.af z.c.F.length z.cf)
            replace hn8 := hn8.set6 (.string z.c.nm) (.int .i64 z.c.kd) (.int .u16 (sv z.c.M)) (.slice z.ar z.c.R.length z.cr) (.slice z.aw z.c.Q.length z.cw) (.slice z.af z.c.F.length z.cf)
            replace J := keeps_set6 J hg8 (.string z.c.nm) (.int .i64 z.c.kd) (.int .u16 (sv z.c.M)) (.slice z.ar z.c.R.length z.cr) (.slice z.aw z.c.Q.length z.cw) (.slice z.af z.c.F.length z.cf)
            generalize ((((((V2.setCell ⟨B8, 0, none⟩ (.string z.c.nm)).setCell ⟨B8, 1, none⟩ (.int .i64 z.c.kd)).setCell ⟨B8, 2, none⟩ (.int .u16 (sv z.c.M))).setCell ⟨B8, 3, none⟩ (.slice z.ar z.c.R.length z.cr)).setCell ⟨B8, 4, none⟩ (.slice z.aw z.c.Q.length z.cw)).setCell ⟨B8, 5, none⟩ (.slice z.af z.c.F.length z.cf)) = VL at *
            refine hK.out _ _ ?_ (fun hHeld => ?_)
            · exact HP.out _ J
            clear hK K
            (try simp only [Act.put]); (try simp only [List.setIfInBounds_toArray]); (try simp only [List.set_cons_succ]); (try simp only [List.set_cons_zero])
            refine wpAnyH_take (i := 11) (oi := ⟨_, _, _, _, _, _⟩) (v := ?_) rfl (by kernel_rfl) (by kernel_rfl) (by kernel_rfl) (fun _ _ _ h => h) (Or.inl ⟨by rfl, ?_⟩) (by assumption) ?_
            rotate_left 1
            · intro w hSw; (try dsimp only at hSw); go_simp <;> with_reducible rfl
            (try simp only [Act.put]); (try simp only [List.setIfInBounds_toArray]); (try simp only [List.set_cons_succ]); (try simp only [List.set_cons_zero])
            refine wpAnyH_done (by kernel_rfl) ?_ _
            go_wp2_with fail
            go_meet
            case rel => exact ⟨B8, z, rfl, rfl, HZ, Lib.hid hn8, Lib.hid hR, Lib.hid hg8, J⟩
          · go_simp
            have hn8 := Blk.new V0 32 zG
            have KA := (Keeps.refl V0).alloc (.cells zG 32)
            have hg8 : W.heap.size ≤ V0.heap.size := J.size
            replace J := J.trans KA
            clear KA
            generalize V0.alloc (.cells zG 32) = V1 at *
            generalize V0.heap.size = B8 at *
            refine hK.out _ _ ?_ (fun hHeld => ?_)
            · exact HP.out _ J
            clear hK K
            (try simp only [Act.put]); (try simp only [List.setIfInBounds_toArray]); (try simp only [List.set_cons_succ]); (try simp only [List.set_cons_zero])
            refine wpAnyH_ready (rs := [5]) (by kernel_rfl) (by simp) ?_
            refine AllReadyH.cons (o := ⟨_, _, _, _, _, _⟩) rfl (fun K hK => ?_) AllReadyH.nil
            go_simp
            have hcl := jof_any xk yk V1 (HXRW.out.keep J) (HYRW.out.keep J)
            unfold vg at hcl
            refine hcl.mono ?_
            clear hcl
            rintro e V2 ⟨z, rfl, hz, hR, K9⟩
            have HZ := Lib.hid hz
            clear hz
            unfold vg
            dsimp only
            replace hn8 := hn8.keep K9
            replace J := J.trans K9
            clear K9
            refine hK.out _ _ ?_ (fun hHeld => ?_)
            · exact HP.out _ J
            clear hK K
            (try simp only [Act.put]); (try simp only [List.setIfInBounds_toArray]); (try simp only [List.set_cons_succ]); (try simp only [List.set_cons_zero])
            refine wpAnyH_take (i := 6) (oi := ⟨_, _, _, _, _, _⟩) (v := ?_) rfl (by kernel_rfl) (by kernel_rfl) (by kernel_rfl) (fun _ _ _ h => h) (Or.inl ⟨by rfl, ?_⟩) (by assumption) ?_
            rotate_left 1
            · intro w hSw; (try dsimp only at hSw); go_simp <;> with_reducible rfl
            (try simp only [Act.put]); (try simp only [List.setIfInBounds_toArray]); (try simp only [List.set_cons_succ]); (try simp only [List.set_cons_zero])
            refine wpAnyH_take (i := 7) (oi := ⟨_, _, _, _, _, _⟩) (v := ?_) rfl (by kernel_rfl) (by kernel_rfl) (by kernel_rfl) (fun _ _ _ h => h) (Or.inl ⟨by rfl, ?_⟩) (by assumption) ?_
            rotate_left 1
            · intro w hSw; (try dsimp only at hSw); go_simp <;> with_reducible rfl
            (try simp only [Act.put]); (try simp only [List.setIfInBounds_toArray]); (try simp only [List.set_cons_succ]); (try simp only [List.set_cons_zero])
            refine wpAnyH_take (i := 8) (oi := ⟨_, _, _, _, _, _⟩) (v := ?_) rfl (by kernel_rfl) (by kernel_rfl) (by kernel_rfl) (fun _ _ _ h => h) (Or.inl ⟨by rfl, ?_⟩) (by assumption) ?_
            rotate_left 1
            · intro w hSw; (try dsimp only at hSw); go_simp <;> with_reducible rfl
            (try simp only [Act.put]); (try simp only [List.setIfInBounds_toArray]); (try simp only [List.set_cons_succ]); (try simp only [List.set_cons_zero])
            refine wpAnyH_ready (rs := [10]) (by kernel_rfl) (by simp) ?_
            refine AllReadyH.cons (o := ⟨_, _, _, _, _, _⟩) rfl (fun K hK => ?_) AllReadyH.nil
            obtain ⟨c0, c1, c2, c3, c4, c5⟩ := hn8.c6
            obtain ⟨g0, g1, g2, g3, g4, g5⟩ := hn8.f6
            go_simp
            clear c0 c1 c2 c3 c4 c5 g0 g1 g2 g3 g4 g5
            replace hR := hR.set6 hn8 (.string z.c.nm) (.int .i64 z.c.kd) (.int .u16 (sv z.c.M)) (.slice z.ar z.c.R.length z.cr) (.slice z.aw z.c.Q.length z.cw) (.slice z.af z.c.F.length z.cf)
            replace hn8 := hn8.set6 (.string z.c.nm) (.int .i64 z.c.kd) (.int .u16 (sv z.c.M)) (.slice z.ar z.c.R.length z.cr) (.slice z.aw z.c.Q.length z.cw) (.slice z.af z.c.F.length z.cf)
            replace J := keeps_set6 J hg8 (.string z.c.nm) (.int .i64 z.c.kd) (.int .u16 (sv z.c.M)) (.slice z.ar z.c.R.length z.cr) (.slice z.aw z.c.Q.length z.cw) (.slice z.af z.c.F.length z.cf)
            generalize ((((((V2.setCell ⟨B8, 0, none⟩ (.string z.c.nm)).setCell ⟨B8, 1, none⟩ (.int .i64 z.c.kd)).setCell ⟨B8, 2, none⟩ (.int .u16 (sv z.c.M))).setCell ⟨B8, 3, none⟩ (.slice z.ar z.c.R.length z.cr)).setCell ⟨B8, 4, none⟩ (.slice z.aw z.c.Q.length z.cw)).setCell ⟨B8, 5, none⟩ (.slice z.af z.c.F.length z.cf)) = VL at *
            refine hK.out _ _ ?_ (fun hHeld => ?_)
            · exact HP.out _ J
            clear hK K
            (try simp only [Act.put]); (try simp only [List.setIfInBounds_toArray]); (try simp only [List.set_cons_succ]); (try simp only [List.set_cons_zero])
            refine wpAnyH_take (i := 11) (oi := ⟨_, _, _, _, _, _⟩) (v := ?_) rfl (by kernel_rfl) (by kernel_rfl) (by kernel_rfl) (fun _ _ _ h => h) (Or.inl ⟨by rfl, ?_⟩) (by assumption) ?_
            rotate_left 1
            · intro w hSw; (try dsimp only at hSw); go_simp <;> with_reducible rfl
            (try simp only [Act.put]); (try simp only [List.setIfInBounds_toArray]); (try simp only [List.set_cons_succ]); (try simp only [List.set_cons_zero])
            refine wpAnyH_done (by kernel_rfl) ?_ _
            go_wp2_with fail
            go_meet
            case rel => exact ⟨B8, z, rfl, rfl, HZ, Lib.hid hn8, Lib.hid hR, Lib.hid hg8, J⟩
        case rest =>
        obtain ⟨B8, z, rfl, rfl, HZ, HN8, HRZ, HG8, KX⟩ := hcut
        have HST2 := HST.out; have HSTT2 := HSTT.out
        have HOX := Lib.hid (HOW.out.keep KX); have HYX := Lib.hid (HYW.out.keep KX); have HYRX := Lib.hid (HYRW.out.keep KX)
        have hp2 : ∀ W', Keeps wc W' → (W'.cell? ⟨B8, 0, none⟩ = some (.string z.c.nm) ∧ W'.cell? ⟨B8, 1, none⟩ = some (.int .i64 z.c.kd) ∧ W'.cell? ⟨B8, 2, none⟩ = some (.int .u16 (sv z.c.M)) ∧ W'.cell? ⟨B8, 3, none⟩ = some (.slice z.ar z.c.R.length z.cr) ∧ W'.cell? ⟨B8, 4, none⟩ = some (.slice z.aw z.c.Q.length z.cw) ∧ W'.cell? ⟨B8, 5, none⟩ = some (.slice z.af z.c.F.length z.cf)) ∧ (W'.cell? ⟨B7, 0, none⟩ = some (.string yk.c.nm) ∧ W'.cell? ⟨B7, 1, none⟩ = some (.int .i64 yk.c.kd) ∧ W'.cell? ⟨B7, 2, none⟩ = some (.int .u16 (sv yk.c.M)) ∧ W'.cell? ⟨B7, 3, none⟩ = some (.slice yk.ar yk.c.R.length yk.cr) ∧ W'.cell? ⟨B7, 4, none⟩ = some (.slice yk.aw yk.c.Q.length yk.cw) ∧ W'.cell? ⟨B7, 5, none⟩ = some (.slice yk.af yk.c.F.length yk.cf)) := fun W' J => ⟨(HN8.out.keep J).c6, ((HN7.out.keep KX).keep J).c6⟩
        have HP2 := Lib.hid hp2
        have HN7L := Lib.hid HN7.out.lt
        clear hp2 HP HOW HYW HYRW HXRW HN7 HN8 HST HSTT
        have hE : ∃ er, er = ofE xk.c yk.c := ⟨_, rfl⟩
        obtain ⟨er, hE⟩ := hE
        rw [← hE] at HST2 ⊢
        have HE := Lib.hid hE
        clear hE
        rcases (Decidable.em (er = 0)).symm with he | he
        · have hb : (er != 0) = true := by simpa using he
          rw [if_pos he] at HST2
          have HST := Lib.hid HST2; have HSTT := Lib.hid HSTT2; have HNE := Lib.hid he
          clear HST2 HSTT2 he
          go_wp2_with fail
          go_ret2
          have e1 : chE (cat (l.map (·.c)) 0) ((l.map (·.c)).drop 1) = er := by rw [HS.out.1, HCK.out, HST.out]
          exact ⟨_, [], by rw [HCE.out.1, e1]; rfl, Own.nil _ _ HOX.out.2, by rw [HCE.out.2, e1, if_pos HNE.out]; rfl, fun x hx => by simp at hx⟩
        · subst he
          rw [if_neg (by decide)] at HST2
          have HST := Lib.hid HST2; have HSTT := Lib.hid HSTT2
          clear HST2 HSTT2
          go_wp2_with fail
          have J : Keeps wc wc.drew := (Keeps.refl wc).drew
          refine wp_region_held_drew (S := (fun w' => (w'.cell? ⟨B8, 0, none⟩ = some (.string z.c.nm) ∧ w'.cell? ⟨B8, 1, none⟩ = some (.int .i64 z.c.kd) ∧ w'.cell? ⟨B8, 2, none⟩ = some (.int .u16 (sv z.c.M)) ∧ w'.cell? ⟨B8, 3, none⟩ = some (.slice z.ar z.c.R.length z.cr) ∧ w'.cell? ⟨B8, 4, none⟩ = some (.slice z.aw z.c.Q.length z.cw) ∧ w'.cell? ⟨B8, 5, none⟩ = some (.slice z.af z.c.F.length z.cf)) ∧ (w'.cell? ⟨B7, 0, none⟩ = some (.string yk.c.nm) ∧ w'.cell? ⟨B7, 1, none⟩ = some (.int .i64 yk.c.kd) ∧ w'.cell? ⟨B7, 2, none⟩ = some (.int .u16 (sv yk.c.M)) ∧ w'.cell? ⟨B7, 3, none⟩ = some (.slice yk.ar yk.c.R.length yk.cr) ∧ w'.cell? ⟨B7, 4, none⟩ = some (.slice yk.aw yk.c.Q.length yk.cw) ∧ w'.cell? ⟨B7, 5, none⟩ = some (.slice yk.af yk.c.F.length yk.cf)))) (by kernel_rfl) ?_ (fun hHeld => ?_)
          · exact HP2.out _ J
          generalize wc.drew = U0 at *
          refine wpAnyH_take (i := 0) (oi := ⟨_, _, _, _, _, _⟩) (v := ?_) rfl (by kernel_rfl) (by kernel_rfl) (by kernel_rfl) (fun _ _ _ h => h) (Or.inl ⟨by rfl, ?_⟩) (by assumption) ?_
          rotate_left 1
          · intro w hSw; (try dsimp only at hSw); go_simp <;> with_reducible rfl
          (try simp only [Act.put]); (try simp only [List.setIfInBounds_toArray]); (try simp only [List.set_cons_succ]); (try simp only [List.set_cons_zero])
          refine wpAnyH_take (i := 1) (oi := ⟨_, _, _, _, _, _⟩) (v := ?_) rfl (by kernel_rfl) (by kernel_rfl) (by kernel_rfl) (fun _ _ _ h => h) (Or.inl ⟨by rfl, ?_⟩) (by assumption) ?_
          rotate_left 1
          · intro w hSw; (try dsimp only at hSw); go_simp <;> with_reducible rfl
          (try simp only [Act.put]); (try simp only [List.setIfInBounds_toArray]); (try simp only [List.set_cons_succ]); (try simp only [List.set_cons_zero])
          refine wpAnyH_take (i := 2) (oi := ⟨_, _, _, _, _, _⟩) (v := ?_) rfl (by kernel_rfl) (by kernel_rfl) (by kernel_rfl) (fun _ _ _ h => h) (Or.inl ⟨by rfl, ?_⟩) (by assumption) ?_
          rotate_left 1
          · intro w hSw; (try dsimp only at hSw); go_simp <;> with_reducible rfl
          (try simp only [Act.put]); (try simp only [List.setIfInBounds_toArray]); (try simp only [List.set_cons_succ]); (try simp only [List.set_cons_zero])
          refine wpAnyH_ready (rs := [3]) (by kernel_rfl) (by simp) ?_
          refine AllReadyH.cons (o := ⟨_, _, _, _, _, _⟩) rfl (fun K hK => ?_) AllReadyH.nil
          go_simp
          have hcl := copied_any yk U0 (HYRX.out.keep J) HYV.out
          unfold vg at hcl
          refine hcl.mono ?_
          clear hcl
          rintro e U1 ⟨y, rfl, hy, hRy, K9⟩
          have HY2 := Lib.hid hy
          clear hy
          unfold vg
          dsimp only
          replace J := J.trans K9
          clear K9
          refine hK.out _ _ ?_ (fun hHeld => ?_)
          · exact HP2.out _ J
          clear hK K
          (try simp only [Act.put]); (try simp only [List.setIfInBounds_toArray]); (try simp only [List.set_cons_succ]); (try simp only [List.set_cons_zero])
          refine wpAnyH_ready (rs := [4]) (by kernel_rfl) (by simp) ?_
          refine AllReadyH.cons (o := ⟨_, _, _, _, _, _⟩) rfl (fun K hK => ?_) AllReadyH.nil
          go_simp
          have r2 : Rd (U1.alloc (.cells #[.string z.c.nm, .int .i64 z.c.kd, .int .u16 (sv z.c.M), .slice z.ar z.c.R.length z.cr, .slice z.aw z.c.Q.length z.cw, .slice z.af z.c.F.length z.cf, .string y.c.nm, .int .i64 y.c.kd, .int .u16 (sv y.c.M), .slice y.ar y.c.R.length y.cr, .slice y.aw y.c.Q.length y.cw, .slice y.af y.c.F.length y.cf] 32)) (some ⟨U1.heap.size, 0, none⟩) 2 2 6 (gl [z, y]) := rd_new 32 6 U1 (gl [z, y]) 2 (by decide) rfl
          have KA := (Keeps.refl U1).alloc (.cells #[.string z.c.nm, .int .i64 z.c.kd, .int .u16 (sv z.c.M), .slice z.ar z.c.R.length z.cr, .slice z.aw z.c.Q.length z.cw, .slice z.af z.c.F.length z.cf, .string y.c.nm, .int .i64 y.c.kd, .int .u16 (sv y.c.M), .slice y.ar y.c.R.length y.cr, .slice y.aw y.c.Q.length y.cw, .slice y.af y.c.F.length y.cf] 32)
          replace hRy := hRy.keep KA
          replace J := J.trans KA
          clear KA
          generalize U1.alloc (.cells #[.string z.c.nm, .int .i64 z.c.kd, .int .u16 (sv z.c.M), .slice z.ar z.c.R.length z.cr, .slice z.aw z.c.Q.length z.cw, .slice z.af z.c.F.length z.cf, .string y.c.nm, .int .i64 y.c.kd, .int .u16 (sv y.c.M), .slice y.ar y.c.R.length y.cr, .slice y.aw y.c.Q.length y.cw, .slice y.af y.c.F.length y.cf] 32) = U2 at *
          generalize U1.heap.size = BS at *
          refine hK.out _ _ ?_ (fun hHeld => ?_)
          · exact HP2.out _ J
          clear hK K
          (try simp only [Act.put]); (try simp only [List.setIfInBounds_toArray]); (try simp only [List.set_cons_succ]); (try simp only [List.set_cons_zero])
          refine wpAnyH_ready (rs := [5]) (by kernel_rfl) (by simp) ?_
          refine AllReadyH.cons (o := ⟨_, _, _, _, _, _⟩) rfl (fun K hK => ?_) AllReadyH.nil
          have hOO := HOX.out.keep J
          have h7 : some B7 ≠ u5.ownBlock := fun e => by have := HLT7.out B7 e.symm; omega
          have h8 : some B8 ≠ u5.ownBlock := fun e => by have := HLT7.out B8 e.symm; have := HG8.out; have := HN7L.out; omega
          have hYY := HYX.out.keep J
          have hZZ := HRZ.out.keep J
          refine step_app ty_gl rfl _ _ rfl hOO rfl rfl r2 (gl_cells [z, y]) (by have := HN.out; omega) ?_
          intro v' U3 hO' hgr
          dsimp only
          have hY' := rol_grown hYY hOO hgr
          have hz' := rog_grown hZZ hOO hgr
          have hy' := rog_grown hRy hOO hgr
          rw [← gl_append] at hO'
          have HO' := Lib.hid hO'; have HY' := Lib.hid (rol_app hY' (m := [z, y]) (fun u hu => by rcases List.mem_cons.1 hu with rfl | hu; exact hz'; rw [List.mem_singleton.1 hu]; exact hy'))
          clear hO' hY' hz' hy' hOO hYY hZZ r2 hRy
          refine hK.out _ _ ?_ (fun hHeld => ?_)
          · exact ⟨⟨hgr.cell hHeld.1.1 h8, hgr.cell hHeld.1.2.1 h8, hgr.cell hHeld.1.2.2.1 h8, hgr.cell hHeld.1.2.2.2.1 h8, hgr.cell hHeld.1.2.2.2.2.1 h8, hgr.cell hHeld.1.2.2.2.2.2 h8⟩, hgr.cell hHeld.2.1 h7, hgr.cell hHeld.2.2.1 h7, hgr.cell hHeld.2.2.2.1 h7, hgr.cell hHeld.2.2.2.2.1 h7, hgr.cell hHeld.2.2.2.2.2.1 h7, hgr.cell hHeld.2.2.2.2.2.2 h7⟩
          clear hK K hgr h7 h8
          (try simp only [Act.put]); (try simp only [List.setIfInBounds_toArray]); (try simp only [List.set_cons_succ]); (try simp only [List.set_cons_zero])
          refine wpAnyH_take (i := 6) (oi := ⟨_, _, _, _, _, _⟩) (v := ?_) rfl (by kernel_rfl) (by kernel_rfl) (by kernel_rfl) (fun _ _ _ h => h) (Or.inl ⟨by rfl, ?_⟩) (by assumption) ?_
          rotate_left 1
          · intro w hSw; (try dsimp only at hSw); go_simp <;> with_reducible rfl
          (try simp only [Act.put]); (try simp only [List.setIfInBounds_toArray]); (try simp only [List.set_cons_succ]); (try simp only [List.set_cons_zero])
          refine wpAnyH_done (by kernel_rfl) ?_ _
          go_wp2_with fail
          go_roundw
          case rel => exact ⟨k + 1, ys ++ [z, y], by omega, by go_num, Lib.hid (by rw [List.length_append]; exact HO'.out), HY', Lib.hid (by rw [List.length_append, HN.out]; simp; omega), Lib.hid ⟨by rw [HS.out.1, HCK.out, HST.out, HCK1.out], by rw [HS.out.2, HCK.out, HSTT.out, HCK1.out, List.map_append, List.map_cons, List.map_cons, List.map_nil, HZ.out, HY2.out]; simp⟩⟩
          case measure => simp [RowKit.intOf]; omega
      · go_wp2_with fail
        go_ret2
        have he := ch_end (l := l.map (·.c)) (k := k) (cat (l.map (·.c)) k) (by rw [List.length_map]; have := L1.out; omega)
        have e1 : chE (cat (l.map (·.c)) 0) ((l.map (·.c)).drop 1) = 0 := by rw [HS.out.1, he.1]
        exact ⟨_, ys, by rw [HCE.out.1, e1]; rfl, HO.out, by rw [HCE.out.2, e1, if_neg (by decide), HS.out.2, he.2, List.append_nil], HY.out⟩
end Go.Proofs.YtnlohknlchgfgaaGreatDoor
/- The reference's Chain. -/
namespace Go.Proofs.YtnlohknlchgfgaaGreatDoor
open Go.RowKit Go.Lib Go.Shelf
theorem vldC_drop {l : List Cf} {k : Nat} (h : k < l.length) : vldC (l.drop k) = if cvf (cat l k) ≠ 0 then cvf (cat l k) else vldC (l.drop (k + 1)) := by
  rw [show l.drop k = cat l k :: l.drop (k + 1) from getD_dropE l k cf00 h, vldC]
theorem vldC_end {l : List Cf} {k : Nat} (h : ¬ k < l.length) : vldC (l.drop k) = 0 := by
  rw [List.drop_eq_nil_iff.2 (by omega)]; rfl
set_option maxRecDepth 20000 in
set_option maxHeartbeats 8000000 in
theorem rchain_any (a : Option Addr) (n c : Nat) (l : List CA) (w : World) (h : Rd w a n c 6 (gl l)) (hl : RoL w l) (hn : n ≤ 1000000) :
    Calls Tryz.prog 14 #[.slice a n c] w fun e w' => RetCh w (l.map (·.c)) e w' := by
  have s1 := h.small
  have l1 := gl_rdlen h
  have L1 := Lib.hid l1
  by_cases h0 : n = 0
  · subst h0
    obtain rfl : l = [] := List.eq_nil_of_length_eq_zero l1
    clear l1 h hl
    go_enter Tryz.func14, Tryz.ntmps14
    go_wp2_with fail
    go_ret2
    exact ⟨_, [], rfl, Own.nil _ _ (Keeps.refl _), rfl, fun x hx => by simp at hx⟩
  · have HR := Lib.hid h; have HL := Lib.hid hl
    have ha := h.isSome (by omega)
    have hn1 : (1 : Int) ≤ (n : Int) := by omega
    have hb0 : ((n : Int) == 0) = false := by simpa using h0
    clear h hl l1
    go_enter Tryz.func14, Tryz.ntmps14
    go_wp2_with fail
    go_loopw [4] (fun v wr => ∃ k : Nat, k ≤ n ∧ v = .int .i64 k ∧ Keeps w wr ∧ Hid (vldC (l.map (·.c)) = vldC ((l.map (·.c)).drop k))) (fun v _ => n - (RowKit.intOf v).toNat)
    case atStart => exact ⟨0, Nat.zero_le _, rfl, Keeps.refl _, rfl⟩
    case round =>
      obtain ⟨k, hk, rfl, K1, HI⟩ := hrel
      by_cases hlt : k < n
      · obtain ⟨g0, g1, g2, g3, g4, g5⟩ := gl_at (HR.out.keep K1) hlt
        have hmem := gA_mem (l := l) (i := k) (by have := L1.out; omega)
        have hcall := rvalidG_any (gA l k) wr ((HL.out _ hmem).keep K1).rd
        have hvd := vldC_drop (l := l.map (·.c)) (k := k) (by rw [List.length_map]; have := L1.out; omega)
        rw [cat_map l k] at hvd
        unfold vg at hcall
        have HC := Lib.hid hcall; have HVD := Lib.hid hvd
        clear hcall hmem hvd
        generalize gA l k = x at *
        have hz : ∃ z, z = cvf x.c := ⟨_, rfl⟩
        obtain ⟨z, hz⟩ := hz
        rw [← hz] at HC HVD
        clear hz
        go_wp2_with fail
        refine HC.out.mono ?_
        rintro e w2 ⟨rfl, K2⟩
        clear g0 g1 g2 g3 g4 g5 HC
        rcases (Decidable.em (z = 0)).symm with he | he
        · have hb : (z != 0) = true := by simpa using he
          have HE := Lib.hid he
          clear he
          go_wp2_with fail
          go_ret2
          have e0 : vldC (l.map (·.c)) = z := by rw [HI.out, HVD.out, if_pos HE.out]
          obtain ⟨e1, e2⟩ := chain_bad (l := l.map (·.c)) (by rw [List.length_map]; have := L1.out; omega) (by rw [e0]; exact HE.out)
          exact ⟨_, [], by rw [e1, e0]; rfl, Own.nil _ _ (K1.trans K2), by rw [e2]; rfl, fun x hx => by simp at hx⟩
        · subst he
          go_wp2_with fail
          go_roundw
          case rel => exact ⟨k + 1, by omega, by go_num, K1.trans K2, hrfl <| by rw [HI.out, HVD.out, if_neg (by decide)]⟩
          case measure => simp [RowKit.intOf]; omega
      · have HQ : Hid (vldC (l.map (·.c)) = 0) := by rw [HI.out, vldC_end (by rw [List.length_map]; have := L1.out; omega)]; exact rfl
        have hvl : ValL l := fun x hx => vldC_all HQ.out _ (List.mem_map.2 ⟨x, hx, rfl⟩)
        have hce := chain_eq (l := l.map (·.c)) (by rw [List.length_map]; have := L1.out; omega) HQ.out
        have HVL := Lib.hid hvl; have HCE := Lib.hid hce
        clear hvl hce HI
        obtain ⟨g0, g1, g2, g3, g4, g5⟩ := gl_at (HR.out.keep K1) (i := 0) (by omega)
        have hcm := cat_map l 0
        have hm0 := gA_mem (l := l) (i := 0) (by have := L1.out; omega)
        have hx0 := (HL.out _ hm0).keep K1
        have HCM := Lib.hid hcm
        clear hcm hm0 hk
        simp only [Nat.zero_mul] at g0 g1 g2 g3 g4 g5
        generalize gA l 0 = x0 at *
        go_wp2_with fail
        clear g0 g1 g2 g3 g4 g5
        have hO := Own.made (e := 32) (sz := 6) K1 (eG x0) 1 (by decide) rfl
        have hRL : RoL (wr.alloc (.cells (eG x0).toArray 32)) [x0] := fun y hy => by rw [List.mem_singleton.1 hy]; exact hx0.keep ((Keeps.refl _).alloc _)
        have HO0 := Lib.hid hO; have HRL0 := Lib.hid hRL
        clear hO hRL hx0
        go_loopw [6, 7] (fun v5 v26 wr => ∃ (k : Nat) (ys : List CA), k ≤ n - 1 ∧ v26 = .int .i64 ((k : Int) + 1) ∧ Hid (Own 32 6 w wr v5 ys.length (gl ys)) ∧ Hid (RoL wr ys) ∧ Hid (ys.length = 1 + 2 * k) ∧
          Hid (chE (cat (l.map (·.c)) 0) ((l.map (·.c)).drop 1) = chE (cat (l.map (·.c)) k) ((l.map (·.c)).drop (k + 1)) ∧ cat (l.map (·.c)) 0 :: chT (cat (l.map (·.c)) 0) ((l.map (·.c)).drop 1) = ys.map (·.c) ++ chT (cat (l.map (·.c)) k) ((l.map (·.c)).drop (k + 1)))) (fun _ v _ => n - (RowKit.intOf v).toNat)
        case atStart =>
          exact ⟨0, [x0], by omega, rfl, HO0, HRL0, Lib.hid rfl, Lib.hid ⟨rfl, by rw [List.map_cons, List.map_nil, HCM.out]; rfl⟩⟩
        case round =>
          obtain ⟨k, ys, hk, rfl, HO, HY, HN, HS⟩ := hrel
          by_cases hlt : k < n - 1
          · have hlt1 : k < n := by omega
            have hlt2 : k + 1 < n := by omega
            have HRr := Lib.hid (HR.out.keep HO.out.2); have HLr := Lib.hid (HL.out.keep HO.out.2)
            have hp : ∀ W', Keeps wr W' → (W'.cell? (adr a (k * 6)) = some (.string (gA l k).c.nm) ∧ W'.cell? ⟨(adr a (k * 6)).block, (adr a (k * 6)).off + 1, none⟩ = some (.int .i64 (gA l k).c.kd) ∧ W'.cell? ⟨(adr a (k * 6)).block, (adr a (k * 6)).off + 2, none⟩ = some (.int .u16 (sv (gA l k).c.M)) ∧ W'.cell? ⟨(adr a (k * 6)).block, (adr a (k * 6)).off + 3, none⟩ = some (.slice (gA l k).ar (gA l k).c.R.length (gA l k).cr) ∧ W'.cell? ⟨(adr a (k * 6)).block, (adr a (k * 6)).off + 4, none⟩ = some (.slice (gA l k).aw (gA l k).c.Q.length (gA l k).cw) ∧ W'.cell? ⟨(adr a (k * 6)).block, (adr a (k * 6)).off + 5, none⟩ = some (.slice (gA l k).af (gA l k).c.F.length (gA l k).cf)) ∧ (W'.cell? (adr a ((k + 1) * 6)) = some (.string (gA l (k + 1)).c.nm) ∧ W'.cell? ⟨(adr a ((k + 1) * 6)).block, (adr a ((k + 1) * 6)).off + 1, none⟩ = some (.int .i64 (gA l (k + 1)).c.kd) ∧ W'.cell? ⟨(adr a ((k + 1) * 6)).block, (adr a ((k + 1) * 6)).off + 2, none⟩ = some (.int .u16 (sv (gA l (k + 1)).c.M)) ∧ W'.cell? ⟨(adr a ((k + 1) * 6)).block, (adr a ((k + 1) * 6)).off + 3, none⟩ = some (.slice (gA l (k + 1)).ar (gA l (k + 1)).c.R.length (gA l (k + 1)).cr) ∧ W'.cell? ⟨(adr a ((k + 1) * 6)).block, (adr a ((k + 1) * 6)).off + 4, none⟩ = some (.slice (gA l (k + 1)).aw (gA l (k + 1)).c.Q.length (gA l (k + 1)).cw) ∧ W'.cell? ⟨(adr a ((k + 1) * 6)).block, (adr a ((k + 1) * 6)).off + 5, none⟩ = some (.slice (gA l (k + 1)).af (gA l (k + 1)).c.F.length (gA l (k + 1)).cf)) := fun W' J => ⟨gl_at (HRr.out.keep J) hlt1, gl_at (HRr.out.keep J) hlt2⟩
            have hmx := gA_mem (l := l) (i := k) (by have := L1.out; omega)
            have hmy := gA_mem (l := l) (i := k + 1) (by have := L1.out; omega)
            have hxr := HLr.out _ hmx; have hyr := HLr.out _ hmy; have hyw := HL.out _ hmy
            have hst := chE_step (l := l.map (·.c)) (k := k) (by rw [List.length_map]; have := L1.out; omega)
            have hsT := chT_step (l := l.map (·.c)) (k := k) (by rw [List.length_map]; have := L1.out; omega)
            rw [cat_map l k, cat_map l (k + 1)] at hst hsT
            have hck := cat_map l k; have hck1 := cat_map l (k + 1)
            have HP := Lib.hid hp; have HXRW := Lib.hid hxr; have HYRW := Lib.hid hyr; have HYW0 := Lib.hid hyw; have HST := Lib.hid hst; have HSTT := Lib.hid hsT; have HCK := Lib.hid hck; have HCK1 := Lib.hid hck1
            clear hp hmx hmy hxr hyr hyw hst hsT hck hck1
            generalize gA l k = xk at *
            have hxy : ∃ y, y = gA l (k + 1) := ⟨_, rfl⟩
            obtain ⟨yk, hxy⟩ := hxy
            rw [← hxy] at HP HYRW HYW0 HST HSTT HCK1
            have HXY := Lib.hid hxy.symm; clear hxy
            have hq1 : (k : Int) + 1 < (n : Int) := by omega
            have hq0 : (0 : Int) ≤ (k : Int) + 1 := by omega
            have hq2 : (k : Int) < (n : Int) := by omega
            have hq3 : ((k : Int) + 1).toNat = k + 1 := by omega
            have hq4 : IntKind.i64.wrap (k : Int) = (k : Int) := IntWalk.i64_in _ (by omega)
            go_wp2_with fail
            go_cut [8, 9] (fun s8 s9 wx => ∃ B8 z, s8 = .pointer (some ⟨B8, 0, none⟩) ∧ s9 = .int .i64 (ofE xk.c yk.c) ∧ Hid (z.c = ofC xk.c yk.c) ∧ Hid (Blk wx B8 32 #[.string z.c.nm, .int .i64 z.c.kd, .int .u16 (sv z.c.M), .slice z.ar z.c.R.length z.cr, .slice z.aw z.c.Q.length z.cw, .slice z.af z.c.F.length z.cf]) ∧ Hid (RoG wx z) ∧ Hid (wr.heap.size ≤ B8) ∧ Keeps wr wx)
            case first =>
              have J : Keeps wr wr.drew := (Keeps.refl wr).drew
              refine wp_region_held_drew (S := (fun w' => (w'.cell? (adr a (k * 6)) = some (.string xk.c.nm) ∧ w'.cell? ⟨(adr a (k * 6)).block, (adr a (k * 6)).off + 1, none⟩ = some (.int .i64 xk.c.kd) ∧ w'.cell? ⟨(adr a (k * 6)).block, (adr a (k * 6)).off + 2, none⟩ = some (.int .u16 (sv xk.c.M)) ∧ w'.cell? ⟨(adr a (k * 6)).block, (adr a (k * 6)).off + 3, none⟩ = some (.slice xk.ar xk.c.R.length xk.cr) ∧ w'.cell? ⟨(adr a (k * 6)).block, (adr a (k * 6)).off + 4, none⟩ = some (.slice xk.aw xk.c.Q.length xk.cw) ∧ w'.cell? ⟨(adr a (k * 6)).block, (adr a (k * 6)).off + 5, none⟩ = some (.slice xk.af xk.c.F.length xk.cf)) ∧ (w'.cell? (adr a ((k + 1) * 6)) = some (.string yk.c.nm) ∧ w'.cell? ⟨(adr a ((k + 1) * 6)).block, (adr a ((k + 1) * 6)).off + 1, none⟩ = some (.int .i64 yk.c.kd) ∧ w'.cell? ⟨(adr a ((k + 1) * 6)).block, (adr a ((k + 1) * 6)).off + 2, none⟩ = some (.int .u16 (sv yk.c.M)) ∧ w'.cell? ⟨(adr a ((k + 1) * 6)).block, (adr a ((k + 1) * 6)).off + 3, none⟩ = some (.slice yk.ar yk.c.R.length yk.cr) ∧ w'.cell? ⟨(adr a ((k + 1) * 6)).block, (adr a ((k + 1) * 6)).off + 4, none⟩ = some (.slice yk.aw yk.c.Q.length yk.cw) ∧ w'.cell? ⟨(adr a ((k + 1) * 6)).block, (adr a ((k + 1) * 6)).off + 5, none⟩ = some (.slice yk.af yk.c.F.length yk.cf)))) (by kernel_rfl) ?_ (fun hHeld => ?_)
              · exact HP.out _ J
              generalize wr.drew = V0 at *
              refine wpAnyH_take (i := 0) (oi := ⟨_, _, _, _, _, _⟩) (v := ?_) rfl (by kernel_rfl) (by kernel_rfl) (by kernel_rfl) (fun _ _ _ h => h) (Or.inl ⟨by rfl, ?_⟩) (by assumption) ?_
              rotate_left 1
              · intro w hSw; (try dsimp only at hSw); go_simp <;> with_reducible rfl
              (try simp only [Act.put]); (try simp only [List.setIfInBounds_toArray]); (try simp only [List.set_cons_succ]); (try simp only [List.set_cons_zero])
              refine wpAnyH_take (i := 1) (oi := ⟨_, _, _, _, _, _⟩) (v := ?_) rfl (by kernel_rfl) (by kernel_rfl) (by kernel_rfl) (fun _ _ _ h => h) (Or.inl ⟨by rfl, ?_⟩) (by assumption) ?_
              rotate_left 1
              · intro w hSw; (try dsimp only at hSw); go_simp <;> with_reducible rfl
              (try simp only [Act.put]); (try simp only [List.setIfInBounds_toArray]); (try simp only [List.set_cons_succ]); (try simp only [List.set_cons_zero])
              refine wpAnyH_take (i := 2) (oi := ⟨_, _, _, _, _, _⟩) (v := ?_) rfl (by kernel_rfl) (by kernel_rfl) (by kernel_rfl) (fun _ _ _ h => h) (Or.inl ⟨by rfl, ?_⟩) (by assumption) ?_
              rotate_left 1
              · intro w hSw; (try dsimp only at hSw); go_simp <;> with_reducible rfl
              (try simp only [Act.put]); (try simp only [List.setIfInBounds_toArray]); (try simp only [List.set_cons_succ]); (try simp only [List.set_cons_zero])
              refine wpAnyH_take (i := 3) (oi := ⟨_, _, _, _, _, _⟩) (v := ?_) rfl (by kernel_rfl) (by kernel_rfl) (by kernel_rfl) (fun _ _ _ h => h) (Or.inl ⟨by rfl, ?_⟩) (by assumption) ?_
              rotate_left 1
              · intro w hSw; (try dsimp only at hSw); go_simp <;> with_reducible rfl
              (try simp only [Act.put]); (try simp only [List.setIfInBounds_toArray]); (try simp only [List.set_cons_succ]); (try simp only [List.set_cons_zero])
              refine wpAnyH_take (i := 4) (oi := ⟨_, _, _, _, _, _⟩) (v := ?_) rfl (by kernel_rfl) (by kernel_rfl) (by kernel_rfl) (fun _ _ _ h => h) (Or.inl ⟨by rfl, ?_⟩) (by assumption) ?_
              rotate_left 1
              · intro w hSw; (try dsimp only at hSw); go_simp <;> with_reducible rfl
              (try simp only [Act.put]); (try simp only [List.setIfInBounds_toArray]); (try simp only [List.set_cons_succ]); (try simp only [List.set_cons_zero])
              refine wpAnyH_take (i := 5) (oi := ⟨_, _, _, _, _, _⟩) (v := ?_) rfl (by kernel_rfl) (by kernel_rfl) (by kernel_rfl) (fun _ _ _ h => h) (Or.inl ⟨by rfl, ?_⟩) (by assumption) ?_
              rotate_left 1
              · intro w hSw; (try dsimp only at hSw); go_simp <;> with_reducible rfl
              (try simp only [Act.put]); (try simp only [List.setIfInBounds_toArray]); (try simp only [List.set_cons_succ]); (try simp only [List.set_cons_zero])
              refine wpAnyH_take (i := 6) (oi := ⟨_, _, _, _, _, _⟩) (v := ?_) rfl (by kernel_rfl) (by kernel_rfl) (by kernel_rfl) (fun _ _ _ h => h) (Or.inl ⟨by rfl, ?_⟩) (by assumption) ?_
              rotate_left 1
              · intro w hSw; (try dsimp only at hSw); go_simp <;> with_reducible rfl
              (try simp only [Act.put]); (try simp only [List.setIfInBounds_toArray]); (try simp only [List.set_cons_succ]); (try simp only [List.set_cons_zero])
              refine wpAnyH_take (i := 7) (oi := ⟨_, _, _, _, _, _⟩) (v := ?_) rfl (by kernel_rfl) (by kernel_rfl) (by kernel_rfl) (fun _ _ _ h => h) (Or.inl ⟨by rfl, ?_⟩) (by assumption) ?_
              rotate_left 1
              · intro w hSw; (try dsimp only at hSw); go_simp <;> with_reducible rfl
              (try simp only [Act.put]); (try simp only [List.setIfInBounds_toArray]); (try simp only [List.set_cons_succ]); (try simp only [List.set_cons_zero])
              refine wpAnyH_take (i := 8) (oi := ⟨_, _, _, _, _, _⟩) (v := ?_) rfl (by kernel_rfl) (by kernel_rfl) (by kernel_rfl) (fun _ _ _ h => h) (Or.inl ⟨by rfl, ?_⟩) (by assumption) ?_
              rotate_left 1
              · intro w hSw; (try dsimp only at hSw); go_simp <;> with_reducible rfl
              (try simp only [Act.put]); (try simp only [List.setIfInBounds_toArray]); (try simp only [List.set_cons_succ]); (try simp only [List.set_cons_zero])
              refine wpAnyH_ready (rs := [9, 13]) (by kernel_rfl) (by simp) ?_
              refine AllReadyH.cons (o := ⟨_, _, _, _, _, _⟩) rfl (fun K hK => ?_) (AllReadyH.cons (o := ⟨_, _, _, _, _, _⟩) rfl (fun K hK => ?_) AllReadyH.nil)
              · go_simp
                have hcl := rof_any xk yk V0 (HXRW.out.keep J).rd (HYRW.out.keep J).rd
                unfold vg at hcl
                refine hcl.mono ?_
                clear hcl
                rintro e V1 ⟨z, rfl, hz, hR, K9⟩
                have HZ := Lib.hid hz
                clear hz
                unfold vg
                dsimp only
                replace J := J.trans K9
                clear K9
                refine hK.out _ _ ?_ (fun hHeld => ?_)
                · exact HP.out _ J
                clear hK K
                (try simp only [Act.put]); (try simp only [List.setIfInBounds_toArray]); (try simp only [List.set_cons_succ]); (try simp only [List.set_cons_zero])
                refine wpAnyH_take (i := 10) (oi := ⟨_, _, _, _, _, _⟩) (v := ?_) rfl (by kernel_rfl) (by kernel_rfl) (by kernel_rfl) (fun _ _ _ h => h) (Or.inl ⟨by rfl, ?_⟩) (by assumption) ?_
                rotate_left 1
                · intro w hSw; (try dsimp only at hSw); go_simp <;> with_reducible rfl
                (try simp only [Act.put]); (try simp only [List.setIfInBounds_toArray]); (try simp only [List.set_cons_succ]); (try simp only [List.set_cons_zero])
                refine wpAnyH_take (i := 11) (oi := ⟨_, _, _, _, _, _⟩) (v := ?_) rfl (by kernel_rfl) (by kernel_rfl) (by kernel_rfl) (fun _ _ _ h => h) (Or.inl ⟨by rfl, ?_⟩) (by assumption) ?_
                rotate_left 1
                · intro w hSw; (try dsimp only at hSw); go_simp <;> with_reducible rfl
                (try simp only [Act.put]); (try simp only [List.setIfInBounds_toArray]); (try simp only [List.set_cons_succ]); (try simp only [List.set_cons_zero])
                refine wpAnyH_take (i := 12) (oi := ⟨_, _, _, _, _, _⟩) (v := ?_) rfl (by kernel_rfl) (by kernel_rfl) (by kernel_rfl) (fun _ _ _ h => h) (Or.inl ⟨by rfl, ?_⟩) (by assumption) ?_
                rotate_left 1
                · intro w hSw; (try dsimp only at hSw); go_simp <;> with_reducible rfl
                (try simp only [Act.put]); (try simp only [List.setIfInBounds_toArray]); (try simp only [List.set_cons_succ]); (try simp only [List.set_cons_zero])
                refine wpAnyH_ready (rs := [13]) (by kernel_rfl) (by simp) ?_
                refine AllReadyH.cons (o := ⟨_, _, _, _, _, _⟩) rfl (fun K hK => ?_) AllReadyH.nil
                go_simp
                have hn8 := Blk.new V1 32 zG
                have KA := (Keeps.refl V1).alloc (.cells zG 32)
                have hg8 : wr.heap.size ≤ V1.heap.size := J.size
                replace hR := hR.keep KA
                replace J := J.trans KA
                clear KA
                generalize V1.alloc (.cells zG 32) = V2 at *
                generalize V1.heap.size = B8 at *
                refine hK.out _ _ ?_ (fun hHeld => ?_)
                · exact HP.out _ J
                clear hK K
                (try simp only [Act.put]); (try simp only [List.setIfInBounds_toArray]); (try simp only [List.set_cons_succ]); (try simp only [List.set_cons_zero])
                refine wpAnyH_ready (rs := [14]) (by kernel_rfl) (by simp) ?_
                refine AllReadyH.cons (o := ⟨_, _, _, _, _, _⟩) rfl (fun K hK => ?_) AllReadyH.nil
                obtain ⟨c0, c1, c2, c3, c4, c5⟩ := hn8.c6
                obtain ⟨g0, g1, g2, g3, g4, g5⟩ := hn8.f6
                go_simp
                clear c0 c1 c2 c3 c4 c5 g0 g1 g2 g3 g4 g5
                replace hR := hR.set6 hn8 (.string z.c.nm) (.int .i64 z.c.kd) (.int .u16 (sv z.c.M)) (.slice z.ar z.c.R.length z.cr) (.slice z.aw z.c.Q.length z.cw) (.slice z.af z.c.F.length z.cf)
                replace hn8 := hn8.set6 (.string z.c.nm) (.int .i64 z.c.kd) (.int .u16 (sv z.c.M)) (.slice z.ar z.c.R.length z.cr) (.slice z.aw z.c.Q.length z.cw) (.slice z.af z.c.F.length z.cf)
                replace J := keeps_set6 J hg8 (.string z.c.nm) (.int .i64 z.c.kd) (.int .u16 (sv z.c.M)) (.slice z.ar z.c.R.length z.cr) (.slice z.aw z.c.Q.length z.cw) (.slice z.af z.c.F.length z.cf)
                generalize ((((((V2.setCell ⟨B8, 0, none⟩ (.string z.c.nm)).setCell ⟨B8, 1, none⟩ (.int .i64 z.c.kd)).setCell ⟨B8, 2, none⟩ (.int .u16 (sv z.c.M))).setCell ⟨B8, 3, none⟩ (.slice z.ar z.c.R.length z.cr)).setCell ⟨B8, 4, none⟩ (.slice z.aw z.c.Q.length z.cw)).setCell ⟨B8, 5, none⟩ (.slice z.af z.c.F.length z.cf)) = VL at *
                refine hK.out _ _ ?_ (fun hHeld => ?_)
                · exact HP.out _ J
                clear hK K
                (try simp only [Act.put]); (try simp only [List.setIfInBounds_toArray]); (try simp only [List.set_cons_succ]); (try simp only [List.set_cons_zero])
                refine wpAnyH_take (i := 15) (oi := ⟨_, _, _, _, _, _⟩) (v := ?_) rfl (by kernel_rfl) (by kernel_rfl) (by kernel_rfl) (fun _ _ _ h => h) (Or.inl ⟨by rfl, ?_⟩) (by assumption) ?_
                rotate_left 1
                · intro w hSw; (try dsimp only at hSw); go_simp <;> with_reducible rfl
                (try simp only [Act.put]); (try simp only [List.setIfInBounds_toArray]); (try simp only [List.set_cons_succ]); (try simp only [List.set_cons_zero])
                refine wpAnyH_done (by kernel_rfl) ?_ _
                go_wp2_with fail
                go_meet
                case rel => exact ⟨B8, z, rfl, rfl, HZ, Lib.hid hn8, Lib.hid hR, Lib.hid hg8, J⟩
              · go_simp
                have hn8 := Blk.new V0 32 zG
                have KA := (Keeps.refl V0).alloc (.cells zG 32)
                have hg8 : wr.heap.size ≤ V0.heap.size := J.size
                replace J := J.trans KA
                clear KA
                generalize V0.alloc (.cells zG 32) = V1 at *
                generalize V0.heap.size = B8 at *
                refine hK.out _ _ ?_ (fun hHeld => ?_)
                · exact HP.out _ J
                clear hK K
                (try simp only [Act.put]); (try simp only [List.setIfInBounds_toArray]); (try simp only [List.set_cons_succ]); (try simp only [List.set_cons_zero])
                refine wpAnyH_ready (rs := [9]) (by kernel_rfl) (by simp) ?_
                refine AllReadyH.cons (o := ⟨_, _, _, _, _, _⟩) rfl (fun K hK => ?_) AllReadyH.nil
                go_simp
                have hcl := rof_any xk yk V1 (HXRW.out.keep J).rd (HYRW.out.keep J).rd
                unfold vg at hcl
                refine hcl.mono ?_
                clear hcl
                rintro e V2 ⟨z, rfl, hz, hR, K9⟩
                have HZ := Lib.hid hz
                clear hz
                unfold vg
                dsimp only
                replace hn8 := hn8.keep K9
                replace J := J.trans K9
                clear K9
                refine hK.out _ _ ?_ (fun hHeld => ?_)
                · exact HP.out _ J
                clear hK K
                (try simp only [Act.put]); (try simp only [List.setIfInBounds_toArray]); (try simp only [List.set_cons_succ]); (try simp only [List.set_cons_zero])
                refine wpAnyH_take (i := 10) (oi := ⟨_, _, _, _, _, _⟩) (v := ?_) rfl (by kernel_rfl) (by kernel_rfl) (by kernel_rfl) (fun _ _ _ h => h) (Or.inl ⟨by rfl, ?_⟩) (by assumption) ?_
                rotate_left 1
                · intro w hSw; (try dsimp only at hSw); go_simp <;> with_reducible rfl
                (try simp only [Act.put]); (try simp only [List.setIfInBounds_toArray]); (try simp only [List.set_cons_succ]); (try simp only [List.set_cons_zero])
                refine wpAnyH_take (i := 11) (oi := ⟨_, _, _, _, _, _⟩) (v := ?_) rfl (by kernel_rfl) (by kernel_rfl) (by kernel_rfl) (fun _ _ _ h => h) (Or.inl ⟨by rfl, ?_⟩) (by assumption) ?_
                rotate_left 1
                · intro w hSw; (try dsimp only at hSw); go_simp <;> with_reducible rfl
                (try simp only [Act.put]); (try simp only [List.setIfInBounds_toArray]); (try simp only [List.set_cons_succ]); (try simp only [List.set_cons_zero])
                refine wpAnyH_take (i := 12) (oi := ⟨_, _, _, _, _, _⟩) (v := ?_) rfl (by kernel_rfl) (by kernel_rfl) (by kernel_rfl) (fun _ _ _ h => h) (Or.inl ⟨by rfl, ?_⟩) (by assumption) ?_
                rotate_left 1
                · intro w hSw; (try dsimp only at hSw); go_simp <;> with_reducible rfl
                (try simp only [Act.put]); (try simp only [List.setIfInBounds_toArray]); (try simp only [List.set_cons_succ]); (try simp only [List.set_cons_zero])
                refine wpAnyH_ready (rs := [14]) (by kernel_rfl) (by simp) ?_
                refine AllReadyH.cons (o := ⟨_, _, _, _, _, _⟩) rfl (fun K hK => ?_) AllReadyH.nil
                obtain ⟨c0, c1, c2, c3, c4, c5⟩ := hn8.c6
                obtain ⟨g0, g1, g2, g3, g4, g5⟩ := hn8.f6
                go_simp
                clear c0 c1 c2 c3 c4 c5 g0 g1 g2 g3 g4 g5
                replace hR := hR.set6 hn8 (.string z.c.nm) (.int .i64 z.c.kd) (.int .u16 (sv z.c.M)) (.slice z.ar z.c.R.length z.cr) (.slice z.aw z.c.Q.length z.cw) (.slice z.af z.c.F.length z.cf)
                replace hn8 := hn8.set6 (.string z.c.nm) (.int .i64 z.c.kd) (.int .u16 (sv z.c.M)) (.slice z.ar z.c.R.length z.cr) (.slice z.aw z.c.Q.length z.cw) (.slice z.af z.c.F.length z.cf)
                replace J := keeps_set6 J hg8 (.string z.c.nm) (.int .i64 z.c.kd) (.int .u16 (sv z.c.M)) (.slice z.ar z.c.R.length z.cr) (.slice z.aw z.c.Q.length z.cw) (.slice z.af z.c.F.length z.cf)
                generalize ((((((V2.setCell ⟨B8, 0, none⟩ (.string z.c.nm)).setCell ⟨B8, 1, none⟩ (.int .i64 z.c.kd)).setCell ⟨B8, 2, none⟩ (.int .u16 (sv z.c.M))).setCell ⟨B8, 3, none⟩ (.slice z.ar z.c.R.length z.cr)).setCell ⟨B8, 4, none⟩ (.slice z.aw z.c.Q.length z.cw)).setCell ⟨B8, 5, none⟩ (.slice z.af z.c.F.length z.cf)) = VL at *
                refine hK.out _ _ ?_ (fun hHeld => ?_)
                · exact HP.out _ J
                clear hK K
                (try simp only [Act.put]); (try simp only [List.setIfInBounds_toArray]); (try simp only [List.set_cons_succ]); (try simp only [List.set_cons_zero])
                refine wpAnyH_take (i := 15) (oi := ⟨_, _, _, _, _, _⟩) (v := ?_) rfl (by kernel_rfl) (by kernel_rfl) (by kernel_rfl) (fun _ _ _ h => h) (Or.inl ⟨by rfl, ?_⟩) (by assumption) ?_
                rotate_left 1
                · intro w hSw; (try dsimp only at hSw); go_simp <;> with_reducible rfl
                (try simp only [Act.put]); (try simp only [List.setIfInBounds_toArray]); (try simp only [List.set_cons_succ]); (try simp only [List.set_cons_zero])
                refine wpAnyH_done (by kernel_rfl) ?_ _
                go_wp2_with fail
                go_meet
                case rel => exact ⟨B8, z, rfl, rfl, HZ, Lib.hid hn8, Lib.hid hR, Lib.hid hg8, J⟩
            case rest =>
            obtain ⟨B8, z, rfl, rfl, HZ, HN8, HRZ, HG8, KX⟩ := hcut
            have HST2 := HST.out; have HSTT2 := HSTT.out
            have hlt7 : ∀ b, u6.ownBlock = some b → b < wr.heap.size := fun b hb => (HO.out.1.lt b hb).2
            have HLT7 := Lib.hid hlt7
            have HOX := Lib.hid (HO.out.keep KX); have HYX := Lib.hid (HY.out.keep KX)
            have hp2 : ∀ W', Keeps wc W' → (W'.cell? ⟨B8, 0, none⟩ = some (.string z.c.nm) ∧ W'.cell? ⟨B8, 1, none⟩ = some (.int .i64 z.c.kd) ∧ W'.cell? ⟨B8, 2, none⟩ = some (.int .u16 (sv z.c.M)) ∧ W'.cell? ⟨B8, 3, none⟩ = some (.slice z.ar z.c.R.length z.cr) ∧ W'.cell? ⟨B8, 4, none⟩ = some (.slice z.aw z.c.Q.length z.cw) ∧ W'.cell? ⟨B8, 5, none⟩ = some (.slice z.af z.c.F.length z.cf)) ∧ (W'.cell? (adr a ((k + 1) * 6)) = some (.string yk.c.nm) ∧ W'.cell? ⟨(adr a ((k + 1) * 6)).block, (adr a ((k + 1) * 6)).off + 1, none⟩ = some (.int .i64 yk.c.kd) ∧ W'.cell? ⟨(adr a ((k + 1) * 6)).block, (adr a ((k + 1) * 6)).off + 2, none⟩ = some (.int .u16 (sv yk.c.M)) ∧ W'.cell? ⟨(adr a ((k + 1) * 6)).block, (adr a ((k + 1) * 6)).off + 3, none⟩ = some (.slice yk.ar yk.c.R.length yk.cr) ∧ W'.cell? ⟨(adr a ((k + 1) * 6)).block, (adr a ((k + 1) * 6)).off + 4, none⟩ = some (.slice yk.aw yk.c.Q.length yk.cw) ∧ W'.cell? ⟨(adr a ((k + 1) * 6)).block, (adr a ((k + 1) * 6)).off + 5, none⟩ = some (.slice yk.af yk.c.F.length yk.cf)) := fun W' J => ⟨(HN8.out.keep J).c6, (HP.out _ (KX.trans J)).2⟩
            have HP2 := Lib.hid hp2
            clear hp2 HP HO HY HXRW HYRW HN8 HST HSTT hlt7
            have hE : ∃ er, er = ofE xk.c yk.c := ⟨_, rfl⟩
            obtain ⟨er, hE⟩ := hE
            rw [← hE] at HST2 ⊢
            have HE := Lib.hid hE
            clear hE
            rcases (Decidable.em (er = 0)).symm with he | he
            · have hb : (er != 0) = true := by simpa using he
              rw [if_pos he] at HST2
              have HST := Lib.hid HST2; have HSTT := Lib.hid HSTT2; have HNE := Lib.hid he
              clear HST2 HSTT2 he
              go_wp2_with fail
              go_ret2
              have e1 : chE (cat (l.map (·.c)) 0) ((l.map (·.c)).drop 1) = er := by rw [HS.out.1, HCK.out, HST.out]
              exact ⟨_, [], by rw [HCE.out.1, e1]; rfl, Own.nil _ _ HOX.out.2, by rw [HCE.out.2, e1, if_pos HNE.out]; rfl, fun x hx => by simp at hx⟩
            · subst he
              rw [if_neg (by decide)] at HST2
              have HST := Lib.hid HST2; have HSTT := Lib.hid HSTT2
              clear HST2 HSTT2
              go_wp2_with fail
              have J : Keeps wc wc.drew := (Keeps.refl wc).drew
              refine wp_region_held_drew (S := (fun w' => (w'.cell? ⟨B8, 0, none⟩ = some (.string z.c.nm) ∧ w'.cell? ⟨B8, 1, none⟩ = some (.int .i64 z.c.kd) ∧ w'.cell? ⟨B8, 2, none⟩ = some (.int .u16 (sv z.c.M)) ∧ w'.cell? ⟨B8, 3, none⟩ = some (.slice z.ar z.c.R.length z.cr) ∧ w'.cell? ⟨B8, 4, none⟩ = some (.slice z.aw z.c.Q.length z.cw) ∧ w'.cell? ⟨B8, 5, none⟩ = some (.slice z.af z.c.F.length z.cf)) ∧ (w'.cell? (adr a ((k + 1) * 6)) = some (.string yk.c.nm) ∧ w'.cell? ⟨(adr a ((k + 1) * 6)).block, (adr a ((k + 1) * 6)).off + 1, none⟩ = some (.int .i64 yk.c.kd) ∧ w'.cell? ⟨(adr a ((k + 1) * 6)).block, (adr a ((k + 1) * 6)).off + 2, none⟩ = some (.int .u16 (sv yk.c.M)) ∧ w'.cell? ⟨(adr a ((k + 1) * 6)).block, (adr a ((k + 1) * 6)).off + 3, none⟩ = some (.slice yk.ar yk.c.R.length yk.cr) ∧ w'.cell? ⟨(adr a ((k + 1) * 6)).block, (adr a ((k + 1) * 6)).off + 4, none⟩ = some (.slice yk.aw yk.c.Q.length yk.cw) ∧ w'.cell? ⟨(adr a ((k + 1) * 6)).block, (adr a ((k + 1) * 6)).off + 5, none⟩ = some (.slice yk.af yk.c.F.length yk.cf)))) (by kernel_rfl) ?_ (fun hHeld => ?_)
              · exact HP2.out _ J
              generalize wc.drew = U0 at *
              refine wpAnyH_take (i := 0) (oi := ⟨_, _, _, _, _, _⟩) (v := ?_) rfl (by kernel_rfl) (by kernel_rfl) (by kernel_rfl) (fun _ _ _ h => h) (Or.inl ⟨by rfl, ?_⟩) (by assumption) ?_
              rotate_left 1
              · intro w hSw; (try dsimp only at hSw); go_simp <;> with_reducible rfl
              (try simp only [Act.put]); (try simp only [List.setIfInBounds_toArray]); (try simp only [List.set_cons_succ]); (try simp only [List.set_cons_zero])
              refine wpAnyH_take (i := 1) (oi := ⟨_, _, _, _, _, _⟩) (v := ?_) rfl (by kernel_rfl) (by kernel_rfl) (by kernel_rfl) (fun _ _ _ h => h) (Or.inl ⟨by rfl, ?_⟩) (by assumption) ?_
              rotate_left 1
              · intro w hSw; (try dsimp only at hSw); go_simp <;> with_reducible rfl
              (try simp only [Act.put]); (try simp only [List.setIfInBounds_toArray]); (try simp only [List.set_cons_succ]); (try simp only [List.set_cons_zero])
              refine wpAnyH_take (i := 2) (oi := ⟨_, _, _, _, _, _⟩) (v := ?_) rfl (by kernel_rfl) (by kernel_rfl) (by kernel_rfl) (fun _ _ _ h => h) (Or.inl ⟨by rfl, ?_⟩) (by assumption) ?_
              rotate_left 1
              · intro w hSw; (try dsimp only at hSw); go_simp <;> with_reducible rfl
              (try simp only [Act.put]); (try simp only [List.setIfInBounds_toArray]); (try simp only [List.set_cons_succ]); (try simp only [List.set_cons_zero])
              refine wpAnyH_take (i := 3) (oi := ⟨_, _, _, _, _, _⟩) (v := ?_) rfl (by kernel_rfl) (by kernel_rfl) (by kernel_rfl) (fun _ _ _ h => h) (Or.inl ⟨by rfl, ?_⟩) (by assumption) ?_
              rotate_left 1
              · intro w hSw; (try dsimp only at hSw); go_simp <;> with_reducible rfl
              (try simp only [Act.put]); (try simp only [List.setIfInBounds_toArray]); (try simp only [List.set_cons_succ]); (try simp only [List.set_cons_zero])
              refine wpAnyH_take (i := 4) (oi := ⟨_, _, _, _, _, _⟩) (v := ?_) rfl (by kernel_rfl) (by kernel_rfl) (by kernel_rfl) (fun _ _ _ h => h) (Or.inl ⟨by rfl, ?_⟩) (by assumption) ?_
              rotate_left 1
              · intro w hSw; (try dsimp only at hSw); go_simp <;> with_reducible rfl
              (try simp only [Act.put]); (try simp only [List.setIfInBounds_toArray]); (try simp only [List.set_cons_succ]); (try simp only [List.set_cons_zero])
              refine wpAnyH_take (i := 5) (oi := ⟨_, _, _, _, _, _⟩) (v := ?_) rfl (by kernel_rfl) (by kernel_rfl) (by kernel_rfl) (fun _ _ _ h => h) (Or.inl ⟨by rfl, ?_⟩) (by assumption) ?_
              rotate_left 1
              · intro w hSw; (try dsimp only at hSw); go_simp <;> with_reducible rfl
              (try simp only [Act.put]); (try simp only [List.setIfInBounds_toArray]); (try simp only [List.set_cons_succ]); (try simp only [List.set_cons_zero])
              refine wpAnyH_ready (rs := [6]) (by kernel_rfl) (by simp) ?_
              refine AllReadyH.cons (o := ⟨_, _, _, _, _, _⟩) rfl (fun K hK => ?_) AllReadyH.nil
              go_simp
              have r2 : Rd (U0.alloc (.cells #[.string z.c.nm, .int .i64 z.c.kd, .int .u16 (sv z.c.M), .slice z.ar z.c.R.length z.cr, .slice z.aw z.c.Q.length z.cw, .slice z.af z.c.F.length z.cf, .string yk.c.nm, .int .i64 yk.c.kd, .int .u16 (sv yk.c.M), .slice yk.ar yk.c.R.length yk.cr, .slice yk.aw yk.c.Q.length yk.cw, .slice yk.af yk.c.F.length yk.cf] 32)) (some ⟨U0.heap.size, 0, none⟩) 2 2 6 (gl [z, yk]) := rd_new 32 6 U0 (gl [z, yk]) 2 (by decide) rfl
              have KA := (Keeps.refl U0).alloc (.cells #[.string z.c.nm, .int .i64 z.c.kd, .int .u16 (sv z.c.M), .slice z.ar z.c.R.length z.cr, .slice z.aw z.c.Q.length z.cw, .slice z.af z.c.F.length z.cf, .string yk.c.nm, .int .i64 yk.c.kd, .int .u16 (sv yk.c.M), .slice yk.ar yk.c.R.length yk.cr, .slice yk.aw yk.c.Q.length yk.cw, .slice yk.af yk.c.F.length yk.cf] 32)
              replace J := J.trans KA
              clear KA
              generalize U0.alloc (.cells #[.string z.c.nm, .int .i64 z.c.kd, .int .u16 (sv z.c.M), .slice z.ar z.c.R.length z.cr, .slice z.aw z.c.Q.length z.cw, .slice z.af z.c.F.length z.cf, .string yk.c.nm, .int .i64 yk.c.kd, .int .u16 (sv yk.c.M), .slice yk.ar yk.c.R.length yk.cr, .slice yk.aw yk.c.Q.length yk.cw, .slice yk.af yk.c.F.length yk.cf] 32) = U1 at *
              generalize U0.heap.size = BS at *
              refine hK.out _ _ ?_ (fun hHeld => ?_)
              · exact HP2.out _ J
              clear hK K
              (try simp only [Act.put]); (try simp only [List.setIfInBounds_toArray]); (try simp only [List.set_cons_succ]); (try simp only [List.set_cons_zero])
              refine wpAnyH_ready (rs := [7]) (by kernel_rfl) (by simp) ?_
              refine AllReadyH.cons (o := ⟨_, _, _, _, _, _⟩) rfl (fun K hK => ?_) AllReadyH.nil
              have hOO := HOX.out.keep J
              have h8 : some B8 ≠ u6.ownBlock := fun e => by have := HLT7.out B8 e.symm; have := HG8.out; omega
              have hYY := HYX.out.keep J
              have hZZ := HRZ.out.keep J
              refine step_app ty_gl rfl _ _ rfl hOO rfl rfl r2 (gl_cells [z, yk]) (by have := HN.out; omega) ?_
              intro v' U2 hO' hgr
              dsimp only
              have hY' := rol_grown hYY hOO hgr
              have hz' := rog_grown hZZ hOO hgr
              rw [← gl_append] at hO'
              have HO' := Lib.hid hO'; have HY' := Lib.hid (rol_app hY' (m := [z, yk]) (fun u hu => by rcases List.mem_cons.1 hu with rfl | hu; exact hz'; rw [List.mem_singleton.1 hu]; exact HYW0.out.keep hO'.2))
              have hpa := gl_at (HR.out.keep hO'.2) hlt2
              rw [HXY.out] at hpa
              clear hO' hY' hz' hOO hYY hZZ r2
              refine hK.out _ _ ?_ (fun hHeld => ?_)
              · exact ⟨⟨hgr.cell hHeld.1.1 h8, hgr.cell hHeld.1.2.1 h8, hgr.cell hHeld.1.2.2.1 h8, hgr.cell hHeld.1.2.2.2.1 h8, hgr.cell hHeld.1.2.2.2.2.1 h8, hgr.cell hHeld.1.2.2.2.2.2 h8⟩, hpa⟩
              clear hK K hgr h8 hpa
              (try simp only [Act.put]); (try simp only [List.setIfInBounds_toArray]); (try simp only [List.set_cons_succ]); (try simp only [List.set_cons_zero])
              refine wpAnyH_take (i := 8) (oi := ⟨_, _, _, _, _, _⟩) (v := ?_) rfl (by kernel_rfl) (by kernel_rfl) (by kernel_rfl) (fun _ _ _ h => h) (Or.inl ⟨by rfl, ?_⟩) (by assumption) ?_
              rotate_left 1
              · intro w hSw; (try dsimp only at hSw); go_simp <;> with_reducible rfl
              (try simp only [Act.put]); (try simp only [List.setIfInBounds_toArray]); (try simp only [List.set_cons_succ]); (try simp only [List.set_cons_zero])
              refine wpAnyH_done (by kernel_rfl) ?_ _
              go_wp2_with fail
              go_roundw
              case rel => exact ⟨k + 1, ys ++ [z, yk], by omega, by go_num, Lib.hid (by rw [List.length_append]; exact HO'.out), HY', Lib.hid (by rw [List.length_append, HN.out]; simp; omega), Lib.hid ⟨by rw [HS.out.1, HCK.out, HST.out, HCK1.out], by rw [HS.out.2, HCK.out, HSTT.out, HCK1.out, List.map_append, List.map_cons, List.map_cons, List.map_nil, HZ.out]; simp⟩⟩
              case measure => simp [RowKit.intOf]; omega
          · have hq1 : ¬ (k : Int) + 1 < (n : Int) := by omega
            go_wp2_with fail
            go_ret2
            have he := ch_end (l := l.map (·.c)) (k := k) (cat (l.map (·.c)) k) (by rw [List.length_map]; have := L1.out; omega)
            have e1 : chE (cat (l.map (·.c)) 0) ((l.map (·.c)).drop 1) = 0 := by rw [HS.out.1, he.1]
            exact ⟨_, ys, by rw [HCE.out.1, e1]; rfl, HO.out, by rw [HCE.out.2, e1, if_neg (by decide), HS.out.2, he.2, List.append_nil], HY.out⟩
end Go.Proofs.YtnlohknlchgfgaaGreatDoor
