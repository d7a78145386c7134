/- Texts joined into one (wip/bin/pack.py): UnsG. -/
import Derived.Test.YtnlohknlchgfgaaGreatDoorKSc
import Derived.Test.YtnlohknlchgfgaaGreatDoorKT
/- joint.Unsafe, and the reference's. -/
namespace Go.Proofs.YtnlohknlchgfgaaGreatDoor
open Go.RowKit Go.Lib Go.Shelf
theorem results_tct {fn : Func} {a p u : Tmp} {ty : TypeId} (h : fn.results = #[.tmp a, .cell p ty, .tmp u]) (tmps : Array Value) (P : Program) (w : World) :
    (results fn tmps).run P w =
      ((asAddr (tmps.getD p undef)).run P w).andThen fun x w₁ => ((loadVar ty x).run P w₁).andThen fun v w₂ => .ok (.tuple #[tmps.getD a undef, v, tmps.getD u undef]) w₂ := by
  simp only [results, h]
  simp [Sem.run_bind, Result.andThen]
theorem resUns {fn : Func} {a p u : Tmp} (h : fn.results = #[.tmp a, .cell p 47, .tmp u]) {tmps : Array Value} {W : World} {B : Nat} {x : CL} {v v' : Value} (hB : ClBox W B x)
    (ta : tmps.getD a undef = v') (tp : tmps.getD p undef = .pointer (some ⟨B, 0, none⟩)) (tu : tmps.getD u undef = v) :
    (results fn tmps).run Tryz.prog W = .ok (.tuple #[v', vcl x, v]) W := by
  rw [results_tct h, ta, tp, tu]
  obtain ⟨k0, k1, k2, k3⟩ := hB.cells
  simp [go_sem, vcl, asAddr, loadVar, loadCells, loadCellsFrom, k0, k1, k2, k3]
theorem ClBox.setO {w : World} {B : Nat} {x : CL} (h : ClBox w B x) {C : Nat} (hC : B ≠ C) (i : Nat) (v : Value) : ClBox (w.setCell ⟨C, i, none⟩ v) B x := by
  unfold ClBox at *
  rw [Below.heap_setCell _ _ _ _ (by simpa using hC)]; exact h
def RetUns (w : World) (r : Int × CL × Int) (e : Ending) (w' : World) : Prop := e = .returned (.tuple #[.int .i64 r.1, vcl r.2.1, .int .i64 r.2.2]) ∧ Keeps w w'
theorem unsF_step {wt : S} {l : List CA} {k : Nat} (h : k < l.length) : unsF wt ((l.map (·.c)).drop k) k = if safC wt (gA l k) = true then unsF wt ((l.map (·.c)).drop (k + 1)) (k + 1) else ((k : Int), (clash27 (gA l k).c.kd wt (gA l k).c.M (gA l k).c.R (gA l k).c.Q (gA l k).c.F).1, 0) := by
  rw [show (l.map (·.c)).drop k = cat (l.map (·.c)) k :: (l.map (·.c)).drop (k + 1) from getD_dropE _ k cf00 (by rw [List.length_map]; exact h), cat_map, unsF]
  rfl
theorem unsF_end {wt : S} {l : List Cf} {k j : Nat} (h : ¬ k < l.length) : unsF wt (l.drop k) j = (0, cl0, 13) := by
  rw [List.drop_eq_nil_iff.2 (by omega)]; rfl
theorem cclaG_any (x : CA) (wt : S) (w : World) (hT : Tab w) (h : RoG w x) (hv : cvf x.c = 0) : Calls Tryz.prog 34 #[vg x, .int .u16 (sv wt)] w fun e w' => RetCE (clash27 x.c.kd wt x.c.M x.c.R x.c.Q x.c.F) e ∧ Keeps w w' := by
  haveI : NmOk x.c.nm := ⟨(cvf_cv hv).1⟩
  exact cClash_any x.c.kd wt x.c.M w hT h (cvf_len hv)
theorem rclaG_any (x : CA) (wt : S) (w : World) (h : RdG w x) (hv : cvf x.c = 0) (hb : Few9 x.c) : Calls Tryz.prog 31 #[vg x, .int .u16 (sv wt)] w fun e w' => RetCE (clash27 x.c.kd wt x.c.M x.c.R x.c.Q x.c.F) e ∧ Keeps w w' := by
  haveI : NmOk x.c.nm := ⟨(cvf_cv hv).1⟩
  exact rClash27_any x.c.kd wt x.c.M w h (cvf_len hv) hb
set_option maxRecDepth 20000 in
set_option maxHeartbeats 8000000 in
theorem junsafe_any (a : Option Addr) (n c : Nat) (l : List CA) (wt : S) (w : World) (hT : Tab w) (h : Rd w a n c 6 (gl l)) (hl : RoL w l) (hv : ValL l) :
    Calls Tryz.prog 15 #[.slice a n c, .int .u16 (sv wt)] w fun e w' => RetUns w (unsF wt (l.map (·.c)) 0) e w' := by
  have s1 := h.small
  have L1 := Lib.hid (gl_rdlen h)
  have KW0 := ((Keeps.refl w).alloc (.cells #[.int .i64 0, .int .u16 0, .int .u16 0, .int .u16 0] 47))
  have hx0 : ClBox (w.alloc (.cells #[.int .i64 0, .int .u16 0, .int .u16 0, .int .u16 0] 47)) w.heap.size cl0 := World.alloc_heap_new w _
  have HR := Lib.hid (h.keep KW0); have HL := Lib.hid (hl.keep KW0); have HVL := Lib.hid hv; have HX0 := Lib.hid hx0; have HT := Lib.hid hT
  clear h hl hv hx0 hT
  go_enter Tryz.func15, Tryz.ntmps15
  go_wp2_with fail
  generalize w.alloc (.cells #[.int .i64 0, .int .u16 0, .int .u16 0, .int .u16 0] 47) = W0 at *
  go_loopw [13] (fun v wr => ∃ k : Nat, k ≤ n ∧ v = .int .i64 k ∧ Keeps W0 wr ∧ Hid (unsF wt (l.map (·.c)) 0 = unsF wt ((l.map (·.c)).drop k) k)) (fun v _ => n - (RowKit.intOf v).toNat)
  case atStart => exact ⟨0, Nat.zero_le _, rfl, Keeps.refl _, rfl⟩
  case round =>
    obtain ⟨k, hk, rfl, K1, HI⟩ := hrel
    by_cases hlt : k < n
    · obtain ⟨g0, g1, g2, g3, g4, g5⟩ := gl_at (HR.out.keep K1) hlt
      have ha := HR.out.isSome (by omega)
      have hmem := gA_mem (l := l) (i := k) (by have := L1.out; omega)
      have hxr := (HL.out _ hmem).keep K1
      have KB := (Keeps.refl wr).alloc (.cells #[.string (gA l k).c.nm, .int .i64 (gA l k).c.kd, .int .u16 (sv (gA l k).c.M), .slice (gA l k).ar (gA l k).c.R.length (gA l k).cr, .slice (gA l k).aw (gA l k).c.Q.length (gA l k).cw, .slice (gA l k).af (gA l k).c.F.length (gA l k).cf] 32)
      have hn8 := Blk.new wr 32 #[.string (gA l k).c.nm, .int .i64 (gA l k).c.kd, .int .u16 (sv (gA l k).c.M), .slice (gA l k).ar (gA l k).c.R.length (gA l k).cr, .slice (gA l k).aw (gA l k).c.Q.length (gA l k).cw, .slice (gA l k).af (gA l k).c.F.length (gA l k).cf]
      have hs := csafG_any (gA l k) wt _ (((HT.out.keep KW0).keep K1).keep KB) (hxr.keep KB) (HVL.out _ hmem)
      have hcl := (fun W' k' => cclaG_any (gA l k) wt W' (((HT.out.keep KW0).keep K1).keep k') (hxr.keep k') (HVL.out _ hmem))
      have hst := unsF_step (wt := wt) (l := l) (k := k) (by have := L1.out; omega)
      have hce : sfC wt (gA l k).c = false → (clash27 (gA l k).c.kd wt (gA l k).c.M (gA l k).c.R (gA l k).c.Q (gA l k).c.F).2 = 0 := clash_err (HVL.out _ hmem)
      change safC wt (gA l k) = false → _ at hce
      unfold vg at hs hcl
      unfold RetCE at hcl
      have HS := Lib.hid hs; have HC := Lib.hid hcl; have HST := Lib.hid hst; have HCE := Lib.hid hce; have HN8 := Lib.hid hn8
      clear hs hcl hst hce hmem hxr hn8
      obtain ⟨x, hxe⟩ : ∃ x, x = gA l k := ⟨_, rfl⟩
      rw [← hxe] at HS HC HST HCE g0 g1 g2 g3 g4 g5 HN8 KB
      have HXE := Lib.hid hxe.symm; clear hxe
      obtain ⟨q, hq⟩ : ∃ q, q = safC wt x := ⟨_, rfl⟩
      obtain ⟨r, hr⟩ : ∃ r, r = clash27 x.c.kd wt x.c.M x.c.R x.c.Q x.c.F := ⟨_, rfl⟩
      rw [← hq] at HS HST HCE
      rw [← hr] at HC HST HCE
      clear hq hr
      obtain ⟨⟨x0, x1, x2, x3⟩, e0⟩ := r
      simp only [vcl] at HC
      obtain ⟨b0, b1, b2, b3, b4, b5⟩ := HN8.out.c6
      go_wp2_with fail
      generalize wr.alloc (.cells #[.string x.c.nm, .int .i64 x.c.kd, .int .u16 (sv x.c.M), .slice x.ar x.c.R.length x.cr, .slice x.aw x.c.Q.length x.cw, .slice x.af x.c.F.length x.cf] 32) = W1 at *
      generalize wr.heap.size = B8 at *
      refine HS.out.mono ?_
      rintro e w2 ⟨rfl, K2⟩
      clear b0 b1 b2 b3 b4 b5
      clear g0 g1 g2 g3 g4 g5
      cases q with
      | true =>
        go_wp2_with fail
        go_roundw
        case rel => exact ⟨k + 1, by omega, by go_num, (K1.trans KB).trans K2, hrfl <| by rw [HI.out, HST.out]; exact if_pos (by simp)⟩
        case measure => simp [RowKit.intOf]; omega
      | false =>
        obtain rfl := HCE.out rfl
        obtain ⟨b0, b1, b2, b3, b4, b5⟩ := (HN8.out.keep K2).c6
        go_wp2_with fail
        refine (HC.out _ (KB.trans K2)).mono ?_
        rintro e w4 ⟨rfl, K4⟩
        clear b0 b1 b2 b3 b4 b5
        have KA := ((K1.trans KB).trans K2).trans K4
        have K5 := (Keeps.refl w4).alloc (.cells #[.int .i64 x0, .int .u16 (sv x1), .int .u16 (sv x2), .int .u16 (sv x3)] 47)
        have hy : ClBox (w4.alloc (.cells #[.int .i64 x0, .int .u16 (sv x1), .int .u16 (sv x2), .int .u16 (sv x3)] 47)) w4.heap.size (x0, x1, x2, x3) := World.alloc_heap_new w4 _
        have hz := HX0.out.keep (KA.trans K5)
        obtain ⟨y0, y1, y2, y3⟩ := hy.cells
        obtain ⟨z0, z1, z2, z3⟩ := hz.cells
        obtain ⟨f0, f1, f2, f3⟩ := hz.frozen
        have HZ := Lib.hid (hz.store (x0, x1, x2, x3))
        have HKZ := Lib.hid ((KW0.trans (KA.trans K5)).set4 (Nat.le_refl _) (.int .i64 x0) (.int .u16 (sv x1)) (.int .u16 (sv x2)) (.int .u16 (sv x3)))
        have HYY := Lib.hid hy
        have hb9 : w.heap.size < w4.heap.size := by
          have := KA.size; have := HX0.out; have := (Array.getElem?_eq_some_iff.1 this).1; omega
        have HB9 := Lib.hid hb9; clear hb9
        clear hy hz y0 y1 y2 y3 z0 z1 z2 z3 f0 f1 f2 f3
        go_wp2_with fail
        have HX5 := Lib.hid (HX0.out.keep (KA.trans K5))
        have HKK := Lib.hid (KW0.trans (KA.trans K5))
        clear HZ HKZ K5
        generalize w4.alloc (.cells #[.int .i64 x0, .int .u16 (sv x1), .int .u16 (sv x2), .int .u16 (sv x3)] 47) = W5 at *
        generalize w4.heap.size = B9 at *
        have J : Keeps W5 W5.drew := (Keeps.refl W5).drew
        refine wp_region_held_drew (S := (fun w' => (w'.cell? ⟨B9, 0, none⟩ = some (.int .i64 x0)) ∧ (w'.cell? ⟨B9, 1, none⟩ = some (.int .u16 (sv x1))) ∧ (w'.cell? ⟨B9, 2, none⟩ = some (.int .u16 (sv x2))) ∧ (w'.cell? ⟨B9, 3, none⟩ = some (.int .u16 (sv x3))))) (by kernel_rfl) ?_ (fun hHeld => ?_)
        · exact (HYY.out.keep J).cells
        generalize W5.drew = V0 at *
        refine wpAnyH_take (i := 0) (oi := ⟨_, _, _, _, _, _⟩) (v := ?_) rfl (by kernel_rfl) (by kernel_rfl) (by kernel_rfl) (fun _ _ _ h => h) (Or.inl ⟨by rfl, ?_⟩) (by assumption) ?_
        rotate_left 1
        · intro w hSw; (try dsimp only at hSw); go_simp <;> with_reducible rfl
        (try simp only [Act.put]); (try simp only [List.setIfInBounds_toArray]); (try simp only [List.set_cons_succ]); (try simp only [List.set_cons_zero])
        refine wpAnyH_take (i := 1) (oi := ⟨_, _, _, _, _, _⟩) (v := ?_) rfl (by kernel_rfl) (by kernel_rfl) (by kernel_rfl) (fun _ _ _ h => h) (Or.inl ⟨by rfl, ?_⟩) (by assumption) ?_
        rotate_left 1
        · intro w hSw; (try dsimp only at hSw); go_simp <;> with_reducible rfl
        (try simp only [Act.put]); (try simp only [List.setIfInBounds_toArray]); (try simp only [List.set_cons_succ]); (try simp only [List.set_cons_zero])
        refine wpAnyH_take (i := 2) (oi := ⟨_, _, _, _, _, _⟩) (v := ?_) rfl (by kernel_rfl) (by kernel_rfl) (by kernel_rfl) (fun _ _ _ h => h) (Or.inl ⟨by rfl, ?_⟩) (by assumption) ?_
        rotate_left 1
        · intro w hSw; (try dsimp only at hSw); go_simp <;> with_reducible rfl
        (try simp only [Act.put]); (try simp only [List.setIfInBounds_toArray]); (try simp only [List.set_cons_succ]); (try simp only [List.set_cons_zero])
        refine wpAnyH_ready (rs := [3]) (by kernel_rfl) (by simp) ?_
        refine AllReadyH.cons (o := ⟨_, _, _, _, _, _⟩) rfl (fun K hK => ?_) AllReadyH.nil
        have hx := HX5.out.keep J
        obtain ⟨z0, z1, z2, z3⟩ := hx.cells
        obtain ⟨f0, f1, f2, f3⟩ := hx.frozen
        go_simp
        have HZ := Lib.hid (hx.store (x0, x1, x2, x3))
        have HKZ := Lib.hid ((HKK.out.trans J).set4 (Nat.le_refl _) (.int .i64 x0) (.int .u16 (sv x1)) (.int .u16 (sv x2)) (.int .u16 (sv x3)))
        have h9 : B9 ≠ w.heap.size := by have := HB9.out; omega
        refine hK.out _ _ ?_ (fun hHeld => ?_)
        · have q := ((((HYY.out.keep J).setO h9 0 (.int .i64 x0)).setO h9 1 (.int .u16 (sv x1))).setO h9 2 (.int .u16 (sv x2))).setO h9 3 (.int .u16 (sv x3)); exact q.cells
        clear hK K hx z0 z1 z2 z3 f0 f1 f2 f3
        (try simp only [Act.put]); (try simp only [List.setIfInBounds_toArray]); (try simp only [List.set_cons_succ]); (try simp only [List.set_cons_zero])
        refine wpAnyH_take (i := 4) (oi := ⟨_, _, _, _, _, _⟩) (v := ?_) rfl (by kernel_rfl) (by kernel_rfl) (by kernel_rfl) (fun _ _ _ h => h) (Or.inl ⟨by rfl, ?_⟩) (by assumption) ?_
        rotate_left 1
        · intro w hSw; (try dsimp only at hSw); go_simp <;> with_reducible rfl
        (try simp only [Act.put]); (try simp only [List.setIfInBounds_toArray]); (try simp only [List.set_cons_succ]); (try simp only [List.set_cons_zero])
        refine wpAnyH_done (by kernel_rfl) ?_ _
        go_wp2_with fail
        exact bodyPost_ret (resUns rfl HZ.out rfl rfl rfl) rfl ⟨by rw [HI.out, HST.out]; first | exact if_neg (by decide) | exact if_neg (by simp) | rfl, HKZ.out⟩
    · have HZ := HX0.out.keep K1
      obtain ⟨z0, z1, z2, z3⟩ := HZ.cells
      obtain ⟨f0, f1, f2, f3⟩ := HZ.frozen
      have HZS := Lib.hid (HZ.store cl0)
      have HKZ := Lib.hid ((KW0.trans K1).set4 (Nat.le_refl _) (.int .i64 0) (.int .u16 0) (.int .u16 0) (.int .u16 0))
      clear HZ
      go_wp2_with fail
      exact bodyPost_ret (resUns rfl HZS.out rfl rfl rfl) rfl ⟨by rw [HI.out, unsF_end (by rw [List.length_map]; have := L1.out; omega)]; rfl, HKZ.out⟩
set_option maxRecDepth 20000 in
set_option maxHeartbeats 8000000 in
theorem runsafe_any (a : Option Addr) (n c : Nat) (l : List CA) (wt : S) (w : World) (h : Rd w a n c 6 (gl l)) (hl : RdL w l) (hv : ValL l) (hb : FewL l) :
    Calls Tryz.prog 16 #[.slice a n c, .int .u16 (sv wt)] w fun e w' => RetUns w (unsF wt (l.map (·.c)) 0) e w' := by
  have s1 := h.small
  have L1 := Lib.hid (gl_rdlen h)
  have KW0 := ((Keeps.refl w).alloc (.cells #[.int .i64 0, .int .u16 0, .int .u16 0, .int .u16 0] 47))
  have hx0 : ClBox (w.alloc (.cells #[.int .i64 0, .int .u16 0, .int .u16 0, .int .u16 0] 47)) w.heap.size cl0 := World.alloc_heap_new w _
  have HR := Lib.hid (h.keep KW0); have HL := Lib.hid (hl.keep KW0); have HVL := Lib.hid hv; have HX0 := Lib.hid hx0; have HFL := Lib.hid hb
  clear h hl hv hx0 hb
  go_enter Tryz.func16, Tryz.ntmps16
  go_wp2_with fail
  generalize w.alloc (.cells #[.int .i64 0, .int .u16 0, .int .u16 0, .int .u16 0] 47) = W0 at *
  go_loopw [7] (fun v wr => ∃ k : Nat, k ≤ n ∧ v = .int .i64 k ∧ Keeps W0 wr ∧ Hid (unsF wt (l.map (·.c)) 0 = unsF wt ((l.map (·.c)).drop k) k)) (fun v _ => n - (RowKit.intOf v).toNat)
  case atStart => exact ⟨0, Nat.zero_le _, rfl, Keeps.refl _, rfl⟩
  case round =>
    obtain ⟨k, hk, rfl, K1, HI⟩ := hrel
    by_cases hlt : k < n
    · obtain ⟨g0, g1, g2, g3, g4, g5⟩ := gl_at (HR.out.keep K1) hlt
      have ha := HR.out.isSome (by omega)
      have hmem := gA_mem (l := l) (i := k) (by have := L1.out; omega)
      have hxr := (HL.out _ hmem).keep K1
      have hs := rsafG_any (gA l k) wt wr (hxr) (HVL.out _ hmem) (HFL.out _ hmem)
      have hcl := (fun W' k' => rclaG_any (gA l k) wt W' (hxr.keep k') (HVL.out _ hmem) (HFL.out _ hmem))
      have hst := unsF_step (wt := wt) (l := l) (k := k) (by have := L1.out; omega)
      have hce : sfC wt (gA l k).c = false → (clash27 (gA l k).c.kd wt (gA l k).c.M (gA l k).c.R (gA l k).c.Q (gA l k).c.F).2 = 0 := clash_err (HVL.out _ hmem)
      change safC wt (gA l k) = false → _ at hce
      have hvv := rvalidG_any (gA l k)
      have hv0 := HVL.out _ hmem
      rw [hv0] at hvv
      unfold vg at hvv
      have hvr := fun W' (k' : Keeps wr W') => hvv W' (hxr.keep k')
      have HVR := Lib.hid hvr
      clear hvv hv0 hvr
      unfold vg at hs hcl
      unfold RetCE at hcl
      have HS := Lib.hid hs; have HC := Lib.hid hcl; have HST := Lib.hid hst; have HCE := Lib.hid hce
      clear hs hcl hst hce hmem hxr
      obtain ⟨x, hxe⟩ : ∃ x, x = gA l k := ⟨_, rfl⟩
      rw [← hxe] at HS HC HST HCE g0 g1 g2 g3 g4 g5 HVR
      have HXE := Lib.hid hxe.symm; clear hxe
      obtain ⟨q, hq⟩ : ∃ q, q = safC wt x := ⟨_, rfl⟩
      obtain ⟨r, hr⟩ : ∃ r, r = clash27 x.c.kd wt x.c.M x.c.R x.c.Q x.c.F := ⟨_, rfl⟩
      rw [← hq] at HS HST HCE
      rw [← hr] at HC HST HCE
      clear hq hr
      obtain ⟨⟨x0, x1, x2, x3⟩, e0⟩ := r
      simp only [vcl] at HC
      go_wp2_with fail
      refine HS.out.mono ?_
      rintro e w2 ⟨rfl, K2⟩
      clear g0 g1 g2 g3 g4 g5
      cases q with
      | true =>
        go_wp2_with fail
        go_roundw
        case rel => exact ⟨k + 1, by omega, by go_num, K1.trans K2, hrfl <| by rw [HI.out, HST.out]; exact if_pos (by simp)⟩
        case measure => simp [RowKit.intOf]; omega
      | false =>
        obtain rfl := HCE.out rfl
        obtain ⟨g0, g1, g2, g3, g4, g5⟩ := gl_at (HR.out.keep (K1.trans K2)) hlt
        rw [HXE.out] at g0 g1 g2 g3 g4 g5
        go_wp2_with fail
        refine (HVR.out _ K2).mono ?_
        rintro e w3 ⟨rfl, K3⟩
        clear g0 g1 g2 g3 g4 g5
        obtain ⟨g0, g1, g2, g3, g4, g5⟩ := gl_at (HR.out.keep ((K1.trans K2).trans K3)) hlt
        rw [HXE.out] at g0 g1 g2 g3 g4 g5
        go_wp2_with fail
        refine (HC.out _ (K2.trans K3)).mono ?_
        rintro e w4 ⟨rfl, K4⟩
        clear g0 g1 g2 g3 g4 g5
        have KA := ((K1.trans K2).trans K3).trans K4
        have K5 := (Keeps.refl w4).alloc (.cells #[.int .i64 x0, .int .u16 (sv x1), .int .u16 (sv x2), .int .u16 (sv x3)] 47)
        have hy : ClBox (w4.alloc (.cells #[.int .i64 x0, .int .u16 (sv x1), .int .u16 (sv x2), .int .u16 (sv x3)] 47)) w4.heap.size (x0, x1, x2, x3) := World.alloc_heap_new w4 _
        have hz := HX0.out.keep (KA.trans K5)
        obtain ⟨y0, y1, y2, y3⟩ := hy.cells
        obtain ⟨z0, z1, z2, z3⟩ := hz.cells
        obtain ⟨f0, f1, f2, f3⟩ := hz.frozen
        have HZ := Lib.hid (hz.store (x0, x1, x2, x3))
        have HKZ := Lib.hid ((KW0.trans (KA.trans K5)).set4 (Nat.le_refl _) (.int .i64 x0) (.int .u16 (sv x1)) (.int .u16 (sv x2)) (.int .u16 (sv x3)))
        have HYY := Lib.hid hy
        have hb9 : w.heap.size < w4.heap.size := by
          have := KA.size; have := HX0.out; have := (Array.getElem?_eq_some_iff.1 this).1; omega
        have HB9 := Lib.hid hb9; clear hb9
        clear hy hz y0 y1 y2 y3 z0 z1 z2 z3 f0 f1 f2 f3
        go_wp2_with fail
        have HX5 := Lib.hid (HX0.out.keep (KA.trans K5))
        have HKK := Lib.hid (KW0.trans (KA.trans K5))
        clear HZ HKZ K5
        generalize w4.alloc (.cells #[.int .i64 x0, .int .u16 (sv x1), .int .u16 (sv x2), .int .u16 (sv x3)] 47) = W5 at *
        generalize w4.heap.size = B9 at *
        have J : Keeps W5 W5.drew := (Keeps.refl W5).drew
        refine wp_region_held_drew (S := (fun w' => (w'.cell? ⟨B9, 0, none⟩ = some (.int .i64 x0)) ∧ (w'.cell? ⟨B9, 1, none⟩ = some (.int .u16 (sv x1))) ∧ (w'.cell? ⟨B9, 2, none⟩ = some (.int .u16 (sv x2))) ∧ (w'.cell? ⟨B9, 3, none⟩ = some (.int .u16 (sv x3))))) (by kernel_rfl) ?_ (fun hHeld => ?_)
        · exact (HYY.out.keep J).cells
        generalize W5.drew = V0 at *
        refine wpAnyH_take (i := 0) (oi := ⟨_, _, _, _, _, _⟩) (v := ?_) rfl (by kernel_rfl) (by kernel_rfl) (by kernel_rfl) (fun _ _ _ h => h) (Or.inl ⟨by rfl, ?_⟩) (by assumption) ?_
        rotate_left 1
        · intro w hSw; (try dsimp only at hSw); go_simp <;> with_reducible rfl
        (try simp only [Act.put]); (try simp only [List.setIfInBounds_toArray]); (try simp only [List.set_cons_succ]); (try simp only [List.set_cons_zero])
        refine wpAnyH_take (i := 1) (oi := ⟨_, _, _, _, _, _⟩) (v := ?_) rfl (by kernel_rfl) (by kernel_rfl) (by kernel_rfl) (fun _ _ _ h => h) (Or.inl ⟨by rfl, ?_⟩) (by assumption) ?_
        rotate_left 1
        · intro w hSw; (try dsimp only at hSw); go_simp <;> with_reducible rfl
        (try simp only [Act.put]); (try simp only [List.setIfInBounds_toArray]); (try simp only [List.set_cons_succ]); (try simp only [List.set_cons_zero])
        refine wpAnyH_take (i := 2) (oi := ⟨_, _, _, _, _, _⟩) (v := ?_) rfl (by kernel_rfl) (by kernel_rfl) (by kernel_rfl) (fun _ _ _ h => h) (Or.inl ⟨by rfl, ?_⟩) (by assumption) ?_
        rotate_left 1
        · intro w hSw; (try dsimp only at hSw); go_simp <;> with_reducible rfl
        (try simp only [Act.put]); (try simp only [List.setIfInBounds_toArray]); (try simp only [List.set_cons_succ]); (try simp only [List.set_cons_zero])
        refine wpAnyH_ready (rs := [3]) (by kernel_rfl) (by simp) ?_
        refine AllReadyH.cons (o := ⟨_, _, _, _, _, _⟩) rfl (fun K hK => ?_) AllReadyH.nil
        have hx := HX5.out.keep J
        obtain ⟨z0, z1, z2, z3⟩ := hx.cells
        obtain ⟨f0, f1, f2, f3⟩ := hx.frozen
        go_simp
        have HZ := Lib.hid (hx.store (x0, x1, x2, x3))
        have HKZ := Lib.hid ((HKK.out.trans J).set4 (Nat.le_refl _) (.int .i64 x0) (.int .u16 (sv x1)) (.int .u16 (sv x2)) (.int .u16 (sv x3)))
        have h9 : B9 ≠ w.heap.size := by have := HB9.out; omega
        refine hK.out _ _ ?_ (fun hHeld => ?_)
        · have q := ((((HYY.out.keep J).setO h9 0 (.int .i64 x0)).setO h9 1 (.int .u16 (sv x1))).setO h9 2 (.int .u16 (sv x2))).setO h9 3 (.int .u16 (sv x3)); exact q.cells
        clear hK K hx z0 z1 z2 z3 f0 f1 f2 f3
        (try simp only [Act.put]); (try simp only [List.setIfInBounds_toArray]); (try simp only [List.set_cons_succ]); (try simp only [List.set_cons_zero])
        refine wpAnyH_take (i := 4) (oi := ⟨_, _, _, _, _, _⟩) (v := ?_) rfl (by kernel_rfl) (by kernel_rfl) (by kernel_rfl) (fun _ _ _ h => h) (Or.inl ⟨by rfl, ?_⟩) (by assumption) ?_
        rotate_left 1
        · intro w hSw; (try dsimp only at hSw); go_simp <;> with_reducible rfl
        (try simp only [Act.put]); (try simp only [List.setIfInBounds_toArray]); (try simp only [List.set_cons_succ]); (try simp only [List.set_cons_zero])
        refine wpAnyH_done (by kernel_rfl) ?_ _
        go_wp2_with fail
        exact bodyPost_ret (resUns rfl HZ.out rfl rfl rfl) rfl ⟨by rw [HI.out, HST.out]; first | exact if_neg (by decide) | exact if_neg (by simp) | rfl, HKZ.out⟩
    · have HZ := HX0.out.keep K1
      obtain ⟨z0, z1, z2, z3⟩ := HZ.cells
      obtain ⟨f0, f1, f2, f3⟩ := HZ.frozen
      have HZS := Lib.hid (HZ.store cl0)
      have HKZ := Lib.hid ((KW0.trans K1).set4 (Nat.le_refl _) (.int .i64 0) (.int .u16 0) (.int .u16 0) (.int .u16 0))
      clear HZ
      go_wp2_with fail
      exact bodyPost_ret (resUns rfl HZS.out rfl rfl rfl) rfl ⟨by rw [HI.out, unsF_end (by rw [List.length_map]; have := L1.out; omega)]; rfl, HKZ.out⟩
end Go.Proofs.YtnlohknlchgfgaaGreatDoor
