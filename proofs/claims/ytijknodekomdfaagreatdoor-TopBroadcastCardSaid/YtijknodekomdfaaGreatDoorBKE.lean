/- Texts joined into one, what is needed of them (a program of ours). -/
import Derived.Test.YtijknodekomdfaaGreatDoorBKD
import Derived.Test.YtijknodekomdfaaGreatDoorBKC
import Derived.Deep.RegionHeld3
namespace Go.Proofs.YtijknodekomdfaaGreatDoor
open Go.RowKit Go.Lib Go.Shelf

theorem blk_grown9 {W W' : World} {C : Nat} {T : TypeId} {cs : Array Value} {row : Option Nat} (h : Blk W C T cs) (hg : W.grownBy W' row) (hne : some C ≠ row) : Blk W' C T cs := by
  have := h
  unfold Blk at this ⊢
  rw [hg.block C (Array.getElem?_eq_some_iff.1 this).1 hne, this]
theorem RunW.boxg {w0 W W' : World} {B : Nat} {fv bv : Value} {n : Nat} {byz : S} {source : Int} {nv : Value} {nas : List NA} {gv : Value} {fl : List Ct} {lv : Value} {ls : List Ct} (h : RunW w0 W B fv bv n byz source nv nas gv fl lv ls) (hg : W.grownBy W' gv.ownBlock) :
    Blk W' B 148 #[fv, bv, .int .i64 n, .int .u16 (sv byz), .int .i64 source, nv, gv] := blk_grown9 h.box hg (blk_ne h.box h.fli.1 (by decide))
/-- where the flight may have gone -/
def GvS (s : Nat) (gv gv' : Value) : Prop := gv'.ownBlock = gv.ownBlock ∨ ∃ j, gv'.ownBlock = some j ∧ s ≤ j
theorem GvS.refl (s : Nat) (gv : Value) : GvS s gv gv := .inl rfl
theorem GvS.trans {s t : Nat} {a b c : Value} (h : GvS s a b) (k : GvS t b c) (hst : s ≤ t) : GvS s a c := by
  rcases k with k | ⟨j, k1, k2⟩
  · rcases h with h | ⟨i, h1, h2⟩
    · exact .inl (k.trans h)
    · exact .inr ⟨i, k.trans h1, h2⟩
  · exact .inr ⟨j, k1, Nat.le_trans hst k2⟩
theorem gvstep {s t : Nat} {a b c : Value} (h : GvS s a b) (k : c.ownBlock = b.ownBlock ∨ c.ownBlock = some t) (hst : s ≤ t) : GvS s a c :=
  h.trans (t := t) (k.imp id fun e => ⟨t, e, Nat.le_refl _⟩) hst
theorem dfs {B s : Nat} {gv gv' : Value} (h : GvS s gv gv') : ∀ i T, i < s → DF B gv' i T → DF B gv i T := by
  intro i T hi hd
  rcases hd with hd | ⟨h1, h2⟩
  · exact .inl hd
  · rcases h with h | ⟨j, h3, h4⟩
    · exact .inr ⟨h1.trans h, h2⟩
    · rw [h3] at h1
      injection h1 with h1
      omega
theorem GvS.ne {s C : Nat} {gv gv' : Value} (h : GvS s gv gv') (hC : C < s) (h0 : gv.ownBlock ≠ some C) : gv'.ownBlock ≠ some C := by
  rcases h with h | ⟨j, h1, h2⟩
  · rw [h]; exact h0
  · rw [h1]; intro e; injection e with e; omega
theorem len_snoc9 (l : List Ct) (c : Ct) : l.length + 1 = (l ++ [c]).length := by simp
def preA (n : Nat) (byz : S) (c : Ct) (k : Nat) : List Ct := ((List.range k).filter (corr n byz)).map fun (i : Nat) => { c with dst := (i : Int) }
theorem pre_succ (n : Nat) (byz : S) (c : Ct) (k : Nat) : preA n byz c (k + 1) = if corr n byz k = true then preA n byz c k ++ [⟨c.kind, c.src, k, c.v⟩] else preA n byz c k := by
  unfold preA
  rw [List.range_succ, List.filter_append, List.map_append]
  cases h : corr n byz k <;> simp [List.filter, h]
theorem pre_len (n : Nat) (byz : S) (c : Ct) (k : Nat) : (preA n byz c k).length ≤ k := by
  unfold preA
  rw [List.length_map]
  exact Nat.le_trans (List.length_filter_le _ _) (by simp)
set_option maxRecDepth 20000 in
set_option maxHeartbeats 2000000 in
theorem all39_any (w0 w : World) (B : Nat) (fv bv : Value) (n : Nat) (byz : S) (source : Int) (nv : Value) (nas : List NA) (gv : Value) (fl : List Ct) (lv : Value) (ls : List Ct) (c : Ct) (hn : n ≤ 16) (hb : fl.length ≤ 1000000) (hR : RunW w0 w B fv bv n byz source nv nas gv fl lv ls) :
    Calls Tryz.prog 89 #[.pointer (some ⟨B, 0, none⟩), vc c] w fun e W' => e = .returned (.tuple #[]) ∧ ∃ gv', RunW w0 W' B fv bv n byz source nv nas gv' (fl ++ toAll n byz c) lv ls ∧ FrB (DF B gv) w W' ∧ GvS w.heap.size gv gv' := by
  have hlg : gv.ownBlock ≠ some w.heap.size := fun e => Nat.lt_irrefl _ (hR.fli.1.lt _ e).2
  have hll : lv.ownBlock ≠ some w.heap.size := fun e => Nat.lt_irrefl _ (hR.lie.1.lt _ e).2
  have hlo : w0.heap.size ≤ w.heap.size := hR.keeps.size
  have kA := (Keeps.refl w).alloc (.cells #[.int .i64 c.kind, .int .i64 c.src, .int .i64 c.dst, .string c.v] 145)
  have hbox := Blk.new w 145 #[.int .i64 c.kind, .int .i64 c.src, .int .i64 c.dst, .string c.v]
  have hR1 := hR.keep kA
  have hF0 : FrB (DF B gv) w (w.alloc (.cells #[.int .i64 c.kind, .int .i64 c.src, .int .i64 c.dst, .string c.v] 145)) := .of kA
  have hsz : (w.alloc (.cells #[.int .i64 c.kind, .int .i64 c.src, .int .i64 c.dst, .string c.v] 145)).heap.size = w.heap.size + 1 := World.size_alloc ..
  have HR1 := Lib.hid hR1; have HX := Lib.hid hbox; have HF0 := Lib.hid hF0; have HB := Lib.hid hb
  obtain ⟨c0, c1, c2, c3, c4, c5, c6⟩ := hR1.box.c7
  clear c0 c1 c3 c4 c5 c6 hbox hR1 hF0 kA hR hb
  unfold vc
  go_enter Tryz.func89, Tryz.ntmps89
  go_wp2_with fail
  clear c2
  generalize w.alloc (.cells #[.int .i64 c.kind, .int .i64 c.src, .int .i64 c.dst, .string c.v] 145) = wA at *
  go_loopw [10] (fun v wr => ∃ (k : Nat) (dst : Int) (gv' : Value) (P : List Ct), k ≤ n ∧ v = .int .i64 k ∧ Hid (preA n byz c k = P) ∧ RunW w0 wr B fv bv n byz source nv nas gv' (fl ++ P) lv ls ∧ Blk wr w.heap.size 145 #[.int .i64 c.kind, .int .i64 c.src, .int .i64 dst, .string c.v] ∧ FrB (DF B gv) w wr ∧ Hid (GvS (w.heap.size + 1) gv gv')) (fun v _ => n - (RowKit.intOf v).toNat)
  case atStart => exact ⟨0, c.dst, gv, [], Nat.zero_le _, rfl, Lib.hid rfl, by rw [List.append_nil]; exact HR1.out, HX.out, HF0.out, Lib.hid (.refl _ _)⟩
  case round =>
    clear HR1 HX HF0
    obtain ⟨k, dst, gv', P, hk, rfl, HP, hR, hbox, hF, HG⟩ := hrel
    obtain ⟨L, hL⟩ : ∃ L, L = fl ++ P := ⟨_, rfl⟩
    have HFL := Lib.hid hL.symm
    have HLK : Hid (P.length ≤ 16) := Lib.hid (by rw [← HP.out]; exact Nat.le_trans (pre_len n byz c k) (by omega))
    by_cases hlt : k < n
    · have hq0 : corrI n byz k = corr n byz k := by unfold corrI; simp
      have hc := correct39_any n hn byz k B fv bv (.int .i64 source) nv gv' wr hR.box
      rw [hq0] at hc
      have HC := Lib.hid hc
      clear hc hq0
      cases hq : corr n byz k with
      | false =>
        rw [hq] at HC
        have HQ := Lib.hid hq
        clear hq
        go_wp2_with (go_at_call 88; refine HC.out.mono ?_; rintro e w' ⟨rfl, rfl⟩)
        go_roundw
        case rel => exact ⟨k + 1, dst, gv', P, by omega, by go_num, hrfl <| by rw [pre_succ, if_neg (by rw [HQ.out]; simp), HP.out], hR, hbox, hF, HG⟩
        case measure => simp [RowKit.intOf]; omega
      | true =>
        rw [hq] at HC
        have HQ := Lib.hid hq
        clear hq
        have d2 := hbox.cell 2 rfl
        have g2 := hbox.frozen 2
        go_wp2_with (go_at_call 88; refine HC.out.mono ?_; rintro e w' ⟨rfl, rfl⟩)
        clear d2 g2 HC
        have HLL : Hid (L.length ≤ 1000016) := Lib.hid (by rw [hL, List.length_append]; have := HB.out; have := HLK.out; omega)
        rw [← hL] at hR
        clear hL
        have HSEP : Hid (gv'.ownBlock ≠ some w.heap.size) := Lib.hid (HG.out.ne (Nat.lt_succ_self _) hlg)
        replace hR := hR.other hbox HSEP.out hll hlo 2 (.int .i64 k)
        replace hF := hF.trans' (FrB.set (D := fun i T => i = w.heap.size) hbox rfl 2 (.int .i64 k)) (fun i T hi he => absurd he (by omega))
        replace hbox := hbox.set 2 (.int .i64 k)
        simp only [List.setIfInBounds_toArray, List.set_cons_succ, List.set_cons_zero] at hbox
        generalize wr.setCell ⟨w.heap.size, 2, none⟩ (.int .i64 k) = W at *
        have kD := (Keeps.refl W).drew
        replace hR := hR.keep kD
        replace hbox := hbox.keep kD
        replace hF := hF.trans (.of kD)
        clear kD
        refine wp_region_held_drew (S := (fun w' => w'.cell? ⟨w.heap.size, 0, none⟩ = some (.int .i64 c.kind) ∧ w'.cell? ⟨w.heap.size, 1, none⟩ = some (.int .i64 c.src) ∧ w'.cell? ⟨w.heap.size, 2, none⟩ = some (.int .i64 k) ∧ w'.cell? ⟨w.heap.size, 3, none⟩ = some (.string c.v))) (by kernel_rfl) ?_ (fun hHeld => ?_)
        · exact ⟨hbox.cell 0 rfl, hbox.cell 1 rfl, hbox.cell 2 rfl, hbox.cell 3 rfl⟩
        generalize W.drew = V0 at *
        refine wpAnyH_take (i := 0) (oi := ⟨_, _, _, _, _, _⟩) (v := ?_) rfl (by kernel_rfl) (by kernel_rfl) (by kernel_rfl) (fun _ _ _ h => h) (Or.inl ⟨by rfl, ?_⟩) (by assumption) ?_
        rotate_left 1
        · intro w hSw; (try dsimp only at hSw); go_simp <;> with_reducible rfl
        (try simp only [Act.put]); (try simp only [List.setIfInBounds_toArray]); (try simp only [List.set_cons_succ]); (try simp only [List.set_cons_zero])
        refine wpAnyH_take (i := 1) (oi := ⟨_, _, _, _, _, _⟩) (v := ?_) rfl (by kernel_rfl) (by kernel_rfl) (by kernel_rfl) (fun _ _ _ h => h) (Or.inl ⟨by rfl, ?_⟩) (by assumption) ?_
        rotate_left 1
        · intro w hSw; (try dsimp only at hSw); go_simp <;> with_reducible rfl
        (try simp only [Act.put]); (try simp only [List.setIfInBounds_toArray]); (try simp only [List.set_cons_succ]); (try simp only [List.set_cons_zero])
        refine wpAnyH_take (i := 2) (oi := ⟨_, _, _, _, _, _⟩) (v := ?_) rfl (by kernel_rfl) (by kernel_rfl) (by kernel_rfl) (fun _ _ _ h => h) (Or.inl ⟨by rfl, ?_⟩) (by assumption) ?_
        rotate_left 1
        · intro w hSw; (try dsimp only at hSw); go_simp <;> with_reducible rfl
        (try simp only [Act.put]); (try simp only [List.setIfInBounds_toArray]); (try simp only [List.set_cons_succ]); (try simp only [List.set_cons_zero])
        refine wpAnyH_take (i := 3) (oi := ⟨_, _, _, _, _, _⟩) (v := ?_) rfl (by kernel_rfl) (by kernel_rfl) (by kernel_rfl) (fun _ _ _ h => h) (Or.inl ⟨by rfl, ?_⟩) (by assumption) ?_
        rotate_left 1
        · intro w hSw; (try dsimp only at hSw); go_simp <;> with_reducible rfl
        (try simp only [Act.put]); (try simp only [List.setIfInBounds_toArray]); (try simp only [List.set_cons_succ]); (try simp only [List.set_cons_zero])
        refine wpAnyH_take (i := 4) (oi := ⟨_, _, _, _, _, _⟩) (v := ?_) rfl (by kernel_rfl) (by kernel_rfl) (by kernel_rfl) (fun _ _ _ h => h) (Or.inl ⟨by rfl, ?_⟩) (by assumption) ?_
        rotate_left 1
        · intro w hSw; (try dsimp only at hSw); go_simp <;> with_reducible rfl
        (try simp only [Act.put]); (try simp only [List.setIfInBounds_toArray]); (try simp only [List.set_cons_succ]); (try simp only [List.set_cons_zero])
        refine wpAnyH_take (i := 6) (oi := ⟨_, _, _, _, _, _⟩) (v := ?_) rfl (by kernel_rfl) (by kernel_rfl) (by kernel_rfl) (fun _ _ _ h => h) (Or.inl ⟨by rfl, ?_⟩) (by assumption) ?_
        rotate_left 1
        · intro w hSw; (try dsimp only at hSw); go_simp <;> with_reducible rfl
        (try simp only [Act.put]); (try simp only [List.setIfInBounds_toArray]); (try simp only [List.set_cons_succ]); (try simp only [List.set_cons_zero])
        refine wpAnyH_ready (rs := [5, 7]) (by kernel_rfl) (by simp) ?_
        refine AllReadyH.cons (o := ⟨_, _, _, _, _, _⟩) rfl (fun K hK => ?_) (AllReadyH.cons (o := ⟨_, _, _, _, _, _⟩) rfl (fun K hK => ?_) AllReadyH.nil)
        · have c6 := hR.box.cell 6 rfl
          go_simp
          clear c6
          refine hK.out _ _ ?_ (fun hHeld => ?_)
          · exact ⟨hbox.cell 0 rfl, hbox.cell 1 rfl, hbox.cell 2 rfl, hbox.cell 3 rfl⟩
          clear hK K
          (try simp only [Act.put]); (try simp only [List.setIfInBounds_toArray]); (try simp only [List.set_cons_succ]); (try simp only [List.set_cons_zero])
          refine wpAnyH_ready (rs := [7]) (by kernel_rfl) (by simp) ?_
          refine AllReadyH.cons (o := ⟨_, _, _, _, _, _⟩) rfl (fun K hK => ?_) AllReadyH.nil
          go_simp
          have r1 : Rd (V0.alloc (.cells #[.int .i64 c.kind, .int .i64 c.src, .int .i64 k, .string c.v] 145)) (some ⟨V0.heap.size, 0, none⟩) 1 1 4 (cl [(⟨c.kind, c.src, k, c.v⟩ : Ct)]) := rd_new 145 4 V0 _ 1 (by decide) rfl
          have kA := (Keeps.refl V0).alloc (.cells #[.int .i64 c.kind, .int .i64 c.src, .int .i64 k, .string c.v] 145)
          replace hR := hR.keep kA
          replace hbox := hbox.keep kA
          replace hF := hF.trans (.of kA)
          clear kA
          generalize V0.alloc (.cells #[.int .i64 c.kind, .int .i64 c.src, .int .i64 k, .string c.v] 145) = V1 at *
          generalize V0.heap.size = BS at *
          refine hK.out _ _ ?_ (fun hHeld => ?_)
          · exact ⟨hbox.cell 0 rfl, hbox.cell 1 rfl, hbox.cell 2 rfl, hbox.cell 3 rfl⟩
          clear hK K
          (try simp only [Act.put]); (try simp only [List.setIfInBounds_toArray]); (try simp only [List.set_cons_succ]); (try simp only [List.set_cons_zero])
          refine wpAnyH_ready (rs := [8]) (by kernel_rfl) (by simp) ?_
          refine AllReadyH.cons (o := ⟨_, _, _, _, _, _⟩) rfl (fun K hK => ?_) AllReadyH.nil
          have HO := Lib.hid hR.fli
          refine step_app3 ty_cl rfl _ _ rfl HO.out rfl rfl r1 (cl_cells _) (by have := HLL.out; omega) ?_
          intro v' V2 hO' hgr hb'
          dsimp only
          obtain ⟨a9, c9, rfl, _⟩ := hO'.rd
          rw [← cl_append] at hO'
          obtain ⟨L', hL'⟩ : ∃ L', L' = L ++ [(⟨c.kind, c.src, k, c.v⟩ : Ct)] := ⟨_, rfl⟩
          rw [len_snoc9 L (⟨c.kind, c.src, k, c.v⟩ : Ct), ← hL'] at hO' hb' ⊢
          have HL' := Lib.hid hL'
          clear hL'
          have hn1 : gv'.ownBlock ≠ some w.heap.size := HSEP.out
          have HSZ := Lib.hid (Nat.succ_le_of_lt hbox.lt)
          replace hbox := blk_grown9 hbox hgr (Ne.symm hn1)
          have hbx := hR.boxg hgr
          have hap := hR.append hO' hgr hb'
          have HAP := Lib.hid hap
          have HB6 := Lib.hid hb'
          clear hap hO' hgr hb' HO r1 hR
          refine hK.out _ _ ?_ (fun hHeld => ?_)
          · exact ⟨hbox.cell 0 rfl, hbox.cell 1 rfl, hbox.cell 2 rfl, hbox.cell 3 rfl⟩
          clear hK K
          (try simp only [Act.put]); (try simp only [List.setIfInBounds_toArray]); (try simp only [List.set_cons_succ]); (try simp only [List.set_cons_zero])
          refine wpAnyH_take (i := 9) (oi := ⟨_, _, _, _, _, _⟩) (v := ?_) rfl (by kernel_rfl) (by kernel_rfl) (by kernel_rfl) (fun _ _ _ h => h) (Or.inl ⟨by rfl, ?_⟩) (by assumption) ?_
          rotate_left 1
          · intro w hSw; (try dsimp only at hSw); go_simp <;> with_reducible rfl
          (try simp only [Act.put]); (try simp only [List.setIfInBounds_toArray]); (try simp only [List.set_cons_succ]); (try simp only [List.set_cons_zero])
          refine wpAnyH_take (i := 10) (oi := ⟨_, _, _, _, _, _⟩) (v := ?_) rfl (by kernel_rfl) (by kernel_rfl) (by kernel_rfl) (fun _ _ _ h => h) (Or.inl ⟨by rfl, ?_⟩) (by assumption) ?_
          rotate_left 1
          · intro w hSw; (try dsimp only at hSw); go_simp <;> with_reducible rfl
          (try simp only [Act.put]); (try simp only [List.setIfInBounds_toArray]); (try simp only [List.set_cons_succ]); (try simp only [List.set_cons_zero])
          refine wpAnyH_take (i := 11) (oi := ⟨_, _, _, _, _, _⟩) (v := ?_) rfl (by kernel_rfl) (by kernel_rfl) (by kernel_rfl) (fun _ _ _ h => h) (Or.inl ⟨by rfl, ?_⟩) (by assumption) ?_
          rotate_left 1
          · intro w hSw; (try dsimp only at hSw); go_simp <;> with_reducible rfl
          (try simp only [Act.put]); (try simp only [List.setIfInBounds_toArray]); (try simp only [List.set_cons_succ]); (try simp only [List.set_cons_zero])
          refine wpAnyH_ready (rs := [12]) (by kernel_rfl) (by simp) ?_
          refine AllReadyH.cons (o := ⟨_, _, _, _, _, _⟩) rfl (fun K hK => ?_) AllReadyH.nil
          have c6 := hbx.cell 6 rfl
          have g6 := hbx.frozen 6
          go_simp
          clear c6 g6
          obtain ⟨hR, hF2⟩ := HAP.out
          replace hbox := hbox.setOther (hbox.ne hbx (by decide)) 6 (.slice a9 (L'.length) c9)
          skip
          generalize V2.setCell ⟨B, 6, none⟩ (.slice a9 (L'.length) c9) = V3 at *
          refine hK.out _ _ ?_ (fun hHeld => ?_)
          · exact ⟨hbox.cell 0 rfl, hbox.cell 1 rfl, hbox.cell 2 rfl, hbox.cell 3 rfl⟩
          clear hK K
          (try simp only [Act.put]); (try simp only [List.setIfInBounds_toArray]); (try simp only [List.set_cons_succ]); (try simp only [List.set_cons_zero])
          refine wpAnyH_done (by kernel_rfl) ?_ _
          have HR := Lib.hid hR
          have HF := Lib.hid (hF.trans' hF2 (fun i T hi => dfs HG.out i T (by omega)))
          have HX := Lib.hid hbox
          clear hR hF hF2 hbox hbx HAP
          go_wp2_with fail
          go_roundw
          case rel => exact ⟨k + 1, k, _, (P ++ [(⟨c.kind, c.src, k, c.v⟩ : Ct)]), by omega, by go_num, hrfl <| by rw [pre_succ, if_pos HQ.out, ← HP.out], by rw [← List.append_assoc, HFL.out, ← HL'.out]; exact HR.out, HX.out, HF.out, Lib.hid (gvstep HG.out HB6.out HSZ.out)⟩
          case measure => simp [RowKit.intOf]; omega
        · go_simp
          have r1 : Rd (V0.alloc (.cells #[.int .i64 c.kind, .int .i64 c.src, .int .i64 k, .string c.v] 145)) (some ⟨V0.heap.size, 0, none⟩) 1 1 4 (cl [(⟨c.kind, c.src, k, c.v⟩ : Ct)]) := rd_new 145 4 V0 _ 1 (by decide) rfl
          have kA := (Keeps.refl V0).alloc (.cells #[.int .i64 c.kind, .int .i64 c.src, .int .i64 k, .string c.v] 145)
          replace hR := hR.keep kA
          replace hbox := hbox.keep kA
          replace hF := hF.trans (.of kA)
          clear kA
          generalize V0.alloc (.cells #[.int .i64 c.kind, .int .i64 c.src, .int .i64 k, .string c.v] 145) = V1 at *
          generalize V0.heap.size = BS at *
          refine hK.out _ _ ?_ (fun hHeld => ?_)
          · exact ⟨hbox.cell 0 rfl, hbox.cell 1 rfl, hbox.cell 2 rfl, hbox.cell 3 rfl⟩
          clear hK K
          (try simp only [Act.put]); (try simp only [List.setIfInBounds_toArray]); (try simp only [List.set_cons_succ]); (try simp only [List.set_cons_zero])
          refine wpAnyH_ready (rs := [5]) (by kernel_rfl) (by simp) ?_
          refine AllReadyH.cons (o := ⟨_, _, _, _, _, _⟩) rfl (fun K hK => ?_) AllReadyH.nil
          have c6 := hR.box.cell 6 rfl
          go_simp
          clear c6
          refine hK.out _ _ ?_ (fun hHeld => ?_)
          · exact ⟨hbox.cell 0 rfl, hbox.cell 1 rfl, hbox.cell 2 rfl, hbox.cell 3 rfl⟩
          clear hK K
          (try simp only [Act.put]); (try simp only [List.setIfInBounds_toArray]); (try simp only [List.set_cons_succ]); (try simp only [List.set_cons_zero])
          refine wpAnyH_ready (rs := [8]) (by kernel_rfl) (by simp) ?_
          refine AllReadyH.cons (o := ⟨_, _, _, _, _, _⟩) rfl (fun K hK => ?_) AllReadyH.nil
          have HO := Lib.hid hR.fli
          refine step_app3 ty_cl rfl _ _ rfl HO.out rfl rfl r1 (cl_cells _) (by have := HLL.out; omega) ?_
          intro v' V2 hO' hgr hb'
          dsimp only
          obtain ⟨a9, c9, rfl, _⟩ := hO'.rd
          rw [← cl_append] at hO'
          obtain ⟨L', hL'⟩ : ∃ L', L' = L ++ [(⟨c.kind, c.src, k, c.v⟩ : Ct)] := ⟨_, rfl⟩
          rw [len_snoc9 L (⟨c.kind, c.src, k, c.v⟩ : Ct), ← hL'] at hO' hb' ⊢
          have HL' := Lib.hid hL'
          clear hL'
          have hn1 : gv'.ownBlock ≠ some w.heap.size := HSEP.out
          have HSZ := Lib.hid (Nat.succ_le_of_lt hbox.lt)
          replace hbox := blk_grown9 hbox hgr (Ne.symm hn1)
          have hbx := hR.boxg hgr
          have hap := hR.append hO' hgr hb'
          have HAP := Lib.hid hap
          have HB6 := Lib.hid hb'
          clear hap hO' hgr hb' HO r1 hR
          refine hK.out _ _ ?_ (fun hHeld => ?_)
          · exact ⟨hbox.cell 0 rfl, hbox.cell 1 rfl, hbox.cell 2 rfl, hbox.cell 3 rfl⟩
          clear hK K
          (try simp only [Act.put]); (try simp only [List.setIfInBounds_toArray]); (try simp only [List.set_cons_succ]); (try simp only [List.set_cons_zero])
          refine wpAnyH_take (i := 9) (oi := ⟨_, _, _, _, _, _⟩) (v := ?_) rfl (by kernel_rfl) (by kernel_rfl) (by kernel_rfl) (fun _ _ _ h => h) (Or.inl ⟨by rfl, ?_⟩) (by assumption) ?_
          rotate_left 1
          · intro w hSw; (try dsimp only at hSw); go_simp <;> with_reducible rfl
          (try simp only [Act.put]); (try simp only [List.setIfInBounds_toArray]); (try simp only [List.set_cons_succ]); (try simp only [List.set_cons_zero])
          refine wpAnyH_take (i := 10) (oi := ⟨_, _, _, _, _, _⟩) (v := ?_) rfl (by kernel_rfl) (by kernel_rfl) (by kernel_rfl) (fun _ _ _ h => h) (Or.inl ⟨by rfl, ?_⟩) (by assumption) ?_
          rotate_left 1
          · intro w hSw; (try dsimp only at hSw); go_simp <;> with_reducible rfl
          (try simp only [Act.put]); (try simp only [List.setIfInBounds_toArray]); (try simp only [List.set_cons_succ]); (try simp only [List.set_cons_zero])
          refine wpAnyH_take (i := 11) (oi := ⟨_, _, _, _, _, _⟩) (v := ?_) rfl (by kernel_rfl) (by kernel_rfl) (by kernel_rfl) (fun _ _ _ h => h) (Or.inl ⟨by rfl, ?_⟩) (by assumption) ?_
          rotate_left 1
          · intro w hSw; (try dsimp only at hSw); go_simp <;> with_reducible rfl
          (try simp only [Act.put]); (try simp only [List.setIfInBounds_toArray]); (try simp only [List.set_cons_succ]); (try simp only [List.set_cons_zero])
          refine wpAnyH_ready (rs := [12]) (by kernel_rfl) (by simp) ?_
          refine AllReadyH.cons (o := ⟨_, _, _, _, _, _⟩) rfl (fun K hK => ?_) AllReadyH.nil
          have c6 := hbx.cell 6 rfl
          have g6 := hbx.frozen 6
          go_simp
          clear c6 g6
          obtain ⟨hR, hF2⟩ := HAP.out
          replace hbox := hbox.setOther (hbox.ne hbx (by decide)) 6 (.slice a9 (L'.length) c9)
          skip
          generalize V2.setCell ⟨B, 6, none⟩ (.slice a9 (L'.length) c9) = V3 at *
          refine hK.out _ _ ?_ (fun hHeld => ?_)
          · exact ⟨hbox.cell 0 rfl, hbox.cell 1 rfl, hbox.cell 2 rfl, hbox.cell 3 rfl⟩
          clear hK K
          (try simp only [Act.put]); (try simp only [List.setIfInBounds_toArray]); (try simp only [List.set_cons_succ]); (try simp only [List.set_cons_zero])
          refine wpAnyH_done (by kernel_rfl) ?_ _
          have HR := Lib.hid hR
          have HF := Lib.hid (hF.trans' hF2 (fun i T hi => dfs HG.out i T (by omega)))
          have HX := Lib.hid hbox
          clear hR hF hF2 hbox hbx HAP
          go_wp2_with fail
          go_roundw
          case rel => exact ⟨k + 1, k, _, (P ++ [(⟨c.kind, c.src, k, c.v⟩ : Ct)]), by omega, by go_num, hrfl <| by rw [pre_succ, if_pos HQ.out, ← HP.out], by rw [← List.append_assoc, HFL.out, ← HL'.out]; exact HR.out, HX.out, HF.out, Lib.hid (gvstep HG.out HB6.out HSZ.out)⟩
          case measure => simp [RowKit.intOf]; omega
    · have e1 : k = n := by omega
      subst e1
      go_wp2_with fail
      go_end0
      refine ⟨rfl, gv', ?_, hF, HG.out.imp id fun ⟨j, h1, h2⟩ => ⟨j, h1, by omega⟩⟩
      have e2 : toAll k byz c = P := HP.out
      rw [e2]
      exact hR
end Go.Proofs.YtijknodekomdfaaGreatDoor
namespace Go.Proofs.YtijknodekomdfaaGreatDoor
open Go.RowKit Go.Lib Go.Shelf

/-- the cells of a node -/
def BN (W : World) (B : Nat) (z : NA) : Prop := Blk W B 153 #[.int .i64 z.x.id, .string z.x.echoed, .bool z.x.hasE, .string z.x.readied, .bool z.x.hasR, .string z.x.delivered, .bool z.x.hasD, .slice z.ae z.x.echoes.length z.ce, .slice z.ar z.x.readies.length z.cr]
set_option maxHeartbeats 1000000 in
theorem emit9_any (w0 W : World) (kind : Int) (BO BX BS : Nat) (z : NA) (v : Str) (ov : Value) (out : List Ct) (hO : Own 145 4 w0 W ov out.length (cl out)) (hbo : Blk W BO 73 #[ov]) (hlo : w0.heap.size ≤ BO) (hbx : BN W BX z) (hbs : Blk W BS 9 #[.string v]) (hl : out.length ≤ 1000) :
    Calls Tryz.prog 199 #[.int .i64 kind, .pointer (some ⟨BO, 0, none⟩), .pointer (some ⟨BX, 0, none⟩), .pointer (some ⟨BS, 0, none⟩)] W fun e W' => e = .returned (.tuple #[]) ∧
      ∃ ov', Own 145 4 w0 W' ov' (out ++ [(⟨kind, z.x.id, -1, v⟩ : Ct)]).length (cl (out ++ [(⟨kind, z.x.id, -1, v⟩ : Ct)])) ∧ Blk W' BO 73 #[ov'] ∧ FrB (fun i T => (i = BO ∧ T = 73) ∨ T = 145) W W' := by
  unfold BN at hbx
  obtain ⟨c0, c1, c2, c3, c4, c5, c6, c7, c8⟩ := hbx.c9
  clear c1 c2 c3 c4 c5 c6 c7 c8
  have d0 := hbs.cell 0 rfl
  have d1 := hbo.cell 0 rfl
  have hA := (Keeps.refl W).alloc (.cells #[.int .i64 kind, .int .i64 z.x.id, .int .i64 (-1), .string v] 145)
  have HO := Lib.hid (hO.keep hA)
  have hr : Rd (W.alloc (.cells #[.int .i64 kind, .int .i64 z.x.id, .int .i64 (-1), .string v] 145)) (some ⟨W.heap.size, 0, none⟩) 1 1 4 (cl [(⟨kind, z.x.id, -1, v⟩ : Ct)]) := rd_new 145 4 W _ 1 (by decide) rfl
  have HR := Lib.hid hr
  have HB := Lib.hid (hbo.keep hA)
  have hF : FrB (fun i T => (i = BO ∧ T = 73) ∨ T = 145) W (W.alloc (.cells #[.int .i64 kind, .int .i64 z.x.id, .int .i64 (-1), .string v] 145)) := .of hA
  have HF := Lib.hid hF
  clear hA hr hO hF
  go_enter Tryz.func199, Tryz.ntmps199
  go_wp2_with (at_builtin; refine wp_app ty_cl rfl _ _ rfl HO.out rfl rfl HR.out (cl_cells _) (by omega) ?_)
  intro v' w1 hO1 hgr
  obtain ⟨a1, c1, rfl, _⟩ := hO1.rd
  have hne : some BO ≠ ov.ownBlock := blk_ne HB.out HO.out.1 (by decide)
  have hb1 : Blk w1 BO 73 #[ov] := by
    have := HB.out
    unfold Blk at this ⊢
    rw [hgr.block BO (Array.getElem?_eq_some_iff.1 this).1 hne, this]
  have F1 : FrB (fun i T => (i = BO ∧ T = 73) ∨ T = 145) _ w1 := .grown HO.out.1 (fun _ => .inr rfl) hgr
  have F2 := FrB.set (D := fun i T => (i = BO ∧ T = 73) ∨ T = 145) hb1 (.inl ⟨rfl, rfl⟩) 0 (.slice a1 (out.length + 1) c1)
  have HO1 := Lib.hid hO1; have HF1 := Lib.hid ((HF.out.trans F1).trans F2); have HB1 := Lib.hid hb1
  have e0 := hb1.cell 0 rfl
  have e1 := hb1.frozen 0
  clear hO1 hgr F1 F2 hb1 hne
  go_wp2_with fail
  go_end0
  have hO2 : Own 145 4 w0 (w1.setCell ⟨BO, 0, none⟩ (.slice a1 (out.length + 1) c1)) (.slice a1 (out.length + 1) c1) (out ++ [(⟨kind, z.x.id, -1, v⟩ : Ct)]).length (cl (out ++ [(⟨kind, z.x.id, -1, v⟩ : Ct)])) := by
    rw [cl_append, List.length_append]
    exact own_oth9 HO1.out HB1.out (by decide) hlo 0 _
  exact ⟨rfl, _, hO2, HB1.out.set 0 _, HF1.out⟩
end Go.Proofs.YtijknodekomdfaaGreatDoor
namespace Go.Proofs.YtijknodekomdfaaGreatDoor
open Go.RowKit Go.Lib Go.Shelf

/-- the boxes of Handle: what is sent, the node, the value, the closure that sends -/
def sendV (BO BX BS : Nat) : Value := .func (.func 199) #[] #[.pointer (some ⟨BO, 0, none⟩), .pointer (some ⟨BX, 0, none⟩), .pointer (some ⟨BS, 0, none⟩)]
set_option maxRecDepth 20000 in
set_option maxHeartbeats 1000000 in
theorem ready39_any (w0 W : World) (is : Bool) (BO BX BS BF : Nat) (z : NA) (v : Str) (ov : Value) (out : List Ct) (hO : Own 145 4 w0 W ov out.length (cl out)) (hbo : Blk W BO 73 #[ov]) (hlo : w0.heap.size ≤ BO) (hlx : w0.heap.size ≤ BX) (hbx : BN W BX z) (hbs : Blk W BS 9 #[.string v]) (hbf : Blk W BF 149 #[sendV BO BX BS]) (hl : out.length ≤ 1000) :
    Calls Tryz.prog 200 #[.bool is, .pointer (some ⟨BX, 0, none⟩), .pointer (some ⟨BS, 0, none⟩), .pointer (some ⟨BF, 0, none⟩)] W fun e W' => e = .returned (.tuple #[]) ∧
      ∃ ov', Own 145 4 w0 W' ov' (out ++ (rdy z.x is v).2).length (cl (out ++ (rdy z.x is v).2)) ∧ Blk W' BO 73 #[ov'] ∧ BN W' BX ⟨(rdy z.x is v).1, z.ae, z.ce, z.ar, z.cr⟩ ∧ FrB (fun i T => (i = BO ∧ T = 73) ∨ (i = BX ∧ T = 153) ∨ T = 145) W W' := by
  have n1 : BO ≠ BX := hbo.ne hbx (by decide)
  have n2 : BS ≠ BX := hbs.ne hbx (by decide)
  have n3 : BF ≠ BX := hbf.ne hbx (by decide)
  have hno : ∀ is, (is && !z.x.hasR) = false → rdy z.x is v = (z.x, []) := fun is h => by unfold rdy; rw [if_neg (by rw [h]; simp)]
  unfold BN at hbx ⊢
  unfold sendV at hbf
  cases is with
  | false =>
    go_enter Tryz.func200, Tryz.ntmps200
    go_wp2_with fail
    go_end0
    rw [hno false rfl]
    simp only [List.append_nil]
    exact ⟨trivial, ov, hO, hbo, hbx, .refl _⟩
  | true =>
    cases hr : z.x.hasR with
    | true =>
      have c4 := hbx.cell 4 rfl
      rw [hr] at c4
      go_enter Tryz.func200, Tryz.ntmps200
      go_wp2_with fail
      go_end0
      rw [hno true (by rw [hr]; rfl)]
      simp only [List.append_nil]
      exact ⟨trivial, ov, hO, hbo, hbx, .refl _⟩
    | false =>
      have c4 := hbx.cell 4 rfl
      rw [hr] at c4
      have hR := Lib.hid hr
      clear hr
      go_enter Tryz.func200, Tryz.ntmps200
      go_wp2_with fail
      clear c4
      have J := (Keeps.refl W).drew
      replace hO := hO.keep J
      replace hbx := hbx.keep J
      replace hbo := hbo.keep J
      replace hbs := hbs.keep J
      replace hbf := hbf.keep J
      have hF : FrB (fun i T => (i = BO ∧ T = 73) ∨ (i = BX ∧ T = 153) ∨ T = 145) W W.drew := .of J
      clear J
      refine wp_region_held_drew (S := (fun w' => w'.cell? ⟨BS, 0, none⟩ = some (.string v))) (by kernel_rfl) ?_ (fun hHeld => ?_)
      · exact hbs.cell 0 rfl
      generalize W.drew = V0 at *
      refine wpAnyH_take (i := 0) (oi := ⟨_, _, _, _, _, _⟩) (v := ?_) rfl (by kernel_rfl) (by kernel_rfl) (by kernel_rfl) (fun _ _ _ h => h) (Or.inl ⟨by rfl, ?_⟩) (by assumption) ?_
      rotate_left 1
      · intro w hSw; (try dsimp only at hSw); go_simp <;> with_reducible rfl
      (try simp only [Act.put]); (try simp only [List.setIfInBounds_toArray]); (try simp only [List.set_cons_succ]); (try simp only [List.set_cons_zero])
      refine wpAnyH_take (i := 1) (oi := ⟨_, _, _, _, _, _⟩) (v := ?_) rfl (by kernel_rfl) (by kernel_rfl) (by kernel_rfl) (fun _ _ _ h => h) (Or.inl ⟨by rfl, ?_⟩) (by assumption) ?_
      rotate_left 1
      · intro w hSw; (try dsimp only at hSw); go_simp <;> with_reducible rfl
      (try simp only [Act.put]); (try simp only [List.setIfInBounds_toArray]); (try simp only [List.set_cons_succ]); (try simp only [List.set_cons_zero])
      refine wpAnyH_ready (rs := [2]) (by kernel_rfl) (by simp) ?_
      refine AllReadyH.cons (o := ⟨_, _, _, _, _, _⟩) rfl (fun K hK => ?_) AllReadyH.nil
      have k4 := hbx.frozen 4
      obtain ⟨c0, c1, c2, c3, c4, c5, c6, c7, c8⟩ := Blk.c9 hbx
      go_simp
      clear k4 c0 c1 c2 c3 c4 c5 c6 c7 c8
      replace hF := hF.trans (FrB.set (D := fun i T => (i = BO ∧ T = 73) ∨ (i = BX ∧ T = 153) ∨ T = 145) hbx (.inr (.inl ⟨rfl, rfl⟩)) 4 (.bool true))
      replace hO := own_oth9 hO hbx (by decide) hlx 4 (.bool true)
      replace hbo := hbo.setOther n1 4 (.bool true)
      replace hbs := hbs.setOther n2 4 (.bool true)
      replace hbf := hbf.setOther n3 4 (.bool true)
      replace hbx := hbx.set 4 (.bool true)
      simp only [List.setIfInBounds_toArray, List.set_cons_succ, List.set_cons_zero] at hbx
      generalize V0.setCell ⟨BX, 4, none⟩ (.bool true) = V1 at *
      refine hK.out _ _ ?_ (fun hHeld => ?_)
      · exact hbs.cell 0 rfl
      clear hK K
      (try simp only [Act.put]); (try simp only [List.setIfInBounds_toArray]); (try simp only [List.set_cons_succ]); (try simp only [List.set_cons_zero])
      refine wpAnyH_take (i := 3) (oi := ⟨_, _, _, _, _, _⟩) (v := ?_) rfl (by kernel_rfl) (by kernel_rfl) (by kernel_rfl) (fun _ _ _ h => h) (Or.inl ⟨by rfl, ?_⟩) (by assumption) ?_
      rotate_left 1
      · intro w hSw; (try dsimp only at hSw); go_simp <;> with_reducible rfl
      (try simp only [Act.put]); (try simp only [List.setIfInBounds_toArray]); (try simp only [List.set_cons_succ]); (try simp only [List.set_cons_zero])
      refine wpAnyH_ready (rs := [4]) (by kernel_rfl) (by simp) ?_
      refine AllReadyH.cons (o := ⟨_, _, _, _, _, _⟩) rfl (fun K hK => ?_) AllReadyH.nil
      have k4 := hbx.frozen 3
      obtain ⟨c0, c1, c2, c3, c4, c5, c6, c7, c8⟩ := Blk.c9 hbx
      go_simp
      clear k4 c0 c1 c2 c3 c4 c5 c6 c7 c8
      replace hF := hF.trans (FrB.set (D := fun i T => (i = BO ∧ T = 73) ∨ (i = BX ∧ T = 153) ∨ T = 145) hbx (.inr (.inl ⟨rfl, rfl⟩)) 3 (.string v))
      replace hO := own_oth9 hO hbx (by decide) hlx 3 (.string v)
      replace hbo := hbo.setOther n1 3 (.string v)
      replace hbs := hbs.setOther n2 3 (.string v)
      replace hbf := hbf.setOther n3 3 (.string v)
      replace hbx := hbx.set 3 (.string v)
      simp only [List.setIfInBounds_toArray, List.set_cons_succ, List.set_cons_zero] at hbx
      generalize V1.setCell ⟨BX, 3, none⟩ (.string v) = V2 at *
      refine hK.out _ _ ?_ (fun hHeld => ?_)
      · exact hbs.cell 0 rfl
      clear hK K
      (try simp only [Act.put]); (try simp only [List.setIfInBounds_toArray]); (try simp only [List.set_cons_succ]); (try simp only [List.set_cons_zero])
      refine wpAnyH_done (by kernel_rfl) ?_ _
      have hc := emit9_any w0 V2 3 BO BX BS ⟨{ z.x with hasR := true, readied := v }, z.ae, z.ce, z.ar, z.cr⟩ v ov out hO hbo hlo hbx hbs hl
      have HC := Lib.hid hc
      have f0 := hbf.cell 0 rfl
      have HF := Lib.hid hF
      have HX := Lib.hid hbx
      clear hc hO hbo hbs hbf hF hbx
      go_wp2_with fail
      refine HC.out.mono ?_
      rintro e W3 ⟨rfl, ov', a1, a2, a3⟩
      have HA := Lib.hid (And.intro a1 (And.intro a2 a3))
      clear a1 a2 a3
      go_wp2_with fail
      go_end0
      have e1 : rdy z.x true v = ({ z.x with hasR := true, readied := v }, [⟨3, z.x.id, -1, v⟩]) := by unfold rdy; rw [hR.out]; rfl
      rw [e1]
      obtain ⟨a1, a2, a3⟩ := HA.out
      exact ⟨rfl, ov', a1, a2, a3.2 BX _ _ HX.out (by rintro (⟨h, _⟩ | h); exact n1 h.symm; exact absurd h (by decide)), HF.out.trans (a3.mono fun i T h => by rcases h with h | h; exact .inl h; exact .inr (.inr h))⟩
end Go.Proofs.YtijknodekomdfaaGreatDoor
namespace Go.Proofs.YtijknodekomdfaaGreatDoor
open Go.RowKit Go.Lib Go.Shelf
theorem addOld9_any (a : Option Addr) (c : Nat) (l : List Hd) (i : Nat) (v : Str) (w : World) (h : Rd w a l.length c 2 (hl l)) (hi : i < 16) (hk : knows l i = true) :
    Calls Tryz.prog 201 #[.slice a l.length c, .int .i64 i, .string v] w fun e w' => e = .returned (.tuple #[.slice a l.length c, .bool false]) ∧ Keeps w w' := by
  have k2 := ((Keeps.refl w).alloc (.cells #[.int .i64 i] 3)).alloc (.cells #[.string v] 9)
  have b1 := (Blk.new w 3 #[.int .i64 i]).keep ((Keeps.refl _).alloc (.cells #[.string v] 9))
  have hc1 := containsFuncH_any a l.length c l _ 225 #[.pointer (some ⟨w.heap.size, 0, none⟩)] _ (h.keep k2) (enters_of Tryz.func225 (by kernel_rfl) rfl) (addPred1 i hi w.heap.size l _ (b1.cell 0 rfl))
  rw [knows_p1, hk] at hc1
  have HC1 := Lib.hid hc1; have HK2 := Lib.hid k2
  clear hc1 b1 k2 h
  go_enter Tryz.func201, Tryz.ntmps201
  go_wp2_with fail
  refine HC1.out.mono ?_
  rintro e W1 ⟨rfl, K1⟩
  go_wp2_with fail
  go_ret2
  exact ⟨rfl, HK2.out.trans K1⟩
end Go.Proofs.YtijknodekomdfaaGreatDoor
