/- Texts joined into one, what is needed of them (a program of ours). -/
import Derived.Test.YtijknodekomdfaaGreatDoorBKE
import Derived.Test.YtijknodekomdfaaGreatDoorBKF
import Derived.Test.YtijknodekomdfaaGreatDoorBKM
namespace Go.Proofs.YtijknodekomdfaaGreatDoor
open Go.RowKit Go.Lib Go.Shelf

theorem handle_out (f b : List S) (x : Nd) (src kind : Int) (v : Str) : (handle f b x src kind v).2.length ≤ 2 := by
  have h := handle_un f b x src kind v
  have : unS x ≤ 2 := by unfold unS; split <;> split <;> omega
  omega
theorem node_at {w0 W : World} {g m cap : Nat} {l : List NA} (h : Own 153 9 w0 W (.slice (some ⟨g, 0, none⟩) m cap) m (nl l)) {d : Nat} (hd : d < m) :
    W.cell? ⟨g, d * 9, none⟩ = some (.int .i64 (naA l d).x.id) ∧ W.cell? ⟨g, d * 9 + 1, none⟩ = some (.string (naA l d).x.echoed) ∧ W.cell? ⟨g, d * 9 + 2, none⟩ = some (.bool (naA l d).x.hasE) ∧ W.cell? ⟨g, d * 9 + 3, none⟩ = some (.string (naA l d).x.readied) ∧ W.cell? ⟨g, d * 9 + 4, none⟩ = some (.bool (naA l d).x.hasR) ∧ W.cell? ⟨g, d * 9 + 5, none⟩ = some (.string (naA l d).x.delivered) ∧ W.cell? ⟨g, d * 9 + 6, none⟩ = some (.bool (naA l d).x.hasD) ∧ W.cell? ⟨g, d * 9 + 7, none⟩ = some (.slice (naA l d).ae (naA l d).x.echoes.length (naA l d).ce) ∧ W.cell? ⟨g, d * 9 + 8, none⟩ = some (.slice (naA l d).ar (naA l d).x.readies.length (naA l d).cr) := by
  obtain ⟨a, c, e, hr⟩ := h.rd
  injection e with e1 e2 e3
  subst e1
  obtain ⟨g0, g1, g2, g3, g4, g5, g6, g7, g8⟩ := nl_at hr hd
  simp only [adr_some, Nat.zero_add] at g0 g1 g2 g3 g4 g5 g6 g7 g8
  exact ⟨g0, g1, g2, g3, g4, g5, g6, g7, g8⟩
theorem node_fz {w0 W : World} {g m cap : Nat} {l : List NA} (h : Own 153 9 w0 W (.slice (some ⟨g, 0, none⟩) m cap) m (nl l)) (d : Nat) :
    W.frozen? ⟨g, d * 9, none⟩ = false ∧ W.frozen? ⟨g, d * 9 + 1, none⟩ = false ∧ W.frozen? ⟨g, d * 9 + 2, none⟩ = false ∧ W.frozen? ⟨g, d * 9 + 3, none⟩ = false ∧ W.frozen? ⟨g, d * 9 + 4, none⟩ = false ∧ W.frozen? ⟨g, d * 9 + 5, none⟩ = false ∧ W.frozen? ⟨g, d * 9 + 6, none⟩ = false ∧ W.frozen? ⟨g, d * 9 + 7, none⟩ = false ∧ W.frozen? ⟨g, d * 9 + 8, none⟩ = false :=
  ⟨h.1.frozenAt _, h.1.frozenAt _, h.1.frozenAt _, h.1.frozenAt _, h.1.frozenAt _, h.1.frozenAt _, h.1.frozenAt _, h.1.frozenAt _, h.1.frozenAt _⟩
theorem grown9n (W : World) (g k : Nat) (u0 u1 u2 u3 u4 u5 u6 u7 u8 : Value) : W.grownBy ((((((((((W.setCell ⟨g, k, none⟩ (u0)).setCell ⟨g, k + 1, none⟩ (u1)).setCell ⟨g, k + 2, none⟩ (u2)).setCell ⟨g, k + 3, none⟩ (u3)).setCell ⟨g, k + 4, none⟩ (u4)).setCell ⟨g, k + 5, none⟩ (u5)).setCell ⟨g, k + 6, none⟩ (u6)).setCell ⟨g, k + 7, none⟩ (u7)).setCell ⟨g, k + 8, none⟩ (u8))) (some g) :=
  grown_trans (grown_trans (grown_trans (grown_trans (grown_trans (grown_trans (grown_trans (grown_trans (grown_set _ _ _ _) (grown_set _ _ _ _)) (grown_set _ _ _ _)) (grown_set _ _ _ _)) (grown_set _ _ _ _)) (grown_set _ _ _ _)) (grown_set _ _ _ _)) (grown_set _ _ _ _)) (grown_set _ _ _ _)
theorem RunW.node {w0 W : World} {B : Nat} {fv bv : Value} {n : Nat} {byz : S} {source : Int} {gn nc : Nat} {nas : List NA} {gv : Value} {fl : List Ct} {lv : Value} {ls : List Ct} (h : RunW w0 W B fv bv n byz source (.slice (some ⟨gn, 0, none⟩) nas.length nc) nas gv fl lv ls) (z' : NA) (d : Nat) (hd : d < nas.length) (hN : NOk W z') :
    RunW w0 ((((((((((W.setCell ⟨gn, d * 9, none⟩ (.int .i64 z'.x.id)).setCell ⟨gn, d * 9 + 1, none⟩ (.string z'.x.echoed)).setCell ⟨gn, d * 9 + 2, none⟩ (.bool z'.x.hasE)).setCell ⟨gn, d * 9 + 3, none⟩ (.string z'.x.readied)).setCell ⟨gn, d * 9 + 4, none⟩ (.bool z'.x.hasR)).setCell ⟨gn, d * 9 + 5, none⟩ (.string z'.x.delivered)).setCell ⟨gn, d * 9 + 6, none⟩ (.bool z'.x.hasD)).setCell ⟨gn, d * 9 + 7, none⟩ (.slice z'.ae z'.x.echoes.length z'.ce)).setCell ⟨gn, d * 9 + 8, none⟩ (.slice z'.ar z'.x.readies.length z'.cr))) B fv bv n byz source (.slice (some ⟨gn, 0, none⟩) nas.length nc) (nas.set d z') gv fl lv ls ∧ TyF W ((((((((((W.setCell ⟨gn, d * 9, none⟩ (.int .i64 z'.x.id)).setCell ⟨gn, d * 9 + 1, none⟩ (.string z'.x.echoed)).setCell ⟨gn, d * 9 + 2, none⟩ (.bool z'.x.hasE)).setCell ⟨gn, d * 9 + 3, none⟩ (.string z'.x.readied)).setCell ⟨gn, d * 9 + 4, none⟩ (.bool z'.x.hasR)).setCell ⟨gn, d * 9 + 5, none⟩ (.string z'.x.delivered)).setCell ⟨gn, d * 9 + 6, none⟩ (.bool z'.x.hasD)).setCell ⟨gn, d * 9 + 7, none⟩ (.slice z'.ae z'.x.echoes.length z'.ce)).setCell ⟨gn, d * 9 + 8, none⟩ (.slice z'.ar z'.x.readies.length z'.cr))) := by
  have hg := grown9n W gn (d * 9) (.int .i64 z'.x.id) (.string z'.x.echoed) (.bool z'.x.hasE) (.string z'.x.readied) (.bool z'.x.hasR) (.string z'.x.delivered) (.bool z'.x.hasD) (.slice z'.ae z'.x.echoes.length z'.ce) (.slice z'.ar z'.x.readies.length z'.cr)
  have ho := own_set9 h.own (d * 9) (.int .i64 z'.x.id) (.string z'.x.echoed) (.bool z'.x.hasE) (.string z'.x.readied) (.bool z'.x.hasR) (.string z'.x.delivered) (.bool z'.x.hasD) (.slice z'.ae z'.x.echoes.length z'.ce) (.slice z'.ar z'.x.readies.length z'.cr)
  rw [← nl_set nas d z' hd] at ho
  have hT : TyF W _ := FrB.grown' h.own.1 (fun _ _ => ty3_node) hg
  refine ⟨⟨blk_grown9 h.box hg (blk_ne h.box h.own.1 (by decide)), h.lo, by rw [List.length_set]; exact ho, ⟨row_kept h.fli.1 h.own.1 (by decide) hg, ho.2⟩, ⟨row_kept h.lie.1 h.own.1 (by decide) hg, ho.2⟩, h.apart, fun y hy => ?_⟩, hT⟩
  rcases List.mem_or_eq_of_mem_set hy with hy | rfl
  · exact (h.rows y hy).tyf hT
  · exact hN.tyf hT
set_option maxRecDepth 20000 in
set_option maxHeartbeats 4000000 in
theorem deliver39_any (w0 w : World) (B : Nat) (fa : Option Addr) (fm fc : Nat) (f : List S) (ba : Option Addr) (bm bc : Nat) (b : List S) (n : Nat) (byz : S) (source : Int) (nv : Value) (nas : List NA) (gv : Value) (fl : List Ct) (lv : Value) (ls : List Ct) (k : Nat)
    (hf : Rd w0 fa fm fc 1 (sl f)) (hb : Rd w0 ba bm bc 1 (sl b)) (hn : n ≤ 16) (hl : fl.length ≤ 900000) (hk : k < fl.length) (hd : ∃ d : Nat, (ctA fl k).dst = (d : Int) ∧ d < nas.length) (hsm : ∀ z ∈ nas, z.x.echoes.length ≤ 1000 ∧ z.x.readies.length ≤ 1000)
    (hR : RunW w0 w B (.slice fa fm fc) (.slice ba bm bc) n byz source nv nas gv fl lv ls) :
    Calls Tryz.prog 91 #[.pointer (some ⟨B, 0, none⟩), .int .i64 k] w fun e W' => e = .returned (.tuple #[]) ∧ ∃ nas' gv' fl', RunW w0 W' B (.slice fa fm fc) (.slice ba bm bc) n byz source nv nas' gv' fl' lv ls ∧ TyF w W' ∧ (⟨nas'.map NA.x, fl'⟩ : St) = deliv f b n byz ⟨nas.map NA.x, fl⟩ k := by
  obtain ⟨d, hd1, hd2⟩ := hd
  obtain ⟨gn, nc, rfl, _, _⟩ := hR.own.some (by omega)
  obtain ⟨gf, cf, rfl, hcf, _⟩ := hR.fli.some (by omega)
  have hbB := hR.box
  obtain ⟨ao, co, hao, hrf⟩ := hR.fli.rd
  injection hao with e1 e2 e3
  subst e1 e3
  obtain ⟨p0, p1, p2, p3⟩ := cl_at hrf hk
  simp only [adr_some, Nat.zero_add] at p0 p1 p2 p3
  rw [hd1] at p2
  clear hrf e2
  have HC : Hid (fl.getD k ct0 = ctA fl k) := Lib.hid rfl
  have HD1 := Lib.hid hd1
  clear hd1
  have HZ := Lib.hid (hsm (naA nas d) (naA_mem (by omega)))
  have HNK := Lib.hid (fun (W : World) (gv' : Value) (fl' : List Ct) (h : RunW w0 W B (.slice fa fm fc) (.slice ba bm bc) n byz source (.slice (some ⟨gn, 0, none⟩) nas.length nc) nas gv' fl' lv ls) => h.rows (naA nas d) (naA_mem (by omega)))
  have HAT := Lib.hid (fun (W : World) (h : Own 153 9 w0 W (.slice (some ⟨gn, 0, none⟩) nas.length nc) nas.length (nl nas)) => node_at h hd2)
  have HZX : Hid (naA nas d = naA nas d) := Lib.hid rfl
  generalize hz : naA nas d = z at HZ HNK HAT
  generalize hc : ctA fl k = c at *
  have HHZ := Lib.hid hz; have HHC := Lib.hid hc
  clear hz hc HZX
  have kA := (Keeps.refl w).alloc (.cells #[.int .i64 c.kind, .int .i64 c.src, .int .i64 d, .string c.v] 145)
  have hbox := Blk.new w 145 #[.int .i64 c.kind, .int .i64 c.src, .int .i64 d, .string c.v]
  have hR1 := hR.keep kA
  have hgl : gf ≠ w.heap.size := by have := (hR.fli.1.lt gf rfl).2; omega
  have hF1 : TyF w (w.alloc (.cells #[.int .i64 c.kind, .int .i64 c.src, .int .i64 d, .string c.v] 145)) := .of kA
  have hC1 : w0.heap.size ≤ w.heap.size := hR.keeps.size
  have hdel := deleteC_any w0 (w.alloc (.cells #[.int .i64 c.kind, .int .i64 c.src, .int .i64 d, .string c.v] 145)) gf fl.length cf fl k hR1.fli hk (by omega)
  have HD := Lib.hid hdel
  obtain ⟨c0, c1, c2, c3, c4, c5, c6⟩ := hbB.c7
  have d6 := hR1.box.cell 6 rfl
  clear hdel c0 c1 c2 c3 c4 c5 kA hR hsm hbB
  go_enter Tryz.func91, Tryz.ntmps91
  go_wp2_with fail
  clear d6 p0 p1 p2 p3 c6
  generalize w.alloc (.cells #[.int .i64 c.kind, .int .i64 c.src, .int .i64 d, .string c.v] 145) = wA at *
  obtain ⟨C1, hC1e⟩ : ∃ C, C = w.heap.size := ⟨_, rfl⟩
  rw [← hC1e] at hbox hgl hC1 ⊢
  clear hC1e
  refine HD.out.mono ?_
  rintro e W2 ⟨rfl, hO2, hgr⟩
  clear HD
  have hlen : fl.length - 1 = (fl.eraseIdx k).length := by rw [List.length_eraseIdx, if_pos hk]
  rw [hlen] at hO2 ⊢
  have HLEN := Lib.hid hlen
  obtain ⟨m1, hm1⟩ : ∃ m, m = (fl.eraseIdx k).length := ⟨_, rfl⟩
  rw [← hm1] at hO2 ⊢
  have hbx2 := hR1.boxg hgr
  have hap := hR1.append (fl' := fl.eraseIdx k) (gv' := .slice (some ⟨gf, 0, none⟩) m1 cf) (by rw [← hm1]; exact hO2) hgr (.inl rfl)
  replace hbox := blk_grown9 hbox hgr (by intro e; injection e with e; exact hgl e.symm)
  replace hbox := hbox.setOther (hbox.ne hbx2 (by decide)) 6 (.slice (some ⟨gf, 0, none⟩) m1 cf)
  have HAP := Lib.hid hap; have HX3 := Lib.hid hbox; have HM1 := Lib.hid hm1
  clear hm1
  have c6 := hbx2.cell 6 rfl
  have g6 := hbx2.frozen 6
  clear hap hbox hO2 hgr hbx2 hR1 hlen hk
  go_wp2_with fail
  clear c6 g6
  obtain ⟨hR, hF2⟩ := HAP.out
  generalize W2.setCell ⟨B, 6, none⟩ (.slice (some ⟨gf, 0, none⟩) m1 cf) = W3 at *
  have hF3 := hF1.trans (DF.ty3 hF2)
  have HR3 := Lib.hid hR; have HF3 := Lib.hid hF3
  have hgf3 := (hR.fli.1.lt gf rfl).2
  have h54 := fun (W : World) (h : Keeps W3 W) => handle39_any fa fm fc f ba bm bc b z c.src c.kind c.v W (hf.keep (hR.keeps.trans h)) (hb.keep (hR.keeps.trans h)) (((HNK.out W3 _ _ hR).1.keep h).rd) (((HNK.out W3 _ _ hR).2.keep h).rd) HZ.out.1 HZ.out.2
  unfold vn at h54
  have H54 := Lib.hid h54
  clear HAP hF1 hF2 hF3 h54
  go_cut [5, 6] from 30 (fun s5 s6 wx => ∃ (z' : NA) (C2 : Nat), s5 = .pointer (some ⟨C2, 0, none⟩) ∧ W3.heap.size ≤ C2 ∧ Blk wx C2 153 #[.int .i64 z'.x.id, .string z'.x.echoed, .bool z'.x.hasE, .string z'.x.readied, .bool z'.x.hasR, .string z'.x.delivered, .bool z'.x.hasD, .slice z'.ae z'.x.echoes.length z'.ce, .slice z'.ar z'.x.readies.length z'.cr] ∧ Hid (z'.x = (handle f b z.x c.src c.kind c.v).1) ∧ NOk wx z' ∧ Own 145 4 W3 wx s6 (handle f b z.x c.src c.kind c.v).2.length (cl (handle f b z.x c.src c.kind c.v).2))
  case first =>
    have J := (Keeps.refl W3).drew
    replace hR := hR.keep J
    have hbox := HX3.out.keep J
    refine wp_region_held_drew (S := (fun w' => w'.cell? ⟨B, 0, none⟩ = some (.slice fa fm fc) ∧ w'.cell? ⟨B, 1, none⟩ = some (.slice ba bm bc) ∧ w'.cell? ⟨B, 5, none⟩ = some (.slice (some ⟨gn, 0, none⟩) nas.length nc) ∧ w'.cell? ⟨C1, 0, none⟩ = some (.int .i64 c.kind) ∧ w'.cell? ⟨C1, 1, none⟩ = some (.int .i64 c.src) ∧ w'.cell? ⟨C1, 2, none⟩ = some (.int .i64 d) ∧ w'.cell? ⟨C1, 3, none⟩ = some (.string c.v) ∧ w'.cell? ⟨gn, d * 9, none⟩ = some (.int .i64 z.x.id) ∧ w'.cell? ⟨gn, d * 9 + 1, none⟩ = some (.string z.x.echoed) ∧ w'.cell? ⟨gn, d * 9 + 2, none⟩ = some (.bool z.x.hasE) ∧ w'.cell? ⟨gn, d * 9 + 3, none⟩ = some (.string z.x.readied) ∧ w'.cell? ⟨gn, d * 9 + 4, none⟩ = some (.bool z.x.hasR) ∧ w'.cell? ⟨gn, d * 9 + 5, none⟩ = some (.string z.x.delivered) ∧ w'.cell? ⟨gn, d * 9 + 6, none⟩ = some (.bool z.x.hasD) ∧ w'.cell? ⟨gn, d * 9 + 7, none⟩ = some (.slice z.ae z.x.echoes.length z.ce) ∧ w'.cell? ⟨gn, d * 9 + 8, none⟩ = some (.slice z.ar z.x.readies.length z.cr))) (by kernel_rfl) ?_ (fun hHeld => ?_)
    · exact ⟨hR.box.cell 0 rfl, hR.box.cell 1 rfl, hR.box.cell 5 rfl, hbox.cell 0 rfl, hbox.cell 1 rfl, hbox.cell 2 rfl, hbox.cell 3 rfl, HAT.out _ hR.own⟩
    generalize W3.drew = V0 at *
    refine wpAnyH_take (i := 0) (oi := ⟨_, _, _, _, _, _⟩) (v := ?_) rfl (by kernel_rfl) (by kernel_rfl) (by kernel_rfl) (fun _ _ _ h => h) (Or.inl ⟨by rfl, ?_⟩) (by assumption) ?_
    rotate_left 1
    · intro w hSw; (try dsimp only at hSw); go_simp <;> with_reducible rfl
    (try simp only [Act.put]); (try simp only [List.setIfInBounds_toArray]); (try simp only [List.set_cons_succ]); (try simp only [List.set_cons_zero])
    refine wpAnyH_take (i := 1) (oi := ⟨_, _, _, _, _, _⟩) (v := ?_) rfl (by kernel_rfl) (by kernel_rfl) (by kernel_rfl) (fun _ _ _ h => h) (Or.inl ⟨by rfl, ?_⟩) (by assumption) ?_
    rotate_left 1
    · intro w hSw; (try dsimp only at hSw); go_simp <;> with_reducible rfl
    (try simp only [Act.put]); (try simp only [List.setIfInBounds_toArray]); (try simp only [List.set_cons_succ]); (try simp only [List.set_cons_zero])
    refine wpAnyH_take (i := 2) (oi := ⟨_, _, _, _, _, _⟩) (v := ?_) rfl (by kernel_rfl) (by kernel_rfl) (by kernel_rfl) (fun _ _ _ h => h) (Or.inl ⟨by rfl, ?_⟩) (by assumption) ?_
    rotate_left 1
    · intro w hSw; (try dsimp only at hSw); go_simp <;> with_reducible rfl
    (try simp only [Act.put]); (try simp only [List.setIfInBounds_toArray]); (try simp only [List.set_cons_succ]); (try simp only [List.set_cons_zero])
    refine wpAnyH_take (i := 3) (oi := ⟨_, _, _, _, _, _⟩) (v := ?_) rfl (by kernel_rfl) (by kernel_rfl) (by kernel_rfl) (fun _ _ _ h => h) (Or.inl ⟨by rfl, ?_⟩) (by assumption) ?_
    rotate_left 1
    · intro w hSw; (try dsimp only at hSw); go_simp <;> with_reducible rfl
    (try simp only [Act.put]); (try simp only [List.setIfInBounds_toArray]); (try simp only [List.set_cons_succ]); (try simp only [List.set_cons_zero])
    refine wpAnyH_take (i := 4) (oi := ⟨_, _, _, _, _, _⟩) (v := ?_) rfl (by kernel_rfl) (by kernel_rfl) (by kernel_rfl) (fun _ _ _ h => h) (Or.inl ⟨by rfl, ?_⟩) (by assumption) ?_
    rotate_left 1
    · intro w hSw; (try dsimp only at hSw); go_simp <;> with_reducible rfl
    (try simp only [Act.put]); (try simp only [List.setIfInBounds_toArray]); (try simp only [List.set_cons_succ]); (try simp only [List.set_cons_zero])
    refine wpAnyH_take (i := 5) (oi := ⟨_, _, _, _, _, _⟩) (v := ?_) rfl (by kernel_rfl) (by kernel_rfl) (by kernel_rfl) (fun _ _ _ h => h) (Or.inl ⟨by rfl, ?_⟩) (by assumption) ?_
    rotate_left 1
    · intro w hSw; (try dsimp only at hSw); go_simp <;> with_reducible rfl
    (try simp only [Act.put]); (try simp only [List.setIfInBounds_toArray]); (try simp only [List.set_cons_succ]); (try simp only [List.set_cons_zero])
    refine wpAnyH_take (i := 6) (oi := ⟨_, _, _, _, _, _⟩) (v := ?_) rfl (by kernel_rfl) (by kernel_rfl) (by kernel_rfl) (fun _ _ _ h => h) (Or.inl ⟨by rfl, ?_⟩) (by assumption) ?_
    rotate_left 1
    · intro w hSw; (try dsimp only at hSw); go_simp <;> with_reducible rfl
    (try simp only [Act.put]); (try simp only [List.setIfInBounds_toArray]); (try simp only [List.set_cons_succ]); (try simp only [List.set_cons_zero])
    refine wpAnyH_take (i := 7) (oi := ⟨_, _, _, _, _, _⟩) (v := ?_) rfl (by kernel_rfl) (by kernel_rfl) (by kernel_rfl) (fun _ _ _ h => h) (Or.inl ⟨by rfl, ?_⟩) (by assumption) ?_
    rotate_left 1
    · intro w hSw; (try dsimp only at hSw); go_simp <;> with_reducible rfl
    (try simp only [Act.put]); (try simp only [List.setIfInBounds_toArray]); (try simp only [List.set_cons_succ]); (try simp only [List.set_cons_zero])
    refine wpAnyH_take (i := 8) (oi := ⟨_, _, _, _, _, _⟩) (v := ?_) rfl (by kernel_rfl) (by kernel_rfl) (by kernel_rfl) (fun _ _ _ h => h) (Or.inl ⟨by rfl, ?_⟩) (by assumption) ?_
    rotate_left 1
    · intro w hSw; (try dsimp only at hSw); go_simp <;> with_reducible rfl
    (try simp only [Act.put]); (try simp only [List.setIfInBounds_toArray]); (try simp only [List.set_cons_succ]); (try simp only [List.set_cons_zero])
    refine wpAnyH_take (i := 9) (oi := ⟨_, _, _, _, _, _⟩) (v := ?_) rfl (by kernel_rfl) (by kernel_rfl) (by kernel_rfl) (fun _ _ _ h => h) (Or.inl ⟨by rfl, ?_⟩) (by assumption) ?_
    rotate_left 1
    · intro w hSw; (try dsimp only at hSw); go_simp <;> with_reducible rfl
    (try simp only [Act.put]); (try simp only [List.setIfInBounds_toArray]); (try simp only [List.set_cons_succ]); (try simp only [List.set_cons_zero])
    refine wpAnyH_take (i := 10) (oi := ⟨_, _, _, _, _, _⟩) (v := ?_) rfl (by kernel_rfl) (by kernel_rfl) (by kernel_rfl) (fun _ _ _ h => h) (Or.inl ⟨by rfl, ?_⟩) (by assumption) ?_
    rotate_left 1
    · intro w hSw; (try dsimp only at hSw); go_simp <;> with_reducible rfl
    (try simp only [Act.put]); (try simp only [List.setIfInBounds_toArray]); (try simp only [List.set_cons_succ]); (try simp only [List.set_cons_zero])
    refine wpAnyH_take (i := 11) (oi := ⟨_, _, _, _, _, _⟩) (v := ?_) rfl (by kernel_rfl) (by kernel_rfl) (by kernel_rfl) (fun _ _ _ h => h) (Or.inl ⟨by rfl, ?_⟩) (by assumption) ?_
    rotate_left 1
    · intro w hSw; (try dsimp only at hSw); go_simp <;> with_reducible rfl
    (try simp only [Act.put]); (try simp only [List.setIfInBounds_toArray]); (try simp only [List.set_cons_succ]); (try simp only [List.set_cons_zero])
    refine wpAnyH_take (i := 12) (oi := ⟨_, _, _, _, _, _⟩) (v := ?_) rfl (by kernel_rfl) (by kernel_rfl) (by kernel_rfl) (fun _ _ _ h => h) (Or.inl ⟨by rfl, ?_⟩) (by assumption) ?_
    rotate_left 1
    · intro w hSw; (try dsimp only at hSw); go_simp <;> with_reducible rfl
    (try simp only [Act.put]); (try simp only [List.setIfInBounds_toArray]); (try simp only [List.set_cons_succ]); (try simp only [List.set_cons_zero])
    refine wpAnyH_take (i := 13) (oi := ⟨_, _, _, _, _, _⟩) (v := ?_) rfl (by kernel_rfl) (by kernel_rfl) (by kernel_rfl) (fun _ _ _ h => h) (Or.inl ⟨by rfl, ?_⟩) (by assumption) ?_
    rotate_left 1
    · intro w hSw; (try dsimp only at hSw); go_simp <;> with_reducible rfl
    (try simp only [Act.put]); (try simp only [List.setIfInBounds_toArray]); (try simp only [List.set_cons_succ]); (try simp only [List.set_cons_zero])
    refine wpAnyH_take (i := 14) (oi := ⟨_, _, _, _, _, _⟩) (v := ?_) rfl (by kernel_rfl) (by kernel_rfl) (by kernel_rfl) (fun _ _ _ h => h) (Or.inl ⟨by rfl, ?_⟩) (by assumption) ?_
    rotate_left 1
    · intro w hSw; (try dsimp only at hSw); go_simp <;> with_reducible rfl
    (try simp only [Act.put]); (try simp only [List.setIfInBounds_toArray]); (try simp only [List.set_cons_succ]); (try simp only [List.set_cons_zero])
    refine wpAnyH_take (i := 15) (oi := ⟨_, _, _, _, _, _⟩) (v := ?_) rfl (by kernel_rfl) (by kernel_rfl) (by kernel_rfl) (fun _ _ _ h => h) (Or.inl ⟨by rfl, ?_⟩) (by assumption) ?_
    rotate_left 1
    · intro w hSw; (try dsimp only at hSw); go_simp <;> with_reducible rfl
    (try simp only [Act.put]); (try simp only [List.setIfInBounds_toArray]); (try simp only [List.set_cons_succ]); (try simp only [List.set_cons_zero])
    refine wpAnyH_take (i := 16) (oi := ⟨_, _, _, _, _, _⟩) (v := ?_) rfl (by kernel_rfl) (by kernel_rfl) (by kernel_rfl) (fun _ _ _ h => h) (Or.inl ⟨by rfl, ?_⟩) (by assumption) ?_
    rotate_left 1
    · intro w hSw; (try dsimp only at hSw); go_simp <;> with_reducible rfl
    (try simp only [Act.put]); (try simp only [List.setIfInBounds_toArray]); (try simp only [List.set_cons_succ]); (try simp only [List.set_cons_zero])
    refine wpAnyH_take (i := 17) (oi := ⟨_, _, _, _, _, _⟩) (v := ?_) rfl (by kernel_rfl) (by kernel_rfl) (by kernel_rfl) (fun _ _ _ h => h) (Or.inl ⟨by rfl, ?_⟩) (by assumption) ?_
    rotate_left 1
    · intro w hSw; (try dsimp only at hSw); go_simp <;> with_reducible rfl
    (try simp only [Act.put]); (try simp only [List.setIfInBounds_toArray]); (try simp only [List.set_cons_succ]); (try simp only [List.set_cons_zero])
    refine wpAnyH_take (i := 18) (oi := ⟨_, _, _, _, _, _⟩) (v := ?_) rfl (by kernel_rfl) (by kernel_rfl) (by kernel_rfl) (fun _ _ _ h => h) (Or.inl ⟨by rfl, ?_⟩) (by assumption) ?_
    rotate_left 1
    · intro w hSw; (try dsimp only at hSw); go_simp <;> with_reducible rfl
    (try simp only [Act.put]); (try simp only [List.setIfInBounds_toArray]); (try simp only [List.set_cons_succ]); (try simp only [List.set_cons_zero])
    refine wpAnyH_take (i := 19) (oi := ⟨_, _, _, _, _, _⟩) (v := ?_) rfl (by kernel_rfl) (by kernel_rfl) (by kernel_rfl) (fun _ _ _ h => h) (Or.inl ⟨by rfl, ?_⟩) (by assumption) ?_
    rotate_left 1
    · intro w hSw; (try dsimp only at hSw); go_simp <;> with_reducible rfl
    (try simp only [Act.put]); (try simp only [List.setIfInBounds_toArray]); (try simp only [List.set_cons_succ]); (try simp only [List.set_cons_zero])
    refine wpAnyH_take (i := 20) (oi := ⟨_, _, _, _, _, _⟩) (v := ?_) rfl (by kernel_rfl) (by kernel_rfl) (by kernel_rfl) (fun _ _ _ h => h) (Or.inl ⟨by rfl, ?_⟩) (by assumption) ?_
    rotate_left 1
    · intro w hSw; (try dsimp only at hSw); go_simp <;> with_reducible rfl
    (try simp only [Act.put]); (try simp only [List.setIfInBounds_toArray]); (try simp only [List.set_cons_succ]); (try simp only [List.set_cons_zero])
    refine wpAnyH_take (i := 21) (oi := ⟨_, _, _, _, _, _⟩) (v := ?_) rfl (by kernel_rfl) (by kernel_rfl) (by kernel_rfl) (fun _ _ _ h => h) (Or.inl ⟨by rfl, ?_⟩) (by assumption) ?_
    rotate_left 1
    · intro w hSw; (try dsimp only at hSw); go_simp <;> with_reducible rfl
    (try simp only [Act.put]); (try simp only [List.setIfInBounds_toArray]); (try simp only [List.set_cons_succ]); (try simp only [List.set_cons_zero])
    refine wpAnyH_take (i := 22) (oi := ⟨_, _, _, _, _, _⟩) (v := ?_) rfl (by kernel_rfl) (by kernel_rfl) (by kernel_rfl) (fun _ _ _ h => h) (Or.inl ⟨by rfl, ?_⟩) (by assumption) ?_
    rotate_left 1
    · intro w hSw; (try dsimp only at hSw); go_simp <;> with_reducible rfl
    (try simp only [Act.put]); (try simp only [List.setIfInBounds_toArray]); (try simp only [List.set_cons_succ]); (try simp only [List.set_cons_zero])
    refine wpAnyH_ready (rs := [23, 27]) (by kernel_rfl) (by simp) ?_
    refine AllReadyH.cons (o := ⟨_, _, _, _, _, _⟩) rfl (fun K hK => ?_) (AllReadyH.cons (o := ⟨_, _, _, _, _, _⟩) rfl (fun K hK => ?_) AllReadyH.nil)
    · go_simp
      refine (H54.out _ J).mono ?_
      rintro e V1 ⟨z', uo, rfl, e1, hN, hu⟩
      have HE1 := Lib.hid e1
      clear e1
      have kk := hu.2
      replace hu := hu.since J
      replace J := J.trans kk
      replace hR := hR.keep kk
      replace hbox := hbox.keep kk
      clear kk
      refine hK.out _ _ ?_ (fun hHeld => ?_)
      · exact ⟨hR.box.cell 0 rfl, hR.box.cell 1 rfl, hR.box.cell 5 rfl, hbox.cell 0 rfl, hbox.cell 1 rfl, hbox.cell 2 rfl, hbox.cell 3 rfl, HAT.out _ hR.own⟩
      clear hK K
      (try simp only [Act.put]); (try simp only [List.setIfInBounds_toArray]); (try simp only [List.set_cons_succ]); (try simp only [List.set_cons_zero])
      refine wpAnyH_take (i := 24) (oi := ⟨_, _, _, _, _, _⟩) (v := ?_) rfl (by kernel_rfl) (by kernel_rfl) (by kernel_rfl) (fun _ _ _ h => h) (Or.inl ⟨by rfl, ?_⟩) (by assumption) ?_
      rotate_left 1
      · intro w hSw; (try dsimp only at hSw); go_simp <;> with_reducible rfl
      (try simp only [Act.put]); (try simp only [List.setIfInBounds_toArray]); (try simp only [List.set_cons_succ]); (try simp only [List.set_cons_zero])
      refine wpAnyH_take (i := 25) (oi := ⟨_, _, _, _, _, _⟩) (v := ?_) rfl (by kernel_rfl) (by kernel_rfl) (by kernel_rfl) (fun _ _ _ h => h) (Or.inl ⟨by rfl, ?_⟩) (by assumption) ?_
      rotate_left 1
      · intro w hSw; (try dsimp only at hSw); go_simp <;> with_reducible rfl
      (try simp only [Act.put]); (try simp only [List.setIfInBounds_toArray]); (try simp only [List.set_cons_succ]); (try simp only [List.set_cons_zero])
      refine wpAnyH_take (i := 26) (oi := ⟨_, _, _, _, _, _⟩) (v := ?_) rfl (by kernel_rfl) (by kernel_rfl) (by kernel_rfl) (fun _ _ _ h => h) (Or.inl ⟨by rfl, ?_⟩) (by assumption) ?_
      rotate_left 1
      · intro w hSw; (try dsimp only at hSw); go_simp <;> with_reducible rfl
      (try simp only [Act.put]); (try simp only [List.setIfInBounds_toArray]); (try simp only [List.set_cons_succ]); (try simp only [List.set_cons_zero])
      refine wpAnyH_ready (rs := [27]) (by kernel_rfl) (by simp) ?_
      refine AllReadyH.cons (o := ⟨_, _, _, _, _, _⟩) rfl (fun K hK => ?_) AllReadyH.nil
      go_simp
      have h5 := Blk.new V1 153 #[.int .i64 0, .string ⟨#[]⟩, .bool false, .string ⟨#[]⟩, .bool false, .string ⟨#[]⟩, .bool false, .slice none 0 0, .slice none 0 0]
      have kA := (Keeps.refl V1).alloc (.cells #[.int .i64 0, .string ⟨#[]⟩, .bool false, .string ⟨#[]⟩, .bool false, .string ⟨#[]⟩, .bool false, .slice none 0 0, .slice none 0 0] 153)
      replace hR := hR.keep kA
      replace hbox := hbox.keep kA
      replace hu := hu.keep kA
      replace hN := hN.tyf (.of kA)
      obtain ⟨C2, hC2⟩ : ∃ C, C = V1.heap.size := ⟨_, rfl⟩
      rw [← hC2] at h5 ⊢
      have HL2 : Hid (W3.heap.size ≤ C2) := Lib.hid (by rw [hC2]; exact J.size)
      replace J := J.trans kA
      clear kA hC2
      generalize V1.alloc (.cells #[.int .i64 0, .string ⟨#[]⟩, .bool false, .string ⟨#[]⟩, .bool false, .string ⟨#[]⟩, .bool false, .slice none 0 0, .slice none 0 0] 153) = V2 at *
      refine hK.out _ _ ?_ (fun hHeld => ?_)
      · exact ⟨hR.box.cell 0 rfl, hR.box.cell 1 rfl, hR.box.cell 5 rfl, hbox.cell 0 rfl, hbox.cell 1 rfl, hbox.cell 2 rfl, hbox.cell 3 rfl, HAT.out _ hR.own⟩
      clear hK K
      (try simp only [Act.put]); (try simp only [List.setIfInBounds_toArray]); (try simp only [List.set_cons_succ]); (try simp only [List.set_cons_zero])
      refine wpAnyH_ready (rs := [28]) (by kernel_rfl) (by simp) ?_
      refine AllReadyH.cons (o := ⟨_, _, _, _, _, _⟩) rfl (fun K hK => ?_) AllReadyH.nil
      obtain ⟨c0, c1, c2, c3, c4, c5, c6, c7, c8⟩ := Blk.c9 h5
      obtain ⟨g0, g1, g2, g3, g4, g5, g6, g7, g8⟩ := Blk.f9 h5
      go_simp
      clear c0 c1 c2 c3 c4 c5 c6 c7 c8 g0 g1 g2 g3 g4 g5 g6 g7 g8
      replace hu := own_other9 hu h5 (by decide) HL2.out (.int .i64 z'.x.id) (.string z'.x.echoed) (.bool z'.x.hasE) (.string z'.x.readied) (.bool z'.x.hasR) (.string z'.x.delivered) (.bool z'.x.hasD) (.slice z'.ae z'.x.echoes.length z'.ce) (.slice z'.ar z'.x.readies.length z'.cr)
      replace hN := nok_set9 hN h5 (by decide) (.int .i64 z'.x.id) (.string z'.x.echoed) (.bool z'.x.hasE) (.string z'.x.readied) (.bool z'.x.hasR) (.string z'.x.delivered) (.bool z'.x.hasD) (.slice z'.ae z'.x.echoes.length z'.ce) (.slice z'.ar z'.x.readies.length z'.cr)
      replace J := keeps_set9 J HL2.out (.int .i64 z'.x.id) (.string z'.x.echoed) (.bool z'.x.hasE) (.string z'.x.readied) (.bool z'.x.hasR) (.string z'.x.delivered) (.bool z'.x.hasD) (.slice z'.ae z'.x.echoes.length z'.ce) (.slice z'.ar z'.x.readies.length z'.cr)
      replace h5 := h5.set9 (.int .i64 z'.x.id) (.string z'.x.echoed) (.bool z'.x.hasE) (.string z'.x.readied) (.bool z'.x.hasR) (.string z'.x.delivered) (.bool z'.x.hasD) (.slice z'.ae z'.x.echoes.length z'.ce) (.slice z'.ar z'.x.readies.length z'.cr)
      replace hR := HR3.out.keep J
      replace hbox := HX3.out.keep J
      generalize (((((((((V2.setCell ⟨C2, 0, none⟩ (.int .i64 z'.x.id)).setCell ⟨C2, 1, none⟩ (.string z'.x.echoed)).setCell ⟨C2, 2, none⟩ (.bool z'.x.hasE)).setCell ⟨C2, 3, none⟩ (.string z'.x.readied)).setCell ⟨C2, 4, none⟩ (.bool z'.x.hasR)).setCell ⟨C2, 5, none⟩ (.string z'.x.delivered)).setCell ⟨C2, 6, none⟩ (.bool z'.x.hasD)).setCell ⟨C2, 7, none⟩ (.slice z'.ae z'.x.echoes.length z'.ce)).setCell ⟨C2, 8, none⟩ (.slice z'.ar z'.x.readies.length z'.cr)) = V9 at *
      refine hK.out _ _ ?_ (fun hHeld => ?_)
      · exact ⟨hR.box.cell 0 rfl, hR.box.cell 1 rfl, hR.box.cell 5 rfl, hbox.cell 0 rfl, hbox.cell 1 rfl, hbox.cell 2 rfl, hbox.cell 3 rfl, HAT.out _ hR.own⟩
      clear hK K
      (try simp only [Act.put]); (try simp only [List.setIfInBounds_toArray]); (try simp only [List.set_cons_succ]); (try simp only [List.set_cons_zero])
      refine wpAnyH_take (i := 29) (oi := ⟨_, _, _, _, _, _⟩) (v := ?_) rfl (by kernel_rfl) (by kernel_rfl) (by kernel_rfl) (fun _ _ _ h => h) (Or.inl ⟨by rfl, ?_⟩) (by assumption) ?_
      rotate_left 1
      · intro w hSw; (try dsimp only at hSw); go_simp <;> with_reducible rfl
      (try simp only [Act.put]); (try simp only [List.setIfInBounds_toArray]); (try simp only [List.set_cons_succ]); (try simp only [List.set_cons_zero])
      refine wpAnyH_done (by kernel_rfl) ?_ _
      go_wp2_with fail
      go_meet
      case rel => exact ⟨z', C2, rfl, HL2.out, h5, HE1.out, hN, hu⟩
    · go_simp
      have h5 := Blk.new V0 153 #[.int .i64 0, .string ⟨#[]⟩, .bool false, .string ⟨#[]⟩, .bool false, .string ⟨#[]⟩, .bool false, .slice none 0 0, .slice none 0 0]
      have kA := (Keeps.refl V0).alloc (.cells #[.int .i64 0, .string ⟨#[]⟩, .bool false, .string ⟨#[]⟩, .bool false, .string ⟨#[]⟩, .bool false, .slice none 0 0, .slice none 0 0] 153)
      replace hR := hR.keep kA
      replace hbox := hbox.keep kA
      obtain ⟨C2, hC2⟩ : ∃ C, C = V0.heap.size := ⟨_, rfl⟩
      rw [← hC2] at h5 ⊢
      have HL2 : Hid (W3.heap.size ≤ C2) := Lib.hid (by rw [hC2]; exact J.size)
      replace J := J.trans kA
      clear kA hC2
      generalize V0.alloc (.cells #[.int .i64 0, .string ⟨#[]⟩, .bool false, .string ⟨#[]⟩, .bool false, .string ⟨#[]⟩, .bool false, .slice none 0 0, .slice none 0 0] 153) = V1 at *
      refine hK.out _ _ ?_ (fun hHeld => ?_)
      · exact ⟨hR.box.cell 0 rfl, hR.box.cell 1 rfl, hR.box.cell 5 rfl, hbox.cell 0 rfl, hbox.cell 1 rfl, hbox.cell 2 rfl, hbox.cell 3 rfl, HAT.out _ hR.own⟩
      clear hK K
      (try simp only [Act.put]); (try simp only [List.setIfInBounds_toArray]); (try simp only [List.set_cons_succ]); (try simp only [List.set_cons_zero])
      refine wpAnyH_ready (rs := [23]) (by kernel_rfl) (by simp) ?_
      refine AllReadyH.cons (o := ⟨_, _, _, _, _, _⟩) rfl (fun K hK => ?_) AllReadyH.nil
      go_simp
      refine (H54.out _ J).mono ?_
      rintro e V2 ⟨z', uo, rfl, e1, hN, hu⟩
      have HE1 := Lib.hid e1
      clear e1
      have kk := hu.2
      replace hu := hu.since J
      replace J := J.trans kk
      replace hR := hR.keep kk
      replace hbox := hbox.keep kk
      replace h5 := h5.keep kk
      clear kk
      refine hK.out _ _ ?_ (fun hHeld => ?_)
      · exact ⟨hR.box.cell 0 rfl, hR.box.cell 1 rfl, hR.box.cell 5 rfl, hbox.cell 0 rfl, hbox.cell 1 rfl, hbox.cell 2 rfl, hbox.cell 3 rfl, HAT.out _ hR.own⟩
      clear hK K
      (try simp only [Act.put]); (try simp only [List.setIfInBounds_toArray]); (try simp only [List.set_cons_succ]); (try simp only [List.set_cons_zero])
      refine wpAnyH_take (i := 24) (oi := ⟨_, _, _, _, _, _⟩) (v := ?_) rfl (by kernel_rfl) (by kernel_rfl) (by kernel_rfl) (fun _ _ _ h => h) (Or.inl ⟨by rfl, ?_⟩) (by assumption) ?_
      rotate_left 1
      · intro w hSw; (try dsimp only at hSw); go_simp <;> with_reducible rfl
      (try simp only [Act.put]); (try simp only [List.setIfInBounds_toArray]); (try simp only [List.set_cons_succ]); (try simp only [List.set_cons_zero])
      refine wpAnyH_take (i := 25) (oi := ⟨_, _, _, _, _, _⟩) (v := ?_) rfl (by kernel_rfl) (by kernel_rfl) (by kernel_rfl) (fun _ _ _ h => h) (Or.inl ⟨by rfl, ?_⟩) (by assumption) ?_
      rotate_left 1
      · intro w hSw; (try dsimp only at hSw); go_simp <;> with_reducible rfl
      (try simp only [Act.put]); (try simp only [List.setIfInBounds_toArray]); (try simp only [List.set_cons_succ]); (try simp only [List.set_cons_zero])
      refine wpAnyH_take (i := 26) (oi := ⟨_, _, _, _, _, _⟩) (v := ?_) rfl (by kernel_rfl) (by kernel_rfl) (by kernel_rfl) (fun _ _ _ h => h) (Or.inl ⟨by rfl, ?_⟩) (by assumption) ?_
      rotate_left 1
      · intro w hSw; (try dsimp only at hSw); go_simp <;> with_reducible rfl
      (try simp only [Act.put]); (try simp only [List.setIfInBounds_toArray]); (try simp only [List.set_cons_succ]); (try simp only [List.set_cons_zero])
      refine wpAnyH_ready (rs := [28]) (by kernel_rfl) (by simp) ?_
      refine AllReadyH.cons (o := ⟨_, _, _, _, _, _⟩) rfl (fun K hK => ?_) AllReadyH.nil
      obtain ⟨c0, c1, c2, c3, c4, c5, c6, c7, c8⟩ := Blk.c9 h5
      obtain ⟨g0, g1, g2, g3, g4, g5, g6, g7, g8⟩ := Blk.f9 h5
      go_simp
      clear c0 c1 c2 c3 c4 c5 c6 c7 c8 g0 g1 g2 g3 g4 g5 g6 g7 g8
      replace hu := own_other9 hu h5 (by decide) HL2.out (.int .i64 z'.x.id) (.string z'.x.echoed) (.bool z'.x.hasE) (.string z'.x.readied) (.bool z'.x.hasR) (.string z'.x.delivered) (.bool z'.x.hasD) (.slice z'.ae z'.x.echoes.length z'.ce) (.slice z'.ar z'.x.readies.length z'.cr)
      replace hN := nok_set9 hN h5 (by decide) (.int .i64 z'.x.id) (.string z'.x.echoed) (.bool z'.x.hasE) (.string z'.x.readied) (.bool z'.x.hasR) (.string z'.x.delivered) (.bool z'.x.hasD) (.slice z'.ae z'.x.echoes.length z'.ce) (.slice z'.ar z'.x.readies.length z'.cr)
      replace J := keeps_set9 J HL2.out (.int .i64 z'.x.id) (.string z'.x.echoed) (.bool z'.x.hasE) (.string z'.x.readied) (.bool z'.x.hasR) (.string z'.x.delivered) (.bool z'.x.hasD) (.slice z'.ae z'.x.echoes.length z'.ce) (.slice z'.ar z'.x.readies.length z'.cr)
      replace h5 := h5.set9 (.int .i64 z'.x.id) (.string z'.x.echoed) (.bool z'.x.hasE) (.string z'.x.readied) (.bool z'.x.hasR) (.string z'.x.delivered) (.bool z'.x.hasD) (.slice z'.ae z'.x.echoes.length z'.ce) (.slice z'.ar z'.x.readies.length z'.cr)
      replace hR := HR3.out.keep J
      replace hbox := HX3.out.keep J
      generalize (((((((((V2.setCell ⟨C2, 0, none⟩ (.int .i64 z'.x.id)).setCell ⟨C2, 1, none⟩ (.string z'.x.echoed)).setCell ⟨C2, 2, none⟩ (.bool z'.x.hasE)).setCell ⟨C2, 3, none⟩ (.string z'.x.readied)).setCell ⟨C2, 4, none⟩ (.bool z'.x.hasR)).setCell ⟨C2, 5, none⟩ (.string z'.x.delivered)).setCell ⟨C2, 6, none⟩ (.bool z'.x.hasD)).setCell ⟨C2, 7, none⟩ (.slice z'.ae z'.x.echoes.length z'.ce)).setCell ⟨C2, 8, none⟩ (.slice z'.ar z'.x.readies.length z'.cr)) = V9 at *
      refine hK.out _ _ ?_ (fun hHeld => ?_)
      · exact ⟨hR.box.cell 0 rfl, hR.box.cell 1 rfl, hR.box.cell 5 rfl, hbox.cell 0 rfl, hbox.cell 1 rfl, hbox.cell 2 rfl, hbox.cell 3 rfl, HAT.out _ hR.own⟩
      clear hK K
      (try simp only [Act.put]); (try simp only [List.setIfInBounds_toArray]); (try simp only [List.set_cons_succ]); (try simp only [List.set_cons_zero])
      refine wpAnyH_take (i := 29) (oi := ⟨_, _, _, _, _, _⟩) (v := ?_) rfl (by kernel_rfl) (by kernel_rfl) (by kernel_rfl) (fun _ _ _ h => h) (Or.inl ⟨by rfl, ?_⟩) (by assumption) ?_
      rotate_left 1
      · intro w hSw; (try dsimp only at hSw); go_simp <;> with_reducible rfl
      (try simp only [Act.put]); (try simp only [List.setIfInBounds_toArray]); (try simp only [List.set_cons_succ]); (try simp only [List.set_cons_zero])
      refine wpAnyH_done (by kernel_rfl) ?_ _
      go_wp2_with fail
      go_meet
      case rel => exact ⟨z', C2, rfl, HL2.out, h5, HE1.out, hN, hu⟩
  case rest =>
    obtain ⟨z', C2, rfl, hC2, h5, HE1, hN, hu⟩ := hcut
    have hR := HR3.out.keep hu.2
    have hbox := HX3.out.keep hu.2
    have HFR := Lib.hid (fun (W : World) (h : Own 153 9 w0 W (.slice (some ⟨gn, 0, none⟩) nas.length nc) nas.length (nl nas)) => node_fz h d)
    have HGN := Lib.hid (Nat.lt_of_lt_of_le (HR3.out.own.1.lt gn rfl).2 hC2)
    clear H54 HR3 HX3 hC2
    obtain ⟨no, hno⟩ : ∃ l, l = (handle f b z.x c.src c.kind c.v).2 := ⟨_, rfl⟩
    have HOL := Lib.hid (show no.length ≤ 2 by rw [hno]; exact handle_out _ _ _ _ _ _)
    rw [← hno] at hu
    have HNO := Lib.hid hno
    clear hno
    obtain ⟨ao, co, rfl, _⟩ := hu.rd
    go_upto_region 3 with fail
    have kD := (Keeps.refl wc).drew
    replace hR := hR.keep kD
    replace hbox := hbox.keep kD
    replace h5 := h5.keep kD
    replace hu := hu.keep kD
    replace hN := hN.tyf (.of kD)
    clear kD
    have hbB := hR.box
    refine wp_region_held_drew (S := (fun w' => w'.cell? ⟨B, 5, none⟩ = some (.slice (some ⟨gn, 0, none⟩) nas.length nc) ∧ w'.cell? ⟨C1, 2, none⟩ = some (.int .i64 d) ∧ w'.cell? ⟨C2, 0, none⟩ = some (.int .i64 z'.x.id) ∧ w'.cell? ⟨C2, 1, none⟩ = some (.string z'.x.echoed) ∧ w'.cell? ⟨C2, 2, none⟩ = some (.bool z'.x.hasE) ∧ w'.cell? ⟨C2, 3, none⟩ = some (.string z'.x.readied) ∧ w'.cell? ⟨C2, 4, none⟩ = some (.bool z'.x.hasR) ∧ w'.cell? ⟨C2, 5, none⟩ = some (.string z'.x.delivered) ∧ w'.cell? ⟨C2, 6, none⟩ = some (.bool z'.x.hasD) ∧ w'.cell? ⟨C2, 7, none⟩ = some (.slice z'.ae z'.x.echoes.length z'.ce) ∧ w'.cell? ⟨C2, 8, none⟩ = some (.slice z'.ar z'.x.readies.length z'.cr))) (by kernel_rfl) ?_ (fun hHeld => ?_)
    · exact ⟨hbB.cell 5 rfl, hbox.cell 2 rfl, h5.cell 0 rfl, h5.cell 1 rfl, h5.cell 2 rfl, h5.cell 3 rfl, h5.cell 4 rfl, h5.cell 5 rfl, h5.cell 6 rfl, h5.cell 7 rfl, h5.cell 8 rfl⟩
    generalize wc.drew = U0 at *
    refine wpAnyH_take (i := 0) (oi := ⟨_, _, _, _, _, _⟩) (v := ?_) rfl (by kernel_rfl) (by kernel_rfl) (by kernel_rfl) (fun _ _ _ h => h) (Or.inl ⟨by rfl, ?_⟩) (by assumption) ?_
    rotate_left 1
    · intro w hSw; (try dsimp only at hSw); go_simp <;> with_reducible rfl
    (try simp only [Act.put]); (try simp only [List.setIfInBounds_toArray]); (try simp only [List.set_cons_succ]); (try simp only [List.set_cons_zero])
    refine wpAnyH_take (i := 1) (oi := ⟨_, _, _, _, _, _⟩) (v := ?_) rfl (by kernel_rfl) (by kernel_rfl) (by kernel_rfl) (fun _ _ _ h => h) (Or.inl ⟨by rfl, ?_⟩) (by assumption) ?_
    rotate_left 1
    · intro w hSw; (try dsimp only at hSw); go_simp <;> with_reducible rfl
    (try simp only [Act.put]); (try simp only [List.setIfInBounds_toArray]); (try simp only [List.set_cons_succ]); (try simp only [List.set_cons_zero])
    refine wpAnyH_take (i := 2) (oi := ⟨_, _, _, _, _, _⟩) (v := ?_) rfl (by kernel_rfl) (by kernel_rfl) (by kernel_rfl) (fun _ _ _ h => h) (Or.inl ⟨by rfl, ?_⟩) (by assumption) ?_
    rotate_left 1
    · intro w hSw; (try dsimp only at hSw); go_simp <;> with_reducible rfl
    (try simp only [Act.put]); (try simp only [List.setIfInBounds_toArray]); (try simp only [List.set_cons_succ]); (try simp only [List.set_cons_zero])
    refine wpAnyH_take (i := 3) (oi := ⟨_, _, _, _, _, _⟩) (v := ?_) rfl (by kernel_rfl) (by kernel_rfl) (by kernel_rfl) (fun _ _ _ h => h) (Or.inl ⟨by rfl, ?_⟩) (by assumption) ?_
    rotate_left 1
    · intro w hSw; (try dsimp only at hSw); go_simp <;> with_reducible rfl
    (try simp only [Act.put]); (try simp only [List.setIfInBounds_toArray]); (try simp only [List.set_cons_succ]); (try simp only [List.set_cons_zero])
    refine wpAnyH_take (i := 4) (oi := ⟨_, _, _, _, _, _⟩) (v := ?_) rfl (by kernel_rfl) (by kernel_rfl) (by kernel_rfl) (fun _ _ _ h => h) (Or.inl ⟨by rfl, ?_⟩) (by assumption) ?_
    rotate_left 1
    · intro w hSw; (try dsimp only at hSw); go_simp <;> with_reducible rfl
    (try simp only [Act.put]); (try simp only [List.setIfInBounds_toArray]); (try simp only [List.set_cons_succ]); (try simp only [List.set_cons_zero])
    refine wpAnyH_take (i := 5) (oi := ⟨_, _, _, _, _, _⟩) (v := ?_) rfl (by kernel_rfl) (by kernel_rfl) (by kernel_rfl) (fun _ _ _ h => h) (Or.inl ⟨by rfl, ?_⟩) (by assumption) ?_
    rotate_left 1
    · intro w hSw; (try dsimp only at hSw); go_simp <;> with_reducible rfl
    (try simp only [Act.put]); (try simp only [List.setIfInBounds_toArray]); (try simp only [List.set_cons_succ]); (try simp only [List.set_cons_zero])
    refine wpAnyH_take (i := 6) (oi := ⟨_, _, _, _, _, _⟩) (v := ?_) rfl (by kernel_rfl) (by kernel_rfl) (by kernel_rfl) (fun _ _ _ h => h) (Or.inl ⟨by rfl, ?_⟩) (by assumption) ?_
    rotate_left 1
    · intro w hSw; (try dsimp only at hSw); go_simp <;> with_reducible rfl
    (try simp only [Act.put]); (try simp only [List.setIfInBounds_toArray]); (try simp only [List.set_cons_succ]); (try simp only [List.set_cons_zero])
    refine wpAnyH_take (i := 7) (oi := ⟨_, _, _, _, _, _⟩) (v := ?_) rfl (by kernel_rfl) (by kernel_rfl) (by kernel_rfl) (fun _ _ _ h => h) (Or.inl ⟨by rfl, ?_⟩) (by assumption) ?_
    rotate_left 1
    · intro w hSw; (try dsimp only at hSw); go_simp <;> with_reducible rfl
    (try simp only [Act.put]); (try simp only [List.setIfInBounds_toArray]); (try simp only [List.set_cons_succ]); (try simp only [List.set_cons_zero])
    refine wpAnyH_take (i := 8) (oi := ⟨_, _, _, _, _, _⟩) (v := ?_) rfl (by kernel_rfl) (by kernel_rfl) (by kernel_rfl) (fun _ _ _ h => h) (Or.inl ⟨by rfl, ?_⟩) (by assumption) ?_
    rotate_left 1
    · intro w hSw; (try dsimp only at hSw); go_simp <;> with_reducible rfl
    (try simp only [Act.put]); (try simp only [List.setIfInBounds_toArray]); (try simp only [List.set_cons_succ]); (try simp only [List.set_cons_zero])
    refine wpAnyH_ready (rs := [9]) (by kernel_rfl) (by simp) ?_
    refine AllReadyH.cons (o := ⟨_, _, _, _, _, _⟩) rfl (fun K hK => ?_) AllReadyH.nil
    obtain ⟨p0, p1, p2, p3, p4, p5, p6, p7, p8⟩ := HAT.out _ hR.own
    obtain ⟨q0, q1, q2, q3, q4, q5, q6, q7, q8⟩ := HFR.out _ hR.own
    go_simp
    clear p0 p1 p2 p3 p4 p5 p6 p7 p8 q0 q1 q2 q3 q4 q5 q6 q7 q8
    have hgr9 := grown9n U0 gn (d * 9) (.int .i64 z'.x.id) (.string z'.x.echoed) (.bool z'.x.hasE) (.string z'.x.readied) (.bool z'.x.hasR) (.string z'.x.delivered) (.bool z'.x.hasD) (.slice z'.ae z'.x.echoes.length z'.ce) (.slice z'.ar z'.x.readies.length z'.cr)
    have hur := hu.1.kept hgr9 (row_ne hu.1 hR.own.1 (by decide))
    have hFw : TyF W3 U0 := .of hu.2
    have hnd := hR.node z' d hd2 hN
    replace hbox := blk_grown9 hbox hgr9 (blk_ne hbox hR.own.1 (by decide))
    replace h5 := blk_grown9 h5 hgr9 (by intro e; injection e with e; have := HGN.out; omega)
    obtain ⟨hR, hF4⟩ := hnd
    replace hbB := hR.box
    clear hgr9 hu
    generalize (((((((((U0.setCell ⟨gn, d * 9, none⟩ (.int .i64 z'.x.id)).setCell ⟨gn, d * 9 + 1, none⟩ (.string z'.x.echoed)).setCell ⟨gn, d * 9 + 2, none⟩ (.bool z'.x.hasE)).setCell ⟨gn, d * 9 + 3, none⟩ (.string z'.x.readied)).setCell ⟨gn, d * 9 + 4, none⟩ (.bool z'.x.hasR)).setCell ⟨gn, d * 9 + 5, none⟩ (.string z'.x.delivered)).setCell ⟨gn, d * 9 + 6, none⟩ (.bool z'.x.hasD)).setCell ⟨gn, d * 9 + 7, none⟩ (.slice z'.ae z'.x.echoes.length z'.ce)).setCell ⟨gn, d * 9 + 8, none⟩ (.slice z'.ar z'.x.readies.length z'.cr)) = U1 at *
    refine hK.out _ _ ?_ (fun hHeld => ?_)
    · exact ⟨hbB.cell 5 rfl, hbox.cell 2 rfl, h5.cell 0 rfl, h5.cell 1 rfl, h5.cell 2 rfl, h5.cell 3 rfl, h5.cell 4 rfl, h5.cell 5 rfl, h5.cell 6 rfl, h5.cell 7 rfl, h5.cell 8 rfl⟩
    clear hK K
    (try simp only [Act.put]); (try simp only [List.setIfInBounds_toArray]); (try simp only [List.set_cons_succ]); (try simp only [List.set_cons_zero])
    refine wpAnyH_done (by kernel_rfl) ?_ _
    have hF := HF3.out.trans (hFw.trans hF4)
    clear hF4 hFw HF3 h5 hbox hN HAT HFR HNK
    have HFX := Lib.hid hF; have HRX := Lib.hid hR; have HUX := Lib.hid hur
    clear hF
    have hgsz : U1.heap.size = U1.heap.size := rfl
    have HGB := Lib.hid hgf3
    clear hgsz hgf3
    obtain ⟨m2, hm2⟩ : ∃ m, m = no.length := ⟨_, rfl⟩
    rw [← hm2] at hur ⊢
    have HM2 := Lib.hid hm2
    have hm2l : m2 ≤ 2 := by rw [hm2]; exact HOL.out
    clear hm2
    have HL1 : Hid ((fl.eraseIdx k).length ≤ 900000) := Lib.hid (by have := List.length_eraseIdx_le fl k; omega)
    go_wp2_with fail
    go_loopw [68] (fun v wr => ∃ (j : Nat) (gv' : Value), j ≤ m2 ∧ v = .int .i64 j ∧ RunW w0 wr B (.slice fa fm fc) (.slice ba bm bc) n byz source (.slice (some ⟨gn, 0, none⟩) nas.length nc) (nas.set d z') gv' (fl.eraseIdx k ++ (no.take j).flatMap (toAll n byz)) lv ls ∧ FrB (DF B (.slice (some ⟨gf, 0, none⟩) m1 cf)) U1 wr ∧ Hid (GvS U1.heap.size (.slice (some ⟨gf, 0, none⟩) m1 cf) gv')) (fun v _ => m2 - (RowKit.intOf v).toNat)
    case atStart => exact ⟨0, _, Nat.zero_le _, rfl, by simp only [List.take_zero, List.flatMap_nil, List.append_nil]; exact HRX.out, .refl _, Lib.hid (.refl _ _)⟩
    case round =>
      obtain ⟨j, gv', hj, rfl, hR2, hF2, HG⟩ := hrel
      by_cases hlt : j < m2
      · have hrow := ownsRow_frb HUX.out (fun i hi hD => by
          rcases hD with ⟨_, h⟩ | ⟨h, _⟩
          · exact absurd h (by decide)
          · have h : i = gf := by injection h
            have := HGB.out
            omega) hF2
        obtain ⟨a3, c3, e3, hrd⟩ := own_rd hrow
        injection e3 with e4 e5 e6
        subst e4 e6
        rw [← HM2.out] at hrd
        have hao := hrd.isSome (by omega)
        obtain ⟨p0, p1, p2, p3⟩ := cl_at hrd hlt
        have htk := take_ctA no j (by rw [← HM2.out]; exact hlt)
        have HTK := Lib.hid htk
        clear htk e5 hrow
        generalize ctA no j = o at *
        have kB := (Keeps.refl wr).alloc (.cells #[.int .i64 o.kind, .int .i64 o.src, .int .i64 o.dst, .string o.v] 145)
        have hfm := flatMap_len (no.take j) n byz
        have hlt2 : (no.take j).length ≤ 2 := by rw [List.length_take]; have := HOL.out; omega
        have hall := all39_any w0 _ B (.slice fa fm fc) (.slice ba bm bc) n byz source _ _ _ _ lv ls o hn (by
          rw [List.length_append]
          have h1 := HL1.out
          have h2 : n * (no.take j).length ≤ 16 * 2 := Nat.mul_le_mul hn hlt2
          omega) (hR2.keep kB)
        unfold vc at hall
        have HALL := Lib.hid hall; have HKB := Lib.hid kB; have HF2 := Lib.hid hF2
        clear hall kB hfm hlt2 hF2 hR2
        go_wp2_with fail
        refine HALL.out.mono ?_
        rintro e W5 ⟨rfl, gv2, hR3, hF3, hG3⟩
        have HR3 := Lib.hid hR3
        have hsz := HKB.out.size
        have HF3 := Lib.hid ((HF2.out.trans (.of HKB.out)).trans' hF3 (dfs HG.out))
        have HG3 := Lib.hid (HG.out.trans hG3 (Nat.le_trans HF2.out.1 hsz))
        clear hR3 hF3 hG3 hsz HALL HKB HF2 p0 p1 p2 p3 hrd hao
        go_wp2_with fail
        go_roundw
        case rel => exact ⟨j + 1, gv2, by omega, by go_num, by rw [HTK.out, List.flatMap_append, List.flatMap_singleton, ← List.append_assoc]; exact HR3.out, HF3.out, HG3⟩
        case measure => simp [RowKit.intOf]; omega
      · have e1 : j = no.length := by have := HM2.out; omega
        subst e1
        go_wp2_with fail
        go_end0
        rw [List.take_length] at hR2
        refine ⟨rfl, nas.set d z', gv', _, hR2, HFX.out.trans (DF.ty3 hF2), ?_⟩
        have e2 : (ndA ⟨nas.map NA.x, fl⟩ d) = z.x := by
          rw [← HHZ.out]
          simp [ndA, naA, List.getD, hd2]
        unfold deliv
        dsimp only
        rw [HC.out, HD1.out, Int.toNat_natCast, e2, ← HNO.out, ← HE1.out, List.map_set]
end Go.Proofs.YtijknodekomdfaaGreatDoor
