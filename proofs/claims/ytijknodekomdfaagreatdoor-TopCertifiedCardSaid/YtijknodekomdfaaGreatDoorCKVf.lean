/- Texts joined into one, what is needed of them (a program of ours). -/
import Derived.Test.YtijknodekomdfaaGreatDoorCKVe
namespace Go.Proofs.YtijknodekomdfaaGreatDoor
open Go.RowKit Go.Lib Go.Shelf

theorem StP.keeps {w0 w : World} {P : Nat} {u0 u1 u2 u3 : Value} {ns : List CH} (h : StP w0 P u0 u1 u2 u3 w ns) : Keeps w0 w := h.choose_spec.2.2
theorem resTree {fn : Func} {p u : Tmp} (h : fn.results = #[.cell p 126, .tmp u]) {tmps : Array Value} {W : World} {B : Nat} {a : Option Addr} {n c : Nat} {r : Int} {v : Value} (hB : Blk W B 126 #[.slice a n c, .int .i64 r])
    (tp : tmps.getD p undef = .pointer (some ⟨B, 0, none⟩)) (tu : tmps.getD u undef = v) :
    (results fn tmps).run Tryz.prog W = .ok (.tuple #[.agg #[.slice a n c, .int .i64 r], v]) W := by
  rw [results_cell_tmp h, tp, tu]
  obtain ⟨k0, k1⟩ := hB.x2
  simp [go_sem, asAddr, loadVar, loadCells, loadCellsFrom, k0, k1]
/-- what Prove came back with -/
def RetTr (w : World) (r : List CH × Nat × Bool) (e : Ending) (w' : World) : Prop :=
  Keeps w w' ∧ ∃ a n c q, e = .returned (.tuple #[.agg #[.slice a n c, .int .i64 ((q : Nat) : Int)], .int .i64 (if r.2.2 = true then 0 else 12)]) ∧ (r.2.2 = true → n = r.1.length ∧ q = r.2.1 ∧ Rd w' a r.1.length c 3 (chl r.1))
set_option maxRecDepth 20000 in
set_option maxHeartbeats 4000000 in
theorem prove_any {x y : List ND × Nat} {u v : Value} (b : S) (w : World) (hT : Tab w) (hx : HasX w x u) (hy : HasX w y v) (vx : VX x) (vy : VX y) (hL : small ((supX x.1 ||| supX y.1) &&& ~~~b)) :
    Calls Tryz.prog 73 #[u, v, .int .u16 (sv b)] w fun e w' => RetTr w (prv (holdsV x) (holdsV y) 12 [] 0#16 0#16 ((supX x.1 ||| supX y.1) &&& ~~~b)) e w' := by
  have h1 := fun W (k : Keeps w W) => twoX_any W (hx.keep k) (hy.keep k) vx vy
  have h3 := fun W (k : Keeps w W) => support20_any W (hx.keep k) vx
  have h4 := fun W (k : Keeps w W) => support20_any W (hy.keep k) vy
  have hpr := fun W (k : Keeps w W) (P : Nat) => @prove20_any W P x y
  obtain ⟨ax, cx, nes, rfl, ex1, ex2, ex3⟩ := id hx
  obtain ⟨ay, cy, mes, rfl, ey1, ey2, ey3⟩ := id hy
  clear ex1 ex2 ex3 ey1 ey2 ey3
  generalize nes.length = mx at *
  generalize mes.length = my at *
  generalize ((x.2 : Nat) : Int) = rx at *
  generalize ((y.2 : Nat) : Int) = ry at *
  have hpv := fun W (k : Keeps w W) (P : Nat) (W2 : World) (hPB : W.heap.size ≤ P) (hs : StP W P (.slice ax mx cx) (.int .i64 rx) (.slice ay my cy) (.int .i64 ry) W2 []) => prove20_any W P (hT.keep k) (hx.keep k) (hy.keep k) vx vy hPB 12 [] 0#16 0#16 ((supX x.1 ||| supX y.1) &&& ~~~b) W2 hL (memb_len12 _) hs (by decide)
  have z0 : sv (0#16) = 0 := rfl
  simp only [z0] at hpv
  generalize supX x.1 = sx at *
  generalize supX y.1 = sy at *
  obtain ⟨r, hr⟩ : ∃ r, r = prv (holdsV x) (holdsV y) 12 [] 0#16 0#16 ((sx ||| sy) &&& ~~~b) := ⟨_, rfl⟩
  rw [← hr]
  simp only [← hr] at hpv
  clear hr hpr z0
  have hs1 : ∀ o, (w.alloc o).heap.size = w.heap.size + 1 := fun o => World.size_alloc ..
  obtain ⟨WA, hWA⟩ : ∃ W, W = w.alloc (.cells #[.slice ax mx cx, .int .i64 rx] 121) := ⟨_, rfl⟩
  obtain ⟨WB, hWB⟩ : ∃ W, W = WA.alloc (.cells #[.slice ay my cy, .int .i64 ry] 121) := ⟨_, rfl⟩
  obtain ⟨W1, hW1⟩ : ∃ W, W = WB.alloc (.cells #[.slice none 0 0, .int .i64 0] 126) := ⟨_, rfl⟩
  have sA : WA.heap.size = w.heap.size + 1 := by rw [hWA, World.size_alloc]
  have sB : WB.heap.size = w.heap.size + 1 + 1 := by rw [hWB, World.size_alloc, sA]
  have kA : Keeps w WA := by rw [hWA]; exact (Keeps.refl _).alloc _
  have kB : Keeps WA WB := by rw [hWB]; exact (Keeps.refl _).alloc _
  have k1 : Keeps WB W1 := by rw [hW1]; exact (Keeps.refl _).alloc _
  have bx : Blk W1 w.heap.size 121 #[.slice ax mx cx, .int .i64 rx] := Blk.keep (by rw [hWA]; exact Blk.new _ _ _) (kB.trans k1)
  have by_ : Blk W1 (w.heap.size + 1) 121 #[.slice ay my cy, .int .i64 ry] := Blk.keep (by rw [← sA, hWB]; exact Blk.new _ _ _) k1
  have bt : Blk W1 (w.heap.size + 1 + 1) 126 #[.slice none 0 0, .int .i64 0] := by rw [← sB, hW1]; exact Blk.new _ _ _
  have hkw := (kA.trans kB).trans k1
  have H1 := Lib.hid h1; have H3 := Lib.hid h3; have H4 := Lib.hid h4; have HPV := Lib.hid hpv; have HBX := Lib.hid bx; have HBY := Lib.hid by_; have HBT := Lib.hid bt; have HKW0 := Lib.hid hkw
  have sA2 : (w.alloc (.cells #[.slice ax mx cx, .int .i64 rx] 121)).heap.size = w.heap.size + 1 := hs1 _
  clear h1 h3 h4 hpv hx hy vx vy hL sA sB kA kB k1 hkw hs1 hT
  go_enter Tryz.func73, Tryz.ntmps73
  go_upto_region 1 with fail
  rw [← hWA, ← hWB, ← hW1]
  clear hWA hWB hW1 sA2
  obtain ⟨c0, c1⟩ := bx.x2
  obtain ⟨c2, c3⟩ := by_.x2
  clear bx by_ bt
  go_wp2_with fail
  refine (H1.out W1 HKW0.out).mono ?_
  rintro e w1 ⟨rfl, K1⟩
  replace c0 := K1.cell c0; replace c1 := K1.cell c1; replace c2 := K1.cell c2; replace c3 := K1.cell c3
  have HX1 := Lib.hid (HBX.out.keep K1); have HY1 := Lib.hid (HBY.out.keep K1); have HT1 := Lib.hid (HBT.out.keep K1); have HKW := Lib.hid (HKW0.out.trans K1)
  clear HBX HBY HBT HKW0 K1
  go_wp2_with fail
  have kp := (Keeps.refl w1).alloc (.cells #[.slice ax mx cx, .int .i64 rx, .slice ay my cy, .int .i64 ry, .slice none 0 0] 198)
  have hst : StP w1 w1.heap.size (.slice ax mx cx) (.int .i64 rx) (.slice ay my cy) (.int .i64 ry) (w1.alloc (.cells #[.slice ax mx cx, .int .i64 rx, .slice ay my cy, .int .i64 ry, .slice none 0 0] 198)) [] := ⟨_, Blk.new _ _ _, Own.nil _ _ kp⟩
  have HPR := Lib.hid (fun W2 h => HPV.out w1 HKW.out w1.heap.size W2 (Nat.le_refl _) h)
  clear HPV c0 c1 c2 c3
  generalize w1.alloc (.cells #[.slice ax mx cx, .int .i64 rx, .slice ay my cy, .int .i64 ry, .slice none 0 0] 198) = W2 at *
  have HPL : Hid (w1.heap.size ≠ w.heap.size + 1 + 1) := Lib.hid (by have := HT1.out.lt; omega)
  generalize w1.heap.size = P at *
  have KX := Lib.hid kp
  have KQ := Lib.hid (Keeps.refl w1)
  have HX := HX1; have HY := HY1
  clear kp HX1 HY1
  have J := KX.out.trans ((Keeps.refl W2).drew)
  have HSX := Lib.hid (hst.keep ((Keeps.refl W2).drew))
  clear hst
  refine wp_region_held_drew (S := (fun w' => w'.cell? ⟨w.heap.size, 0, none⟩ = some (.slice ax mx cx) ∧ w'.cell? ⟨w.heap.size, 1, none⟩ = some (.int .i64 rx) ∧ w'.cell? ⟨w.heap.size + 1, 0, none⟩ = some (.slice ay my cy) ∧ w'.cell? ⟨w.heap.size + 1, 1, none⟩ = some (.int .i64 ry))) (by kernel_rfl) ?_ (fun hHeld => ?_)
  · exact ⟨(HX.out.keep J).cell 0 rfl, (HX.out.keep J).cell 1 rfl, (HY.out.keep J).cell 0 rfl, (HY.out.keep J).cell 1 rfl⟩
  generalize W2.drew = V0 at *
  refine wpAnyH_take (i := 0) (oi := ⟨_, _, _, _, _, _⟩) (v := ?_) rfl (by kernel_rfl) (by kernel_rfl) (by kernel_rfl) (fun _ _ _ h => h) (Or.inl ⟨by rfl, ?_⟩) (by assumption) ?_
  rotate_left 1
  · intro w hSw; (try dsimp only at hSw); go_simp <;> with_reducible rfl
  (try simp only [Act.put]); (try simp only [List.setIfInBounds_toArray]); (try simp only [List.set_cons_succ]); (try simp only [List.set_cons_zero])
  refine wpAnyH_take (i := 1) (oi := ⟨_, _, _, _, _, _⟩) (v := ?_) rfl (by kernel_rfl) (by kernel_rfl) (by kernel_rfl) (fun _ _ _ h => h) (Or.inl ⟨by rfl, ?_⟩) (by assumption) ?_
  rotate_left 1
  · intro w hSw; (try dsimp only at hSw); go_simp <;> with_reducible rfl
  (try simp only [Act.put]); (try simp only [List.setIfInBounds_toArray]); (try simp only [List.set_cons_succ]); (try simp only [List.set_cons_zero])
  refine wpAnyH_take (i := 3) (oi := ⟨_, _, _, _, _, _⟩) (v := ?_) rfl (by kernel_rfl) (by kernel_rfl) (by kernel_rfl) (fun _ _ _ h => h) (Or.inl ⟨by rfl, ?_⟩) (by assumption) ?_
  rotate_left 1
  · intro w hSw; (try dsimp only at hSw); go_simp <;> with_reducible rfl
  (try simp only [Act.put]); (try simp only [List.setIfInBounds_toArray]); (try simp only [List.set_cons_succ]); (try simp only [List.set_cons_zero])
  refine wpAnyH_take (i := 6) (oi := ⟨_, _, _, _, _, _⟩) (v := ?_) rfl (by kernel_rfl) (by kernel_rfl) (by kernel_rfl) (fun _ _ _ h => h) (Or.inl ⟨by rfl, ?_⟩) (by assumption) ?_
  rotate_left 1
  · intro w hSw; (try dsimp only at hSw); go_simp <;> with_reducible rfl
  (try simp only [Act.put]); (try simp only [List.setIfInBounds_toArray]); (try simp only [List.set_cons_succ]); (try simp only [List.set_cons_zero])
  refine wpAnyH_ready (rs := [2]) (by kernel_rfl) (by simp) ?_
  refine AllReadyH.cons (o := ⟨_, _, _, _, _, _⟩) rfl (fun K hK => ?_) AllReadyH.nil
  go_simp
  refine (H3.out V0 (HKW.out.trans J)).mono ?_
  rintro e V1 ⟨rfl, k1⟩
  replace J := J.trans k1
  have HSX1 := Lib.hid (HSX.out.keep k1)
  clear k1
  try go_wp2_with fail
  refine hK.out _ _ ?_ (fun hHeld => ?_)
  · exact ⟨(HX.out.keep J).cell 0 rfl, (HX.out.keep J).cell 1 rfl, (HY.out.keep J).cell 0 rfl, (HY.out.keep J).cell 1 rfl⟩
  clear hK K
  (try simp only [Act.put]); (try simp only [List.setIfInBounds_toArray]); (try simp only [List.set_cons_succ]); (try simp only [List.set_cons_zero])
  refine wpAnyH_ready (rs := [4]) (by kernel_rfl) (by simp) ?_
  refine AllReadyH.cons (o := ⟨_, _, _, _, _, _⟩) rfl (fun K hK => ?_) AllReadyH.nil
  go_simp
  refine (H4.out V1 (HKW.out.trans J)).mono ?_
  rintro e V2 ⟨rfl, k1⟩
  replace J := J.trans k1
  have HSX2 := Lib.hid (HSX1.out.keep k1)
  clear k1
  try go_wp2_with fail
  refine hK.out _ _ ?_ (fun hHeld => ?_)
  · exact ⟨(HX.out.keep J).cell 0 rfl, (HX.out.keep J).cell 1 rfl, (HY.out.keep J).cell 0 rfl, (HY.out.keep J).cell 1 rfl⟩
  clear hK K
  (try simp only [Act.put]); (try simp only [List.setIfInBounds_toArray]); (try simp only [List.set_cons_succ]); (try simp only [List.set_cons_zero])
  refine wpAnyH_take (i := 5) (oi := ⟨_, _, _, _, _, _⟩) (v := ?_) rfl (by kernel_rfl) (by kernel_rfl) (by kernel_rfl) (fun _ _ _ h => h) (Or.inl ⟨by rfl, ?_⟩) (by assumption) ?_
  rotate_left 1
  · intro w hSw; (try dsimp only at hSw); go_simp <;> with_reducible rfl
  (try simp only [Act.put]); (try simp only [List.setIfInBounds_toArray]); (try simp only [List.set_cons_succ]); (try simp only [List.set_cons_zero])
  refine wpAnyH_take (i := 7) (oi := ⟨_, _, _, _, _, _⟩) (v := ?_) rfl (by kernel_rfl) (by kernel_rfl) (by kernel_rfl) (fun _ _ _ h => h) (Or.inl ⟨by rfl, ?_⟩) (by assumption) ?_
  rotate_left 1
  · intro w hSw; (try dsimp only at hSw); go_simp <;> with_reducible rfl
  (try simp only [Act.put]); (try simp only [List.setIfInBounds_toArray]); (try simp only [List.set_cons_succ]); (try simp only [List.set_cons_zero])
  refine wpAnyH_ready (rs := [8]) (by kernel_rfl) (by simp) ?_
  refine AllReadyH.cons (o := ⟨_, _, _, _, _, _⟩) rfl (fun K hK => ?_) AllReadyH.nil
  go_simp
  refine (HPR.out V2 HSX2.out).mono ?_
  rintro e V3 ⟨rfl, hS3⟩
  replace J := KQ.out.trans hS3.keeps
  have HS3 := Lib.hid hS3
  clear hS3
  try go_wp2_with fail
  refine hK.out _ _ ?_ (fun hHeld => ?_)
  · exact ⟨(HX.out.keep J).cell 0 rfl, (HX.out.keep J).cell 1 rfl, (HY.out.keep J).cell 0 rfl, (HY.out.keep J).cell 1 rfl⟩
  clear hK K
  (try simp only [Act.put]); (try simp only [List.setIfInBounds_toArray]); (try simp only [List.set_cons_succ]); (try simp only [List.set_cons_zero])
  refine wpAnyH_take (i := 9) (oi := ⟨_, _, _, _, _, _⟩) (v := ?_) rfl (by kernel_rfl) (by kernel_rfl) (by kernel_rfl) (fun _ _ _ h => h) (Or.inl ⟨by rfl, ?_⟩) (by assumption) ?_
  rotate_left 1
  · intro w hSw; (try dsimp only at hSw); go_simp <;> with_reducible rfl
  (try simp only [Act.put]); (try simp only [List.setIfInBounds_toArray]); (try simp only [List.set_cons_succ]); (try simp only [List.set_cons_zero])
  refine wpAnyH_take (i := 10) (oi := ⟨_, _, _, _, _, _⟩) (v := ?_) rfl (by kernel_rfl) (by kernel_rfl) (by kernel_rfl) (fun _ _ _ h => h) (Or.inl ⟨by rfl, ?_⟩) (by assumption) ?_
  rotate_left 1
  · intro w hSw; (try dsimp only at hSw); go_simp <;> with_reducible rfl
  (try simp only [Act.put]); (try simp only [List.setIfInBounds_toArray]); (try simp only [List.set_cons_succ]); (try simp only [List.set_cons_zero])
  refine wpAnyH_take (i := 11) (oi := ⟨_, _, _, _, _, _⟩) (v := ?_) rfl (by kernel_rfl) (by kernel_rfl) (by kernel_rfl) (fun _ _ _ h => h) (Or.inl ⟨by rfl, ?_⟩) (by assumption) ?_
  rotate_left 1
  · intro w hSw; (try dsimp only at hSw); go_simp <;> with_reducible rfl
  (try simp only [Act.put]); (try simp only [List.setIfInBounds_toArray]); (try simp only [List.set_cons_succ]); (try simp only [List.set_cons_zero])
  refine wpAnyH_take (i := 12) (oi := ⟨_, _, _, _, _, _⟩) (v := ?_) rfl (by kernel_rfl) (by kernel_rfl) (by kernel_rfl) (fun _ _ _ h => h) (Or.inl ⟨by rfl, ?_⟩) (by assumption) ?_
  rotate_left 1
  · intro w hSw; (try dsimp only at hSw); go_simp <;> with_reducible rfl
  (try simp only [Act.put]); (try simp only [List.setIfInBounds_toArray]); (try simp only [List.set_cons_succ]); (try simp only [List.set_cons_zero])
  refine wpAnyH_take (i := 13) (oi := ⟨_, _, _, _, _, _⟩) (v := ?_) rfl (by kernel_rfl) (by kernel_rfl) (by kernel_rfl) (fun _ _ _ h => h) (Or.inl ⟨by rfl, ?_⟩) (by assumption) ?_
  rotate_left 1
  · intro w hSw; (try dsimp only at hSw); go_simp <;> with_reducible rfl
  (try simp only [Act.put]); (try simp only [List.setIfInBounds_toArray]); (try simp only [List.set_cons_succ]); (try simp only [List.set_cons_zero])
  refine wpAnyH_done (by kernel_rfl) ?_ _
  have hT2 := HT1.out.keep J
  obtain ⟨t0, t1⟩ := hT2.x2
  have f0 := hT2.frozen 0
  have f1 := hT2.frozen 1
  have HT2 := Lib.hid hT2
  have HJ := Lib.hid (HKW.out.trans J)
  clear hT2 J HX HY KX KQ HT1 HKW HSX HSX1 HSX2 H1 H3 H4 HPR
  obtain ⟨r1, r2, r3⟩ := r
  dsimp only at HS3 ⊢
  cases r3 with
  | false =>
    clear HS3
    go_wp2_with fail
    refine bodyPost_ret (resTree rfl ((HT2.out.set 0 (.slice none 0 0)).set 1 (.int .i64 0)) rfl rfl) rfl ?_
    exact ⟨keeps_set (keeps_set HJ.out (by omega) 0 _) (by omega) 1 _, none, 0, 0, 0, rfl, fun h => by cases h⟩
  | true =>
    obtain ⟨v, hP, hO⟩ := HS3.out
    obtain ⟨a9, c9, rfl, _⟩ := hO.rd
    have c4 : V3.cell? ⟨P, 4, none⟩ = some (.slice a9 r1.length c9) := hP.cell 4 rfl
    have ho := row_set (row_set hO.1 HT2.out (by decide) 0 (.slice a9 r1.length c9)) (HT2.out.set 0 (.slice a9 r1.length c9)) (by decide) 1 (.int .i64 r2)
    have HO := Lib.hid ho
    clear hP hO ho HS3
    go_wp2_with fail
    refine bodyPost_ret (resTree rfl ((HT2.out.set 0 (.slice a9 r1.length c9)).set 1 (.int .i64 r2)) rfl rfl) rfl ?_
    refine ⟨keeps_set (keeps_set HJ.out (by omega) 0 _) (by omega) 1 _, a9, r1.length, c9, r2, rfl, fun _ => ⟨rfl, rfl, ?_⟩⟩
    obtain ⟨a8, c8, e8, h8⟩ := own_rd HO.out
    cases e8
    exact h8
end Go.Proofs.YtijknodekomdfaaGreatDoor
