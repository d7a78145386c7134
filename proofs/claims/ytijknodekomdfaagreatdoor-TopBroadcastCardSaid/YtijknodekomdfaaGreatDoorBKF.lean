/- Texts joined into one, what is needed of them (a program of ours). -/
import Derived.Test.YtijknodekomdfaaGreatDoorBKE
import Derived.Deep.DeepCutAuto
import Derived.Laws.EntriesVeiled
namespace Go.Proofs.YtijknodekomdfaaGreatDoor
open Go.RowKit Go.Lib Go.Shelf

theorem frb_set9 {D : Nat → TypeId → Prop} {W : World} {B : Nat} {T : TypeId} {v0 v1 v2 v3 v4 v5 v6 v7 v8 : Value} (h : Blk W B T #[v0, v1, v2, v3, v4, v5, v6, v7, v8]) (hT : D B T) (u0 u1 u2 u3 u4 u5 u6 u7 u8 : Value) : FrB D W ((((((((((W.setCell ⟨B, 0, none⟩ (u0)).setCell ⟨B, 1, none⟩ (u1)).setCell ⟨B, 2, none⟩ (u2)).setCell ⟨B, 3, none⟩ (u3)).setCell ⟨B, 4, none⟩ (u4)).setCell ⟨B, 5, none⟩ (u5)).setCell ⟨B, 6, none⟩ (u6)).setCell ⟨B, 7, none⟩ (u7)).setCell ⟨B, 8, none⟩ (u8))) := by
  have h0 := h.set 0 u0; have h1 := h0.set 1 u1; have h2 := h1.set 2 u2; have h3 := h2.set 3 u3; have h4 := h3.set 4 u4; have h5 := h4.set 5 u5; have h6 := h5.set 6 u6; have h7 := h6.set 7 u7
  exact (((((((((FrB.set h hT 0 u0).trans (.set h0 hT 1 u1)).trans (.set h1 hT 2 u2)).trans (.set h2 hT 3 u3)).trans (.set h3 hT 4 u4)).trans (.set h4 hT 5 u5)).trans (.set h5 hT 6 u6)).trans (.set h6 hT 7 u7)).trans (.set h7 hT 8 u8))
theorem nok_set9 {W : World} {z : NA} (hN : NOk W z) {B : Nat} {T : TypeId} {v0 v1 v2 v3 v4 v5 v6 v7 v8 : Value} (h : Blk W B T #[v0, v1, v2, v3, v4, v5, v6, v7, v8]) (hT : T ≠ 156) (u0 u1 u2 u3 u4 u5 u6 u7 u8 : Value) : NOk ((((((((((W.setCell ⟨B, 0, none⟩ (u0)).setCell ⟨B, 1, none⟩ (u1)).setCell ⟨B, 2, none⟩ (u2)).setCell ⟨B, 3, none⟩ (u3)).setCell ⟨B, 4, none⟩ (u4)).setCell ⟨B, 5, none⟩ (u5)).setCell ⟨B, 6, none⟩ (u6)).setCell ⟨B, 7, none⟩ (u7)).setCell ⟨B, 8, none⟩ (u8))) z :=
  ⟨hN.1.frb (D := fun _ T => T ≠ 156) (fun _ h => h rfl) (frb_set9 h hT u0 u1 u2 u3 u4 u5 u6 u7 u8), hN.2.frb (D := fun _ T => T ≠ 156) (fun _ h => h rfl) (frb_set9 h hT u0 u1 u2 u3 u4 u5 u6 u7 u8)⟩
set_option maxRecDepth 20000 in
set_option maxHeartbeats 8000000 in
theorem handle39_any (a1 : Option Addr) (m1 c1 : Nat) (f : List S) (a2 : Option Addr) (m2 c2 : Nat) (b : List S) (z : NA) (src kind : Int) (v : Str) (w : World) (hf : Rd w a1 m1 c1 1 (sl f)) (hb : Rd w a2 m2 c2 1 (sl b))
    (hze : Rd w z.ae z.x.echoes.length z.ce 2 (hl z.x.echoes)) (hzr : Rd w z.ar z.x.readies.length z.cr 2 (hl z.x.readies)) (hs1 : z.x.echoes.length ≤ 1000) (hs2 : z.x.readies.length ≤ 1000) :
    Calls Tryz.prog 158 #[.slice a1 m1 c1, .slice a2 m2 c2, vn z, .int .i64 src, .int .i64 kind, .string v] w fun e w' => ∃ z' u, e = .returned (.tuple #[vn z', u]) ∧ z'.x = (handle f b z.x src kind v).1 ∧ NOk w' z' ∧
      Own 145 4 w w' u (handle f b z.x src kind v).2.length (cl (handle f b z.x src kind v).2) := by
  have hs : ∀ (W : World) o, (W.alloc o).heap.size = W.heap.size + 1 := fun W o => World.size_alloc ..
  have kz0 := (Keeps.refl w).alloc (.cells #[.int .i64 z.x.id, .string z.x.echoed, .bool z.x.hasE, .string z.x.readied, .bool z.x.hasR, .string z.x.delivered, .bool z.x.hasD, .slice z.ae z.x.echoes.length z.ce, .slice z.ar z.x.readies.length z.cr] 153)
  have kz1 := (Keeps.refl (w.alloc (.cells #[.int .i64 z.x.id, .string z.x.echoed, .bool z.x.hasE, .string z.x.readied, .bool z.x.hasR, .string z.x.delivered, .bool z.x.hasD, .slice z.ae z.x.echoes.length z.ce, .slice z.ar z.x.readies.length z.cr] 153))).alloc (.cells #[.string v] 9)
  have kz2 := (Keeps.refl ((w.alloc (.cells #[.int .i64 z.x.id, .string z.x.echoed, .bool z.x.hasE, .string z.x.readied, .bool z.x.hasR, .string z.x.delivered, .bool z.x.hasD, .slice z.ae z.x.echoes.length z.ce, .slice z.ar z.x.readies.length z.cr] 153)).alloc (.cells #[.string v] 9))).alloc (.cells #[.int .i64 0, .string ⟨#[]⟩, .bool false, .string ⟨#[]⟩, .bool false, .string ⟨#[]⟩, .bool false, .slice none 0 0, .slice none 0 0] 153)
  have hbx := ((Blk.new w 153 #[.int .i64 z.x.id, .string z.x.echoed, .bool z.x.hasE, .string z.x.readied, .bool z.x.hasR, .string z.x.delivered, .bool z.x.hasD, .slice z.ae z.x.echoes.length z.ce, .slice z.ar z.x.readies.length z.cr]).keep kz1).keep kz2
  have hbs := (Blk.new (w.alloc (.cells #[.int .i64 z.x.id, .string z.x.echoed, .bool z.x.hasE, .string z.x.readied, .bool z.x.hasR, .string z.x.delivered, .bool z.x.hasD, .slice z.ae z.x.echoes.length z.ce, .slice z.ar z.x.readies.length z.cr] 153)) 9 #[.string v]).keep kz2
  have hbr := Blk.new ((w.alloc (.cells #[.int .i64 z.x.id, .string z.x.echoed, .bool z.x.hasE, .string z.x.readied, .bool z.x.hasR, .string z.x.delivered, .bool z.x.hasD, .slice z.ae z.x.echoes.length z.ce, .slice z.ar z.x.readies.length z.cr] 153)).alloc (.cells #[.string v] 9)) 153 #[.int .i64 0, .string ⟨#[]⟩, .bool false, .string ⟨#[]⟩, .bool false, .string ⟨#[]⟩, .bool false, .slice none 0 0, .slice none 0 0]
  have J := (kz0.trans kz1).trans kz2
  have HE := Lib.hid (fun W (k : Keeps w W) => cloneH_any z.ae z.ce z.x.echoes W (hze.keep k) (by omega))
  have HR := Lib.hid (fun W (k : Keeps w W) => cloneH_any z.ar z.cr z.x.readies W (hzr.keep k) (by omega))
  have hlx : w.heap.size ≤ w.heap.size := Nat.le_refl _
  have n1 : ((w.alloc (.cells #[.int .i64 z.x.id, .string z.x.echoed, .bool z.x.hasE, .string z.x.readied, .bool z.x.hasR, .string z.x.delivered, .bool z.x.hasD, .slice z.ae z.x.echoes.length z.ce, .slice z.ar z.x.readies.length z.cr] 153)).alloc (.cells #[.string v] 9)).heap.size ≠ w.heap.size := by rw [hs, hs]; omega
  have n2 : (w.alloc (.cells #[.int .i64 z.x.id, .string z.x.echoed, .bool z.x.hasE, .string z.x.readied, .bool z.x.hasR, .string z.x.delivered, .bool z.x.hasD, .slice z.ae z.x.echoes.length z.ce, .slice z.ar z.x.readies.length z.cr] 153)).heap.size ≠ w.heap.size := by rw [hs]; omega
  have HS := Lib.hid hs
  clear hs kz0 kz1 kz2 hze hzr
  unfold vn
  go_enter Tryz.func158, Tryz.ntmps158
  go_wp2_with fail
  simp only [HS.out] at hbs hbr n1 n2
  generalize (((w.alloc (.cells #[.int .i64 z.x.id, .string z.x.echoed, .bool z.x.hasE, .string z.x.readied, .bool z.x.hasR, .string z.x.delivered, .bool z.x.hasD, .slice z.ae z.x.echoes.length z.ce, .slice z.ar z.x.readies.length z.cr] 153)).alloc (.cells #[.string v] 9)).alloc (.cells #[.int .i64 0, .string ⟨#[]⟩, .bool false, .string ⟨#[]⟩, .bool false, .string ⟨#[]⟩, .bool false, .slice none 0 0, .slice none 0 0] 153)) = W2 at *
  obtain ⟨BX, hBX⟩ : ∃ B, B = w.heap.size := ⟨_, rfl⟩
  obtain ⟨BS, hBS⟩ : ∃ B, B = w.heap.size + 1 := ⟨_, rfl⟩
  obtain ⟨BR, hBR⟩ : ∃ B, B = w.heap.size + 1 + 1 := ⟨_, rfl⟩
  rw [← hBR, ← hBS, ← hBX]
  rw [← hBX] at hlx
  rw [← hBR, ← hBX] at n1
  rw [← hBS, ← hBX] at n2
  rw [← hBX] at hbx
  rw [← hBS] at hbs
  rw [← hBR] at hbr
  replace hlx : w.heap.size ≤ BX := by rw [hBX]; exact Nat.le_refl _
  have hlr : w.heap.size ≤ BR := by rw [hBR]; omega
  clear hBX hBS hBR
  go_cut [] from 19 (fun wx => ∃ ae ce ar cr, Blk wx BX 153 #[.int .i64 z.x.id, .string z.x.echoed, .bool z.x.hasE, .string z.x.readied, .bool z.x.hasR, .string z.x.delivered, .bool z.x.hasD, .slice ae z.x.echoes.length ce, .slice ar z.x.readies.length cr] ∧ Blk wx BS 9 #[.string v] ∧ Blk wx BR 153 #[.int .i64 0, .string ⟨#[]⟩, .bool false, .string ⟨#[]⟩, .bool false, .string ⟨#[]⟩, .bool false, .slice none 0 0, .slice none 0 0] ∧ Own 156 2 w wx (.slice ae z.x.echoes.length ce) z.x.echoes.length (hl z.x.echoes) ∧ Own 156 2 w wx (.slice ar z.x.readies.length cr) z.x.readies.length (hl z.x.readies))
  case first =>
    replace hbx := hbx.keep ((Keeps.refl W2).drew)
    replace hbs := hbs.keep ((Keeps.refl W2).drew)
    replace hbr := hbr.keep ((Keeps.refl W2).drew)
    replace J := J.drew
    refine wp_region_held_drew (S := (fun w' => True)) (by kernel_rfl) trivial (fun hHeld => ?_)
    generalize W2.drew = V0 at *
    refine wpAnyH_take (i := 0) (oi := ⟨_, _, _, _, _, _⟩) (v := ?_) rfl (by kernel_rfl) (by kernel_rfl) (by kernel_rfl) (fun _ _ _ h => h) (Or.inl ⟨by rfl, ?_⟩) (by assumption) ?_
    rotate_left 1
    · intro w hSw; (try dsimp only at hSw); go_simp <;> with_reducible rfl
    (try simp only [Act.put]); (try simp only [List.setIfInBounds_toArray]); (try simp only [List.set_cons_succ]); (try simp only [List.set_cons_zero])
    refine wpAnyH_take (i := 3) (oi := ⟨_, _, _, _, _, _⟩) (v := ?_) rfl (by kernel_rfl) (by kernel_rfl) (by kernel_rfl) (fun _ _ _ h => h) (Or.inl ⟨by rfl, ?_⟩) (by assumption) ?_
    rotate_left 1
    · intro w hSw; (try dsimp only at hSw); go_simp <;> with_reducible rfl
    (try simp only [Act.put]); (try simp only [List.setIfInBounds_toArray]); (try simp only [List.set_cons_succ]); (try simp only [List.set_cons_zero])
    refine wpAnyH_ready (rs := [1, 4]) (by kernel_rfl) (by simp) ?_
    refine AllReadyH.cons (o := ⟨_, _, _, _, _, _⟩) rfl (fun K hK => ?_) (AllReadyH.cons (o := ⟨_, _, _, _, _, _⟩) rfl (fun K hK => ?_) AllReadyH.nil)
    · obtain ⟨c0, c1, c2, c3, c4, c5, c6, c7, c8⟩ := Blk.c9 hbx
      go_simp
      clear c0 c1 c2 c3 c4 c5 c6 c7 c8
      refine hK.out _ _ ?_ (fun hHeld => ?_)
      · trivial
      clear hK K
      (try simp only [Act.put]); (try simp only [List.setIfInBounds_toArray]); (try simp only [List.set_cons_succ]); (try simp only [List.set_cons_zero])
      refine wpAnyH_ready (rs := [2, 4]) (by kernel_rfl) (by simp) ?_
      refine AllReadyH.cons (o := ⟨_, _, _, _, _, _⟩) rfl (fun K hK => ?_) (AllReadyH.cons (o := ⟨_, _, _, _, _, _⟩) rfl (fun K hK => ?_) AllReadyH.nil)
      · go_simp
        refine (HE.out _ J).mono ?_
        rintro e V1 ⟨ue, rfl, he⟩
        obtain ⟨ae, ce, rfl, _⟩ := he.rd
        have kk := he.2
        replace he := he.since J
        replace J := J.trans kk
        replace hbx := hbx.keep kk
        replace hbs := hbs.keep kk
        replace hbr := hbr.keep kk
        clear kk
        refine hK.out _ _ ?_ (fun hHeld => ?_)
        · trivial
        clear hK K
        (try simp only [Act.put]); (try simp only [List.setIfInBounds_toArray]); (try simp only [List.set_cons_succ]); (try simp only [List.set_cons_zero])
        refine wpAnyH_ready (rs := [4]) (by kernel_rfl) (by simp) ?_
        refine AllReadyH.cons (o := ⟨_, _, _, _, _, _⟩) rfl (fun K hK => ?_) AllReadyH.nil
        obtain ⟨c0, c1, c2, c3, c4, c5, c6, c7, c8⟩ := Blk.c9 hbx
        go_simp
        clear c0 c1 c2 c3 c4 c5 c6 c7 c8
        refine hK.out _ _ ?_ (fun hHeld => ?_)
        · trivial
        clear hK K
        (try simp only [Act.put]); (try simp only [List.setIfInBounds_toArray]); (try simp only [List.set_cons_succ]); (try simp only [List.set_cons_zero])
        refine wpAnyH_take (i := 6) (oi := ⟨_, _, _, _, _, _⟩) (v := ?_) rfl (by kernel_rfl) (by kernel_rfl) (by kernel_rfl) (fun _ _ _ h => h) (Or.inl ⟨by rfl, ?_⟩) (by assumption) ?_
        rotate_left 1
        · intro w hSw; (try dsimp only at hSw); go_simp <;> with_reducible rfl
        (try simp only [Act.put]); (try simp only [List.setIfInBounds_toArray]); (try simp only [List.set_cons_succ]); (try simp only [List.set_cons_zero])
        refine wpAnyH_ready (rs := [5]) (by kernel_rfl) (by simp) ?_
        refine AllReadyH.cons (o := ⟨_, _, _, _, _, _⟩) rfl (fun K hK => ?_) AllReadyH.nil
        go_simp
        refine (HR.out _ J).mono ?_
        rintro e V2 ⟨ur, rfl, hr⟩
        obtain ⟨ar, cr, rfl, _⟩ := hr.rd
        have kk := hr.2
        replace hr := hr.since J
        replace J := J.trans kk
        replace hbx := hbx.keep kk
        replace hbs := hbs.keep kk
        replace hbr := hbr.keep kk
        replace he := he.keep kk
        clear kk
        refine hK.out _ _ ?_ (fun hHeld => ?_)
        · trivial
        clear hK K
        (try simp only [Act.put]); (try simp only [List.setIfInBounds_toArray]); (try simp only [List.set_cons_succ]); (try simp only [List.set_cons_zero])
        refine wpAnyH_ready (rs := [7]) (by kernel_rfl) (by simp) ?_
        refine AllReadyH.cons (o := ⟨_, _, _, _, _, _⟩) rfl (fun K hK => ?_) AllReadyH.nil
        have k1 := hbx.frozen 7
        obtain ⟨c0, c1, c2, c3, c4, c5, c6, c7, c8⟩ := Blk.c9 hbx
        go_simp
        clear k1 c0 c1 c2 c3 c4 c5 c6 c7 c8
        replace he := own_oth9 he hbx (by decide) hlx 7 (.slice ae z.x.echoes.length ce)
        replace hr := own_oth9 hr hbx (by decide) hlx 7 (.slice ae z.x.echoes.length ce)
        replace hbs := hbs.setOther n2 7 (.slice ae z.x.echoes.length ce)
        replace hbr := hbr.setOther n1 7 (.slice ae z.x.echoes.length ce)
        replace J := keeps_set J hlx 7 (.slice ae z.x.echoes.length ce)
        replace hbx := hbx.set 7 (.slice ae z.x.echoes.length ce)
        simp only [List.setIfInBounds_toArray, List.set_cons_succ, List.set_cons_zero] at hbx
        generalize V2.setCell ⟨BX, 7, none⟩ (.slice ae z.x.echoes.length ce) = V3 at *
        refine hK.out _ _ ?_ (fun hHeld => ?_)
        · trivial
        clear hK K
        (try simp only [Act.put]); (try simp only [List.setIfInBounds_toArray]); (try simp only [List.set_cons_succ]); (try simp only [List.set_cons_zero])
        refine wpAnyH_take (i := 8) (oi := ⟨_, _, _, _, _, _⟩) (v := ?_) rfl (by kernel_rfl) (by kernel_rfl) (by kernel_rfl) (fun _ _ _ h => h) (Or.inl ⟨by rfl, ?_⟩) (by assumption) ?_
        rotate_left 1
        · intro w hSw; (try dsimp only at hSw); go_simp <;> with_reducible rfl
        (try simp only [Act.put]); (try simp only [List.setIfInBounds_toArray]); (try simp only [List.set_cons_succ]); (try simp only [List.set_cons_zero])
        refine wpAnyH_ready (rs := [9]) (by kernel_rfl) (by simp) ?_
        refine AllReadyH.cons (o := ⟨_, _, _, _, _, _⟩) rfl (fun K hK => ?_) AllReadyH.nil
        have k1 := hbx.frozen 8
        obtain ⟨c0, c1, c2, c3, c4, c5, c6, c7, c8⟩ := Blk.c9 hbx
        go_simp
        clear k1 c0 c1 c2 c3 c4 c5 c6 c7 c8
        replace he := own_oth9 he hbx (by decide) hlx 8 (.slice ar z.x.readies.length cr)
        replace hr := own_oth9 hr hbx (by decide) hlx 8 (.slice ar z.x.readies.length cr)
        replace hbs := hbs.setOther n2 8 (.slice ar z.x.readies.length cr)
        replace hbr := hbr.setOther n1 8 (.slice ar z.x.readies.length cr)
        replace J := keeps_set J hlx 8 (.slice ar z.x.readies.length cr)
        replace hbx := hbx.set 8 (.slice ar z.x.readies.length cr)
        simp only [List.setIfInBounds_toArray, List.set_cons_succ, List.set_cons_zero] at hbx
        generalize V3.setCell ⟨BX, 8, none⟩ (.slice ar z.x.readies.length cr) = V4 at *
        refine hK.out _ _ ?_ (fun hHeld => ?_)
        · trivial
        clear hK K
        (try simp only [Act.put]); (try simp only [List.setIfInBounds_toArray]); (try simp only [List.set_cons_succ]); (try simp only [List.set_cons_zero])
        refine wpAnyH_done (by kernel_rfl) ?_ _
        go_wp2_with fail
        go_meet
        case rel => exact ⟨ae, ce, ar, cr, hbx, hbs, hbr, he, hr⟩
      · obtain ⟨c0, c1, c2, c3, c4, c5, c6, c7, c8⟩ := Blk.c9 hbx
        go_simp
        clear c0 c1 c2 c3 c4 c5 c6 c7 c8
        refine hK.out _ _ ?_ (fun hHeld => ?_)
        · trivial
        clear hK K
        (try simp only [Act.put]); (try simp only [List.setIfInBounds_toArray]); (try simp only [List.set_cons_succ]); (try simp only [List.set_cons_zero])
        refine wpAnyH_ready (rs := [2]) (by kernel_rfl) (by simp) ?_
        refine AllReadyH.cons (o := ⟨_, _, _, _, _, _⟩) rfl (fun K hK => ?_) AllReadyH.nil
        go_simp
        refine (HE.out _ J).mono ?_
        rintro e V1 ⟨ue, rfl, he⟩
        obtain ⟨ae, ce, rfl, _⟩ := he.rd
        have kk := he.2
        replace he := he.since J
        replace J := J.trans kk
        replace hbx := hbx.keep kk
        replace hbs := hbs.keep kk
        replace hbr := hbr.keep kk
        clear kk
        refine hK.out _ _ ?_ (fun hHeld => ?_)
        · trivial
        clear hK K
        (try simp only [Act.put]); (try simp only [List.setIfInBounds_toArray]); (try simp only [List.set_cons_succ]); (try simp only [List.set_cons_zero])
        refine wpAnyH_take (i := 6) (oi := ⟨_, _, _, _, _, _⟩) (v := ?_) rfl (by kernel_rfl) (by kernel_rfl) (by kernel_rfl) (fun _ _ _ h => h) (Or.inl ⟨by rfl, ?_⟩) (by assumption) ?_
        rotate_left 1
        · intro w hSw; (try dsimp only at hSw); go_simp <;> with_reducible rfl
        (try simp only [Act.put]); (try simp only [List.setIfInBounds_toArray]); (try simp only [List.set_cons_succ]); (try simp only [List.set_cons_zero])
        refine wpAnyH_ready (rs := [5]) (by kernel_rfl) (by simp) ?_
        refine AllReadyH.cons (o := ⟨_, _, _, _, _, _⟩) rfl (fun K hK => ?_) AllReadyH.nil
        go_simp
        refine (HR.out _ J).mono ?_
        rintro e V2 ⟨ur, rfl, hr⟩
        obtain ⟨ar, cr, rfl, _⟩ := hr.rd
        have kk := hr.2
        replace hr := hr.since J
        replace J := J.trans kk
        replace hbx := hbx.keep kk
        replace hbs := hbs.keep kk
        replace hbr := hbr.keep kk
        replace he := he.keep kk
        clear kk
        refine hK.out _ _ ?_ (fun hHeld => ?_)
        · trivial
        clear hK K
        (try simp only [Act.put]); (try simp only [List.setIfInBounds_toArray]); (try simp only [List.set_cons_succ]); (try simp only [List.set_cons_zero])
        refine wpAnyH_ready (rs := [7]) (by kernel_rfl) (by simp) ?_
        refine AllReadyH.cons (o := ⟨_, _, _, _, _, _⟩) rfl (fun K hK => ?_) AllReadyH.nil
        have k1 := hbx.frozen 7
        obtain ⟨c0, c1, c2, c3, c4, c5, c6, c7, c8⟩ := Blk.c9 hbx
        go_simp
        clear k1 c0 c1 c2 c3 c4 c5 c6 c7 c8
        replace he := own_oth9 he hbx (by decide) hlx 7 (.slice ae z.x.echoes.length ce)
        replace hr := own_oth9 hr hbx (by decide) hlx 7 (.slice ae z.x.echoes.length ce)
        replace hbs := hbs.setOther n2 7 (.slice ae z.x.echoes.length ce)
        replace hbr := hbr.setOther n1 7 (.slice ae z.x.echoes.length ce)
        replace J := keeps_set J hlx 7 (.slice ae z.x.echoes.length ce)
        replace hbx := hbx.set 7 (.slice ae z.x.echoes.length ce)
        simp only [List.setIfInBounds_toArray, List.set_cons_succ, List.set_cons_zero] at hbx
        generalize V2.setCell ⟨BX, 7, none⟩ (.slice ae z.x.echoes.length ce) = V3 at *
        refine hK.out _ _ ?_ (fun hHeld => ?_)
        · trivial
        clear hK K
        (try simp only [Act.put]); (try simp only [List.setIfInBounds_toArray]); (try simp only [List.set_cons_succ]); (try simp only [List.set_cons_zero])
        refine wpAnyH_take (i := 8) (oi := ⟨_, _, _, _, _, _⟩) (v := ?_) rfl (by kernel_rfl) (by kernel_rfl) (by kernel_rfl) (fun _ _ _ h => h) (Or.inl ⟨by rfl, ?_⟩) (by assumption) ?_
        rotate_left 1
        · intro w hSw; (try dsimp only at hSw); go_simp <;> with_reducible rfl
        (try simp only [Act.put]); (try simp only [List.setIfInBounds_toArray]); (try simp only [List.set_cons_succ]); (try simp only [List.set_cons_zero])
        refine wpAnyH_ready (rs := [9]) (by kernel_rfl) (by simp) ?_
        refine AllReadyH.cons (o := ⟨_, _, _, _, _, _⟩) rfl (fun K hK => ?_) AllReadyH.nil
        have k1 := hbx.frozen 8
        obtain ⟨c0, c1, c2, c3, c4, c5, c6, c7, c8⟩ := Blk.c9 hbx
        go_simp
        clear k1 c0 c1 c2 c3 c4 c5 c6 c7 c8
        replace he := own_oth9 he hbx (by decide) hlx 8 (.slice ar z.x.readies.length cr)
        replace hr := own_oth9 hr hbx (by decide) hlx 8 (.slice ar z.x.readies.length cr)
        replace hbs := hbs.setOther n2 8 (.slice ar z.x.readies.length cr)
        replace hbr := hbr.setOther n1 8 (.slice ar z.x.readies.length cr)
        replace J := keeps_set J hlx 8 (.slice ar z.x.readies.length cr)
        replace hbx := hbx.set 8 (.slice ar z.x.readies.length cr)
        simp only [List.setIfInBounds_toArray, List.set_cons_succ, List.set_cons_zero] at hbx
        generalize V3.setCell ⟨BX, 8, none⟩ (.slice ar z.x.readies.length cr) = V4 at *
        refine hK.out _ _ ?_ (fun hHeld => ?_)
        · trivial
        clear hK K
        (try simp only [Act.put]); (try simp only [List.setIfInBounds_toArray]); (try simp only [List.set_cons_succ]); (try simp only [List.set_cons_zero])
        refine wpAnyH_done (by kernel_rfl) ?_ _
        go_wp2_with fail
        go_meet
        case rel => exact ⟨ae, ce, ar, cr, hbx, hbs, hbr, he, hr⟩
    · obtain ⟨c0, c1, c2, c3, c4, c5, c6, c7, c8⟩ := Blk.c9 hbx
      go_simp
      clear c0 c1 c2 c3 c4 c5 c6 c7 c8
      refine hK.out _ _ ?_ (fun hHeld => ?_)
      · trivial
      clear hK K
      (try simp only [Act.put]); (try simp only [List.setIfInBounds_toArray]); (try simp only [List.set_cons_succ]); (try simp only [List.set_cons_zero])
      refine wpAnyH_ready (rs := [1]) (by kernel_rfl) (by simp) ?_
      refine AllReadyH.cons (o := ⟨_, _, _, _, _, _⟩) rfl (fun K hK => ?_) AllReadyH.nil
      obtain ⟨c0, c1, c2, c3, c4, c5, c6, c7, c8⟩ := Blk.c9 hbx
      go_simp
      clear c0 c1 c2 c3 c4 c5 c6 c7 c8
      refine hK.out _ _ ?_ (fun hHeld => ?_)
      · trivial
      clear hK K
      (try simp only [Act.put]); (try simp only [List.setIfInBounds_toArray]); (try simp only [List.set_cons_succ]); (try simp only [List.set_cons_zero])
      refine wpAnyH_ready (rs := [2]) (by kernel_rfl) (by simp) ?_
      refine AllReadyH.cons (o := ⟨_, _, _, _, _, _⟩) rfl (fun K hK => ?_) AllReadyH.nil
      go_simp
      refine (HE.out _ J).mono ?_
      rintro e V1 ⟨ue, rfl, he⟩
      obtain ⟨ae, ce, rfl, _⟩ := he.rd
      have kk := he.2
      replace he := he.since J
      replace J := J.trans kk
      replace hbx := hbx.keep kk
      replace hbs := hbs.keep kk
      replace hbr := hbr.keep kk
      clear kk
      refine hK.out _ _ ?_ (fun hHeld => ?_)
      · trivial
      clear hK K
      (try simp only [Act.put]); (try simp only [List.setIfInBounds_toArray]); (try simp only [List.set_cons_succ]); (try simp only [List.set_cons_zero])
      refine wpAnyH_take (i := 6) (oi := ⟨_, _, _, _, _, _⟩) (v := ?_) rfl (by kernel_rfl) (by kernel_rfl) (by kernel_rfl) (fun _ _ _ h => h) (Or.inl ⟨by rfl, ?_⟩) (by assumption) ?_
      rotate_left 1
      · intro w hSw; (try dsimp only at hSw); go_simp <;> with_reducible rfl
      (try simp only [Act.put]); (try simp only [List.setIfInBounds_toArray]); (try simp only [List.set_cons_succ]); (try simp only [List.set_cons_zero])
      refine wpAnyH_ready (rs := [5]) (by kernel_rfl) (by simp) ?_
      refine AllReadyH.cons (o := ⟨_, _, _, _, _, _⟩) rfl (fun K hK => ?_) AllReadyH.nil
      go_simp
      refine (HR.out _ J).mono ?_
      rintro e V2 ⟨ur, rfl, hr⟩
      obtain ⟨ar, cr, rfl, _⟩ := hr.rd
      have kk := hr.2
      replace hr := hr.since J
      replace J := J.trans kk
      replace hbx := hbx.keep kk
      replace hbs := hbs.keep kk
      replace hbr := hbr.keep kk
      replace he := he.keep kk
      clear kk
      refine hK.out _ _ ?_ (fun hHeld => ?_)
      · trivial
      clear hK K
      (try simp only [Act.put]); (try simp only [List.setIfInBounds_toArray]); (try simp only [List.set_cons_succ]); (try simp only [List.set_cons_zero])
      refine wpAnyH_ready (rs := [7]) (by kernel_rfl) (by simp) ?_
      refine AllReadyH.cons (o := ⟨_, _, _, _, _, _⟩) rfl (fun K hK => ?_) AllReadyH.nil
      have k1 := hbx.frozen 7
      obtain ⟨c0, c1, c2, c3, c4, c5, c6, c7, c8⟩ := Blk.c9 hbx
      go_simp
      clear k1 c0 c1 c2 c3 c4 c5 c6 c7 c8
      replace he := own_oth9 he hbx (by decide) hlx 7 (.slice ae z.x.echoes.length ce)
      replace hr := own_oth9 hr hbx (by decide) hlx 7 (.slice ae z.x.echoes.length ce)
      replace hbs := hbs.setOther n2 7 (.slice ae z.x.echoes.length ce)
      replace hbr := hbr.setOther n1 7 (.slice ae z.x.echoes.length ce)
      replace J := keeps_set J hlx 7 (.slice ae z.x.echoes.length ce)
      replace hbx := hbx.set 7 (.slice ae z.x.echoes.length ce)
      simp only [List.setIfInBounds_toArray, List.set_cons_succ, List.set_cons_zero] at hbx
      generalize V2.setCell ⟨BX, 7, none⟩ (.slice ae z.x.echoes.length ce) = V3 at *
      refine hK.out _ _ ?_ (fun hHeld => ?_)
      · trivial
      clear hK K
      (try simp only [Act.put]); (try simp only [List.setIfInBounds_toArray]); (try simp only [List.set_cons_succ]); (try simp only [List.set_cons_zero])
      refine wpAnyH_take (i := 8) (oi := ⟨_, _, _, _, _, _⟩) (v := ?_) rfl (by kernel_rfl) (by kernel_rfl) (by kernel_rfl) (fun _ _ _ h => h) (Or.inl ⟨by rfl, ?_⟩) (by assumption) ?_
      rotate_left 1
      · intro w hSw; (try dsimp only at hSw); go_simp <;> with_reducible rfl
      (try simp only [Act.put]); (try simp only [List.setIfInBounds_toArray]); (try simp only [List.set_cons_succ]); (try simp only [List.set_cons_zero])
      refine wpAnyH_ready (rs := [9]) (by kernel_rfl) (by simp) ?_
      refine AllReadyH.cons (o := ⟨_, _, _, _, _, _⟩) rfl (fun K hK => ?_) AllReadyH.nil
      have k1 := hbx.frozen 8
      obtain ⟨c0, c1, c2, c3, c4, c5, c6, c7, c8⟩ := Blk.c9 hbx
      go_simp
      clear k1 c0 c1 c2 c3 c4 c5 c6 c7 c8
      replace he := own_oth9 he hbx (by decide) hlx 8 (.slice ar z.x.readies.length cr)
      replace hr := own_oth9 hr hbx (by decide) hlx 8 (.slice ar z.x.readies.length cr)
      replace hbs := hbs.setOther n2 8 (.slice ar z.x.readies.length cr)
      replace hbr := hbr.setOther n1 8 (.slice ar z.x.readies.length cr)
      replace J := keeps_set J hlx 8 (.slice ar z.x.readies.length cr)
      replace hbx := hbx.set 8 (.slice ar z.x.readies.length cr)
      simp only [List.setIfInBounds_toArray, List.set_cons_succ, List.set_cons_zero] at hbx
      generalize V3.setCell ⟨BX, 8, none⟩ (.slice ar z.x.readies.length cr) = V4 at *
      refine hK.out _ _ ?_ (fun hHeld => ?_)
      · trivial
      clear hK K
      (try simp only [Act.put]); (try simp only [List.setIfInBounds_toArray]); (try simp only [List.set_cons_succ]); (try simp only [List.set_cons_zero])
      refine wpAnyH_done (by kernel_rfl) ?_ _
      go_wp2_with fail
      go_meet
      case rel => exact ⟨ae, ce, ar, cr, hbx, hbs, hbr, he, hr⟩
  case rest =>
    clear hbx hbs hbr J HE HR
    obtain ⟨ae, ce, ar, cr, hbx, hbs, hbr, he, hr⟩ := hcut
    have J := he.2
    replace he := he.row0
    replace hr := hr.row0
    have J0 := J
    by_cases hro : src < 0 ∨ 12 ≤ src
    · have HV := Lib.hid (show handle f b z.x src kind v = (z.x, []) by unfold handle; rw [if_pos hro])
      by_cases h1 : src < 0
      · clear hro
        obtain ⟨c0, c1, c2, c3, c4, c5, c6, c7, c8⟩ := Blk.c9 hbx
        obtain ⟨g0, g1, g2, g3, g4, g5, g6, g7, g8⟩ := hbr.f9
        obtain ⟨d0, d1, d2, d3, d4, d5, d6, d7, d8⟩ := Blk.c9 hbr
        go_wp2_with fail
        clear c0 c1 c2 c3 c4 c5 c6 c7 c8
        clear g0 g1 g2 g3 g4 g5 g6 g7 g8
        clear d0 d1 d2 d3 d4 d5 d6 d7 d8
        replace he := (nok_set9 (z := ⟨z.x, ae, ce, ar, cr⟩) ⟨he, hr⟩ hbr (by decide) (.int .i64 z.x.id) (.string z.x.echoed) (.bool z.x.hasE) (.string z.x.readied) (.bool z.x.hasR) (.string z.x.delivered) (.bool z.x.hasD) (.slice ae z.x.echoes.length ce) (.slice ar z.x.readies.length cr))
        have J2 := keeps_set9 J hlr (.int .i64 z.x.id) (.string z.x.echoed) (.bool z.x.hasE) (.string z.x.readied) (.bool z.x.hasR) (.string z.x.delivered) (.bool z.x.hasD) (.slice ae z.x.echoes.length ce) (.slice ar z.x.readies.length cr)
        replace hbr := hbr.set9 (.int .i64 z.x.id) (.string z.x.echoed) (.bool z.x.hasE) (.string z.x.readied) (.bool z.x.hasR) (.string z.x.delivered) (.bool z.x.hasD) (.slice ae z.x.echoes.length ce) (.slice ar z.x.readies.length cr)
        refine bodyPost_ret (resNode (z := ⟨z.x, ae, ce, ar, cr⟩) rfl hbr rfl rfl) rfl ?_
        rw [HV.out]
        exact ⟨⟨z.x, ae, ce, ar, cr⟩, _, rfl, rfl, he, .nil _ _ J2⟩
      · have h2 : 12 ≤ src := by omega
        clear hro
        obtain ⟨c0, c1, c2, c3, c4, c5, c6, c7, c8⟩ := Blk.c9 hbx
        obtain ⟨g0, g1, g2, g3, g4, g5, g6, g7, g8⟩ := hbr.f9
        obtain ⟨d0, d1, d2, d3, d4, d5, d6, d7, d8⟩ := Blk.c9 hbr
        go_wp2_with fail
        clear c0 c1 c2 c3 c4 c5 c6 c7 c8
        clear g0 g1 g2 g3 g4 g5 g6 g7 g8
        clear d0 d1 d2 d3 d4 d5 d6 d7 d8
        replace he := (nok_set9 (z := ⟨z.x, ae, ce, ar, cr⟩) ⟨he, hr⟩ hbr (by decide) (.int .i64 z.x.id) (.string z.x.echoed) (.bool z.x.hasE) (.string z.x.readied) (.bool z.x.hasR) (.string z.x.delivered) (.bool z.x.hasD) (.slice ae z.x.echoes.length ce) (.slice ar z.x.readies.length cr))
        have J2 := keeps_set9 J hlr (.int .i64 z.x.id) (.string z.x.echoed) (.bool z.x.hasE) (.string z.x.readied) (.bool z.x.hasR) (.string z.x.delivered) (.bool z.x.hasD) (.slice ae z.x.echoes.length ce) (.slice ar z.x.readies.length cr)
        replace hbr := hbr.set9 (.int .i64 z.x.id) (.string z.x.echoed) (.bool z.x.hasE) (.string z.x.readied) (.bool z.x.hasR) (.string z.x.delivered) (.bool z.x.hasD) (.slice ae z.x.echoes.length ce) (.slice ar z.x.readies.length cr)
        refine bodyPost_ret (resNode (z := ⟨z.x, ae, ce, ar, cr⟩) rfl hbr rfl rfl) rfl ?_
        rw [HV.out]
        exact ⟨⟨z.x, ae, ce, ar, cr⟩, _, rfl, rfl, he, .nil _ _ J2⟩
    obtain ⟨i, rfl⟩ : ∃ i : Nat, src = (i : Int) := ⟨src.toNat, by omega⟩
    have hi : i < 12 := by omega
    have HVP := Lib.hid (show handle f b z.x i kind v = _ by unfold handle; rw [if_neg hro, Int.toNat_natCast])
    clear hro
    have kA := (Keeps.refl wc).alloc (.cells #[.slice none 0 0] 73)
    have kB := (Keeps.refl (wc.alloc (.cells #[.slice none 0 0] 73))).alloc (.cells #[sendV wc.heap.size BX BS] 149)
    have hbo := (Blk.new wc 73 #[.slice none 0 0]).keep kB
    have hbf := Blk.new (wc.alloc (.cells #[.slice none 0 0] 73)) 149 #[sendV wc.heap.size BX BS]
    have kC := kA.trans kB
    replace hbx := hbx.keep kC
    replace hbs := hbs.keep kC
    replace hbr := hbr.keep kC
    replace he := he.keep kC
    replace hr := hr.keep kC
    replace J := J.trans kC
    rw [HS.out] at hbf
    have hlo : w.heap.size ≤ wc.heap.size := J0.size
    clear kA kB kC
    unfold sendV at hbo hbf hbx hbs hbr he hr J
    go_upto_region 8 with fail
    generalize (wc.alloc (.cells #[.slice none 0 0] 73)).alloc (.cells #[.func (.func 199) #[] #[.pointer (some ⟨wc.heap.size, 0, none⟩), .pointer (some ⟨BX, 0, none⟩), .pointer (some ⟨BS, 0, none⟩)]] 149) = V at *
    obtain ⟨BO, hBO⟩ : ∃ B, B = wc.heap.size := ⟨_, rfl⟩
    obtain ⟨BF, hBF⟩ : ∃ B, B = wc.heap.size + 1 := ⟨_, rfl⟩
    rw [← hBF, ← hBO]
    rw [← hBO] at hbo hlo
    rw [← hBF, ← hBO] at hbf
    clear hBO hBF J0
    have n3 : BO ≠ BX := hbo.ne hbx (by decide)
    have n4 : BF ≠ BX := hbf.ne hbx (by decide)
    have n5 : BO ≠ BR := hbo.ne hbr (by decide)
    have hO : Own 145 4 w V (.slice none 0 0) ([] : List Ct).length (cl []) := .nil _ _ J
    have hsrc : ¬ ((i : Int) < 0 ∨ 12 ≤ (i : Int)) := by omega
    have HSRC := Lib.hid hsrc
    clear hsrc
    by_cases k1 : kind = 1
    · subst k1
      cases hE : z.x.hasE with
      | true =>
        have HV := Lib.hid (show handle f b z.x i 1 v = (z.x, []) by unfold handle; rw [if_neg HSRC.out, if_pos rfl, if_pos hE])
        obtain ⟨c0, c1, c2, c3, c4, c5, c6, c7, c8⟩ := Blk.c9 hbx
        rw [hE] at c2
        clear hE
        go_wp2_with fail
        clear c0 c1 c2 c3 c4 c5 c6 c7 c8
        have hend : ∃ (z2 : NA) (out2 : List Ct) (ov2 : Value), BN V BX z2 ∧ NOk V z2 ∧ Own 145 4 w V ov2 out2.length (cl out2) ∧ Blk V BO 73 #[ov2] ∧ z2.x = (handle f b z.x i 1 v).1 ∧ out2 = (handle f b z.x i 1 v).2 := ⟨⟨z.x, ae, ce, ar, cr⟩, [], _, hbx, ⟨he, hr⟩, hO, hbo, (congrArg Prod.fst HV.out).symm, (congrArg Prod.snd HV.out).symm⟩
        clear hbx he hr hO hbo HV
        obtain ⟨z2, out2, ov2, hbx, hN, hO, hbo, e1, e2⟩ := hend
        have E1 := Lib.hid e1
        have E2 := Lib.hid e2
        clear e1 e2
        unfold BN at hbx
        obtain ⟨ao, co, rfl, _⟩ := hO.rd
        obtain ⟨no, hno⟩ : ∃ no, no = out2.length := ⟨_, rfl⟩
        rw [← hno] at hO hbo
        clear hbs hbf
        have k0 := (Keeps.refl V).drew
        replace hbx := hbx.keep k0
        replace hbr := hbr.keep k0
        replace hbo := hbo.keep k0
        replace hO := hO.keep k0
        replace hN := hN.tyf (.of k0)
        clear k0
        refine wp_region_held_drew (S := (fun w' => w'.cell? ⟨BX, 0, none⟩ = some (.int .i64 z2.x.id) ∧ w'.cell? ⟨BX, 1, none⟩ = some (.string z2.x.echoed) ∧ w'.cell? ⟨BX, 2, none⟩ = some (.bool z2.x.hasE) ∧ w'.cell? ⟨BX, 3, none⟩ = some (.string z2.x.readied) ∧ w'.cell? ⟨BX, 4, none⟩ = some (.bool z2.x.hasR) ∧ w'.cell? ⟨BX, 5, none⟩ = some (.string z2.x.delivered) ∧ w'.cell? ⟨BX, 6, none⟩ = some (.bool z2.x.hasD) ∧ w'.cell? ⟨BX, 7, none⟩ = some (.slice z2.ae z2.x.echoes.length z2.ce) ∧ w'.cell? ⟨BX, 8, none⟩ = some (.slice z2.ar z2.x.readies.length z2.cr) ∧ w'.cell? ⟨BO, 0, none⟩ = some (.slice ao no co))) (by kernel_rfl) ?_ (fun hHeld => ?_)
        · exact ⟨hbx.cell 0 rfl, hbx.cell 1 rfl, hbx.cell 2 rfl, hbx.cell 3 rfl, hbx.cell 4 rfl, hbx.cell 5 rfl, hbx.cell 6 rfl, hbx.cell 7 rfl, hbx.cell 8 rfl, hbo.cell 0 rfl⟩
        generalize V.drew = Y0 at *
        refine wpAnyH_take (i := 0) (oi := ⟨_, _, _, _, _, _⟩) (v := ?_) rfl (by kernel_rfl) (by kernel_rfl) (by kernel_rfl) (fun _ _ _ h => h) (Or.inl ⟨by rfl, ?_⟩) (by assumption) ?_
        rotate_left 1
        · intro w hSw; (try dsimp only at hSw); go_simp <;> with_reducible rfl
        (try simp only [Act.put]); (try simp only [List.setIfInBounds_toArray]); (try simp only [List.set_cons_succ]); (try simp only [List.set_cons_zero])
        refine wpAnyH_take (i := 1) (oi := ⟨_, _, _, _, _, _⟩) (v := ?_) rfl (by kernel_rfl) (by kernel_rfl) (by kernel_rfl) (fun _ _ _ h => h) (Or.inl ⟨by rfl, ?_⟩) (by assumption) ?_
        rotate_left 1
        · intro w hSw; (try dsimp only at hSw); go_simp <;> with_reducible rfl
        (try simp only [Act.put]); (try simp only [List.setIfInBounds_toArray]); (try simp only [List.set_cons_succ]); (try simp only [List.set_cons_zero])
        refine wpAnyH_ready (rs := [2]) (by kernel_rfl) (by simp) ?_
        refine AllReadyH.cons (o := ⟨_, _, _, _, _, _⟩) rfl (fun K hK => ?_) AllReadyH.nil
        obtain ⟨g0, g1, g2, g3, g4, g5, g6, g7, g8⟩ := hbr.f9
        obtain ⟨d0, d1, d2, d3, d4, d5, d6, d7, d8⟩ := Blk.c9 hbr
        go_simp
        clear d0 d1 d2 d3 d4 d5 d6 d7 d8
        clear g0 g1 g2 g3 g4 g5 g6 g7 g8
        replace hO := own_other9 hO hbr (by decide) hlr (.int .i64 z2.x.id) (.string z2.x.echoed) (.bool z2.x.hasE) (.string z2.x.readied) (.bool z2.x.hasR) (.string z2.x.delivered) (.bool z2.x.hasD) (.slice z2.ae z2.x.echoes.length z2.ce) (.slice z2.ar z2.x.readies.length z2.cr)
        replace hN := nok_set9 hN hbr (by decide) (.int .i64 z2.x.id) (.string z2.x.echoed) (.bool z2.x.hasE) (.string z2.x.readied) (.bool z2.x.hasR) (.string z2.x.delivered) (.bool z2.x.hasD) (.slice z2.ae z2.x.echoes.length z2.ce) (.slice z2.ar z2.x.readies.length z2.cr)
        replace hbx := hbx.other9 (Ne.symm n1) (.int .i64 z2.x.id) (.string z2.x.echoed) (.bool z2.x.hasE) (.string z2.x.readied) (.bool z2.x.hasR) (.string z2.x.delivered) (.bool z2.x.hasD) (.slice z2.ae z2.x.echoes.length z2.ce) (.slice z2.ar z2.x.readies.length z2.cr)
        replace hbo := hbo.other9 n5 (.int .i64 z2.x.id) (.string z2.x.echoed) (.bool z2.x.hasE) (.string z2.x.readied) (.bool z2.x.hasR) (.string z2.x.delivered) (.bool z2.x.hasD) (.slice z2.ae z2.x.echoes.length z2.ce) (.slice z2.ar z2.x.readies.length z2.cr)
        replace hbr := hbr.set9 (.int .i64 z2.x.id) (.string z2.x.echoed) (.bool z2.x.hasE) (.string z2.x.readied) (.bool z2.x.hasR) (.string z2.x.delivered) (.bool z2.x.hasD) (.slice z2.ae z2.x.echoes.length z2.ce) (.slice z2.ar z2.x.readies.length z2.cr)
        generalize (((((((((Y0.setCell ⟨BR, 0, none⟩ (.int .i64 z2.x.id)).setCell ⟨BR, 1, none⟩ (.string z2.x.echoed)).setCell ⟨BR, 2, none⟩ (.bool z2.x.hasE)).setCell ⟨BR, 3, none⟩ (.string z2.x.readied)).setCell ⟨BR, 4, none⟩ (.bool z2.x.hasR)).setCell ⟨BR, 5, none⟩ (.string z2.x.delivered)).setCell ⟨BR, 6, none⟩ (.bool z2.x.hasD)).setCell ⟨BR, 7, none⟩ (.slice z2.ae z2.x.echoes.length z2.ce)).setCell ⟨BR, 8, none⟩ (.slice z2.ar z2.x.readies.length z2.cr)) = Y1 at *
        refine hK.out _ _ ?_ (fun hHeld => ?_)
        · exact ⟨hbx.cell 0 rfl, hbx.cell 1 rfl, hbx.cell 2 rfl, hbx.cell 3 rfl, hbx.cell 4 rfl, hbx.cell 5 rfl, hbx.cell 6 rfl, hbx.cell 7 rfl, hbx.cell 8 rfl, hbo.cell 0 rfl⟩
        clear hK K
        (try simp only [Act.put]); (try simp only [List.setIfInBounds_toArray]); (try simp only [List.set_cons_succ]); (try simp only [List.set_cons_zero])
        refine wpAnyH_take (i := 3) (oi := ⟨_, _, _, _, _, _⟩) (v := ?_) rfl (by kernel_rfl) (by kernel_rfl) (by kernel_rfl) (fun _ _ _ h => h) (Or.inl ⟨by rfl, ?_⟩) (by assumption) ?_
        rotate_left 1
        · intro w hSw; (try dsimp only at hSw); go_simp <;> with_reducible rfl
        (try simp only [Act.put]); (try simp only [List.setIfInBounds_toArray]); (try simp only [List.set_cons_succ]); (try simp only [List.set_cons_zero])
        refine wpAnyH_done (by kernel_rfl) ?_ _
        go_wp2_with fail
        refine bodyPost_ret (resNode (z := z2) rfl hbr rfl rfl) rfl ?_
        refine ⟨z2, _, rfl, E1.out, hN, ?_⟩
        rw [← E2.out, ← hno]
        exact hO
      | false =>
        have HV := Lib.hid (show handle f b z.x i 1 v = ({ z.x with hasE := true, echoed := v }, [⟨2, z.x.id, -1, v⟩]) by unfold handle; rw [if_neg HSRC.out, if_pos rfl, if_neg (by rw [hE]; simp)])
        obtain ⟨c0, c1, c2, c3, c4, c5, c6, c7, c8⟩ := Blk.c9 hbx
        rw [hE] at c2
        clear hE
        go_wp2_with fail
        clear c0 c1 c2 c3 c4 c5 c6 c7 c8
        have k0 := (Keeps.refl V).drew
        replace hbx := hbx.keep k0
        replace hbs := hbs.keep k0
        replace hbr := hbr.keep k0
        replace hbo := hbo.keep k0
        replace hbf := hbf.keep k0
        replace hO := hO.keep k0
        replace he := he.keep k0
        replace hr := hr.keep k0
        replace J := J.trans k0
        clear k0
        refine wp_region_held_drew (S := (fun w' => w'.cell? ⟨BS, 0, none⟩ = some (.string v))) (by kernel_rfl) ?_ (fun hHeld => ?_)
        · exact hbs.cell 0 rfl
        generalize V.drew = X0 at *
        refine wpAnyH_take (i := 0) (oi := ⟨_, _, _, _, _, _⟩) (v := ?_) rfl (by kernel_rfl) (by kernel_rfl) (by kernel_rfl) (fun _ _ _ h => h) (Or.inl ⟨by rfl, ?_⟩) (by assumption) ?_
        rotate_left 1
        · intro w hSw; (try dsimp only at hSw); go_simp <;> with_reducible rfl
        (try simp only [Act.put]); (try simp only [List.setIfInBounds_toArray]); (try simp only [List.set_cons_succ]); (try simp only [List.set_cons_zero])
        refine wpAnyH_take (i := 1) (oi := ⟨_, _, _, _, _, _⟩) (v := ?_) rfl (by kernel_rfl) (by kernel_rfl) (by kernel_rfl) (fun _ _ _ h => h) (Or.inl ⟨by rfl, ?_⟩) (by assumption) ?_
        rotate_left 1
        · intro w hSw; (try dsimp only at hSw); go_simp <;> with_reducible rfl
        (try simp only [Act.put]); (try simp only [List.setIfInBounds_toArray]); (try simp only [List.set_cons_succ]); (try simp only [List.set_cons_zero])
        refine wpAnyH_ready (rs := [2]) (by kernel_rfl) (by simp) ?_
        refine AllReadyH.cons (o := ⟨_, _, _, _, _, _⟩) rfl (fun K hK => ?_) AllReadyH.nil
        have k4 := hbx.frozen 2
        obtain ⟨c0, c1, c2, c3, c4, c5, c6, c7, c8⟩ := Blk.c9 hbx
        go_simp
        clear k4 c0 c1 c2 c3 c4 c5 c6 c7 c8
        replace hO := own_oth9 hO hbx (by decide) hlx 2 (.bool true)
        replace he := he.set hbx (by decide) 2 (.bool true)
        replace hr := hr.set hbx (by decide) 2 (.bool true)
        replace hbs := hbs.setOther n2 2 (.bool true)
        replace hbr := hbr.setOther n1 2 (.bool true)
        replace hbo := hbo.setOther n3 2 (.bool true)
        replace hbf := hbf.setOther n4 2 (.bool true)
        replace J := keeps_set J hlx 2 (.bool true)
        replace hbx := hbx.set 2 (.bool true)
        simp only [List.setIfInBounds_toArray, List.set_cons_succ, List.set_cons_zero] at hbx
        generalize X0.setCell ⟨BX, 2, none⟩ (.bool true) = X1 at *
        refine hK.out _ _ ?_ (fun hHeld => ?_)
        · exact hbs.cell 0 rfl
        clear hK K
        (try simp only [Act.put]); (try simp only [List.setIfInBounds_toArray]); (try simp only [List.set_cons_succ]); (try simp only [List.set_cons_zero])
        refine wpAnyH_take (i := 3) (oi := ⟨_, _, _, _, _, _⟩) (v := ?_) rfl (by kernel_rfl) (by kernel_rfl) (by kernel_rfl) (fun _ _ _ h => h) (Or.inl ⟨by rfl, ?_⟩) (by assumption) ?_
        rotate_left 1
        · intro w hSw; (try dsimp only at hSw); go_simp <;> with_reducible rfl
        (try simp only [Act.put]); (try simp only [List.setIfInBounds_toArray]); (try simp only [List.set_cons_succ]); (try simp only [List.set_cons_zero])
        refine wpAnyH_ready (rs := [4]) (by kernel_rfl) (by simp) ?_
        refine AllReadyH.cons (o := ⟨_, _, _, _, _, _⟩) rfl (fun K hK => ?_) AllReadyH.nil
        have k4 := hbx.frozen 1
        obtain ⟨c0, c1, c2, c3, c4, c5, c6, c7, c8⟩ := Blk.c9 hbx
        go_simp
        clear k4 c0 c1 c2 c3 c4 c5 c6 c7 c8
        replace hO := own_oth9 hO hbx (by decide) hlx 1 (.string v)
        replace he := he.set hbx (by decide) 1 (.string v)
        replace hr := hr.set hbx (by decide) 1 (.string v)
        replace hbs := hbs.setOther n2 1 (.string v)
        replace hbr := hbr.setOther n1 1 (.string v)
        replace hbo := hbo.setOther n3 1 (.string v)
        replace hbf := hbf.setOther n4 1 (.string v)
        replace J := keeps_set J hlx 1 (.string v)
        replace hbx := hbx.set 1 (.string v)
        simp only [List.setIfInBounds_toArray, List.set_cons_succ, List.set_cons_zero] at hbx
        generalize X1.setCell ⟨BX, 1, none⟩ (.string v) = X2 at *
        refine hK.out _ _ ?_ (fun hHeld => ?_)
        · exact hbs.cell 0 rfl
        clear hK K
        (try simp only [Act.put]); (try simp only [List.setIfInBounds_toArray]); (try simp only [List.set_cons_succ]); (try simp only [List.set_cons_zero])
        refine wpAnyH_done (by kernel_rfl) ?_ _
        have f0 := hbf.cell 0 rfl
        have hc := emit9_any w X2 2 BO BX BS ⟨{ z.x with hasE := true, echoed := v }, ae, ce, ar, cr⟩ v _ [] hO hbo hlo hbx hbs (by simp)
        have HC := Lib.hid hc
        clear hc
        have HB := Lib.hid (And.intro hbx (And.intro hbs (And.intro hbr (And.intro hbf (And.intro he hr)))))
        clear hbx hbs hbr hbf he hr hO hbo
        go_wp2_with fail
        refine HC.out.mono ?_
        rintro e X3 ⟨rfl, ov', hO, hbo, hF⟩
        obtain ⟨hbx, hbs, hbr, hbf, he, hr⟩ := HB.out
        replace hbx := hF.2 _ _ _ hbx (by rintro (⟨_, h⟩ | h) <;> exact absurd h (by decide))
        replace hbr := hF.2 _ _ _ hbr (by rintro (⟨_, h⟩ | h) <;> exact absurd h (by decide))
        replace hbs := hF.2 _ _ _ hbs (by rintro (⟨_, h⟩ | h) <;> exact absurd h (by decide))
        replace hbf := hF.2 _ _ _ hbf (by rintro (⟨_, h⟩ | h) <;> exact absurd h (by decide))
        replace he := he.frb (by rintro _ (⟨_, h⟩ | h) <;> exact absurd h (by decide)) hF
        replace hr := hr.frb (by rintro _ (⟨_, h⟩ | h) <;> exact absurd h (by decide)) hF
        have J := hO.2
        clear hF HB
        go_wp2_with fail
        have hend : ∃ (z2 : NA) (out2 : List Ct) (ov2 : Value), BN X3 BX z2 ∧ NOk X3 z2 ∧ Own 145 4 w X3 ov2 out2.length (cl out2) ∧ Blk X3 BO 73 #[ov2] ∧ z2.x = (handle f b z.x i 1 v).1 ∧ out2 = (handle f b z.x i 1 v).2 := ⟨⟨{ z.x with hasE := true, echoed := v }, ae, ce, ar, cr⟩, [⟨2, z.x.id, -1, v⟩], _, hbx, ⟨he, hr⟩, hO, hbo, (congrArg Prod.fst HV.out).symm, (congrArg Prod.snd HV.out).symm⟩
        clear hbx he hr hO hbo HV
        obtain ⟨z2, out2, ov2, hbx, hN, hO, hbo, e1, e2⟩ := hend
        have E1 := Lib.hid e1
        have E2 := Lib.hid e2
        clear e1 e2
        unfold BN at hbx
        obtain ⟨ao, co, rfl, _⟩ := hO.rd
        obtain ⟨no, hno⟩ : ∃ no, no = out2.length := ⟨_, rfl⟩
        rw [← hno] at hO hbo
        clear hbs hbf
        have k0 := (Keeps.refl X3).drew
        replace hbx := hbx.keep k0
        replace hbr := hbr.keep k0
        replace hbo := hbo.keep k0
        replace hO := hO.keep k0
        replace hN := hN.tyf (.of k0)
        clear k0
        refine wp_region_held_drew (S := (fun w' => w'.cell? ⟨BX, 0, none⟩ = some (.int .i64 z2.x.id) ∧ w'.cell? ⟨BX, 1, none⟩ = some (.string z2.x.echoed) ∧ w'.cell? ⟨BX, 2, none⟩ = some (.bool z2.x.hasE) ∧ w'.cell? ⟨BX, 3, none⟩ = some (.string z2.x.readied) ∧ w'.cell? ⟨BX, 4, none⟩ = some (.bool z2.x.hasR) ∧ w'.cell? ⟨BX, 5, none⟩ = some (.string z2.x.delivered) ∧ w'.cell? ⟨BX, 6, none⟩ = some (.bool z2.x.hasD) ∧ w'.cell? ⟨BX, 7, none⟩ = some (.slice z2.ae z2.x.echoes.length z2.ce) ∧ w'.cell? ⟨BX, 8, none⟩ = some (.slice z2.ar z2.x.readies.length z2.cr) ∧ w'.cell? ⟨BO, 0, none⟩ = some (.slice ao no co))) (by kernel_rfl) ?_ (fun hHeld => ?_)
        · exact ⟨hbx.cell 0 rfl, hbx.cell 1 rfl, hbx.cell 2 rfl, hbx.cell 3 rfl, hbx.cell 4 rfl, hbx.cell 5 rfl, hbx.cell 6 rfl, hbx.cell 7 rfl, hbx.cell 8 rfl, hbo.cell 0 rfl⟩
        generalize X3.drew = Y0 at *
        refine wpAnyH_take (i := 0) (oi := ⟨_, _, _, _, _, _⟩) (v := ?_) rfl (by kernel_rfl) (by kernel_rfl) (by kernel_rfl) (fun _ _ _ h => h) (Or.inl ⟨by rfl, ?_⟩) (by assumption) ?_
        rotate_left 1
        · intro w hSw; (try dsimp only at hSw); go_simp <;> with_reducible rfl
        (try simp only [Act.put]); (try simp only [List.setIfInBounds_toArray]); (try simp only [List.set_cons_succ]); (try simp only [List.set_cons_zero])
        refine wpAnyH_take (i := 1) (oi := ⟨_, _, _, _, _, _⟩) (v := ?_) rfl (by kernel_rfl) (by kernel_rfl) (by kernel_rfl) (fun _ _ _ h => h) (Or.inl ⟨by rfl, ?_⟩) (by assumption) ?_
        rotate_left 1
        · intro w hSw; (try dsimp only at hSw); go_simp <;> with_reducible rfl
        (try simp only [Act.put]); (try simp only [List.setIfInBounds_toArray]); (try simp only [List.set_cons_succ]); (try simp only [List.set_cons_zero])
        refine wpAnyH_ready (rs := [2]) (by kernel_rfl) (by simp) ?_
        refine AllReadyH.cons (o := ⟨_, _, _, _, _, _⟩) rfl (fun K hK => ?_) AllReadyH.nil
        obtain ⟨g0, g1, g2, g3, g4, g5, g6, g7, g8⟩ := hbr.f9
        obtain ⟨d0, d1, d2, d3, d4, d5, d6, d7, d8⟩ := Blk.c9 hbr
        go_simp
        clear d0 d1 d2 d3 d4 d5 d6 d7 d8
        clear g0 g1 g2 g3 g4 g5 g6 g7 g8
        replace hO := own_other9 hO hbr (by decide) hlr (.int .i64 z2.x.id) (.string z2.x.echoed) (.bool z2.x.hasE) (.string z2.x.readied) (.bool z2.x.hasR) (.string z2.x.delivered) (.bool z2.x.hasD) (.slice z2.ae z2.x.echoes.length z2.ce) (.slice z2.ar z2.x.readies.length z2.cr)
        replace hN := nok_set9 hN hbr (by decide) (.int .i64 z2.x.id) (.string z2.x.echoed) (.bool z2.x.hasE) (.string z2.x.readied) (.bool z2.x.hasR) (.string z2.x.delivered) (.bool z2.x.hasD) (.slice z2.ae z2.x.echoes.length z2.ce) (.slice z2.ar z2.x.readies.length z2.cr)
        replace hbx := hbx.other9 (Ne.symm n1) (.int .i64 z2.x.id) (.string z2.x.echoed) (.bool z2.x.hasE) (.string z2.x.readied) (.bool z2.x.hasR) (.string z2.x.delivered) (.bool z2.x.hasD) (.slice z2.ae z2.x.echoes.length z2.ce) (.slice z2.ar z2.x.readies.length z2.cr)
        replace hbo := hbo.other9 n5 (.int .i64 z2.x.id) (.string z2.x.echoed) (.bool z2.x.hasE) (.string z2.x.readied) (.bool z2.x.hasR) (.string z2.x.delivered) (.bool z2.x.hasD) (.slice z2.ae z2.x.echoes.length z2.ce) (.slice z2.ar z2.x.readies.length z2.cr)
        replace hbr := hbr.set9 (.int .i64 z2.x.id) (.string z2.x.echoed) (.bool z2.x.hasE) (.string z2.x.readied) (.bool z2.x.hasR) (.string z2.x.delivered) (.bool z2.x.hasD) (.slice z2.ae z2.x.echoes.length z2.ce) (.slice z2.ar z2.x.readies.length z2.cr)
        generalize (((((((((Y0.setCell ⟨BR, 0, none⟩ (.int .i64 z2.x.id)).setCell ⟨BR, 1, none⟩ (.string z2.x.echoed)).setCell ⟨BR, 2, none⟩ (.bool z2.x.hasE)).setCell ⟨BR, 3, none⟩ (.string z2.x.readied)).setCell ⟨BR, 4, none⟩ (.bool z2.x.hasR)).setCell ⟨BR, 5, none⟩ (.string z2.x.delivered)).setCell ⟨BR, 6, none⟩ (.bool z2.x.hasD)).setCell ⟨BR, 7, none⟩ (.slice z2.ae z2.x.echoes.length z2.ce)).setCell ⟨BR, 8, none⟩ (.slice z2.ar z2.x.readies.length z2.cr)) = Y1 at *
        refine hK.out _ _ ?_ (fun hHeld => ?_)
        · exact ⟨hbx.cell 0 rfl, hbx.cell 1 rfl, hbx.cell 2 rfl, hbx.cell 3 rfl, hbx.cell 4 rfl, hbx.cell 5 rfl, hbx.cell 6 rfl, hbx.cell 7 rfl, hbx.cell 8 rfl, hbo.cell 0 rfl⟩
        clear hK K
        (try simp only [Act.put]); (try simp only [List.setIfInBounds_toArray]); (try simp only [List.set_cons_succ]); (try simp only [List.set_cons_zero])
        refine wpAnyH_take (i := 3) (oi := ⟨_, _, _, _, _, _⟩) (v := ?_) rfl (by kernel_rfl) (by kernel_rfl) (by kernel_rfl) (fun _ _ _ h => h) (Or.inl ⟨by rfl, ?_⟩) (by assumption) ?_
        rotate_left 1
        · intro w hSw; (try dsimp only at hSw); go_simp <;> with_reducible rfl
        (try simp only [Act.put]); (try simp only [List.setIfInBounds_toArray]); (try simp only [List.set_cons_succ]); (try simp only [List.set_cons_zero])
        refine wpAnyH_done (by kernel_rfl) ?_ _
        go_wp2_with fail
        refine bodyPost_ret (resNode (z := z2) rfl hbr rfl rfl) rfl ?_
        refine ⟨z2, _, rfl, E1.out, hN, ?_⟩
        rw [← E2.out, ← hno]
        exact hO
    have b1 : (kind == 1) = false := beq_eq_false_iff_ne.2 k1
    by_cases k2 : kind = 2
    · subst k2
      cases hk : knows z.x.echoes i with
      | true =>
        have HV := Lib.hid (show handle f b z.x i 2 v = (z.x, []) by unfold handle; rw [if_neg HSRC.out, if_neg (by decide), if_pos rfl, Int.toNat_natCast, if_pos hk])
        have hc := addOld9_any ae ce z.x.echoes i v V he.rd (by omega) hk
        have HC := Lib.hid hc
        clear hc hk
        obtain ⟨c0, c1, c2, c3, c4, c5, c6, c7, c8⟩ := Blk.c9 hbx
        have f0 := hbs.cell 0 rfl
        go_wp2_with fail
        clear f0
        clear c0 c1 c2 c3 c4 c5 c6 c7 c8
        refine HC.out.mono ?_
        rintro e X1 ⟨rfl, k0⟩
        clear HC
        replace hbx := hbx.keep k0
        replace hbs := hbs.keep k0
        replace hbr := hbr.keep k0
        replace hbo := hbo.keep k0
        replace hbf := hbf.keep k0
        replace hO := hO.keep k0
        replace he := he.keep k0
        replace hr := hr.keep k0
        replace J := J.trans k0
        clear k0
        have k4 := hbx.frozen 7
        obtain ⟨c0, c1, c2, c3, c4, c5, c6, c7, c8⟩ := Blk.c9 hbx
        go_wp2_with fail
        clear k4 c0 c1 c2 c3 c4 c5 c6 c7 c8
        replace hO := own_oth9 hO hbx (by decide) hlx 7 (.slice ae z.x.echoes.length ce)
        replace he := he.set hbx (by decide) 7 (.slice ae z.x.echoes.length ce)
        replace hr := hr.set hbx (by decide) 7 (.slice ae z.x.echoes.length ce)
        replace hbs := hbs.setOther n2 7 (.slice ae z.x.echoes.length ce)
        replace hbr := hbr.setOther n1 7 (.slice ae z.x.echoes.length ce)
        replace hbo := hbo.setOther n3 7 (.slice ae z.x.echoes.length ce)
        replace hbf := hbf.setOther n4 7 (.slice ae z.x.echoes.length ce)
        replace J := keeps_set J hlx 7 (.slice ae z.x.echoes.length ce)
        replace hbx := hbx.set 7 (.slice ae z.x.echoes.length ce)
        simp only [List.setIfInBounds_toArray, List.set_cons_succ, List.set_cons_zero] at hbx
        generalize X1.setCell ⟨BX, 7, none⟩ (.slice ae z.x.echoes.length ce) = X2 at *
        have hend : ∃ (z2 : NA) (out2 : List Ct) (ov2 : Value), BN X2 BX z2 ∧ NOk X2 z2 ∧ Own 145 4 w X2 ov2 out2.length (cl out2) ∧ Blk X2 BO 73 #[ov2] ∧ z2.x = (handle f b z.x i 2 v).1 ∧ out2 = (handle f b z.x i 2 v).2 := ⟨⟨z.x, ae, ce, ar, cr⟩, [], _, hbx, ⟨he, hr⟩, hO, hbo, (congrArg Prod.fst HV.out).symm, (congrArg Prod.snd HV.out).symm⟩
        clear hbx he hr hO hbo HV
        obtain ⟨z2, out2, ov2, hbx, hN, hO, hbo, e1, e2⟩ := hend
        have E1 := Lib.hid e1
        have E2 := Lib.hid e2
        clear e1 e2
        unfold BN at hbx
        obtain ⟨ao, co, rfl, _⟩ := hO.rd
        obtain ⟨no, hno⟩ : ∃ no, no = out2.length := ⟨_, rfl⟩
        rw [← hno] at hO hbo
        clear hbs hbf
        have k0 := (Keeps.refl X2).drew
        replace hbx := hbx.keep k0
        replace hbr := hbr.keep k0
        replace hbo := hbo.keep k0
        replace hO := hO.keep k0
        replace hN := hN.tyf (.of k0)
        clear k0
        refine wp_region_held_drew (S := (fun w' => w'.cell? ⟨BX, 0, none⟩ = some (.int .i64 z2.x.id) ∧ w'.cell? ⟨BX, 1, none⟩ = some (.string z2.x.echoed) ∧ w'.cell? ⟨BX, 2, none⟩ = some (.bool z2.x.hasE) ∧ w'.cell? ⟨BX, 3, none⟩ = some (.string z2.x.readied) ∧ w'.cell? ⟨BX, 4, none⟩ = some (.bool z2.x.hasR) ∧ w'.cell? ⟨BX, 5, none⟩ = some (.string z2.x.delivered) ∧ w'.cell? ⟨BX, 6, none⟩ = some (.bool z2.x.hasD) ∧ w'.cell? ⟨BX, 7, none⟩ = some (.slice z2.ae z2.x.echoes.length z2.ce) ∧ w'.cell? ⟨BX, 8, none⟩ = some (.slice z2.ar z2.x.readies.length z2.cr) ∧ w'.cell? ⟨BO, 0, none⟩ = some (.slice ao no co))) (by kernel_rfl) ?_ (fun hHeld => ?_)
        · exact ⟨hbx.cell 0 rfl, hbx.cell 1 rfl, hbx.cell 2 rfl, hbx.cell 3 rfl, hbx.cell 4 rfl, hbx.cell 5 rfl, hbx.cell 6 rfl, hbx.cell 7 rfl, hbx.cell 8 rfl, hbo.cell 0 rfl⟩
        generalize X2.drew = Y0 at *
        refine wpAnyH_take (i := 0) (oi := ⟨_, _, _, _, _, _⟩) (v := ?_) rfl (by kernel_rfl) (by kernel_rfl) (by kernel_rfl) (fun _ _ _ h => h) (Or.inl ⟨by rfl, ?_⟩) (by assumption) ?_
        rotate_left 1
        · intro w hSw; (try dsimp only at hSw); go_simp <;> with_reducible rfl
        (try simp only [Act.put]); (try simp only [List.setIfInBounds_toArray]); (try simp only [List.set_cons_succ]); (try simp only [List.set_cons_zero])
        refine wpAnyH_take (i := 1) (oi := ⟨_, _, _, _, _, _⟩) (v := ?_) rfl (by kernel_rfl) (by kernel_rfl) (by kernel_rfl) (fun _ _ _ h => h) (Or.inl ⟨by rfl, ?_⟩) (by assumption) ?_
        rotate_left 1
        · intro w hSw; (try dsimp only at hSw); go_simp <;> with_reducible rfl
        (try simp only [Act.put]); (try simp only [List.setIfInBounds_toArray]); (try simp only [List.set_cons_succ]); (try simp only [List.set_cons_zero])
        refine wpAnyH_ready (rs := [2]) (by kernel_rfl) (by simp) ?_
        refine AllReadyH.cons (o := ⟨_, _, _, _, _, _⟩) rfl (fun K hK => ?_) AllReadyH.nil
        obtain ⟨g0, g1, g2, g3, g4, g5, g6, g7, g8⟩ := hbr.f9
        obtain ⟨d0, d1, d2, d3, d4, d5, d6, d7, d8⟩ := Blk.c9 hbr
        go_simp
        clear d0 d1 d2 d3 d4 d5 d6 d7 d8
        clear g0 g1 g2 g3 g4 g5 g6 g7 g8
        replace hO := own_other9 hO hbr (by decide) hlr (.int .i64 z2.x.id) (.string z2.x.echoed) (.bool z2.x.hasE) (.string z2.x.readied) (.bool z2.x.hasR) (.string z2.x.delivered) (.bool z2.x.hasD) (.slice z2.ae z2.x.echoes.length z2.ce) (.slice z2.ar z2.x.readies.length z2.cr)
        replace hN := nok_set9 hN hbr (by decide) (.int .i64 z2.x.id) (.string z2.x.echoed) (.bool z2.x.hasE) (.string z2.x.readied) (.bool z2.x.hasR) (.string z2.x.delivered) (.bool z2.x.hasD) (.slice z2.ae z2.x.echoes.length z2.ce) (.slice z2.ar z2.x.readies.length z2.cr)
        replace hbx := hbx.other9 (Ne.symm n1) (.int .i64 z2.x.id) (.string z2.x.echoed) (.bool z2.x.hasE) (.string z2.x.readied) (.bool z2.x.hasR) (.string z2.x.delivered) (.bool z2.x.hasD) (.slice z2.ae z2.x.echoes.length z2.ce) (.slice z2.ar z2.x.readies.length z2.cr)
        replace hbo := hbo.other9 n5 (.int .i64 z2.x.id) (.string z2.x.echoed) (.bool z2.x.hasE) (.string z2.x.readied) (.bool z2.x.hasR) (.string z2.x.delivered) (.bool z2.x.hasD) (.slice z2.ae z2.x.echoes.length z2.ce) (.slice z2.ar z2.x.readies.length z2.cr)
        replace hbr := hbr.set9 (.int .i64 z2.x.id) (.string z2.x.echoed) (.bool z2.x.hasE) (.string z2.x.readied) (.bool z2.x.hasR) (.string z2.x.delivered) (.bool z2.x.hasD) (.slice z2.ae z2.x.echoes.length z2.ce) (.slice z2.ar z2.x.readies.length z2.cr)
        generalize (((((((((Y0.setCell ⟨BR, 0, none⟩ (.int .i64 z2.x.id)).setCell ⟨BR, 1, none⟩ (.string z2.x.echoed)).setCell ⟨BR, 2, none⟩ (.bool z2.x.hasE)).setCell ⟨BR, 3, none⟩ (.string z2.x.readied)).setCell ⟨BR, 4, none⟩ (.bool z2.x.hasR)).setCell ⟨BR, 5, none⟩ (.string z2.x.delivered)).setCell ⟨BR, 6, none⟩ (.bool z2.x.hasD)).setCell ⟨BR, 7, none⟩ (.slice z2.ae z2.x.echoes.length z2.ce)).setCell ⟨BR, 8, none⟩ (.slice z2.ar z2.x.readies.length z2.cr)) = Y1 at *
        refine hK.out _ _ ?_ (fun hHeld => ?_)
        · exact ⟨hbx.cell 0 rfl, hbx.cell 1 rfl, hbx.cell 2 rfl, hbx.cell 3 rfl, hbx.cell 4 rfl, hbx.cell 5 rfl, hbx.cell 6 rfl, hbx.cell 7 rfl, hbx.cell 8 rfl, hbo.cell 0 rfl⟩
        clear hK K
        (try simp only [Act.put]); (try simp only [List.setIfInBounds_toArray]); (try simp only [List.set_cons_succ]); (try simp only [List.set_cons_zero])
        refine wpAnyH_take (i := 3) (oi := ⟨_, _, _, _, _, _⟩) (v := ?_) rfl (by kernel_rfl) (by kernel_rfl) (by kernel_rfl) (fun _ _ _ h => h) (Or.inl ⟨by rfl, ?_⟩) (by assumption) ?_
        rotate_left 1
        · intro w hSw; (try dsimp only at hSw); go_simp <;> with_reducible rfl
        (try simp only [Act.put]); (try simp only [List.setIfInBounds_toArray]); (try simp only [List.set_cons_succ]); (try simp only [List.set_cons_zero])
        refine wpAnyH_done (by kernel_rfl) ?_ _
        go_wp2_with fail
        refine bodyPost_ret (resNode (z := z2) rfl hbr rfl rfl) rfl ?_
        refine ⟨z2, _, rfl, E1.out, hN, ?_⟩
        rw [← E2.out, ← hno]
        exact hO
      | false =>
        have HK := Lib.hid hk
        clear hk
        have hc := add9_any ae ce z.x.echoes i v V he.rd (by omega) (by omega) HK.out
        have HC := Lib.hid hc
        clear hc
        obtain ⟨c0, c1, c2, c3, c4, c5, c6, c7, c8⟩ := Blk.c9 hbx
        have f0 := hbs.cell 0 rfl
        go_wp2_with fail
        clear f0
        clear c0 c1 c2 c3 c4 c5 c6 c7 c8
        refine HC.out.mono ?_
        rintro e X1 ⟨u1, rfl, hA⟩
        clear HC
        have k0 := hA.2
        replace hbx := hbx.keep k0
        replace hbs := hbs.keep k0
        replace hbr := hbr.keep k0
        replace hbo := hbo.keep k0
        replace hbf := hbf.keep k0
        replace hO := hO.keep k0
        replace he := he.keep k0
        replace hr := hr.keep k0
        replace J := J.trans k0
        clear k0
        obtain ⟨au, cu, rfl, _⟩ := hA.rd
        replace hA := hA.row0
        obtain ⟨P, hP⟩ : ∃ P, P = putH z.x.echoes i v := ⟨_, rfl⟩
        rw [← hP] at hA ⊢
        have HP := Lib.hid hP
        clear hP
        have k4 := hbx.frozen 7
        obtain ⟨c0, c1, c2, c3, c4, c5, c6, c7, c8⟩ := Blk.c9 hbx
        have f0 := hbs.cell 0 rfl
        have hch := fun (W : World) (hW : Rd W au P.length cu 2 (hl P)) => heard9_any au P.length cu P v W hW
        have HH := Lib.hid hch
        clear hch
        go_wp2_with fail
        clear k4 f0 c0 c1 c2 c3 c4 c5 c6 c7 c8
        replace hA := hA.set hbx (by decide) 7 (.slice au P.length cu)
        replace hO := own_oth9 hO hbx (by decide) hlx 7 (.slice au P.length cu)
        replace he := he.set hbx (by decide) 7 (.slice au P.length cu)
        replace hr := hr.set hbx (by decide) 7 (.slice au P.length cu)
        replace hbs := hbs.setOther n2 7 (.slice au P.length cu)
        replace hbr := hbr.setOther n1 7 (.slice au P.length cu)
        replace hbo := hbo.setOther n3 7 (.slice au P.length cu)
        replace hbf := hbf.setOther n4 7 (.slice au P.length cu)
        replace J := keeps_set J hlx 7 (.slice au P.length cu)
        replace hbx := hbx.set 7 (.slice au P.length cu)
        simp only [List.setIfInBounds_toArray, List.set_cons_succ, List.set_cons_zero] at hbx
        generalize X1.setCell ⟨BX, 7, none⟩ (.slice au P.length cu) = X2 at *
        replace he := hA
        clear hA
        skip
        refine (HH.out _ he.rd).mono ?_
        rintro e X3 ⟨rfl, k0⟩
        clear HH
        replace hbx := hbx.keep k0
        replace hbs := hbs.keep k0
        replace hbr := hbr.keep k0
        replace hbo := hbo.keep k0
        replace hbf := hbf.keep k0
        replace hO := hO.keep k0
        replace he := he.keep k0
        replace hr := hr.keep k0
        replace J := J.trans k0
        clear k0
        obtain ⟨s, hsd⟩ : ∃ s, s = getH P v := ⟨_, rfl⟩
        rw [← hsd]
        have HG := Lib.hid hsd
        clear hsd
        have hcc := contains9_any s a1 m1 c1 f X3 (hf.keep J)
        have HCC := Lib.hid hcc
        clear hcc
        go_wp2_with fail
        refine HCC.out.mono ?_
        rintro e X4 ⟨rfl, k0⟩
        clear HCC
        replace hbx := hbx.keep k0
        replace hbs := hbs.keep k0
        replace hbr := hbr.keep k0
        replace hbo := hbo.keep k0
        replace hbf := hbf.keep k0
        replace hO := hO.keep k0
        replace he := he.keep k0
        replace hr := hr.keep k0
        replace J := J.trans k0
        clear k0
        have hc := ready39_any w X4 (accB f s) BO BX BS BF ⟨{ z.x with echoes := P }, au, cu, ar, cr⟩ v _ [] hO hbo hlo hlx hbx hbs hbf (by simp)
        have HC := Lib.hid hc
        clear hc
        have HB := Lib.hid (And.intro hbs (And.intro hbr (And.intro hbf (And.intro he hr))))
        clear hbx hbs hbr hbf he hr hO hbo
        go_wp2_with fail
        refine HC.out.mono ?_
        rintro e X5 ⟨rfl, ov', hO, hbo, hbx, hF⟩
        obtain ⟨hbs, hbr, hbf, he, hr⟩ := HB.out
        replace hbr := hF.2 _ _ _ hbr (by rintro (⟨_, h⟩ | ⟨h, _⟩ | h); exact absurd h (by decide); exact n1 h; exact absurd h (by decide))
        replace hbs := hF.2 _ _ _ hbs (by rintro (⟨_, h⟩ | ⟨_, h⟩ | h) <;> exact absurd h (by decide))
        replace hbf := hF.2 _ _ _ hbf (by rintro (⟨_, h⟩ | ⟨_, h⟩ | h) <;> exact absurd h (by decide))
        replace he := he.frb (by rintro _ (⟨_, h⟩ | ⟨_, h⟩ | h) <;> exact absurd h (by decide)) hF
        replace hr := hr.frb (by rintro _ (⟨_, h⟩ | ⟨_, h⟩ | h) <;> exact absurd h (by decide)) hF
        have J := hO.2
        clear hF HB HC
        obtain ⟨y, hy⟩ : ∃ y, y = (rdy { z.x with echoes := P } (accB f s) v).1 := ⟨_, rfl⟩
        obtain ⟨oy, hoy⟩ : ∃ o, o = (rdy { z.x with echoes := P } (accB f s) v).2 := ⟨_, rfl⟩
        have q1 : y.echoes = P := by rw [hy]; exact (rdy_vals _ _ _).2.1
        have q2 : y.readies = z.x.readies := by rw [hy]; exact (rdy_vals _ _ _).2.2
        rw [List.nil_append, ← hoy] at hO
        rw [← hy] at hbx
        rw [← q1] at he
        rw [← q2] at hr
        have HY := Lib.hid hy
        have HOY := Lib.hid hoy
        clear hy hoy q1 q2
        unfold BN at hbx
        have HV := Lib.hid (show handle f b z.x i 2 v = (y, oy) by unfold handle; rw [if_neg HSRC.out, if_neg (by decide), if_pos rfl, Int.toNat_natCast, if_neg (by rw [HK.out]; simp), ← HP.out, ← HG.out, HY.out, HOY.out])
        go_wp2_with fail
        have hend : ∃ (z2 : NA) (out2 : List Ct) (ov2 : Value), BN X5 BX z2 ∧ NOk X5 z2 ∧ Own 145 4 w X5 ov2 out2.length (cl out2) ∧ Blk X5 BO 73 #[ov2] ∧ z2.x = (handle f b z.x i 2 v).1 ∧ out2 = (handle f b z.x i 2 v).2 := ⟨⟨y, au, cu, ar, cr⟩, oy, _, hbx, ⟨he, hr⟩, hO, hbo, (congrArg Prod.fst HV.out).symm, (congrArg Prod.snd HV.out).symm⟩
        clear hbx he hr hO hbo HV
        obtain ⟨z2, out2, ov2, hbx, hN, hO, hbo, e1, e2⟩ := hend
        have E1 := Lib.hid e1
        have E2 := Lib.hid e2
        clear e1 e2
        unfold BN at hbx
        obtain ⟨ao, co, rfl, _⟩ := hO.rd
        obtain ⟨no, hno⟩ : ∃ no, no = out2.length := ⟨_, rfl⟩
        rw [← hno] at hO hbo
        clear hbs hbf
        have k0 := (Keeps.refl X5).drew
        replace hbx := hbx.keep k0
        replace hbr := hbr.keep k0
        replace hbo := hbo.keep k0
        replace hO := hO.keep k0
        replace hN := hN.tyf (.of k0)
        clear k0
        refine wp_region_held_drew (S := (fun w' => w'.cell? ⟨BX, 0, none⟩ = some (.int .i64 z2.x.id) ∧ w'.cell? ⟨BX, 1, none⟩ = some (.string z2.x.echoed) ∧ w'.cell? ⟨BX, 2, none⟩ = some (.bool z2.x.hasE) ∧ w'.cell? ⟨BX, 3, none⟩ = some (.string z2.x.readied) ∧ w'.cell? ⟨BX, 4, none⟩ = some (.bool z2.x.hasR) ∧ w'.cell? ⟨BX, 5, none⟩ = some (.string z2.x.delivered) ∧ w'.cell? ⟨BX, 6, none⟩ = some (.bool z2.x.hasD) ∧ w'.cell? ⟨BX, 7, none⟩ = some (.slice z2.ae z2.x.echoes.length z2.ce) ∧ w'.cell? ⟨BX, 8, none⟩ = some (.slice z2.ar z2.x.readies.length z2.cr) ∧ w'.cell? ⟨BO, 0, none⟩ = some (.slice ao no co))) (by kernel_rfl) ?_ (fun hHeld => ?_)
        · exact ⟨hbx.cell 0 rfl, hbx.cell 1 rfl, hbx.cell 2 rfl, hbx.cell 3 rfl, hbx.cell 4 rfl, hbx.cell 5 rfl, hbx.cell 6 rfl, hbx.cell 7 rfl, hbx.cell 8 rfl, hbo.cell 0 rfl⟩
        generalize X5.drew = Y0 at *
        refine wpAnyH_take (i := 0) (oi := ⟨_, _, _, _, _, _⟩) (v := ?_) rfl (by kernel_rfl) (by kernel_rfl) (by kernel_rfl) (fun _ _ _ h => h) (Or.inl ⟨by rfl, ?_⟩) (by assumption) ?_
        rotate_left 1
        · intro w hSw; (try dsimp only at hSw); go_simp <;> with_reducible rfl
        (try simp only [Act.put]); (try simp only [List.setIfInBounds_toArray]); (try simp only [List.set_cons_succ]); (try simp only [List.set_cons_zero])
        refine wpAnyH_take (i := 1) (oi := ⟨_, _, _, _, _, _⟩) (v := ?_) rfl (by kernel_rfl) (by kernel_rfl) (by kernel_rfl) (fun _ _ _ h => h) (Or.inl ⟨by rfl, ?_⟩) (by assumption) ?_
        rotate_left 1
        · intro w hSw; (try dsimp only at hSw); go_simp <;> with_reducible rfl
        (try simp only [Act.put]); (try simp only [List.setIfInBounds_toArray]); (try simp only [List.set_cons_succ]); (try simp only [List.set_cons_zero])
        refine wpAnyH_ready (rs := [2]) (by kernel_rfl) (by simp) ?_
        refine AllReadyH.cons (o := ⟨_, _, _, _, _, _⟩) rfl (fun K hK => ?_) AllReadyH.nil
        obtain ⟨g0, g1, g2, g3, g4, g5, g6, g7, g8⟩ := hbr.f9
        obtain ⟨d0, d1, d2, d3, d4, d5, d6, d7, d8⟩ := Blk.c9 hbr
        go_simp
        clear d0 d1 d2 d3 d4 d5 d6 d7 d8
        clear g0 g1 g2 g3 g4 g5 g6 g7 g8
        replace hO := own_other9 hO hbr (by decide) hlr (.int .i64 z2.x.id) (.string z2.x.echoed) (.bool z2.x.hasE) (.string z2.x.readied) (.bool z2.x.hasR) (.string z2.x.delivered) (.bool z2.x.hasD) (.slice z2.ae z2.x.echoes.length z2.ce) (.slice z2.ar z2.x.readies.length z2.cr)
        replace hN := nok_set9 hN hbr (by decide) (.int .i64 z2.x.id) (.string z2.x.echoed) (.bool z2.x.hasE) (.string z2.x.readied) (.bool z2.x.hasR) (.string z2.x.delivered) (.bool z2.x.hasD) (.slice z2.ae z2.x.echoes.length z2.ce) (.slice z2.ar z2.x.readies.length z2.cr)
        replace hbx := hbx.other9 (Ne.symm n1) (.int .i64 z2.x.id) (.string z2.x.echoed) (.bool z2.x.hasE) (.string z2.x.readied) (.bool z2.x.hasR) (.string z2.x.delivered) (.bool z2.x.hasD) (.slice z2.ae z2.x.echoes.length z2.ce) (.slice z2.ar z2.x.readies.length z2.cr)
        replace hbo := hbo.other9 n5 (.int .i64 z2.x.id) (.string z2.x.echoed) (.bool z2.x.hasE) (.string z2.x.readied) (.bool z2.x.hasR) (.string z2.x.delivered) (.bool z2.x.hasD) (.slice z2.ae z2.x.echoes.length z2.ce) (.slice z2.ar z2.x.readies.length z2.cr)
        replace hbr := hbr.set9 (.int .i64 z2.x.id) (.string z2.x.echoed) (.bool z2.x.hasE) (.string z2.x.readied) (.bool z2.x.hasR) (.string z2.x.delivered) (.bool z2.x.hasD) (.slice z2.ae z2.x.echoes.length z2.ce) (.slice z2.ar z2.x.readies.length z2.cr)
        generalize (((((((((Y0.setCell ⟨BR, 0, none⟩ (.int .i64 z2.x.id)).setCell ⟨BR, 1, none⟩ (.string z2.x.echoed)).setCell ⟨BR, 2, none⟩ (.bool z2.x.hasE)).setCell ⟨BR, 3, none⟩ (.string z2.x.readied)).setCell ⟨BR, 4, none⟩ (.bool z2.x.hasR)).setCell ⟨BR, 5, none⟩ (.string z2.x.delivered)).setCell ⟨BR, 6, none⟩ (.bool z2.x.hasD)).setCell ⟨BR, 7, none⟩ (.slice z2.ae z2.x.echoes.length z2.ce)).setCell ⟨BR, 8, none⟩ (.slice z2.ar z2.x.readies.length z2.cr)) = Y1 at *
        refine hK.out _ _ ?_ (fun hHeld => ?_)
        · exact ⟨hbx.cell 0 rfl, hbx.cell 1 rfl, hbx.cell 2 rfl, hbx.cell 3 rfl, hbx.cell 4 rfl, hbx.cell 5 rfl, hbx.cell 6 rfl, hbx.cell 7 rfl, hbx.cell 8 rfl, hbo.cell 0 rfl⟩
        clear hK K
        (try simp only [Act.put]); (try simp only [List.setIfInBounds_toArray]); (try simp only [List.set_cons_succ]); (try simp only [List.set_cons_zero])
        refine wpAnyH_take (i := 3) (oi := ⟨_, _, _, _, _, _⟩) (v := ?_) rfl (by kernel_rfl) (by kernel_rfl) (by kernel_rfl) (fun _ _ _ h => h) (Or.inl ⟨by rfl, ?_⟩) (by assumption) ?_
        rotate_left 1
        · intro w hSw; (try dsimp only at hSw); go_simp <;> with_reducible rfl
        (try simp only [Act.put]); (try simp only [List.setIfInBounds_toArray]); (try simp only [List.set_cons_succ]); (try simp only [List.set_cons_zero])
        refine wpAnyH_done (by kernel_rfl) ?_ _
        go_wp2_with fail
        refine bodyPost_ret (resNode (z := z2) rfl hbr rfl rfl) rfl ?_
        refine ⟨z2, _, rfl, E1.out, hN, ?_⟩
        rw [← E2.out, ← hno]
        exact hO
    have b2 : (kind == 2) = false := beq_eq_false_iff_ne.2 k2
    by_cases k3 : kind = 3
    · subst k3
      cases hk : knows z.x.readies i with
      | true =>
        have HV := Lib.hid (show handle f b z.x i 3 v = (z.x, []) by unfold handle; rw [if_neg HSRC.out, if_neg (by decide), if_neg (by decide), if_pos rfl, Int.toNat_natCast, if_pos hk])
        have hc := addOld9_any ar cr z.x.readies i v V hr.rd (by omega) hk
        have HC := Lib.hid hc
        clear hc hk
        obtain ⟨c0, c1, c2, c3, c4, c5, c6, c7, c8⟩ := Blk.c9 hbx
        have f0 := hbs.cell 0 rfl
        go_wp2_with fail
        clear f0
        clear c0 c1 c2 c3 c4 c5 c6 c7 c8
        refine HC.out.mono ?_
        rintro e X1 ⟨rfl, k0⟩
        clear HC
        replace hbx := hbx.keep k0
        replace hbs := hbs.keep k0
        replace hbr := hbr.keep k0
        replace hbo := hbo.keep k0
        replace hbf := hbf.keep k0
        replace hO := hO.keep k0
        replace he := he.keep k0
        replace hr := hr.keep k0
        replace J := J.trans k0
        clear k0
        have k4 := hbx.frozen 8
        obtain ⟨c0, c1, c2, c3, c4, c5, c6, c7, c8⟩ := Blk.c9 hbx
        go_wp2_with fail
        clear k4 c0 c1 c2 c3 c4 c5 c6 c7 c8
        replace hO := own_oth9 hO hbx (by decide) hlx 8 (.slice ar z.x.readies.length cr)
        replace he := he.set hbx (by decide) 8 (.slice ar z.x.readies.length cr)
        replace hr := hr.set hbx (by decide) 8 (.slice ar z.x.readies.length cr)
        replace hbs := hbs.setOther n2 8 (.slice ar z.x.readies.length cr)
        replace hbr := hbr.setOther n1 8 (.slice ar z.x.readies.length cr)
        replace hbo := hbo.setOther n3 8 (.slice ar z.x.readies.length cr)
        replace hbf := hbf.setOther n4 8 (.slice ar z.x.readies.length cr)
        replace J := keeps_set J hlx 8 (.slice ar z.x.readies.length cr)
        replace hbx := hbx.set 8 (.slice ar z.x.readies.length cr)
        simp only [List.setIfInBounds_toArray, List.set_cons_succ, List.set_cons_zero] at hbx
        generalize X1.setCell ⟨BX, 8, none⟩ (.slice ar z.x.readies.length cr) = X2 at *
        have hend : ∃ (z2 : NA) (out2 : List Ct) (ov2 : Value), BN X2 BX z2 ∧ NOk X2 z2 ∧ Own 145 4 w X2 ov2 out2.length (cl out2) ∧ Blk X2 BO 73 #[ov2] ∧ z2.x = (handle f b z.x i 3 v).1 ∧ out2 = (handle f b z.x i 3 v).2 := ⟨⟨z.x, ae, ce, ar, cr⟩, [], _, hbx, ⟨he, hr⟩, hO, hbo, (congrArg Prod.fst HV.out).symm, (congrArg Prod.snd HV.out).symm⟩
        clear hbx he hr hO hbo HV
        obtain ⟨z2, out2, ov2, hbx, hN, hO, hbo, e1, e2⟩ := hend
        have E1 := Lib.hid e1
        have E2 := Lib.hid e2
        clear e1 e2
        unfold BN at hbx
        obtain ⟨ao, co, rfl, _⟩ := hO.rd
        obtain ⟨no, hno⟩ : ∃ no, no = out2.length := ⟨_, rfl⟩
        rw [← hno] at hO hbo
        clear hbs hbf
        have k0 := (Keeps.refl X2).drew
        replace hbx := hbx.keep k0
        replace hbr := hbr.keep k0
        replace hbo := hbo.keep k0
        replace hO := hO.keep k0
        replace hN := hN.tyf (.of k0)
        clear k0
        refine wp_region_held_drew (S := (fun w' => w'.cell? ⟨BX, 0, none⟩ = some (.int .i64 z2.x.id) ∧ w'.cell? ⟨BX, 1, none⟩ = some (.string z2.x.echoed) ∧ w'.cell? ⟨BX, 2, none⟩ = some (.bool z2.x.hasE) ∧ w'.cell? ⟨BX, 3, none⟩ = some (.string z2.x.readied) ∧ w'.cell? ⟨BX, 4, none⟩ = some (.bool z2.x.hasR) ∧ w'.cell? ⟨BX, 5, none⟩ = some (.string z2.x.delivered) ∧ w'.cell? ⟨BX, 6, none⟩ = some (.bool z2.x.hasD) ∧ w'.cell? ⟨BX, 7, none⟩ = some (.slice z2.ae z2.x.echoes.length z2.ce) ∧ w'.cell? ⟨BX, 8, none⟩ = some (.slice z2.ar z2.x.readies.length z2.cr) ∧ w'.cell? ⟨BO, 0, none⟩ = some (.slice ao no co))) (by kernel_rfl) ?_ (fun hHeld => ?_)
        · exact ⟨hbx.cell 0 rfl, hbx.cell 1 rfl, hbx.cell 2 rfl, hbx.cell 3 rfl, hbx.cell 4 rfl, hbx.cell 5 rfl, hbx.cell 6 rfl, hbx.cell 7 rfl, hbx.cell 8 rfl, hbo.cell 0 rfl⟩
        generalize X2.drew = Y0 at *
        refine wpAnyH_take (i := 0) (oi := ⟨_, _, _, _, _, _⟩) (v := ?_) rfl (by kernel_rfl) (by kernel_rfl) (by kernel_rfl) (fun _ _ _ h => h) (Or.inl ⟨by rfl, ?_⟩) (by assumption) ?_
        rotate_left 1
        · intro w hSw; (try dsimp only at hSw); go_simp <;> with_reducible rfl
        (try simp only [Act.put]); (try simp only [List.setIfInBounds_toArray]); (try simp only [List.set_cons_succ]); (try simp only [List.set_cons_zero])
        refine wpAnyH_take (i := 1) (oi := ⟨_, _, _, _, _, _⟩) (v := ?_) rfl (by kernel_rfl) (by kernel_rfl) (by kernel_rfl) (fun _ _ _ h => h) (Or.inl ⟨by rfl, ?_⟩) (by assumption) ?_
        rotate_left 1
        · intro w hSw; (try dsimp only at hSw); go_simp <;> with_reducible rfl
        (try simp only [Act.put]); (try simp only [List.setIfInBounds_toArray]); (try simp only [List.set_cons_succ]); (try simp only [List.set_cons_zero])
        refine wpAnyH_ready (rs := [2]) (by kernel_rfl) (by simp) ?_
        refine AllReadyH.cons (o := ⟨_, _, _, _, _, _⟩) rfl (fun K hK => ?_) AllReadyH.nil
        obtain ⟨g0, g1, g2, g3, g4, g5, g6, g7, g8⟩ := hbr.f9
        obtain ⟨d0, d1, d2, d3, d4, d5, d6, d7, d8⟩ := Blk.c9 hbr
        go_simp
        clear d0 d1 d2 d3 d4 d5 d6 d7 d8
        clear g0 g1 g2 g3 g4 g5 g6 g7 g8
        replace hO := own_other9 hO hbr (by decide) hlr (.int .i64 z2.x.id) (.string z2.x.echoed) (.bool z2.x.hasE) (.string z2.x.readied) (.bool z2.x.hasR) (.string z2.x.delivered) (.bool z2.x.hasD) (.slice z2.ae z2.x.echoes.length z2.ce) (.slice z2.ar z2.x.readies.length z2.cr)
        replace hN := nok_set9 hN hbr (by decide) (.int .i64 z2.x.id) (.string z2.x.echoed) (.bool z2.x.hasE) (.string z2.x.readied) (.bool z2.x.hasR) (.string z2.x.delivered) (.bool z2.x.hasD) (.slice z2.ae z2.x.echoes.length z2.ce) (.slice z2.ar z2.x.readies.length z2.cr)
        replace hbx := hbx.other9 (Ne.symm n1) (.int .i64 z2.x.id) (.string z2.x.echoed) (.bool z2.x.hasE) (.string z2.x.readied) (.bool z2.x.hasR) (.string z2.x.delivered) (.bool z2.x.hasD) (.slice z2.ae z2.x.echoes.length z2.ce) (.slice z2.ar z2.x.readies.length z2.cr)
        replace hbo := hbo.other9 n5 (.int .i64 z2.x.id) (.string z2.x.echoed) (.bool z2.x.hasE) (.string z2.x.readied) (.bool z2.x.hasR) (.string z2.x.delivered) (.bool z2.x.hasD) (.slice z2.ae z2.x.echoes.length z2.ce) (.slice z2.ar z2.x.readies.length z2.cr)
        replace hbr := hbr.set9 (.int .i64 z2.x.id) (.string z2.x.echoed) (.bool z2.x.hasE) (.string z2.x.readied) (.bool z2.x.hasR) (.string z2.x.delivered) (.bool z2.x.hasD) (.slice z2.ae z2.x.echoes.length z2.ce) (.slice z2.ar z2.x.readies.length z2.cr)
        generalize (((((((((Y0.setCell ⟨BR, 0, none⟩ (.int .i64 z2.x.id)).setCell ⟨BR, 1, none⟩ (.string z2.x.echoed)).setCell ⟨BR, 2, none⟩ (.bool z2.x.hasE)).setCell ⟨BR, 3, none⟩ (.string z2.x.readied)).setCell ⟨BR, 4, none⟩ (.bool z2.x.hasR)).setCell ⟨BR, 5, none⟩ (.string z2.x.delivered)).setCell ⟨BR, 6, none⟩ (.bool z2.x.hasD)).setCell ⟨BR, 7, none⟩ (.slice z2.ae z2.x.echoes.length z2.ce)).setCell ⟨BR, 8, none⟩ (.slice z2.ar z2.x.readies.length z2.cr)) = Y1 at *
        refine hK.out _ _ ?_ (fun hHeld => ?_)
        · exact ⟨hbx.cell 0 rfl, hbx.cell 1 rfl, hbx.cell 2 rfl, hbx.cell 3 rfl, hbx.cell 4 rfl, hbx.cell 5 rfl, hbx.cell 6 rfl, hbx.cell 7 rfl, hbx.cell 8 rfl, hbo.cell 0 rfl⟩
        clear hK K
        (try simp only [Act.put]); (try simp only [List.setIfInBounds_toArray]); (try simp only [List.set_cons_succ]); (try simp only [List.set_cons_zero])
        refine wpAnyH_take (i := 3) (oi := ⟨_, _, _, _, _, _⟩) (v := ?_) rfl (by kernel_rfl) (by kernel_rfl) (by kernel_rfl) (fun _ _ _ h => h) (Or.inl ⟨by rfl, ?_⟩) (by assumption) ?_
        rotate_left 1
        · intro w hSw; (try dsimp only at hSw); go_simp <;> with_reducible rfl
        (try simp only [Act.put]); (try simp only [List.setIfInBounds_toArray]); (try simp only [List.set_cons_succ]); (try simp only [List.set_cons_zero])
        refine wpAnyH_done (by kernel_rfl) ?_ _
        go_wp2_with fail
        refine bodyPost_ret (resNode (z := z2) rfl hbr rfl rfl) rfl ?_
        refine ⟨z2, _, rfl, E1.out, hN, ?_⟩
        rw [← E2.out, ← hno]
        exact hO
      | false =>
        have HK := Lib.hid hk
        clear hk
        have hc := add9_any ar cr z.x.readies i v V hr.rd (by omega) (by omega) HK.out
        have HC := Lib.hid hc
        clear hc
        obtain ⟨c0, c1, c2, c3, c4, c5, c6, c7, c8⟩ := Blk.c9 hbx
        have f0 := hbs.cell 0 rfl
        go_wp2_with fail
        clear f0
        clear c0 c1 c2 c3 c4 c5 c6 c7 c8
        refine HC.out.mono ?_
        rintro e X1 ⟨u1, rfl, hA⟩
        clear HC
        have k0 := hA.2
        replace hbx := hbx.keep k0
        replace hbs := hbs.keep k0
        replace hbr := hbr.keep k0
        replace hbo := hbo.keep k0
        replace hbf := hbf.keep k0
        replace hO := hO.keep k0
        replace he := he.keep k0
        replace hr := hr.keep k0
        replace J := J.trans k0
        clear k0
        obtain ⟨au, cu, rfl, _⟩ := hA.rd
        replace hA := hA.row0
        obtain ⟨P, hP⟩ : ∃ P, P = putH z.x.readies i v := ⟨_, rfl⟩
        rw [← hP] at hA ⊢
        have HP := Lib.hid hP
        clear hP
        have k4 := hbx.frozen 8
        obtain ⟨c0, c1, c2, c3, c4, c5, c6, c7, c8⟩ := Blk.c9 hbx
        have f0 := hbs.cell 0 rfl
        have hch := fun (W : World) (hW : Rd W au P.length cu 2 (hl P)) => heard9_any au P.length cu P v W hW
        have HH := Lib.hid hch
        clear hch
        go_wp2_with fail
        clear k4 f0 c0 c1 c2 c3 c4 c5 c6 c7 c8
        replace hA := hA.set hbx (by decide) 8 (.slice au P.length cu)
        replace hO := own_oth9 hO hbx (by decide) hlx 8 (.slice au P.length cu)
        replace he := he.set hbx (by decide) 8 (.slice au P.length cu)
        replace hr := hr.set hbx (by decide) 8 (.slice au P.length cu)
        replace hbs := hbs.setOther n2 8 (.slice au P.length cu)
        replace hbr := hbr.setOther n1 8 (.slice au P.length cu)
        replace hbo := hbo.setOther n3 8 (.slice au P.length cu)
        replace hbf := hbf.setOther n4 8 (.slice au P.length cu)
        replace J := keeps_set J hlx 8 (.slice au P.length cu)
        replace hbx := hbx.set 8 (.slice au P.length cu)
        simp only [List.setIfInBounds_toArray, List.set_cons_succ, List.set_cons_zero] at hbx
        generalize X1.setCell ⟨BX, 8, none⟩ (.slice au P.length cu) = X2 at *
        replace hr := hA
        clear hA
        skip
        refine (HH.out _ hr.rd).mono ?_
        rintro e X3 ⟨rfl, k0⟩
        clear HH
        replace hbx := hbx.keep k0
        replace hbs := hbs.keep k0
        replace hbr := hbr.keep k0
        replace hbo := hbo.keep k0
        replace hbf := hbf.keep k0
        replace hO := hO.keep k0
        replace he := he.keep k0
        replace hr := hr.keep k0
        replace J := J.trans k0
        clear k0
        obtain ⟨s, hsd⟩ : ∃ s, s = getH P v := ⟨_, rfl⟩
        rw [← hsd]
        have HG := Lib.hid hsd
        clear hsd
        have hcc := within9_any s a2 m2 c2 b X3 (hb.keep J)
        have HCC := Lib.hid hcc
        clear hcc
        go_wp2_with fail
        refine HCC.out.mono ?_
        rintro e X4 ⟨rfl, k0⟩
        clear HCC
        replace hbx := hbx.keep k0
        replace hbs := hbs.keep k0
        replace hbr := hbr.keep k0
        replace hbo := hbo.keep k0
        replace hbf := hbf.keep k0
        replace hO := hO.keep k0
        replace he := he.keep k0
        replace hr := hr.keep k0
        replace J := J.trans k0
        clear k0
        have hc := ready39_any w X4 (!posB b s) BO BX BS BF ⟨{ z.x with readies := P }, ae, ce, au, cu⟩ v _ [] hO hbo hlo hlx hbx hbs hbf (by simp)
        have HC := Lib.hid hc
        clear hc
        have HB := Lib.hid (And.intro hbs (And.intro hbr (And.intro hbf (And.intro he hr))))
        clear hbx hbs hbr hbf he hr hO hbo
        go_wp2_with fail
        refine HC.out.mono ?_
        rintro e X5 ⟨rfl, ov', hO, hbo, hbx, hF⟩
        obtain ⟨hbs, hbr, hbf, he, hr⟩ := HB.out
        replace hbr := hF.2 _ _ _ hbr (by rintro (⟨_, h⟩ | ⟨h, _⟩ | h); exact absurd h (by decide); exact n1 h; exact absurd h (by decide))
        replace hbs := hF.2 _ _ _ hbs (by rintro (⟨_, h⟩ | ⟨_, h⟩ | h) <;> exact absurd h (by decide))
        replace hbf := hF.2 _ _ _ hbf (by rintro (⟨_, h⟩ | ⟨_, h⟩ | h) <;> exact absurd h (by decide))
        replace he := he.frb (by rintro _ (⟨_, h⟩ | ⟨_, h⟩ | h) <;> exact absurd h (by decide)) hF
        replace hr := hr.frb (by rintro _ (⟨_, h⟩ | ⟨_, h⟩ | h) <;> exact absurd h (by decide)) hF
        have J := hO.2
        clear hF HB HC
        obtain ⟨y, hy⟩ : ∃ y, y = (rdy { z.x with readies := P } (!posB b s) v).1 := ⟨_, rfl⟩
        obtain ⟨oy, hoy⟩ : ∃ o, o = (rdy { z.x with readies := P } (!posB b s) v).2 := ⟨_, rfl⟩
        have q1 : y.echoes = z.x.echoes := by rw [hy]; exact (rdy_vals _ _ _).2.1
        have q2 : y.readies = P := by rw [hy]; exact (rdy_vals _ _ _).2.2
        rw [List.nil_append, ← hoy] at hO
        rw [← hy] at hbx
        rw [← q1] at he
        rw [← q2] at hr
        have HY := Lib.hid hy
        have HOY := Lib.hid hoy
        clear hy hoy q1 q2
        unfold BN at hbx
        cases hD : y.hasD with
        | true =>
          have HV := Lib.hid (show handle f b z.x i 3 v = (y, oy) by unfold handle; rw [if_neg HSRC.out, if_neg (by decide), if_neg (by decide), if_pos rfl, Int.toNat_natCast, if_neg (by rw [HK.out]; simp), ← HP.out]; dsimp only; rw [← HG.out, ← HY.out, ← HOY.out, if_neg (by rw [hD]; simp)])
          obtain ⟨c0, c1, c2, c3, c4, c5, c6, c7, c8⟩ := Blk.c9 hbx
          rw [hD] at c6
          clear hD
          go_wp2_with fail
          clear c0 c1 c2 c3 c4 c5 c6 c7 c8
          have hend : ∃ (z2 : NA) (out2 : List Ct) (ov2 : Value), BN X5 BX z2 ∧ NOk X5 z2 ∧ Own 145 4 w X5 ov2 out2.length (cl out2) ∧ Blk X5 BO 73 #[ov2] ∧ z2.x = (handle f b z.x i 3 v).1 ∧ out2 = (handle f b z.x i 3 v).2 := ⟨⟨y, ae, ce, au, cu⟩, oy, _, hbx, ⟨he, hr⟩, hO, hbo, (congrArg Prod.fst HV.out).symm, (congrArg Prod.snd HV.out).symm⟩
          clear hbx he hr hO hbo HV
          obtain ⟨z2, out2, ov2, hbx, hN, hO, hbo, e1, e2⟩ := hend
          have E1 := Lib.hid e1
          have E2 := Lib.hid e2
          clear e1 e2
          unfold BN at hbx
          obtain ⟨ao, co, rfl, _⟩ := hO.rd
          obtain ⟨no, hno⟩ : ∃ no, no = out2.length := ⟨_, rfl⟩
          rw [← hno] at hO hbo
          clear hbs hbf
          have k0 := (Keeps.refl X5).drew
          replace hbx := hbx.keep k0
          replace hbr := hbr.keep k0
          replace hbo := hbo.keep k0
          replace hO := hO.keep k0
          replace hN := hN.tyf (.of k0)
          clear k0
          refine wp_region_held_drew (S := (fun w' => w'.cell? ⟨BX, 0, none⟩ = some (.int .i64 z2.x.id) ∧ w'.cell? ⟨BX, 1, none⟩ = some (.string z2.x.echoed) ∧ w'.cell? ⟨BX, 2, none⟩ = some (.bool z2.x.hasE) ∧ w'.cell? ⟨BX, 3, none⟩ = some (.string z2.x.readied) ∧ w'.cell? ⟨BX, 4, none⟩ = some (.bool z2.x.hasR) ∧ w'.cell? ⟨BX, 5, none⟩ = some (.string z2.x.delivered) ∧ w'.cell? ⟨BX, 6, none⟩ = some (.bool z2.x.hasD) ∧ w'.cell? ⟨BX, 7, none⟩ = some (.slice z2.ae z2.x.echoes.length z2.ce) ∧ w'.cell? ⟨BX, 8, none⟩ = some (.slice z2.ar z2.x.readies.length z2.cr) ∧ w'.cell? ⟨BO, 0, none⟩ = some (.slice ao no co))) (by kernel_rfl) ?_ (fun hHeld => ?_)
          · exact ⟨hbx.cell 0 rfl, hbx.cell 1 rfl, hbx.cell 2 rfl, hbx.cell 3 rfl, hbx.cell 4 rfl, hbx.cell 5 rfl, hbx.cell 6 rfl, hbx.cell 7 rfl, hbx.cell 8 rfl, hbo.cell 0 rfl⟩
          generalize X5.drew = Y0 at *
          refine wpAnyH_take (i := 0) (oi := ⟨_, _, _, _, _, _⟩) (v := ?_) rfl (by kernel_rfl) (by kernel_rfl) (by kernel_rfl) (fun _ _ _ h => h) (Or.inl ⟨by rfl, ?_⟩) (by assumption) ?_
          rotate_left 1
          · intro w hSw; (try dsimp only at hSw); go_simp <;> with_reducible rfl
          (try simp only [Act.put]); (try simp only [List.setIfInBounds_toArray]); (try simp only [List.set_cons_succ]); (try simp only [List.set_cons_zero])
          refine wpAnyH_take (i := 1) (oi := ⟨_, _, _, _, _, _⟩) (v := ?_) rfl (by kernel_rfl) (by kernel_rfl) (by kernel_rfl) (fun _ _ _ h => h) (Or.inl ⟨by rfl, ?_⟩) (by assumption) ?_
          rotate_left 1
          · intro w hSw; (try dsimp only at hSw); go_simp <;> with_reducible rfl
          (try simp only [Act.put]); (try simp only [List.setIfInBounds_toArray]); (try simp only [List.set_cons_succ]); (try simp only [List.set_cons_zero])
          refine wpAnyH_ready (rs := [2]) (by kernel_rfl) (by simp) ?_
          refine AllReadyH.cons (o := ⟨_, _, _, _, _, _⟩) rfl (fun K hK => ?_) AllReadyH.nil
          obtain ⟨g0, g1, g2, g3, g4, g5, g6, g7, g8⟩ := hbr.f9
          obtain ⟨d0, d1, d2, d3, d4, d5, d6, d7, d8⟩ := Blk.c9 hbr
          go_simp
          clear d0 d1 d2 d3 d4 d5 d6 d7 d8
          clear g0 g1 g2 g3 g4 g5 g6 g7 g8
          replace hO := own_other9 hO hbr (by decide) hlr (.int .i64 z2.x.id) (.string z2.x.echoed) (.bool z2.x.hasE) (.string z2.x.readied) (.bool z2.x.hasR) (.string z2.x.delivered) (.bool z2.x.hasD) (.slice z2.ae z2.x.echoes.length z2.ce) (.slice z2.ar z2.x.readies.length z2.cr)
          replace hN := nok_set9 hN hbr (by decide) (.int .i64 z2.x.id) (.string z2.x.echoed) (.bool z2.x.hasE) (.string z2.x.readied) (.bool z2.x.hasR) (.string z2.x.delivered) (.bool z2.x.hasD) (.slice z2.ae z2.x.echoes.length z2.ce) (.slice z2.ar z2.x.readies.length z2.cr)
          replace hbx := hbx.other9 (Ne.symm n1) (.int .i64 z2.x.id) (.string z2.x.echoed) (.bool z2.x.hasE) (.string z2.x.readied) (.bool z2.x.hasR) (.string z2.x.delivered) (.bool z2.x.hasD) (.slice z2.ae z2.x.echoes.length z2.ce) (.slice z2.ar z2.x.readies.length z2.cr)
          replace hbo := hbo.other9 n5 (.int .i64 z2.x.id) (.string z2.x.echoed) (.bool z2.x.hasE) (.string z2.x.readied) (.bool z2.x.hasR) (.string z2.x.delivered) (.bool z2.x.hasD) (.slice z2.ae z2.x.echoes.length z2.ce) (.slice z2.ar z2.x.readies.length z2.cr)
          replace hbr := hbr.set9 (.int .i64 z2.x.id) (.string z2.x.echoed) (.bool z2.x.hasE) (.string z2.x.readied) (.bool z2.x.hasR) (.string z2.x.delivered) (.bool z2.x.hasD) (.slice z2.ae z2.x.echoes.length z2.ce) (.slice z2.ar z2.x.readies.length z2.cr)
          generalize (((((((((Y0.setCell ⟨BR, 0, none⟩ (.int .i64 z2.x.id)).setCell ⟨BR, 1, none⟩ (.string z2.x.echoed)).setCell ⟨BR, 2, none⟩ (.bool z2.x.hasE)).setCell ⟨BR, 3, none⟩ (.string z2.x.readied)).setCell ⟨BR, 4, none⟩ (.bool z2.x.hasR)).setCell ⟨BR, 5, none⟩ (.string z2.x.delivered)).setCell ⟨BR, 6, none⟩ (.bool z2.x.hasD)).setCell ⟨BR, 7, none⟩ (.slice z2.ae z2.x.echoes.length z2.ce)).setCell ⟨BR, 8, none⟩ (.slice z2.ar z2.x.readies.length z2.cr)) = Y1 at *
          refine hK.out _ _ ?_ (fun hHeld => ?_)
          · exact ⟨hbx.cell 0 rfl, hbx.cell 1 rfl, hbx.cell 2 rfl, hbx.cell 3 rfl, hbx.cell 4 rfl, hbx.cell 5 rfl, hbx.cell 6 rfl, hbx.cell 7 rfl, hbx.cell 8 rfl, hbo.cell 0 rfl⟩
          clear hK K
          (try simp only [Act.put]); (try simp only [List.setIfInBounds_toArray]); (try simp only [List.set_cons_succ]); (try simp only [List.set_cons_zero])
          refine wpAnyH_take (i := 3) (oi := ⟨_, _, _, _, _, _⟩) (v := ?_) rfl (by kernel_rfl) (by kernel_rfl) (by kernel_rfl) (fun _ _ _ h => h) (Or.inl ⟨by rfl, ?_⟩) (by assumption) ?_
          rotate_left 1
          · intro w hSw; (try dsimp only at hSw); go_simp <;> with_reducible rfl
          (try simp only [Act.put]); (try simp only [List.setIfInBounds_toArray]); (try simp only [List.set_cons_succ]); (try simp only [List.set_cons_zero])
          refine wpAnyH_done (by kernel_rfl) ?_ _
          go_wp2_with fail
          refine bodyPost_ret (resNode (z := z2) rfl hbr rfl rfl) rfl ?_
          refine ⟨z2, _, rfl, E1.out, hN, ?_⟩
          rw [← E2.out, ← hno]
          exact hO
        | false =>
          have hcc := contains9_any s a1 m1 c1 f X5 (hf.keep J)
          have HCC := Lib.hid hcc
          clear hcc
          obtain ⟨c0, c1, c2, c3, c4, c5, c6, c7, c8⟩ := Blk.c9 hbx
          rw [hD] at c6
          go_wp2_with fail
          clear c0 c1 c2 c3 c4 c5 c6 c7 c8
          refine HCC.out.mono ?_
          rintro e X6 ⟨rfl, k0⟩
          clear HCC
          replace hbx := hbx.keep k0
          replace hbs := hbs.keep k0
          replace hbr := hbr.keep k0
          replace hbo := hbo.keep k0
          replace hbf := hbf.keep k0
          replace hO := hO.keep k0
          replace he := he.keep k0
          replace hr := hr.keep k0
          replace J := J.trans k0
          clear k0
          cases hq : accB f s with
          | false =>
            have HV := Lib.hid (show handle f b z.x i 3 v = (y, oy) by unfold handle; rw [if_neg HSRC.out, if_neg (by decide), if_neg (by decide), if_pos rfl, Int.toNat_natCast, if_neg (by rw [HK.out]; simp), ← HP.out]; dsimp only; rw [← HG.out, ← HY.out, ← HOY.out, if_neg (by rw [hq]; simp)])
            clear hD hq
            go_wp2_with fail
            have hend : ∃ (z2 : NA) (out2 : List Ct) (ov2 : Value), BN X6 BX z2 ∧ NOk X6 z2 ∧ Own 145 4 w X6 ov2 out2.length (cl out2) ∧ Blk X6 BO 73 #[ov2] ∧ z2.x = (handle f b z.x i 3 v).1 ∧ out2 = (handle f b z.x i 3 v).2 := ⟨⟨y, ae, ce, au, cu⟩, oy, _, hbx, ⟨he, hr⟩, hO, hbo, (congrArg Prod.fst HV.out).symm, (congrArg Prod.snd HV.out).symm⟩
            clear hbx he hr hO hbo HV
            obtain ⟨z2, out2, ov2, hbx, hN, hO, hbo, e1, e2⟩ := hend
            have E1 := Lib.hid e1
            have E2 := Lib.hid e2
            clear e1 e2
            unfold BN at hbx
            obtain ⟨ao, co, rfl, _⟩ := hO.rd
            obtain ⟨no, hno⟩ : ∃ no, no = out2.length := ⟨_, rfl⟩
            rw [← hno] at hO hbo
            clear hbs hbf
            have k0 := (Keeps.refl X6).drew
            replace hbx := hbx.keep k0
            replace hbr := hbr.keep k0
            replace hbo := hbo.keep k0
            replace hO := hO.keep k0
            replace hN := hN.tyf (.of k0)
            clear k0
            refine wp_region_held_drew (S := (fun w' => w'.cell? ⟨BX, 0, none⟩ = some (.int .i64 z2.x.id) ∧ w'.cell? ⟨BX, 1, none⟩ = some (.string z2.x.echoed) ∧ w'.cell? ⟨BX, 2, none⟩ = some (.bool z2.x.hasE) ∧ w'.cell? ⟨BX, 3, none⟩ = some (.string z2.x.readied) ∧ w'.cell? ⟨BX, 4, none⟩ = some (.bool z2.x.hasR) ∧ w'.cell? ⟨BX, 5, none⟩ = some (.string z2.x.delivered) ∧ w'.cell? ⟨BX, 6, none⟩ = some (.bool z2.x.hasD) ∧ w'.cell? ⟨BX, 7, none⟩ = some (.slice z2.ae z2.x.echoes.length z2.ce) ∧ w'.cell? ⟨BX, 8, none⟩ = some (.slice z2.ar z2.x.readies.length z2.cr) ∧ w'.cell? ⟨BO, 0, none⟩ = some (.slice ao no co))) (by kernel_rfl) ?_ (fun hHeld => ?_)
            · exact ⟨hbx.cell 0 rfl, hbx.cell 1 rfl, hbx.cell 2 rfl, hbx.cell 3 rfl, hbx.cell 4 rfl, hbx.cell 5 rfl, hbx.cell 6 rfl, hbx.cell 7 rfl, hbx.cell 8 rfl, hbo.cell 0 rfl⟩
            generalize X6.drew = Y0 at *
            refine wpAnyH_take (i := 0) (oi := ⟨_, _, _, _, _, _⟩) (v := ?_) rfl (by kernel_rfl) (by kernel_rfl) (by kernel_rfl) (fun _ _ _ h => h) (Or.inl ⟨by rfl, ?_⟩) (by assumption) ?_
            rotate_left 1
            · intro w hSw; (try dsimp only at hSw); go_simp <;> with_reducible rfl
            (try simp only [Act.put]); (try simp only [List.setIfInBounds_toArray]); (try simp only [List.set_cons_succ]); (try simp only [List.set_cons_zero])
            refine wpAnyH_take (i := 1) (oi := ⟨_, _, _, _, _, _⟩) (v := ?_) rfl (by kernel_rfl) (by kernel_rfl) (by kernel_rfl) (fun _ _ _ h => h) (Or.inl ⟨by rfl, ?_⟩) (by assumption) ?_
            rotate_left 1
            · intro w hSw; (try dsimp only at hSw); go_simp <;> with_reducible rfl
            (try simp only [Act.put]); (try simp only [List.setIfInBounds_toArray]); (try simp only [List.set_cons_succ]); (try simp only [List.set_cons_zero])
            refine wpAnyH_ready (rs := [2]) (by kernel_rfl) (by simp) ?_
            refine AllReadyH.cons (o := ⟨_, _, _, _, _, _⟩) rfl (fun K hK => ?_) AllReadyH.nil
            obtain ⟨g0, g1, g2, g3, g4, g5, g6, g7, g8⟩ := hbr.f9
            obtain ⟨d0, d1, d2, d3, d4, d5, d6, d7, d8⟩ := Blk.c9 hbr
            go_simp
            clear d0 d1 d2 d3 d4 d5 d6 d7 d8
            clear g0 g1 g2 g3 g4 g5 g6 g7 g8
            replace hO := own_other9 hO hbr (by decide) hlr (.int .i64 z2.x.id) (.string z2.x.echoed) (.bool z2.x.hasE) (.string z2.x.readied) (.bool z2.x.hasR) (.string z2.x.delivered) (.bool z2.x.hasD) (.slice z2.ae z2.x.echoes.length z2.ce) (.slice z2.ar z2.x.readies.length z2.cr)
            replace hN := nok_set9 hN hbr (by decide) (.int .i64 z2.x.id) (.string z2.x.echoed) (.bool z2.x.hasE) (.string z2.x.readied) (.bool z2.x.hasR) (.string z2.x.delivered) (.bool z2.x.hasD) (.slice z2.ae z2.x.echoes.length z2.ce) (.slice z2.ar z2.x.readies.length z2.cr)
            replace hbx := hbx.other9 (Ne.symm n1) (.int .i64 z2.x.id) (.string z2.x.echoed) (.bool z2.x.hasE) (.string z2.x.readied) (.bool z2.x.hasR) (.string z2.x.delivered) (.bool z2.x.hasD) (.slice z2.ae z2.x.echoes.length z2.ce) (.slice z2.ar z2.x.readies.length z2.cr)
            replace hbo := hbo.other9 n5 (.int .i64 z2.x.id) (.string z2.x.echoed) (.bool z2.x.hasE) (.string z2.x.readied) (.bool z2.x.hasR) (.string z2.x.delivered) (.bool z2.x.hasD) (.slice z2.ae z2.x.echoes.length z2.ce) (.slice z2.ar z2.x.readies.length z2.cr)
            replace hbr := hbr.set9 (.int .i64 z2.x.id) (.string z2.x.echoed) (.bool z2.x.hasE) (.string z2.x.readied) (.bool z2.x.hasR) (.string z2.x.delivered) (.bool z2.x.hasD) (.slice z2.ae z2.x.echoes.length z2.ce) (.slice z2.ar z2.x.readies.length z2.cr)
            generalize (((((((((Y0.setCell ⟨BR, 0, none⟩ (.int .i64 z2.x.id)).setCell ⟨BR, 1, none⟩ (.string z2.x.echoed)).setCell ⟨BR, 2, none⟩ (.bool z2.x.hasE)).setCell ⟨BR, 3, none⟩ (.string z2.x.readied)).setCell ⟨BR, 4, none⟩ (.bool z2.x.hasR)).setCell ⟨BR, 5, none⟩ (.string z2.x.delivered)).setCell ⟨BR, 6, none⟩ (.bool z2.x.hasD)).setCell ⟨BR, 7, none⟩ (.slice z2.ae z2.x.echoes.length z2.ce)).setCell ⟨BR, 8, none⟩ (.slice z2.ar z2.x.readies.length z2.cr)) = Y1 at *
            refine hK.out _ _ ?_ (fun hHeld => ?_)
            · exact ⟨hbx.cell 0 rfl, hbx.cell 1 rfl, hbx.cell 2 rfl, hbx.cell 3 rfl, hbx.cell 4 rfl, hbx.cell 5 rfl, hbx.cell 6 rfl, hbx.cell 7 rfl, hbx.cell 8 rfl, hbo.cell 0 rfl⟩
            clear hK K
            (try simp only [Act.put]); (try simp only [List.setIfInBounds_toArray]); (try simp only [List.set_cons_succ]); (try simp only [List.set_cons_zero])
            refine wpAnyH_take (i := 3) (oi := ⟨_, _, _, _, _, _⟩) (v := ?_) rfl (by kernel_rfl) (by kernel_rfl) (by kernel_rfl) (fun _ _ _ h => h) (Or.inl ⟨by rfl, ?_⟩) (by assumption) ?_
            rotate_left 1
            · intro w hSw; (try dsimp only at hSw); go_simp <;> with_reducible rfl
            (try simp only [Act.put]); (try simp only [List.setIfInBounds_toArray]); (try simp only [List.set_cons_succ]); (try simp only [List.set_cons_zero])
            refine wpAnyH_done (by kernel_rfl) ?_ _
            go_wp2_with fail
            refine bodyPost_ret (resNode (z := z2) rfl hbr rfl rfl) rfl ?_
            refine ⟨z2, _, rfl, E1.out, hN, ?_⟩
            rw [← E2.out, ← hno]
            exact hO
          | true =>
            have HV := Lib.hid (show handle f b z.x i 3 v = ({ y with hasD := true, delivered := v }, oy) by unfold handle; rw [if_neg HSRC.out, if_neg (by decide), if_neg (by decide), if_pos rfl, Int.toNat_natCast, if_neg (by rw [HK.out]; simp), ← HP.out]; dsimp only; rw [← HG.out, ← HY.out, ← HOY.out, if_pos (by rw [hD, hq]; rfl)])
            clear hD hq
            go_wp2_with fail
            have k0 := (Keeps.refl X6).drew
            replace hbx := hbx.keep k0
            replace hbs := hbs.keep k0
            replace hbr := hbr.keep k0
            replace hbo := hbo.keep k0
            replace hbf := hbf.keep k0
            replace hO := hO.keep k0
            replace he := he.keep k0
            replace hr := hr.keep k0
            replace J := J.trans k0
            clear k0
            refine wp_region_held_drew (S := (fun w' => w'.cell? ⟨BS, 0, none⟩ = some (.string v))) (by kernel_rfl) ?_ (fun hHeld => ?_)
            · exact hbs.cell 0 rfl
            generalize X6.drew = X66 at *
            refine wpAnyH_take (i := 0) (oi := ⟨_, _, _, _, _, _⟩) (v := ?_) rfl (by kernel_rfl) (by kernel_rfl) (by kernel_rfl) (fun _ _ _ h => h) (Or.inl ⟨by rfl, ?_⟩) (by assumption) ?_
            rotate_left 1
            · intro w hSw; (try dsimp only at hSw); go_simp <;> with_reducible rfl
            (try simp only [Act.put]); (try simp only [List.setIfInBounds_toArray]); (try simp only [List.set_cons_succ]); (try simp only [List.set_cons_zero])
            refine wpAnyH_take (i := 1) (oi := ⟨_, _, _, _, _, _⟩) (v := ?_) rfl (by kernel_rfl) (by kernel_rfl) (by kernel_rfl) (fun _ _ _ h => h) (Or.inl ⟨by rfl, ?_⟩) (by assumption) ?_
            rotate_left 1
            · intro w hSw; (try dsimp only at hSw); go_simp <;> with_reducible rfl
            (try simp only [Act.put]); (try simp only [List.setIfInBounds_toArray]); (try simp only [List.set_cons_succ]); (try simp only [List.set_cons_zero])
            refine wpAnyH_ready (rs := [2]) (by kernel_rfl) (by simp) ?_
            refine AllReadyH.cons (o := ⟨_, _, _, _, _, _⟩) rfl (fun K hK => ?_) AllReadyH.nil
            have k4 := hbx.frozen 6
            obtain ⟨c0, c1, c2, c3, c4, c5, c6, c7, c8⟩ := Blk.c9 hbx
            go_simp
            clear k4 c0 c1 c2 c3 c4 c5 c6 c7 c8
            replace hO := own_oth9 hO hbx (by decide) hlx 6 (.bool true)
            replace he := he.set hbx (by decide) 6 (.bool true)
            replace hr := hr.set hbx (by decide) 6 (.bool true)
            replace hbs := hbs.setOther n2 6 (.bool true)
            replace hbr := hbr.setOther n1 6 (.bool true)
            replace hbo := hbo.setOther n3 6 (.bool true)
            replace hbf := hbf.setOther n4 6 (.bool true)
            replace J := keeps_set J hlx 6 (.bool true)
            replace hbx := hbx.set 6 (.bool true)
            simp only [List.setIfInBounds_toArray, List.set_cons_succ, List.set_cons_zero] at hbx
            generalize X66.setCell ⟨BX, 6, none⟩ (.bool true) = X7 at *
            refine hK.out _ _ ?_ (fun hHeld => ?_)
            · exact hbs.cell 0 rfl
            clear hK K
            (try simp only [Act.put]); (try simp only [List.setIfInBounds_toArray]); (try simp only [List.set_cons_succ]); (try simp only [List.set_cons_zero])
            refine wpAnyH_take (i := 3) (oi := ⟨_, _, _, _, _, _⟩) (v := ?_) rfl (by kernel_rfl) (by kernel_rfl) (by kernel_rfl) (fun _ _ _ h => h) (Or.inl ⟨by rfl, ?_⟩) (by assumption) ?_
            rotate_left 1
            · intro w hSw; (try dsimp only at hSw); go_simp <;> with_reducible rfl
            (try simp only [Act.put]); (try simp only [List.setIfInBounds_toArray]); (try simp only [List.set_cons_succ]); (try simp only [List.set_cons_zero])
            refine wpAnyH_ready (rs := [4]) (by kernel_rfl) (by simp) ?_
            refine AllReadyH.cons (o := ⟨_, _, _, _, _, _⟩) rfl (fun K hK => ?_) AllReadyH.nil
            have k4 := hbx.frozen 5
            obtain ⟨c0, c1, c2, c3, c4, c5, c6, c7, c8⟩ := Blk.c9 hbx
            go_simp
            clear k4 c0 c1 c2 c3 c4 c5 c6 c7 c8
            replace hO := own_oth9 hO hbx (by decide) hlx 5 (.string v)
            replace he := he.set hbx (by decide) 5 (.string v)
            replace hr := hr.set hbx (by decide) 5 (.string v)
            replace hbs := hbs.setOther n2 5 (.string v)
            replace hbr := hbr.setOther n1 5 (.string v)
            replace hbo := hbo.setOther n3 5 (.string v)
            replace hbf := hbf.setOther n4 5 (.string v)
            replace J := keeps_set J hlx 5 (.string v)
            replace hbx := hbx.set 5 (.string v)
            simp only [List.setIfInBounds_toArray, List.set_cons_succ, List.set_cons_zero] at hbx
            generalize X7.setCell ⟨BX, 5, none⟩ (.string v) = X8 at *
            refine hK.out _ _ ?_ (fun hHeld => ?_)
            · exact hbs.cell 0 rfl
            clear hK K
            (try simp only [Act.put]); (try simp only [List.setIfInBounds_toArray]); (try simp only [List.set_cons_succ]); (try simp only [List.set_cons_zero])
            refine wpAnyH_done (by kernel_rfl) ?_ _
            go_wp2_with fail
            have hend : ∃ (z2 : NA) (out2 : List Ct) (ov2 : Value), BN X8 BX z2 ∧ NOk X8 z2 ∧ Own 145 4 w X8 ov2 out2.length (cl out2) ∧ Blk X8 BO 73 #[ov2] ∧ z2.x = (handle f b z.x i 3 v).1 ∧ out2 = (handle f b z.x i 3 v).2 := ⟨⟨{ y with hasD := true, delivered := v }, ae, ce, au, cu⟩, oy, _, hbx, ⟨he, hr⟩, hO, hbo, (congrArg Prod.fst HV.out).symm, (congrArg Prod.snd HV.out).symm⟩
            clear hbx he hr hO hbo HV
            obtain ⟨z2, out2, ov2, hbx, hN, hO, hbo, e1, e2⟩ := hend
            have E1 := Lib.hid e1
            have E2 := Lib.hid e2
            clear e1 e2
            unfold BN at hbx
            obtain ⟨ao, co, rfl, _⟩ := hO.rd
            obtain ⟨no, hno⟩ : ∃ no, no = out2.length := ⟨_, rfl⟩
            rw [← hno] at hO hbo
            clear hbs hbf
            have k0 := (Keeps.refl X8).drew
            replace hbx := hbx.keep k0
            replace hbr := hbr.keep k0
            replace hbo := hbo.keep k0
            replace hO := hO.keep k0
            replace hN := hN.tyf (.of k0)
            clear k0
            refine wp_region_held_drew (S := (fun w' => w'.cell? ⟨BX, 0, none⟩ = some (.int .i64 z2.x.id) ∧ w'.cell? ⟨BX, 1, none⟩ = some (.string z2.x.echoed) ∧ w'.cell? ⟨BX, 2, none⟩ = some (.bool z2.x.hasE) ∧ w'.cell? ⟨BX, 3, none⟩ = some (.string z2.x.readied) ∧ w'.cell? ⟨BX, 4, none⟩ = some (.bool z2.x.hasR) ∧ w'.cell? ⟨BX, 5, none⟩ = some (.string z2.x.delivered) ∧ w'.cell? ⟨BX, 6, none⟩ = some (.bool z2.x.hasD) ∧ w'.cell? ⟨BX, 7, none⟩ = some (.slice z2.ae z2.x.echoes.length z2.ce) ∧ w'.cell? ⟨BX, 8, none⟩ = some (.slice z2.ar z2.x.readies.length z2.cr) ∧ w'.cell? ⟨BO, 0, none⟩ = some (.slice ao no co))) (by kernel_rfl) ?_ (fun hHeld => ?_)
            · exact ⟨hbx.cell 0 rfl, hbx.cell 1 rfl, hbx.cell 2 rfl, hbx.cell 3 rfl, hbx.cell 4 rfl, hbx.cell 5 rfl, hbx.cell 6 rfl, hbx.cell 7 rfl, hbx.cell 8 rfl, hbo.cell 0 rfl⟩
            generalize X8.drew = Y0 at *
            refine wpAnyH_take (i := 0) (oi := ⟨_, _, _, _, _, _⟩) (v := ?_) rfl (by kernel_rfl) (by kernel_rfl) (by kernel_rfl) (fun _ _ _ h => h) (Or.inl ⟨by rfl, ?_⟩) (by assumption) ?_
            rotate_left 1
            · intro w hSw; (try dsimp only at hSw); go_simp <;> with_reducible rfl
            (try simp only [Act.put]); (try simp only [List.setIfInBounds_toArray]); (try simp only [List.set_cons_succ]); (try simp only [List.set_cons_zero])
            refine wpAnyH_take (i := 1) (oi := ⟨_, _, _, _, _, _⟩) (v := ?_) rfl (by kernel_rfl) (by kernel_rfl) (by kernel_rfl) (fun _ _ _ h => h) (Or.inl ⟨by rfl, ?_⟩) (by assumption) ?_
            rotate_left 1
            · intro w hSw; (try dsimp only at hSw); go_simp <;> with_reducible rfl
            (try simp only [Act.put]); (try simp only [List.setIfInBounds_toArray]); (try simp only [List.set_cons_succ]); (try simp only [List.set_cons_zero])
            refine wpAnyH_ready (rs := [2]) (by kernel_rfl) (by simp) ?_
            refine AllReadyH.cons (o := ⟨_, _, _, _, _, _⟩) rfl (fun K hK => ?_) AllReadyH.nil
            obtain ⟨g0, g1, g2, g3, g4, g5, g6, g7, g8⟩ := hbr.f9
            obtain ⟨d0, d1, d2, d3, d4, d5, d6, d7, d8⟩ := Blk.c9 hbr
            go_simp
            clear d0 d1 d2 d3 d4 d5 d6 d7 d8
            clear g0 g1 g2 g3 g4 g5 g6 g7 g8
            replace hO := own_other9 hO hbr (by decide) hlr (.int .i64 z2.x.id) (.string z2.x.echoed) (.bool z2.x.hasE) (.string z2.x.readied) (.bool z2.x.hasR) (.string z2.x.delivered) (.bool z2.x.hasD) (.slice z2.ae z2.x.echoes.length z2.ce) (.slice z2.ar z2.x.readies.length z2.cr)
            replace hN := nok_set9 hN hbr (by decide) (.int .i64 z2.x.id) (.string z2.x.echoed) (.bool z2.x.hasE) (.string z2.x.readied) (.bool z2.x.hasR) (.string z2.x.delivered) (.bool z2.x.hasD) (.slice z2.ae z2.x.echoes.length z2.ce) (.slice z2.ar z2.x.readies.length z2.cr)
            replace hbx := hbx.other9 (Ne.symm n1) (.int .i64 z2.x.id) (.string z2.x.echoed) (.bool z2.x.hasE) (.string z2.x.readied) (.bool z2.x.hasR) (.string z2.x.delivered) (.bool z2.x.hasD) (.slice z2.ae z2.x.echoes.length z2.ce) (.slice z2.ar z2.x.readies.length z2.cr)
            replace hbo := hbo.other9 n5 (.int .i64 z2.x.id) (.string z2.x.echoed) (.bool z2.x.hasE) (.string z2.x.readied) (.bool z2.x.hasR) (.string z2.x.delivered) (.bool z2.x.hasD) (.slice z2.ae z2.x.echoes.length z2.ce) (.slice z2.ar z2.x.readies.length z2.cr)
            replace hbr := hbr.set9 (.int .i64 z2.x.id) (.string z2.x.echoed) (.bool z2.x.hasE) (.string z2.x.readied) (.bool z2.x.hasR) (.string z2.x.delivered) (.bool z2.x.hasD) (.slice z2.ae z2.x.echoes.length z2.ce) (.slice z2.ar z2.x.readies.length z2.cr)
            generalize (((((((((Y0.setCell ⟨BR, 0, none⟩ (.int .i64 z2.x.id)).setCell ⟨BR, 1, none⟩ (.string z2.x.echoed)).setCell ⟨BR, 2, none⟩ (.bool z2.x.hasE)).setCell ⟨BR, 3, none⟩ (.string z2.x.readied)).setCell ⟨BR, 4, none⟩ (.bool z2.x.hasR)).setCell ⟨BR, 5, none⟩ (.string z2.x.delivered)).setCell ⟨BR, 6, none⟩ (.bool z2.x.hasD)).setCell ⟨BR, 7, none⟩ (.slice z2.ae z2.x.echoes.length z2.ce)).setCell ⟨BR, 8, none⟩ (.slice z2.ar z2.x.readies.length z2.cr)) = Y1 at *
            refine hK.out _ _ ?_ (fun hHeld => ?_)
            · exact ⟨hbx.cell 0 rfl, hbx.cell 1 rfl, hbx.cell 2 rfl, hbx.cell 3 rfl, hbx.cell 4 rfl, hbx.cell 5 rfl, hbx.cell 6 rfl, hbx.cell 7 rfl, hbx.cell 8 rfl, hbo.cell 0 rfl⟩
            clear hK K
            (try simp only [Act.put]); (try simp only [List.setIfInBounds_toArray]); (try simp only [List.set_cons_succ]); (try simp only [List.set_cons_zero])
            refine wpAnyH_take (i := 3) (oi := ⟨_, _, _, _, _, _⟩) (v := ?_) rfl (by kernel_rfl) (by kernel_rfl) (by kernel_rfl) (fun _ _ _ h => h) (Or.inl ⟨by rfl, ?_⟩) (by assumption) ?_
            rotate_left 1
            · intro w hSw; (try dsimp only at hSw); go_simp <;> with_reducible rfl
            (try simp only [Act.put]); (try simp only [List.setIfInBounds_toArray]); (try simp only [List.set_cons_succ]); (try simp only [List.set_cons_zero])
            refine wpAnyH_done (by kernel_rfl) ?_ _
            go_wp2_with fail
            refine bodyPost_ret (resNode (z := z2) rfl hbr rfl rfl) rfl ?_
            refine ⟨z2, _, rfl, E1.out, hN, ?_⟩
            rw [← E2.out, ← hno]
            exact hO
    have b3 : (kind == 3) = false := beq_eq_false_iff_ne.2 k3
    have HV := Lib.hid (show handle f b z.x i kind v = (z.x, []) by unfold handle; rw [if_neg HSRC.out, if_neg k1, if_neg k2, if_neg k3])
    go_wp2_with fail
    have hend : ∃ (z2 : NA) (out2 : List Ct) (ov2 : Value), BN V BX z2 ∧ NOk V z2 ∧ Own 145 4 w V ov2 out2.length (cl out2) ∧ Blk V BO 73 #[ov2] ∧ z2.x = (handle f b z.x i kind v).1 ∧ out2 = (handle f b z.x i kind v).2 := ⟨⟨z.x, ae, ce, ar, cr⟩, [], _, hbx, ⟨he, hr⟩, hO, hbo, (congrArg Prod.fst HV.out).symm, (congrArg Prod.snd HV.out).symm⟩
    clear hbx he hr hO hbo HV
    obtain ⟨z2, out2, ov2, hbx, hN, hO, hbo, e1, e2⟩ := hend
    have E1 := Lib.hid e1
    have E2 := Lib.hid e2
    clear e1 e2
    unfold BN at hbx
    obtain ⟨ao, co, rfl, _⟩ := hO.rd
    obtain ⟨no, hno⟩ : ∃ no, no = out2.length := ⟨_, rfl⟩
    rw [← hno] at hO hbo
    clear hbs hbf
    have k0 := (Keeps.refl V).drew
    replace hbx := hbx.keep k0
    replace hbr := hbr.keep k0
    replace hbo := hbo.keep k0
    replace hO := hO.keep k0
    replace hN := hN.tyf (.of k0)
    clear k0
    refine wp_region_held_drew (S := (fun w' => w'.cell? ⟨BX, 0, none⟩ = some (.int .i64 z2.x.id) ∧ w'.cell? ⟨BX, 1, none⟩ = some (.string z2.x.echoed) ∧ w'.cell? ⟨BX, 2, none⟩ = some (.bool z2.x.hasE) ∧ w'.cell? ⟨BX, 3, none⟩ = some (.string z2.x.readied) ∧ w'.cell? ⟨BX, 4, none⟩ = some (.bool z2.x.hasR) ∧ w'.cell? ⟨BX, 5, none⟩ = some (.string z2.x.delivered) ∧ w'.cell? ⟨BX, 6, none⟩ = some (.bool z2.x.hasD) ∧ w'.cell? ⟨BX, 7, none⟩ = some (.slice z2.ae z2.x.echoes.length z2.ce) ∧ w'.cell? ⟨BX, 8, none⟩ = some (.slice z2.ar z2.x.readies.length z2.cr) ∧ w'.cell? ⟨BO, 0, none⟩ = some (.slice ao no co))) (by kernel_rfl) ?_ (fun hHeld => ?_)
    · exact ⟨hbx.cell 0 rfl, hbx.cell 1 rfl, hbx.cell 2 rfl, hbx.cell 3 rfl, hbx.cell 4 rfl, hbx.cell 5 rfl, hbx.cell 6 rfl, hbx.cell 7 rfl, hbx.cell 8 rfl, hbo.cell 0 rfl⟩
    generalize V.drew = Y0 at *
    refine wpAnyH_take (i := 0) (oi := ⟨_, _, _, _, _, _⟩) (v := ?_) rfl (by kernel_rfl) (by kernel_rfl) (by kernel_rfl) (fun _ _ _ h => h) (Or.inl ⟨by rfl, ?_⟩) (by assumption) ?_
    rotate_left 1
    · intro w hSw; (try dsimp only at hSw); go_simp <;> with_reducible rfl
    (try simp only [Act.put]); (try simp only [List.setIfInBounds_toArray]); (try simp only [List.set_cons_succ]); (try simp only [List.set_cons_zero])
    refine wpAnyH_take (i := 1) (oi := ⟨_, _, _, _, _, _⟩) (v := ?_) rfl (by kernel_rfl) (by kernel_rfl) (by kernel_rfl) (fun _ _ _ h => h) (Or.inl ⟨by rfl, ?_⟩) (by assumption) ?_
    rotate_left 1
    · intro w hSw; (try dsimp only at hSw); go_simp <;> with_reducible rfl
    (try simp only [Act.put]); (try simp only [List.setIfInBounds_toArray]); (try simp only [List.set_cons_succ]); (try simp only [List.set_cons_zero])
    refine wpAnyH_ready (rs := [2]) (by kernel_rfl) (by simp) ?_
    refine AllReadyH.cons (o := ⟨_, _, _, _, _, _⟩) rfl (fun K hK => ?_) AllReadyH.nil
    obtain ⟨g0, g1, g2, g3, g4, g5, g6, g7, g8⟩ := hbr.f9
    obtain ⟨d0, d1, d2, d3, d4, d5, d6, d7, d8⟩ := Blk.c9 hbr
    go_simp
    clear d0 d1 d2 d3 d4 d5 d6 d7 d8
    clear g0 g1 g2 g3 g4 g5 g6 g7 g8
    replace hO := own_other9 hO hbr (by decide) hlr (.int .i64 z2.x.id) (.string z2.x.echoed) (.bool z2.x.hasE) (.string z2.x.readied) (.bool z2.x.hasR) (.string z2.x.delivered) (.bool z2.x.hasD) (.slice z2.ae z2.x.echoes.length z2.ce) (.slice z2.ar z2.x.readies.length z2.cr)
    replace hN := nok_set9 hN hbr (by decide) (.int .i64 z2.x.id) (.string z2.x.echoed) (.bool z2.x.hasE) (.string z2.x.readied) (.bool z2.x.hasR) (.string z2.x.delivered) (.bool z2.x.hasD) (.slice z2.ae z2.x.echoes.length z2.ce) (.slice z2.ar z2.x.readies.length z2.cr)
    replace hbx := hbx.other9 (Ne.symm n1) (.int .i64 z2.x.id) (.string z2.x.echoed) (.bool z2.x.hasE) (.string z2.x.readied) (.bool z2.x.hasR) (.string z2.x.delivered) (.bool z2.x.hasD) (.slice z2.ae z2.x.echoes.length z2.ce) (.slice z2.ar z2.x.readies.length z2.cr)
    replace hbo := hbo.other9 n5 (.int .i64 z2.x.id) (.string z2.x.echoed) (.bool z2.x.hasE) (.string z2.x.readied) (.bool z2.x.hasR) (.string z2.x.delivered) (.bool z2.x.hasD) (.slice z2.ae z2.x.echoes.length z2.ce) (.slice z2.ar z2.x.readies.length z2.cr)
    replace hbr := hbr.set9 (.int .i64 z2.x.id) (.string z2.x.echoed) (.bool z2.x.hasE) (.string z2.x.readied) (.bool z2.x.hasR) (.string z2.x.delivered) (.bool z2.x.hasD) (.slice z2.ae z2.x.echoes.length z2.ce) (.slice z2.ar z2.x.readies.length z2.cr)
    generalize (((((((((Y0.setCell ⟨BR, 0, none⟩ (.int .i64 z2.x.id)).setCell ⟨BR, 1, none⟩ (.string z2.x.echoed)).setCell ⟨BR, 2, none⟩ (.bool z2.x.hasE)).setCell ⟨BR, 3, none⟩ (.string z2.x.readied)).setCell ⟨BR, 4, none⟩ (.bool z2.x.hasR)).setCell ⟨BR, 5, none⟩ (.string z2.x.delivered)).setCell ⟨BR, 6, none⟩ (.bool z2.x.hasD)).setCell ⟨BR, 7, none⟩ (.slice z2.ae z2.x.echoes.length z2.ce)).setCell ⟨BR, 8, none⟩ (.slice z2.ar z2.x.readies.length z2.cr)) = Y1 at *
    refine hK.out _ _ ?_ (fun hHeld => ?_)
    · exact ⟨hbx.cell 0 rfl, hbx.cell 1 rfl, hbx.cell 2 rfl, hbx.cell 3 rfl, hbx.cell 4 rfl, hbx.cell 5 rfl, hbx.cell 6 rfl, hbx.cell 7 rfl, hbx.cell 8 rfl, hbo.cell 0 rfl⟩
    clear hK K
    (try simp only [Act.put]); (try simp only [List.setIfInBounds_toArray]); (try simp only [List.set_cons_succ]); (try simp only [List.set_cons_zero])
    refine wpAnyH_take (i := 3) (oi := ⟨_, _, _, _, _, _⟩) (v := ?_) rfl (by kernel_rfl) (by kernel_rfl) (by kernel_rfl) (fun _ _ _ h => h) (Or.inl ⟨by rfl, ?_⟩) (by assumption) ?_
    rotate_left 1
    · intro w hSw; (try dsimp only at hSw); go_simp <;> with_reducible rfl
    (try simp only [Act.put]); (try simp only [List.setIfInBounds_toArray]); (try simp only [List.set_cons_succ]); (try simp only [List.set_cons_zero])
    refine wpAnyH_done (by kernel_rfl) ?_ _
    go_wp2_with fail
    refine bodyPost_ret (resNode (z := z2) rfl hbr rfl rfl) rfl ?_
    refine ⟨z2, _, rfl, E1.out, hN, ?_⟩
    rw [← E2.out, ← hno]
    exact hO
end Go.Proofs.YtijknodekomdfaaGreatDoor
