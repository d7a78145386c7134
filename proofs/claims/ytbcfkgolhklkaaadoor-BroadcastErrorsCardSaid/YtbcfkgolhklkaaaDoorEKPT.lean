/- Texts joined into one, what is needed of them (a program of ours). -/
import Derived.Test.YtbcfkgolhklkaaaDoorEKPG
import Derived.Test.YtbcfkgolhklkaaaDoorEKZ
import Derived.Test.YtbcfkgolhklkaaaDoorEKPA
import Derived.Test.YtbcfkgolhklkaaaDoorEKP
namespace Go.Proofs.YtbcfkgolhklkaaaDoor
open Go.RowKit Go.Lib Go.Shelf

set_option maxRecDepth 200000 in
set_option maxHeartbeats 16000000 in
theorem BroadcastErrors_any (fa : Option Addr) (fm fc : Nat) (f : List S) (ba : Option Addr) (bm bc : Nat) (b : List S) (N so ch : Int) (byz : S) (w : World) (hT : Tab w) (hf : Rd w fa fm fc 1 (sl f)) (hb : Rd w ba bm bc 1 (sl b)) :
    Calls Tryd.prog 3 #[.slice fa fm fc, .slice ba bm bc, .agg #[.int .i64 N, .int .i64 so, .int .i64 ch, .int .u16 (sv byz)]] w fun e w' => e = .returned (.bool true) ∧ Keeps w w' := by
  have hX := Blk.new w 26 #[.int .i64 N, .int .i64 so, .int .i64 ch, .int .u16 (sv byz)]
  have kX := (Keeps.refl w).alloc (.cells #[.int .i64 N, .int .i64 so, .int .i64 ch, .int .u16 (sv byz)] 26)
  have HT := Lib.hid (hT.keep kX); have HF := Lib.hid (hf.keep kX); have HB := Lib.hid (hb.keep kX); have HX := Lib.hid hX; have HK := Lib.hid kX
  have HAW := Lib.hid (fun W (t : Tab W) => awake39_any W t)
  have sf := hf.small; have sb := hb.small
  clear hX kX hT hf hb
  by_cases h20 : fm > 20 ∨ bm > 20
  · by_cases hf20 : fm > 20
    · clear h20
      go_enter Tryd.func3, Tryd.ntmps3
      go_wp2_with fail
      refine (HAW.out _ HT.out).mono ?_
      rintro e w1 ⟨rfl, k1⟩
      go_wp2_with fail
      refine (HAW.out _ (HT.out.keep k1)).mono ?_
      rintro e w2 ⟨rfl, k2⟩
      have HKF := Lib.hid (HK.out.trans (k1.trans k2))
      clear k1 k2
      go_wp2_with fail
      go_ret
      exact ⟨rfl, HKF.out⟩
    · have hb20 : bm > 20 := by omega
      clear h20
      go_enter Tryd.func3, Tryd.ntmps3
      go_wp2_with fail
      refine (HAW.out _ HT.out).mono ?_
      rintro e w1 ⟨rfl, k1⟩
      go_wp2_with fail
      refine (HAW.out _ (HT.out.keep k1)).mono ?_
      rintro e w2 ⟨rfl, k2⟩
      have HKF := Lib.hid (HK.out.trans (k1.trans k2))
      clear k1 k2
      go_wp2_with fail
      go_ret
      exact ⟨rfl, HKF.out⟩
  have hf20 : fm ≤ 20 := by omega
  have hb20 : bm ≤ 20 := by omega
  clear h20
  obtain ⟨M, hM⟩ : ∃ M : Nat, M = ch.toNat := ⟨_, rfl⟩
  have hmx : max ch 0 = (M : Int) := by omega
  obtain ⟨L, hL⟩ : ∃ L : Nat, L = min M 300 := ⟨_, rfl⟩
  have hmn : min (M : Int) 300 = (L : Int) := by omega
  have hL3 : L ≤ 300 := by omega
  clear hM hL
  go_enter Tryd.func3, Tryd.ntmps3
  go_wp2_with fail
  refine (HAW.out _ HT.out).mono ?_
  rintro e w1 ⟨rfl, k1⟩
  have HX1 := Lib.hid (HX.out.keep k1)
  have x2 := HX1.out.cell 2 (v := .int .i64 ch) rfl
  obtain ⟨w3, hmk, hZ⟩ := makeU L (by omega) w1
  have J3 := HK.out.trans (k1.trans hZ.2)
  have HK3 := Lib.hid J3
  have HX := Lib.hid (HX1.out.keep hZ.2); have HT := Lib.hid ((HT.out.keep k1).keep hZ.2); have HF := Lib.hid ((HF.out.keep k1).keep hZ.2); have HB := Lib.hid ((HB.out.keep k1).keep hZ.2)
  obtain ⟨aZ, cZ, he, rZ⟩ := hZ.rd
  have HZ := Lib.hid hZ.row0.rd
  clear k1 J3 hZ HX1 HK HAW he rZ
  go_wp2_with fail
  clear x2 hmk hmx hmn
  obtain ⟨W3, hW3⟩ : ∃ W, W = w3 := ⟨_, rfl⟩
  rw [← hW3] at HX HT HF HB HZ HK3 ⊢
  clear hW3
  generalize w1.heap.size = BZ at *
  have HZ2 : Hid (∀ c ∈ List.replicate L 0, c < 256) := Lib.hid (fun c hc => by rw [(List.mem_replicate.1 hc).2]; decide)
  have HZ3 : Hid ((List.replicate L 0).length ≤ 1000000) := Lib.hid (by rw [List.length_replicate]; omega)
  have HCf := Lib.hid (fun W (k : Keeps W3 W) => cloneS_any fa fm fc (sl f) W (HF.out.keep k) (sl_oneCell f) (by omega))
  have HCb := Lib.hid (fun W (k : Keeps W3 W) => cloneS_any ba bm bc (sl b) W (HB.out.keep k) (sl_oneCell b) (by omega))
  obtain ⟨er, her⟩ : ∃ er, er = runE f b N byz so (List.replicate L 0).length := ⟨_, rfl⟩
  obtain ⟨cR, hcR⟩ : ∃ c, c = (if runE f b N byz so (List.replicate L 0).length = 0 then (⟨N, byz, so, runS f b N.toNat byz (lieL N.toNat byz so.toNat strX strY) (startS N.toNat byz so.toNat strX 0) (List.replicate L 0)⟩ : CD) else cd0) := ⟨_, rfl⟩
  have HCR := Lib.hid hcR; have HER := Lib.hid her
  clear hcR her
  go_upto_region 4 with fail
  go_cut [8, 9] (fun s8 s9 wx => ∃ (P8 : Nat) (nv gv : Value), s8 = .pointer (some ⟨P8, 0, none⟩) ∧ s9 = .int .i64 (runE f b N byz so (List.replicate L 0).length) ∧ Blk wx P8 32 #[.int .i64 cR.n, .int .u16 (sv cR.byz), .int .i64 cR.src, nv, gv] ∧ HasC wx cR (.agg #[.int .i64 cR.n, .int .u16 (sv cR.byz), .int .i64 cR.src, nv, gv]) ∧ Blk wx w.heap.size 26 #[.int .i64 N, .int .i64 so, .int .i64 ch, .int .u16 (sv byz)] ∧ Keeps W3 wx)
  case first =>
    have J := (Keeps.refl W3).drew
    have hX := HX.out.keep J
    refine wp_region_held_drew (S := (fun w' => w'.cell? ⟨w.heap.size, 0, none⟩ = some (.int .i64 N) ∧ w'.cell? ⟨w.heap.size, 3, none⟩ = some (.int .u16 (sv byz)) ∧ w'.cell? ⟨w.heap.size, 1, none⟩ = some (.int .i64 so))) (by kernel_rfl) ?_ (fun hHeld => ?_)
    · exact ⟨(hX.cell 0 rfl), (hX.cell 3 rfl), (hX.cell 1 rfl)⟩
    generalize W3.drew = V0 at *
    refine wpAnyH_take (i := 0) (oi := ⟨_, _, _, _, _, _⟩) (v := ?_) rfl (by kernel_rfl) (by kernel_rfl) (by kernel_rfl) (fun _ _ _ h => h) (Or.inl ⟨by rfl, ?_⟩) (by assumption) ?_
    rotate_left 1
    · intro w hSw; (try dsimp only at hSw); go_simp <;> with_reducible rfl
    (try simp only [Act.put]); (try simp only [List.setIfInBounds_toArray]); (try simp only [List.set_cons_succ]); (try simp only [List.set_cons_zero])
    refine wpAnyH_take (i := 2) (oi := ⟨_, _, _, _, _, _⟩) (v := ?_) rfl (by kernel_rfl) (by kernel_rfl) (by kernel_rfl) (fun _ _ _ h => h) (Or.inl ⟨by rfl, ?_⟩) (by assumption) ?_
    rotate_left 1
    · intro w hSw; (try dsimp only at hSw); go_simp <;> with_reducible rfl
    (try simp only [Act.put]); (try simp only [List.setIfInBounds_toArray]); (try simp only [List.set_cons_succ]); (try simp only [List.set_cons_zero])
    refine wpAnyH_take (i := 4) (oi := ⟨_, _, _, _, _, _⟩) (v := ?_) rfl (by kernel_rfl) (by kernel_rfl) (by kernel_rfl) (fun _ _ _ h => h) (Or.inl ⟨by rfl, ?_⟩) (by assumption) ?_
    rotate_left 1
    · intro w hSw; (try dsimp only at hSw); go_simp <;> with_reducible rfl
    (try simp only [Act.put]); (try simp only [List.setIfInBounds_toArray]); (try simp only [List.set_cons_succ]); (try simp only [List.set_cons_zero])
    refine wpAnyH_take (i := 5) (oi := ⟨_, _, _, _, _, _⟩) (v := ?_) rfl (by kernel_rfl) (by kernel_rfl) (by kernel_rfl) (fun _ _ _ h => h) (Or.inl ⟨by rfl, ?_⟩) (by assumption) ?_
    rotate_left 1
    · intro w hSw; (try dsimp only at hSw); go_simp <;> with_reducible rfl
    (try simp only [Act.put]); (try simp only [List.setIfInBounds_toArray]); (try simp only [List.set_cons_succ]); (try simp only [List.set_cons_zero])
    refine wpAnyH_take (i := 6) (oi := ⟨_, _, _, _, _, _⟩) (v := ?_) rfl (by kernel_rfl) (by kernel_rfl) (by kernel_rfl) (fun _ _ _ h => h) (Or.inl ⟨by rfl, ?_⟩) (by assumption) ?_
    rotate_left 1
    · intro w hSw; (try dsimp only at hSw); go_simp <;> with_reducible rfl
    (try simp only [Act.put]); (try simp only [List.setIfInBounds_toArray]); (try simp only [List.set_cons_succ]); (try simp only [List.set_cons_zero])
    refine wpAnyH_take (i := 7) (oi := ⟨_, _, _, _, _, _⟩) (v := ?_) rfl (by kernel_rfl) (by kernel_rfl) (by kernel_rfl) (fun _ _ _ h => h) (Or.inl ⟨by rfl, ?_⟩) (by assumption) ?_
    rotate_left 1
    · intro w hSw; (try dsimp only at hSw); go_simp <;> with_reducible rfl
    (try simp only [Act.put]); (try simp only [List.setIfInBounds_toArray]); (try simp only [List.set_cons_succ]); (try simp only [List.set_cons_zero])
    refine wpAnyH_take (i := 8) (oi := ⟨_, _, _, _, _, _⟩) (v := ?_) rfl (by kernel_rfl) (by kernel_rfl) (by kernel_rfl) (fun _ _ _ h => h) (Or.inl ⟨by rfl, ?_⟩) (by assumption) ?_
    rotate_left 1
    · intro w hSw; (try dsimp only at hSw); go_simp <;> with_reducible rfl
    (try simp only [Act.put]); (try simp only [List.setIfInBounds_toArray]); (try simp only [List.set_cons_succ]); (try simp only [List.set_cons_zero])
    refine wpAnyH_take (i := 9) (oi := ⟨_, _, _, _, _, _⟩) (v := ?_) rfl (by kernel_rfl) (by kernel_rfl) (by kernel_rfl) (fun _ _ _ h => h) (Or.inl ⟨by rfl, ?_⟩) (by assumption) ?_
    rotate_left 1
    · intro w hSw; (try dsimp only at hSw); go_simp <;> with_reducible rfl
    (try simp only [Act.put]); (try simp only [List.setIfInBounds_toArray]); (try simp only [List.set_cons_succ]); (try simp only [List.set_cons_zero])
    refine wpAnyH_take (i := 10) (oi := ⟨_, _, _, _, _, _⟩) (v := ?_) rfl (by kernel_rfl) (by kernel_rfl) (by kernel_rfl) (fun _ _ _ h => h) (Or.inl ⟨by rfl, ?_⟩) (by assumption) ?_
    rotate_left 1
    · intro w hSw; (try dsimp only at hSw); go_simp <;> with_reducible rfl
    (try simp only [Act.put]); (try simp only [List.setIfInBounds_toArray]); (try simp only [List.set_cons_succ]); (try simp only [List.set_cons_zero])
    refine wpAnyH_ready (rs := [1, 15]) (by kernel_rfl) (by simp) ?_
    refine AllReadyH.cons (o := ⟨_, _, _, _, _, _⟩) rfl (fun K hK => ?_) (AllReadyH.cons (o := ⟨_, _, _, _, _, _⟩) rfl (fun K hK => ?_) AllReadyH.nil)
    · go_simp
      refine (HCf.out V0 J).mono ?_
      rintro e V1 ⟨cvf, rfl, hO, kk⟩
      have hOf : Own 24 1 V0 V1 cvf fm (sl f) := ⟨hO, kk⟩
      clear hO
      obtain ⟨af, cf, rfl, rf⟩ := hOf.rd
      replace hX := hX.keep kk
      replace J := J.trans kk
      clear kk hOf
      refine hK.out _ _ ?_ (fun hHeld => ?_)
      · exact ⟨(hX.cell 0 rfl), (hX.cell 3 rfl), (hX.cell 1 rfl)⟩
      clear hK K
      (try simp only [Act.put]); (try simp only [List.setIfInBounds_toArray]); (try simp only [List.set_cons_succ]); (try simp only [List.set_cons_zero])
      refine wpAnyH_ready (rs := [3, 15]) (by kernel_rfl) (by simp) ?_
      refine AllReadyH.cons (o := ⟨_, _, _, _, _, _⟩) rfl (fun K hK => ?_) (AllReadyH.cons (o := ⟨_, _, _, _, _, _⟩) rfl (fun K hK => ?_) AllReadyH.nil)
      · go_simp
        refine (HCb.out V1 J).mono ?_
        rintro e V2 ⟨cvb, rfl, hO, kk⟩
        have hOb : Own 24 1 V1 V2 cvb bm (sl b) := ⟨hO, kk⟩
        clear hO
        obtain ⟨ab, cb, rfl, rb⟩ := hOb.rd
        replace hX := hX.keep kk
        replace J := J.trans kk
        replace rf := rf.keep kk
        clear kk hOb
        refine hK.out _ _ ?_ (fun hHeld => ?_)
        · exact ⟨(hX.cell 0 rfl), (hX.cell 3 rfl), (hX.cell 1 rfl)⟩
        clear hK K
        (try simp only [Act.put]); (try simp only [List.setIfInBounds_toArray]); (try simp only [List.set_cons_succ]); (try simp only [List.set_cons_zero])
        refine wpAnyH_ready (rs := [11, 15]) (by kernel_rfl) (by simp) ?_
        refine AllReadyH.cons (o := ⟨_, _, _, _, _, _⟩) rfl (fun K hK => ?_) (AllReadyH.cons (o := ⟨_, _, _, _, _, _⟩) rfl (fun K hK => ?_) AllReadyH.nil)
        · go_simp
          refine (runN_any V2 af fm cf f ab bm cb b N byz so _ L L (List.replicate L 0) rf rb (HZ.out.keep J) HZ2.out HZ3.out).mono ?_
          rintro e V3 ⟨kk, vr, rfl, hrun⟩
          rw [← HCR.out] at hrun
          replace hrun := hrun.since J
          obtain ⟨nas, nv, gv, rfl, q1, q2, q3, q4⟩ := hrun
          obtain ⟨an9, cn9, rfl, _⟩ := q1.rd
          obtain ⟨ag9, cg9, rfl, _⟩ := q2.rd
          have hrun : RunN W3 V3 _ _ := ⟨nas, _, _, rfl, q1, q2, q3, q4⟩
          clear q1 q2 q3 q4
          replace hX := hX.keep kk
          replace J := J.trans kk
          replace rf := rf.keep kk
          replace rb := rb.keep kk
          clear kk
          unfold vCast at hrun ⊢
          refine hK.out _ _ ?_ (fun hHeld => ?_)
          · exact ⟨(hX.cell 0 rfl), (hX.cell 3 rfl), (hX.cell 1 rfl)⟩
          clear hK K
          (try simp only [Act.put]); (try simp only [List.setIfInBounds_toArray]); (try simp only [List.set_cons_succ]); (try simp only [List.set_cons_zero])
          refine wpAnyH_take (i := 12) (oi := ⟨_, _, _, _, _, _⟩) (v := ?_) rfl (by kernel_rfl) (by kernel_rfl) (by kernel_rfl) (fun _ _ _ h => h) (Or.inl ⟨by rfl, ?_⟩) (by assumption) ?_
          rotate_left 1
          · intro w hSw; (try dsimp only at hSw); go_simp <;> with_reducible rfl
          (try simp only [Act.put]); (try simp only [List.setIfInBounds_toArray]); (try simp only [List.set_cons_succ]); (try simp only [List.set_cons_zero])
          refine wpAnyH_take (i := 13) (oi := ⟨_, _, _, _, _, _⟩) (v := ?_) rfl (by kernel_rfl) (by kernel_rfl) (by kernel_rfl) (fun _ _ _ h => h) (Or.inl ⟨by rfl, ?_⟩) (by assumption) ?_
          rotate_left 1
          · intro w hSw; (try dsimp only at hSw); go_simp <;> with_reducible rfl
          (try simp only [Act.put]); (try simp only [List.setIfInBounds_toArray]); (try simp only [List.set_cons_succ]); (try simp only [List.set_cons_zero])
          refine wpAnyH_take (i := 14) (oi := ⟨_, _, _, _, _, _⟩) (v := ?_) rfl (by kernel_rfl) (by kernel_rfl) (by kernel_rfl) (fun _ _ _ h => h) (Or.inl ⟨by rfl, ?_⟩) (by assumption) ?_
          rotate_left 1
          · intro w hSw; (try dsimp only at hSw); go_simp <;> with_reducible rfl
          (try simp only [Act.put]); (try simp only [List.setIfInBounds_toArray]); (try simp only [List.set_cons_succ]); (try simp only [List.set_cons_zero])
          refine wpAnyH_ready (rs := [15]) (by kernel_rfl) (by simp) ?_
          refine AllReadyH.cons (o := ⟨_, _, _, _, _, _⟩) rfl (fun K hK => ?_) AllReadyH.nil
          go_simp
          have hP := Blk.new V3 32 #[.int .i64 0, .int .u16 0, .int .i64 0, .slice none 0 0, .slice none 0 0]
          have hlp : W3.heap.size ≤ V3.heap.size := J.size
          have hne : w.heap.size ≠ V3.heap.size := by have := hX.lt; omega
          have kA := (Keeps.refl V3).alloc (.cells #[.int .i64 0, .int .u16 0, .int .i64 0, .slice none 0 0, .slice none 0 0] 32)
          replace hX := hX.keep kA
          replace J := J.trans kA
          replace rf := rf.keep kA
          replace rb := rb.keep kA
          replace hrun := hrun.keep kA
          clear kA
          generalize V3.alloc (.cells #[.int .i64 0, .int .u16 0, .int .i64 0, .slice none 0 0, .slice none 0 0] 32) = V4 at *
          generalize V3.heap.size = P8 at *
          refine hK.out _ _ ?_ (fun hHeld => ?_)
          · exact ⟨(hX.cell 0 rfl), (hX.cell 3 rfl), (hX.cell 1 rfl)⟩
          clear hK K
          (try simp only [Act.put]); (try simp only [List.setIfInBounds_toArray]); (try simp only [List.set_cons_succ]); (try simp only [List.set_cons_zero])
          refine wpAnyH_ready (rs := [16]) (by kernel_rfl) (by simp) ?_
          refine AllReadyH.cons (o := ⟨_, _, _, _, _, _⟩) rfl (fun K hK => ?_) AllReadyH.nil
          obtain ⟨y0, y1, y2, y3, y4⟩ := Go.Proofs.YtbcfkgolhklkaaaDoor.c5 hP
          obtain ⟨g0, g1, g2, g3, g4⟩ := f5 hP
          go_simp
          clear y0 y1 y2 y3 y4 g0 g1 g2 g3 g4
          replace hrun := hrun.st5 hP hlp (.int .i64 cR.n) (.int .u16 (sv cR.byz)) (.int .i64 cR.src) (.slice an9 nas.length cn9) (.slice ag9 cR.st.flight.length cg9)
          replace hX := st5_oth hX hne (.int .i64 cR.n) (.int .u16 (sv cR.byz)) (.int .i64 cR.src) (.slice an9 nas.length cn9) (.slice ag9 cR.st.flight.length cg9)
          have hP9 := set5 hP (.int .i64 cR.n) (.int .u16 (sv cR.byz)) (.int .i64 cR.src) (.slice an9 nas.length cn9) (.slice ag9 cR.st.flight.length cg9)
          replace J := keeps_set5 J hlp (.int .i64 cR.n) (.int .u16 (sv cR.byz)) (.int .i64 cR.src) (.slice an9 nas.length cn9) (.slice ag9 cR.st.flight.length cg9)
          replace hP := hP9
          clear hP9 rf rb
          unfold st5 at hX hP hrun J
          generalize ((((V4.setCell ⟨P8, 0, none⟩ (.int .i64 cR.n)).setCell ⟨P8, 1, none⟩ (.int .u16 (sv cR.byz))).setCell ⟨P8, 2, none⟩ (.int .i64 cR.src)).setCell ⟨P8, 3, none⟩ (.slice an9 nas.length cn9)).setCell ⟨P8, 4, none⟩ (.slice ag9 cR.st.flight.length cg9) = VF at *
          refine hK.out _ _ ?_ (fun hHeld => ?_)
          · exact ⟨(hX.cell 0 rfl), (hX.cell 3 rfl), (hX.cell 1 rfl)⟩
          clear hK K
          (try simp only [Act.put]); (try simp only [List.setIfInBounds_toArray]); (try simp only [List.set_cons_succ]); (try simp only [List.set_cons_zero])
          refine wpAnyH_take (i := 17) (oi := ⟨_, _, _, _, _, _⟩) (v := ?_) rfl (by kernel_rfl) (by kernel_rfl) (by kernel_rfl) (fun _ _ _ h => h) (Or.inl ⟨by rfl, ?_⟩) (by assumption) ?_
          rotate_left 1
          · intro w hSw; (try dsimp only at hSw); go_simp <;> with_reducible rfl
          (try simp only [Act.put]); (try simp only [List.setIfInBounds_toArray]); (try simp only [List.set_cons_succ]); (try simp only [List.set_cons_zero])
          refine wpAnyH_done (by kernel_rfl) ?_ _
          have HX9 := Lib.hid hX; have HP9 := Lib.hid hP; have HR9 := Lib.hid hrun; have HJ9 := Lib.hid J
          clear hX hP hrun J 
          go_wp2_with fail
          go_meet
          case rel => exact ⟨P8, _, _, rfl, by rw [List.length_replicate], HP9.out, HR9.out.toC, HX9.out, HJ9.out⟩
        · go_simp
          have hP := Blk.new V2 32 #[.int .i64 0, .int .u16 0, .int .i64 0, .slice none 0 0, .slice none 0 0]
          have hlp : W3.heap.size ≤ V2.heap.size := J.size
          have hne : w.heap.size ≠ V2.heap.size := by have := hX.lt; omega
          have kA := (Keeps.refl V2).alloc (.cells #[.int .i64 0, .int .u16 0, .int .i64 0, .slice none 0 0, .slice none 0 0] 32)
          replace hX := hX.keep kA
          replace J := J.trans kA
          replace rf := rf.keep kA
          replace rb := rb.keep kA
          clear kA
          generalize V2.alloc (.cells #[.int .i64 0, .int .u16 0, .int .i64 0, .slice none 0 0, .slice none 0 0] 32) = V5 at *
          generalize V2.heap.size = P8 at *
          refine hK.out _ _ ?_ (fun hHeld => ?_)
          · exact ⟨(hX.cell 0 rfl), (hX.cell 3 rfl), (hX.cell 1 rfl)⟩
          clear hK K
          (try simp only [Act.put]); (try simp only [List.setIfInBounds_toArray]); (try simp only [List.set_cons_succ]); (try simp only [List.set_cons_zero])
          refine wpAnyH_ready (rs := [11]) (by kernel_rfl) (by simp) ?_
          refine AllReadyH.cons (o := ⟨_, _, _, _, _, _⟩) rfl (fun K hK => ?_) AllReadyH.nil
          go_simp
          refine (runN_any V5 af fm cf f ab bm cb b N byz so _ L L (List.replicate L 0) rf rb (HZ.out.keep J) HZ2.out HZ3.out).mono ?_
          rintro e V6 ⟨kk, vr, rfl, hrun⟩
          rw [← HCR.out] at hrun
          replace hrun := hrun.since J
          obtain ⟨nas, nv, gv, rfl, q1, q2, q3, q4⟩ := hrun
          obtain ⟨an9, cn9, rfl, _⟩ := q1.rd
          obtain ⟨ag9, cg9, rfl, _⟩ := q2.rd
          have hrun : RunN W3 V6 _ _ := ⟨nas, _, _, rfl, q1, q2, q3, q4⟩
          clear q1 q2 q3 q4
          replace hX := hX.keep kk
          replace J := J.trans kk
          replace rf := rf.keep kk
          replace rb := rb.keep kk
          replace hP := hP.keep kk
          clear kk
          unfold vCast at hrun ⊢
          refine hK.out _ _ ?_ (fun hHeld => ?_)
          · exact ⟨(hX.cell 0 rfl), (hX.cell 3 rfl), (hX.cell 1 rfl)⟩
          clear hK K
          (try simp only [Act.put]); (try simp only [List.setIfInBounds_toArray]); (try simp only [List.set_cons_succ]); (try simp only [List.set_cons_zero])
          refine wpAnyH_take (i := 12) (oi := ⟨_, _, _, _, _, _⟩) (v := ?_) rfl (by kernel_rfl) (by kernel_rfl) (by kernel_rfl) (fun _ _ _ h => h) (Or.inl ⟨by rfl, ?_⟩) (by assumption) ?_
          rotate_left 1
          · intro w hSw; (try dsimp only at hSw); go_simp <;> with_reducible rfl
          (try simp only [Act.put]); (try simp only [List.setIfInBounds_toArray]); (try simp only [List.set_cons_succ]); (try simp only [List.set_cons_zero])
          refine wpAnyH_take (i := 13) (oi := ⟨_, _, _, _, _, _⟩) (v := ?_) rfl (by kernel_rfl) (by kernel_rfl) (by kernel_rfl) (fun _ _ _ h => h) (Or.inl ⟨by rfl, ?_⟩) (by assumption) ?_
          rotate_left 1
          · intro w hSw; (try dsimp only at hSw); go_simp <;> with_reducible rfl
          (try simp only [Act.put]); (try simp only [List.setIfInBounds_toArray]); (try simp only [List.set_cons_succ]); (try simp only [List.set_cons_zero])
          refine wpAnyH_take (i := 14) (oi := ⟨_, _, _, _, _, _⟩) (v := ?_) rfl (by kernel_rfl) (by kernel_rfl) (by kernel_rfl) (fun _ _ _ h => h) (Or.inl ⟨by rfl, ?_⟩) (by assumption) ?_
          rotate_left 1
          · intro w hSw; (try dsimp only at hSw); go_simp <;> with_reducible rfl
          (try simp only [Act.put]); (try simp only [List.setIfInBounds_toArray]); (try simp only [List.set_cons_succ]); (try simp only [List.set_cons_zero])
          refine wpAnyH_ready (rs := [16]) (by kernel_rfl) (by simp) ?_
          refine AllReadyH.cons (o := ⟨_, _, _, _, _, _⟩) rfl (fun K hK => ?_) AllReadyH.nil
          obtain ⟨y0, y1, y2, y3, y4⟩ := Go.Proofs.YtbcfkgolhklkaaaDoor.c5 hP
          obtain ⟨g0, g1, g2, g3, g4⟩ := f5 hP
          go_simp
          clear y0 y1 y2 y3 y4 g0 g1 g2 g3 g4
          replace hrun := hrun.st5 hP hlp (.int .i64 cR.n) (.int .u16 (sv cR.byz)) (.int .i64 cR.src) (.slice an9 nas.length cn9) (.slice ag9 cR.st.flight.length cg9)
          replace hX := st5_oth hX hne (.int .i64 cR.n) (.int .u16 (sv cR.byz)) (.int .i64 cR.src) (.slice an9 nas.length cn9) (.slice ag9 cR.st.flight.length cg9)
          have hP9 := set5 hP (.int .i64 cR.n) (.int .u16 (sv cR.byz)) (.int .i64 cR.src) (.slice an9 nas.length cn9) (.slice ag9 cR.st.flight.length cg9)
          replace J := keeps_set5 J hlp (.int .i64 cR.n) (.int .u16 (sv cR.byz)) (.int .i64 cR.src) (.slice an9 nas.length cn9) (.slice ag9 cR.st.flight.length cg9)
          replace hP := hP9
          clear hP9 rf rb
          unfold st5 at hX hP hrun J
          generalize ((((V6.setCell ⟨P8, 0, none⟩ (.int .i64 cR.n)).setCell ⟨P8, 1, none⟩ (.int .u16 (sv cR.byz))).setCell ⟨P8, 2, none⟩ (.int .i64 cR.src)).setCell ⟨P8, 3, none⟩ (.slice an9 nas.length cn9)).setCell ⟨P8, 4, none⟩ (.slice ag9 cR.st.flight.length cg9) = VF at *
          refine hK.out _ _ ?_ (fun hHeld => ?_)
          · exact ⟨(hX.cell 0 rfl), (hX.cell 3 rfl), (hX.cell 1 rfl)⟩
          clear hK K
          (try simp only [Act.put]); (try simp only [List.setIfInBounds_toArray]); (try simp only [List.set_cons_succ]); (try simp only [List.set_cons_zero])
          refine wpAnyH_take (i := 17) (oi := ⟨_, _, _, _, _, _⟩) (v := ?_) rfl (by kernel_rfl) (by kernel_rfl) (by kernel_rfl) (fun _ _ _ h => h) (Or.inl ⟨by rfl, ?_⟩) (by assumption) ?_
          rotate_left 1
          · intro w hSw; (try dsimp only at hSw); go_simp <;> with_reducible rfl
          (try simp only [Act.put]); (try simp only [List.setIfInBounds_toArray]); (try simp only [List.set_cons_succ]); (try simp only [List.set_cons_zero])
          refine wpAnyH_done (by kernel_rfl) ?_ _
          have HX9 := Lib.hid hX; have HP9 := Lib.hid hP; have HR9 := Lib.hid hrun; have HJ9 := Lib.hid J
          clear hX hP hrun J 
          go_wp2_with fail
          go_meet
          case rel => exact ⟨P8, _, _, rfl, by rw [List.length_replicate], HP9.out, HR9.out.toC, HX9.out, HJ9.out⟩
      · go_simp
        have hP := Blk.new V1 32 #[.int .i64 0, .int .u16 0, .int .i64 0, .slice none 0 0, .slice none 0 0]
        have hlp : W3.heap.size ≤ V1.heap.size := J.size
        have hne : w.heap.size ≠ V1.heap.size := by have := hX.lt; omega
        have kA := (Keeps.refl V1).alloc (.cells #[.int .i64 0, .int .u16 0, .int .i64 0, .slice none 0 0, .slice none 0 0] 32)
        replace hX := hX.keep kA
        replace J := J.trans kA
        replace rf := rf.keep kA
        clear kA
        generalize V1.alloc (.cells #[.int .i64 0, .int .u16 0, .int .i64 0, .slice none 0 0, .slice none 0 0] 32) = V7 at *
        generalize V1.heap.size = P8 at *
        refine hK.out _ _ ?_ (fun hHeld => ?_)
        · exact ⟨(hX.cell 0 rfl), (hX.cell 3 rfl), (hX.cell 1 rfl)⟩
        clear hK K
        (try simp only [Act.put]); (try simp only [List.setIfInBounds_toArray]); (try simp only [List.set_cons_succ]); (try simp only [List.set_cons_zero])
        refine wpAnyH_ready (rs := [3]) (by kernel_rfl) (by simp) ?_
        refine AllReadyH.cons (o := ⟨_, _, _, _, _, _⟩) rfl (fun K hK => ?_) AllReadyH.nil
        go_simp
        refine (HCb.out V7 J).mono ?_
        rintro e V8 ⟨cvb, rfl, hO, kk⟩
        have hOb : Own 24 1 V7 V8 cvb bm (sl b) := ⟨hO, kk⟩
        clear hO
        obtain ⟨ab, cb, rfl, rb⟩ := hOb.rd
        replace hX := hX.keep kk
        replace J := J.trans kk
        replace rf := rf.keep kk
        replace hP := hP.keep kk
        clear kk hOb
        refine hK.out _ _ ?_ (fun hHeld => ?_)
        · exact ⟨(hX.cell 0 rfl), (hX.cell 3 rfl), (hX.cell 1 rfl)⟩
        clear hK K
        (try simp only [Act.put]); (try simp only [List.setIfInBounds_toArray]); (try simp only [List.set_cons_succ]); (try simp only [List.set_cons_zero])
        refine wpAnyH_ready (rs := [11]) (by kernel_rfl) (by simp) ?_
        refine AllReadyH.cons (o := ⟨_, _, _, _, _, _⟩) rfl (fun K hK => ?_) AllReadyH.nil
        go_simp
        refine (runN_any V8 af fm cf f ab bm cb b N byz so _ L L (List.replicate L 0) rf rb (HZ.out.keep J) HZ2.out HZ3.out).mono ?_
        rintro e V9 ⟨kk, vr, rfl, hrun⟩
        rw [← HCR.out] at hrun
        replace hrun := hrun.since J
        obtain ⟨nas, nv, gv, rfl, q1, q2, q3, q4⟩ := hrun
        obtain ⟨an9, cn9, rfl, _⟩ := q1.rd
        obtain ⟨ag9, cg9, rfl, _⟩ := q2.rd
        have hrun : RunN W3 V9 _ _ := ⟨nas, _, _, rfl, q1, q2, q3, q4⟩
        clear q1 q2 q3 q4
        replace hX := hX.keep kk
        replace J := J.trans kk
        replace rf := rf.keep kk
        replace hP := hP.keep kk
        replace rb := rb.keep kk
        clear kk
        unfold vCast at hrun ⊢
        refine hK.out _ _ ?_ (fun hHeld => ?_)
        · exact ⟨(hX.cell 0 rfl), (hX.cell 3 rfl), (hX.cell 1 rfl)⟩
        clear hK K
        (try simp only [Act.put]); (try simp only [List.setIfInBounds_toArray]); (try simp only [List.set_cons_succ]); (try simp only [List.set_cons_zero])
        refine wpAnyH_take (i := 12) (oi := ⟨_, _, _, _, _, _⟩) (v := ?_) rfl (by kernel_rfl) (by kernel_rfl) (by kernel_rfl) (fun _ _ _ h => h) (Or.inl ⟨by rfl, ?_⟩) (by assumption) ?_
        rotate_left 1
        · intro w hSw; (try dsimp only at hSw); go_simp <;> with_reducible rfl
        (try simp only [Act.put]); (try simp only [List.setIfInBounds_toArray]); (try simp only [List.set_cons_succ]); (try simp only [List.set_cons_zero])
        refine wpAnyH_take (i := 13) (oi := ⟨_, _, _, _, _, _⟩) (v := ?_) rfl (by kernel_rfl) (by kernel_rfl) (by kernel_rfl) (fun _ _ _ h => h) (Or.inl ⟨by rfl, ?_⟩) (by assumption) ?_
        rotate_left 1
        · intro w hSw; (try dsimp only at hSw); go_simp <;> with_reducible rfl
        (try simp only [Act.put]); (try simp only [List.setIfInBounds_toArray]); (try simp only [List.set_cons_succ]); (try simp only [List.set_cons_zero])
        refine wpAnyH_take (i := 14) (oi := ⟨_, _, _, _, _, _⟩) (v := ?_) rfl (by kernel_rfl) (by kernel_rfl) (by kernel_rfl) (fun _ _ _ h => h) (Or.inl ⟨by rfl, ?_⟩) (by assumption) ?_
        rotate_left 1
        · intro w hSw; (try dsimp only at hSw); go_simp <;> with_reducible rfl
        (try simp only [Act.put]); (try simp only [List.setIfInBounds_toArray]); (try simp only [List.set_cons_succ]); (try simp only [List.set_cons_zero])
        refine wpAnyH_ready (rs := [16]) (by kernel_rfl) (by simp) ?_
        refine AllReadyH.cons (o := ⟨_, _, _, _, _, _⟩) rfl (fun K hK => ?_) AllReadyH.nil
        obtain ⟨y0, y1, y2, y3, y4⟩ := Go.Proofs.YtbcfkgolhklkaaaDoor.c5 hP
        obtain ⟨g0, g1, g2, g3, g4⟩ := f5 hP
        go_simp
        clear y0 y1 y2 y3 y4 g0 g1 g2 g3 g4
        replace hrun := hrun.st5 hP hlp (.int .i64 cR.n) (.int .u16 (sv cR.byz)) (.int .i64 cR.src) (.slice an9 nas.length cn9) (.slice ag9 cR.st.flight.length cg9)
        replace hX := st5_oth hX hne (.int .i64 cR.n) (.int .u16 (sv cR.byz)) (.int .i64 cR.src) (.slice an9 nas.length cn9) (.slice ag9 cR.st.flight.length cg9)
        have hP9 := set5 hP (.int .i64 cR.n) (.int .u16 (sv cR.byz)) (.int .i64 cR.src) (.slice an9 nas.length cn9) (.slice ag9 cR.st.flight.length cg9)
        replace J := keeps_set5 J hlp (.int .i64 cR.n) (.int .u16 (sv cR.byz)) (.int .i64 cR.src) (.slice an9 nas.length cn9) (.slice ag9 cR.st.flight.length cg9)
        replace hP := hP9
        clear hP9 rf rb
        unfold st5 at hX hP hrun J
        generalize ((((V9.setCell ⟨P8, 0, none⟩ (.int .i64 cR.n)).setCell ⟨P8, 1, none⟩ (.int .u16 (sv cR.byz))).setCell ⟨P8, 2, none⟩ (.int .i64 cR.src)).setCell ⟨P8, 3, none⟩ (.slice an9 nas.length cn9)).setCell ⟨P8, 4, none⟩ (.slice ag9 cR.st.flight.length cg9) = VF at *
        refine hK.out _ _ ?_ (fun hHeld => ?_)
        · exact ⟨(hX.cell 0 rfl), (hX.cell 3 rfl), (hX.cell 1 rfl)⟩
        clear hK K
        (try simp only [Act.put]); (try simp only [List.setIfInBounds_toArray]); (try simp only [List.set_cons_succ]); (try simp only [List.set_cons_zero])
        refine wpAnyH_take (i := 17) (oi := ⟨_, _, _, _, _, _⟩) (v := ?_) rfl (by kernel_rfl) (by kernel_rfl) (by kernel_rfl) (fun _ _ _ h => h) (Or.inl ⟨by rfl, ?_⟩) (by assumption) ?_
        rotate_left 1
        · intro w hSw; (try dsimp only at hSw); go_simp <;> with_reducible rfl
        (try simp only [Act.put]); (try simp only [List.setIfInBounds_toArray]); (try simp only [List.set_cons_succ]); (try simp only [List.set_cons_zero])
        refine wpAnyH_done (by kernel_rfl) ?_ _
        have HX9 := Lib.hid hX; have HP9 := Lib.hid hP; have HR9 := Lib.hid hrun; have HJ9 := Lib.hid J
        clear hX hP hrun J 
        go_wp2_with fail
        go_meet
        case rel => exact ⟨P8, _, _, rfl, by rw [List.length_replicate], HP9.out, HR9.out.toC, HX9.out, HJ9.out⟩
    · go_simp
      have hP := Blk.new V0 32 #[.int .i64 0, .int .u16 0, .int .i64 0, .slice none 0 0, .slice none 0 0]
      have hlp : W3.heap.size ≤ V0.heap.size := J.size
      have hne : w.heap.size ≠ V0.heap.size := by have := hX.lt; omega
      have kA := (Keeps.refl V0).alloc (.cells #[.int .i64 0, .int .u16 0, .int .i64 0, .slice none 0 0, .slice none 0 0] 32)
      replace hX := hX.keep kA
      replace J := J.trans kA
      clear kA
      generalize V0.alloc (.cells #[.int .i64 0, .int .u16 0, .int .i64 0, .slice none 0 0, .slice none 0 0] 32) = V10 at *
      generalize V0.heap.size = P8 at *
      refine hK.out _ _ ?_ (fun hHeld => ?_)
      · exact ⟨(hX.cell 0 rfl), (hX.cell 3 rfl), (hX.cell 1 rfl)⟩
      clear hK K
      (try simp only [Act.put]); (try simp only [List.setIfInBounds_toArray]); (try simp only [List.set_cons_succ]); (try simp only [List.set_cons_zero])
      refine wpAnyH_ready (rs := [1]) (by kernel_rfl) (by simp) ?_
      refine AllReadyH.cons (o := ⟨_, _, _, _, _, _⟩) rfl (fun K hK => ?_) AllReadyH.nil
      go_simp
      refine (HCf.out V10 J).mono ?_
      rintro e V11 ⟨cvf, rfl, hO, kk⟩
      have hOf : Own 24 1 V10 V11 cvf fm (sl f) := ⟨hO, kk⟩
      clear hO
      obtain ⟨af, cf, rfl, rf⟩ := hOf.rd
      replace hX := hX.keep kk
      replace J := J.trans kk
      replace hP := hP.keep kk
      clear kk hOf
      refine hK.out _ _ ?_ (fun hHeld => ?_)
      · exact ⟨(hX.cell 0 rfl), (hX.cell 3 rfl), (hX.cell 1 rfl)⟩
      clear hK K
      (try simp only [Act.put]); (try simp only [List.setIfInBounds_toArray]); (try simp only [List.set_cons_succ]); (try simp only [List.set_cons_zero])
      refine wpAnyH_ready (rs := [3]) (by kernel_rfl) (by simp) ?_
      refine AllReadyH.cons (o := ⟨_, _, _, _, _, _⟩) rfl (fun K hK => ?_) AllReadyH.nil
      go_simp
      refine (HCb.out V11 J).mono ?_
      rintro e V12 ⟨cvb, rfl, hO, kk⟩
      have hOb : Own 24 1 V11 V12 cvb bm (sl b) := ⟨hO, kk⟩
      clear hO
      obtain ⟨ab, cb, rfl, rb⟩ := hOb.rd
      replace hX := hX.keep kk
      replace J := J.trans kk
      replace hP := hP.keep kk
      replace rf := rf.keep kk
      clear kk hOb
      refine hK.out _ _ ?_ (fun hHeld => ?_)
      · exact ⟨(hX.cell 0 rfl), (hX.cell 3 rfl), (hX.cell 1 rfl)⟩
      clear hK K
      (try simp only [Act.put]); (try simp only [List.setIfInBounds_toArray]); (try simp only [List.set_cons_succ]); (try simp only [List.set_cons_zero])
      refine wpAnyH_ready (rs := [11]) (by kernel_rfl) (by simp) ?_
      refine AllReadyH.cons (o := ⟨_, _, _, _, _, _⟩) rfl (fun K hK => ?_) AllReadyH.nil
      go_simp
      refine (runN_any V12 af fm cf f ab bm cb b N byz so _ L L (List.replicate L 0) rf rb (HZ.out.keep J) HZ2.out HZ3.out).mono ?_
      rintro e V13 ⟨kk, vr, rfl, hrun⟩
      rw [← HCR.out] at hrun
      replace hrun := hrun.since J
      obtain ⟨nas, nv, gv, rfl, q1, q2, q3, q4⟩ := hrun
      obtain ⟨an9, cn9, rfl, _⟩ := q1.rd
      obtain ⟨ag9, cg9, rfl, _⟩ := q2.rd
      have hrun : RunN W3 V13 _ _ := ⟨nas, _, _, rfl, q1, q2, q3, q4⟩
      clear q1 q2 q3 q4
      replace hX := hX.keep kk
      replace J := J.trans kk
      replace hP := hP.keep kk
      replace rf := rf.keep kk
      replace rb := rb.keep kk
      clear kk
      unfold vCast at hrun ⊢
      refine hK.out _ _ ?_ (fun hHeld => ?_)
      · exact ⟨(hX.cell 0 rfl), (hX.cell 3 rfl), (hX.cell 1 rfl)⟩
      clear hK K
      (try simp only [Act.put]); (try simp only [List.setIfInBounds_toArray]); (try simp only [List.set_cons_succ]); (try simp only [List.set_cons_zero])
      refine wpAnyH_take (i := 12) (oi := ⟨_, _, _, _, _, _⟩) (v := ?_) rfl (by kernel_rfl) (by kernel_rfl) (by kernel_rfl) (fun _ _ _ h => h) (Or.inl ⟨by rfl, ?_⟩) (by assumption) ?_
      rotate_left 1
      · intro w hSw; (try dsimp only at hSw); go_simp <;> with_reducible rfl
      (try simp only [Act.put]); (try simp only [List.setIfInBounds_toArray]); (try simp only [List.set_cons_succ]); (try simp only [List.set_cons_zero])
      refine wpAnyH_take (i := 13) (oi := ⟨_, _, _, _, _, _⟩) (v := ?_) rfl (by kernel_rfl) (by kernel_rfl) (by kernel_rfl) (fun _ _ _ h => h) (Or.inl ⟨by rfl, ?_⟩) (by assumption) ?_
      rotate_left 1
      · intro w hSw; (try dsimp only at hSw); go_simp <;> with_reducible rfl
      (try simp only [Act.put]); (try simp only [List.setIfInBounds_toArray]); (try simp only [List.set_cons_succ]); (try simp only [List.set_cons_zero])
      refine wpAnyH_take (i := 14) (oi := ⟨_, _, _, _, _, _⟩) (v := ?_) rfl (by kernel_rfl) (by kernel_rfl) (by kernel_rfl) (fun _ _ _ h => h) (Or.inl ⟨by rfl, ?_⟩) (by assumption) ?_
      rotate_left 1
      · intro w hSw; (try dsimp only at hSw); go_simp <;> with_reducible rfl
      (try simp only [Act.put]); (try simp only [List.setIfInBounds_toArray]); (try simp only [List.set_cons_succ]); (try simp only [List.set_cons_zero])
      refine wpAnyH_ready (rs := [16]) (by kernel_rfl) (by simp) ?_
      refine AllReadyH.cons (o := ⟨_, _, _, _, _, _⟩) rfl (fun K hK => ?_) AllReadyH.nil
      obtain ⟨y0, y1, y2, y3, y4⟩ := Go.Proofs.YtbcfkgolhklkaaaDoor.c5 hP
      obtain ⟨g0, g1, g2, g3, g4⟩ := f5 hP
      go_simp
      clear y0 y1 y2 y3 y4 g0 g1 g2 g3 g4
      replace hrun := hrun.st5 hP hlp (.int .i64 cR.n) (.int .u16 (sv cR.byz)) (.int .i64 cR.src) (.slice an9 nas.length cn9) (.slice ag9 cR.st.flight.length cg9)
      replace hX := st5_oth hX hne (.int .i64 cR.n) (.int .u16 (sv cR.byz)) (.int .i64 cR.src) (.slice an9 nas.length cn9) (.slice ag9 cR.st.flight.length cg9)
      have hP9 := set5 hP (.int .i64 cR.n) (.int .u16 (sv cR.byz)) (.int .i64 cR.src) (.slice an9 nas.length cn9) (.slice ag9 cR.st.flight.length cg9)
      replace J := keeps_set5 J hlp (.int .i64 cR.n) (.int .u16 (sv cR.byz)) (.int .i64 cR.src) (.slice an9 nas.length cn9) (.slice ag9 cR.st.flight.length cg9)
      replace hP := hP9
      clear hP9 rf rb
      unfold st5 at hX hP hrun J
      generalize ((((V13.setCell ⟨P8, 0, none⟩ (.int .i64 cR.n)).setCell ⟨P8, 1, none⟩ (.int .u16 (sv cR.byz))).setCell ⟨P8, 2, none⟩ (.int .i64 cR.src)).setCell ⟨P8, 3, none⟩ (.slice an9 nas.length cn9)).setCell ⟨P8, 4, none⟩ (.slice ag9 cR.st.flight.length cg9) = VF at *
      refine hK.out _ _ ?_ (fun hHeld => ?_)
      · exact ⟨(hX.cell 0 rfl), (hX.cell 3 rfl), (hX.cell 1 rfl)⟩
      clear hK K
      (try simp only [Act.put]); (try simp only [List.setIfInBounds_toArray]); (try simp only [List.set_cons_succ]); (try simp only [List.set_cons_zero])
      refine wpAnyH_take (i := 17) (oi := ⟨_, _, _, _, _, _⟩) (v := ?_) rfl (by kernel_rfl) (by kernel_rfl) (by kernel_rfl) (fun _ _ _ h => h) (Or.inl ⟨by rfl, ?_⟩) (by assumption) ?_
      rotate_left 1
      · intro w hSw; (try dsimp only at hSw); go_simp <;> with_reducible rfl
      (try simp only [Act.put]); (try simp only [List.setIfInBounds_toArray]); (try simp only [List.set_cons_succ]); (try simp only [List.set_cons_zero])
      refine wpAnyH_done (by kernel_rfl) ?_ _
      have HX9 := Lib.hid hX; have HP9 := Lib.hid hP; have HR9 := Lib.hid hrun; have HJ9 := Lib.hid J
      clear hX hP hrun J 
      go_wp2_with fail
      go_meet
      case rel => exact ⟨P8, _, _, rfl, by rw [List.length_replicate], HP9.out, HR9.out.toC, HX9.out, HJ9.out⟩
  case rest =>
  obtain ⟨P8, nv, gv, rfl, rfl, hP8, hy, hX, J⟩ := hcut
  rw [← HER.out]
  obtain ⟨W4, hW4⟩ : ∃ W, W = wc := ⟨_, rfl⟩
  rw [← hW4] at hP8 hy hX J ⊢
  clear hW4
  obtain ⟨x0, x1, x2, x3⟩ := And.intro (hX.cell 0 (v := .int .i64 N) rfl) (And.intro (hX.cell 1 (v := .int .i64 so) rfl) (And.intro (hX.cell 2 (v := .int .i64 ch) rfl) (hX.cell 3 (v := .int .u16 (sv byz)) rfl)))
  have hrr := rrunC_any W4 fa fm fc f ba bm bc b N byz so _ L L (List.replicate L 0) (HF.out.keep J) (HB.out.keep J) (HZ.out.keep J) HZ2.out HZ3.out (by omega) (by omega)
  have HRR := Lib.hid hrr
  have HX := Lib.hid hX; have HP8 := Lib.hid hP8; have HY := Lib.hid hy; have HF := Lib.hid (HF.out.keep J); have HB := Lib.hid (HB.out.keep J); have HT := Lib.hid (HT.out.keep J); have HK4 := Lib.hid (HK3.out.trans J)
  clear hrr hX hP8 hy J HCf HCb HZ HK3 x2
  go_wp2_with fail
  refine HRR.out.mono ?_
  rintro e w5 ⟨k5, v, rfl, hv⟩
  rw [← HCR.out] at hv
  rw [← HER.out]
  have HV := hv
  obtain ⟨an1, cn1, nas1, ag1, cg1, rfl, _, _, _, _⟩ := hv
  unfold vCast at HV ⊢
  have b1 := Blk.new w5 32 #[.int .i64 cR.n, .int .u16 (sv cR.byz), .int .i64 cR.src, .slice an1 nas1.length cn1, .slice ag1 cR.st.flight.length cg1]
  have kb := (Keeps.refl w5).alloc (.cells #[.int .i64 cR.n, .int .u16 (sv cR.byz), .int .i64 cR.src, .slice an1 nas1.length cn1, .slice ag1 cR.st.flight.length cg1] 32)
  have k6 := k5.trans kb
  have HZV := Lib.hid (HV.keep kb); have HP10 := Lib.hid b1; have HX := Lib.hid (HX.out.keep k6); have HP8 := Lib.hid (HP8.out.keep k6); have HY := Lib.hid (HY.out.keep k6); have HF := Lib.hid (HF.out.keep k6); have HB := Lib.hid (HB.out.keep k6); have HT := Lib.hid (HT.out.keep k6); have HK6 := Lib.hid (HK4.out.trans k6)
  clear HRR x0 x1 x3 k5 HV b1 kb k6 HCR
  go_upto_region 6 with fail
  generalize w5.alloc (.cells #[.int .i64 cR.n, .int .u16 (sv cR.byz), .int .i64 cR.src, .slice an1 nas1.length cn1, .slice ag1 cR.st.flight.length cg1] 32) = W6 at *
  generalize w5.heap.size = P10 at *
  clear HER
  have HCf := Lib.hid (fun W (k : Keeps W6 W) => cloneS_any fa fm fc (sl f) W (HF.out.keep k) (sl_oneCell f) (by omega))
  have HCb := Lib.hid (fun W (k : Keeps W6 W) => cloneS_any ba bm bc (sl b) W (HB.out.keep k) (sl_oneCell b) (by omega))
  obtain ⟨ea, hea⟩ : ∃ er, er = atkE f b N := ⟨_, rfl⟩
  obtain ⟨cA, hcR⟩ : ∃ c, c = (if atkE f b N = 0 then ((splI N.toNat b f).elim cd0 fun r => ⟨N, r.2.2, tzS r.2.2, atkS f b N.toNat r.1 r.2.1 r.2.2⟩ : CD) else cd0) := ⟨_, rfl⟩
  have HCR := Lib.hid hcR; have HEA := Lib.hid hea
  clear hcR hea
  go_cut [12, 13] (fun s12 s13 wx => ∃ (P12 : Nat) (nv gv : Value), s12 = .pointer (some ⟨P12, 0, none⟩) ∧ s13 = .int .i64 (atkE f b N) ∧ Blk wx P12 32 #[.int .i64 cA.n, .int .u16 (sv cA.byz), .int .i64 cA.src, nv, gv] ∧ HasC wx cA (.agg #[.int .i64 cA.n, .int .u16 (sv cA.byz), .int .i64 cA.src, nv, gv]) ∧ Blk wx w.heap.size 26 #[.int .i64 N, .int .i64 so, .int .i64 ch, .int .u16 (sv byz)] ∧ Keeps W6 wx)
  case first =>
    have J := (Keeps.refl W6).drew
    have hX := HX.out.keep J
    refine wp_region_held_drew (S := (fun w' => w'.cell? ⟨w.heap.size, 0, none⟩ = some (.int .i64 N))) (by kernel_rfl) ?_ (fun hHeld => ?_)
    · exact hX.cell 0 rfl
    generalize W6.drew = V0 at *
    refine wpAnyH_take (i := 0) (oi := ⟨_, _, _, _, _, _⟩) (v := ?_) rfl (by kernel_rfl) (by kernel_rfl) (by kernel_rfl) (fun _ _ _ h => h) (Or.inl ⟨by rfl, ?_⟩) (by assumption) ?_
    rotate_left 1
    · intro w hSw; (try dsimp only at hSw); go_simp <;> with_reducible rfl
    (try simp only [Act.put]); (try simp only [List.setIfInBounds_toArray]); (try simp only [List.set_cons_succ]); (try simp only [List.set_cons_zero])
    refine wpAnyH_take (i := 2) (oi := ⟨_, _, _, _, _, _⟩) (v := ?_) rfl (by kernel_rfl) (by kernel_rfl) (by kernel_rfl) (fun _ _ _ h => h) (Or.inl ⟨by rfl, ?_⟩) (by assumption) ?_
    rotate_left 1
    · intro w hSw; (try dsimp only at hSw); go_simp <;> with_reducible rfl
    (try simp only [Act.put]); (try simp only [List.setIfInBounds_toArray]); (try simp only [List.set_cons_succ]); (try simp only [List.set_cons_zero])
    refine wpAnyH_take (i := 4) (oi := ⟨_, _, _, _, _, _⟩) (v := ?_) rfl (by kernel_rfl) (by kernel_rfl) (by kernel_rfl) (fun _ _ _ h => h) (Or.inl ⟨by rfl, ?_⟩) (by assumption) ?_
    rotate_left 1
    · intro w hSw; (try dsimp only at hSw); go_simp <;> with_reducible rfl
    (try simp only [Act.put]); (try simp only [List.setIfInBounds_toArray]); (try simp only [List.set_cons_succ]); (try simp only [List.set_cons_zero])
    refine wpAnyH_take (i := 5) (oi := ⟨_, _, _, _, _, _⟩) (v := ?_) rfl (by kernel_rfl) (by kernel_rfl) (by kernel_rfl) (fun _ _ _ h => h) (Or.inl ⟨by rfl, ?_⟩) (by assumption) ?_
    rotate_left 1
    · intro w hSw; (try dsimp only at hSw); go_simp <;> with_reducible rfl
    (try simp only [Act.put]); (try simp only [List.setIfInBounds_toArray]); (try simp only [List.set_cons_succ]); (try simp only [List.set_cons_zero])
    refine wpAnyH_ready (rs := [1, 10]) (by kernel_rfl) (by simp) ?_
    refine AllReadyH.cons (o := ⟨_, _, _, _, _, _⟩) rfl (fun K hK => ?_) (AllReadyH.cons (o := ⟨_, _, _, _, _, _⟩) rfl (fun K hK => ?_) AllReadyH.nil)
    · go_simp
      refine (HCf.out V0 J).mono ?_
      rintro e V1 ⟨cvf, rfl, hO, kk⟩
      have hOf : Own 24 1 V0 V1 cvf fm (sl f) := ⟨hO, kk⟩
      clear hO
      obtain ⟨af, cf, rfl, rf⟩ := hOf.rd
      replace hX := hX.keep kk
      replace J := J.trans kk
      clear kk hOf
      refine hK.out _ _ ?_ (fun hHeld => ?_)
      · exact hX.cell 0 rfl
      clear hK K
      (try simp only [Act.put]); (try simp only [List.setIfInBounds_toArray]); (try simp only [List.set_cons_succ]); (try simp only [List.set_cons_zero])
      refine wpAnyH_ready (rs := [3, 10]) (by kernel_rfl) (by simp) ?_
      refine AllReadyH.cons (o := ⟨_, _, _, _, _, _⟩) rfl (fun K hK => ?_) (AllReadyH.cons (o := ⟨_, _, _, _, _, _⟩) rfl (fun K hK => ?_) AllReadyH.nil)
      · go_simp
        refine (HCb.out V1 J).mono ?_
        rintro e V2 ⟨cvb, rfl, hO, kk⟩
        have hOb : Own 24 1 V1 V2 cvb bm (sl b) := ⟨hO, kk⟩
        clear hO
        obtain ⟨ab, cb, rfl, rb⟩ := hOb.rd
        replace hX := hX.keep kk
        replace J := J.trans kk
        replace rf := rf.keep kk
        clear kk hOb
        refine hK.out _ _ ?_ (fun hHeld => ?_)
        · exact hX.cell 0 rfl
        clear hK K
        (try simp only [Act.put]); (try simp only [List.setIfInBounds_toArray]); (try simp only [List.set_cons_succ]); (try simp only [List.set_cons_zero])
        refine wpAnyH_ready (rs := [6, 10]) (by kernel_rfl) (by simp) ?_
        refine AllReadyH.cons (o := ⟨_, _, _, _, _, _⟩) rfl (fun K hK => ?_) (AllReadyH.cons (o := ⟨_, _, _, _, _, _⟩) rfl (fun K hK => ?_) AllReadyH.nil)
        · go_simp
          refine (attackN_any V2 (HT.out.keep J) af fm cf f ab bm cb b N rf rb).mono ?_
          rintro e V3 ⟨kk, vr, rfl, hrun⟩
          rw [← HCR.out] at hrun
          replace hrun := hrun.since J
          obtain ⟨nas, nv, gv, rfl, q1, q2, q3, q4⟩ := hrun
          obtain ⟨an9, cn9, rfl, _⟩ := q1.rd
          obtain ⟨ag9, cg9, rfl, _⟩ := q2.rd
          have hrun : RunN W6 V3 _ _ := ⟨nas, _, _, rfl, q1, q2, q3, q4⟩
          clear q1 q2 q3 q4
          replace hX := hX.keep kk
          replace J := J.trans kk
          replace rf := rf.keep kk
          replace rb := rb.keep kk
          clear kk
          unfold vCast at hrun ⊢
          refine hK.out _ _ ?_ (fun hHeld => ?_)
          · exact hX.cell 0 rfl
          clear hK K
          (try simp only [Act.put]); (try simp only [List.setIfInBounds_toArray]); (try simp only [List.set_cons_succ]); (try simp only [List.set_cons_zero])
          refine wpAnyH_take (i := 7) (oi := ⟨_, _, _, _, _, _⟩) (v := ?_) rfl (by kernel_rfl) (by kernel_rfl) (by kernel_rfl) (fun _ _ _ h => h) (Or.inl ⟨by rfl, ?_⟩) (by assumption) ?_
          rotate_left 1
          · intro w hSw; (try dsimp only at hSw); go_simp <;> with_reducible rfl
          (try simp only [Act.put]); (try simp only [List.setIfInBounds_toArray]); (try simp only [List.set_cons_succ]); (try simp only [List.set_cons_zero])
          refine wpAnyH_take (i := 8) (oi := ⟨_, _, _, _, _, _⟩) (v := ?_) rfl (by kernel_rfl) (by kernel_rfl) (by kernel_rfl) (fun _ _ _ h => h) (Or.inl ⟨by rfl, ?_⟩) (by assumption) ?_
          rotate_left 1
          · intro w hSw; (try dsimp only at hSw); go_simp <;> with_reducible rfl
          (try simp only [Act.put]); (try simp only [List.setIfInBounds_toArray]); (try simp only [List.set_cons_succ]); (try simp only [List.set_cons_zero])
          refine wpAnyH_take (i := 9) (oi := ⟨_, _, _, _, _, _⟩) (v := ?_) rfl (by kernel_rfl) (by kernel_rfl) (by kernel_rfl) (fun _ _ _ h => h) (Or.inl ⟨by rfl, ?_⟩) (by assumption) ?_
          rotate_left 1
          · intro w hSw; (try dsimp only at hSw); go_simp <;> with_reducible rfl
          (try simp only [Act.put]); (try simp only [List.setIfInBounds_toArray]); (try simp only [List.set_cons_succ]); (try simp only [List.set_cons_zero])
          refine wpAnyH_ready (rs := [10]) (by kernel_rfl) (by simp) ?_
          refine AllReadyH.cons (o := ⟨_, _, _, _, _, _⟩) rfl (fun K hK => ?_) AllReadyH.nil
          go_simp
          have hP := Blk.new V3 32 #[.int .i64 0, .int .u16 0, .int .i64 0, .slice none 0 0, .slice none 0 0]
          have hlp : W6.heap.size ≤ V3.heap.size := J.size
          have hne : w.heap.size ≠ V3.heap.size := by have := hX.lt; omega
          have kA := (Keeps.refl V3).alloc (.cells #[.int .i64 0, .int .u16 0, .int .i64 0, .slice none 0 0, .slice none 0 0] 32)
          replace hX := hX.keep kA
          replace J := J.trans kA
          replace rf := rf.keep kA
          replace rb := rb.keep kA
          replace hrun := hrun.keep kA
          clear kA
          generalize V3.alloc (.cells #[.int .i64 0, .int .u16 0, .int .i64 0, .slice none 0 0, .slice none 0 0] 32) = V4 at *
          generalize V3.heap.size = P12 at *
          refine hK.out _ _ ?_ (fun hHeld => ?_)
          · exact hX.cell 0 rfl
          clear hK K
          (try simp only [Act.put]); (try simp only [List.setIfInBounds_toArray]); (try simp only [List.set_cons_succ]); (try simp only [List.set_cons_zero])
          refine wpAnyH_ready (rs := [11]) (by kernel_rfl) (by simp) ?_
          refine AllReadyH.cons (o := ⟨_, _, _, _, _, _⟩) rfl (fun K hK => ?_) AllReadyH.nil
          obtain ⟨y0, y1, y2, y3, y4⟩ := Go.Proofs.YtbcfkgolhklkaaaDoor.c5 hP
          obtain ⟨g0, g1, g2, g3, g4⟩ := f5 hP
          go_simp
          clear y0 y1 y2 y3 y4 g0 g1 g2 g3 g4
          replace hrun := hrun.st5 hP hlp (.int .i64 cA.n) (.int .u16 (sv cA.byz)) (.int .i64 cA.src) (.slice an9 nas.length cn9) (.slice ag9 cA.st.flight.length cg9)
          replace hX := st5_oth hX hne (.int .i64 cA.n) (.int .u16 (sv cA.byz)) (.int .i64 cA.src) (.slice an9 nas.length cn9) (.slice ag9 cA.st.flight.length cg9)
          have hP9 := set5 hP (.int .i64 cA.n) (.int .u16 (sv cA.byz)) (.int .i64 cA.src) (.slice an9 nas.length cn9) (.slice ag9 cA.st.flight.length cg9)
          replace J := keeps_set5 J hlp (.int .i64 cA.n) (.int .u16 (sv cA.byz)) (.int .i64 cA.src) (.slice an9 nas.length cn9) (.slice ag9 cA.st.flight.length cg9)
          replace hP := hP9
          clear hP9 rf rb
          unfold st5 at hX hP hrun J
          generalize ((((V4.setCell ⟨P12, 0, none⟩ (.int .i64 cA.n)).setCell ⟨P12, 1, none⟩ (.int .u16 (sv cA.byz))).setCell ⟨P12, 2, none⟩ (.int .i64 cA.src)).setCell ⟨P12, 3, none⟩ (.slice an9 nas.length cn9)).setCell ⟨P12, 4, none⟩ (.slice ag9 cA.st.flight.length cg9) = VF at *
          refine hK.out _ _ ?_ (fun hHeld => ?_)
          · exact hX.cell 0 rfl
          clear hK K
          (try simp only [Act.put]); (try simp only [List.setIfInBounds_toArray]); (try simp only [List.set_cons_succ]); (try simp only [List.set_cons_zero])
          refine wpAnyH_take (i := 12) (oi := ⟨_, _, _, _, _, _⟩) (v := ?_) rfl (by kernel_rfl) (by kernel_rfl) (by kernel_rfl) (fun _ _ _ h => h) (Or.inl ⟨by rfl, ?_⟩) (by assumption) ?_
          rotate_left 1
          · intro w hSw; (try dsimp only at hSw); go_simp <;> with_reducible rfl
          (try simp only [Act.put]); (try simp only [List.setIfInBounds_toArray]); (try simp only [List.set_cons_succ]); (try simp only [List.set_cons_zero])
          refine wpAnyH_done (by kernel_rfl) ?_ _
          have HX9 := Lib.hid hX; have HP9 := Lib.hid hP; have HR9 := Lib.hid hrun; have HJ9 := Lib.hid J
          clear hX hP hrun J 
          go_wp2_with fail
          go_meet
          case rel => exact ⟨P12, _, _, rfl, rfl, HP9.out, HR9.out.toC, HX9.out, HJ9.out⟩
        · go_simp
          have hP := Blk.new V2 32 #[.int .i64 0, .int .u16 0, .int .i64 0, .slice none 0 0, .slice none 0 0]
          have hlp : W6.heap.size ≤ V2.heap.size := J.size
          have hne : w.heap.size ≠ V2.heap.size := by have := hX.lt; omega
          have kA := (Keeps.refl V2).alloc (.cells #[.int .i64 0, .int .u16 0, .int .i64 0, .slice none 0 0, .slice none 0 0] 32)
          replace hX := hX.keep kA
          replace J := J.trans kA
          replace rf := rf.keep kA
          replace rb := rb.keep kA
          clear kA
          generalize V2.alloc (.cells #[.int .i64 0, .int .u16 0, .int .i64 0, .slice none 0 0, .slice none 0 0] 32) = V5 at *
          generalize V2.heap.size = P12 at *
          refine hK.out _ _ ?_ (fun hHeld => ?_)
          · exact hX.cell 0 rfl
          clear hK K
          (try simp only [Act.put]); (try simp only [List.setIfInBounds_toArray]); (try simp only [List.set_cons_succ]); (try simp only [List.set_cons_zero])
          refine wpAnyH_ready (rs := [6]) (by kernel_rfl) (by simp) ?_
          refine AllReadyH.cons (o := ⟨_, _, _, _, _, _⟩) rfl (fun K hK => ?_) AllReadyH.nil
          go_simp
          refine (attackN_any V5 (HT.out.keep J) af fm cf f ab bm cb b N rf rb).mono ?_
          rintro e V6 ⟨kk, vr, rfl, hrun⟩
          rw [← HCR.out] at hrun
          replace hrun := hrun.since J
          obtain ⟨nas, nv, gv, rfl, q1, q2, q3, q4⟩ := hrun
          obtain ⟨an9, cn9, rfl, _⟩ := q1.rd
          obtain ⟨ag9, cg9, rfl, _⟩ := q2.rd
          have hrun : RunN W6 V6 _ _ := ⟨nas, _, _, rfl, q1, q2, q3, q4⟩
          clear q1 q2 q3 q4
          replace hX := hX.keep kk
          replace J := J.trans kk
          replace rf := rf.keep kk
          replace rb := rb.keep kk
          replace hP := hP.keep kk
          clear kk
          unfold vCast at hrun ⊢
          refine hK.out _ _ ?_ (fun hHeld => ?_)
          · exact hX.cell 0 rfl
          clear hK K
          (try simp only [Act.put]); (try simp only [List.setIfInBounds_toArray]); (try simp only [List.set_cons_succ]); (try simp only [List.set_cons_zero])
          refine wpAnyH_take (i := 7) (oi := ⟨_, _, _, _, _, _⟩) (v := ?_) rfl (by kernel_rfl) (by kernel_rfl) (by kernel_rfl) (fun _ _ _ h => h) (Or.inl ⟨by rfl, ?_⟩) (by assumption) ?_
          rotate_left 1
          · intro w hSw; (try dsimp only at hSw); go_simp <;> with_reducible rfl
          (try simp only [Act.put]); (try simp only [List.setIfInBounds_toArray]); (try simp only [List.set_cons_succ]); (try simp only [List.set_cons_zero])
          refine wpAnyH_take (i := 8) (oi := ⟨_, _, _, _, _, _⟩) (v := ?_) rfl (by kernel_rfl) (by kernel_rfl) (by kernel_rfl) (fun _ _ _ h => h) (Or.inl ⟨by rfl, ?_⟩) (by assumption) ?_
          rotate_left 1
          · intro w hSw; (try dsimp only at hSw); go_simp <;> with_reducible rfl
          (try simp only [Act.put]); (try simp only [List.setIfInBounds_toArray]); (try simp only [List.set_cons_succ]); (try simp only [List.set_cons_zero])
          refine wpAnyH_take (i := 9) (oi := ⟨_, _, _, _, _, _⟩) (v := ?_) rfl (by kernel_rfl) (by kernel_rfl) (by kernel_rfl) (fun _ _ _ h => h) (Or.inl ⟨by rfl, ?_⟩) (by assumption) ?_
          rotate_left 1
          · intro w hSw; (try dsimp only at hSw); go_simp <;> with_reducible rfl
          (try simp only [Act.put]); (try simp only [List.setIfInBounds_toArray]); (try simp only [List.set_cons_succ]); (try simp only [List.set_cons_zero])
          refine wpAnyH_ready (rs := [11]) (by kernel_rfl) (by simp) ?_
          refine AllReadyH.cons (o := ⟨_, _, _, _, _, _⟩) rfl (fun K hK => ?_) AllReadyH.nil
          obtain ⟨y0, y1, y2, y3, y4⟩ := Go.Proofs.YtbcfkgolhklkaaaDoor.c5 hP
          obtain ⟨g0, g1, g2, g3, g4⟩ := f5 hP
          go_simp
          clear y0 y1 y2 y3 y4 g0 g1 g2 g3 g4
          replace hrun := hrun.st5 hP hlp (.int .i64 cA.n) (.int .u16 (sv cA.byz)) (.int .i64 cA.src) (.slice an9 nas.length cn9) (.slice ag9 cA.st.flight.length cg9)
          replace hX := st5_oth hX hne (.int .i64 cA.n) (.int .u16 (sv cA.byz)) (.int .i64 cA.src) (.slice an9 nas.length cn9) (.slice ag9 cA.st.flight.length cg9)
          have hP9 := set5 hP (.int .i64 cA.n) (.int .u16 (sv cA.byz)) (.int .i64 cA.src) (.slice an9 nas.length cn9) (.slice ag9 cA.st.flight.length cg9)
          replace J := keeps_set5 J hlp (.int .i64 cA.n) (.int .u16 (sv cA.byz)) (.int .i64 cA.src) (.slice an9 nas.length cn9) (.slice ag9 cA.st.flight.length cg9)
          replace hP := hP9
          clear hP9 rf rb
          unfold st5 at hX hP hrun J
          generalize ((((V6.setCell ⟨P12, 0, none⟩ (.int .i64 cA.n)).setCell ⟨P12, 1, none⟩ (.int .u16 (sv cA.byz))).setCell ⟨P12, 2, none⟩ (.int .i64 cA.src)).setCell ⟨P12, 3, none⟩ (.slice an9 nas.length cn9)).setCell ⟨P12, 4, none⟩ (.slice ag9 cA.st.flight.length cg9) = VF at *
          refine hK.out _ _ ?_ (fun hHeld => ?_)
          · exact hX.cell 0 rfl
          clear hK K
          (try simp only [Act.put]); (try simp only [List.setIfInBounds_toArray]); (try simp only [List.set_cons_succ]); (try simp only [List.set_cons_zero])
          refine wpAnyH_take (i := 12) (oi := ⟨_, _, _, _, _, _⟩) (v := ?_) rfl (by kernel_rfl) (by kernel_rfl) (by kernel_rfl) (fun _ _ _ h => h) (Or.inl ⟨by rfl, ?_⟩) (by assumption) ?_
          rotate_left 1
          · intro w hSw; (try dsimp only at hSw); go_simp <;> with_reducible rfl
          (try simp only [Act.put]); (try simp only [List.setIfInBounds_toArray]); (try simp only [List.set_cons_succ]); (try simp only [List.set_cons_zero])
          refine wpAnyH_done (by kernel_rfl) ?_ _
          have HX9 := Lib.hid hX; have HP9 := Lib.hid hP; have HR9 := Lib.hid hrun; have HJ9 := Lib.hid J
          clear hX hP hrun J 
          go_wp2_with fail
          go_meet
          case rel => exact ⟨P12, _, _, rfl, rfl, HP9.out, HR9.out.toC, HX9.out, HJ9.out⟩
      · go_simp
        have hP := Blk.new V1 32 #[.int .i64 0, .int .u16 0, .int .i64 0, .slice none 0 0, .slice none 0 0]
        have hlp : W6.heap.size ≤ V1.heap.size := J.size
        have hne : w.heap.size ≠ V1.heap.size := by have := hX.lt; omega
        have kA := (Keeps.refl V1).alloc (.cells #[.int .i64 0, .int .u16 0, .int .i64 0, .slice none 0 0, .slice none 0 0] 32)
        replace hX := hX.keep kA
        replace J := J.trans kA
        replace rf := rf.keep kA
        clear kA
        generalize V1.alloc (.cells #[.int .i64 0, .int .u16 0, .int .i64 0, .slice none 0 0, .slice none 0 0] 32) = V7 at *
        generalize V1.heap.size = P12 at *
        refine hK.out _ _ ?_ (fun hHeld => ?_)
        · exact hX.cell 0 rfl
        clear hK K
        (try simp only [Act.put]); (try simp only [List.setIfInBounds_toArray]); (try simp only [List.set_cons_succ]); (try simp only [List.set_cons_zero])
        refine wpAnyH_ready (rs := [3]) (by kernel_rfl) (by simp) ?_
        refine AllReadyH.cons (o := ⟨_, _, _, _, _, _⟩) rfl (fun K hK => ?_) AllReadyH.nil
        go_simp
        refine (HCb.out V7 J).mono ?_
        rintro e V8 ⟨cvb, rfl, hO, kk⟩
        have hOb : Own 24 1 V7 V8 cvb bm (sl b) := ⟨hO, kk⟩
        clear hO
        obtain ⟨ab, cb, rfl, rb⟩ := hOb.rd
        replace hX := hX.keep kk
        replace J := J.trans kk
        replace rf := rf.keep kk
        replace hP := hP.keep kk
        clear kk hOb
        refine hK.out _ _ ?_ (fun hHeld => ?_)
        · exact hX.cell 0 rfl
        clear hK K
        (try simp only [Act.put]); (try simp only [List.setIfInBounds_toArray]); (try simp only [List.set_cons_succ]); (try simp only [List.set_cons_zero])
        refine wpAnyH_ready (rs := [6]) (by kernel_rfl) (by simp) ?_
        refine AllReadyH.cons (o := ⟨_, _, _, _, _, _⟩) rfl (fun K hK => ?_) AllReadyH.nil
        go_simp
        refine (attackN_any V8 (HT.out.keep J) af fm cf f ab bm cb b N rf rb).mono ?_
        rintro e V9 ⟨kk, vr, rfl, hrun⟩
        rw [← HCR.out] at hrun
        replace hrun := hrun.since J
        obtain ⟨nas, nv, gv, rfl, q1, q2, q3, q4⟩ := hrun
        obtain ⟨an9, cn9, rfl, _⟩ := q1.rd
        obtain ⟨ag9, cg9, rfl, _⟩ := q2.rd
        have hrun : RunN W6 V9 _ _ := ⟨nas, _, _, rfl, q1, q2, q3, q4⟩
        clear q1 q2 q3 q4
        replace hX := hX.keep kk
        replace J := J.trans kk
        replace rf := rf.keep kk
        replace hP := hP.keep kk
        replace rb := rb.keep kk
        clear kk
        unfold vCast at hrun ⊢
        refine hK.out _ _ ?_ (fun hHeld => ?_)
        · exact hX.cell 0 rfl
        clear hK K
        (try simp only [Act.put]); (try simp only [List.setIfInBounds_toArray]); (try simp only [List.set_cons_succ]); (try simp only [List.set_cons_zero])
        refine wpAnyH_take (i := 7) (oi := ⟨_, _, _, _, _, _⟩) (v := ?_) rfl (by kernel_rfl) (by kernel_rfl) (by kernel_rfl) (fun _ _ _ h => h) (Or.inl ⟨by rfl, ?_⟩) (by assumption) ?_
        rotate_left 1
        · intro w hSw; (try dsimp only at hSw); go_simp <;> with_reducible rfl
        (try simp only [Act.put]); (try simp only [List.setIfInBounds_toArray]); (try simp only [List.set_cons_succ]); (try simp only [List.set_cons_zero])
        refine wpAnyH_take (i := 8) (oi := ⟨_, _, _, _, _, _⟩) (v := ?_) rfl (by kernel_rfl) (by kernel_rfl) (by kernel_rfl) (fun _ _ _ h => h) (Or.inl ⟨by rfl, ?_⟩) (by assumption) ?_
        rotate_left 1
        · intro w hSw; (try dsimp only at hSw); go_simp <;> with_reducible rfl
        (try simp only [Act.put]); (try simp only [List.setIfInBounds_toArray]); (try simp only [List.set_cons_succ]); (try simp only [List.set_cons_zero])
        refine wpAnyH_take (i := 9) (oi := ⟨_, _, _, _, _, _⟩) (v := ?_) rfl (by kernel_rfl) (by kernel_rfl) (by kernel_rfl) (fun _ _ _ h => h) (Or.inl ⟨by rfl, ?_⟩) (by assumption) ?_
        rotate_left 1
        · intro w hSw; (try dsimp only at hSw); go_simp <;> with_reducible rfl
        (try simp only [Act.put]); (try simp only [List.setIfInBounds_toArray]); (try simp only [List.set_cons_succ]); (try simp only [List.set_cons_zero])
        refine wpAnyH_ready (rs := [11]) (by kernel_rfl) (by simp) ?_
        refine AllReadyH.cons (o := ⟨_, _, _, _, _, _⟩) rfl (fun K hK => ?_) AllReadyH.nil
        obtain ⟨y0, y1, y2, y3, y4⟩ := Go.Proofs.YtbcfkgolhklkaaaDoor.c5 hP
        obtain ⟨g0, g1, g2, g3, g4⟩ := f5 hP
        go_simp
        clear y0 y1 y2 y3 y4 g0 g1 g2 g3 g4
        replace hrun := hrun.st5 hP hlp (.int .i64 cA.n) (.int .u16 (sv cA.byz)) (.int .i64 cA.src) (.slice an9 nas.length cn9) (.slice ag9 cA.st.flight.length cg9)
        replace hX := st5_oth hX hne (.int .i64 cA.n) (.int .u16 (sv cA.byz)) (.int .i64 cA.src) (.slice an9 nas.length cn9) (.slice ag9 cA.st.flight.length cg9)
        have hP9 := set5 hP (.int .i64 cA.n) (.int .u16 (sv cA.byz)) (.int .i64 cA.src) (.slice an9 nas.length cn9) (.slice ag9 cA.st.flight.length cg9)
        replace J := keeps_set5 J hlp (.int .i64 cA.n) (.int .u16 (sv cA.byz)) (.int .i64 cA.src) (.slice an9 nas.length cn9) (.slice ag9 cA.st.flight.length cg9)
        replace hP := hP9
        clear hP9 rf rb
        unfold st5 at hX hP hrun J
        generalize ((((V9.setCell ⟨P12, 0, none⟩ (.int .i64 cA.n)).setCell ⟨P12, 1, none⟩ (.int .u16 (sv cA.byz))).setCell ⟨P12, 2, none⟩ (.int .i64 cA.src)).setCell ⟨P12, 3, none⟩ (.slice an9 nas.length cn9)).setCell ⟨P12, 4, none⟩ (.slice ag9 cA.st.flight.length cg9) = VF at *
        refine hK.out _ _ ?_ (fun hHeld => ?_)
        · exact hX.cell 0 rfl
        clear hK K
        (try simp only [Act.put]); (try simp only [List.setIfInBounds_toArray]); (try simp only [List.set_cons_succ]); (try simp only [List.set_cons_zero])
        refine wpAnyH_take (i := 12) (oi := ⟨_, _, _, _, _, _⟩) (v := ?_) rfl (by kernel_rfl) (by kernel_rfl) (by kernel_rfl) (fun _ _ _ h => h) (Or.inl ⟨by rfl, ?_⟩) (by assumption) ?_
        rotate_left 1
        · intro w hSw; (try dsimp only at hSw); go_simp <;> with_reducible rfl
        (try simp only [Act.put]); (try simp only [List.setIfInBounds_toArray]); (try simp only [List.set_cons_succ]); (try simp only [List.set_cons_zero])
        refine wpAnyH_done (by kernel_rfl) ?_ _
        have HX9 := Lib.hid hX; have HP9 := Lib.hid hP; have HR9 := Lib.hid hrun; have HJ9 := Lib.hid J
        clear hX hP hrun J 
        go_wp2_with fail
        go_meet
        case rel => exact ⟨P12, _, _, rfl, rfl, HP9.out, HR9.out.toC, HX9.out, HJ9.out⟩
    · go_simp
      have hP := Blk.new V0 32 #[.int .i64 0, .int .u16 0, .int .i64 0, .slice none 0 0, .slice none 0 0]
      have hlp : W6.heap.size ≤ V0.heap.size := J.size
      have hne : w.heap.size ≠ V0.heap.size := by have := hX.lt; omega
      have kA := (Keeps.refl V0).alloc (.cells #[.int .i64 0, .int .u16 0, .int .i64 0, .slice none 0 0, .slice none 0 0] 32)
      replace hX := hX.keep kA
      replace J := J.trans kA
      clear kA
      generalize V0.alloc (.cells #[.int .i64 0, .int .u16 0, .int .i64 0, .slice none 0 0, .slice none 0 0] 32) = V10 at *
      generalize V0.heap.size = P12 at *
      refine hK.out _ _ ?_ (fun hHeld => ?_)
      · exact hX.cell 0 rfl
      clear hK K
      (try simp only [Act.put]); (try simp only [List.setIfInBounds_toArray]); (try simp only [List.set_cons_succ]); (try simp only [List.set_cons_zero])
      refine wpAnyH_ready (rs := [1]) (by kernel_rfl) (by simp) ?_
      refine AllReadyH.cons (o := ⟨_, _, _, _, _, _⟩) rfl (fun K hK => ?_) AllReadyH.nil
      go_simp
      refine (HCf.out V10 J).mono ?_
      rintro e V11 ⟨cvf, rfl, hO, kk⟩
      have hOf : Own 24 1 V10 V11 cvf fm (sl f) := ⟨hO, kk⟩
      clear hO
      obtain ⟨af, cf, rfl, rf⟩ := hOf.rd
      replace hX := hX.keep kk
      replace J := J.trans kk
      replace hP := hP.keep kk
      clear kk hOf
      refine hK.out _ _ ?_ (fun hHeld => ?_)
      · exact hX.cell 0 rfl
      clear hK K
      (try simp only [Act.put]); (try simp only [List.setIfInBounds_toArray]); (try simp only [List.set_cons_succ]); (try simp only [List.set_cons_zero])
      refine wpAnyH_ready (rs := [3]) (by kernel_rfl) (by simp) ?_
      refine AllReadyH.cons (o := ⟨_, _, _, _, _, _⟩) rfl (fun K hK => ?_) AllReadyH.nil
      go_simp
      refine (HCb.out V11 J).mono ?_
      rintro e V12 ⟨cvb, rfl, hO, kk⟩
      have hOb : Own 24 1 V11 V12 cvb bm (sl b) := ⟨hO, kk⟩
      clear hO
      obtain ⟨ab, cb, rfl, rb⟩ := hOb.rd
      replace hX := hX.keep kk
      replace J := J.trans kk
      replace hP := hP.keep kk
      replace rf := rf.keep kk
      clear kk hOb
      refine hK.out _ _ ?_ (fun hHeld => ?_)
      · exact hX.cell 0 rfl
      clear hK K
      (try simp only [Act.put]); (try simp only [List.setIfInBounds_toArray]); (try simp only [List.set_cons_succ]); (try simp only [List.set_cons_zero])
      refine wpAnyH_ready (rs := [6]) (by kernel_rfl) (by simp) ?_
      refine AllReadyH.cons (o := ⟨_, _, _, _, _, _⟩) rfl (fun K hK => ?_) AllReadyH.nil
      go_simp
      refine (attackN_any V12 (HT.out.keep J) af fm cf f ab bm cb b N rf rb).mono ?_
      rintro e V13 ⟨kk, vr, rfl, hrun⟩
      rw [← HCR.out] at hrun
      replace hrun := hrun.since J
      obtain ⟨nas, nv, gv, rfl, q1, q2, q3, q4⟩ := hrun
      obtain ⟨an9, cn9, rfl, _⟩ := q1.rd
      obtain ⟨ag9, cg9, rfl, _⟩ := q2.rd
      have hrun : RunN W6 V13 _ _ := ⟨nas, _, _, rfl, q1, q2, q3, q4⟩
      clear q1 q2 q3 q4
      replace hX := hX.keep kk
      replace J := J.trans kk
      replace hP := hP.keep kk
      replace rf := rf.keep kk
      replace rb := rb.keep kk
      clear kk
      unfold vCast at hrun ⊢
      refine hK.out _ _ ?_ (fun hHeld => ?_)
      · exact hX.cell 0 rfl
      clear hK K
      (try simp only [Act.put]); (try simp only [List.setIfInBounds_toArray]); (try simp only [List.set_cons_succ]); (try simp only [List.set_cons_zero])
      refine wpAnyH_take (i := 7) (oi := ⟨_, _, _, _, _, _⟩) (v := ?_) rfl (by kernel_rfl) (by kernel_rfl) (by kernel_rfl) (fun _ _ _ h => h) (Or.inl ⟨by rfl, ?_⟩) (by assumption) ?_
      rotate_left 1
      · intro w hSw; (try dsimp only at hSw); go_simp <;> with_reducible rfl
      (try simp only [Act.put]); (try simp only [List.setIfInBounds_toArray]); (try simp only [List.set_cons_succ]); (try simp only [List.set_cons_zero])
      refine wpAnyH_take (i := 8) (oi := ⟨_, _, _, _, _, _⟩) (v := ?_) rfl (by kernel_rfl) (by kernel_rfl) (by kernel_rfl) (fun _ _ _ h => h) (Or.inl ⟨by rfl, ?_⟩) (by assumption) ?_
      rotate_left 1
      · intro w hSw; (try dsimp only at hSw); go_simp <;> with_reducible rfl
      (try simp only [Act.put]); (try simp only [List.setIfInBounds_toArray]); (try simp only [List.set_cons_succ]); (try simp only [List.set_cons_zero])
      refine wpAnyH_take (i := 9) (oi := ⟨_, _, _, _, _, _⟩) (v := ?_) rfl (by kernel_rfl) (by kernel_rfl) (by kernel_rfl) (fun _ _ _ h => h) (Or.inl ⟨by rfl, ?_⟩) (by assumption) ?_
      rotate_left 1
      · intro w hSw; (try dsimp only at hSw); go_simp <;> with_reducible rfl
      (try simp only [Act.put]); (try simp only [List.setIfInBounds_toArray]); (try simp only [List.set_cons_succ]); (try simp only [List.set_cons_zero])
      refine wpAnyH_ready (rs := [11]) (by kernel_rfl) (by simp) ?_
      refine AllReadyH.cons (o := ⟨_, _, _, _, _, _⟩) rfl (fun K hK => ?_) AllReadyH.nil
      obtain ⟨y0, y1, y2, y3, y4⟩ := Go.Proofs.YtbcfkgolhklkaaaDoor.c5 hP
      obtain ⟨g0, g1, g2, g3, g4⟩ := f5 hP
      go_simp
      clear y0 y1 y2 y3 y4 g0 g1 g2 g3 g4
      replace hrun := hrun.st5 hP hlp (.int .i64 cA.n) (.int .u16 (sv cA.byz)) (.int .i64 cA.src) (.slice an9 nas.length cn9) (.slice ag9 cA.st.flight.length cg9)
      replace hX := st5_oth hX hne (.int .i64 cA.n) (.int .u16 (sv cA.byz)) (.int .i64 cA.src) (.slice an9 nas.length cn9) (.slice ag9 cA.st.flight.length cg9)
      have hP9 := set5 hP (.int .i64 cA.n) (.int .u16 (sv cA.byz)) (.int .i64 cA.src) (.slice an9 nas.length cn9) (.slice ag9 cA.st.flight.length cg9)
      replace J := keeps_set5 J hlp (.int .i64 cA.n) (.int .u16 (sv cA.byz)) (.int .i64 cA.src) (.slice an9 nas.length cn9) (.slice ag9 cA.st.flight.length cg9)
      replace hP := hP9
      clear hP9 rf rb
      unfold st5 at hX hP hrun J
      generalize ((((V13.setCell ⟨P12, 0, none⟩ (.int .i64 cA.n)).setCell ⟨P12, 1, none⟩ (.int .u16 (sv cA.byz))).setCell ⟨P12, 2, none⟩ (.int .i64 cA.src)).setCell ⟨P12, 3, none⟩ (.slice an9 nas.length cn9)).setCell ⟨P12, 4, none⟩ (.slice ag9 cA.st.flight.length cg9) = VF at *
      refine hK.out _ _ ?_ (fun hHeld => ?_)
      · exact hX.cell 0 rfl
      clear hK K
      (try simp only [Act.put]); (try simp only [List.setIfInBounds_toArray]); (try simp only [List.set_cons_succ]); (try simp only [List.set_cons_zero])
      refine wpAnyH_take (i := 12) (oi := ⟨_, _, _, _, _, _⟩) (v := ?_) rfl (by kernel_rfl) (by kernel_rfl) (by kernel_rfl) (fun _ _ _ h => h) (Or.inl ⟨by rfl, ?_⟩) (by assumption) ?_
      rotate_left 1
      · intro w hSw; (try dsimp only at hSw); go_simp <;> with_reducible rfl
      (try simp only [Act.put]); (try simp only [List.setIfInBounds_toArray]); (try simp only [List.set_cons_succ]); (try simp only [List.set_cons_zero])
      refine wpAnyH_done (by kernel_rfl) ?_ _
      have HX9 := Lib.hid hX; have HP9 := Lib.hid hP; have HR9 := Lib.hid hrun; have HJ9 := Lib.hid J
      clear hX hP hrun J 
      go_wp2_with fail
      go_meet
      case rel => exact ⟨P12, _, _, rfl, rfl, HP9.out, HR9.out.toC, HX9.out, HJ9.out⟩
  case rest =>
  obtain ⟨P12, nv2, gv2, rfl, rfl, hP12, hy2, hX, J⟩ := hcut
  rw [← HEA.out]
  obtain ⟨W7, hW7⟩ : ∃ W, W = wc := ⟨_, rfl⟩
  rw [← hW7] at hP12 hy2 hX J ⊢
  clear hW7
  have x0 := hX.cell 0 (v := .int .i64 N) rfl
  have hra := rattackC_any W7 fa fm fc f ba bm bc b N (HF.out.keep J) (HB.out.keep J) (by omega) (by omega)
  have HRA := Lib.hid hra
  have HP8 := Lib.hid (HP8.out.keep J); have HY := Lib.hid (HY.out.keep J); have HP10 := Lib.hid (HP10.out.keep J); have HZV := Lib.hid (HZV.out.keep J); have HP12 := Lib.hid hP12; have HY2 := Lib.hid hy2; have HK7 := Lib.hid (HK6.out.trans J)
  clear hra hX hP12 hy2 J HCf HCb HF HB HT HX
  go_wp2_with fail
  refine HRA.out.mono ?_
  rintro e w8 ⟨k8, v, rfl, hv⟩
  rw [← HCR.out] at hv
  rw [← HEA.out]
  have HV := hv
  obtain ⟨an2, cn2, nas2, ag2, cg2, rfl, _, _, _, _⟩ := hv
  unfold vCast at HV ⊢
  have b1 := Blk.new w8 32 #[.int .i64 cA.n, .int .u16 (sv cA.byz), .int .i64 cA.src, .slice an2 nas2.length cn2, .slice ag2 cA.st.flight.length cg2]
  have kb := (Keeps.refl w8).alloc (.cells #[.int .i64 cA.n, .int .u16 (sv cA.byz), .int .i64 cA.src, .slice an2 nas2.length cn2, .slice ag2 cA.st.flight.length cg2] 32)
  have k9 := k8.trans kb
  have HZV2 := Lib.hid (HV.keep kb); have HP14 := Lib.hid b1; have HP8 := Lib.hid (HP8.out.keep k9); have HY := Lib.hid (HY.out.keep k9); have HP10 := Lib.hid (HP10.out.keep k9); have HZV := Lib.hid (HZV.out.keep k9); have HP12 := Lib.hid (HP12.out.keep k9); have HY2 := Lib.hid (HY2.out.keep k9); have HK9 := Lib.hid (HK7.out.trans k9)
  clear HRA x0 k8 HV b1 kb k9 HCR HEA
  go_upto_region 8 with fail
  generalize w8.alloc (.cells #[.int .i64 cA.n, .int .u16 (sv cA.byz), .int .i64 cA.src, .slice an2 nas2.length cn2, .slice ag2 cA.st.flight.length cg2] 32) = W9 at *
  generalize w8.heap.size = P14 at *
  have HQ1 := Lib.hid (requal_same cR _ _ W9 HY.out HZV.out)
  obtain ⟨p0, p1, p2, p3, p4⟩ := Go.Proofs.YtbcfkgolhklkaaaDoor.c5 HP8.out
  obtain ⟨q0, q1, q2, q3, q4⟩ := Go.Proofs.YtbcfkgolhklkaaaDoor.c5 HP10.out
  clear HP8 HY HP10 HZV
  go_wp2_with fail
  refine HQ1.out.mono ?_
  rintro e w10 ⟨rfl, k10⟩
  have HQ2 := Lib.hid (requal_same cA _ _ w10 (HY2.out.keep k10) (HZV2.out.keep k10))
  obtain ⟨p0, p1, p2, p3, p4⟩ := Go.Proofs.YtbcfkgolhklkaaaDoor.c5 (HP12.out.keep k10)
  obtain ⟨q0, q1, q2, q3, q4⟩ := Go.Proofs.YtbcfkgolhklkaaaDoor.c5 (HP14.out.keep k10)
  have HK10 := Lib.hid (HK9.out.trans k10)
  clear k10 HP12 HY2 HP14 HZV2 HQ1
  go_wp2_with fail
  refine HQ2.out.mono ?_
  rintro e w11 ⟨rfl, k11⟩
  have HK11 := Lib.hid (HK10.out.trans k11)
  clear k11 HQ2
  go_wp2_with fail
  go_ret
  exact ⟨rfl, HK11.out⟩
end Go.Proofs.YtbcfkgolhklkaaaDoor
