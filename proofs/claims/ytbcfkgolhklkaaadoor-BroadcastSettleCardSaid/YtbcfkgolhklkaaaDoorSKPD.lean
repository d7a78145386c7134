/- Texts joined into one, what is needed of them (a program of ours). -/
import Derived.Test.YtbcfkgolhklkaaaDoorSKPC
import Derived.Test.YtbcfkgolhklkaaaDoorSKR
import Derived.Test.YtbcfkgolhklkaaaDoorSKS
namespace Go.Proofs.YtbcfkgolhklkaaaDoor
open Go.RowKit Go.Lib Go.Shelf

theorem map_set_same (L : List NA) (k : Nat) (y : NA) (h : k < L.length) (hy : y.x = (naA L k).x) : (L.set k y).map NA.x = L.map NA.x := by
  apply List.ext_getElem?
  intro j
  rw [List.getElem?_map, List.getElem?_map, List.getElem?_set]
  by_cases hj : k = j
  · subst hj
    rw [if_pos rfl, if_pos h, List.getElem?_eq_getElem h]
    unfold naA List.getD at hy
    rw [List.getElem?_eq_getElem h] at hy
    simpa using hy
  · rw [if_neg hj]
theorem enters_sp : ∀ args w, (callFunc 17 args).run Tryd.prog w = .ok (.enter 17 args) w := enters_of Tryd.func17 (by kernel_rfl) rfl
set_option maxHeartbeats 8000000 in
set_option maxRecDepth 200000 in
theorem BroadcastSettle_any (k : KA) (c : CD) (v : Value) (w : World) (hT : Tab w) (hk : RdK w k) (hv : HasC w c v) :
    Calls Tryd.prog 4 #[vK k, v] w fun e w' => e = .returned (.bool true) ∧ Keeps w w' := by
  have hv0 := hv
  obtain ⟨an, cn, nas, ag, cg, rfl, n1, f1, d1, m1⟩ := hv
  obtain ⟨N, byz, so, ⟨nodes, fl⟩⟩ := c
  dsimp only at n1 f1 d1 m1 ⊢
  subst m1
  obtain ⟨m, hm⟩ : ∃ m, m = nas.length := ⟨_, rfl⟩
  unfold vCast at hv0 ⊢
  dsimp only at hv0 ⊢
  rw [← hm] at n1 hv0 ⊢
  have hs : ∀ (W : World) o, (W.alloc o).heap.size = W.heap.size + 1 := fun W o => World.size_alloc ..
  have k1 := (Keeps.refl w).alloc (.cells #[.int .u8 k.kN, .int .u8 k.kS, .int .u8 k.kR, .slice k.fa k.lf.length k.fc, .slice k.ba k.lb.length k.bc, .int .u8 k.kZ] 42)
  have k2 := (Keeps.refl (w.alloc (.cells #[.int .u8 k.kN, .int .u8 k.kS, .int .u8 k.kR, .slice k.fa k.lf.length k.fc, .slice k.ba k.lb.length k.bc, .int .u8 k.kZ] 42))).alloc (.cells #[.int .i64 N, .int .u16 (sv byz), .int .i64 so, .slice an m cn, .slice ag fl.length cg] 32)
  have hBK := (Blk.new w 42 #[.int .u8 k.kN, .int .u8 k.kS, .int .u8 k.kR, .slice k.fa k.lf.length k.fc, .slice k.ba k.lb.length k.bc, .int .u8 k.kZ]).keep k2
  have hX := Blk.new (w.alloc (.cells #[.int .u8 k.kN, .int .u8 k.kS, .int .u8 k.kR, .slice k.fa k.lf.length k.fc, .slice k.ba k.lb.length k.bc, .int .u8 k.kZ] 42)) 32 #[.int .i64 N, .int .u16 (sv byz), .int .i64 so, .slice an m cn, .slice ag fl.length cg]
  rw [hs] at hX
  have J := k1.trans k2
  have sm := n1.small; have sf := f1.small
  have HT := Lib.hid (hT.keep J); have HKK := Lib.hid hk; have HX := Lib.hid hX; have HBK := Lib.hid hBK; have HK := Lib.hid J
  have HAW := Lib.hid (fun W (t : Tab W) => awake39_any W t)
  have HV0 := Lib.hid hv0; have HN1 := Lib.hid n1; have HF1 := Lib.hid f1; have HD1 := Lib.hid d1; have HM := Lib.hid hm
  have HCF := Lib.hid (fun W (K : Keeps w W) => containsFuncN_any an m cn nas W 17 #[] (fun z => !fewB z.x) (n1.keep K) enters_sp (fun W2 z _ _ => settlePred_any z W2))
  clear hs k1 k2 hBK hX J hT hk hv0 n1 f1 d1 hm
  unfold vK
  by_cases h10 : m > 10
  · have h10i : (m : Int) > 10 := by omega
    go_enter Tryd.func4, Tryd.ntmps4
    obtain ⟨x0, x1, x2, x3, x4⟩ := c5 HX.out
    clear h10
    go_wp2_with fail
    refine (HAW.out _ HT.out).mono ?_
    rintro e w1 ⟨rfl, k1⟩
    clear x0 x1 x2 x3 x4
    obtain ⟨x0, x1, x2, x3, x4⟩ := c5 (HX.out.keep k1)
    go_wp2_with fail
    refine (HAW.out _ (HT.out.keep k1)).mono ?_
    rintro e w2 ⟨rfl, k2⟩
    have HKF := Lib.hid (HK.out.trans (k1.trans k2))
    clear k1 k2
    go_wp2_with fail
    go_ret
    exact ⟨rfl, HKF.out⟩
  have h10i : ¬ (m : Int) > 10 := by omega
  by_cases h60 : fl.length > 60
  · have h60i : (fl.length : Int) > 60 := by omega
    go_enter Tryd.func4, Tryd.ntmps4
    clear h10 h60
    go_wp2_with fail
    refine (HAW.out _ HT.out).mono ?_
    rintro e w1 ⟨rfl, k1⟩
    obtain ⟨x0, x1, x2, x3, x4⟩ := c5 (HX.out.keep k1)
    go_wp2_with fail
    refine (HAW.out _ (HT.out.keep k1)).mono ?_
    rintro e w2 ⟨rfl, k2⟩
    have HKF := Lib.hid (HK.out.trans (k1.trans k2))
    clear k1 k2
    go_wp2_with fail
    go_ret
    exact ⟨rfl, HKF.out⟩
  have h60i : ¬ (fl.length : Int) > 60 := by omega
  have HM10 := Lib.hid h10; have HF60 := Lib.hid h60
  clear h10 h60
  have HANY : Hid ((nas.any fun z => !fewB z.x) = (nas.any fun z => !fewB z.x)) := Lib.hid rfl
  generalize hany : (nas.any fun z => !fewB z.x) = qa at HCF
  have HQA := Lib.hid hany
  clear hany HANY
  go_enter Tryd.func4, Tryd.ntmps4
  go_wp2_with fail
  refine (HAW.out _ HT.out).mono ?_
  rintro e w1 ⟨rfl, k1⟩
  have HT := Lib.hid (HT.out.keep k1); have HK := Lib.hid (HK.out.trans k1)
  have HX1 := Lib.hid (HX.out.keep k1); have HBK1 := Lib.hid (HBK.out.keep k1)
  have hcf := HCF.out w1 HK.out
  have hmd := fun W (K : Keeps w1 W) => made39_any k W ((HKK.out.keep HK.out).keep K)
  unfold vK at hmd
  have HMD := Lib.hid hmd
  have HCF1 := Lib.hid hcf
  obtain ⟨x0, x1, x2, x3, x4⟩ := c5 HX1.out
  clear k1 hcf hmd HX HBK HCF HKK
  cases qa with
  | true =>
    go_wp2_with fail
    refine HCF1.out.mono ?_
    rintro e w2 ⟨rfl, k2⟩
    go_wp2_with fail
    refine (HAW.out _ (HT.out.keep k2)).mono ?_
    rintro e w3 ⟨rfl, k3⟩
    have HKF := Lib.hid (HK.out.trans (k2.trans k3))
    clear k2 k3
    go_wp2_with fail
    go_ret
    exact ⟨rfl, HKF.out⟩
  | false =>
    go_wp2_with fail
    refine HCF1.out.mono ?_
    rintro e w2 ⟨rfl, k2⟩
    have HMD2 := Lib.hid (HMD.out w2 k2); have HT := Lib.hid (HT.out.keep k2); have HK := Lib.hid (HK.out.trans k2); have HX := Lib.hid (HX1.out.keep k2)
    clear x0 x1 x2 x3 x4
    obtain ⟨x0, x1, x2, x3, x4, x5⟩ := (HBK1.out.keep k2).c6
    clear k2 HMD HX1 HBK1 HCF1
    go_wp2_with fail
    refine HMD2.out.mono ?_
    rintro e W1 ⟨fu, bu, rfl, hF, hB⟩
    obtain ⟨fa, fc, rfl, hf⟩ := hF.rd
    obtain ⟨ba, bc, rfl, hb⟩ := hB.rd
    have k3 := hF.2
    have hlf := mdF_len k
    have hlb := mdB_len k
    generalize mdF k = f at *
    generalize mdB k = b at *
    have HT := Lib.hid (HT.out.keep k3); have HK := Lib.hid (HK.out.trans k3); have hX := HX.out.keep k3; have HF := Lib.hid hf; have HB := Lib.hid hb; have HLF := Lib.hid hlf; have HLB := Lib.hid hlb
    clear x0 x1 x2 x3 x4 x5 HMD2 hF hB k3 HX hf hb hlf hlb
    obtain ⟨x0, x1, x2, x3, x4⟩ := c5 hX
    have kY := (Keeps.refl W1).alloc (.cells #[.int .i64 N, .int .u16 (sv byz), .int .i64 so, .slice an m cn, .slice ag fl.length cg] 32)
    have hY := Blk.new W1 32 #[.int .i64 N, .int .u16 (sv byz), .int .i64 so, .slice an m cn, .slice ag fl.length cg]
    have hX3 := hX.keep kY
    have hlt3 := hX.lt
    have HX0 := Lib.hid hX; have HX := Lib.hid hX3; have HY := Lib.hid hY; have HJ1 := Lib.hid kY
    clear hX hX3 hY kY
    go_upto_region 5 with fail
    clear x0 x1 x2 x3 x4
    generalize W1.alloc (.cells #[.int .i64 N, .int .u16 (sv byz), .int .i64 so, .slice an m cn, .slice ag fl.length cg] 32) = w3 at *
    obtain ⟨P3, hP3⟩ : ∃ P, P = W1.heap.size := ⟨_, rfl⟩
    obtain ⟨PX, hPX⟩ : ∃ P, P = w.heap.size + 1 := ⟨_, rfl⟩
    rw [← hP3] at HY ⊢
    rw [← hPX] at HX HX0 ⊢
    have nX3 : PX ≠ P3 := by omega
    have hl3 : W1.heap.size ≤ P3 := by omega
    clear hP3 hPX hlt3
    have hcn := fun W (K : Keeps W1 W) => cloneN_any an cn nas W (by rw [← HM.out]; exact (HN1.out.keep HK.out).keep K) (by rw [← HM.out]; have := HM10.out; omega)
    rw [← HM.out] at hcn
    have HCN := Lib.hid hcn
    have HCC := Lib.hid (fun W (K : Keeps W1 W) => cloneC_any ag cg fl W ((HF1.out.keep HK.out).keep K) (by have := HF60.out; omega))
    clear hcn
    have HFW : Hid (∀ x ∈ nas.map NA.x, x.echoes.length ≤ 10 ∧ x.readies.length ≤ 10) := Lib.hid (fun x hx => by
      obtain ⟨z, hz, rfl⟩ := List.mem_map.1 hx
      have h2 := List.any_eq_false.1 HQA.out z hz
      unfold fewB at h2
      simp at h2
      exact h2)
    have hX := HX.out.keep ((Keeps.refl w3).drew); have hY := HY.out.keep ((Keeps.refl w3).drew); have J : Keeps W1 w3.drew := HJ1.out.trans (Keeps.refl w3).drew
    refine wp_region_held_drew (S := (fun w' => w'.cell? ⟨PX, 3, none⟩ = some (.slice an m cn) ∧ w'.cell? ⟨PX, 4, none⟩ = some (.slice ag fl.length cg))) (by kernel_rfl) ?_ (fun hHeld => ?_)
    · exact ⟨hX.cell 3 (v := .slice an m cn) rfl, hX.cell 4 (v := .slice ag fl.length cg) rfl⟩
    generalize w3.drew = V0 at *
    refine wpAnyH_take (i := 0) (oi := ⟨_, _, _, _, _, _⟩) (v := ?_) rfl (by kernel_rfl) (by kernel_rfl) (by kernel_rfl) (fun _ _ _ h => h) (Or.inl ⟨by rfl, ?_⟩) (by assumption) ?_
    rotate_left 1
    · intro w hSw; (try dsimp only at hSw); go_simp <;> with_reducible rfl
    (try simp only [Act.put]); (try simp only [List.setIfInBounds_toArray]); (try simp only [List.set_cons_succ]); (try simp only [List.set_cons_zero])
    refine wpAnyH_take (i := 1) (oi := ⟨_, _, _, _, _, _⟩) (v := ?_) rfl (by kernel_rfl) (by kernel_rfl) (by kernel_rfl) (fun _ _ _ h => h) (Or.inl ⟨by rfl, ?_⟩) (by assumption) ?_
    rotate_left 1
    · intro w hSw; (try dsimp only at hSw); go_simp <;> with_reducible rfl
    (try simp only [Act.put]); (try simp only [List.setIfInBounds_toArray]); (try simp only [List.set_cons_succ]); (try simp only [List.set_cons_zero])
    refine wpAnyH_take (i := 3) (oi := ⟨_, _, _, _, _, _⟩) (v := ?_) rfl (by kernel_rfl) (by kernel_rfl) (by kernel_rfl) (fun _ _ _ h => h) (Or.inl ⟨by rfl, ?_⟩) (by assumption) ?_
    rotate_left 1
    · intro w hSw; (try dsimp only at hSw); go_simp <;> with_reducible rfl
    (try simp only [Act.put]); (try simp only [List.setIfInBounds_toArray]); (try simp only [List.set_cons_succ]); (try simp only [List.set_cons_zero])
    refine wpAnyH_take (i := 4) (oi := ⟨_, _, _, _, _, _⟩) (v := ?_) rfl (by kernel_rfl) (by kernel_rfl) (by kernel_rfl) (fun _ _ _ h => h) (Or.inl ⟨by rfl, ?_⟩) (by assumption) ?_
    rotate_left 1
    · intro w hSw; (try dsimp only at hSw); go_simp <;> with_reducible rfl
    (try simp only [Act.put]); (try simp only [List.setIfInBounds_toArray]); (try simp only [List.set_cons_succ]); (try simp only [List.set_cons_zero])
    refine wpAnyH_ready (rs := [2]) (by kernel_rfl) (by simp) ?_
    refine AllReadyH.cons (o := ⟨_, _, _, _, _, _⟩) rfl (fun K hK => ?_) AllReadyH.nil
    go_simp
    have hc := HCN.out V0 J
    refine hc.mono ?_
    rintro e V1 ⟨u1, rfl, hO1⟩
    clear hc
    have kk := hO1.2
    obtain ⟨a1, c1, rfl, _⟩ := hO1.rd
    replace hX := hX.keep kk; replace hY := hY.keep kk
    replace hO1 := hO1.since J
    replace J := J.trans kk
    clear kk
    refine hK.out _ _ ?_ (fun hHeld => ?_)
    · exact ⟨hX.cell 3 (v := .slice an m cn) rfl, hX.cell 4 (v := .slice ag fl.length cg) rfl⟩
    clear hK K
    (try simp only [Act.put]); (try simp only [List.setIfInBounds_toArray]); (try simp only [List.set_cons_succ]); (try simp only [List.set_cons_zero])
    refine wpAnyH_take (i := 6) (oi := ⟨_, _, _, _, _, _⟩) (v := ?_) rfl (by kernel_rfl) (by kernel_rfl) (by kernel_rfl) (fun _ _ _ h => h) (Or.inl ⟨by rfl, ?_⟩) (by assumption) ?_
    rotate_left 1
    · intro w hSw; (try dsimp only at hSw); go_simp <;> with_reducible rfl
    (try simp only [Act.put]); (try simp only [List.setIfInBounds_toArray]); (try simp only [List.set_cons_succ]); (try simp only [List.set_cons_zero])
    refine wpAnyH_ready (rs := [5]) (by kernel_rfl) (by simp) ?_
    refine AllReadyH.cons (o := ⟨_, _, _, _, _, _⟩) rfl (fun K hK => ?_) AllReadyH.nil
    go_simp
    have hc := HCC.out V1 J
    refine hc.mono ?_
    rintro e V2 ⟨u2, rfl, hO2⟩
    clear hc
    have kk := hO2.2
    obtain ⟨a2, c2, rfl, _⟩ := hO2.rd
    replace hX := hX.keep kk; replace hY := hY.keep kk; replace hO1 := hO1.keep kk
    replace hO2 := hO2.since J
    replace J := J.trans kk
    clear kk
    refine hK.out _ _ ?_ (fun hHeld => ?_)
    · exact ⟨hX.cell 3 (v := .slice an m cn) rfl, hX.cell 4 (v := .slice ag fl.length cg) rfl⟩
    clear hK K
    (try simp only [Act.put]); (try simp only [List.setIfInBounds_toArray]); (try simp only [List.set_cons_succ]); (try simp only [List.set_cons_zero])
    refine wpAnyH_ready (rs := [7]) (by kernel_rfl) (by simp) ?_
    refine AllReadyH.cons (o := ⟨_, _, _, _, _, _⟩) rfl (fun K hK => ?_) AllReadyH.nil
    have g9 := hY.frozen 3
    have c9 := hY.cell 3 rfl
    go_simp
    clear g9 c9
    replace hO1 := own_oth9 hO1 hY (by decide) hl3 3 (.slice a1 m c1)
    replace hO2 := own_oth9 hO2 hY (by decide) hl3 3 (.slice a1 m c1)
    replace hX := hX.setOther nX3 3 (.slice a1 m c1)
    replace J := keeps_set J hl3 3 (.slice a1 m c1)
    replace hY := hY.set 3 (.slice a1 m c1)
    generalize V2.setCell ⟨P3, 3, none⟩ (.slice a1 m c1) = V3 at *
    refine hK.out _ _ ?_ (fun hHeld => ?_)
    · exact ⟨hX.cell 3 (v := .slice an m cn) rfl, hX.cell 4 (v := .slice ag fl.length cg) rfl⟩
    clear hK K
    (try simp only [Act.put]); (try simp only [List.setIfInBounds_toArray]); (try simp only [List.set_cons_succ]); (try simp only [List.set_cons_zero])
    refine wpAnyH_take (i := 8) (oi := ⟨_, _, _, _, _, _⟩) (v := ?_) rfl (by kernel_rfl) (by kernel_rfl) (by kernel_rfl) (fun _ _ _ h => h) (Or.inl ⟨by rfl, ?_⟩) (by assumption) ?_
    rotate_left 1
    · intro w hSw; (try dsimp only at hSw); go_simp <;> with_reducible rfl
    (try simp only [Act.put]); (try simp only [List.setIfInBounds_toArray]); (try simp only [List.set_cons_succ]); (try simp only [List.set_cons_zero])
    refine wpAnyH_ready (rs := [9]) (by kernel_rfl) (by simp) ?_
    refine AllReadyH.cons (o := ⟨_, _, _, _, _, _⟩) rfl (fun K hK => ?_) AllReadyH.nil
    have g9 := hY.frozen 4
    have c9 := hY.cell 4 rfl
    go_simp
    clear g9 c9
    replace hO1 := own_oth9 hO1 hY (by decide) hl3 4 (.slice a2 fl.length c2)
    replace hO2 := own_oth9 hO2 hY (by decide) hl3 4 (.slice a2 fl.length c2)
    replace hX := hX.setOther nX3 4 (.slice a2 fl.length c2)
    replace J := keeps_set J hl3 4 (.slice a2 fl.length c2)
    replace hY := hY.set 4 (.slice a2 fl.length c2)
    generalize V3.setCell ⟨P3, 4, none⟩ (.slice a2 fl.length c2) = V4 at *
    refine hK.out _ _ ?_ (fun hHeld => ?_)
    · exact ⟨hX.cell 3 (v := .slice an m cn) rfl, hX.cell 4 (v := .slice ag fl.length cg) rfl⟩
    clear hK K
    (try simp only [Act.put]); (try simp only [List.setIfInBounds_toArray]); (try simp only [List.set_cons_succ]); (try simp only [List.set_cons_zero])
    refine wpAnyH_done (by kernel_rfl) ?_ _
    have HX := Lib.hid hX; have HY := Lib.hid hY; have HJ1 := Lib.hid J; have HO1 := Lib.hid hO1; have HO2 := Lib.hid hO2
    clear hX hY J hO1 hO2
    obtain ⟨y0, y1, y2, y3, y4⟩ := c5 HY.out
    go_wp2_with fail
    clear y0 y1 y2 y3 y4
    go_loopw [11, 56] (fun s11 s56 wr => ∃ (k : Nat) (L : List NA), k ≤ m ∧ s56 = .int .i64 k ∧ Own 46 9 W1 wr (.slice a1 m c1) m (nl L) ∧ Own 53 4 W1 wr (.slice a2 fl.length c2) fl.length (cl fl) ∧ Blk wr P3 32 #[.int .i64 N, .int .u16 (sv byz), .int .i64 so, .slice a1 m c1, .slice a2 fl.length c2] ∧ (∀ z ∈ L, RPN W1 wr z) ∧ Hid (L.length = m ∧ L.map NA.x = nas.map NA.x)) (fun _ s56 _ => m - (RowKit.intOf s56).toNat)
    case atStart => exact ⟨0, nas, Nat.zero_le _, rfl, HO1.out, HO2.out, HY.out, fun z hz => ⟨⟨((HD1.out z hz).1.keep HK.out).keep HJ1.out, .inl ((HD1.out z hz).1.keep HK.out)⟩, ⟨((HD1.out z hz).2.keep HK.out).keep HJ1.out, .inl ((HD1.out z hz).2.keep HK.out)⟩⟩, Lib.hid ⟨HM.out.symm, rfl⟩⟩
    case round =>
      clear HX HY HJ1 HO1 HO2
      obtain ⟨k, L, hk, rfl, hO1, hO2, hY, hR, HLL⟩ := hrel
      have J := hO1.2
      by_cases hlt : k < m
      · obtain ⟨g, cap', hgc, hnc, hcm⟩ := hO1.some (by omega)
        injection hgc with e1 _ e3
        subst e1 e3
        have HS9 : Hid ((naA L k).x.echoes.length ≤ 1000000 ∧ (naA L k).x.readies.length ≤ 1000000) := Lib.hid (by have h2 := HFW.out (naA L k).x (by rw [← HLL.out.2]; exact List.mem_map.2 ⟨_, naA_mem (by have := HLL.out.1; omega), rfl⟩); omega)
        have y3 := hY.cell 3 (v := .slice (some ⟨g, 0, none⟩) m c1) rfl
        go_wp2_with fail
        clear y3
        replace hY := hY.keep ((Keeps.refl wr).drew); replace hO1 := hO1.keep ((Keeps.refl wr).drew); replace hO2 := hO2.keep ((Keeps.refl wr).drew); replace hR := fun z hz => (hR z hz).keep ((Keeps.refl wr).drew) J
        replace J := J.trans ((Keeps.refl wr).drew)
        refine wp_region_held_drew (S := (fun w' => w'.cell? ⟨P3, 3, none⟩ = some (.slice (some ⟨g, 0, none⟩) m c1))) (by kernel_rfl) ?_ (fun hHeld => ?_)
        · exact hY.cell 3 (v := .slice (some ⟨g, 0, none⟩) m c1) rfl
        generalize wr.drew = V0 at *
        refine wpAnyH_take (i := 0) (oi := ⟨_, _, _, _, _, _⟩) (v := ?_) rfl (by kernel_rfl) (by kernel_rfl) (by kernel_rfl) (fun _ _ _ h => h) (Or.inl ⟨by rfl, ?_⟩) (by assumption) ?_
        rotate_left 1
        · intro w hSw; (try dsimp only at hSw); go_simp <;> with_reducible rfl
        (try simp only [Act.put]); (try simp only [List.setIfInBounds_toArray]); (try simp only [List.set_cons_succ]); (try simp only [List.set_cons_zero])
        refine wpAnyH_take (i := 1) (oi := ⟨_, _, _, _, _, _⟩) (v := ?_) rfl (by kernel_rfl) (by kernel_rfl) (by kernel_rfl) (fun _ _ _ h => h) (Or.inl ⟨by rfl, ?_⟩) (by assumption) ?_
        rotate_left 1
        · intro w hSw; (try dsimp only at hSw); go_simp <;> with_reducible rfl
        (try simp only [Act.put]); (try simp only [List.setIfInBounds_toArray]); (try simp only [List.set_cons_succ]); (try simp only [List.set_cons_zero])
        refine wpAnyH_take (i := 2) (oi := ⟨_, _, _, _, _, _⟩) (v := ?_) rfl (by kernel_rfl) (by kernel_rfl) (by kernel_rfl) (fun _ _ _ h => h) (Or.inl ⟨by rfl, ?_⟩) (by assumption) ?_
        rotate_left 1
        · intro w hSw; (try dsimp only at hSw); go_simp <;> with_reducible rfl
        (try simp only [Act.put]); (try simp only [List.setIfInBounds_toArray]); (try simp only [List.set_cons_succ]); (try simp only [List.set_cons_zero])
        refine wpAnyH_take (i := 3) (oi := ⟨_, _, _, _, _, _⟩) (v := ?_) rfl (by kernel_rfl) (by kernel_rfl) (by kernel_rfl) (fun _ _ _ h => h) (Or.inl ⟨by rfl, ?_⟩) (by assumption) ?_
        rotate_left 1
        · intro w hSw; (try dsimp only at hSw); go_simp <;> with_reducible rfl
        (try simp only [Act.put]); (try simp only [List.setIfInBounds_toArray]); (try simp only [List.set_cons_succ]); (try simp only [List.set_cons_zero])
        refine wpAnyH_take (i := 4) (oi := ⟨_, _, _, _, _, _⟩) (v := ?_) rfl (by kernel_rfl) (by kernel_rfl) (by kernel_rfl) (fun _ _ _ h => h) (Or.inl ⟨by rfl, ?_⟩) (by assumption) ?_
        rotate_left 1
        · intro w hSw; (try dsimp only at hSw); go_simp <;> with_reducible rfl
        (try simp only [Act.put]); (try simp only [List.setIfInBounds_toArray]); (try simp only [List.set_cons_succ]); (try simp only [List.set_cons_zero])
        refine wpAnyH_take (i := 5) (oi := ⟨_, _, _, _, _, _⟩) (v := ?_) rfl (by kernel_rfl) (by kernel_rfl) (by kernel_rfl) (fun _ _ _ h => h) (Or.inl ⟨by rfl, ?_⟩) (by assumption) ?_
        rotate_left 1
        · intro w hSw; (try dsimp only at hSw); go_simp <;> with_reducible rfl
        (try simp only [Act.put]); (try simp only [List.setIfInBounds_toArray]); (try simp only [List.set_cons_succ]); (try simp only [List.set_cons_zero])
        refine wpAnyH_take (i := 6) (oi := ⟨_, _, _, _, _, _⟩) (v := ?_) rfl (by kernel_rfl) (by kernel_rfl) (by kernel_rfl) (fun _ _ _ h => h) (Or.inl ⟨by rfl, ?_⟩) (by assumption) ?_
        rotate_left 1
        · intro w hSw; (try dsimp only at hSw); go_simp <;> with_reducible rfl
        (try simp only [Act.put]); (try simp only [List.setIfInBounds_toArray]); (try simp only [List.set_cons_succ]); (try simp only [List.set_cons_zero])
        refine wpAnyH_ready (rs := [7]) (by kernel_rfl) (by simp) ?_
        refine AllReadyH.cons (o := ⟨_, _, _, _, _, _⟩) rfl (fun K hK => ?_) AllReadyH.nil
        obtain ⟨p0, p1, p2, p3, p4, p5, p6, p7, p8⟩ := node_at hO1 hlt
        go_simp
        clear p0 p1 p2 p3 p4 p5 p6 p7 p8
        refine hK.out _ _ ?_ (fun hHeld => ?_)
        · exact hY.cell 3 (v := .slice (some ⟨g, 0, none⟩) m c1) rfl
        clear hK K
        (try simp only [Act.put]); (try simp only [List.setIfInBounds_toArray]); (try simp only [List.set_cons_succ]); (try simp only [List.set_cons_zero])
        refine wpAnyH_ready (rs := [8]) (by kernel_rfl) (by simp) ?_
        refine AllReadyH.cons (o := ⟨_, _, _, _, _, _⟩) rfl (fun K hK => ?_) AllReadyH.nil
        go_simp
        have hc := copied39_any (naA L k) W1 V0 J (hR _ (naA_mem (by have := HLL.out.1; omega))).rdh HS9.out.1 HS9.out.2
        unfold vn at hc
        refine hc.mono ?_
        rintro e V1 ⟨y, rfl, hyx, kk, hy⟩
        clear hc
        have HYX := Lib.hid hyx
        clear hyx
        replace hY := hY.keep kk; replace hO1 := hO1.keep kk; replace hO2 := hO2.keep kk; replace hR := fun z hz => (hR z hz).keep kk J
        replace J := J.trans kk
        clear kk
        refine hK.out _ _ ?_ (fun hHeld => ?_)
        · exact hY.cell 3 (v := .slice (some ⟨g, 0, none⟩) m c1) rfl
        clear hK K
        (try simp only [Act.put]); (try simp only [List.setIfInBounds_toArray]); (try simp only [List.set_cons_succ]); (try simp only [List.set_cons_zero])
        refine wpAnyH_take (i := 9) (oi := ⟨_, _, _, _, _, _⟩) (v := ?_) rfl (by kernel_rfl) (by kernel_rfl) (by kernel_rfl) (fun _ _ _ h => h) (Or.inl ⟨by rfl, ?_⟩) (by assumption) ?_
        rotate_left 1
        · intro w hSw; (try dsimp only at hSw); go_simp <;> with_reducible rfl
        (try simp only [Act.put]); (try simp only [List.setIfInBounds_toArray]); (try simp only [List.set_cons_succ]); (try simp only [List.set_cons_zero])
        refine wpAnyH_ready (rs := [10]) (by kernel_rfl) (by simp) ?_
        refine AllReadyH.cons (o := ⟨_, _, _, _, _, _⟩) rfl (fun K hK => ?_) AllReadyH.nil
        obtain ⟨p0, p1, p2, p3, p4, p5, p6, p7, p8⟩ := node_at hO1 hlt
        obtain ⟨q0, q1, q2, q3, q4, q5, q6, q7, q8⟩ := node_fz hO1 k
        go_simp
        clear p0 p1 p2 p3 p4 p5 p6 p7 p8 q0 q1 q2 q3 q4 q5 q6 q7 q8
        have hgr := grown9n V1 g (k * 9) (.int .i64 y.x.id) (.string y.x.echoed) (.bool y.x.hasE) (.string y.x.readied) (.bool y.x.hasR) (.string y.x.delivered) (.bool y.x.hasD) (.slice y.ae y.x.echoes.length y.ce) (.slice y.ar y.x.readies.length y.cr)
        have hN1 := own_set9 hO1 (k * 9) (.int .i64 y.x.id) (.string y.x.echoed) (.bool y.x.hasE) (.string y.x.readied) (.bool y.x.hasR) (.string y.x.delivered) (.bool y.x.hasD) (.slice y.ae y.x.echoes.length y.ce) (.slice y.ar y.x.readies.length y.cr)
        rw [← nl_set L k y (by have := HLL.out.1; omega)] at hN1
        replace hY := blk_grown9 hY hgr (blk_ne hY hO1.1 (by decide))
        replace hO2 : Own 53 4 W1 (((((((((V1.setCell ⟨g, k * 9, none⟩ (.int .i64 y.x.id)).setCell ⟨g, k * 9 + 1, none⟩ (.string y.x.echoed)).setCell ⟨g, k * 9 + 2, none⟩ (.bool y.x.hasE)).setCell ⟨g, k * 9 + 3, none⟩ (.string y.x.readied)).setCell ⟨g, k * 9 + 4, none⟩ (.bool y.x.hasR)).setCell ⟨g, k * 9 + 5, none⟩ (.string y.x.delivered)).setCell ⟨g, k * 9 + 6, none⟩ (.bool y.x.hasD)).setCell ⟨g, k * 9 + 7, none⟩ (.slice y.ae y.x.echoes.length y.ce)).setCell ⟨g, k * 9 + 8, none⟩ (.slice y.ar y.x.readies.length y.cr)) (.slice a2 fl.length c2) fl.length (cl fl) := ⟨row_kept hO2.1 hO1.1 (by decide) hgr, hN1.2⟩
        have hR2 : ∀ z ∈ L.set k y, RPN W1 (((((((((V1.setCell ⟨g, k * 9, none⟩ (.int .i64 y.x.id)).setCell ⟨g, k * 9 + 1, none⟩ (.string y.x.echoed)).setCell ⟨g, k * 9 + 2, none⟩ (.bool y.x.hasE)).setCell ⟨g, k * 9 + 3, none⟩ (.string y.x.readied)).setCell ⟨g, k * 9 + 4, none⟩ (.bool y.x.hasR)).setCell ⟨g, k * 9 + 5, none⟩ (.string y.x.delivered)).setCell ⟨g, k * 9 + 6, none⟩ (.bool y.x.hasD)).setCell ⟨g, k * 9 + 7, none⟩ (.slice y.ae y.x.echoes.length y.ce)).setCell ⟨g, k * 9 + 8, none⟩ (.slice y.ar y.x.readies.length y.cr)) z := fun z hz => by
          rcases List.mem_or_eq_of_mem_set hz with h | rfl
          · exact (hR z h).grown hO1 hN1.2 hgr
          · exact hy.grown hO1 hN1.2 hgr
        replace J := hN1.2
        replace hO1 := hN1
        clear hN1 hgr hy hR
        have hR := hR2
        clear hR2
        generalize (((((((((V1.setCell ⟨g, k * 9, none⟩ (.int .i64 y.x.id)).setCell ⟨g, k * 9 + 1, none⟩ (.string y.x.echoed)).setCell ⟨g, k * 9 + 2, none⟩ (.bool y.x.hasE)).setCell ⟨g, k * 9 + 3, none⟩ (.string y.x.readied)).setCell ⟨g, k * 9 + 4, none⟩ (.bool y.x.hasR)).setCell ⟨g, k * 9 + 5, none⟩ (.string y.x.delivered)).setCell ⟨g, k * 9 + 6, none⟩ (.bool y.x.hasD)).setCell ⟨g, k * 9 + 7, none⟩ (.slice y.ae y.x.echoes.length y.ce)).setCell ⟨g, k * 9 + 8, none⟩ (.slice y.ar y.x.readies.length y.cr)) = V2 at *
        refine hK.out _ _ ?_ (fun hHeld => ?_)
        · exact hY.cell 3 (v := .slice (some ⟨g, 0, none⟩) m c1) rfl
        clear hK K
        (try simp only [Act.put]); (try simp only [List.setIfInBounds_toArray]); (try simp only [List.set_cons_succ]); (try simp only [List.set_cons_zero])
        refine wpAnyH_done (by kernel_rfl) ?_ _
        have HO1 := Lib.hid hO1; have HO2 := Lib.hid hO2; have HY := Lib.hid hY; have HR := Lib.hid hR
        clear hO1 hO2 hY hR J
        go_wp2_with fail
        go_roundw
        case rel => exact ⟨k + 1, L.set k y, by omega, by go_num, HO1.out, HO2.out, HY.out, HR.out, Lib.hid ⟨by rw [List.length_set]; exact HLL.out.1, by rw [map_set_same L k y (by have := HLL.out.1; omega) HYX.out]; exact HLL.out.2⟩⟩
        case measure => simp [RowKit.intOf]; omega
      · have e1 : k = m := by omega
        clear e1
        have hvy : HasC wr ⟨N, byz, so, ⟨nas.map NA.x, fl⟩⟩ (.agg #[.int .i64 N, .int .u16 (sv byz), .int .i64 so, .slice a1 m c1, .slice a2 fl.length c2]) := ⟨a1, c1, L, a2, c2, by rw [HLL.out.1]; rfl, by rw [HLL.out.1]; exact hO1.row0.rd, hO2.row0.rd, fun z hz => (hR z hz).rdh, HLL.out.2⟩
        have hsm : SmallS ⟨nas.map NA.x, fl⟩ := fun x hx => by have := HFW.out x hx; exact small_of (by omega) (by omega)
        have hml : (nas.map NA.x).length ≤ 10 := by rw [List.length_map, ← HM.out]; have := HM10.out; omega
        have hf6 : fl.length ≤ 60 := by have := HF60.out; omega
        have hset := settleC_any wr fa _ fc f ba _ bc b ⟨N, byz, so, ⟨nas.map NA.x, fl⟩⟩ _ (HF.out.keep J) (HB.out.keep J) hvy (by dsimp only; omega) (by dsimp only; omega) hsm
        have hrs := fun W (K : Keeps w W) h1 h2 => rsettleC_any W fa f.length fc f ba b.length bc b ⟨N, byz, so, ⟨nas.map NA.x, fl⟩⟩ _ h1 h2 (HV0.out.keep K) (by dsimp only; omega) (by dsimp only; omega) hsm (by have := HLF.out; omega) (by have := HLB.out; omega)
        dsimp only at hset hrs
        obtain ⟨er, her⟩ : ∃ e, e = setE f b N byz (nas.map NA.x) fl := ⟨_, rfl⟩
        obtain ⟨c9, hc9⟩ : ∃ c : CD, c = (if er = 0 then ⟨N, byz, so, settleS f b N.toNat byz ⟨nas.map NA.x, fl⟩⟩ else cd0) := ⟨_, rfl⟩
        unfold RetC at hset hrs
        rw [← her, ← hc9] at hset
        simp only [← her, ← hc9] at hrs
        have HSET := Lib.hid hset; have HRS := Lib.hid hrs
        have HX := Lib.hid (HX0.out.keep J); have HK := Lib.hid (HK.out.trans J); have HF := Lib.hid (HF.out.keep J); have HB := Lib.hid (HB.out.keep J)
        obtain ⟨y0, y1, y2, y3, y4⟩ := c5 hY
        clear hset hrs her hc9 hvy hsm hml hf6 hO1 hO2 hY hR J
        go_wp2_with fail
        clear hk hlt
        refine HSET.out.mono ?_
        rintro e w4 ⟨k4, v, rfl, hv⟩
        clear HSET y0 y1 y2 y3 y4
        have HV4 := hv
        obtain ⟨an4, cn4, nas4, ag4, cg4, rfl, _, _, _, _⟩ := hv
        unfold vCast at HV4 ⊢
        have b4 := Blk.new w4 32 #[.int .i64 c9.n, .int .u16 (sv c9.byz), .int .i64 c9.src, .slice an4 nas4.length cn4, .slice ag4 c9.st.flight.length cg4]
        have kb := (Keeps.refl w4).alloc (.cells #[.int .i64 c9.n, .int .u16 (sv c9.byz), .int .i64 c9.src, .slice an4 nas4.length cn4, .slice ag4 c9.st.flight.length cg4] 32)
        have HV4 := Lib.hid (HV4.keep kb); have HB4 := Lib.hid b4; have HX := Lib.hid ((HX.out.keep k4).keep kb); have HK := Lib.hid ((HK.out.trans k4).trans kb); have HF := Lib.hid ((HF.out.keep k4).keep kb); have HB := Lib.hid ((HB.out.keep k4).keep kb)
        clear k4 kb b4
        go_upto_region 12 with fail
        generalize w4.alloc (.cells #[.int .i64 c9.n, .int .u16 (sv c9.byz), .int .i64 c9.src, .slice an4 nas4.length cn4, .slice ag4 c9.st.flight.length cg4] 32) = w5 at *
        generalize w4.heap.size = P4 at *
        have hrs := HRS.out w5 HK.out HF.out HB.out
        have HRR := Lib.hid hrs
        obtain ⟨y0, y1, y2, y3, y4⟩ := c5 HX.out
        clear hrs HRS
        go_wp2_with fail
        refine HRR.out.mono ?_
        rintro e w6 ⟨k6, v, rfl, hv⟩
        clear HRR y0 y1 y2 y3 y4
        have HV5 := hv
        obtain ⟨an5, cn5, nas5, ag5, cg5, rfl, _, _, _, _⟩ := hv
        unfold vCast at HV5 ⊢
        have b5 := Blk.new w6 32 #[.int .i64 c9.n, .int .u16 (sv c9.byz), .int .i64 c9.src, .slice an5 nas5.length cn5, .slice ag5 c9.st.flight.length cg5]
        have kb := (Keeps.refl w6).alloc (.cells #[.int .i64 c9.n, .int .u16 (sv c9.byz), .int .i64 c9.src, .slice an5 nas5.length cn5, .slice ag5 c9.st.flight.length cg5] 32)
        have HV5 := Lib.hid (HV5.keep kb); have HB5 := Lib.hid b5; have HV4 := Lib.hid ((HV4.out.keep k6).keep kb); have HB4 := Lib.hid ((HB4.out.keep k6).keep kb); have HK := Lib.hid ((HK.out.trans k6).trans kb)
        clear k6 kb b5
        have hbe : (er == er) = true := beq_self_eq_true er
        go_upto_region 13 with fail
        generalize w6.alloc (.cells #[.int .i64 c9.n, .int .u16 (sv c9.byz), .int .i64 c9.src, .slice an5 nas5.length cn5, .slice ag5 c9.st.flight.length cg5] 32) = w7 at *
        generalize w6.heap.size = P5 at *
        have hc := requal_same c9 _ _ w7 HV4.out HV5.out
        have HCE := Lib.hid hc
        clear hc
        obtain ⟨x0, x1, x2, x3, x4⟩ := c5 HB4.out
        obtain ⟨y0, y1, y2, y3, y4⟩ := c5 HB5.out
        go_wp2_with fail
        refine HCE.out.mono ?_
        rintro e w8 ⟨rfl, k8⟩
        have HKF := Lib.hid (HK.out.trans k8)
        clear k8 HCE
        go_wp2_with fail
        go_ret
        exact ⟨rfl, HKF.out⟩
end Go.Proofs.YtbcfkgolhklkaaaDoor
