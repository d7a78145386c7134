/- Texts joined into one (wip/bin/pack.py): C39L. -/
import Derived.Test.YtbcfkgolhklkaaaDoorKR
import Derived.Test.YtbcfkgolhklkaaaDoorKS
/- Chapter 39: every run is consistent where Byzantine servers of one set take part. -/
namespace Go.Proofs.YtbcfkgolhklkaaaDoor
open Go.RowKit Go.Lib Go.Shelf

theorem info_by : (Tryd.prog.info? 5).map (fun i => (i.zero, i.size, i.bytes)) = some (some (.int .u8 0), 1, 1) := by kernel_rfl
theorem ty_by : STy Tryd.prog 28 5 1 1 := STy.of Tryd.underlying28 info_by rfl (by decide) (by decide)
theorem bl_cells (l : List Nat) : ∀ v ∈ bl l, v.oneCell' = true := by
  intro v hv
  obtain ⟨x, _, rfl⟩ := List.mem_map.1 hv
  rfl
theorem eqNilB (w : World) (a : Option Addr) (n c n' c' : Nat) : (binOp .eql 28 (.slice a n c) (.slice none n' c')).run Tryd.prog w = .ok (.bool a.isNone) w := Lib.run_eql_slice_nil w _ _ a n c n' c' Tryd.underlying28
theorem cloneB_any (a : Option Addr) (c : Nat) (l : List Nat) (w : World) (h : Rd w a l.length c 1 (bl l)) (hb : l.length ≤ 1000000) :
    Calls Tryd.prog 25 #[.slice a l.length c] w fun e w' => ∃ v, e = .returned v ∧ Own 5 1 w w' v l.length (bl l) := by
  have q := eqNilB
  cases a with
  | none =>
    have hn : l.length = 0 := by
      rcases Nat.eq_zero_or_pos l.length with h0 | h0
      · exact h0
      · exact absurd (h.isSome h0) (by simp)
    have hl : l = [] := List.eq_nil_of_length_eq_zero hn
    subst hl
    clear hn h
    go_enter Tryd.func25, Tryd.ntmps25
    go_wp2_with fail
    go_ret
    exact ⟨_, rfl, Own.nil _ _ (Keeps.refl _)⟩
  | some ad =>
    have hO0 := Own.made (e := 5) (sz := 1) (Keeps.refl w) [] 0 (by decide) rfl
    have HO0 := Lib.hid hO0
    have HR := Lib.hid (h.keep ((Keeps.refl w).alloc (.cells #[] 5)))
    clear hO0 h
    go_enter Tryd.func25, Tryd.ntmps25
    go_wp2_with (at_builtin; refine wp_app ty_by rfl _ _ rfl HO0.out rfl rfl HR.out (bl_cells l) (by omega) ?_)
    intro v' w1 hO1 hgr
    have HO1 := Lib.hid hO1
    clear hO1 hgr
    go_wp2_with fail
    go_ret
    have ho := HO1.out
    exact ⟨v', rfl, ho⟩
theorem tolPred39 (s : S) (B : Nat) (l : List S) (w : World) (hc : w.cell? ⟨B, 0, none⟩ = some (.int .u16 (sv s))) :
    PredK Tryd.prog 73 #[.pointer (some ⟨B, 0, none⟩)] vs (fun t => sub9 s t) l w := fun W x _ hk => by
  have hc' := hk.cell hc
  show Calls Tryd.prog 73 #[.int .u16 (sv x), .pointer (some ⟨B, 0, none⟩)] W fun e w' => e = .returned (.bool (s &&& ~~~x == 0#16)) ∧ Keeps W w'
  go_enter Tryd.func73, Tryd.ntmps73
  go_wp2_with fail
  go_ret
  exact ⟨rfl, Keeps.refl _⟩
theorem tolerated39_any (a1 : Option Addr) (n1 c1 : Nat) (f : List S) (a2 : Option Addr) (n2 c2 : Nat) (b : List S) (byz : S) (w : World) (h1 : Rd w a1 n1 c1 1 (sl f)) (h2 : Rd w a2 n2 c2 1 (sl b)) :
    Calls Tryd.prog 33 #[.slice a1 n1 c1, .slice a2 n2 c2, .int .u16 (sv byz)] w fun e w' => e = .returned (.bool (tolB f b byz)) ∧ Keeps w w' := by
  have hK := (Keeps.refl w).alloc (.cells #[.int .u16 (sv byz)] 24)
  have hcon := containsFuncS_any a2 n2 c2 b (w.alloc (.cells #[.int .u16 (sv byz)] 24)) 73 #[.pointer (some ⟨w.heap.size, 0, none⟩)] (fun t => sub9 byz t) (h2.keep hK) (enters_of Tryd.func73 (by kernel_rfl) rfl)
    (tolPred39 byz w.heap.size b _ (by rw [World.cell?_alloc_at _ _ _ _ rfl]; rfl))
  have hdis := dis_any a1 n1 c1 a2 n2 c2 f b (w.alloc (.cells #[.int .u16 (sv byz)] 24)) (h1.keep hK) (h2.keep hK)
  unfold tolB
  generalize (b.any fun t => sub9 byz t) = r at hcon ⊢
  generalize disOK b f = q at hdis ⊢
  have HC := Lib.hid hcon; have HD := Lib.hid hdis; have HK := Lib.hid hK
  clear hcon hdis h1 h2 hK
  cases q with
  | false =>
    go_enter Tryd.func33, Tryd.ntmps33
    go_wp2_with fail
    refine HD.out.mono ?_
    rintro e w' ⟨rfl, rfl⟩
    go_wp2_with fail
    go_ret
    exact ⟨rfl, HK.out⟩
  | true =>
    go_enter Tryd.func33, Tryd.ntmps33
    go_wp2_with fail
    refine HD.out.mono ?_
    rintro e w' ⟨rfl, rfl⟩
    go_wp2_with fail
    refine HC.out.mono ?_
    rintro e w' ⟨rfl, K2⟩
    have HK2 := Lib.hid (HK.out.trans K2)
    clear K2
    go_wp2_with fail
    go_ret
    exact ⟨by cases r <;> rfl, HK2.out⟩
set_option maxHeartbeats 4000000 in
set_option maxRecDepth 20000 in
theorem BroadcastConsistent_any (k : KA) (ca : Option Addr) (cc : Nat) (chs : List Nat) (w : World) (hT : Tab w) (hk : RdK w k) (hc : Rd w ca chs.length cc 1 (bl chs)) (h256 : ∀ c ∈ chs, c < 256) :
    Calls Tryd.prog 6 #[vK k, .slice ca chs.length cc] w fun e w' => e = .returned (.bool true) ∧ Keeps w w' := by
  have hX := Blk.new w 42 #[.int .u8 k.kN, .int .u8 k.kS, .int .u8 k.kR, .slice k.fa k.lf.length k.fc, .slice k.ba k.lb.length k.bc, .int .u8 k.kZ]
  have kX := (Keeps.refl w).alloc (.cells #[.int .u8 k.kN, .int .u8 k.kS, .int .u8 k.kR, .slice k.fa k.lf.length k.fc, .slice k.ba k.lb.length k.bc, .int .u8 k.kZ] 42)
  have HT := Lib.hid (hT.keep kX); have HKK := Lib.hid (hk.keep kX); have HC := Lib.hid (hc.keep kX); have HX := Lib.hid hX; have HK := Lib.hid kX
  have HAW := Lib.hid (fun W (t : Tab W) => awake39_any W t)
  have H256 := Lib.hid h256
  have hcs : chs.length ≤ 9223372036854775807 := hc.small
  clear hX kX hT hk hc h256
  unfold vK
  by_cases h100 : chs.length > 100
  · go_enter Tryd.func6, Tryd.ntmps6
    go_wp2_with fail
    refine (HAW.out _ HT.out).mono ?_
    rintro e w1 ⟨rfl, k1⟩
    go_wp2_with fail
    refine (HAW.out _ (HT.out.keep k1)).mono ?_
    rintro e w2 ⟨rfl, k2⟩
    have HKF := Lib.hid (HK.out.trans (k1.trans k2))
    clear k1 k2
    go_wp2_with fail
    go_ret
    exact ⟨rfl, HKF.out⟩
  go_enter Tryd.func6, Tryd.ntmps6
  go_wp2_with fail
  refine (HAW.out _ HT.out).mono ?_
  rintro e w1 ⟨rfl, k1⟩
  have HT := Lib.hid (HT.out.keep k1); have HC := Lib.hid (HC.out.keep k1); have HK := Lib.hid (HK.out.trans k1)
  have hmd := made39_any k w1 (HKK.out.keep k1)
  unfold vK at hmd
  have HMD := Lib.hid hmd
  obtain ⟨x0, x1, x2, x3, x4, x5⟩ := (HX.out.keep k1).c6
  clear hmd k1 HKK HX HAW
  go_wp2_with fail
  refine HMD.out.mono ?_
  rintro e w2 ⟨fu, bu, rfl, hF, hB⟩
  obtain ⟨fa, fc, rfl, hf⟩ := hF.rd
  obtain ⟨ba, bc, rfl, hb⟩ := hB.rd
  have hk2 := hF.2
  clear x0 x1 x2 x3 x4 x5 HMD hF hB
  generalize mdF k = f at *
  generalize mdB k = b at *
  generalize mdN k = n at *
  generalize mdZ k = byz at *
  generalize mdR k = source at *
  have HT := Lib.hid (HT.out.keep hk2); have hC := HC.out.keep hk2; have HK := Lib.hid (HK.out.trans hk2)
  have hcl := cloneB_any ca cc chs w2 hC (by omega)
  have HCL := Lib.hid hcl
  clear HC hC hk2 hcl
  go_wp2_with fail
  refine HCL.out.mono ?_
  rintro e w3 ⟨cv, rfl, hO⟩
  obtain ⟨cb, cd, rfl, hch⟩ := hO.rd
  have HT := Lib.hid (HT.out.keep hO.2); have HK := Lib.hid (HK.out.trans hO.2)
  have hrun := runC_any w3 fa _ fc f ba _ bc b n byz source cb _ cd chs (hf.keep hO.2) (hb.keep hO.2) hch H256.out (by omega)
  rw [Int.toNat_natCast, Int.toNat_natCast] at hrun
  have HF := Lib.hid (hf.keep hO.2); have HB := Lib.hid (hb.keep hO.2)
  have HRUN := Lib.hid hrun
  clear HCL hO hch hrun hf hb
  have HRE : Hid (runE f b n byz source chs.length = runE f b n byz source chs.length) := Lib.hid rfl
  generalize her : runE f b n byz source chs.length = er at HRUN
  have HER := Lib.hid her
  clear her HRE
  obtain ⟨st, hst⟩ : ∃ st, st = runS f b n byz (lieL n byz source strX strY) (startS n byz source strX 0) chs := ⟨_, rfl⟩
  rw [← hst] at HRUN
  have HST := Lib.hid hst
  clear hst
  go_wp2_with fail
  refine HRUN.out.mono ?_
  rintro e w4 ⟨k4, v, rfl, hv⟩
  have HF := Lib.hid (HF.out.keep k4); have HB := Lib.hid (HB.out.keep k4); have HT := Lib.hid (HT.out.keep k4); have HK := Lib.hid (HK.out.trans k4)
  clear HRUN k4
  by_cases he0 : er = 0
  · subst he0
    rw [if_pos rfl] at hv
    have HV := hv
    obtain ⟨an1, cn1, nas1, ag1, cg1, rfl, _, _, _, _⟩ := hv
    dsimp only
    unfold vCast at HV ⊢
    have b1 := Blk.new w4 32 #[.int .i64 n, .int .u16 (sv byz), .int .i64 source, .slice an1 nas1.length cn1, .slice ag1 st.flight.length cg1]
    have kb := (Keeps.refl w4).alloc (.cells #[.int .i64 n, .int .u16 (sv byz), .int .i64 source, .slice an1 nas1.length cn1, .slice ag1 st.flight.length cg1] 32)
    have hrng : RngOk n byz source ∧ chk39 f b n = 0 := by
      have h := HER.out
      by_cases hr : RngOk (n : Int) byz (source : Int)
      · rw [runE_ok hr, Int.toNat_natCast] at h
        refine ⟨hr, ?_⟩
        unfold lstErr at h
        by_cases hc : chk39 f b n = 0
        · exact hc
        · rw [if_pos hc] at h; exact absurd h hc
      · rw [runE_bad hr] at h; cases h
    have HRN := Lib.hid hrng
    have HV1 := Lib.hid (HV.keep kb); have HB1 := Lib.hid b1
    have HF := Lib.hid (HF.out.keep kb); have HB := Lib.hid (HB.out.keep kb); have HT := Lib.hid (HT.out.keep kb); have HK := Lib.hid (HK.out.trans kb)
    have hbn : ((0 : Int) != 0) = false := rfl
    clear HV b1 kb hrng
    go_upto_region 5 with fail
    generalize w4.alloc (.cells #[.int .i64 n, .int .u16 (sv byz), .int .i64 source, .slice an1 nas1.length cn1, .slice ag1 st.flight.length cg1] 32) = w5 at *
    generalize w4.heap.size = P1 at *
    have htol := tolerated39_any fa _ fc f ba _ bc b byz w5 HF.out HB.out
    generalize hq : tolB f b byz = tb at htol
    have HTO := Lib.hid htol
    have HQ := Lib.hid hq
    clear htol hq
    cases tb with
    | false =>
      go_wp2_with fail
      refine HTO.out.mono ?_
      rintro e w6 ⟨rfl, k6⟩
      have HKF := Lib.hid (HK.out.trans k6)
      clear k6 HTO
      go_wp2_with fail
      go_ret
      exact ⟨rfl, HKF.out⟩
    | true =>
      go_wp2_with fail
      refine HTO.out.mono ?_
      rintro e w6 ⟨rfl, k6⟩
      have HF := Lib.hid (HF.out.keep k6); have HB := Lib.hid (HB.out.keep k6); have HK := Lib.hid (HK.out.trans k6); have HV1 := Lib.hid (HV1.out.keep k6); have HB1 := Lib.hid (HB1.out.keep k6)
      clear k6 HTO
      obtain ⟨hrg, hchk⟩ := HRN.out
      have hn8 : n ≤ 8 := by have := hrg.2.1; omega
      have hn1 : 1 ≤ n := by have := hrg.1; omega
      have hsn : source < n := by have := hrg.2.2.2.2; omega
      have hins := chk_ins hchk
      obtain ⟨hdis, hTT⟩ := tolB_iff.1 HQ.out
      have HDI := Lib.hid (dis_of hdis)
      have HII := Lib.hid (ins_of hins.1)
      have HTT := Lib.hid hTT
      have hinv : Inv f b n byz source strX st := by rw [HST.out]; exact run_inv hn8 hTT chs (start_inv hsn 0)
      have hra := run_all (f := f) (b := b) (byz := byz) (source := source) hn8 chs
      rw [← HST.out] at hra
      have hse := inv_setE hinv hn1 hn8 hchk
      have hfl : st.flight.length ≤ 10000 := by have h1 := hra.2; unfold measS at h1; omega
      have hnl : st.nodes.length ≤ 10000 := by rw [hinv.len]; omega
      have HIV := Lib.hid hinv
      have HIS := Lib.hid (settleS_inv hn8 hTT hinv)
      have HN8 := Lib.hid hn8
      have HNL := Lib.hid hnl
      have hset := settleC_any w6 fa _ fc f ba _ bc b ⟨n, byz, source, st⟩ _ HF.out HB.out HV1.out hfl hnl hra.1.2
      rw [Int.toNat_natCast, hse] at hset
      have HSET := Lib.hid hset
      obtain ⟨su, hsu⟩ : ∃ s, s = settleS f b n byz st := ⟨_, rfl⟩
      rw [← hsu] at HSET HIS
      clear hrg hchk hn8 hn1 hsn hins hdis hTT hinv hra hse hfl hnl hset hsu
      obtain ⟨x0, x1, x2, x3, x4⟩ := c5 HB1.out
      go_wp2_with fail
      refine HSET.out.mono ?_
      rintro e w7 ⟨k7, v, rfl, hv⟩
      rw [if_pos rfl] at hv
      have HV := hv
      obtain ⟨an2, cn2, nas2, ag2, cg2, rfl, _, _, _, _⟩ := hv
      dsimp only
      unfold vCast at HV ⊢
      have b2 := Blk.new w7 32 #[.int .i64 n, .int .u16 (sv byz), .int .i64 source, .slice an2 nas2.length cn2, .slice ag2 su.flight.length cg2]
      have kb := (Keeps.refl w7).alloc (.cells #[.int .i64 n, .int .u16 (sv byz), .int .i64 source, .slice an2 nas2.length cn2, .slice ag2 su.flight.length cg2] 32)
      have HV2 := Lib.hid (HV.keep kb)
      have HB2 := Lib.hid b2
      have HV1 := Lib.hid ((HV1.out.keep k7).keep kb)
      have HB1 := Lib.hid ((HB1.out.keep k7).keep kb)
      have HK := Lib.hid ((HK.out.trans k7).trans kb)
      have HSN := Lib.hid (show su.nodes.length ≤ 1000000 by rw [HIS.out.1.len]; have := HN8.out; omega)
      clear k7 HV b2 kb HSET x0 x1 x2 x3 x4
      go_upto_region 8 with fail
      generalize w7.alloc (.cells #[.int .i64 n, .int .u16 (sv byz), .int .i64 source, .slice an2 nas2.length cn2, .slice ag2 su.flight.length cg2] 32) = w8 at *
      generalize w7.heap.size = P2 at *
      have hc := consistentC_any w8 ⟨n, byz, source, st⟩ _ HV1.out (by have := HNL.out; dsimp only; omega)
      have e1 : consB (delC ⟨n, byz, source, st⟩) = true := inv_cons HDI.out HII.out HTT.out HIV.out
      rw [e1] at hc
      have HC := Lib.hid hc
      clear hc e1
      obtain ⟨x0, x1, x2, x3, x4⟩ := c5 HB1.out
      go_wp2_with fail
      refine HC.out.mono ?_
      rintro e w9 ⟨rfl, k9⟩
      have HV2 := Lib.hid (HV2.out.keep k9); have HB2 := Lib.hid (HB2.out.keep k9); have HK := Lib.hid (HK.out.trans k9)
      clear k9 HC x0 x1 x2 x3 x4
      have hc := consistentC_any w9 ⟨n, byz, source, su⟩ _ HV2.out HSN.out
      have e1 : consB (delC ⟨n, byz, source, su⟩) = true := inv_cons HDI.out HII.out HTT.out HIS.out.1
      rw [e1] at hc
      have HC := Lib.hid hc
      clear hc e1
      obtain ⟨x0, x1, x2, x3, x4⟩ := c5 HB2.out
      go_wp2_with fail
      refine HC.out.mono ?_
      rintro e w10 ⟨rfl, k10⟩
      have HK := Lib.hid (HK.out.trans k10)
      clear k10 HC x0 x1 x2 x3 x4
      go_wp2_with fail
      go_ret
      exact ⟨rfl, HK.out⟩
  · have heb : (er != 0) = true := by simpa using he0
    rw [if_neg he0] at hv
    obtain ⟨an1, cn1, nas1, ag1, cg1, rfl, _, _, _, _⟩ := hv
    unfold vCast
    go_wp2_with fail
    go_ret
    exact ⟨rfl, HK.out.alloc _⟩
theorem neX_any (y : Str) (W : World) : Calls Tryd.prog 36 (#[.string y] ++ #[]) W fun e w' => e = .returned (.bool (decide (y ≠ strX))) ∧ Keeps W w' := by
  go_enter Tryd.func36, Tryd.ntmps36
  go_wp2_with fail
  go_ret
  refine ⟨?_, Keeps.refl _⟩
  have hs : (y.toList == [120]) = decide (y = strX) := by rw [← str_beq, show strX.toList = [120] by rw [ByteArray.toList_eq]; rfl]
  show Ending.returned (Value.bool (!(y.toList == [120]))) = _
  rw [hs]
  by_cases h : y = strX <;> simp [h]
set_option maxHeartbeats 4000000 in
set_option maxRecDepth 20000 in
theorem BroadcastTotal_any (k : KA) (ca : Option Addr) (cc : Nat) (chs : List Nat) (w : World) (hT : Tab w) (hk : RdK w k) (hc : Rd w ca chs.length cc 1 (bl chs)) (h256 : ∀ c ∈ chs, c < 256) :
    Calls Tryd.prog 7 #[vK k, .slice ca chs.length cc] w fun e w' => e = .returned (.bool true) ∧ Keeps w w' := by
  have hX := Blk.new w 42 #[.int .u8 k.kN, .int .u8 k.kS, .int .u8 k.kR, .slice k.fa k.lf.length k.fc, .slice k.ba k.lb.length k.bc, .int .u8 k.kZ]
  have kX := (Keeps.refl w).alloc (.cells #[.int .u8 k.kN, .int .u8 k.kS, .int .u8 k.kR, .slice k.fa k.lf.length k.fc, .slice k.ba k.lb.length k.bc, .int .u8 k.kZ] 42)
  have HT := Lib.hid (hT.keep kX); have HKK := Lib.hid (hk.keep kX); have HC := Lib.hid (hc.keep kX); have HX := Lib.hid hX; have HK := Lib.hid kX
  have HAW := Lib.hid (fun W (t : Tab W) => awake39_any W t)
  have H256 := Lib.hid h256
  have hcs : chs.length ≤ 9223372036854775807 := hc.small
  clear hX kX hT hk hc h256
  unfold vK
  by_cases h100 : chs.length > 100
  · go_enter Tryd.func7, Tryd.ntmps7
    go_wp2_with fail
    refine (HAW.out _ HT.out).mono ?_
    rintro e w1 ⟨rfl, k1⟩
    go_wp2_with fail
    refine (HAW.out _ (HT.out.keep k1)).mono ?_
    rintro e w2 ⟨rfl, k2⟩
    have HKF := Lib.hid (HK.out.trans (k1.trans k2))
    clear k1 k2
    go_wp2_with fail
    go_ret
    exact ⟨rfl, HKF.out⟩
  go_enter Tryd.func7, Tryd.ntmps7
  go_wp2_with fail
  refine (HAW.out _ HT.out).mono ?_
  rintro e w1 ⟨rfl, k1⟩
  have HT := Lib.hid (HT.out.keep k1); have HC := Lib.hid (HC.out.keep k1); have HK := Lib.hid (HK.out.trans k1)
  have hmd := made39_any k w1 (HKK.out.keep k1)
  unfold vK at hmd
  have HMD := Lib.hid hmd
  obtain ⟨x0, x1, x2, x3, x4, x5⟩ := (HX.out.keep k1).c6
  clear hmd k1 HKK HX HAW
  go_wp2_with fail
  refine HMD.out.mono ?_
  rintro e w2 ⟨fu, bu, rfl, hF, hB⟩
  obtain ⟨fa, fc, rfl, hf⟩ := hF.rd
  obtain ⟨ba, bc, rfl, hb⟩ := hB.rd
  have hk2 := hF.2
  clear x0 x1 x2 x3 x4 x5 HMD hF hB
  generalize mdF k = f at *
  generalize mdB k = b at *
  generalize mdN k = n at *
  generalize mdZ k = byz at *
  generalize mdR k = source at *
  have HT := Lib.hid (HT.out.keep hk2); have hC := HC.out.keep hk2; have HK := Lib.hid (HK.out.trans hk2)
  have hcl := cloneB_any ca cc chs w2 hC (by omega)
  have HCL := Lib.hid hcl
  clear HC hC hk2 hcl
  go_wp2_with fail
  refine HCL.out.mono ?_
  rintro e w3 ⟨cv, rfl, hO⟩
  obtain ⟨cb, cd, rfl, hch⟩ := hO.rd
  have HT := Lib.hid (HT.out.keep hO.2); have HK := Lib.hid (HK.out.trans hO.2)
  have hrun := runC_any w3 fa _ fc f ba _ bc b n byz source cb _ cd chs (hf.keep hO.2) (hb.keep hO.2) hch H256.out (by omega)
  rw [Int.toNat_natCast, Int.toNat_natCast] at hrun
  have HF := Lib.hid (hf.keep hO.2); have HB := Lib.hid (hb.keep hO.2)
  have HRUN := Lib.hid hrun
  clear HCL hO hch hrun hf hb
  have HRE : Hid (runE f b n byz source chs.length = runE f b n byz source chs.length) := Lib.hid rfl
  generalize her : runE f b n byz source chs.length = er at HRUN
  have HER := Lib.hid her
  clear her HRE
  obtain ⟨st, hst⟩ : ∃ st, st = runS f b n byz (lieL n byz source strX strY) (startS n byz source strX 0) chs := ⟨_, rfl⟩
  rw [← hst] at HRUN
  have HST := Lib.hid hst
  clear hst
  go_wp2_with fail
  refine HRUN.out.mono ?_
  rintro e w4 ⟨k4, v, rfl, hv⟩
  have HF := Lib.hid (HF.out.keep k4); have HB := Lib.hid (HB.out.keep k4); have HT := Lib.hid (HT.out.keep k4); have HK := Lib.hid (HK.out.trans k4)
  clear HRUN k4
  by_cases he0 : er = 0
  · subst he0
    rw [if_pos rfl] at hv
    have HV := hv
    obtain ⟨an1, cn1, nas1, ag1, cg1, rfl, _, _, _, _⟩ := hv
    dsimp only
    unfold vCast at HV ⊢
    have b1 := Blk.new w4 32 #[.int .i64 n, .int .u16 (sv byz), .int .i64 source, .slice an1 nas1.length cn1, .slice ag1 st.flight.length cg1]
    have kb := (Keeps.refl w4).alloc (.cells #[.int .i64 n, .int .u16 (sv byz), .int .i64 source, .slice an1 nas1.length cn1, .slice ag1 st.flight.length cg1] 32)
    have hrng : RngOk n byz source ∧ chk39 f b n = 0 := by
      have h := HER.out
      by_cases hr : RngOk (n : Int) byz (source : Int)
      · rw [runE_ok hr, Int.toNat_natCast] at h
        refine ⟨hr, ?_⟩
        unfold lstErr at h
        by_cases hc : chk39 f b n = 0
        · exact hc
        · rw [if_pos hc] at h; exact absurd h hc
      · rw [runE_bad hr] at h; cases h
    have HRN := Lib.hid hrng
    have HV1 := Lib.hid (HV.keep kb); have HB1 := Lib.hid b1
    have HF := Lib.hid (HF.out.keep kb); have HB := Lib.hid (HB.out.keep kb); have HT := Lib.hid (HT.out.keep kb); have HK := Lib.hid (HK.out.trans kb)
    have hbn : ((0 : Int) != 0) = false := rfl
    clear HV b1 kb hrng
    go_upto_region 5 with fail
    generalize w4.alloc (.cells #[.int .i64 n, .int .u16 (sv byz), .int .i64 source, .slice an1 nas1.length cn1, .slice ag1 st.flight.length cg1] 32) = w5 at *
    generalize w4.heap.size = P1 at *
    have htol := tolerated39_any fa _ fc f ba _ bc b byz w5 HF.out HB.out
    generalize hq : tolB f b byz = tb at htol
    have HTO := Lib.hid htol
    have HQ := Lib.hid hq
    clear htol hq
    cases tb with
    | false =>
      go_wp2_with fail
      refine HTO.out.mono ?_
      rintro e w6 ⟨rfl, k6⟩
      have HKF := Lib.hid (HK.out.trans k6)
      clear k6 HTO
      go_wp2_with fail
      go_ret
      exact ⟨rfl, HKF.out⟩
    | true =>
      go_wp2_with fail
      refine HTO.out.mono ?_
      rintro e w6a ⟨rfl, k6⟩
      have HF := Lib.hid (HF.out.keep k6); have HB := Lib.hid (HB.out.keep k6); have HK := Lib.hid (HK.out.trans k6); have HV1 := Lib.hid (HV1.out.keep k6); have HB1 := Lib.hid (HB1.out.keep k6)
      clear k6 HTO
      have hav := avail_any fa _ fc ba _ bc f b w6a HF.out HB.out
      generalize hqa : availS f b = ab at hav
      have HAV := Lib.hid hav
      have HQA := Lib.hid hqa
      clear hav hqa
      cases ab with
      | false =>
        go_wp2_with fail
        refine HAV.out.mono ?_
        rintro e w6 ⟨rfl, k6⟩
        have HKF := Lib.hid (HK.out.trans k6)
        clear k6 HAV
        go_wp2_with fail
        go_ret
        exact ⟨rfl, HKF.out⟩
      | true =>
        go_wp2_with fail
        refine HAV.out.mono ?_
        rintro e w6 ⟨rfl, k6⟩
        have HF := Lib.hid (HF.out.keep k6); have HB := Lib.hid (HB.out.keep k6); have HK := Lib.hid (HK.out.trans k6); have HV1 := Lib.hid (HV1.out.keep k6); have HB1 := Lib.hid (HB1.out.keep k6)
        clear k6 HAV
        obtain ⟨hrg, hchk⟩ := HRN.out
        have hn8 : n ≤ 8 := by have := hrg.2.1; omega
        have hn1 : 1 ≤ n := by have := hrg.1; omega
        have hsn : source < n := by have := hrg.2.2.2.2; omega
        have hins := chk_ins hchk
        obtain ⟨hdis, hTT⟩ := tolB_iff.1 HQ.out
        have HDI := Lib.hid (dis_of hdis)
        have HII := Lib.hid (ins_of hins.1)
        have HTT := Lib.hid hTT
        have hinv : Inv f b n byz source strX st := by rw [HST.out]; exact run_inv hn8 hTT chs (start_inv hsn 0)
        have hra := run_all (f := f) (b := b) (byz := byz) (source := source) hn8 chs
        rw [← HST.out] at hra
        have hse := inv_setE hinv hn1 hn8 hchk
        have hfl : st.flight.length ≤ 10000 := by have h1 := hra.2; unfold measS at h1; omega
        have hnl : st.nodes.length ≤ 10000 := by rw [hinv.len]; omega
        have HIV := Lib.hid hinv
        have HIS := Lib.hid (settleS_inv hn8 hTT hinv)
        have HN8 := Lib.hid hn8
        have HNL := Lib.hid hnl
        have hset := settleC_any w6 fa _ fc f ba _ bc b ⟨n, byz, source, st⟩ _ HF.out HB.out HV1.out hfl hnl hra.1.2
        rw [Int.toNat_natCast, hse] at hset
        have HSET := Lib.hid hset
        obtain ⟨su, hsu⟩ : ∃ s, s = settleS f b n byz st := ⟨_, rfl⟩
        rw [← hsu] at HSET HIS
        clear hrg hchk hn8 hn1 hsn hins hdis hTT hinv hra hse hfl hnl hset hsu
        obtain ⟨x0, x1, x2, x3, x4⟩ := c5 HB1.out
        go_wp2_with fail
        refine HSET.out.mono ?_
        rintro e w7 ⟨k7, v, rfl, hv⟩
        rw [if_pos rfl] at hv
        have HV := hv
        obtain ⟨an2, cn2, nas2, ag2, cg2, rfl, _, _, _, _⟩ := hv
        dsimp only
        unfold vCast at HV ⊢
        have b2 := Blk.new w7 32 #[.int .i64 n, .int .u16 (sv byz), .int .i64 source, .slice an2 nas2.length cn2, .slice ag2 su.flight.length cg2]
        have kb := (Keeps.refl w7).alloc (.cells #[.int .i64 n, .int .u16 (sv byz), .int .i64 source, .slice an2 nas2.length cn2, .slice ag2 su.flight.length cg2] 32)
        have HV2 := Lib.hid (HV.keep kb)
        have HB2 := Lib.hid b2
        have HV1 := Lib.hid ((HV1.out.keep k7).keep kb)
        have HB1 := Lib.hid ((HB1.out.keep k7).keep kb)
        have HK := Lib.hid ((HK.out.trans k7).trans kb)
        have HSN := Lib.hid (show su.nodes.length ≤ 1000000 by rw [HIS.out.1.len]; have := HN8.out; omega)
        clear k7 HV b2 kb HSET x0 x1 x2 x3 x4
        go_upto_region 8 with fail
        generalize w7.alloc (.cells #[.int .i64 n, .int .u16 (sv byz), .int .i64 source, .slice an2 nas2.length cn2, .slice ag2 su.flight.length cg2] 32) = w8 at *
        generalize w7.heap.size = P2 at *
        have hc := totalC_any w8 ⟨n, byz, source, su⟩ _ HV2.out HSN.out
        have e1 : totB (CD.mk n byz source su).byz (CD.mk n byz source su).st.nodes = true := inv_tot HN8.out HDI.out (avl_of HQA.out) HII.out HTT.out HIS.out.1 HIS.out.2
        rw [e1] at hc
        have HC := Lib.hid hc
        clear hc e1
        obtain ⟨x0, x1, x2, x3, x4⟩ := c5 HB2.out
        have hm0 : min source 16 = source := by have := HRN.out.1.2.1; have := HRN.out.1.2.2.2.2; omega
        have hb1 := bit1_S byz source
        cases hq2 : byz.getLsbD source with
        | true =>
          rw [hq2] at hb1
          go_wp2_with fail
          refine HC.out.mono ?_
          rintro e w9 ⟨rfl, k9⟩
          have HKF := Lib.hid (HK.out.trans k9)
          clear k9 HC x0 x1 x2 x3 x4
          go_wp2_with fail
          go_ret
          exact ⟨rfl, HKF.out⟩
        | false =>
          rw [hq2] at hb1
          have HSR := Lib.hid (inv_src HN8.out HDI.out (avl_of HQA.out) HII.out HTT.out HIS.out.1 HIS.out.2 (by unfold corr; rw [hq2]; have := HRN.out.1.2.2.2.2; simp; omega))
          have HCM : Hid (source ∈ corrL n byz) := Lib.hid ((mem_corrL source).2 (by unfold corr; rw [hq2]; have := HRN.out.1.2.2.2.2; simp; omega))
          clear hq2
          go_wp2_with fail
          refine HC.out.mono ?_
          rintro e w9 ⟨rfl, k9⟩
          have HV2 := Lib.hid (HV2.out.keep k9); have HB2 := Lib.hid (HB2.out.keep k9); have HK := Lib.hid (HK.out.trans k9)
          clear k9 HC x0 x1 x2 x3 x4
          obtain ⟨x0, x1, x2, x3, x4⟩ := c5 HB2.out
          have hc := deliveredC_any w9 ⟨n, byz, source, su⟩ _ HV2.out HSN.out
          have hd : delC ⟨n, byz, source, su⟩ = delL byz su.nodes := rfl
          rw [hd] at hc
          generalize delL byz su.nodes = D at hc HSR
          have HC := Lib.hid hc
          clear hc hd
          go_wp2_with fail
          refine HC.out.mono ?_
          rintro e w10 ⟨u, rfl, hO⟩
          obtain ⟨ad, cd2, rfl, hr⟩ := hO.rd
          have HK := Lib.hid (HK.out.trans hO.2)
          clear HC x0 x1 x2 x3 x4 hO hb1 hm0
          have hpos : 0 < D.length := by rw [HSR.out.1]; exact List.length_pos_of_mem HCM.out
          have hgt : ((D.length : Nat) : Int) > 0 := by omega
          have hcf := containsFuncT_any ad D.length cd2 D w10 36 #[] (fun y => decide (y ≠ strX)) hr (enters_of Tryd.func36 (by kernel_rfl) rfl) (fun W y _ hk => neX_any y W)
          have e2 : (D.any fun y => decide (y ≠ strX)) = false := List.any_eq_false.2 fun y hy => by have := HSR.out.2 y hy; simp [this]
          rw [e2] at hcf
          have HCF := Lib.hid hcf
          clear hcf e2 hr hpos
          go_wp2_with fail
          refine HCF.out.mono ?_
          rintro e w11 ⟨rfl, k11⟩
          have HKF := Lib.hid (HK.out.trans k11)
          clear k11 HCF
          go_wp2_with fail
          go_ret
          exact ⟨rfl, HKF.out⟩
  · have heb : (er != 0) = true := by simpa using he0
    rw [if_neg he0] at hv
    obtain ⟨an1, cn1, nas1, ag1, cg1, rfl, _, _, _, _⟩ := hv
    unfold vCast
    go_wp2_with fail
    go_ret
    exact ⟨rfl, HK.out.alloc _⟩
end Go.Proofs.YtbcfkgolhklkaaaDoor
