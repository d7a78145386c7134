/- Texts joined into one, what is needed of them (a program of ours). -/
import Derived.Test.YtijknodekomdfaaGreatDoorBKTE
import Derived.Test.YtijknodekomdfaaGreatDoorBKPG
import Derived.Test.YtijknodekomdfaaGreatDoorBKT
namespace Go.Proofs.YtijknodekomdfaaGreatDoor
open Go.RowKit Go.Lib Go.Shelf

theorem settleN_any (w : World) (fa : Option Addr) (fm fc : Nat) (f : List S) (ba : Option Addr) (bm bc : Nat) (b : List S) (c : CD) (v : Value)
    (hf : Rd w fa fm fc 1 (sl f)) (hb : Rd w ba bm bc 1 (sl b)) (hv : HasC w c v) (hfl : c.st.flight.length ≤ 10000) (hnn : c.st.nodes.length ≤ 10000) (hsm : SmallS c.st) :
    Calls Tryz.prog 33 #[.slice fa fm fc, .slice ba bm bc, v] w fun e w' => RetN w (setE f b c.n c.byz c.st.nodes c.st.flight) ⟨c.n, c.byz, c.src, settleS f b c.n.toNat c.byz c.st⟩ e w' := by
  obtain ⟨an, cn, nas, ag, cg, rfl, h1, h2, h3, h4⟩ := hv
  obtain ⟨N, byz, source, nodes, fl⟩ := c
  dsimp only at *
  subst h4
  rw [List.length_map] at hnn
  refine (settle39_any w fa fm fc f ba bm bc b N byz source an cn nas ag cg fl hf hb h1 h2 hfl hnn h3 hsm).mono ?_
  rintro e w' ⟨k, ⟨he, rfl⟩ | ⟨he, nv, nas', gv, fl', rfl, o1, o2, o3, hst⟩⟩
  · refine ⟨k, _, rfl, ?_⟩
    rw [if_neg he]
    exact runN_zero k
  · refine ⟨k, _, by rw [he], ?_⟩
    rw [if_pos he, hst]
    exact runN_own o1 o2 o3
theorem neXT_any (y : Str) (W : World) : Calls Tryz.prog 38 (#[.string y] ++ #[]) W fun e w' => e = .returned (.bool (decide (y ≠ strX))) ∧ Keeps W w' := by
  go_enter Tryz.func38, Tryz.ntmps38
  go_wp2_with fail
  go_ret
  refine ⟨?_, Keeps.refl _⟩
  have hs : (y.toList == [120]) = decide (y = strX) := by rw [← str_beq, show strX.toList = [120] by rw [ByteArray.toList_eq]; rfl]
  show Ending.returned (Value.bool (!(y.toList == [120]))) = _
  rw [hs]
  by_cases h : y = strX <;> simp [h]
set_option maxHeartbeats 8000000 in
set_option maxRecDepth 20000 in
theorem TopBroadcast_any (k : KA) (pk : Int) (ca : Option Addr) (cc : Nat) (chs : List Nat) (w : World) (hT : Tab w) (hk : RdK w k) (p0 : 0 ≤ pk) (p1 : pk ≤ 255) (hc : Rd w ca chs.length cc 1 (bl chs)) (h256 : ∀ c ∈ chs, c < 256) :
    Calls Tryz.prog 6 #[vK k, .int .u8 pk, .slice ca chs.length cc] w fun e w' => e = .returned (.bool true) ∧ Keeps w w' := by
  have hX := Blk.new w 67 #[.int .u8 k.kN, .int .u8 k.kS, .int .u8 k.kR, .slice k.fa k.lf.length k.fc, .slice k.ba k.lb.length k.bc, .int .u8 k.kZ]
  have kX := (Keeps.refl w).alloc (.cells #[.int .u8 k.kN, .int .u8 k.kS, .int .u8 k.kR, .slice k.fa k.lf.length k.fc, .slice k.ba k.lb.length k.bc, .int .u8 k.kZ] 67)
  have HT := Lib.hid (hT.keep kX); have HKK := Lib.hid (hk.keep kX); have HC := Lib.hid (hc.keep kX); have HX := Lib.hid hX; have HK := Lib.hid kX
  have HAW := Lib.hid (fun W (t : Tab W) => awake39T_any W t)
  have H256 := Lib.hid h256
  have hcs : chs.length ≤ 9223372036854775807 := hc.small
  obtain ⟨pn, rfl⟩ : ∃ m : Nat, pk = m := ⟨pk.toNat, by omega⟩
  have hmd := made39_any k (w.alloc (.cells #[.int .u8 k.kN, .int .u8 k.kS, .int .u8 k.kR, .slice k.fa k.lf.length k.fc, .slice k.ba k.lb.length k.bc, .int .u8 k.kZ] 67)) HKK.out
  unfold vK at hmd
  have HMD := Lib.hid hmd
  obtain ⟨x0, x1, x2, x3, x4, x5⟩ := HX.out.c6
  have HBF := Lib.hid (mdB_lt k)
  have hn := mdN_le k
  have hBl : (mdB k).length ≤ 6 := mdB0_len _ _ 6
  have hsn : mdR k < mdN k := by unfold mdR; exact Nat.mod_lt _ (by omega)
  clear hX kX hT hk hc h256 hmd HKK p0
  unfold vK
  go_enter Tryz.func6, Tryz.ntmps6
  go_wp2_with fail
  refine HMD.out.mono ?_
  rintro e w2 ⟨fu, bu, rfl, hF, hB⟩
  obtain ⟨fa, fc, rfl, _⟩ := hF.rd
  obtain ⟨ba, bc, rfl, hb⟩ := hB.rd
  have hk2 := hF.2
  clear x0 x1 x2 x3 x4 x5 HMD hF hB HX
  generalize mdF k = f0 at *
  generalize mdB k = b at *
  generalize mdN k = n at *
  generalize mdZ k = byz0 at *
  generalize mdR k = source at *
  have HT := Lib.hid (HT.out.keep hk2); have HC := Lib.hid (HC.out.keep hk2); have HK := Lib.hid (HK.out.trans hk2); have HB := Lib.hid hb
  clear hb hk2
  by_cases hskip : b.length = 0 ∨ chs.length > 40
  · by_cases hb0 : b.length = 0
    · have hb0i : ((b.length : Int) == 0) = true := by rw [hb0]; rfl
      clear hskip hb0
      go_wp2_with fail
      refine (HAW.out _ HT.out).mono ?_
      rintro e w3 ⟨rfl, k3⟩
      go_wp2_with fail
      refine (HAW.out _ (HT.out.keep k3)).mono ?_
      rintro e w4 ⟨rfl, k4⟩
      have HKF := Lib.hid (HK.out.trans (k3.trans k4))
      clear k3 k4
      go_wp2_with fail
      go_ret
      exact ⟨rfl, HKF.out⟩
    · have hc40 : chs.length > 40 := by omega
      have hb0i : ((b.length : Int) == 0) = false := by rw [beq_eq_false_iff_ne]; omega
      clear hskip hb0
      go_wp2_with fail
      refine (HAW.out _ HT.out).mono ?_
      rintro e w3 ⟨rfl, k3⟩
      go_wp2_with fail
      refine (HAW.out _ (HT.out.keep k3)).mono ?_
      rintro e w4 ⟨rfl, k4⟩
      have HKF := Lib.hid (HK.out.trans (k3.trans k4))
      clear k3 k4
      go_wp2_with fail
      go_ret
      exact ⟨rfl, HKF.out⟩
  have hb0 : 0 < b.length := by omega
  have hc40 : chs.length ≤ 40 := by omega
  have hb0i : ((b.length : Int) == 0) = false := by rw [beq_eq_false_iff_ne]; omega
  clear hskip
  go_wp2_with fail
  refine (HAW.out _ HT.out).mono ?_
  rintro e w3 ⟨rfl, k3⟩
  have HT := Lib.hid (HT.out.keep k3); have HC := Lib.hid (HC.out.keep k3); have HB := Lib.hid (HB.out.keep k3); have HK := Lib.hid (HK.out.trans k3)
  clear k3 HAW
  obtain ⟨f, hf⟩ : ∃ f, f = leastP (compl n b) := ⟨_, rfl⟩
  have HFE := Lib.hid hf
  have HLN : Hid (f.length ≤ 6 ∧ b.length ≤ 6) := Lib.hid ⟨by rw [hf]; exact Nat.le_trans (least_len9 _) (by unfold compl; rw [List.length_map]; exact hBl), hBl⟩
  have HCA : Hid (canonS n b = (f, 0)) := Lib.hid (by rw [hf]; exact canon_made (by omega) hBl)
  clear hf
  have hcl := cloneS_any _ _ _ (sl b) w3 HB.out (sl_oneCell b) (by have := HLN.out; omega)
  have HCC := Lib.hid hcl
  clear hcl
  go_wp2_with fail
  refine HCC.out.mono ?_
  rintro e w4 ⟨vc, rfl, ho, kk⟩
  obtain ⟨ak1, ck1, rfl, rr⟩ := (show Own 31 1 w3 w4 vc b.length (sl b) from ⟨ho, kk⟩).rd
  have HT := Lib.hid (HT.out.keep kk)
  have HC := Lib.hid (HC.out.keep kk)
  have HB := Lib.hid (HB.out.keep kk)
  have HK := Lib.hid (HK.out.trans kk)
  have Rk1 := Lib.hid rr
  clear HCC ho kk rr
  have hca := canonical_any n _ _ _ b w4 Rk1.out (by omega)
  unfold RetS at hca
  rw [HCA.out] at hca
  have HCC := Lib.hid hca
  clear hca
  go_wp2_with fail
  refine HCC.out.mono ?_
  rintro e w5 ⟨vf, rfl, hO⟩
  obtain ⟨af, cf, rfl, rr⟩ := hO.rd
  have kk := hO.2
  have HT := Lib.hid (HT.out.keep kk); have HC := Lib.hid (HC.out.keep kk); have HB := Lib.hid (HB.out.keep kk); have HK := Lib.hid (HK.out.trans kk); have HFR := Lib.hid rr
  have hbn : ((0 : Int) != 0) = false := rfl
  clear HCC hO kk rr Rk1
  have hcl := cloneS_any _ _ _ (sl b) w5 HB.out (sl_oneCell b) (by have := HLN.out; omega)
  have HCC := Lib.hid hcl
  clear hcl
  go_wp2_with fail
  refine HCC.out.mono ?_
  rintro e w6 ⟨vc, rfl, ho, kk⟩
  obtain ⟨ak2, ck2, rfl, rr⟩ := (show Own 31 1 w5 w6 vc b.length (sl b) from ⟨ho, kk⟩).rd
  have HT := Lib.hid (HT.out.keep kk)
  have HC := Lib.hid (HC.out.keep kk)
  have HB := Lib.hid (HB.out.keep kk)
  have HFR := Lib.hid (HFR.out.keep kk)
  have HK := Lib.hid (HK.out.trans kk)
  have Rk2 := Lib.hid rr
  clear HCC ho kk rr
  have hfr := free_any _ _ _ b w6 n 3 Rk2.out (by omega)
  generalize hfq : ((covRes n b 3).2 == 13) = fq at hfr
  have HCC := Lib.hid hfr
  have HFQ := Lib.hid hfq
  clear hfr hfq
  cases fq with
  | false =>
    go_wp2_with fail
    refine HCC.out.mono ?_
    rintro e w7 ⟨rfl, kk⟩
    have HKF := Lib.hid (HK.out.trans kk)
    clear kk HCC
    go_wp2_with fail
    go_ret
    exact ⟨rfl, HKF.out⟩
  | true =>
  go_wp2_with fail
  refine HCC.out.mono ?_
  rintro e w7 ⟨rfl, kk⟩
  have HT := Lib.hid (HT.out.keep kk); have HC := Lib.hid (HC.out.keep kk); have HB := Lib.hid (HB.out.keep kk); have HK := Lib.hid (HK.out.trans kk); have HFR := Lib.hid (HFR.out.keep kk)
  clear HCC kk Rk2
  have hrem : ((pn : Int).tmod (b.length : Int)) = ((pn % b.length : Nat) : Int) := by rw [Int.tmod_eq_emod_of_nonneg (by omega)]; omega
  have hbz : (b.length : Int) ≠ 0 := by omega
  have hix : pn % b.length < b.length := Nat.mod_lt _ hb0
  have g0 := HB.out.at hix
  have hao := HB.out.isSome (by omega)
  have HMB := Lib.hid (show at_ b (pn % b.length) ∈ b from at_mem hix)
  generalize pn % b.length = ix at *
  generalize at_ b ix = byz at *
  have hcl := cloneS_any _ _ _ (sl f) w7 HFR.out (sl_oneCell f) (by have := HLN.out; omega)
  have HCC := Lib.hid hcl
  clear hcl
  go_wp2_with fail
  refine HCC.out.mono ?_
  rintro e w8 ⟨vc, rfl, ho, kk⟩
  obtain ⟨ak3, ck3, rfl, rr⟩ := (show Own 31 1 w7 w8 vc f.length (sl f) from ⟨ho, kk⟩).rd
  have HT := Lib.hid (HT.out.keep kk)
  have HC := Lib.hid (HC.out.keep kk)
  have HB := Lib.hid (HB.out.keep kk)
  have HFR := Lib.hid (HFR.out.keep kk)
  have HK := Lib.hid (HK.out.trans kk)
  have Rk3 := Lib.hid rr
  clear HCC ho kk rr
  have hcl := cloneS_any _ _ _ (sl b) w8 HB.out (sl_oneCell b) (by have := HLN.out; omega)
  have HCC := Lib.hid hcl
  clear hcl
  go_wp2_with fail
  refine HCC.out.mono ?_
  rintro e w9 ⟨vc, rfl, ho, kk⟩
  obtain ⟨ak4, ck4, rfl, rr⟩ := (show Own 31 1 w8 w9 vc b.length (sl b) from ⟨ho, kk⟩).rd
  have HT := Lib.hid (HT.out.keep kk)
  have HC := Lib.hid (HC.out.keep kk)
  have HB := Lib.hid (HB.out.keep kk)
  have HFR := Lib.hid (HFR.out.keep kk)
  have Rk3 := Lib.hid (Rk3.out.keep kk)
  have HK := Lib.hid (HK.out.trans kk)
  have Rk4 := Lib.hid rr
  clear HCC ho kk rr
  have hcl := cloneB_any ca cc chs w9 HC.out (by omega)
  have HCC := Lib.hid hcl
  clear hcl
  clear g0 hrem hbz hao
  go_wp2_with fail
  refine HCC.out.mono ?_
  rintro e w10 ⟨cv, rfl, hO⟩
  obtain ⟨cb, cd, rfl, hch⟩ := hO.rd
  have kk := hO.2
  have HT := Lib.hid (HT.out.keep kk); have HB := Lib.hid (HB.out.keep kk); have HK := Lib.hid (HK.out.trans kk); have HFR := Lib.hid (HFR.out.keep kk)
  have hrun := runC_any w10 _ _ _ f _ _ _ b n byz source cb _ cd chs (Rk3.out.keep kk) (Rk4.out.keep kk) hch H256.out (by omega)
  rw [Int.toNat_natCast, Int.toNat_natCast] at hrun
  obtain ⟨st, hst⟩ : ∃ st, st = runS f b n byz (lieL n byz source strX strY) (startS n byz source strX 0) chs := ⟨_, rfl⟩
  have hall := canon_run (by omega) (by omega) HBF.out HLN.out.2 HMB.out hsn HFQ.out chs (by omega) f HFE.out st hst
  rw [← hst, hall.1] at hrun
  have HALL := Lib.hid hall.2
  have HCC := Lib.hid hrun
  clear hO hch kk hrun hst hall Rk3 Rk4 HC hcs
  go_wp2_with fail
  refine HCC.out.mono ?_
  rintro e w11 ⟨kk, v, rfl, hv⟩
  rw [if_pos rfl] at hv
  have HV := hv
  obtain ⟨an1, cn1, nas1, ag1, cg1, rfl, _, _, _, _⟩ := hv
  unfold vCast at HV ⊢
  dsimp only at HV ⊢
  have b1 := Blk.new w11 75 #[.int .i64 n, .int .u16 (sv byz), .int .i64 source, .slice an1 nas1.length cn1, .slice ag1 st.flight.length cg1]
  have kb := (Keeps.refl w11).alloc (.cells #[.int .i64 n, .int .u16 (sv byz), .int .i64 source, .slice an1 nas1.length cn1, .slice ag1 st.flight.length cg1] 75)
  have k12 := kk.trans kb
  have HV1 := Lib.hid (HV.keep kb); have HP15 := Lib.hid b1
  have HT := Lib.hid (HT.out.keep k12); have HB := Lib.hid (HB.out.keep k12); have HK := Lib.hid (HK.out.trans k12); have HFR := Lib.hid (HFR.out.keep k12)
  clear HCC kk HV b1 kb k12
  go_upto_region 11 with fail
  generalize w11.alloc (.cells #[.int .i64 n, .int .u16 (sv byz), .int .i64 source, .slice an1 nas1.length cn1, .slice ag1 st.flight.length cg1] 75) = w12 at *
  generalize w11.heap.size = P15 at *
  have hnl : st.nodes.length = n := HALL.out.1.len
  have hco := consistentC_any w12 ⟨n, byz, source, st⟩ _ HV1.out (by dsimp only; omega)
  have e1 : consB (delC ⟨n, byz, source, st⟩) = true := HALL.out.2.2.2.1
  rw [e1] at hco
  have HCC := Lib.hid hco
  clear hco e1
  obtain ⟨y0, y1, y2, y3, y4⟩ := Go.Proofs.YtijknodekomdfaaGreatDoor.c5 HP15.out
  go_wp2_with fail
  refine HCC.out.mono ?_
  rintro e w13 ⟨rfl, kk⟩
  have HT := Lib.hid (HT.out.keep kk); have HB := Lib.hid (HB.out.keep kk); have HK := Lib.hid (HK.out.trans kk); have HFR := Lib.hid (HFR.out.keep kk); have HV1 := Lib.hid (HV1.out.keep kk); have HX := Lib.hid (HP15.out.keep kk)
  clear HCC kk y0 y1 y2 y3 y4 HP15
  obtain ⟨W13, hW13⟩ : ∃ W, W = w13 := ⟨_, rfl⟩
  rw [← hW13] at HT HB HK HFR HV1 HX ⊢
  clear hW13
  have HCf := Lib.hid (fun W (k : Keeps W13 W) => cloneS_any _ _ _ (sl f) W (HFR.out.keep k) (sl_oneCell f) (by have := HLN.out; omega))
  have HCb := Lib.hid (fun W (k : Keeps W13 W) => cloneS_any _ _ _ (sl b) W (HB.out.keep k) (sl_oneCell b) (by have := HLN.out; omega))
  obtain ⟨su, hsu⟩ : ∃ s, s = settleS f b n byz st := ⟨_, rfl⟩
  obtain ⟨cR, hcR⟩ : ∃ c : CD, c = ⟨n, byz, source, su⟩ := ⟨_, rfl⟩
  have HSU := Lib.hid (HALL.out.2.2.2.2 su hsu)
  have HSET : Hid (∀ W (_ : Keeps W13 W) a1 c1 a2 c2, Rd W a1 f.length c1 1 (sl f) → Rd W a2 b.length c2 1 (sl b) → Calls Tryz.prog 33 #[.slice a1 f.length c1, .slice a2 b.length c2, .agg #[.int .i64 n, .int .u16 (sv byz), .int .i64 source, .slice an1 nas1.length cn1, .slice ag1 st.flight.length cg1]] W fun e w' => Keeps W w' ∧ ∃ v, e = .returned (.tuple #[v, .int .i64 0]) ∧ RunN W w' cR v) := Lib.hid (fun W J a1 c1 a2 c2 r1 r2 => by
    have hs := settleN_any W a1 _ c1 f a2 _ c2 b ⟨n, byz, source, st⟩ _ r1 r2 (HV1.out.keep J) (by have h1 := HALL.out.2.1.1; unfold measS at h1; dsimp only; omega) (by dsimp only; omega) HALL.out.2.1.2
    dsimp only at hs
    rw [Int.toNat_natCast, HALL.out.2.2.1, ← hsu] at hs
    refine hs.mono ?_
    rintro e w' ⟨k, v, rfl, hv⟩
    rw [if_pos rfl, ← hcR] at hv
    exact ⟨k, v, rfl, hv⟩)
  have HCR := Lib.hid hcR
  clear hcR hsu
  go_upto_region 13 with fail
  go_cut [17, 18] (fun s17 s18 wx => ∃ (P17 : Nat) (nv gv : Value), s17 = .pointer (some ⟨P17, 0, none⟩) ∧ s18 = .int .i64 0 ∧ Blk wx P17 75 #[.int .i64 cR.n, .int .u16 (sv cR.byz), .int .i64 cR.src, nv, gv] ∧ HasC wx cR (.agg #[.int .i64 cR.n, .int .u16 (sv cR.byz), .int .i64 cR.src, nv, gv]) ∧ Blk wx P15 75 #[.int .i64 n, .int .u16 (sv byz), .int .i64 source, .slice an1 nas1.length cn1, .slice ag1 st.flight.length cg1] ∧ Keeps W13 wx)
  case first =>
    have J := (Keeps.refl W13).drew
    have hX := HX.out.keep J
    refine wp_region_held_drew (S := (fun w' => w'.cell? ⟨P15, 0, none⟩ = some (.int .i64 n) ∧ w'.cell? ⟨P15, 1, none⟩ = some (.int .u16 (sv byz)) ∧ w'.cell? ⟨P15, 2, none⟩ = some (.int .i64 source) ∧ w'.cell? ⟨P15, 3, none⟩ = some (.slice an1 nas1.length cn1) ∧ w'.cell? ⟨P15, 4, none⟩ = some (.slice ag1 st.flight.length cg1))) (by kernel_rfl) ?_ (fun hHeld => ?_)
    · exact ⟨(hX.cell 0 rfl), (hX.cell 1 rfl), (hX.cell 2 rfl), (hX.cell 3 rfl), (hX.cell 4 rfl)⟩
    generalize W13.drew = V0 at *
    refine wpAnyH_take (i := 0) (oi := ⟨_, _, _, _, _, _⟩) (v := ?_) rfl (by kernel_rfl) (by kernel_rfl) (by kernel_rfl) (fun _ _ _ h => h) (Or.inl ⟨by rfl, ?_⟩) (by assumption) ?_
    rotate_left 1
    · intro w hSw; (try dsimp only at hSw); go_simp <;> with_reducible rfl
    (try simp only [Act.put]); (try simp only [List.setIfInBounds_toArray]); (try simp only [List.set_cons_succ]); (try simp only [List.set_cons_zero])
    refine wpAnyH_take (i := 2) (oi := ⟨_, _, _, _, _, _⟩) (v := ?_) rfl (by kernel_rfl) (by kernel_rfl) (by kernel_rfl) (fun _ _ _ h => h) (Or.inl ⟨by rfl, ?_⟩) (by assumption) ?_
    rotate_left 1
    · intro w hSw; (try dsimp only at hSw); go_simp <;> with_reducible rfl
    (try simp only [Act.put]); (try simp only [List.setIfInBounds_toArray]); (try simp only [List.set_cons_succ]); (try simp only [List.set_cons_zero])
    refine wpAnyH_take (i := 4) (oi := ⟨_, _, _, _, _, _⟩) (v := ?_) rfl (by kernel_rfl) (by kernel_rfl) (by kernel_rfl) (fun _ _ _ h => h) (Or.inl ⟨by rfl, ?_⟩) (by assumption) ?_
    rotate_left 1
    · intro w hSw; (try dsimp only at hSw); go_simp <;> with_reducible rfl
    (try simp only [Act.put]); (try simp only [List.setIfInBounds_toArray]); (try simp only [List.set_cons_succ]); (try simp only [List.set_cons_zero])
    refine wpAnyH_ready (rs := [1, 9]) (by kernel_rfl) (by simp) ?_
    refine AllReadyH.cons (o := ⟨_, _, _, _, _, _⟩) rfl (fun K hK => ?_) (AllReadyH.cons (o := ⟨_, _, _, _, _, _⟩) rfl (fun K hK => ?_) AllReadyH.nil)
    · go_simp
      refine (HCf.out V0 J).mono ?_
      rintro e V1 ⟨cvf, rfl, hO, kk⟩
      have hOf : Own 31 1 V0 V1 cvf f.length (sl f) := ⟨hO, kk⟩
      clear hO
      obtain ⟨af, cf, rfl, rf⟩ := hOf.rd
      replace hX := hX.keep kk
      replace J := J.trans kk
      clear kk hOf
      refine hK.out _ _ ?_ (fun hHeld => ?_)
      · exact ⟨(hX.cell 0 rfl), (hX.cell 1 rfl), (hX.cell 2 rfl), (hX.cell 3 rfl), (hX.cell 4 rfl)⟩
      clear hK K
      (try simp only [Act.put]); (try simp only [List.setIfInBounds_toArray]); (try simp only [List.set_cons_succ]); (try simp only [List.set_cons_zero])
      refine wpAnyH_ready (rs := [3, 9]) (by kernel_rfl) (by simp) ?_
      refine AllReadyH.cons (o := ⟨_, _, _, _, _, _⟩) rfl (fun K hK => ?_) (AllReadyH.cons (o := ⟨_, _, _, _, _, _⟩) rfl (fun K hK => ?_) AllReadyH.nil)
      · go_simp
        refine (HCb.out V1 J).mono ?_
        rintro e V2 ⟨cvb, rfl, hO, kk⟩
        have hOb : Own 31 1 V1 V2 cvb b.length (sl b) := ⟨hO, kk⟩
        clear hO
        obtain ⟨ab, cb, rfl, rb⟩ := hOb.rd
        replace hX := hX.keep kk
        replace J := J.trans kk
        replace rf := rf.keep kk
        clear kk hOb
        refine hK.out _ _ ?_ (fun hHeld => ?_)
        · exact ⟨(hX.cell 0 rfl), (hX.cell 1 rfl), (hX.cell 2 rfl), (hX.cell 3 rfl), (hX.cell 4 rfl)⟩
        clear hK K
        (try simp only [Act.put]); (try simp only [List.setIfInBounds_toArray]); (try simp only [List.set_cons_succ]); (try simp only [List.set_cons_zero])
        refine wpAnyH_ready (rs := [5, 9]) (by kernel_rfl) (by simp) ?_
        refine AllReadyH.cons (o := ⟨_, _, _, _, _, _⟩) rfl (fun K hK => ?_) (AllReadyH.cons (o := ⟨_, _, _, _, _, _⟩) rfl (fun K hK => ?_) AllReadyH.nil)
        · go_simp
          refine (HSET.out V2 J _ _ _ _ rf rb).mono ?_
          rintro e V3 ⟨kk, vr, rfl, hrun⟩
          replace hrun := hrun.since J
          obtain ⟨nas, nv, gv, rfl, q1, q2, q3, q4⟩ := hrun
          obtain ⟨an9, cn9, rfl, _⟩ := q1.rd
          obtain ⟨ag9, cg9, rfl, _⟩ := q2.rd
          have hrun : RunN W13 V3 _ _ := ⟨nas, _, _, rfl, q1, q2, q3, q4⟩
          clear q1 q2 q3 q4
          replace hX := hX.keep kk
          replace J := J.trans kk
          replace rf := rf.keep kk
          replace rb := rb.keep kk
          clear kk
          unfold vCast at hrun ⊢
          refine hK.out _ _ ?_ (fun hHeld => ?_)
          · exact ⟨(hX.cell 0 rfl), (hX.cell 1 rfl), (hX.cell 2 rfl), (hX.cell 3 rfl), (hX.cell 4 rfl)⟩
          clear hK K
          (try simp only [Act.put]); (try simp only [List.setIfInBounds_toArray]); (try simp only [List.set_cons_succ]); (try simp only [List.set_cons_zero])
          refine wpAnyH_take (i := 6) (oi := ⟨_, _, _, _, _, _⟩) (v := ?_) rfl (by kernel_rfl) (by kernel_rfl) (by kernel_rfl) (fun _ _ _ h => h) (Or.inl ⟨by rfl, ?_⟩) (by assumption) ?_
          rotate_left 1
          · intro w hSw; (try dsimp only at hSw); go_simp <;> with_reducible rfl
          (try simp only [Act.put]); (try simp only [List.setIfInBounds_toArray]); (try simp only [List.set_cons_succ]); (try simp only [List.set_cons_zero])
          refine wpAnyH_take (i := 7) (oi := ⟨_, _, _, _, _, _⟩) (v := ?_) rfl (by kernel_rfl) (by kernel_rfl) (by kernel_rfl) (fun _ _ _ h => h) (Or.inl ⟨by rfl, ?_⟩) (by assumption) ?_
          rotate_left 1
          · intro w hSw; (try dsimp only at hSw); go_simp <;> with_reducible rfl
          (try simp only [Act.put]); (try simp only [List.setIfInBounds_toArray]); (try simp only [List.set_cons_succ]); (try simp only [List.set_cons_zero])
          refine wpAnyH_take (i := 8) (oi := ⟨_, _, _, _, _, _⟩) (v := ?_) rfl (by kernel_rfl) (by kernel_rfl) (by kernel_rfl) (fun _ _ _ h => h) (Or.inl ⟨by rfl, ?_⟩) (by assumption) ?_
          rotate_left 1
          · intro w hSw; (try dsimp only at hSw); go_simp <;> with_reducible rfl
          (try simp only [Act.put]); (try simp only [List.setIfInBounds_toArray]); (try simp only [List.set_cons_succ]); (try simp only [List.set_cons_zero])
          refine wpAnyH_ready (rs := [9]) (by kernel_rfl) (by simp) ?_
          refine AllReadyH.cons (o := ⟨_, _, _, _, _, _⟩) rfl (fun K hK => ?_) AllReadyH.nil
          go_simp
          have hP := Blk.new V3 75 #[.int .i64 0, .int .u16 0, .int .i64 0, .slice none 0 0, .slice none 0 0]
          have hlp : W13.heap.size ≤ V3.heap.size := J.size
          have hne : P15 ≠ V3.heap.size := by have := hX.lt; omega
          have kA := (Keeps.refl V3).alloc (.cells #[.int .i64 0, .int .u16 0, .int .i64 0, .slice none 0 0, .slice none 0 0] 75)
          replace hX := hX.keep kA
          replace J := J.trans kA
          replace rf := rf.keep kA
          replace rb := rb.keep kA
          replace hrun := hrun.keep kA
          clear kA
          generalize V3.alloc (.cells #[.int .i64 0, .int .u16 0, .int .i64 0, .slice none 0 0, .slice none 0 0] 75) = V4 at *
          generalize V3.heap.size = P17 at *
          refine hK.out _ _ ?_ (fun hHeld => ?_)
          · exact ⟨(hX.cell 0 rfl), (hX.cell 1 rfl), (hX.cell 2 rfl), (hX.cell 3 rfl), (hX.cell 4 rfl)⟩
          clear hK K
          (try simp only [Act.put]); (try simp only [List.setIfInBounds_toArray]); (try simp only [List.set_cons_succ]); (try simp only [List.set_cons_zero])
          refine wpAnyH_ready (rs := [10]) (by kernel_rfl) (by simp) ?_
          refine AllReadyH.cons (o := ⟨_, _, _, _, _, _⟩) rfl (fun K hK => ?_) AllReadyH.nil
          obtain ⟨y0, y1, y2, y3, y4⟩ := Go.Proofs.YtijknodekomdfaaGreatDoor.c5 hP
          obtain ⟨g0, g1, g2, g3, g4⟩ := f5 hP
          go_simp
          clear y0 y1 y2 y3 y4 g0 g1 g2 g3 g4
          replace hrun := hrun.st5 hP hlp (.int .i64 cR.n) (.int .u16 (sv cR.byz)) (.int .i64 cR.src) (.slice an9 nas.length cn9) (.slice ag9 cR.st.flight.length cg9)
          replace hX := st5_oth hX hne (.int .i64 cR.n) (.int .u16 (sv cR.byz)) (.int .i64 cR.src) (.slice an9 nas.length cn9) (.slice ag9 cR.st.flight.length cg9)
          have hP9 := set5 hP (.int .i64 cR.n) (.int .u16 (sv cR.byz)) (.int .i64 cR.src) (.slice an9 nas.length cn9) (.slice ag9 cR.st.flight.length cg9)
          replace J := keeps_set5 J hlp (.int .i64 cR.n) (.int .u16 (sv cR.byz)) (.int .i64 cR.src) (.slice an9 nas.length cn9) (.slice ag9 cR.st.flight.length cg9)
          replace hP := hP9
          clear hP9 rf rb
          unfold st5 at hX hP hrun J
          generalize ((((V4.setCell ⟨P17, 0, none⟩ (.int .i64 cR.n)).setCell ⟨P17, 1, none⟩ (.int .u16 (sv cR.byz))).setCell ⟨P17, 2, none⟩ (.int .i64 cR.src)).setCell ⟨P17, 3, none⟩ (.slice an9 nas.length cn9)).setCell ⟨P17, 4, none⟩ (.slice ag9 cR.st.flight.length cg9) = VF at *
          refine hK.out _ _ ?_ (fun hHeld => ?_)
          · exact ⟨(hX.cell 0 rfl), (hX.cell 1 rfl), (hX.cell 2 rfl), (hX.cell 3 rfl), (hX.cell 4 rfl)⟩
          clear hK K
          (try simp only [Act.put]); (try simp only [List.setIfInBounds_toArray]); (try simp only [List.set_cons_succ]); (try simp only [List.set_cons_zero])
          refine wpAnyH_take (i := 11) (oi := ⟨_, _, _, _, _, _⟩) (v := ?_) rfl (by kernel_rfl) (by kernel_rfl) (by kernel_rfl) (fun _ _ _ h => h) (Or.inl ⟨by rfl, ?_⟩) (by assumption) ?_
          rotate_left 1
          · intro w hSw; (try dsimp only at hSw); go_simp <;> with_reducible rfl
          (try simp only [Act.put]); (try simp only [List.setIfInBounds_toArray]); (try simp only [List.set_cons_succ]); (try simp only [List.set_cons_zero])
          refine wpAnyH_done (by kernel_rfl) ?_ _
          have HX9 := Lib.hid hX; have HP9 := Lib.hid hP; have HR9 := Lib.hid hrun; have HJ9 := Lib.hid J
          clear hX hP hrun J 
          go_wp2_with fail
          go_meet
          case rel => exact ⟨P17, _, _, rfl, rfl, HP9.out, HR9.out.toC, HX9.out, HJ9.out⟩
        · go_simp
          have hP := Blk.new V2 75 #[.int .i64 0, .int .u16 0, .int .i64 0, .slice none 0 0, .slice none 0 0]
          have hlp : W13.heap.size ≤ V2.heap.size := J.size
          have hne : P15 ≠ V2.heap.size := by have := hX.lt; omega
          have kA := (Keeps.refl V2).alloc (.cells #[.int .i64 0, .int .u16 0, .int .i64 0, .slice none 0 0, .slice none 0 0] 75)
          replace hX := hX.keep kA
          replace J := J.trans kA
          replace rf := rf.keep kA
          replace rb := rb.keep kA
          clear kA
          generalize V2.alloc (.cells #[.int .i64 0, .int .u16 0, .int .i64 0, .slice none 0 0, .slice none 0 0] 75) = V5 at *
          generalize V2.heap.size = P17 at *
          refine hK.out _ _ ?_ (fun hHeld => ?_)
          · exact ⟨(hX.cell 0 rfl), (hX.cell 1 rfl), (hX.cell 2 rfl), (hX.cell 3 rfl), (hX.cell 4 rfl)⟩
          clear hK K
          (try simp only [Act.put]); (try simp only [List.setIfInBounds_toArray]); (try simp only [List.set_cons_succ]); (try simp only [List.set_cons_zero])
          refine wpAnyH_ready (rs := [5]) (by kernel_rfl) (by simp) ?_
          refine AllReadyH.cons (o := ⟨_, _, _, _, _, _⟩) rfl (fun K hK => ?_) AllReadyH.nil
          go_simp
          refine (HSET.out V5 J _ _ _ _ rf rb).mono ?_
          rintro e V6 ⟨kk, vr, rfl, hrun⟩
          replace hrun := hrun.since J
          obtain ⟨nas, nv, gv, rfl, q1, q2, q3, q4⟩ := hrun
          obtain ⟨an9, cn9, rfl, _⟩ := q1.rd
          obtain ⟨ag9, cg9, rfl, _⟩ := q2.rd
          have hrun : RunN W13 V6 _ _ := ⟨nas, _, _, rfl, q1, q2, q3, q4⟩
          clear q1 q2 q3 q4
          replace hX := hX.keep kk
          replace J := J.trans kk
          replace rf := rf.keep kk
          replace rb := rb.keep kk
          replace hP := hP.keep kk
          clear kk
          unfold vCast at hrun ⊢
          refine hK.out _ _ ?_ (fun hHeld => ?_)
          · exact ⟨(hX.cell 0 rfl), (hX.cell 1 rfl), (hX.cell 2 rfl), (hX.cell 3 rfl), (hX.cell 4 rfl)⟩
          clear hK K
          (try simp only [Act.put]); (try simp only [List.setIfInBounds_toArray]); (try simp only [List.set_cons_succ]); (try simp only [List.set_cons_zero])
          refine wpAnyH_take (i := 6) (oi := ⟨_, _, _, _, _, _⟩) (v := ?_) rfl (by kernel_rfl) (by kernel_rfl) (by kernel_rfl) (fun _ _ _ h => h) (Or.inl ⟨by rfl, ?_⟩) (by assumption) ?_
          rotate_left 1
          · intro w hSw; (try dsimp only at hSw); go_simp <;> with_reducible rfl
          (try simp only [Act.put]); (try simp only [List.setIfInBounds_toArray]); (try simp only [List.set_cons_succ]); (try simp only [List.set_cons_zero])
          refine wpAnyH_take (i := 7) (oi := ⟨_, _, _, _, _, _⟩) (v := ?_) rfl (by kernel_rfl) (by kernel_rfl) (by kernel_rfl) (fun _ _ _ h => h) (Or.inl ⟨by rfl, ?_⟩) (by assumption) ?_
          rotate_left 1
          · intro w hSw; (try dsimp only at hSw); go_simp <;> with_reducible rfl
          (try simp only [Act.put]); (try simp only [List.setIfInBounds_toArray]); (try simp only [List.set_cons_succ]); (try simp only [List.set_cons_zero])
          refine wpAnyH_take (i := 8) (oi := ⟨_, _, _, _, _, _⟩) (v := ?_) rfl (by kernel_rfl) (by kernel_rfl) (by kernel_rfl) (fun _ _ _ h => h) (Or.inl ⟨by rfl, ?_⟩) (by assumption) ?_
          rotate_left 1
          · intro w hSw; (try dsimp only at hSw); go_simp <;> with_reducible rfl
          (try simp only [Act.put]); (try simp only [List.setIfInBounds_toArray]); (try simp only [List.set_cons_succ]); (try simp only [List.set_cons_zero])
          refine wpAnyH_ready (rs := [10]) (by kernel_rfl) (by simp) ?_
          refine AllReadyH.cons (o := ⟨_, _, _, _, _, _⟩) rfl (fun K hK => ?_) AllReadyH.nil
          obtain ⟨y0, y1, y2, y3, y4⟩ := Go.Proofs.YtijknodekomdfaaGreatDoor.c5 hP
          obtain ⟨g0, g1, g2, g3, g4⟩ := f5 hP
          go_simp
          clear y0 y1 y2 y3 y4 g0 g1 g2 g3 g4
          replace hrun := hrun.st5 hP hlp (.int .i64 cR.n) (.int .u16 (sv cR.byz)) (.int .i64 cR.src) (.slice an9 nas.length cn9) (.slice ag9 cR.st.flight.length cg9)
          replace hX := st5_oth hX hne (.int .i64 cR.n) (.int .u16 (sv cR.byz)) (.int .i64 cR.src) (.slice an9 nas.length cn9) (.slice ag9 cR.st.flight.length cg9)
          have hP9 := set5 hP (.int .i64 cR.n) (.int .u16 (sv cR.byz)) (.int .i64 cR.src) (.slice an9 nas.length cn9) (.slice ag9 cR.st.flight.length cg9)
          replace J := keeps_set5 J hlp (.int .i64 cR.n) (.int .u16 (sv cR.byz)) (.int .i64 cR.src) (.slice an9 nas.length cn9) (.slice ag9 cR.st.flight.length cg9)
          replace hP := hP9
          clear hP9 rf rb
          unfold st5 at hX hP hrun J
          generalize ((((V6.setCell ⟨P17, 0, none⟩ (.int .i64 cR.n)).setCell ⟨P17, 1, none⟩ (.int .u16 (sv cR.byz))).setCell ⟨P17, 2, none⟩ (.int .i64 cR.src)).setCell ⟨P17, 3, none⟩ (.slice an9 nas.length cn9)).setCell ⟨P17, 4, none⟩ (.slice ag9 cR.st.flight.length cg9) = VF at *
          refine hK.out _ _ ?_ (fun hHeld => ?_)
          · exact ⟨(hX.cell 0 rfl), (hX.cell 1 rfl), (hX.cell 2 rfl), (hX.cell 3 rfl), (hX.cell 4 rfl)⟩
          clear hK K
          (try simp only [Act.put]); (try simp only [List.setIfInBounds_toArray]); (try simp only [List.set_cons_succ]); (try simp only [List.set_cons_zero])
          refine wpAnyH_take (i := 11) (oi := ⟨_, _, _, _, _, _⟩) (v := ?_) rfl (by kernel_rfl) (by kernel_rfl) (by kernel_rfl) (fun _ _ _ h => h) (Or.inl ⟨by rfl, ?_⟩) (by assumption) ?_
          rotate_left 1
          · intro w hSw; (try dsimp only at hSw); go_simp <;> with_reducible rfl
          (try simp only [Act.put]); (try simp only [List.setIfInBounds_toArray]); (try simp only [List.set_cons_succ]); (try simp only [List.set_cons_zero])
          refine wpAnyH_done (by kernel_rfl) ?_ _
          have HX9 := Lib.hid hX; have HP9 := Lib.hid hP; have HR9 := Lib.hid hrun; have HJ9 := Lib.hid J
          clear hX hP hrun J 
          go_wp2_with fail
          go_meet
          case rel => exact ⟨P17, _, _, rfl, rfl, HP9.out, HR9.out.toC, HX9.out, HJ9.out⟩
      · go_simp
        have hP := Blk.new V1 75 #[.int .i64 0, .int .u16 0, .int .i64 0, .slice none 0 0, .slice none 0 0]
        have hlp : W13.heap.size ≤ V1.heap.size := J.size
        have hne : P15 ≠ V1.heap.size := by have := hX.lt; omega
        have kA := (Keeps.refl V1).alloc (.cells #[.int .i64 0, .int .u16 0, .int .i64 0, .slice none 0 0, .slice none 0 0] 75)
        replace hX := hX.keep kA
        replace J := J.trans kA
        replace rf := rf.keep kA
        clear kA
        generalize V1.alloc (.cells #[.int .i64 0, .int .u16 0, .int .i64 0, .slice none 0 0, .slice none 0 0] 75) = V7 at *
        generalize V1.heap.size = P17 at *
        refine hK.out _ _ ?_ (fun hHeld => ?_)
        · exact ⟨(hX.cell 0 rfl), (hX.cell 1 rfl), (hX.cell 2 rfl), (hX.cell 3 rfl), (hX.cell 4 rfl)⟩
        clear hK K
        (try simp only [Act.put]); (try simp only [List.setIfInBounds_toArray]); (try simp only [List.set_cons_succ]); (try simp only [List.set_cons_zero])
        refine wpAnyH_ready (rs := [3]) (by kernel_rfl) (by simp) ?_
        refine AllReadyH.cons (o := ⟨_, _, _, _, _, _⟩) rfl (fun K hK => ?_) AllReadyH.nil
        go_simp
        refine (HCb.out V7 J).mono ?_
        rintro e V8 ⟨cvb, rfl, hO, kk⟩
        have hOb : Own 31 1 V7 V8 cvb b.length (sl b) := ⟨hO, kk⟩
        clear hO
        obtain ⟨ab, cb, rfl, rb⟩ := hOb.rd
        replace hX := hX.keep kk
        replace J := J.trans kk
        replace rf := rf.keep kk
        replace hP := hP.keep kk
        clear kk hOb
        refine hK.out _ _ ?_ (fun hHeld => ?_)
        · exact ⟨(hX.cell 0 rfl), (hX.cell 1 rfl), (hX.cell 2 rfl), (hX.cell 3 rfl), (hX.cell 4 rfl)⟩
        clear hK K
        (try simp only [Act.put]); (try simp only [List.setIfInBounds_toArray]); (try simp only [List.set_cons_succ]); (try simp only [List.set_cons_zero])
        refine wpAnyH_ready (rs := [5]) (by kernel_rfl) (by simp) ?_
        refine AllReadyH.cons (o := ⟨_, _, _, _, _, _⟩) rfl (fun K hK => ?_) AllReadyH.nil
        go_simp
        refine (HSET.out V8 J _ _ _ _ rf rb).mono ?_
        rintro e V9 ⟨kk, vr, rfl, hrun⟩
        replace hrun := hrun.since J
        obtain ⟨nas, nv, gv, rfl, q1, q2, q3, q4⟩ := hrun
        obtain ⟨an9, cn9, rfl, _⟩ := q1.rd
        obtain ⟨ag9, cg9, rfl, _⟩ := q2.rd
        have hrun : RunN W13 V9 _ _ := ⟨nas, _, _, rfl, q1, q2, q3, q4⟩
        clear q1 q2 q3 q4
        replace hX := hX.keep kk
        replace J := J.trans kk
        replace rf := rf.keep kk
        replace hP := hP.keep kk
        replace rb := rb.keep kk
        clear kk
        unfold vCast at hrun ⊢
        refine hK.out _ _ ?_ (fun hHeld => ?_)
        · exact ⟨(hX.cell 0 rfl), (hX.cell 1 rfl), (hX.cell 2 rfl), (hX.cell 3 rfl), (hX.cell 4 rfl)⟩
        clear hK K
        (try simp only [Act.put]); (try simp only [List.setIfInBounds_toArray]); (try simp only [List.set_cons_succ]); (try simp only [List.set_cons_zero])
        refine wpAnyH_take (i := 6) (oi := ⟨_, _, _, _, _, _⟩) (v := ?_) rfl (by kernel_rfl) (by kernel_rfl) (by kernel_rfl) (fun _ _ _ h => h) (Or.inl ⟨by rfl, ?_⟩) (by assumption) ?_
        rotate_left 1
        · intro w hSw; (try dsimp only at hSw); go_simp <;> with_reducible rfl
        (try simp only [Act.put]); (try simp only [List.setIfInBounds_toArray]); (try simp only [List.set_cons_succ]); (try simp only [List.set_cons_zero])
        refine wpAnyH_take (i := 7) (oi := ⟨_, _, _, _, _, _⟩) (v := ?_) rfl (by kernel_rfl) (by kernel_rfl) (by kernel_rfl) (fun _ _ _ h => h) (Or.inl ⟨by rfl, ?_⟩) (by assumption) ?_
        rotate_left 1
        · intro w hSw; (try dsimp only at hSw); go_simp <;> with_reducible rfl
        (try simp only [Act.put]); (try simp only [List.setIfInBounds_toArray]); (try simp only [List.set_cons_succ]); (try simp only [List.set_cons_zero])
        refine wpAnyH_take (i := 8) (oi := ⟨_, _, _, _, _, _⟩) (v := ?_) rfl (by kernel_rfl) (by kernel_rfl) (by kernel_rfl) (fun _ _ _ h => h) (Or.inl ⟨by rfl, ?_⟩) (by assumption) ?_
        rotate_left 1
        · intro w hSw; (try dsimp only at hSw); go_simp <;> with_reducible rfl
        (try simp only [Act.put]); (try simp only [List.setIfInBounds_toArray]); (try simp only [List.set_cons_succ]); (try simp only [List.set_cons_zero])
        refine wpAnyH_ready (rs := [10]) (by kernel_rfl) (by simp) ?_
        refine AllReadyH.cons (o := ⟨_, _, _, _, _, _⟩) rfl (fun K hK => ?_) AllReadyH.nil
        obtain ⟨y0, y1, y2, y3, y4⟩ := Go.Proofs.YtijknodekomdfaaGreatDoor.c5 hP
        obtain ⟨g0, g1, g2, g3, g4⟩ := f5 hP
        go_simp
        clear y0 y1 y2 y3 y4 g0 g1 g2 g3 g4
        replace hrun := hrun.st5 hP hlp (.int .i64 cR.n) (.int .u16 (sv cR.byz)) (.int .i64 cR.src) (.slice an9 nas.length cn9) (.slice ag9 cR.st.flight.length cg9)
        replace hX := st5_oth hX hne (.int .i64 cR.n) (.int .u16 (sv cR.byz)) (.int .i64 cR.src) (.slice an9 nas.length cn9) (.slice ag9 cR.st.flight.length cg9)
        have hP9 := set5 hP (.int .i64 cR.n) (.int .u16 (sv cR.byz)) (.int .i64 cR.src) (.slice an9 nas.length cn9) (.slice ag9 cR.st.flight.length cg9)
        replace J := keeps_set5 J hlp (.int .i64 cR.n) (.int .u16 (sv cR.byz)) (.int .i64 cR.src) (.slice an9 nas.length cn9) (.slice ag9 cR.st.flight.length cg9)
        replace hP := hP9
        clear hP9 rf rb
        unfold st5 at hX hP hrun J
        generalize ((((V9.setCell ⟨P17, 0, none⟩ (.int .i64 cR.n)).setCell ⟨P17, 1, none⟩ (.int .u16 (sv cR.byz))).setCell ⟨P17, 2, none⟩ (.int .i64 cR.src)).setCell ⟨P17, 3, none⟩ (.slice an9 nas.length cn9)).setCell ⟨P17, 4, none⟩ (.slice ag9 cR.st.flight.length cg9) = VF at *
        refine hK.out _ _ ?_ (fun hHeld => ?_)
        · exact ⟨(hX.cell 0 rfl), (hX.cell 1 rfl), (hX.cell 2 rfl), (hX.cell 3 rfl), (hX.cell 4 rfl)⟩
        clear hK K
        (try simp only [Act.put]); (try simp only [List.setIfInBounds_toArray]); (try simp only [List.set_cons_succ]); (try simp only [List.set_cons_zero])
        refine wpAnyH_take (i := 11) (oi := ⟨_, _, _, _, _, _⟩) (v := ?_) rfl (by kernel_rfl) (by kernel_rfl) (by kernel_rfl) (fun _ _ _ h => h) (Or.inl ⟨by rfl, ?_⟩) (by assumption) ?_
        rotate_left 1
        · intro w hSw; (try dsimp only at hSw); go_simp <;> with_reducible rfl
        (try simp only [Act.put]); (try simp only [List.setIfInBounds_toArray]); (try simp only [List.set_cons_succ]); (try simp only [List.set_cons_zero])
        refine wpAnyH_done (by kernel_rfl) ?_ _
        have HX9 := Lib.hid hX; have HP9 := Lib.hid hP; have HR9 := Lib.hid hrun; have HJ9 := Lib.hid J
        clear hX hP hrun J 
        go_wp2_with fail
        go_meet
        case rel => exact ⟨P17, _, _, rfl, rfl, HP9.out, HR9.out.toC, HX9.out, HJ9.out⟩
    · go_simp
      have hP := Blk.new V0 75 #[.int .i64 0, .int .u16 0, .int .i64 0, .slice none 0 0, .slice none 0 0]
      have hlp : W13.heap.size ≤ V0.heap.size := J.size
      have hne : P15 ≠ V0.heap.size := by have := hX.lt; omega
      have kA := (Keeps.refl V0).alloc (.cells #[.int .i64 0, .int .u16 0, .int .i64 0, .slice none 0 0, .slice none 0 0] 75)
      replace hX := hX.keep kA
      replace J := J.trans kA
      clear kA
      generalize V0.alloc (.cells #[.int .i64 0, .int .u16 0, .int .i64 0, .slice none 0 0, .slice none 0 0] 75) = V10 at *
      generalize V0.heap.size = P17 at *
      refine hK.out _ _ ?_ (fun hHeld => ?_)
      · exact ⟨(hX.cell 0 rfl), (hX.cell 1 rfl), (hX.cell 2 rfl), (hX.cell 3 rfl), (hX.cell 4 rfl)⟩
      clear hK K
      (try simp only [Act.put]); (try simp only [List.setIfInBounds_toArray]); (try simp only [List.set_cons_succ]); (try simp only [List.set_cons_zero])
      refine wpAnyH_ready (rs := [1]) (by kernel_rfl) (by simp) ?_
      refine AllReadyH.cons (o := ⟨_, _, _, _, _, _⟩) rfl (fun K hK => ?_) AllReadyH.nil
      go_simp
      refine (HCf.out V10 J).mono ?_
      rintro e V11 ⟨cvf, rfl, hO, kk⟩
      have hOf : Own 31 1 V10 V11 cvf f.length (sl f) := ⟨hO, kk⟩
      clear hO
      obtain ⟨af, cf, rfl, rf⟩ := hOf.rd
      replace hX := hX.keep kk
      replace J := J.trans kk
      replace hP := hP.keep kk
      clear kk hOf
      refine hK.out _ _ ?_ (fun hHeld => ?_)
      · exact ⟨(hX.cell 0 rfl), (hX.cell 1 rfl), (hX.cell 2 rfl), (hX.cell 3 rfl), (hX.cell 4 rfl)⟩
      clear hK K
      (try simp only [Act.put]); (try simp only [List.setIfInBounds_toArray]); (try simp only [List.set_cons_succ]); (try simp only [List.set_cons_zero])
      refine wpAnyH_ready (rs := [3]) (by kernel_rfl) (by simp) ?_
      refine AllReadyH.cons (o := ⟨_, _, _, _, _, _⟩) rfl (fun K hK => ?_) AllReadyH.nil
      go_simp
      refine (HCb.out V11 J).mono ?_
      rintro e V12 ⟨cvb, rfl, hO, kk⟩
      have hOb : Own 31 1 V11 V12 cvb b.length (sl b) := ⟨hO, kk⟩
      clear hO
      obtain ⟨ab, cb, rfl, rb⟩ := hOb.rd
      replace hX := hX.keep kk
      replace J := J.trans kk
      replace hP := hP.keep kk
      replace rf := rf.keep kk
      clear kk hOb
      refine hK.out _ _ ?_ (fun hHeld => ?_)
      · exact ⟨(hX.cell 0 rfl), (hX.cell 1 rfl), (hX.cell 2 rfl), (hX.cell 3 rfl), (hX.cell 4 rfl)⟩
      clear hK K
      (try simp only [Act.put]); (try simp only [List.setIfInBounds_toArray]); (try simp only [List.set_cons_succ]); (try simp only [List.set_cons_zero])
      refine wpAnyH_ready (rs := [5]) (by kernel_rfl) (by simp) ?_
      refine AllReadyH.cons (o := ⟨_, _, _, _, _, _⟩) rfl (fun K hK => ?_) AllReadyH.nil
      go_simp
      refine (HSET.out V12 J _ _ _ _ rf rb).mono ?_
      rintro e V13 ⟨kk, vr, rfl, hrun⟩
      replace hrun := hrun.since J
      obtain ⟨nas, nv, gv, rfl, q1, q2, q3, q4⟩ := hrun
      obtain ⟨an9, cn9, rfl, _⟩ := q1.rd
      obtain ⟨ag9, cg9, rfl, _⟩ := q2.rd
      have hrun : RunN W13 V13 _ _ := ⟨nas, _, _, rfl, q1, q2, q3, q4⟩
      clear q1 q2 q3 q4
      replace hX := hX.keep kk
      replace J := J.trans kk
      replace hP := hP.keep kk
      replace rf := rf.keep kk
      replace rb := rb.keep kk
      clear kk
      unfold vCast at hrun ⊢
      refine hK.out _ _ ?_ (fun hHeld => ?_)
      · exact ⟨(hX.cell 0 rfl), (hX.cell 1 rfl), (hX.cell 2 rfl), (hX.cell 3 rfl), (hX.cell 4 rfl)⟩
      clear hK K
      (try simp only [Act.put]); (try simp only [List.setIfInBounds_toArray]); (try simp only [List.set_cons_succ]); (try simp only [List.set_cons_zero])
      refine wpAnyH_take (i := 6) (oi := ⟨_, _, _, _, _, _⟩) (v := ?_) rfl (by kernel_rfl) (by kernel_rfl) (by kernel_rfl) (fun _ _ _ h => h) (Or.inl ⟨by rfl, ?_⟩) (by assumption) ?_
      rotate_left 1
      · intro w hSw; (try dsimp only at hSw); go_simp <;> with_reducible rfl
      (try simp only [Act.put]); (try simp only [List.setIfInBounds_toArray]); (try simp only [List.set_cons_succ]); (try simp only [List.set_cons_zero])
      refine wpAnyH_take (i := 7) (oi := ⟨_, _, _, _, _, _⟩) (v := ?_) rfl (by kernel_rfl) (by kernel_rfl) (by kernel_rfl) (fun _ _ _ h => h) (Or.inl ⟨by rfl, ?_⟩) (by assumption) ?_
      rotate_left 1
      · intro w hSw; (try dsimp only at hSw); go_simp <;> with_reducible rfl
      (try simp only [Act.put]); (try simp only [List.setIfInBounds_toArray]); (try simp only [List.set_cons_succ]); (try simp only [List.set_cons_zero])
      refine wpAnyH_take (i := 8) (oi := ⟨_, _, _, _, _, _⟩) (v := ?_) rfl (by kernel_rfl) (by kernel_rfl) (by kernel_rfl) (fun _ _ _ h => h) (Or.inl ⟨by rfl, ?_⟩) (by assumption) ?_
      rotate_left 1
      · intro w hSw; (try dsimp only at hSw); go_simp <;> with_reducible rfl
      (try simp only [Act.put]); (try simp only [List.setIfInBounds_toArray]); (try simp only [List.set_cons_succ]); (try simp only [List.set_cons_zero])
      refine wpAnyH_ready (rs := [10]) (by kernel_rfl) (by simp) ?_
      refine AllReadyH.cons (o := ⟨_, _, _, _, _, _⟩) rfl (fun K hK => ?_) AllReadyH.nil
      obtain ⟨y0, y1, y2, y3, y4⟩ := Go.Proofs.YtijknodekomdfaaGreatDoor.c5 hP
      obtain ⟨g0, g1, g2, g3, g4⟩ := f5 hP
      go_simp
      clear y0 y1 y2 y3 y4 g0 g1 g2 g3 g4
      replace hrun := hrun.st5 hP hlp (.int .i64 cR.n) (.int .u16 (sv cR.byz)) (.int .i64 cR.src) (.slice an9 nas.length cn9) (.slice ag9 cR.st.flight.length cg9)
      replace hX := st5_oth hX hne (.int .i64 cR.n) (.int .u16 (sv cR.byz)) (.int .i64 cR.src) (.slice an9 nas.length cn9) (.slice ag9 cR.st.flight.length cg9)
      have hP9 := set5 hP (.int .i64 cR.n) (.int .u16 (sv cR.byz)) (.int .i64 cR.src) (.slice an9 nas.length cn9) (.slice ag9 cR.st.flight.length cg9)
      replace J := keeps_set5 J hlp (.int .i64 cR.n) (.int .u16 (sv cR.byz)) (.int .i64 cR.src) (.slice an9 nas.length cn9) (.slice ag9 cR.st.flight.length cg9)
      replace hP := hP9
      clear hP9 rf rb
      unfold st5 at hX hP hrun J
      generalize ((((V13.setCell ⟨P17, 0, none⟩ (.int .i64 cR.n)).setCell ⟨P17, 1, none⟩ (.int .u16 (sv cR.byz))).setCell ⟨P17, 2, none⟩ (.int .i64 cR.src)).setCell ⟨P17, 3, none⟩ (.slice an9 nas.length cn9)).setCell ⟨P17, 4, none⟩ (.slice ag9 cR.st.flight.length cg9) = VF at *
      refine hK.out _ _ ?_ (fun hHeld => ?_)
      · exact ⟨(hX.cell 0 rfl), (hX.cell 1 rfl), (hX.cell 2 rfl), (hX.cell 3 rfl), (hX.cell 4 rfl)⟩
      clear hK K
      (try simp only [Act.put]); (try simp only [List.setIfInBounds_toArray]); (try simp only [List.set_cons_succ]); (try simp only [List.set_cons_zero])
      refine wpAnyH_take (i := 11) (oi := ⟨_, _, _, _, _, _⟩) (v := ?_) rfl (by kernel_rfl) (by kernel_rfl) (by kernel_rfl) (fun _ _ _ h => h) (Or.inl ⟨by rfl, ?_⟩) (by assumption) ?_
      rotate_left 1
      · intro w hSw; (try dsimp only at hSw); go_simp <;> with_reducible rfl
      (try simp only [Act.put]); (try simp only [List.setIfInBounds_toArray]); (try simp only [List.set_cons_succ]); (try simp only [List.set_cons_zero])
      refine wpAnyH_done (by kernel_rfl) ?_ _
      have HX9 := Lib.hid hX; have HP9 := Lib.hid hP; have HR9 := Lib.hid hrun; have HJ9 := Lib.hid J
      clear hX hP hrun J 
      go_wp2_with fail
      go_meet
      case rel => exact ⟨P17, _, _, rfl, rfl, HP9.out, HR9.out.toC, HX9.out, HJ9.out⟩
  case rest =>
  obtain ⟨P17, nv, gv, rfl, rfl, hP17, hy, _, J⟩ := hcut
  have hcR := HCR.out
  subst hcR
  dsimp only at hP17 hy
  have HP17 := Lib.hid hP17; have HY := Lib.hid hy; have HT := Lib.hid (HT.out.keep J); have HB := Lib.hid (HB.out.keep J); have HK := Lib.hid (HK.out.trans J)
  clear hP17 hy J HCf HCb HSET HFR HX HV1 HALL HCR
  have hsl : su.nodes.length = n := HSU.out.1
  have hco := consistentC_any wc ⟨n, byz, source, su⟩ _ HY.out (by dsimp only; omega)
  have e1 : consB (delC ⟨n, byz, source, su⟩) = true := HSU.out.2.1
  rw [e1] at hco
  have HCC := Lib.hid hco
  clear hco e1
  obtain ⟨y0, y1, y2, y3, y4⟩ := Go.Proofs.YtijknodekomdfaaGreatDoor.c5 HP17.out
  go_wp2_with fail
  refine HCC.out.mono ?_
  rintro e w14 ⟨rfl, kk⟩
  have HP17 := Lib.hid (HP17.out.keep kk); have HY := Lib.hid (HY.out.keep kk); have HK := Lib.hid (HK.out.trans kk)
  clear HCC kk y0 y1 y2 y3 y4
  have hto := totalC_any w14 ⟨n, byz, source, su⟩ _ HY.out (by dsimp only; omega)
  dsimp only at hto
  rw [HSU.out.2.2.1] at hto
  have HCC := Lib.hid hto
  clear hto
  obtain ⟨y0, y1, y2, y3, y4⟩ := Go.Proofs.YtijknodekomdfaaGreatDoor.c5 HP17.out
  have hb1 := bit1_S byz source
  have hmin : min source 16 = source := by omega
  go_wp2_with fail
  refine HCC.out.mono ?_
  rintro e w15 ⟨rfl, kk⟩
  have HP17 := Lib.hid (HP17.out.keep kk); have HY := Lib.hid (HY.out.keep kk); have HK := Lib.hid (HK.out.trans kk)
  clear HCC kk y0 y1 y2 y3 y4
  cases hbit : byz.getLsbD source with
  | true =>
    rw [hbit] at hb1
    clear hbit
    go_wp2_with fail
    go_ret
    exact ⟨rfl, HK.out⟩
  | false =>
    rw [hbit] at hb1
    have hcor : corr n byz source = true := by unfold corr; rw [hbit, decide_eq_true hsn]; rfl
    have HFIN := Lib.hid (HSU.out.2.2.2 hcor)
    have hd := deliveredC_any w15 ⟨n, byz, source, su⟩ _ HY.out (by dsimp only; omega)
    have HCC := Lib.hid hd
    clear hbit hcor hd
    obtain ⟨y0, y1, y2, y3, y4⟩ := Go.Proofs.YtijknodekomdfaaGreatDoor.c5 HP17.out
    go_wp2_with fail
    refine HCC.out.mono ?_
    rintro e w16 ⟨u, rfl, hO⟩
    obtain ⟨au, cu, rfl, hr⟩ := hO.rd
    have HK := Lib.hid (HK.out.trans hO.2); have HR := Lib.hid hr
    have HDE : Hid ((delC ⟨n, byz, source, su⟩).length + cnt byz = n ∧ ∀ v ∈ delC ⟨n, byz, source, su⟩, v = strX) := HFIN
    generalize delC ⟨n, byz, source, su⟩ = D at *
    have hsz := refSize_any byz w16
    have hcnt := cnt_le byz
    have hle : (D.length : Int) = (n : Int) - (cnt byz : Int) := by have := HDE.out.1; omega
    generalize cnt byz = cz at *
    have HSZ := Lib.hid hsz
    clear hO hr HCC y0 y1 y2 y3 y4 hsz HFIN hb1
    have hcf := containsFuncT_any au D.length cu D w16 38 #[] (fun s => decide (s ≠ strX)) HR.out (enters_of Tryz.func38 (by kernel_rfl) rfl) (fun W c _ _ => neXT_any c W)
    rw [show (D.any fun s => decide (s ≠ strX)) = false from List.any_eq_false.2 fun s hs => by rw [HDE.out.2 s hs]; simp] at hcf
    have HCF := Lib.hid hcf
    have hlb : ((D.length : Int) == (n : Int) - (cz : Int)) = true := by rw [beq_iff_eq]; exact hle
    clear hcf hle HDE
    go_wp2_with fail
    refine HSZ.out.mono ?_
    rintro e w17 ⟨rfl, rfl⟩
    go_wp2_with fail
    refine HCF.out.mono ?_
    rintro e w18 ⟨rfl, kk⟩
    have HKF := Lib.hid (HK.out.trans kk)
    clear kk HCF
    go_wp2_with fail
    go_ret
    exact ⟨rfl, HKF.out⟩
end Go.Proofs.YtijknodekomdfaaGreatDoor
