/- Texts joined into one (wip/bin/pack.py): D39K. -/
import Derived.Test.YtbcfkgolhklkaaaDoorKPA
import Derived.Test.YtbcfkgolhklkaaaDoorKT
/- Chapter 39: Run returns the run that bytes choose. -/
namespace Go.Proofs.YtbcfkgolhklkaaaDoor
open Go.RowKit Go.Lib Go.Shelf

set_option maxHeartbeats 4000000 in
set_option maxRecDepth 20000 in
theorem BroadcastRun_any (k : KA) (ca : Option Addr) (cc : Nat) (chs : List Nat) (w : World) (hT : Tab w) (hk : RdK w k) (hc : Rd w ca chs.length cc 1 (bl chs)) (h256 : ∀ c ∈ chs, c < 256) :
    Calls Tryd.prog 5 #[vK k, .slice ca chs.length cc] w fun e w' => e = .returned (.bool true) ∧ Keeps w w' := by
  have hX := Blk.new w 42 #[.int .u8 k.kN, .int .u8 k.kS, .int .u8 k.kR, .slice k.fa k.lf.length k.fc, .slice k.ba k.lb.length k.bc, .int .u8 k.kZ]
  have kX := (Keeps.refl w).alloc (.cells #[.int .u8 k.kN, .int .u8 k.kS, .int .u8 k.kR, .slice k.fa k.lf.length k.fc, .slice k.ba k.lb.length k.bc, .int .u8 k.kZ] 42)
  have HT := Lib.hid (hT.keep kX); have HKK := Lib.hid (hk.keep kX); have HC := Lib.hid (hc.keep kX); have HX := Lib.hid hX; have HK := Lib.hid kX
  have HAW := Lib.hid (fun W (t : Tab W) => awake39_any W t)
  have H256 := Lib.hid h256
  have hcs : chs.length ≤ 9223372036854775807 := hc.small
  clear hX kX hT hk hc h256
  unfold vK
  by_cases h100 : chs.length > 100
  · go_enter Tryd.func5, Tryd.ntmps5
    go_wp2_with fail
    refine (HAW.out _ HT.out).mono ?_
    rintro e w1 ⟨rfl, k1⟩
    go_wp2_with fail
    refine (HAW.out _ (HT.out.keep k1)).mono ?_
    rintro e w2 ⟨rfl, k2⟩
    have HKF := Lib.hid (HK.out.trans (k1.trans k2))
    clear k1 k2
    go_wp2_with fail
    go_ret
    exact ⟨rfl, HKF.out⟩
  go_enter Tryd.func5, Tryd.ntmps5
  go_wp2_with fail
  refine (HAW.out _ HT.out).mono ?_
  rintro e w1 ⟨rfl, k1⟩
  have HT := Lib.hid (HT.out.keep k1); have HC := Lib.hid (HC.out.keep k1); have HK := Lib.hid (HK.out.trans k1)
  have hmd := made39_any k w1 (HKK.out.keep k1)
  unfold vK at hmd
  have HMD := Lib.hid hmd
  obtain ⟨x0, x1, x2, x3, x4, x5⟩ := (HX.out.keep k1).c6
  clear hmd k1 HKK HX HAW
  go_wp2_with fail
  refine HMD.out.mono ?_
  rintro e w2 ⟨fu, bu, rfl, hF, hB⟩
  obtain ⟨fa, fc, rfl, hf⟩ := hF.rd
  obtain ⟨ba, bc, rfl, hb⟩ := hB.rd
  have hk2 := hF.2
  clear x0 x1 x2 x3 x4 x5 HMD hF hB
  have hlf := mdF_len k
  have hlb := mdB_len k
  generalize mdF k = f at *
  generalize mdB k = b at *
  generalize mdN k = n at *
  generalize mdZ k = byz at *
  generalize mdR k = source at *
  have HT := Lib.hid (HT.out.keep hk2); have hC := HC.out.keep hk2; have HK := Lib.hid (HK.out.trans hk2)
  have hcl := cloneB_any ca cc chs w2 hC (by omega)
  have HCL := Lib.hid hcl
  have HCO := Lib.hid hC
  clear HC hC hk2 hcl
  go_wp2_with fail
  refine HCL.out.mono ?_
  rintro e w3 ⟨cv, rfl, hO⟩
  obtain ⟨cb, cd, rfl, hch⟩ := hO.rd
  have HT := Lib.hid (HT.out.keep hO.2); have HK := Lib.hid (HK.out.trans hO.2)
  have hrun := runC_any w3 fa _ fc f ba _ bc b n byz source cb _ cd chs (hf.keep hO.2) (hb.keep hO.2) hch H256.out (by omega)
  rw [Int.toNat_natCast, Int.toNat_natCast] at hrun
  have HF := Lib.hid (hf.keep hO.2); have HB := Lib.hid (hb.keep hO.2)
  have HRUN := Lib.hid hrun
  have HCO := Lib.hid (HCO.out.keep hO.2)
  have HLF := Lib.hid hlf; have HLB := Lib.hid hlb
  clear HCL hO hch hrun hf hb hlf hlb
  have HRE : Hid (runE f b n byz source chs.length = runE f b n byz source chs.length) := Lib.hid rfl
  generalize her : runE f b n byz source chs.length = er at HRUN
  have HER := Lib.hid her
  clear her HRE
  obtain ⟨st, hst⟩ : ∃ st, st = runS f b n byz (lieL n byz source strX strY) (startS n byz source strX 0) chs := ⟨_, rfl⟩
  rw [← hst] at HRUN
  have HST := Lib.hid hst
  clear hst
  go_wp2_with fail
  refine HRUN.out.mono ?_
  rintro e w4 ⟨k4, v, rfl, hv⟩
  obtain ⟨c9, hc9⟩ : ∃ c : CD, c = (if er = 0 then ⟨n, byz, source, st⟩ else cd0) := ⟨_, rfl⟩
  rw [← hc9] at hv
  have hcl : c9.st.nodes.length ≤ 1000000 ∧ IdC c9 := by
    rw [hc9]
    by_cases he0 : er = 0
    · rw [if_pos he0]
      have hr : RngOk (n : Int) byz (source : Int) := Classical.byContradiction fun h => by have h2 := HER.out; rw [runE_bad h, he0] at h2; cases h2
      obtain ⟨g1, g2, g3, g4, g5⟩ := hr
      have h5 := (run_all (f := f) (b := b) (n := n) (byz := byz) (source := source) (by omega) chs).1.1.1
      rw [← HST.out] at h5
      have h6 := runS_idC (f := f) (b := b) (n := n) (byz := byz) (source := source) (by omega) (by omega) chs
      rw [← HST.out] at h6
      exact ⟨by rw [show (CD.mk n byz source st).st.nodes.length = n from h5]; omega, h6⟩
    · rw [if_neg he0]
      exact ⟨by decide, fun x hx => by cases hx⟩
  have HCL := Lib.hid hcl
  have HC9 := Lib.hid hc9
  clear hcl HRUN hc9
  have HV1 := hv
  obtain ⟨an1, cn1, nas1, ag1, cg1, rfl, _, _, _, _⟩ := hv
  unfold vCast at HV1 ⊢
  have b1 := Blk.new w4 32 #[.int .i64 c9.n, .int .u16 (sv c9.byz), .int .i64 c9.src, .slice an1 nas1.length cn1, .slice ag1 c9.st.flight.length cg1]
  have kb := (Keeps.refl w4).alloc (.cells #[.int .i64 c9.n, .int .u16 (sv c9.byz), .int .i64 c9.src, .slice an1 nas1.length cn1, .slice ag1 c9.st.flight.length cg1] 32)
  have HV1 := Lib.hid (HV1.keep kb); have HB1 := Lib.hid b1
  have HF := Lib.hid ((HF.out.keep k4).keep kb); have HB := Lib.hid ((HB.out.keep k4).keep kb); have HCO := Lib.hid ((HCO.out.keep k4).keep kb); have HK := Lib.hid ((HK.out.trans k4).trans kb)
  clear kb k4 b1
  go_upto_region 5 with fail
  generalize w4.alloc (.cells #[.int .i64 c9.n, .int .u16 (sv c9.byz), .int .i64 c9.src, .slice an1 nas1.length cn1, .slice ag1 c9.st.flight.length cg1] 32) = w5 at *
  generalize w4.heap.size = P1 at *
  have hrr := rrunC_any w5 fa _ fc f ba _ bc b n byz source ca _ cc chs HF.out HB.out HCO.out H256.out (by omega) (by have := HLF.out; omega) (by have := HLB.out; omega)
  rw [HER.out, Int.toNat_natCast, Int.toNat_natCast, ← HST.out] at hrr
  unfold RetC at hrr
  rw [← HC9.out] at hrr
  have HRR := Lib.hid hrr
  clear hrr
  go_wp2_with fail
  refine HRR.out.mono ?_
  rintro e w6 ⟨k6, v, rfl, hv⟩
  clear HRR
  have HV2 := hv
  obtain ⟨an2, cn2, nas2, ag2, cg2, rfl, _, _, _, _⟩ := hv
  unfold vCast at HV2 ⊢
  have b2 := Blk.new w6 32 #[.int .i64 c9.n, .int .u16 (sv c9.byz), .int .i64 c9.src, .slice an2 nas2.length cn2, .slice ag2 c9.st.flight.length cg2]
  have kb := (Keeps.refl w6).alloc (.cells #[.int .i64 c9.n, .int .u16 (sv c9.byz), .int .i64 c9.src, .slice an2 nas2.length cn2, .slice ag2 c9.st.flight.length cg2] 32)
  have HV2 := Lib.hid (HV2.keep kb); have HB2 := Lib.hid b2
  have HV1 := Lib.hid ((HV1.out.keep k6).keep kb); have HB1 := Lib.hid ((HB1.out.keep k6).keep kb); have HK := Lib.hid ((HK.out.trans k6).trans kb)
  clear kb k6 b2
  have hbe : (er == er) = true := beq_self_eq_true er
  go_upto_region 6 with fail
  generalize w6.alloc (.cells #[.int .i64 c9.n, .int .u16 (sv c9.byz), .int .i64 c9.src, .slice an2 nas2.length cn2, .slice ag2 c9.st.flight.length cg2] 32) = w7 at *
  generalize w6.heap.size = P2 at *
  have HS : Hid (∀ w', Keeps w7 w' → w'.cell? ⟨P1, 0, none⟩ = some (.int .i64 c9.n) ∧ w'.cell? ⟨P1, 1, none⟩ = some (.int .u16 (sv c9.byz)) ∧ w'.cell? ⟨P1, 2, none⟩ = some (.int .i64 c9.src) ∧ w'.cell? ⟨P1, 3, none⟩ = some (.slice an1 nas1.length cn1) ∧ w'.cell? ⟨P1, 4, none⟩ = some (.slice ag1 c9.st.flight.length cg1) ∧ w'.cell? ⟨P2, 0, none⟩ = some (.int .i64 c9.n) ∧ w'.cell? ⟨P2, 1, none⟩ = some (.int .u16 (sv c9.byz)) ∧ w'.cell? ⟨P2, 2, none⟩ = some (.int .i64 c9.src) ∧ w'.cell? ⟨P2, 3, none⟩ = some (.slice an2 nas2.length cn2) ∧ w'.cell? ⟨P2, 4, none⟩ = some (.slice ag2 c9.st.flight.length cg2)) := Lib.hid (fun w' J => by
    obtain ⟨p0, p1, p2, p3, p4⟩ := c5 HB1.out
    obtain ⟨q0, q1, q2, q3, q4⟩ := c5 HB2.out
    exact ⟨J.cell p0, J.cell p1, J.cell p2, J.cell p3, J.cell p4, J.cell q0, J.cell q1, J.cell q2, J.cell q3, J.cell q4⟩)
  have hco := fun W v hv => consistentC_any W c9 v hv HCL.out.1
  have hrc := fun W v hv => rconsistentC_any W c9 v hv HCL.out.1 HCL.out.2
  have hto := fun W v hv => totalC_any W c9 v hv HCL.out.1
  have hrt := fun W v hv => rtotalC_any W c9 v hv HCL.out.1 HCL.out.2
  generalize consB (delC c9) = x1 at hco hrc
  generalize totB c9.byz c9.st.nodes = x2 at hto hrt
  have hx1 : (x1 == x1) = true := beq_self_eq_true x1
  have hx2 : (x2 == x2) = true := beq_self_eq_true x2
  have HCO9 := Lib.hid hco; have HRC9 := Lib.hid hrc; have HTO9 := Lib.hid hto; have HRT9 := Lib.hid hrt
  clear hco hrc hto hrt
  have J : Keeps w7 w7.drew := (Keeps.refl w7).drew
  refine wp_region_held_drew (S := (fun w' => w'.cell? ⟨P1, 0, none⟩ = some (.int .i64 c9.n) ∧ w'.cell? ⟨P1, 1, none⟩ = some (.int .u16 (sv c9.byz)) ∧ w'.cell? ⟨P1, 2, none⟩ = some (.int .i64 c9.src) ∧ w'.cell? ⟨P1, 3, none⟩ = some (.slice an1 nas1.length cn1) ∧ w'.cell? ⟨P1, 4, none⟩ = some (.slice ag1 c9.st.flight.length cg1) ∧ w'.cell? ⟨P2, 0, none⟩ = some (.int .i64 c9.n) ∧ w'.cell? ⟨P2, 1, none⟩ = some (.int .u16 (sv c9.byz)) ∧ w'.cell? ⟨P2, 2, none⟩ = some (.int .i64 c9.src) ∧ w'.cell? ⟨P2, 3, none⟩ = some (.slice an2 nas2.length cn2) ∧ w'.cell? ⟨P2, 4, none⟩ = some (.slice ag2 c9.st.flight.length cg2))) (by kernel_rfl) ?_ (fun hHeld => ?_)
  · exact HS.out _ J
  generalize w7.drew = V0 at *
  refine wpAnyH_take (i := 0) (oi := ⟨_, _, _, _, _, _⟩) (v := ?_) rfl (by kernel_rfl) (by kernel_rfl) (by kernel_rfl) (fun _ _ _ h => h) (Or.inl ⟨by rfl, ?_⟩) (by assumption) ?_
  rotate_left 1
  · intro w hSw; (try dsimp only at hSw); go_simp <;> with_reducible rfl
  (try simp only [Act.put]); (try simp only [List.setIfInBounds_toArray]); (try simp only [List.set_cons_succ]); (try simp only [List.set_cons_zero])
  refine wpAnyH_take (i := 1) (oi := ⟨_, _, _, _, _, _⟩) (v := ?_) rfl (by kernel_rfl) (by kernel_rfl) (by kernel_rfl) (fun _ _ _ h => h) (Or.inl ⟨by rfl, ?_⟩) (by assumption) ?_
  rotate_left 1
  · intro w hSw; (try dsimp only at hSw); go_simp <;> with_reducible rfl
  (try simp only [Act.put]); (try simp only [List.setIfInBounds_toArray]); (try simp only [List.set_cons_succ]); (try simp only [List.set_cons_zero])
  refine wpAnyH_take (i := 2) (oi := ⟨_, _, _, _, _, _⟩) (v := ?_) rfl (by kernel_rfl) (by kernel_rfl) (by kernel_rfl) (fun _ _ _ h => h) (Or.inl ⟨by rfl, ?_⟩) (by assumption) ?_
  rotate_left 1
  · intro w hSw; (try dsimp only at hSw); go_simp <;> with_reducible rfl
  (try simp only [Act.put]); (try simp only [List.setIfInBounds_toArray]); (try simp only [List.set_cons_succ]); (try simp only [List.set_cons_zero])
  refine wpAnyH_take (i := 3) (oi := ⟨_, _, _, _, _, _⟩) (v := ?_) rfl (by kernel_rfl) (by kernel_rfl) (by kernel_rfl) (fun _ _ _ h => h) (Or.inl ⟨by rfl, ?_⟩) (by assumption) ?_
  rotate_left 1
  · intro w hSw; (try dsimp only at hSw); go_simp <;> with_reducible rfl
  (try simp only [Act.put]); (try simp only [List.setIfInBounds_toArray]); (try simp only [List.set_cons_succ]); (try simp only [List.set_cons_zero])
  refine wpAnyH_take (i := 4) (oi := ⟨_, _, _, _, _, _⟩) (v := ?_) rfl (by kernel_rfl) (by kernel_rfl) (by kernel_rfl) (fun _ _ _ h => h) (Or.inl ⟨by rfl, ?_⟩) (by assumption) ?_
  rotate_left 1
  · intro w hSw; (try dsimp only at hSw); go_simp <;> with_reducible rfl
  (try simp only [Act.put]); (try simp only [List.setIfInBounds_toArray]); (try simp only [List.set_cons_succ]); (try simp only [List.set_cons_zero])
  refine wpAnyH_take (i := 5) (oi := ⟨_, _, _, _, _, _⟩) (v := ?_) rfl (by kernel_rfl) (by kernel_rfl) (by kernel_rfl) (fun _ _ _ h => h) (Or.inl ⟨by rfl, ?_⟩) (by assumption) ?_
  rotate_left 1
  · intro w hSw; (try dsimp only at hSw); go_simp <;> with_reducible rfl
  (try simp only [Act.put]); (try simp only [List.setIfInBounds_toArray]); (try simp only [List.set_cons_succ]); (try simp only [List.set_cons_zero])
  refine wpAnyH_ready (rs := [6]) (by kernel_rfl) (by simp) ?_
  refine AllReadyH.cons (o := ⟨_, _, _, _, _, _⟩) rfl (fun K hK => ?_) AllReadyH.nil
  go_simp
  have hc := requal_same c9 _ _ V0 (HV1.out.keep J) (HV2.out.keep J)
  refine hc.mono ?_
  rintro e V1 ⟨rfl, k1⟩
  clear hc
  replace J := J.trans k1
  clear k1
  refine hK.out _ _ ?_ (fun hHeld => ?_)
  · exact HS.out _ J
  clear hK K
  (try simp only [Act.put]); (try simp only [List.setIfInBounds_toArray]); (try simp only [List.set_cons_succ]); (try simp only [List.set_cons_zero])
  refine wpAnyH_take (i := 7) (oi := ⟨_, _, _, _, _, _⟩) (v := ?_) rfl (by kernel_rfl) (by kernel_rfl) (by kernel_rfl) (fun _ _ _ h => h) (Or.inl ⟨by rfl, ?_⟩) (by assumption) ?_
  rotate_left 1
  · intro w hSw; (try dsimp only at hSw); go_simp <;> with_reducible rfl
  (try simp only [Act.put]); (try simp only [List.setIfInBounds_toArray]); (try simp only [List.set_cons_succ]); (try simp only [List.set_cons_zero])
  refine wpAnyH_take (i := 8) (oi := ⟨_, _, _, _, _, _⟩) (v := ?_) rfl (by kernel_rfl) (by kernel_rfl) (by kernel_rfl) (fun _ _ _ h => h) (Or.inl ⟨by rfl, ?_⟩) (by assumption) ?_
  rotate_left 1
  · intro w hSw; (try dsimp only at hSw); go_simp <;> with_reducible rfl
  (try simp only [Act.put]); (try simp only [List.setIfInBounds_toArray]); (try simp only [List.set_cons_succ]); (try simp only [List.set_cons_zero])
  refine wpAnyH_take (i := 9) (oi := ⟨_, _, _, _, _, _⟩) (v := ?_) rfl (by kernel_rfl) (by kernel_rfl) (by kernel_rfl) (fun _ _ _ h => h) (Or.inl ⟨by rfl, ?_⟩) (by assumption) ?_
  rotate_left 1
  · intro w hSw; (try dsimp only at hSw); go_simp <;> with_reducible rfl
  (try simp only [Act.put]); (try simp only [List.setIfInBounds_toArray]); (try simp only [List.set_cons_succ]); (try simp only [List.set_cons_zero])
  refine wpAnyH_take (i := 11) (oi := ⟨_, _, _, _, _, _⟩) (v := ?_) rfl (by kernel_rfl) (by kernel_rfl) (by kernel_rfl) (fun _ _ _ h => h) (Or.inl ⟨by rfl, ?_⟩) (by assumption) ?_
  rotate_left 1
  · intro w hSw; (try dsimp only at hSw); go_simp <;> with_reducible rfl
  (try simp only [Act.put]); (try simp only [List.setIfInBounds_toArray]); (try simp only [List.set_cons_succ]); (try simp only [List.set_cons_zero])
  refine wpAnyH_ready (rs := [10]) (by kernel_rfl) (by simp) ?_
  refine AllReadyH.cons (o := ⟨_, _, _, _, _, _⟩) rfl (fun K hK => ?_) AllReadyH.nil
  go_simp
  have hc := deliveredC_any V1 c9 _ (HV1.out.keep J) HCL.out.1
  refine hc.mono ?_
  rintro e V2 ⟨u1, rfl, hO1⟩
  clear hc
  obtain ⟨a1, c1, rfl, r1⟩ := hO1.rd
  replace J := J.trans hO1.2
  clear hO1
  refine hK.out _ _ ?_ (fun hHeld => ?_)
  · exact HS.out _ J
  clear hK K
  (try simp only [Act.put]); (try simp only [List.setIfInBounds_toArray]); (try simp only [List.set_cons_succ]); (try simp only [List.set_cons_zero])
  refine wpAnyH_ready (rs := [12]) (by kernel_rfl) (by simp) ?_
  refine AllReadyH.cons (o := ⟨_, _, _, _, _, _⟩) rfl (fun K hK => ?_) AllReadyH.nil
  go_simp
  have hc := rdeliveredC_any V2 c9 _ (HV2.out.keep J) HCL.out.1 HCL.out.2
  refine hc.mono ?_
  rintro e V3 ⟨u2, rfl, hO2⟩
  clear hc
  obtain ⟨a2, c2, rfl, r2⟩ := hO2.rd
  replace r1 := r1.keep hO2.2
  replace J := J.trans hO2.2
  clear hO2
  refine hK.out _ _ ?_ (fun hHeld => ?_)
  · exact HS.out _ J
  clear hK K
  (try simp only [Act.put]); (try simp only [List.setIfInBounds_toArray]); (try simp only [List.set_cons_succ]); (try simp only [List.set_cons_zero])
  refine wpAnyH_ready (rs := [13]) (by kernel_rfl) (by simp) ?_
  refine AllReadyH.cons (o := ⟨_, _, _, _, _, _⟩) rfl (fun K hK => ?_) AllReadyH.nil
  go_simp
  have hc := equalT_any a1 _ c1 _ a2 _ c2 _ V3 r1 r2
  rw [show eqT (delC c9) (delC c9) = true from decide_eq_true rfl] at hc
  refine hc.mono ?_
  rintro e V4 ⟨rfl, k1⟩
  clear hc r1 r2
  replace J := J.trans k1
  clear k1
  refine hK.out _ _ ?_ (fun hHeld => ?_)
  · exact HS.out _ J
  clear hK K
  (try simp only [Act.put]); (try simp only [List.setIfInBounds_toArray]); (try simp only [List.set_cons_succ]); (try simp only [List.set_cons_zero])
  refine wpAnyH_take (i := 14) (oi := ⟨_, _, _, _, _, _⟩) (v := ?_) rfl (by kernel_rfl) (by kernel_rfl) (by kernel_rfl) (fun _ _ _ h => h) (Or.inl ⟨by rfl, ?_⟩) (by assumption) ?_
  rotate_left 1
  · intro w hSw; (try dsimp only at hSw); go_simp <;> with_reducible rfl
  (try simp only [Act.put]); (try simp only [List.setIfInBounds_toArray]); (try simp only [List.set_cons_succ]); (try simp only [List.set_cons_zero])
  refine wpAnyH_take (i := 15) (oi := ⟨_, _, _, _, _, _⟩) (v := ?_) rfl (by kernel_rfl) (by kernel_rfl) (by kernel_rfl) (fun _ _ _ h => h) (Or.inl ⟨by rfl, ?_⟩) (by assumption) ?_
  rotate_left 1
  · intro w hSw; (try dsimp only at hSw); go_simp <;> with_reducible rfl
  (try simp only [Act.put]); (try simp only [List.setIfInBounds_toArray]); (try simp only [List.set_cons_succ]); (try simp only [List.set_cons_zero])
  refine wpAnyH_take (i := 16) (oi := ⟨_, _, _, _, _, _⟩) (v := ?_) rfl (by kernel_rfl) (by kernel_rfl) (by kernel_rfl) (fun _ _ _ h => h) (Or.inl ⟨by rfl, ?_⟩) (by assumption) ?_
  rotate_left 1
  · intro w hSw; (try dsimp only at hSw); go_simp <;> with_reducible rfl
  (try simp only [Act.put]); (try simp only [List.setIfInBounds_toArray]); (try simp only [List.set_cons_succ]); (try simp only [List.set_cons_zero])
  refine wpAnyH_take (i := 18) (oi := ⟨_, _, _, _, _, _⟩) (v := ?_) rfl (by kernel_rfl) (by kernel_rfl) (by kernel_rfl) (fun _ _ _ h => h) (Or.inl ⟨by rfl, ?_⟩) (by assumption) ?_
  rotate_left 1
  · intro w hSw; (try dsimp only at hSw); go_simp <;> with_reducible rfl
  (try simp only [Act.put]); (try simp only [List.setIfInBounds_toArray]); (try simp only [List.set_cons_succ]); (try simp only [List.set_cons_zero])
  refine wpAnyH_ready (rs := [17]) (by kernel_rfl) (by simp) ?_
  refine AllReadyH.cons (o := ⟨_, _, _, _, _, _⟩) rfl (fun K hK => ?_) AllReadyH.nil
  go_simp
  have hc := HCO9.out V4 _ (HV1.out.keep J)
  refine hc.mono ?_
  rintro e V5 ⟨rfl, k1⟩
  clear hc
  replace J := J.trans k1
  clear k1
  refine hK.out _ _ ?_ (fun hHeld => ?_)
  · exact HS.out _ J
  clear hK K
  (try simp only [Act.put]); (try simp only [List.setIfInBounds_toArray]); (try simp only [List.set_cons_succ]); (try simp only [List.set_cons_zero])
  refine wpAnyH_ready (rs := [19]) (by kernel_rfl) (by simp) ?_
  refine AllReadyH.cons (o := ⟨_, _, _, _, _, _⟩) rfl (fun K hK => ?_) AllReadyH.nil
  go_simp
  have hc := HRC9.out V5 _ (HV2.out.keep J)
  refine hc.mono ?_
  rintro e V6 ⟨rfl, k1⟩
  clear hc
  replace J := J.trans k1
  clear k1
  refine hK.out _ _ ?_ (fun hHeld => ?_)
  · exact HS.out _ J
  clear hK K
  (try simp only [Act.put]); (try simp only [List.setIfInBounds_toArray]); (try simp only [List.set_cons_succ]); (try simp only [List.set_cons_zero])
  refine wpAnyH_take (i := 20) (oi := ⟨_, _, _, _, _, _⟩) (v := ?_) rfl (by kernel_rfl) (by kernel_rfl) (by kernel_rfl) (fun _ _ _ h => h) (Or.inl ⟨by rfl, ?_⟩) (by assumption) ?_
  rotate_left 1
  · intro w hSw; (try dsimp only at hSw); go_simp <;> with_reducible rfl
  (try simp only [Act.put]); (try simp only [List.setIfInBounds_toArray]); (try simp only [List.set_cons_succ]); (try simp only [List.set_cons_zero])
  refine wpAnyH_take (i := 21) (oi := ⟨_, _, _, _, _, _⟩) (v := ?_) rfl (by kernel_rfl) (by kernel_rfl) (by kernel_rfl) (fun _ _ _ h => h) (Or.inl ⟨by rfl, ?_⟩) (by assumption) ?_
  rotate_left 1
  · intro w hSw; (try dsimp only at hSw); go_simp <;> with_reducible rfl
  (try simp only [Act.put]); (try simp only [List.setIfInBounds_toArray]); (try simp only [List.set_cons_succ]); (try simp only [List.set_cons_zero])
  refine wpAnyH_take (i := 22) (oi := ⟨_, _, _, _, _, _⟩) (v := ?_) rfl (by kernel_rfl) (by kernel_rfl) (by kernel_rfl) (fun _ _ _ h => h) (Or.inl ⟨by rfl, ?_⟩) (by assumption) ?_
  rotate_left 1
  · intro w hSw; (try dsimp only at hSw); go_simp <;> with_reducible rfl
  (try simp only [Act.put]); (try simp only [List.setIfInBounds_toArray]); (try simp only [List.set_cons_succ]); (try simp only [List.set_cons_zero])
  refine wpAnyH_take (i := 23) (oi := ⟨_, _, _, _, _, _⟩) (v := ?_) rfl (by kernel_rfl) (by kernel_rfl) (by kernel_rfl) (fun _ _ _ h => h) (Or.inl ⟨by rfl, ?_⟩) (by assumption) ?_
  rotate_left 1
  · intro w hSw; (try dsimp only at hSw); go_simp <;> with_reducible rfl
  (try simp only [Act.put]); (try simp only [List.setIfInBounds_toArray]); (try simp only [List.set_cons_succ]); (try simp only [List.set_cons_zero])
  refine wpAnyH_take (i := 25) (oi := ⟨_, _, _, _, _, _⟩) (v := ?_) rfl (by kernel_rfl) (by kernel_rfl) (by kernel_rfl) (fun _ _ _ h => h) (Or.inl ⟨by rfl, ?_⟩) (by assumption) ?_
  rotate_left 1
  · intro w hSw; (try dsimp only at hSw); go_simp <;> with_reducible rfl
  (try simp only [Act.put]); (try simp only [List.setIfInBounds_toArray]); (try simp only [List.set_cons_succ]); (try simp only [List.set_cons_zero])
  refine wpAnyH_ready (rs := [24]) (by kernel_rfl) (by simp) ?_
  refine AllReadyH.cons (o := ⟨_, _, _, _, _, _⟩) rfl (fun K hK => ?_) AllReadyH.nil
  go_simp
  have hc := HTO9.out V6 _ (HV1.out.keep J)
  refine hc.mono ?_
  rintro e V7 ⟨rfl, k1⟩
  clear hc
  replace J := J.trans k1
  clear k1
  refine hK.out _ _ ?_ (fun hHeld => ?_)
  · exact HS.out _ J
  clear hK K
  (try simp only [Act.put]); (try simp only [List.setIfInBounds_toArray]); (try simp only [List.set_cons_succ]); (try simp only [List.set_cons_zero])
  refine wpAnyH_ready (rs := [26]) (by kernel_rfl) (by simp) ?_
  refine AllReadyH.cons (o := ⟨_, _, _, _, _, _⟩) rfl (fun K hK => ?_) AllReadyH.nil
  go_simp
  have hc := HRT9.out V7 _ (HV2.out.keep J)
  refine hc.mono ?_
  rintro e V8 ⟨rfl, k1⟩
  clear hc
  replace J := J.trans k1
  clear k1
  refine hK.out _ _ ?_ (fun hHeld => ?_)
  · exact HS.out _ J
  clear hK K
  (try simp only [Act.put]); (try simp only [List.setIfInBounds_toArray]); (try simp only [List.set_cons_succ]); (try simp only [List.set_cons_zero])
  refine wpAnyH_take (i := 27) (oi := ⟨_, _, _, _, _, _⟩) (v := ?_) rfl (by kernel_rfl) (by kernel_rfl) (by kernel_rfl) (fun _ _ _ h => h) (Or.inl ⟨by rfl, ?_⟩) (by assumption) ?_
  rotate_left 1
  · intro w hSw; (try dsimp only at hSw); go_simp <;> with_reducible rfl
  (try simp only [Act.put]); (try simp only [List.setIfInBounds_toArray]); (try simp only [List.set_cons_succ]); (try simp only [List.set_cons_zero])
  refine wpAnyH_take (i := 28) (oi := ⟨_, _, _, _, _, _⟩) (v := ?_) rfl (by kernel_rfl) (by kernel_rfl) (by kernel_rfl) (fun _ _ _ h => h) (Or.inl ⟨by rfl, ?_⟩) (by assumption) ?_
  rotate_left 1
  · intro w hSw; (try dsimp only at hSw); go_simp <;> with_reducible rfl
  (try simp only [Act.put]); (try simp only [List.setIfInBounds_toArray]); (try simp only [List.set_cons_succ]); (try simp only [List.set_cons_zero])
  refine wpAnyH_take (i := 29) (oi := ⟨_, _, _, _, _, _⟩) (v := ?_) rfl (by kernel_rfl) (by kernel_rfl) (by kernel_rfl) (fun _ _ _ h => h) (Or.inl ⟨by rfl, ?_⟩) (by assumption) ?_
  rotate_left 1
  · intro w hSw; (try dsimp only at hSw); go_simp <;> with_reducible rfl
  (try simp only [Act.put]); (try simp only [List.setIfInBounds_toArray]); (try simp only [List.set_cons_succ]); (try simp only [List.set_cons_zero])
  refine wpAnyH_done (by kernel_rfl) ?_ _
  have HKF := Lib.hid (HK.out.trans J)
  clear J
  go_wp2_with fail
  go_ret
  exact ⟨rfl, HKF.out⟩
end Go.Proofs.YtbcfkgolhklkaaaDoor
