/- Texts joined into one, what is needed of them (a program of ours). -/
import Derived.Test.YtbcfkgolhklkaaaDoorEKY
namespace Go.Proofs.YtbcfkgolhklkaaaDoor
open Go.RowKit Go.Lib Go.Shelf

set_option maxHeartbeats 1000000 in
theorem rrunRange_any (w : World) (f b : List S) (fv bv : Value) (N : Int) (byz : S) (source : Int) (cv : Value) (m : Nat) (c : CD) (h : ¬ RngOk N byz source) :
    Calls Tryd.prog 12 #[fv, bv, .int .i64 N, .int .u16 (sv byz), .int .i64 source, cv] w fun e w' => RetC w (runE f b N byz source m) c e w' := by
  rw [runE_bad h]
  have hcast := Blk.new w 32 #[.int .i64 0, .int .u16 0, .int .i64 0, .slice none 0 0, .slice none 0 0]
  have kC := (Keeps.refl w).alloc (.cells #[.int .i64 0, .int .u16 0, .int .i64 0, .slice none 0 0, .slice none 0 0] 32)
  have HC := Lib.hid hcast; have HK := Lib.hid kC; have HR := Lib.hid h
  have HF := Lib.hid (fun (W : World) => (hasC_zero W))
  clear hcast kC h
  by_cases h1 : N < 1
  · go_enter Tryd.func12, Tryd.ntmps12
    go_wp2_with fail
    exact bodyPost_ret (resCast (byz := 0#16) rfl HC.out rfl rfl) rfl ⟨HK.out, _, rfl, hasC_zero _⟩
  by_cases h2 : N > 8
  · go_enter Tryd.func12, Tryd.ntmps12
    go_wp2_with fail
    exact bodyPost_ret (resCast (byz := 0#16) rfl HC.out rfl rfl) rfl ⟨HK.out, _, rfl, hasC_zero _⟩
  obtain ⟨n, rfl⟩ : ∃ n : Nat, N = n := ⟨N.toNat, by omega⟩
  have hmin : min n 16 = n := by omega
  have hge := geB_iff n (by omega) byz
  by_cases h3 : byz >>> n = 0#16
  · have hbz2 : ¬ sv (1#16 <<< n) ≤ sv byz := by
      intro hc
      have h4 : decide (sv byz ≥ sv (1#16 <<< n)) = true := decide_eq_true hc
      rw [hge] at h4
      unfold geB at h4
      rw [h3] at h4
      cases h4
    have HBZ := Lib.hid h3
    clear h3 hge
    by_cases h4 : source < 0
    · go_enter Tryd.func12, Tryd.ntmps12
      go_wp2_with fail
      exact bodyPost_ret (resCast (byz := 0#16) rfl HC.out rfl rfl) rfl ⟨HK.out, _, rfl, hasC_zero _⟩
    · have h5 : source ≥ n := Classical.byContradiction fun h5 => HR.out ⟨by omega, by omega, by rw [Int.toNat_natCast]; exact HBZ.out, by omega, by omega⟩
      go_enter Tryd.func12, Tryd.ntmps12
      go_wp2_with fail
      exact bodyPost_ret (resCast (byz := 0#16) rfl HC.out rfl rfl) rfl ⟨HK.out, _, rfl, hasC_zero _⟩
  · have hbz2 : sv (1#16 <<< n) ≤ sv byz := by
      apply Classical.byContradiction
      intro hc
      have h4 : decide (sv byz ≥ sv (1#16 <<< n)) = false := decide_eq_false hc
      rw [hge] at h4
      unfold geB at h4
      exact h3 (by simpa using h4)
    clear h3 hge
    go_enter Tryd.func12, Tryd.ntmps12
    go_wp2_with fail
    exact bodyPost_ret (resCast (byz := 0#16) rfl HC.out rfl rfl) rfl ⟨HK.out, _, rfl, hasC_zero _⟩
theorem st5_other {W : World} {B C : Nat} {T : TypeId} {cs : Array Value} (h : Blk W B T cs) (hn : B ≠ C) (u0 u1 u2 u3 u4 : Value) : Blk (st5 W C u0 u1 u2 u3 u4) B T cs :=
  ((((h.setOther hn 0 u0).setOther hn 1 u1).setOther hn 2 u2).setOther hn 3 u3).setOther hn 4 u4
set_option maxRecDepth 200000 in
set_option maxHeartbeats 8000000 in
theorem rrunC_any (w : World) (fa : Option Addr) (fm fc : Nat) (f : List S) (ba : Option Addr) (bm bc : Nat) (b : List S) (N : Int) (byz : S) (source : Int) (ca : Option Addr) (cm cc : Nat) (chs : List Nat)
    (hf : Rd w fa fm fc 1 (sl f)) (hb : Rd w ba bm bc 1 (sl b)) (hch : Rd w ca cm cc 1 (bl chs)) (h256 : ∀ c ∈ chs, c < 256) (hcl : chs.length ≤ 1000000) (hfm : fm ≤ 1000000) (hbm : bm ≤ 1000000) :
    Calls Tryd.prog 12 #[.slice fa fm fc, .slice ba bm bc, .int .i64 N, .int .u16 (sv byz), .int .i64 source, .slice ca cm cc] w fun e w' => RetC w (runE f b N byz source chs.length) ⟨N, byz, source, runS f b N.toNat byz (lieL N.toNat byz source.toNat strX strY) (startS N.toNat byz source.toNat strX 0) chs⟩ e w' := by
  by_cases hr : RngOk N byz source
  case neg => exact rrunRange_any w f b _ _ N byz source _ _ _ hr
  have hm : cm = chs.length := by have := hch.len; simpa [bl] using this.symm
  subst hm
  have hrE := runE_ok (f := f) (b := b) (m := chs.length) hr
  obtain ⟨q1, q2, q3, q4, q5⟩ := hr
  obtain ⟨n, rfl⟩ : ∃ n : Nat, N = n := ⟨N.toNat, by omega⟩
  obtain ⟨so, rfl⟩ : ∃ s : Nat, source = s := ⟨source.toNat, by omega⟩
  rw [Int.toNat_natCast] at q3 hrE
  rw [hrE, Int.toNat_natCast, Int.toNat_natCast]
  have hmin : min n 16 = n := by omega
  have hge := geB_iff n (by omega) byz
  have hbz2 : ¬ sv (1#16 <<< n) ≤ sv byz := by
    intro hc
    have h4 : decide (sv byz ≥ sv (1#16 <<< n)) = true := decide_eq_true hc
    rw [hge] at h4
    unfold geB at h4
    rw [q3] at h4
    cases h4
  have HC256 := Lib.hid (fun k : Nat => show chs.getD k 0 < 256 by
    rw [List.getD]
    cases h : chs[k]? with
    | none => simp
    | some c => exact h256 c (List.mem_of_getElem? h))
  have hBR := Blk.new w 32 #[.int .i64 0, .int .u16 0, .int .i64 0, .slice none 0 0, .slice none 0 0]
  have kC := (Keeps.refl w).alloc (.cells #[.int .i64 0, .int .u16 0, .int .i64 0, .slice none 0 0, .slice none 0 0] 32)
  have hli := rlists39_any n (by omega) fa fm fc f ba bm bc b _ (hf.keep kC) (hb.keep kC) hfm hbm
  have HLI := Lib.hid hli
  have HF := Lib.hid hf; have HB := Lib.hid hb; have HCH := Lib.hid hch; have HBR := Lib.hid hBR; have HK := Lib.hid kC
  have HLE : Hid (lstErr f b n chs.length = if chk39 f b n ≠ 0 then chk39 f b n else if chs.length > 200 then 3 else 0) := Lib.hid rfl
  obtain ⟨RS, hRS⟩ : ∃ s, s = runS f b n byz (lieL n byz so strX strY) (startS n byz so strX 0) chs := ⟨_, rfl⟩
  rw [← hRS]
  have HRS := Lib.hid hRS
  generalize lstErr f b n chs.length = er at HLE ⊢
  generalize chk39 f b n = ck at HLE HLI
  clear hrE hge q3 hli hf hb hch hBR kC h256 hRS
  go_enter Tryd.func12, Tryd.ntmps12
  go_wp2_with fail
  refine HLI.out.mono ?_
  rintro e w1 ⟨rfl, k1⟩
  have J := HK.out.trans k1
  have hBR := HBR.out.keep k1
  clear hbz2 k1 HK HBR HLI
  by_cases hc0 : ck = 0
  · subst hc0
    have hbn : ((0 : Int) != 0) = false := rfl
    by_cases h2c : chs.length > 200
    · have HE : Hid (er = 3) := Lib.hid (by rw [HLE.out]; simp [h2c])
      obtain ⟨d0, d1, d2, d3, d4⟩ := c5 hBR
      obtain ⟨g0, g1, g2, g3, g4⟩ := f5 hBR
      go_wp2_with fail
      clear d0 d1 d2 d3 d4 g0 g1 g2 g3 g4
      exact bodyPost_ret (resCast (byz := 0#16) rfl (set5 hBR _ _ _ _ _) rfl rfl) rfl ⟨keeps_set5 J (Nat.le_refl _) _ _ _ _ _, _, by rw [HE.out]; rfl, by rw [if_neg (by rw [HE.out]; first | decide | assumption)]; exact hasC_zero _⟩
    · have HE : Hid (er = 0) := Lib.hid (by rw [HLE.out]; simp [h2c])
      have hst := rstart39_any w w1 J n byz so (by omega)
      have HST := Lib.hid hst
      have HJ := Lib.hid J; have HBR := Lib.hid hBR
      clear hst HLE J hBR
      go_wp2_with fail
      refine HST.out.mono ?_
      rintro e w2 ⟨v, rfl, hcv, k2⟩
      have hlx0 := (HBR.out.keep k2).lt
      have hcv0 := hcv
      obtain ⟨an, cn, nas, ag, cg, rfl, _, _, _, _⟩ := hcv0
      unfold vCast at hcv ⊢
      dsimp only at hcv ⊢
      have kb := (Keeps.refl w2).alloc (.cells #[.int .i64 n, .int .u16 (sv byz), .int .i64 so, .slice an nas.length cn, .slice ag ([] : List Ct).length cg] 32)
      have hX := Blk.new w2 32 #[.int .i64 n, .int .u16 (sv byz), .int .i64 so, .slice an nas.length cn, .slice ag ([] : List Ct).length cg]
      have hcv := hcv.keep kb (HJ.out.trans k2)
      have hBR := (HBR.out.keep k2).keep kb
      have J := (HJ.out.trans k2).trans kb
      have HCV := Lib.hid hcv; have HX := Lib.hid hX; have HBR := Lib.hid hBR; have HJ := Lib.hid J
      have hlx : w.heap.size < w2.heap.size := hlx0
      clear kb k2 HST hbn hcv hX hBR J hlx0
      go_upto_region 9 with fail
      generalize w2.alloc (.cells #[.int .i64 n, .int .u16 (sv byz), .int .i64 so, .slice an nas.length cn, .slice ag ([] : List Ct).length cg] 32) = w3 at *
      generalize hP1 : w2.heap.size = P1 at *
      have hhs := has7_any byz so (by omega) w3
      have hcr : corr n byz so = !((byz >>> so) &&& 1#16 == 1#16) := by unfold corr; rw [hbT]; simp [show so < n by omega]; rfl
      generalize ((byz >>> so) &&& 1#16 == 1#16) = hb0 at hhs hcr
      have HHS := Lib.hid hhs; have HCR := Lib.hid hcr
      clear hhs hcr hP1
      go_wp2_with fail
      refine HHS.out.mono ?_
      rintro e wz ⟨rfl, rfl⟩
      clear HHS
      go_upto_if 61 with fail
      go_cut [] (fun wx => ∃ (an : Option Addr) (nas : List NA) (cn : Nat) (ag : Option Addr) (cg : Nat) (st : St), Blk wx P1 32 #[.int .i64 n, .int .u16 (sv byz), .int .i64 so, .slice an nas.length cn, .slice ag st.flight.length cg] ∧ Blk wx w.heap.size 32 #[.int .i64 0, .int .u16 0, .int .i64 0, .slice none 0 0, .slice none 0 0] ∧ HasB w wx ⟨n, byz, so, st⟩ (.agg #[.int .i64 n, .int .u16 (sv byz), .int .i64 so, .slice an nas.length cn, .slice ag st.flight.length cg]) ∧ Keeps w wx ∧ Hid (st = startS n byz so strX 0))
      case first =>
        cases hb0 with
        | true =>
          have HSS : Hid ((⟨startN n, []⟩ : St) = startS n byz so strX 0) := Lib.hid (by unfold startS; rw [HCR.out]; rfl)
          go_wp2_with fail
          go_meet
          case rel => exact ⟨an, nas, cn, ag, cg, ⟨startN n, []⟩, HX.out, HBR.out, HCV.out, HJ.out, HSS⟩
        | false =>
          obtain ⟨y0, y1, y2, y3, y4⟩ := Go.Proofs.YtbcfkgolhklkaaaDoor.c5 HX.out
          have kA := (Keeps.refl w3).alloc (.cells (cl [(⟨1, (so : Int), -1, strX⟩ : Ct)]).toArray 53)
          have r1 : Rd (w3.alloc (.cells (cl [(⟨1, (so : Int), -1, strX⟩ : Ct)]).toArray 53)) (some ⟨w3.heap.size, 0, none⟩) 1 1 4 (cl [(⟨1, (so : Int), -1, strX⟩ : Ct)]) := rd_new 53 4 w3 _ 1 (by decide) rfl
          have hput := rputB_any n (by omega) ⟨n, byz, so, ⟨startN n, []⟩⟩ rfl _ (some ⟨w3.heap.size, 0, none⟩) 1 [(⟨1, (so : Int), -1, strX⟩ : Ct)] w _ (HJ.out.trans kA) (HCV.out.keep kA HJ.out) r1 (by simp) (by simp)
          have hpl : putL n byz [(⟨1, (so : Int), -1, strX⟩ : Ct)] = toAll n byz ⟨1, so, 0, strX⟩ := by unfold putL putC; simp; rfl
          dsimp only at hput
          rw [List.nil_append, hpl] at hput
          have HPUT := Lib.hid hput
          have HSS : Hid ((⟨startN n, toAll n byz ⟨1, so, 0, strX⟩⟩ : St) = startS n byz so strX 0) := Lib.hid (by unfold startS; rw [HCR.out]; rfl)
          have HX1 := Lib.hid (HX.out.keep kA); have HBR1 := Lib.hid (HBR.out.keep kA); have HJ1 := Lib.hid (HJ.out.trans kA)
          clear hput r1 kA hpl
          generalize toAll n byz ⟨1, so, 0, strX⟩ = FA at *
          go_wp2_with fail
          refine HPUT.out.mono ?_
          rintro e w4 ⟨v9, rfl, hcv9, k9⟩
          have hcv0 := hcv9
          obtain ⟨an9, cn9, nas9, ag9, cg9, rfl, _, _, _, _⟩ := hcv0
          unfold vCast at hcv9 ⊢
          dsimp only at hcv9 ⊢
          have hX := HX1.out.keep k9
          have HBR2 := Lib.hid (HBR1.out.keep k9); have HJ2 := Lib.hid (HJ1.out.trans k9); have HC9 := Lib.hid hcv9; have HX2 := Lib.hid hX
          clear y0 y1 y2 y3 y4 HPUT k9 hcv9
          obtain ⟨y0, y1, y2, y3, y4⟩ := Go.Proofs.YtbcfkgolhklkaaaDoor.c5 hX
          obtain ⟨g0, g1, g2, g3, g4⟩ := f5 hX
          clear hX
          go_wp2_with fail
          clear y0 y1 y2 y3 y4 g0 g1 g2 g3 g4
          go_meet
          case rel => exact ⟨an9, nas9, cn9, ag9, cg9, ⟨startN n, FA⟩, set5 HX2.out _ _ _ _ _, st5_other HBR2.out (by omega) _ _ _ _ _, HC9.out.st5 HX2.out (by omega) HJ2.out _ _ _ _ _, keeps_set5 HJ2.out (by omega) _ _ _ _ _, HSS⟩
      case rest =>
      obtain ⟨an, nas, cn, ag, cg, st, hX, hBR, hcv, J, HSS⟩ := hcut
      have h9 := start9 (n := n) (byz := byz) (source := so) (by omega) _ rfl
      have HI2 : Hid (SmallS st ∧ DstOk n st ∧ measS n st ≤ 200) := Lib.hid (by rw [HSS.out, h9.1]; exact h9.2)
      obtain ⟨LL, hLL⟩ : ∃ l, l = lieL n byz so strX strY := ⟨_, rfl⟩
      have hll : LL.length ≤ 2000 := by rw [hLL]; exact lieL_len n byz so (by omega)
      have hlok : ∀ c ∈ LL, LieOk n byz so c := fun c hc => lieL_ok (hLL ▸ hc)
      have HLL := Lib.hid hLL
      have HLOK := Lib.hid hlok
      have HRUN0 : Hid (RS = runS f b n byz LL st chs) := Lib.hid (by rw [HRS.out, ← HLL.out, HSS.out])
      clear hLL hlok h9
      have HX := Lib.hid hX; have HBR := Lib.hid hBR; have HCV := Lib.hid hcv; have HJ := Lib.hid J
      clear hX hBR hcv J
      go_wp2_with fail
      go_loopw [16] (fun u wr => ∃ (k : Nat) (an : Option Addr) (nas : List NA) (cn : Nat) (ag : Option Addr) (cg : Nat) (st : St), k ≤ chs.length ∧ u = .int .i64 k ∧ Blk wr P1 32 #[.int .i64 n, .int .u16 (sv byz), .int .i64 so, .slice an nas.length cn, .slice ag st.flight.length cg] ∧ Blk wr w.heap.size 32 #[.int .i64 0, .int .u16 0, .int .i64 0, .slice none 0 0, .slice none 0 0] ∧ HasB w wr ⟨n, byz, so, st⟩ (.agg #[.int .i64 n, .int .u16 (sv byz), .int .i64 so, .slice an nas.length cn, .slice ag st.flight.length cg]) ∧ Keeps w wr ∧ Hid (RS = runS f b n byz LL st (chs.drop k)) ∧ Hid (DstOk n st) ∧ Hid (SmallS st) ∧ Hid (measS n st ≤ 200 + k)) (fun v _ => chs.length - (RowKit.intOf v).toNat)
      case atStart => exact ⟨0, an, nas, cn, ag, cg, st, Nat.zero_le _, rfl, HX.out, HBR.out, HCV.out, HJ.out, Lib.hid (by rw [List.drop_zero]; exact HRUN0.out), Lib.hid HI2.out.2.1, Lib.hid HI2.out.1, Lib.hid HI2.out.2.2⟩
      case round =>
        clear HX HBR HCV HJ HI2 HRUN0 HSS HRS
        skip
        obtain ⟨k, an, nas, cn, ag, cg, st, hk, rfl, hX, hBR, hcv, J, HRUN, HDS, HSM, HME⟩ := hrel
        have hfl : st.flight.length ≤ 400 := by have h := HME.out; unfold measS at h; omega
        have HFL := Lib.hid hfl
        by_cases hlt : k < chs.length
        · obtain ⟨c, hc⟩ : ∃ c, c = chs.getD k 0 := ⟨_, rfl⟩
          have hcc := bl_at (HCH.out.keep J) hlt
          rw [← hc] at hcc
          have hcl2 : c < 256 := by rw [hc]; exact HC256.out k
          have hds := drop_ch chs k hlt
          rw [← hc] at hds
          have HDR := Lib.hid hds
          have hao := (HCH.out.keep J).isSome (by omega)
          have HCG := Lib.hid hc.symm
          clear hc hds
          have hli := rlies39_any n (by omega) byz so (.slice an nas.length cn) (.slice ag st.flight.length cg) wr
          rw [← HLL.out] at hli
          unfold vCast at hli
          have HLI := Lib.hid hli
          obtain ⟨y0, y1, y2, y3, y4⟩ := Go.Proofs.YtbcfkgolhklkaaaDoor.c5 hX
          have HX := Lib.hid hX; have HBR := Lib.hid hBR; have HCV := Lib.hid hcv; have HJ := Lib.hid J; have HCC := Lib.hid hcc
          clear hX hBR hcv J hli hcc
          go_wp2_with fail
          refine HLI.out.mono ?_
          rintro e W1 ⟨v, rfl, hL⟩
          clear HLI y0 y1 y2 y3 y4
          obtain ⟨al, cl9, rfl, rl⟩ := hL.rd
          have hX := HX.out.keep hL.2; have hBR := HBR.out.keep hL.2; have hcv := HCV.out.keep hL.2 HJ.out; have J := HJ.out.trans hL.2
          have hcc := bl_at (HCH.out.keep J) hlt
          rw [show chs.getD k 0 = c from HCG.out] at hcc
          clear HX HBR HCV HJ HCC hL
          obtain ⟨T, hT⟩ : ∃ T, T = st.flight.length + LL.length := ⟨_, rfl⟩
          have hTI : (st.flight.length : Int) + (LL.length : Int) = (T : Int) := by omega
          have hTb : T ≤ 2400 := by omega
          have HT := Lib.hid hT
          clear hT
          have HX := Lib.hid hX; have HBR := Lib.hid hBR; have HCV := Lib.hid hcv; have HJ := Lib.hid J; have HRL := Lib.hid rl
          obtain ⟨y0, y1, y2, y3, y4⟩ := Go.Proofs.YtbcfkgolhklkaaaDoor.c5 hX
          clear hX hBR hcv J rl
          by_cases hT0 : T = 0
          · subst hT0
            go_wp2_with fail
            clear y0 y1 y2 y3 y4 hcc
            go_roundw
            case rel => exact ⟨k + 1, an, nas, cn, ag, cg, st, by omega, by go_num, HX.out, HBR.out, HCV.out, HJ.out, Lib.hid (by rw [HRUN.out, HDR.out]; show runS f b n byz LL (stepS f b n byz LL _ c) _ = _; unfold stepS; rw [if_pos (by have := HT.out; omega)]), HDS, HSM, Lib.hid (by have := HME.out; omega)⟩
            case measure => simp [RowKit.intOf]; omega
          · have hrem : ((c : Int).tmod (T : Int)) = ((c % T : Nat) : Int) := by rw [Int.tmod_eq_emod_of_nonneg (by omega)]; omega
            obtain ⟨i, hi⟩ : ∃ i, i = c % T := ⟨_, rfl⟩
            rw [← hi] at hrem
            have hit : i < T := by rw [hi]; exact Nat.mod_lt _ (by omega)
            have HI := Lib.hid hi
            clear hi
            have hTz : (T : Int) ≠ 0 := by omega
            by_cases hif : i < st.flight.length
            · have hdel := rdeliverB_any fa fm fc f ba bm bc b n (by omega) ⟨n, byz, so, st⟩ rfl _ i w W1 HJ.out (HF.out.keep HJ.out) (HB.out.keep HJ.out) HCV.out hif HDS.out (by rw [HDS.out.1]; omega) HSM.out (by dsimp only; omega)
              have HDEL := Lib.hid hdel
              have HIF := Lib.hid hif
              clear hdel
              go_wp2_with fail
              refine HDEL.out.mono ?_
              rintro e W5 ⟨v9, rfl, hcv9, k9⟩
              have hstep := step_del (f := f) (b := b) (n := n) (byz := byz) (st := st) (lies := LL) (by have := HT.out; omega) HT.out HI.out (c := c) HIF.out
              (try dsimp only at hcv9)
              obtain ⟨st9, hst9⟩ : ∃ s, s = deliv f b n byz st i := ⟨_, rfl⟩
              rw [← hst9] at hcv9 hstep
              have HST9 := Lib.hid hst9
              have HSTEP := Lib.hid hstep
              have hcv0 := hcv9
              obtain ⟨an9, cn9, nas9, ag9, cg9, rfl, _, _, _, _⟩ := hcv0
              unfold vCast at hcv9 ⊢
              dsimp only at hcv9 ⊢
              have hX := HX.out.keep k9
              have HBR2 := Lib.hid (HBR.out.keep k9); have HJ2 := Lib.hid (HJ.out.trans k9); have HC9 := Lib.hid hcv9; have HX2 := Lib.hid hX
              clear y0 y1 y2 y3 y4 HDEL k9 hcv9 hst9 hstep hcc
              obtain ⟨y0, y1, y2, y3, y4⟩ := Go.Proofs.YtbcfkgolhklkaaaDoor.c5 hX
              obtain ⟨g0, g1, g2, g3, g4⟩ := f5 hX
              clear hX
              go_wp2_with fail
              clear y0 y1 y2 y3 y4 g0 g1 g2 g3 g4
              go_roundw
              case rel => exact ⟨k + 1, an9, nas9, cn9, ag9, cg9, st9, by omega, by go_num, set5 HX2.out _ _ _ _ _, st5_other HBR2.out (Nat.ne_of_lt hlx) _ _ _ _ _, HC9.out.st5 HX2.out (Nat.le_of_lt hlx) HJ2.out _ _ _ _ _, keeps_set5 HJ2.out (Nat.le_of_lt hlx) _ _ _ _ _, Lib.hid (by rw [HRUN.out, HDR.out]; show runS f b n byz LL (stepS f b n byz LL _ c) _ = _; rw [HSTEP.out]), Lib.hid (by rw [HST9.out]; exact deliv_dst HDS.out i), Lib.hid (by rw [HST9.out]; exact deliv_small HSM.out i), Lib.hid (by rw [HST9.out]; have h1 := deliv_meas (f := f) (b := b) (n := n) (byz := byz) HIF.out (dst_at HDS.out HIF.out); have h2 := HME.out; omega)⟩
              case measure => simp [RowKit.intOf]; omega
            · obtain ⟨j, hj⟩ : ∃ j, j = i - st.flight.length := ⟨_, rfl⟩
              have hij : (i : Int) - (st.flight.length : Int) = (j : Int) := by omega
              have hjl : j < LL.length := by have := HT.out; omega
              have hjw : IntKind.i64.wrap (j : Int) = (j : Int) := by rw [IntKind.wrap_i64]; omega
              have hstep := step_lie (f := f) (b := b) (n := n) (byz := byz) (st := st) (lies := LL) (by have := HT.out; omega) HT.out HI.out (c := c) hif
              rw [← hj] at hstep
              have hx0 : LL.getD j ct0 = ctA LL j := rfl
              rw [hx0] at hstep
              have HXD := Lib.hid (HLOK.out _ (ctA_mem hjl))
              have hlc : LL.length ≤ cl9 := HRL.out.nc
              have r1 := HRL.out.drop (i := j) (by omega)
              rw [← cl_drop] at r1
              replace r1 := rd_takeE r1 (i := 1) (by omega)
              rw [← cl_take, show (LL.drop j).take 1 = [ctA LL j] by unfold ctA List.getD; rw [List.drop_eq_getElem_cons hjl, List.getElem?_eq_getElem hjl]; rfl] at r1
              obtain ⟨SB, hSB⟩ : ∃ s, s = subs al cl9 j 4 := ⟨_, rfl⟩
              rw [← hSB] at r1
              have hsub := hSB.symm
              unfold subs at hsub
              clear hSB
              have hw1 : IntKind.i64.wrap ((j : Int) + 1) = (j : Int) + 1 := by rw [IntKind.wrap_i64]; omega
              have hc1 : (0 : Int) ≤ (j : Int) + 1 := by omega
              have hc2 : (j : Int) + 1 ≤ (cl9 : Int) := by omega
              have hc3 : ((j : Int) + 1).toNat = j + 1 := by omega
              have HPL : Hid (putL n byz [ctA LL j] = [ctA LL j]) := Lib.hid (by obtain ⟨d, _, h1, _⟩ := HXD.out; unfold putL putC; simp [h1])
              generalize ctA LL j = x at *
              have HSTEP := Lib.hid hstep
              have HHJ := Lib.hid hj
              clear hstep hx0 hj
              have hni : ¬ ((i : Int) < (st.flight.length : Int)) := by omega
              have HR1 := Lib.hid r1
              clear r1
              go_wp2_with fail
              clear y0 y1 y2 y3 y4 hcc
              have hX := HX.out.keep ((Keeps.refl W1).drew); have hBR := HBR.out.keep ((Keeps.refl W1).drew); have hcv := HCV.out.keep ((Keeps.refl W1).drew) HJ.out; have J := HJ.out.drew; have r1 := HR1.out.keep ((Keeps.refl W1).drew)
              clear HX HBR HCV HJ HRL HR1
              refine wp_region_held_drew (S := (fun w' => True)) (by kernel_rfl) ?_ (fun hHeld => ?_)
              · trivial
              generalize W1.drew = V0 at *
              refine wpAnyH_take (i := 1) (oi := ⟨_, _, _, _, _, _⟩) (v := ?_) rfl (by kernel_rfl) (by kernel_rfl) (by kernel_rfl) (fun _ _ _ h => h) (Or.inl ⟨by rfl, ?_⟩) (by assumption) ?_
              rotate_left 1
              · intro w hSw; (try dsimp only at hSw); go_simp <;> with_reducible rfl
              (try simp only [Act.put]); (try simp only [List.setIfInBounds_toArray]); (try simp only [List.set_cons_succ]); (try simp only [List.set_cons_zero])
              refine wpAnyH_take (i := 2) (oi := ⟨_, _, _, _, _, _⟩) (v := ?_) rfl (by kernel_rfl) (by kernel_rfl) (by kernel_rfl) (fun _ _ _ h => h) (Or.inl ⟨by rfl, ?_⟩) (by assumption) ?_
              rotate_left 1
              · intro w hSw; (try dsimp only at hSw); go_simp <;> with_reducible rfl
              (try simp only [Act.put]); (try simp only [List.setIfInBounds_toArray]); (try simp only [List.set_cons_succ]); (try simp only [List.set_cons_zero])
              refine wpAnyH_take (i := 3) (oi := ⟨_, _, _, _, _, _⟩) (v := ?_) rfl (by kernel_rfl) (by kernel_rfl) (by kernel_rfl) (fun _ _ _ h => h) (Or.inl ⟨by rfl, ?_⟩) (by assumption) ?_
              rotate_left 1
              · intro w hSw; (try dsimp only at hSw); go_simp <;> with_reducible rfl
              (try simp only [Act.put]); (try simp only [List.setIfInBounds_toArray]); (try simp only [List.set_cons_succ]); (try simp only [List.set_cons_zero])
              refine wpAnyH_take (i := 7) (oi := ⟨_, _, _, _, _, _⟩) (v := ?_) rfl (by kernel_rfl) (by kernel_rfl) (by kernel_rfl) (fun _ _ _ h => h) (Or.inl ⟨by rfl, ?_⟩) (by assumption) ?_
              rotate_left 1
              · intro w hSw; (try dsimp only at hSw); go_simp <;> with_reducible rfl
              (try simp only [Act.put]); (try simp only [List.setIfInBounds_toArray]); (try simp only [List.set_cons_succ]); (try simp only [List.set_cons_zero])
              refine wpAnyH_take (i := 8) (oi := ⟨_, _, _, _, _, _⟩) (v := ?_) rfl (by kernel_rfl) (by kernel_rfl) (by kernel_rfl) (fun _ _ _ h => h) (Or.inl ⟨by rfl, ?_⟩) (by assumption) ?_
              rotate_left 1
              · intro w hSw; (try dsimp only at hSw); go_simp <;> with_reducible rfl
              (try simp only [Act.put]); (try simp only [List.setIfInBounds_toArray]); (try simp only [List.set_cons_succ]); (try simp only [List.set_cons_zero])
              refine wpAnyH_ready (rs := [0, 4, 9]) (by kernel_rfl) (by simp) ?_
              refine AllReadyH.cons (o := ⟨_, _, _, _, _, _⟩) rfl (fun K hK => ?_) (AllReadyH.cons (o := ⟨_, _, _, _, _, _⟩) rfl (fun K hK => ?_) (AllReadyH.cons (o := ⟨_, _, _, _, _, _⟩) rfl (fun K hK => ?_) AllReadyH.nil))
              · obtain ⟨y0, y1, y2, y3, y4⟩ := Go.Proofs.YtbcfkgolhklkaaaDoor.c5 hX
                go_simp
                clear y0 y1 y2 y3 y4
                refine hK.out _ _ ?_ (fun hHeld => ?_)
                · trivial
                clear hK K
                (try simp only [Act.put]); (try simp only [List.setIfInBounds_toArray]); (try simp only [List.set_cons_succ]); (try simp only [List.set_cons_zero])
                refine wpAnyH_ready (rs := [4, 9]) (by kernel_rfl) (by simp) ?_
                refine AllReadyH.cons (o := ⟨_, _, _, _, _, _⟩) rfl (fun K hK => ?_) (AllReadyH.cons (o := ⟨_, _, _, _, _, _⟩) rfl (fun K hK => ?_) AllReadyH.nil)
                · have y4 := hX.cell 4 (v := .slice ag st.flight.length cg) rfl
                  go_simp
                  clear y4
                  refine hK.out _ _ ?_ (fun hHeld => ?_)
                  · trivial
                  clear hK K
                  (try simp only [Act.put]); (try simp only [List.setIfInBounds_toArray]); (try simp only [List.set_cons_succ]); (try simp only [List.set_cons_zero])
                  refine wpAnyH_take (i := 5) (oi := ⟨_, _, _, _, _, _⟩) (v := ?_) rfl (by kernel_rfl) (by kernel_rfl) (by kernel_rfl) (fun _ _ _ h => h) (Or.inl ⟨by rfl, ?_⟩) (by assumption) ?_
                  rotate_left 1
                  · intro w hSw; (try dsimp only at hSw); go_simp <;> with_reducible rfl
                  (try simp only [Act.put]); (try simp only [List.setIfInBounds_toArray]); (try simp only [List.set_cons_succ]); (try simp only [List.set_cons_zero])
                  refine wpAnyH_take (i := 6) (oi := ⟨_, _, _, _, _, _⟩) (v := ?_) rfl (by kernel_rfl) (by kernel_rfl) (by kernel_rfl) (fun _ _ _ h => h) (Or.inl ⟨by rfl, ?_⟩) (by assumption) ?_
                  rotate_left 1
                  · intro w hSw; (try dsimp only at hSw); go_simp <;> with_reducible rfl
                  (try simp only [Act.put]); (try simp only [List.setIfInBounds_toArray]); (try simp only [List.set_cons_succ]); (try simp only [List.set_cons_zero])
                  refine wpAnyH_ready (rs := [9]) (by kernel_rfl) (by simp) ?_
                  refine AllReadyH.cons (o := ⟨_, _, _, _, _, _⟩) rfl (fun K hK => ?_) AllReadyH.nil
                  have y4 := hX.cell 4 (v := .slice ag st.flight.length cg) rfl
                  go_simp
                  clear y4
                  refine hK.out _ _ ?_ (fun hHeld => ?_)
                  · trivial
                  clear hK K
                  (try simp only [Act.put]); (try simp only [List.setIfInBounds_toArray]); (try simp only [List.set_cons_succ]); (try simp only [List.set_cons_zero])
                  refine wpAnyH_take (i := 10) (oi := ⟨_, _, _, _, _, _⟩) (v := ?_) rfl (by kernel_rfl) (by kernel_rfl) (by kernel_rfl) (fun _ _ _ h => h) (Or.inl ⟨by rfl, ?_⟩) (by assumption) ?_
                  rotate_left 1
                  · intro w hSw; (try dsimp only at hSw); go_simp <;> with_reducible rfl
                  (try simp only [Act.put]); (try simp only [List.setIfInBounds_toArray]); (try simp only [List.set_cons_succ]); (try simp only [List.set_cons_zero])
                  refine wpAnyH_take (i := 11) (oi := ⟨_, _, _, _, _, _⟩) (v := ?_) rfl (by kernel_rfl) (by kernel_rfl) (by kernel_rfl) (fun _ _ _ h => h) (Or.inl ⟨by rfl, ?_⟩) (by assumption) ?_
                  rotate_left 1
                  · intro w hSw; (try dsimp only at hSw); go_simp <;> with_reducible rfl
                  (try simp only [Act.put]); (try simp only [List.setIfInBounds_toArray]); (try simp only [List.set_cons_succ]); (try simp only [List.set_cons_zero])
                  refine wpAnyH_take (i := 12) (oi := ⟨_, _, _, _, _, _⟩) (v := ?_) rfl (by kernel_rfl) (by kernel_rfl) (by kernel_rfl) (fun _ _ _ h => h) (Or.inl ⟨by rfl, ?_⟩) (by assumption) ?_
                  rotate_left 1
                  · intro w hSw; (try dsimp only at hSw); go_simp <;> with_reducible rfl
                  (try simp only [Act.put]); (try simp only [List.setIfInBounds_toArray]); (try simp only [List.set_cons_succ]); (try simp only [List.set_cons_zero])
                  refine wpAnyH_take (i := 13) (oi := ⟨_, _, _, _, _, _⟩) (v := ?_) rfl (by kernel_rfl) (by kernel_rfl) (by kernel_rfl) (fun _ _ _ h => h) (Or.inl ⟨by rfl, ?_⟩) (by assumption) ?_
                  rotate_left 1
                  · intro w hSw; (try dsimp only at hSw); go_simp <;> with_reducible rfl
                  (try simp only [Act.put]); (try simp only [List.setIfInBounds_toArray]); (try simp only [List.set_cons_succ]); (try simp only [List.set_cons_zero])
                  refine wpAnyH_ready (rs := [14]) (by kernel_rfl) (by simp) ?_
                  refine AllReadyH.cons (o := ⟨_, _, _, _, _, _⟩) rfl (fun K hK => ?_) AllReadyH.nil
                  go_simp
                  have hput := rputB_any n (by omega) ⟨n, byz, so, st⟩ rfl _ SB (cl9 - j) [x] w _ J hcv r1 (by have := HFL.out; dsimp only; omega) (by simp)
                  dsimp only at hput
                  rw [HPL.out] at hput
                  have HPUT := Lib.hid hput
                  clear hput
                  refine HPUT.out.mono ?_
                  rintro e W9 ⟨v9, rfl, hcv9, k9⟩
                  clear HPUT
                  replace hcv := hcv9
                  clear hcv9
                  replace hX := hX.keep k9
                  replace hBR := hBR.keep k9
                  replace J := J.trans k9
                  clear k9
                  have hcv0 := hcv
                  obtain ⟨an9, cn9, nas9, ag9, cg9, rfl, _, _, _, _⟩ := hcv0
                  unfold vCast at hcv ⊢
                  obtain ⟨L', hL'⟩ : ∃ L', L' = st.flight ++ [x] := ⟨_, rfl⟩
                  dsimp only at hcv ⊢
                  rw [← hL'] at hcv ⊢
                  have HL' := Lib.hid hL'
                  clear hL'
                  generalize W9 = W8 at *
                  refine hK.out _ _ ?_ (fun hHeld => ?_)
                  · trivial
                  clear hK K
                  (try simp only [Act.put]); (try simp only [List.setIfInBounds_toArray]); (try simp only [List.set_cons_succ]); (try simp only [List.set_cons_zero])
                  refine wpAnyH_ready (rs := [15]) (by kernel_rfl) (by simp) ?_
                  refine AllReadyH.cons (o := ⟨_, _, _, _, _, _⟩) rfl (fun K hK => ?_) AllReadyH.nil
                  obtain ⟨y0, y1, y2, y3, y4⟩ := Go.Proofs.YtbcfkgolhklkaaaDoor.c5 hX
                  obtain ⟨g0, g1, g2, g3, g4⟩ := f5 hX
                  go_simp
                  clear y0 y1 y2 y3 y4 g0 g1 g2 g3 g4
                  replace hcv := hcv.st5 hX (Nat.le_of_lt hlx) J (.int .i64 n) (.int .u16 (sv byz)) (.int .i64 so) (.slice an9 nas9.length cn9) (.slice ag9 L'.length cg9)
                  replace hBR := st5_other hBR (Nat.ne_of_lt hlx) (.int .i64 n) (.int .u16 (sv byz)) (.int .i64 so) (.slice an9 nas9.length cn9) (.slice ag9 L'.length cg9)
                  have hX9 := set5 hX (.int .i64 n) (.int .u16 (sv byz)) (.int .i64 so) (.slice an9 nas9.length cn9) (.slice ag9 L'.length cg9)
                  replace J := keeps_set5 J (Nat.le_of_lt hlx) (.int .i64 n) (.int .u16 (sv byz)) (.int .i64 so) (.slice an9 nas9.length cn9) (.slice ag9 L'.length cg9)
                  replace hX := hX9
                  clear hX9
                  unfold st5 at hX hBR hcv J
                  generalize ((((W8.setCell ⟨P1, 0, none⟩ (.int .i64 n)).setCell ⟨P1, 1, none⟩ (.int .u16 (sv byz))).setCell ⟨P1, 2, none⟩ (.int .i64 so)).setCell ⟨P1, 3, none⟩ (.slice an9 nas9.length cn9)).setCell ⟨P1, 4, none⟩ (.slice ag9 L'.length cg9) = V9 at *
                  refine hK.out _ _ ?_ (fun hHeld => ?_)
                  · trivial
                  clear hK K
                  (try simp only [Act.put]); (try simp only [List.setIfInBounds_toArray]); (try simp only [List.set_cons_succ]); (try simp only [List.set_cons_zero])
                  refine wpAnyH_done (by kernel_rfl) ?_ _
                  have HX := Lib.hid hX; have HBR := Lib.hid hBR; have HCV := Lib.hid hcv; have HJ := Lib.hid J
                  clear hX hBR hcv J r1
                  go_wp2_with fail
                  go_roundw
                  case rel => exact ⟨k + 1, an9, nas9, cn9, ag9, cg9, ⟨st.nodes, L'⟩, by omega, by go_num, HX.out, HBR.out, HCV.out, HJ.out, Lib.hid (by rw [HRUN.out, HDR.out]; show runS f b n byz LL (stepS f b n byz LL _ c) _ = _; rw [HSTEP.out, HL'.out]), Lib.hid (by rw [HL'.out]; exact dst_snoc HDS.out HXD.out), Lib.hid HSM.out, Lib.hid (by rw [HL'.out]; have h2 := HME.out; unfold measS at *; dsimp only at *; rw [List.length_append, List.length_singleton]; omega)⟩
                  case measure => simp [RowKit.intOf]; omega
                · have y4 := hX.cell 4 (v := .slice ag st.flight.length cg) rfl
                  go_simp
                  clear y4
                  refine hK.out _ _ ?_ (fun hHeld => ?_)
                  · trivial
                  clear hK K
                  (try simp only [Act.put]); (try simp only [List.setIfInBounds_toArray]); (try simp only [List.set_cons_succ]); (try simp only [List.set_cons_zero])
                  refine wpAnyH_take (i := 10) (oi := ⟨_, _, _, _, _, _⟩) (v := ?_) rfl (by kernel_rfl) (by kernel_rfl) (by kernel_rfl) (fun _ _ _ h => h) (Or.inl ⟨by rfl, ?_⟩) (by assumption) ?_
                  rotate_left 1
                  · intro w hSw; (try dsimp only at hSw); go_simp <;> with_reducible rfl
                  (try simp only [Act.put]); (try simp only [List.setIfInBounds_toArray]); (try simp only [List.set_cons_succ]); (try simp only [List.set_cons_zero])
                  refine wpAnyH_take (i := 11) (oi := ⟨_, _, _, _, _, _⟩) (v := ?_) rfl (by kernel_rfl) (by kernel_rfl) (by kernel_rfl) (fun _ _ _ h => h) (Or.inl ⟨by rfl, ?_⟩) (by assumption) ?_
                  rotate_left 1
                  · intro w hSw; (try dsimp only at hSw); go_simp <;> with_reducible rfl
                  (try simp only [Act.put]); (try simp only [List.setIfInBounds_toArray]); (try simp only [List.set_cons_succ]); (try simp only [List.set_cons_zero])
                  refine wpAnyH_take (i := 12) (oi := ⟨_, _, _, _, _, _⟩) (v := ?_) rfl (by kernel_rfl) (by kernel_rfl) (by kernel_rfl) (fun _ _ _ h => h) (Or.inl ⟨by rfl, ?_⟩) (by assumption) ?_
                  rotate_left 1
                  · intro w hSw; (try dsimp only at hSw); go_simp <;> with_reducible rfl
                  (try simp only [Act.put]); (try simp only [List.setIfInBounds_toArray]); (try simp only [List.set_cons_succ]); (try simp only [List.set_cons_zero])
                  refine wpAnyH_ready (rs := [4]) (by kernel_rfl) (by simp) ?_
                  refine AllReadyH.cons (o := ⟨_, _, _, _, _, _⟩) rfl (fun K hK => ?_) AllReadyH.nil
                  have y4 := hX.cell 4 (v := .slice ag st.flight.length cg) rfl
                  go_simp
                  clear y4
                  refine hK.out _ _ ?_ (fun hHeld => ?_)
                  · trivial
                  clear hK K
                  (try simp only [Act.put]); (try simp only [List.setIfInBounds_toArray]); (try simp only [List.set_cons_succ]); (try simp only [List.set_cons_zero])
                  refine wpAnyH_take (i := 5) (oi := ⟨_, _, _, _, _, _⟩) (v := ?_) rfl (by kernel_rfl) (by kernel_rfl) (by kernel_rfl) (fun _ _ _ h => h) (Or.inl ⟨by rfl, ?_⟩) (by assumption) ?_
                  rotate_left 1
                  · intro w hSw; (try dsimp only at hSw); go_simp <;> with_reducible rfl
                  (try simp only [Act.put]); (try simp only [List.setIfInBounds_toArray]); (try simp only [List.set_cons_succ]); (try simp only [List.set_cons_zero])
                  refine wpAnyH_take (i := 6) (oi := ⟨_, _, _, _, _, _⟩) (v := ?_) rfl (by kernel_rfl) (by kernel_rfl) (by kernel_rfl) (fun _ _ _ h => h) (Or.inl ⟨by rfl, ?_⟩) (by assumption) ?_
                  rotate_left 1
                  · intro w hSw; (try dsimp only at hSw); go_simp <;> with_reducible rfl
                  (try simp only [Act.put]); (try simp only [List.setIfInBounds_toArray]); (try simp only [List.set_cons_succ]); (try simp only [List.set_cons_zero])
                  refine wpAnyH_take (i := 13) (oi := ⟨_, _, _, _, _, _⟩) (v := ?_) rfl (by kernel_rfl) (by kernel_rfl) (by kernel_rfl) (fun _ _ _ h => h) (Or.inl ⟨by rfl, ?_⟩) (by assumption) ?_
                  rotate_left 1
                  · intro w hSw; (try dsimp only at hSw); go_simp <;> with_reducible rfl
                  (try simp only [Act.put]); (try simp only [List.setIfInBounds_toArray]); (try simp only [List.set_cons_succ]); (try simp only [List.set_cons_zero])
                  refine wpAnyH_ready (rs := [14]) (by kernel_rfl) (by simp) ?_
                  refine AllReadyH.cons (o := ⟨_, _, _, _, _, _⟩) rfl (fun K hK => ?_) AllReadyH.nil
                  go_simp
                  have hput := rputB_any n (by omega) ⟨n, byz, so, st⟩ rfl _ SB (cl9 - j) [x] w _ J hcv r1 (by have := HFL.out; dsimp only; omega) (by simp)
                  dsimp only at hput
                  rw [HPL.out] at hput
                  have HPUT := Lib.hid hput
                  clear hput
                  refine HPUT.out.mono ?_
                  rintro e W9 ⟨v9, rfl, hcv9, k9⟩
                  clear HPUT
                  replace hcv := hcv9
                  clear hcv9
                  replace hX := hX.keep k9
                  replace hBR := hBR.keep k9
                  replace J := J.trans k9
                  clear k9
                  have hcv0 := hcv
                  obtain ⟨an9, cn9, nas9, ag9, cg9, rfl, _, _, _, _⟩ := hcv0
                  unfold vCast at hcv ⊢
                  obtain ⟨L', hL'⟩ : ∃ L', L' = st.flight ++ [x] := ⟨_, rfl⟩
                  dsimp only at hcv ⊢
                  rw [← hL'] at hcv ⊢
                  have HL' := Lib.hid hL'
                  clear hL'
                  generalize W9 = W8 at *
                  refine hK.out _ _ ?_ (fun hHeld => ?_)
                  · trivial
                  clear hK K
                  (try simp only [Act.put]); (try simp only [List.setIfInBounds_toArray]); (try simp only [List.set_cons_succ]); (try simp only [List.set_cons_zero])
                  refine wpAnyH_ready (rs := [15]) (by kernel_rfl) (by simp) ?_
                  refine AllReadyH.cons (o := ⟨_, _, _, _, _, _⟩) rfl (fun K hK => ?_) AllReadyH.nil
                  obtain ⟨y0, y1, y2, y3, y4⟩ := Go.Proofs.YtbcfkgolhklkaaaDoor.c5 hX
                  obtain ⟨g0, g1, g2, g3, g4⟩ := f5 hX
                  go_simp
                  clear y0 y1 y2 y3 y4 g0 g1 g2 g3 g4
                  replace hcv := hcv.st5 hX (Nat.le_of_lt hlx) J (.int .i64 n) (.int .u16 (sv byz)) (.int .i64 so) (.slice an9 nas9.length cn9) (.slice ag9 L'.length cg9)
                  replace hBR := st5_other hBR (Nat.ne_of_lt hlx) (.int .i64 n) (.int .u16 (sv byz)) (.int .i64 so) (.slice an9 nas9.length cn9) (.slice ag9 L'.length cg9)
                  have hX9 := set5 hX (.int .i64 n) (.int .u16 (sv byz)) (.int .i64 so) (.slice an9 nas9.length cn9) (.slice ag9 L'.length cg9)
                  replace J := keeps_set5 J (Nat.le_of_lt hlx) (.int .i64 n) (.int .u16 (sv byz)) (.int .i64 so) (.slice an9 nas9.length cn9) (.slice ag9 L'.length cg9)
                  replace hX := hX9
                  clear hX9
                  unfold st5 at hX hBR hcv J
                  generalize ((((W8.setCell ⟨P1, 0, none⟩ (.int .i64 n)).setCell ⟨P1, 1, none⟩ (.int .u16 (sv byz))).setCell ⟨P1, 2, none⟩ (.int .i64 so)).setCell ⟨P1, 3, none⟩ (.slice an9 nas9.length cn9)).setCell ⟨P1, 4, none⟩ (.slice ag9 L'.length cg9) = V9 at *
                  refine hK.out _ _ ?_ (fun hHeld => ?_)
                  · trivial
                  clear hK K
                  (try simp only [Act.put]); (try simp only [List.setIfInBounds_toArray]); (try simp only [List.set_cons_succ]); (try simp only [List.set_cons_zero])
                  refine wpAnyH_done (by kernel_rfl) ?_ _
                  have HX := Lib.hid hX; have HBR := Lib.hid hBR; have HCV := Lib.hid hcv; have HJ := Lib.hid J
                  clear hX hBR hcv J r1
                  go_wp2_with fail
                  go_roundw
                  case rel => exact ⟨k + 1, an9, nas9, cn9, ag9, cg9, ⟨st.nodes, L'⟩, by omega, by go_num, HX.out, HBR.out, HCV.out, HJ.out, Lib.hid (by rw [HRUN.out, HDR.out]; show runS f b n byz LL (stepS f b n byz LL _ c) _ = _; rw [HSTEP.out, HL'.out]), Lib.hid (by rw [HL'.out]; exact dst_snoc HDS.out HXD.out), Lib.hid HSM.out, Lib.hid (by rw [HL'.out]; have h2 := HME.out; unfold measS at *; dsimp only at *; rw [List.length_append, List.length_singleton]; omega)⟩
                  case measure => simp [RowKit.intOf]; omega
              · have y4 := hX.cell 4 (v := .slice ag st.flight.length cg) rfl
                go_simp
                clear y4
                refine hK.out _ _ ?_ (fun hHeld => ?_)
                · trivial
                clear hK K
                (try simp only [Act.put]); (try simp only [List.setIfInBounds_toArray]); (try simp only [List.set_cons_succ]); (try simp only [List.set_cons_zero])
                refine wpAnyH_take (i := 5) (oi := ⟨_, _, _, _, _, _⟩) (v := ?_) rfl (by kernel_rfl) (by kernel_rfl) (by kernel_rfl) (fun _ _ _ h => h) (Or.inl ⟨by rfl, ?_⟩) (by assumption) ?_
                rotate_left 1
                · intro w hSw; (try dsimp only at hSw); go_simp <;> with_reducible rfl
                (try simp only [Act.put]); (try simp only [List.setIfInBounds_toArray]); (try simp only [List.set_cons_succ]); (try simp only [List.set_cons_zero])
                refine wpAnyH_take (i := 6) (oi := ⟨_, _, _, _, _, _⟩) (v := ?_) rfl (by kernel_rfl) (by kernel_rfl) (by kernel_rfl) (fun _ _ _ h => h) (Or.inl ⟨by rfl, ?_⟩) (by assumption) ?_
                rotate_left 1
                · intro w hSw; (try dsimp only at hSw); go_simp <;> with_reducible rfl
                (try simp only [Act.put]); (try simp only [List.setIfInBounds_toArray]); (try simp only [List.set_cons_succ]); (try simp only [List.set_cons_zero])
                refine wpAnyH_ready (rs := [0, 9]) (by kernel_rfl) (by simp) ?_
                refine AllReadyH.cons (o := ⟨_, _, _, _, _, _⟩) rfl (fun K hK => ?_) (AllReadyH.cons (o := ⟨_, _, _, _, _, _⟩) rfl (fun K hK => ?_) AllReadyH.nil)
                · obtain ⟨y0, y1, y2, y3, y4⟩ := Go.Proofs.YtbcfkgolhklkaaaDoor.c5 hX
                  go_simp
                  clear y0 y1 y2 y3 y4
                  refine hK.out _ _ ?_ (fun hHeld => ?_)
                  · trivial
                  clear hK K
                  (try simp only [Act.put]); (try simp only [List.setIfInBounds_toArray]); (try simp only [List.set_cons_succ]); (try simp only [List.set_cons_zero])
                  refine wpAnyH_ready (rs := [9]) (by kernel_rfl) (by simp) ?_
                  refine AllReadyH.cons (o := ⟨_, _, _, _, _, _⟩) rfl (fun K hK => ?_) AllReadyH.nil
                  have y4 := hX.cell 4 (v := .slice ag st.flight.length cg) rfl
                  go_simp
                  clear y4
                  refine hK.out _ _ ?_ (fun hHeld => ?_)
                  · trivial
                  clear hK K
                  (try simp only [Act.put]); (try simp only [List.setIfInBounds_toArray]); (try simp only [List.set_cons_succ]); (try simp only [List.set_cons_zero])
                  refine wpAnyH_take (i := 10) (oi := ⟨_, _, _, _, _, _⟩) (v := ?_) rfl (by kernel_rfl) (by kernel_rfl) (by kernel_rfl) (fun _ _ _ h => h) (Or.inl ⟨by rfl, ?_⟩) (by assumption) ?_
                  rotate_left 1
                  · intro w hSw; (try dsimp only at hSw); go_simp <;> with_reducible rfl
                  (try simp only [Act.put]); (try simp only [List.setIfInBounds_toArray]); (try simp only [List.set_cons_succ]); (try simp only [List.set_cons_zero])
                  refine wpAnyH_take (i := 11) (oi := ⟨_, _, _, _, _, _⟩) (v := ?_) rfl (by kernel_rfl) (by kernel_rfl) (by kernel_rfl) (fun _ _ _ h => h) (Or.inl ⟨by rfl, ?_⟩) (by assumption) ?_
                  rotate_left 1
                  · intro w hSw; (try dsimp only at hSw); go_simp <;> with_reducible rfl
                  (try simp only [Act.put]); (try simp only [List.setIfInBounds_toArray]); (try simp only [List.set_cons_succ]); (try simp only [List.set_cons_zero])
                  refine wpAnyH_take (i := 12) (oi := ⟨_, _, _, _, _, _⟩) (v := ?_) rfl (by kernel_rfl) (by kernel_rfl) (by kernel_rfl) (fun _ _ _ h => h) (Or.inl ⟨by rfl, ?_⟩) (by assumption) ?_
                  rotate_left 1
                  · intro w hSw; (try dsimp only at hSw); go_simp <;> with_reducible rfl
                  (try simp only [Act.put]); (try simp only [List.setIfInBounds_toArray]); (try simp only [List.set_cons_succ]); (try simp only [List.set_cons_zero])
                  refine wpAnyH_take (i := 13) (oi := ⟨_, _, _, _, _, _⟩) (v := ?_) rfl (by kernel_rfl) (by kernel_rfl) (by kernel_rfl) (fun _ _ _ h => h) (Or.inl ⟨by rfl, ?_⟩) (by assumption) ?_
                  rotate_left 1
                  · intro w hSw; (try dsimp only at hSw); go_simp <;> with_reducible rfl
                  (try simp only [Act.put]); (try simp only [List.setIfInBounds_toArray]); (try simp only [List.set_cons_succ]); (try simp only [List.set_cons_zero])
                  refine wpAnyH_ready (rs := [14]) (by kernel_rfl) (by simp) ?_
                  refine AllReadyH.cons (o := ⟨_, _, _, _, _, _⟩) rfl (fun K hK => ?_) AllReadyH.nil
                  go_simp
                  have hput := rputB_any n (by omega) ⟨n, byz, so, st⟩ rfl _ SB (cl9 - j) [x] w _ J hcv r1 (by have := HFL.out; dsimp only; omega) (by simp)
                  dsimp only at hput
                  rw [HPL.out] at hput
                  have HPUT := Lib.hid hput
                  clear hput
                  refine HPUT.out.mono ?_
                  rintro e W9 ⟨v9, rfl, hcv9, k9⟩
                  clear HPUT
                  replace hcv := hcv9
                  clear hcv9
                  replace hX := hX.keep k9
                  replace hBR := hBR.keep k9
                  replace J := J.trans k9
                  clear k9
                  have hcv0 := hcv
                  obtain ⟨an9, cn9, nas9, ag9, cg9, rfl, _, _, _, _⟩ := hcv0
                  unfold vCast at hcv ⊢
                  obtain ⟨L', hL'⟩ : ∃ L', L' = st.flight ++ [x] := ⟨_, rfl⟩
                  dsimp only at hcv ⊢
                  rw [← hL'] at hcv ⊢
                  have HL' := Lib.hid hL'
                  clear hL'
                  generalize W9 = W8 at *
                  refine hK.out _ _ ?_ (fun hHeld => ?_)
                  · trivial
                  clear hK K
                  (try simp only [Act.put]); (try simp only [List.setIfInBounds_toArray]); (try simp only [List.set_cons_succ]); (try simp only [List.set_cons_zero])
                  refine wpAnyH_ready (rs := [15]) (by kernel_rfl) (by simp) ?_
                  refine AllReadyH.cons (o := ⟨_, _, _, _, _, _⟩) rfl (fun K hK => ?_) AllReadyH.nil
                  obtain ⟨y0, y1, y2, y3, y4⟩ := Go.Proofs.YtbcfkgolhklkaaaDoor.c5 hX
                  obtain ⟨g0, g1, g2, g3, g4⟩ := f5 hX
                  go_simp
                  clear y0 y1 y2 y3 y4 g0 g1 g2 g3 g4
                  replace hcv := hcv.st5 hX (Nat.le_of_lt hlx) J (.int .i64 n) (.int .u16 (sv byz)) (.int .i64 so) (.slice an9 nas9.length cn9) (.slice ag9 L'.length cg9)
                  replace hBR := st5_other hBR (Nat.ne_of_lt hlx) (.int .i64 n) (.int .u16 (sv byz)) (.int .i64 so) (.slice an9 nas9.length cn9) (.slice ag9 L'.length cg9)
                  have hX9 := set5 hX (.int .i64 n) (.int .u16 (sv byz)) (.int .i64 so) (.slice an9 nas9.length cn9) (.slice ag9 L'.length cg9)
                  replace J := keeps_set5 J (Nat.le_of_lt hlx) (.int .i64 n) (.int .u16 (sv byz)) (.int .i64 so) (.slice an9 nas9.length cn9) (.slice ag9 L'.length cg9)
                  replace hX := hX9
                  clear hX9
                  unfold st5 at hX hBR hcv J
                  generalize ((((W8.setCell ⟨P1, 0, none⟩ (.int .i64 n)).setCell ⟨P1, 1, none⟩ (.int .u16 (sv byz))).setCell ⟨P1, 2, none⟩ (.int .i64 so)).setCell ⟨P1, 3, none⟩ (.slice an9 nas9.length cn9)).setCell ⟨P1, 4, none⟩ (.slice ag9 L'.length cg9) = V9 at *
                  refine hK.out _ _ ?_ (fun hHeld => ?_)
                  · trivial
                  clear hK K
                  (try simp only [Act.put]); (try simp only [List.setIfInBounds_toArray]); (try simp only [List.set_cons_succ]); (try simp only [List.set_cons_zero])
                  refine wpAnyH_done (by kernel_rfl) ?_ _
                  have HX := Lib.hid hX; have HBR := Lib.hid hBR; have HCV := Lib.hid hcv; have HJ := Lib.hid J
                  clear hX hBR hcv J r1
                  go_wp2_with fail
                  go_roundw
                  case rel => exact ⟨k + 1, an9, nas9, cn9, ag9, cg9, ⟨st.nodes, L'⟩, by omega, by go_num, HX.out, HBR.out, HCV.out, HJ.out, Lib.hid (by rw [HRUN.out, HDR.out]; show runS f b n byz LL (stepS f b n byz LL _ c) _ = _; rw [HSTEP.out, HL'.out]), Lib.hid (by rw [HL'.out]; exact dst_snoc HDS.out HXD.out), Lib.hid HSM.out, Lib.hid (by rw [HL'.out]; have h2 := HME.out; unfold measS at *; dsimp only at *; rw [List.length_append, List.length_singleton]; omega)⟩
                  case measure => simp [RowKit.intOf]; omega
                · have y4 := hX.cell 4 (v := .slice ag st.flight.length cg) rfl
                  go_simp
                  clear y4
                  refine hK.out _ _ ?_ (fun hHeld => ?_)
                  · trivial
                  clear hK K
                  (try simp only [Act.put]); (try simp only [List.setIfInBounds_toArray]); (try simp only [List.set_cons_succ]); (try simp only [List.set_cons_zero])
                  refine wpAnyH_take (i := 10) (oi := ⟨_, _, _, _, _, _⟩) (v := ?_) rfl (by kernel_rfl) (by kernel_rfl) (by kernel_rfl) (fun _ _ _ h => h) (Or.inl ⟨by rfl, ?_⟩) (by assumption) ?_
                  rotate_left 1
                  · intro w hSw; (try dsimp only at hSw); go_simp <;> with_reducible rfl
                  (try simp only [Act.put]); (try simp only [List.setIfInBounds_toArray]); (try simp only [List.set_cons_succ]); (try simp only [List.set_cons_zero])
                  refine wpAnyH_take (i := 11) (oi := ⟨_, _, _, _, _, _⟩) (v := ?_) rfl (by kernel_rfl) (by kernel_rfl) (by kernel_rfl) (fun _ _ _ h => h) (Or.inl ⟨by rfl, ?_⟩) (by assumption) ?_
                  rotate_left 1
                  · intro w hSw; (try dsimp only at hSw); go_simp <;> with_reducible rfl
                  (try simp only [Act.put]); (try simp only [List.setIfInBounds_toArray]); (try simp only [List.set_cons_succ]); (try simp only [List.set_cons_zero])
                  refine wpAnyH_take (i := 12) (oi := ⟨_, _, _, _, _, _⟩) (v := ?_) rfl (by kernel_rfl) (by kernel_rfl) (by kernel_rfl) (fun _ _ _ h => h) (Or.inl ⟨by rfl, ?_⟩) (by assumption) ?_
                  rotate_left 1
                  · intro w hSw; (try dsimp only at hSw); go_simp <;> with_reducible rfl
                  (try simp only [Act.put]); (try simp only [List.setIfInBounds_toArray]); (try simp only [List.set_cons_succ]); (try simp only [List.set_cons_zero])
                  refine wpAnyH_take (i := 13) (oi := ⟨_, _, _, _, _, _⟩) (v := ?_) rfl (by kernel_rfl) (by kernel_rfl) (by kernel_rfl) (fun _ _ _ h => h) (Or.inl ⟨by rfl, ?_⟩) (by assumption) ?_
                  rotate_left 1
                  · intro w hSw; (try dsimp only at hSw); go_simp <;> with_reducible rfl
                  (try simp only [Act.put]); (try simp only [List.setIfInBounds_toArray]); (try simp only [List.set_cons_succ]); (try simp only [List.set_cons_zero])
                  refine wpAnyH_ready (rs := [0]) (by kernel_rfl) (by simp) ?_
                  refine AllReadyH.cons (o := ⟨_, _, _, _, _, _⟩) rfl (fun K hK => ?_) AllReadyH.nil
                  obtain ⟨y0, y1, y2, y3, y4⟩ := Go.Proofs.YtbcfkgolhklkaaaDoor.c5 hX
                  go_simp
                  clear y0 y1 y2 y3 y4
                  refine hK.out _ _ ?_ (fun hHeld => ?_)
                  · trivial
                  clear hK K
                  (try simp only [Act.put]); (try simp only [List.setIfInBounds_toArray]); (try simp only [List.set_cons_succ]); (try simp only [List.set_cons_zero])
                  refine wpAnyH_ready (rs := [14]) (by kernel_rfl) (by simp) ?_
                  refine AllReadyH.cons (o := ⟨_, _, _, _, _, _⟩) rfl (fun K hK => ?_) AllReadyH.nil
                  go_simp
                  have hput := rputB_any n (by omega) ⟨n, byz, so, st⟩ rfl _ SB (cl9 - j) [x] w _ J hcv r1 (by have := HFL.out; dsimp only; omega) (by simp)
                  dsimp only at hput
                  rw [HPL.out] at hput
                  have HPUT := Lib.hid hput
                  clear hput
                  refine HPUT.out.mono ?_
                  rintro e W9 ⟨v9, rfl, hcv9, k9⟩
                  clear HPUT
                  replace hcv := hcv9
                  clear hcv9
                  replace hX := hX.keep k9
                  replace hBR := hBR.keep k9
                  replace J := J.trans k9
                  clear k9
                  have hcv0 := hcv
                  obtain ⟨an9, cn9, nas9, ag9, cg9, rfl, _, _, _, _⟩ := hcv0
                  unfold vCast at hcv ⊢
                  obtain ⟨L', hL'⟩ : ∃ L', L' = st.flight ++ [x] := ⟨_, rfl⟩
                  dsimp only at hcv ⊢
                  rw [← hL'] at hcv ⊢
                  have HL' := Lib.hid hL'
                  clear hL'
                  generalize W9 = W8 at *
                  refine hK.out _ _ ?_ (fun hHeld => ?_)
                  · trivial
                  clear hK K
                  (try simp only [Act.put]); (try simp only [List.setIfInBounds_toArray]); (try simp only [List.set_cons_succ]); (try simp only [List.set_cons_zero])
                  refine wpAnyH_ready (rs := [15]) (by kernel_rfl) (by simp) ?_
                  refine AllReadyH.cons (o := ⟨_, _, _, _, _, _⟩) rfl (fun K hK => ?_) AllReadyH.nil
                  obtain ⟨y0, y1, y2, y3, y4⟩ := Go.Proofs.YtbcfkgolhklkaaaDoor.c5 hX
                  obtain ⟨g0, g1, g2, g3, g4⟩ := f5 hX
                  go_simp
                  clear y0 y1 y2 y3 y4 g0 g1 g2 g3 g4
                  replace hcv := hcv.st5 hX (Nat.le_of_lt hlx) J (.int .i64 n) (.int .u16 (sv byz)) (.int .i64 so) (.slice an9 nas9.length cn9) (.slice ag9 L'.length cg9)
                  replace hBR := st5_other hBR (Nat.ne_of_lt hlx) (.int .i64 n) (.int .u16 (sv byz)) (.int .i64 so) (.slice an9 nas9.length cn9) (.slice ag9 L'.length cg9)
                  have hX9 := set5 hX (.int .i64 n) (.int .u16 (sv byz)) (.int .i64 so) (.slice an9 nas9.length cn9) (.slice ag9 L'.length cg9)
                  replace J := keeps_set5 J (Nat.le_of_lt hlx) (.int .i64 n) (.int .u16 (sv byz)) (.int .i64 so) (.slice an9 nas9.length cn9) (.slice ag9 L'.length cg9)
                  replace hX := hX9
                  clear hX9
                  unfold st5 at hX hBR hcv J
                  generalize ((((W8.setCell ⟨P1, 0, none⟩ (.int .i64 n)).setCell ⟨P1, 1, none⟩ (.int .u16 (sv byz))).setCell ⟨P1, 2, none⟩ (.int .i64 so)).setCell ⟨P1, 3, none⟩ (.slice an9 nas9.length cn9)).setCell ⟨P1, 4, none⟩ (.slice ag9 L'.length cg9) = V9 at *
                  refine hK.out _ _ ?_ (fun hHeld => ?_)
                  · trivial
                  clear hK K
                  (try simp only [Act.put]); (try simp only [List.setIfInBounds_toArray]); (try simp only [List.set_cons_succ]); (try simp only [List.set_cons_zero])
                  refine wpAnyH_done (by kernel_rfl) ?_ _
                  have HX := Lib.hid hX; have HBR := Lib.hid hBR; have HCV := Lib.hid hcv; have HJ := Lib.hid J
                  clear hX hBR hcv J r1
                  go_wp2_with fail
                  go_roundw
                  case rel => exact ⟨k + 1, an9, nas9, cn9, ag9, cg9, ⟨st.nodes, L'⟩, by omega, by go_num, HX.out, HBR.out, HCV.out, HJ.out, Lib.hid (by rw [HRUN.out, HDR.out]; show runS f b n byz LL (stepS f b n byz LL _ c) _ = _; rw [HSTEP.out, HL'.out]), Lib.hid (by rw [HL'.out]; exact dst_snoc HDS.out HXD.out), Lib.hid HSM.out, Lib.hid (by rw [HL'.out]; have h2 := HME.out; unfold measS at *; dsimp only at *; rw [List.length_append, List.length_singleton]; omega)⟩
                  case measure => simp [RowKit.intOf]; omega
              · have y4 := hX.cell 4 (v := .slice ag st.flight.length cg) rfl
                go_simp
                clear y4
                refine hK.out _ _ ?_ (fun hHeld => ?_)
                · trivial
                clear hK K
                (try simp only [Act.put]); (try simp only [List.setIfInBounds_toArray]); (try simp only [List.set_cons_succ]); (try simp only [List.set_cons_zero])
                refine wpAnyH_take (i := 10) (oi := ⟨_, _, _, _, _, _⟩) (v := ?_) rfl (by kernel_rfl) (by kernel_rfl) (by kernel_rfl) (fun _ _ _ h => h) (Or.inl ⟨by rfl, ?_⟩) (by assumption) ?_
                rotate_left 1
                · intro w hSw; (try dsimp only at hSw); go_simp <;> with_reducible rfl
                (try simp only [Act.put]); (try simp only [List.setIfInBounds_toArray]); (try simp only [List.set_cons_succ]); (try simp only [List.set_cons_zero])
                refine wpAnyH_take (i := 11) (oi := ⟨_, _, _, _, _, _⟩) (v := ?_) rfl (by kernel_rfl) (by kernel_rfl) (by kernel_rfl) (fun _ _ _ h => h) (Or.inl ⟨by rfl, ?_⟩) (by assumption) ?_
                rotate_left 1
                · intro w hSw; (try dsimp only at hSw); go_simp <;> with_reducible rfl
                (try simp only [Act.put]); (try simp only [List.setIfInBounds_toArray]); (try simp only [List.set_cons_succ]); (try simp only [List.set_cons_zero])
                refine wpAnyH_take (i := 12) (oi := ⟨_, _, _, _, _, _⟩) (v := ?_) rfl (by kernel_rfl) (by kernel_rfl) (by kernel_rfl) (fun _ _ _ h => h) (Or.inl ⟨by rfl, ?_⟩) (by assumption) ?_
                rotate_left 1
                · intro w hSw; (try dsimp only at hSw); go_simp <;> with_reducible rfl
                (try simp only [Act.put]); (try simp only [List.setIfInBounds_toArray]); (try simp only [List.set_cons_succ]); (try simp only [List.set_cons_zero])
                refine wpAnyH_ready (rs := [0, 4]) (by kernel_rfl) (by simp) ?_
                refine AllReadyH.cons (o := ⟨_, _, _, _, _, _⟩) rfl (fun K hK => ?_) (AllReadyH.cons (o := ⟨_, _, _, _, _, _⟩) rfl (fun K hK => ?_) AllReadyH.nil)
                · obtain ⟨y0, y1, y2, y3, y4⟩ := Go.Proofs.YtbcfkgolhklkaaaDoor.c5 hX
                  go_simp
                  clear y0 y1 y2 y3 y4
                  refine hK.out _ _ ?_ (fun hHeld => ?_)
                  · trivial
                  clear hK K
                  (try simp only [Act.put]); (try simp only [List.setIfInBounds_toArray]); (try simp only [List.set_cons_succ]); (try simp only [List.set_cons_zero])
                  refine wpAnyH_ready (rs := [4]) (by kernel_rfl) (by simp) ?_
                  refine AllReadyH.cons (o := ⟨_, _, _, _, _, _⟩) rfl (fun K hK => ?_) AllReadyH.nil
                  have y4 := hX.cell 4 (v := .slice ag st.flight.length cg) rfl
                  go_simp
                  clear y4
                  refine hK.out _ _ ?_ (fun hHeld => ?_)
                  · trivial
                  clear hK K
                  (try simp only [Act.put]); (try simp only [List.setIfInBounds_toArray]); (try simp only [List.set_cons_succ]); (try simp only [List.set_cons_zero])
                  refine wpAnyH_take (i := 5) (oi := ⟨_, _, _, _, _, _⟩) (v := ?_) rfl (by kernel_rfl) (by kernel_rfl) (by kernel_rfl) (fun _ _ _ h => h) (Or.inl ⟨by rfl, ?_⟩) (by assumption) ?_
                  rotate_left 1
                  · intro w hSw; (try dsimp only at hSw); go_simp <;> with_reducible rfl
                  (try simp only [Act.put]); (try simp only [List.setIfInBounds_toArray]); (try simp only [List.set_cons_succ]); (try simp only [List.set_cons_zero])
                  refine wpAnyH_take (i := 6) (oi := ⟨_, _, _, _, _, _⟩) (v := ?_) rfl (by kernel_rfl) (by kernel_rfl) (by kernel_rfl) (fun _ _ _ h => h) (Or.inl ⟨by rfl, ?_⟩) (by assumption) ?_
                  rotate_left 1
                  · intro w hSw; (try dsimp only at hSw); go_simp <;> with_reducible rfl
                  (try simp only [Act.put]); (try simp only [List.setIfInBounds_toArray]); (try simp only [List.set_cons_succ]); (try simp only [List.set_cons_zero])
                  refine wpAnyH_take (i := 13) (oi := ⟨_, _, _, _, _, _⟩) (v := ?_) rfl (by kernel_rfl) (by kernel_rfl) (by kernel_rfl) (fun _ _ _ h => h) (Or.inl ⟨by rfl, ?_⟩) (by assumption) ?_
                  rotate_left 1
                  · intro w hSw; (try dsimp only at hSw); go_simp <;> with_reducible rfl
                  (try simp only [Act.put]); (try simp only [List.setIfInBounds_toArray]); (try simp only [List.set_cons_succ]); (try simp only [List.set_cons_zero])
                  refine wpAnyH_ready (rs := [14]) (by kernel_rfl) (by simp) ?_
                  refine AllReadyH.cons (o := ⟨_, _, _, _, _, _⟩) rfl (fun K hK => ?_) AllReadyH.nil
                  go_simp
                  have hput := rputB_any n (by omega) ⟨n, byz, so, st⟩ rfl _ SB (cl9 - j) [x] w _ J hcv r1 (by have := HFL.out; dsimp only; omega) (by simp)
                  dsimp only at hput
                  rw [HPL.out] at hput
                  have HPUT := Lib.hid hput
                  clear hput
                  refine HPUT.out.mono ?_
                  rintro e W9 ⟨v9, rfl, hcv9, k9⟩
                  clear HPUT
                  replace hcv := hcv9
                  clear hcv9
                  replace hX := hX.keep k9
                  replace hBR := hBR.keep k9
                  replace J := J.trans k9
                  clear k9
                  have hcv0 := hcv
                  obtain ⟨an9, cn9, nas9, ag9, cg9, rfl, _, _, _, _⟩ := hcv0
                  unfold vCast at hcv ⊢
                  obtain ⟨L', hL'⟩ : ∃ L', L' = st.flight ++ [x] := ⟨_, rfl⟩
                  dsimp only at hcv ⊢
                  rw [← hL'] at hcv ⊢
                  have HL' := Lib.hid hL'
                  clear hL'
                  generalize W9 = W8 at *
                  refine hK.out _ _ ?_ (fun hHeld => ?_)
                  · trivial
                  clear hK K
                  (try simp only [Act.put]); (try simp only [List.setIfInBounds_toArray]); (try simp only [List.set_cons_succ]); (try simp only [List.set_cons_zero])
                  refine wpAnyH_ready (rs := [15]) (by kernel_rfl) (by simp) ?_
                  refine AllReadyH.cons (o := ⟨_, _, _, _, _, _⟩) rfl (fun K hK => ?_) AllReadyH.nil
                  obtain ⟨y0, y1, y2, y3, y4⟩ := Go.Proofs.YtbcfkgolhklkaaaDoor.c5 hX
                  obtain ⟨g0, g1, g2, g3, g4⟩ := f5 hX
                  go_simp
                  clear y0 y1 y2 y3 y4 g0 g1 g2 g3 g4
                  replace hcv := hcv.st5 hX (Nat.le_of_lt hlx) J (.int .i64 n) (.int .u16 (sv byz)) (.int .i64 so) (.slice an9 nas9.length cn9) (.slice ag9 L'.length cg9)
                  replace hBR := st5_other hBR (Nat.ne_of_lt hlx) (.int .i64 n) (.int .u16 (sv byz)) (.int .i64 so) (.slice an9 nas9.length cn9) (.slice ag9 L'.length cg9)
                  have hX9 := set5 hX (.int .i64 n) (.int .u16 (sv byz)) (.int .i64 so) (.slice an9 nas9.length cn9) (.slice ag9 L'.length cg9)
                  replace J := keeps_set5 J (Nat.le_of_lt hlx) (.int .i64 n) (.int .u16 (sv byz)) (.int .i64 so) (.slice an9 nas9.length cn9) (.slice ag9 L'.length cg9)
                  replace hX := hX9
                  clear hX9
                  unfold st5 at hX hBR hcv J
                  generalize ((((W8.setCell ⟨P1, 0, none⟩ (.int .i64 n)).setCell ⟨P1, 1, none⟩ (.int .u16 (sv byz))).setCell ⟨P1, 2, none⟩ (.int .i64 so)).setCell ⟨P1, 3, none⟩ (.slice an9 nas9.length cn9)).setCell ⟨P1, 4, none⟩ (.slice ag9 L'.length cg9) = V9 at *
                  refine hK.out _ _ ?_ (fun hHeld => ?_)
                  · trivial
                  clear hK K
                  (try simp only [Act.put]); (try simp only [List.setIfInBounds_toArray]); (try simp only [List.set_cons_succ]); (try simp only [List.set_cons_zero])
                  refine wpAnyH_done (by kernel_rfl) ?_ _
                  have HX := Lib.hid hX; have HBR := Lib.hid hBR; have HCV := Lib.hid hcv; have HJ := Lib.hid J
                  clear hX hBR hcv J r1
                  go_wp2_with fail
                  go_roundw
                  case rel => exact ⟨k + 1, an9, nas9, cn9, ag9, cg9, ⟨st.nodes, L'⟩, by omega, by go_num, HX.out, HBR.out, HCV.out, HJ.out, Lib.hid (by rw [HRUN.out, HDR.out]; show runS f b n byz LL (stepS f b n byz LL _ c) _ = _; rw [HSTEP.out, HL'.out]), Lib.hid (by rw [HL'.out]; exact dst_snoc HDS.out HXD.out), Lib.hid HSM.out, Lib.hid (by rw [HL'.out]; have h2 := HME.out; unfold measS at *; dsimp only at *; rw [List.length_append, List.length_singleton]; omega)⟩
                  case measure => simp [RowKit.intOf]; omega
                · have y4 := hX.cell 4 (v := .slice ag st.flight.length cg) rfl
                  go_simp
                  clear y4
                  refine hK.out _ _ ?_ (fun hHeld => ?_)
                  · trivial
                  clear hK K
                  (try simp only [Act.put]); (try simp only [List.setIfInBounds_toArray]); (try simp only [List.set_cons_succ]); (try simp only [List.set_cons_zero])
                  refine wpAnyH_take (i := 5) (oi := ⟨_, _, _, _, _, _⟩) (v := ?_) rfl (by kernel_rfl) (by kernel_rfl) (by kernel_rfl) (fun _ _ _ h => h) (Or.inl ⟨by rfl, ?_⟩) (by assumption) ?_
                  rotate_left 1
                  · intro w hSw; (try dsimp only at hSw); go_simp <;> with_reducible rfl
                  (try simp only [Act.put]); (try simp only [List.setIfInBounds_toArray]); (try simp only [List.set_cons_succ]); (try simp only [List.set_cons_zero])
                  refine wpAnyH_take (i := 6) (oi := ⟨_, _, _, _, _, _⟩) (v := ?_) rfl (by kernel_rfl) (by kernel_rfl) (by kernel_rfl) (fun _ _ _ h => h) (Or.inl ⟨by rfl, ?_⟩) (by assumption) ?_
                  rotate_left 1
                  · intro w hSw; (try dsimp only at hSw); go_simp <;> with_reducible rfl
                  (try simp only [Act.put]); (try simp only [List.setIfInBounds_toArray]); (try simp only [List.set_cons_succ]); (try simp only [List.set_cons_zero])
                  refine wpAnyH_take (i := 13) (oi := ⟨_, _, _, _, _, _⟩) (v := ?_) rfl (by kernel_rfl) (by kernel_rfl) (by kernel_rfl) (fun _ _ _ h => h) (Or.inl ⟨by rfl, ?_⟩) (by assumption) ?_
                  rotate_left 1
                  · intro w hSw; (try dsimp only at hSw); go_simp <;> with_reducible rfl
                  (try simp only [Act.put]); (try simp only [List.setIfInBounds_toArray]); (try simp only [List.set_cons_succ]); (try simp only [List.set_cons_zero])
                  refine wpAnyH_ready (rs := [0]) (by kernel_rfl) (by simp) ?_
                  refine AllReadyH.cons (o := ⟨_, _, _, _, _, _⟩) rfl (fun K hK => ?_) AllReadyH.nil
                  obtain ⟨y0, y1, y2, y3, y4⟩ := Go.Proofs.YtbcfkgolhklkaaaDoor.c5 hX
                  go_simp
                  clear y0 y1 y2 y3 y4
                  refine hK.out _ _ ?_ (fun hHeld => ?_)
                  · trivial
                  clear hK K
                  (try simp only [Act.put]); (try simp only [List.setIfInBounds_toArray]); (try simp only [List.set_cons_succ]); (try simp only [List.set_cons_zero])
                  refine wpAnyH_ready (rs := [14]) (by kernel_rfl) (by simp) ?_
                  refine AllReadyH.cons (o := ⟨_, _, _, _, _, _⟩) rfl (fun K hK => ?_) AllReadyH.nil
                  go_simp
                  have hput := rputB_any n (by omega) ⟨n, byz, so, st⟩ rfl _ SB (cl9 - j) [x] w _ J hcv r1 (by have := HFL.out; dsimp only; omega) (by simp)
                  dsimp only at hput
                  rw [HPL.out] at hput
                  have HPUT := Lib.hid hput
                  clear hput
                  refine HPUT.out.mono ?_
                  rintro e W9 ⟨v9, rfl, hcv9, k9⟩
                  clear HPUT
                  replace hcv := hcv9
                  clear hcv9
                  replace hX := hX.keep k9
                  replace hBR := hBR.keep k9
                  replace J := J.trans k9
                  clear k9
                  have hcv0 := hcv
                  obtain ⟨an9, cn9, nas9, ag9, cg9, rfl, _, _, _, _⟩ := hcv0
                  unfold vCast at hcv ⊢
                  obtain ⟨L', hL'⟩ : ∃ L', L' = st.flight ++ [x] := ⟨_, rfl⟩
                  dsimp only at hcv ⊢
                  rw [← hL'] at hcv ⊢
                  have HL' := Lib.hid hL'
                  clear hL'
                  generalize W9 = W8 at *
                  refine hK.out _ _ ?_ (fun hHeld => ?_)
                  · trivial
                  clear hK K
                  (try simp only [Act.put]); (try simp only [List.setIfInBounds_toArray]); (try simp only [List.set_cons_succ]); (try simp only [List.set_cons_zero])
                  refine wpAnyH_ready (rs := [15]) (by kernel_rfl) (by simp) ?_
                  refine AllReadyH.cons (o := ⟨_, _, _, _, _, _⟩) rfl (fun K hK => ?_) AllReadyH.nil
                  obtain ⟨y0, y1, y2, y3, y4⟩ := Go.Proofs.YtbcfkgolhklkaaaDoor.c5 hX
                  obtain ⟨g0, g1, g2, g3, g4⟩ := f5 hX
                  go_simp
                  clear y0 y1 y2 y3 y4 g0 g1 g2 g3 g4
                  replace hcv := hcv.st5 hX (Nat.le_of_lt hlx) J (.int .i64 n) (.int .u16 (sv byz)) (.int .i64 so) (.slice an9 nas9.length cn9) (.slice ag9 L'.length cg9)
                  replace hBR := st5_other hBR (Nat.ne_of_lt hlx) (.int .i64 n) (.int .u16 (sv byz)) (.int .i64 so) (.slice an9 nas9.length cn9) (.slice ag9 L'.length cg9)
                  have hX9 := set5 hX (.int .i64 n) (.int .u16 (sv byz)) (.int .i64 so) (.slice an9 nas9.length cn9) (.slice ag9 L'.length cg9)
                  replace J := keeps_set5 J (Nat.le_of_lt hlx) (.int .i64 n) (.int .u16 (sv byz)) (.int .i64 so) (.slice an9 nas9.length cn9) (.slice ag9 L'.length cg9)
                  replace hX := hX9
                  clear hX9
                  unfold st5 at hX hBR hcv J
                  generalize ((((W8.setCell ⟨P1, 0, none⟩ (.int .i64 n)).setCell ⟨P1, 1, none⟩ (.int .u16 (sv byz))).setCell ⟨P1, 2, none⟩ (.int .i64 so)).setCell ⟨P1, 3, none⟩ (.slice an9 nas9.length cn9)).setCell ⟨P1, 4, none⟩ (.slice ag9 L'.length cg9) = V9 at *
                  refine hK.out _ _ ?_ (fun hHeld => ?_)
                  · trivial
                  clear hK K
                  (try simp only [Act.put]); (try simp only [List.setIfInBounds_toArray]); (try simp only [List.set_cons_succ]); (try simp only [List.set_cons_zero])
                  refine wpAnyH_done (by kernel_rfl) ?_ _
                  have HX := Lib.hid hX; have HBR := Lib.hid hBR; have HCV := Lib.hid hcv; have HJ := Lib.hid J
                  clear hX hBR hcv J r1
                  go_wp2_with fail
                  go_roundw
                  case rel => exact ⟨k + 1, an9, nas9, cn9, ag9, cg9, ⟨st.nodes, L'⟩, by omega, by go_num, HX.out, HBR.out, HCV.out, HJ.out, Lib.hid (by rw [HRUN.out, HDR.out]; show runS f b n byz LL (stepS f b n byz LL _ c) _ = _; rw [HSTEP.out, HL'.out]), Lib.hid (by rw [HL'.out]; exact dst_snoc HDS.out HXD.out), Lib.hid HSM.out, Lib.hid (by rw [HL'.out]; have h2 := HME.out; unfold measS at *; dsimp only at *; rw [List.length_append, List.length_singleton]; omega)⟩
                  case measure => simp [RowKit.intOf]; omega
        · have e1 : k = chs.length := by omega
          subst e1
          have HX := Lib.hid hX; have HBR := Lib.hid hBR; have HCV := Lib.hid hcv; have HJ := Lib.hid J
          obtain ⟨y0, y1, y2, y3, y4⟩ := Go.Proofs.YtbcfkgolhklkaaaDoor.c5 hX
          obtain ⟨d0, d1, d2, d3, d4⟩ := Go.Proofs.YtbcfkgolhklkaaaDoor.c5 hBR
          obtain ⟨g0, g1, g2, g3, g4⟩ := f5 hBR
          clear hX hBR hcv J
          go_wp2_with fail
          clear y0 y1 y2 y3 y4 d0 d1 d2 d3 d4 g0 g1 g2 g3 g4
          have he : RS = st := by rw [HRUN.out, List.drop_length]; rfl
          subst he
          exact bodyPost_ret (resCast (byz := byz) rfl (set5 HBR.out _ _ _ _ _) rfl rfl) rfl ⟨keeps_set5 HJ.out (Nat.le_refl _) _ _ _ _ _, _, by rw [HE.out]; rfl, by rw [if_pos HE.out]; exact (HCV.out.st5 HBR.out (Nat.le_refl _) HJ.out _ _ _ _ _).toC⟩
  · have hcb : (ck != 0) = true := by simpa using hc0
    have HE : Hid (er = ck) := Lib.hid (by rw [HLE.out]; simp [hc0])
    obtain ⟨d0, d1, d2, d3, d4⟩ := c5 hBR
    obtain ⟨g0, g1, g2, g3, g4⟩ := f5 hBR
    go_wp2_with fail
    clear d0 d1 d2 d3 d4 g0 g1 g2 g3 g4
    exact bodyPost_ret (resCast (byz := 0#16) rfl (set5 hBR _ _ _ _ _) rfl rfl) rfl ⟨keeps_set5 J (Nat.le_refl _) _ _ _ _ _, _, by rw [HE.out]; rfl, by rw [if_neg (by rw [HE.out]; first | decide | assumption)]; exact hasC_zero _⟩
end Go.Proofs.YtbcfkgolhklkaaaDoor
