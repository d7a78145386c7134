/- Texts joined into one, what is needed of them (a program of ours). -/
import Derived.Test.YtbcfkgolhklkaaaDoorSKPA
import Derived.Test.YtbcfkgolhklkaaaDoorSKJ
namespace Go.Proofs.YtbcfkgolhklkaaaDoor
open Go.RowKit Go.Lib Go.Shelf

theorem idsB_step (nas : List NA) (k : Nat) (h : k < nas.length) : idsB ((nas.map NA.x).drop k) k = (decide ((naA nas k).x.id = (k : Int)) && idsB ((nas.map NA.x).drop (k + 1)) (k + 1)) := by
  rw [drop_naA_x nas k h]; rfl
theorem anyB_step (p : Ct → Bool) (fl : List Ct) (k : Nat) (h : k < fl.length) : (fl.drop k).any p = (p (ctA fl k) || (fl.drop (k + 1)).any p) := by
  rw [drop_ctA fl k h, List.any_cons]
set_option maxHeartbeats 1000000 in
theorem rsettleRng_any (w : World) (fv bv : Value) (f b : List S) (N : Int) (byz : S) (source : Int) (an : Option Addr) (cn : Nat) (nas : List NA) (ag : Option Addr) (cg : Nat) (fl : List Ct) (c : CD) (h : ¬(1 ≤ N ∧ N ≤ 8 ∧ (nas.length : Int) = N)) :
    Calls Tryd.prog 24 #[fv, bv, vCast N byz source (.slice an nas.length cn) (.slice ag fl.length cg)] w fun e w' => RetC w (setE f b N byz (nas.map NA.x) fl) c e w' := by
  rw [setE_rng (by rw [List.length_map]; exact h)]
  have hs : ∀ (W : World) o, (W.alloc o).heap.size = W.heap.size + 1 := fun W o => World.size_alloc ..
  have k1 := (Keeps.refl w).alloc (.cells #[.int .i64 N, .int .u16 (sv byz), .int .i64 source, .slice an nas.length cn, .slice ag fl.length cg] 32)
  have k2 := (Keeps.refl (w.alloc (.cells #[.int .i64 N, .int .u16 (sv byz), .int .i64 source, .slice an nas.length cn, .slice ag fl.length cg] 32))).alloc (.cells #[.int .i64 0, .int .u16 0, .int .i64 0, .slice none 0 0, .slice none 0 0] 32)
  have hX := (Blk.new w 32 #[.int .i64 N, .int .u16 (sv byz), .int .i64 source, .slice an nas.length cn, .slice ag fl.length cg]).keep k2
  have hBR := Blk.new (w.alloc (.cells #[.int .i64 N, .int .u16 (sv byz), .int .i64 source, .slice an nas.length cn, .slice ag fl.length cg] 32)) 32 #[.int .i64 0, .int .u16 0, .int .i64 0, .slice none 0 0, .slice none 0 0]
  rw [hs] at hBR
  have J := k1.trans k2
  clear hs k1 k2
  obtain ⟨W0, hW0⟩ : ∃ W, W = (w.alloc (.cells #[.int .i64 N, .int .u16 (sv byz), .int .i64 source, .slice an nas.length cn, .slice ag fl.length cg] 32)).alloc (.cells #[.int .i64 0, .int .u16 0, .int .i64 0, .slice none 0 0, .slice none 0 0] 32) := ⟨_, rfl⟩
  rw [← hW0] at hX hBR J
  rw [hW0] at hX hBR J
  clear hW0
  unfold vCast
  by_cases h1 : N < 1
  · clear h
    go_enter Tryd.func24, Tryd.ntmps24
    obtain ⟨e0, e1, e2, e3, e4⟩ := Go.Proofs.YtbcfkgolhklkaaaDoor.c5 hX
    have HBR := Lib.hid hBR; have HJ := Lib.hid J
    clear hBR J hX
    go_wp2_with fail
    exact bodyPost_ret (resCast (byz := 0#16) rfl HBR.out rfl rfl) rfl ⟨HJ.out, _, rfl, by rw [if_neg (by decide)]; exact hasC_zero _⟩
  by_cases h2 : N > 8
  · clear h
    go_enter Tryd.func24, Tryd.ntmps24
    obtain ⟨e0, e1, e2, e3, e4⟩ := Go.Proofs.YtbcfkgolhklkaaaDoor.c5 hX
    have HBR := Lib.hid hBR; have HJ := Lib.hid J
    clear hBR J hX
    go_wp2_with fail
    exact bodyPost_ret (resCast (byz := 0#16) rfl HBR.out rfl rfl) rfl ⟨HJ.out, _, rfl, by rw [if_neg (by decide)]; exact hasC_zero _⟩
  have h3 : ((nas.length : Int) != N) = true := by rw [bne_iff_ne]; intro hc; exact h ⟨by omega, by omega, hc⟩
  clear h
  go_enter Tryd.func24, Tryd.ntmps24
  obtain ⟨e0, e1, e2, e3, e4⟩ := Go.Proofs.YtbcfkgolhklkaaaDoor.c5 hX
  have HBR := Lib.hid hBR; have HJ := Lib.hid J
  clear hBR J hX
  go_wp2_with fail
  exact bodyPost_ret (resCast (byz := 0#16) rfl HBR.out rfl rfl) rfl ⟨HJ.out, _, rfl, by rw [if_neg (by decide)]; exact hasC_zero _⟩
set_option maxRecDepth 200000 in
set_option maxHeartbeats 4000000 in
theorem rsettleC_any (w : World) (fa : Option Addr) (fm fc : Nat) (f : List S) (ba : Option Addr) (bm bc : Nat) (b : List S) (c : CD) (v : Value)
    (hf : Rd w fa fm fc 1 (sl f)) (hb : Rd w ba bm bc 1 (sl b)) (hv : HasC w c v) (hfl : c.st.flight.length ≤ 10000) (hnn : c.st.nodes.length ≤ 1000) (hsm : SmallS c.st) (hfm : fm ≤ 1000000) (hbm : bm ≤ 1000000) :
    Calls Tryd.prog 24 #[.slice fa fm fc, .slice ba bm bc, v] w fun e w' => RetC w (setE f b c.n c.byz c.st.nodes c.st.flight) ⟨c.n, c.byz, c.src, settleS f b c.n.toNat c.byz c.st⟩ e w' := by
  have hv0 := hv
  obtain ⟨an, cn, nas, ag, cg, rfl, h1, h2, h3, h4⟩ := hv
  obtain ⟨N, byz, source, nodes, fl⟩ := c
  dsimp only at *
  subst h4
  rw [List.length_map] at hnn
  by_cases hr : 1 ≤ N ∧ N ≤ 8 ∧ (nas.length : Int) = N
  case neg => exact rsettleRng_any w _ _ f b N byz source an cn nas ag cg fl _ hr
  obtain ⟨q1, q2, rfl⟩ := hr
  have q3 : 1 ≤ nas.length ∧ nas.length ≤ 8 ∧ (nas.map NA.x).length = nas.length := ⟨by omega, by omega, List.length_map ..⟩
  rw [Int.toNat_natCast]
  have hs : ∀ (W : World) o, (W.alloc o).heap.size = W.heap.size + 1 := fun W o => World.size_alloc ..
  have k1 := (Keeps.refl w).alloc (.cells #[.int .i64 nas.length, .int .u16 (sv byz), .int .i64 source, .slice an nas.length cn, .slice ag fl.length cg] 32)
  have k2 := (Keeps.refl (w.alloc (.cells #[.int .i64 nas.length, .int .u16 (sv byz), .int .i64 source, .slice an nas.length cn, .slice ag fl.length cg] 32))).alloc (.cells #[.int .i64 0, .int .u16 0, .int .i64 0, .slice none 0 0, .slice none 0 0] 32)
  have hX := (Blk.new w 32 #[.int .i64 nas.length, .int .u16 (sv byz), .int .i64 source, .slice an nas.length cn, .slice ag fl.length cg]).keep k2
  have hBR := Blk.new (w.alloc (.cells #[.int .i64 nas.length, .int .u16 (sv byz), .int .i64 source, .slice an nas.length cn, .slice ag fl.length cg] 32)) 32 #[.int .i64 0, .int .u16 0, .int .i64 0, .slice none 0 0, .slice none 0 0]
  rw [hs] at hBR
  have J := k1.trans k2
  clear hs k1 k2
  obtain ⟨W0, hW0⟩ : ∃ W, W = (w.alloc (.cells #[.int .i64 nas.length, .int .u16 (sv byz), .int .i64 source, .slice an nas.length cn, .slice ag fl.length cg] 32)).alloc (.cells #[.int .i64 0, .int .u16 0, .int .i64 0, .slice none 0 0, .slice none 0 0] 32) := ⟨_, rfl⟩
  rw [← hW0] at hX hBR J
  have HV := Lib.hid (hv0.toB J)
  unfold vCast at HV
  have hlr : w.heap.size ≤ w.heap.size + 1 := by omega
  have hlx : w.heap.size ≤ w.heap.size := Nat.le_refl _
  have hli := fun W (k : Keeps W0 W) => rlists39_any nas.length (by omega) fa fm fc f ba bm bc b W ((hf.keep J).keep k) ((hb.keep J).keep k) hfm hbm
  have HLI := Lib.hid hli
  have HF := Lib.hid hf; have HB := Lib.hid hb; have HN := Lib.hid (h1.keep J); have HG := Lib.hid (h2.keep J)
  have HSM := Lib.hid hsm; have HX := Lib.hid hX; have HBR := Lib.hid hBR; have HJ := Lib.hid J
  have q4 : (fl.length : Int) ≤ 10000 := by omega
  have HQ := Lib.hid q3
  rw [hW0] at HX HBR HJ HN HG HV HLI
  obtain ⟨es, hes⟩ : ∃ s, s = settleS f b nas.length byz ⟨nas.map NA.x, fl⟩ := ⟨_, rfl⟩
  obtain ⟨er, her⟩ : ∃ e, e = setE f b nas.length byz (nas.map NA.x) fl := ⟨_, rfl⟩
  rw [← hes, ← her]
  have HES := Lib.hid hes; have HER := Lib.hid her
  clear hes her hv0 hf hb h1 h2 h3 hsm hX hBR J hfl q3 hli hW0
  unfold vCast
  go_enter Tryd.func24, Tryd.ntmps24
  go_upto_region 1 with fail
  generalize (w.alloc (.cells #[.int .i64 nas.length, .int .u16 (sv byz), .int .i64 source, .slice an nas.length cn, .slice ag fl.length cg] 32)).alloc (.cells #[.int .i64 0, .int .u16 0, .int .i64 0, .slice none 0 0, .slice none 0 0] 32) = W0 at *
  obtain ⟨P2, hP2⟩ : ∃ P, P = w.heap.size + 1 := ⟨_, rfl⟩
  obtain ⟨P1, hP1⟩ : ∃ P, P = w.heap.size := ⟨_, rfl⟩
  rw [← hP2] at HBR hlr ⊢
  have n12 : P1 ≠ P2 := by omega
  rw [← hP1] at HX ⊢
  rw [show (w.heap.size ≤ w.heap.size) = (w.heap.size ≤ P1) by rw [hP1]] at hlx
  clear hP1 hP2
  obtain ⟨e0, e1, e2, e3, e4⟩ := Go.Proofs.YtbcfkgolhklkaaaDoor.c5 HX.out
  go_wp2_with fail
  clear e0 e1 e2 e3 e4
  go_loopw [8] (fun u wr => ∃ k : Nat, k ≤ nas.length ∧ u = .int .i64 k ∧ Keeps W0 wr ∧ Hid (idsB (nas.map NA.x) 0 = idsB ((nas.map NA.x).drop k) k)) (fun u _ => nas.length - (RowKit.intOf u).toNat)
  case atStart => exact ⟨0, Nat.zero_le _, rfl, Keeps.refl _, Lib.hid (by rw [List.drop_zero])⟩
  case round =>
    obtain ⟨k, hk, rfl, K, HI⟩ := hrel
    have hX := HX.out.keep K; have hBR := HBR.out.keep K; have J := HJ.out.trans K
    by_cases hlt : k < nas.length
    · have p := nl_at (HN.out.keep K) hlt
      have p0 := p.1
      have hao := (HN.out.keep K).isSome (by omega)
      have HST := Lib.hid (idsB_step nas k hlt)
      clear p
      generalize naA nas k = z at *
      by_cases hzk : z.x.id = (k : Int)
      · have HK2 : Hid (idsB (nas.map NA.x) 0 = idsB ((nas.map NA.x).drop (k + 1)) (k + 1)) := Lib.hid (by rw [HI.out, HST.out, decide_eq_true hzk]; rfl)
        rw [hzk] at p0
        obtain ⟨e0, e1, e2, e3, e4⟩ := Go.Proofs.YtbcfkgolhklkaaaDoor.c5 hX
        clear hzk hX hBR J HST HI
        go_wp2_with fail
        clear e0 e1 e2 e3 e4
        go_roundw
        case rel => exact ⟨k + 1, by omega, by go_num, K, HK2⟩
        case measure => simp [RowKit.intOf]; omega
      · have HE : Hid (er = 1) := Lib.hid (by rw [HER.out]; exact setE_ids HQ.out (by rw [HI.out, HST.out, decide_eq_false hzk]; rfl))
        have hzb : (z.x.id != (k : Int)) = true := by rw [bne_iff_ne]; exact hzk
        clear HST HI
        obtain ⟨e0, e1, e2, e3, e4⟩ := Go.Proofs.YtbcfkgolhklkaaaDoor.c5 hX
        obtain ⟨d0, d1, d2, d3, d4⟩ := Go.Proofs.YtbcfkgolhklkaaaDoor.c5 hBR
        obtain ⟨g0, g1, g2, g3, g4⟩ := f5 hBR
        have HBR := Lib.hid hBR; have HJ := Lib.hid J
        clear hBR J hX
        go_wp2_with fail
        clear d0 d1 d2 d3 d4 g0 g1 g2 g3 g4
        exact bodyPost_ret (resCast (byz := 0#16) rfl (set5 HBR.out _ _ _ _ _) rfl rfl) rfl ⟨keeps_set5 HJ.out hlr _ _ _ _ _, _, by rw [HE.out]; rfl, by rw [if_neg (by rw [HE.out]; first | decide | assumption)]; exact hasC_zero _⟩
    · have e1 : k = nas.length := by omega
      have HID : Hid (idsB (nas.map NA.x) 0 = true) := Lib.hid (by rw [HI.out, List.drop_of_length_le (by rw [List.length_map]; omega)]; rfl)
      clear HI hX hBR J
      have hkn : ¬ k < nas.length := hlt
      clear e1
      have e3 := (HX.out.keep K).cell 0 (v := .int .i64 nas.length) rfl
      go_wp2_with fail
      clear e3
      have e4 := (HX.out.keep K).cell 4 (v := .slice ag fl.length cg) rfl
      go_loopw [9, 10] (fun u _ wr => ∃ k : Nat, k ≤ fl.length ∧ u = .int .i64 k ∧ Keeps W0 wr ∧ Hid ((fl.any fun c => !corrI nas.length byz c.dst) = ((fl.drop k).any fun c => !corrI nas.length byz c.dst))) (fun u _ _ => fl.length - (RowKit.intOf u).toNat)
      case atStart => exact ⟨0, Nat.zero_le _, rfl, K, Lib.hid (by rw [List.drop_zero])⟩
      case round =>
        clear K e4 hkn hlt hk
        obtain ⟨k, hk, rfl, K, HA⟩ := hrel
        have hX := HX.out.keep K; have hBR := HBR.out.keep K; have J := HJ.out.trans K
        by_cases hlt : k < fl.length
        · obtain ⟨p0, p1, p2, p3⟩ := cl_at (HG.out.keep K) hlt
          rw [adr_plus _ _ _ (by decide)] at p1 p2 p3
          have hao := (HG.out.keep K).isSome (by omega)
          have HST := Lib.hid (anyB_step (fun c => !corrI nas.length byz c.dst) fl k hlt)
          generalize ctA fl k = z at *
          have hbad : corrI nas.length byz z.dst = false → Hid (er = 1) := fun hc => Lib.hid (by rw [HER.out]; exact setE_dst HQ.out HID.out (by rw [HA.out, HST.out, hc]; rfl))
          by_cases hd0 : z.dst < 0
          · have HE := hbad (by unfold corrI; rw [decide_eq_false (by omega)]; rfl)
            clear hbad HST HA
            obtain ⟨e0, e1, e2, e3, e4⟩ := Go.Proofs.YtbcfkgolhklkaaaDoor.c5 hX
            obtain ⟨d0, d1, d2, d3, d4⟩ := Go.Proofs.YtbcfkgolhklkaaaDoor.c5 hBR
            obtain ⟨g0, g1, g2, g3, g4⟩ := f5 hBR
            have HBR := Lib.hid hBR; have HJ := Lib.hid J
            clear hBR J hX
            go_wp2_with fail
            clear d0 d1 d2 d3 d4 g0 g1 g2 g3 g4
            exact bodyPost_ret (resCast (byz := 0#16) rfl (set5 HBR.out _ _ _ _ _) rfl rfl) rfl ⟨keeps_set5 HJ.out hlr _ _ _ _ _, _, by rw [HE.out]; rfl, by rw [if_neg (by rw [HE.out]; first | decide | assumption)]; exact hasC_zero _⟩
          · by_cases hdn : z.dst ≥ (nas.length : Int)
            · have HE := hbad (by
                unfold corrI
                cases hq : corr nas.length byz z.dst.toNat with
                | false => simp
                | true => have := corr_lt hq; omega)
              clear hbad HST HA
              obtain ⟨e0, e1, e2, e3, e4⟩ := Go.Proofs.YtbcfkgolhklkaaaDoor.c5 hX
              obtain ⟨d0, d1, d2, d3, d4⟩ := Go.Proofs.YtbcfkgolhklkaaaDoor.c5 hBR
              obtain ⟨g0, g1, g2, g3, g4⟩ := f5 hBR
              have HBR := Lib.hid hBR; have HJ := Lib.hid J
              clear hBR J hX
              go_wp2_with fail
              clear d0 d1 d2 d3 d4 g0 g1 g2 g3 g4
              exact bodyPost_ret (resCast (byz := 0#16) rfl (set5 HBR.out _ _ _ _ _) rfl rfl) rfl ⟨keeps_set5 HJ.out hlr _ _ _ _ _, _, by rw [HE.out]; rfl, by rw [if_neg (by rw [HE.out]; first | decide | assumption)]; exact hasC_zero _⟩
            · obtain ⟨d, hd⟩ : ∃ d : Nat, z.dst = (d : Int) := ⟨z.dst.toNat, by omega⟩
              have hhas := has7_any byz d (by omega) wr
              have hcr : corrI nas.length byz z.dst = !((byz >>> d) &&& 1#16 == 1#16) := by
                rw [hd, corrI_nat]
                unfold corr
                rw [hbT]
                simp [show d < nas.length by omega]
                rfl
              rw [hd] at p2
              have hd1 : ¬ (d : Int) ≥ (nas.length : Int) := by omega
              have HD := Lib.hid hd
              generalize ((byz >>> d) &&& 1#16 == 1#16) = hb0 at hhas hcr
              clear hd hd0 hdn
              cases hb0 with
              | true =>
                have HE := hbad hcr
                have HC := Lib.hid hhas
                clear hbad HST HA hcr hhas
                obtain ⟨e0, e1, e2, e3, e4⟩ := Go.Proofs.YtbcfkgolhklkaaaDoor.c5 hX
                obtain ⟨d0, d1, d2, d3, d4⟩ := Go.Proofs.YtbcfkgolhklkaaaDoor.c5 hBR
                obtain ⟨g0, g1, g2, g3, g4⟩ := f5 hBR
                have HBR := Lib.hid hBR; have HJ := Lib.hid J
                clear hBR J hX
                go_wp2_with (go_at_call 47; refine HC.out.mono ?_; rintro e w2 ⟨rfl, rfl⟩)
                clear d0 d1 d2 d3 d4 g0 g1 g2 g3 g4
                exact bodyPost_ret (resCast (byz := 0#16) rfl (set5 HBR.out _ _ _ _ _) rfl rfl) rfl ⟨keeps_set5 HJ.out hlr _ _ _ _ _, _, by rw [HE.out]; rfl, by rw [if_neg (by rw [HE.out]; decide)]; exact hasC_zero _⟩
              | false =>
                have HK2 : Hid ((fl.any fun c => !corrI nas.length byz c.dst) = ((fl.drop (k + 1)).any fun c => !corrI nas.length byz c.dst)) := Lib.hid (by rw [HA.out, HST.out, hcr]; rfl)
                have HC := Lib.hid hhas
                clear hbad HST HA hcr hhas hBR J
                obtain ⟨e0, e1, e2, e3, e4⟩ := Go.Proofs.YtbcfkgolhklkaaaDoor.c5 hX
                clear hX
                go_wp2_with (go_at_call 47; refine HC.out.mono ?_; rintro e w2 ⟨rfl, rfl⟩)
                clear e0 e1 e2 e3 e4
                go_roundw
                case rel => exact ⟨k + 1, by omega, by go_num, K, HK2⟩
                case measure => simp [RowKit.intOf]; omega
        · have HAF : Hid ((fl.any fun c => !corrI nas.length byz c.dst) = false) := Lib.hid (by rw [HA.out, List.drop_of_length_le (by omega)]; rfl)
          clear HA
          have HCK : Hid (er = chk39 f b nas.length) := Lib.hid (by rw [HER.out]; exact setE_chk HQ.out HID.out HAF.out)
          have HDK : Hid (DstOk nas.length ⟨nas.map NA.x, fl⟩) := Lib.hid (dst_ok9 (List.length_map ..) HAF.out)
          have hli := HLI.out _ K
          generalize chk39 f b nas.length = ck at HCK hli
          have HLI2 := Lib.hid hli
          obtain ⟨e0, e1, e2, e3, e4⟩ := Go.Proofs.YtbcfkgolhklkaaaDoor.c5 hX
          clear hli hX hBR J
          go_wp2_with fail
          refine HLI2.out.mono ?_
          rintro e w5 ⟨rfl, k5⟩
          have K5 := K.trans k5
          clear e0 e1 e2 e3 e4 HLI2 k5 K
          by_cases hc0 : ck = 0
          · have HE : Hid (er = 0) := Lib.hid (by rw [HCK.out]; exact hc0)
            subst hc0
            have hbn : ((0 : Int) != 0) = false := rfl
            have HK5 := Lib.hid K5
            clear K5 hlt
            go_wp2_with fail
            go_loopg [] (measS nas.length ⟨nas.map NA.x, fl⟩ + 1) (fun gq wr => ∃ (an' : Option Addr) (nas' : List NA) (cn' : Nat) (ag' : Option Addr) (cg' : Nat) (st : St), Blk wr P1 32 #[.int .i64 nas.length, .int .u16 (sv byz), .int .i64 source, .slice an' nas'.length cn', .slice ag' st.flight.length cg'] ∧ Blk wr P2 32 #[.int .i64 0, .int .u16 0, .int .i64 0, .slice none 0 0, .slice none 0 0] ∧ HasB w wr ⟨nas.length, byz, source, st⟩ (.agg #[.int .i64 nas.length, .int .u16 (sv byz), .int .i64 source, .slice an' nas'.length cn', .slice ag' st.flight.length cg']) ∧ Keeps w wr ∧ Hid (es = settleS f b nas.length byz st) ∧ Hid (SmallS st) ∧ Hid (DstOk nas.length st) ∧ Hid (measS nas.length st < gq ∧ measS nas.length st ≤ 20000))
            case atStart => exact ⟨an, nas, cn, ag, cg, ⟨nas.map NA.x, fl⟩, HX.out.keep HK5.out, HBR.out.keep HK5.out, HV.out.keep HK5.out HJ.out, HJ.out.trans HK5.out, HES, HSM, HDK, Lib.hid (by have := meas9 (n := nas.length) (nodes := nas.map NA.x) (fl := fl) (List.length_map ..) HQ.out.2.1; omega)⟩
            case round =>
              clear HX HBR HV HJ HK5 HLI HN HG HSM HES HER HDK
              obtain ⟨an', nas', cn', ag', cg', st, hX, hBR, hcv, J, HSE, HSM, HDS, HME⟩ := hrel
              by_cases hl0 : st.flight.length = 0
              · have hlb : ((st.flight.length : Nat) : Int) = 0 := by omega
                have HL0 := Lib.hid hl0
                have HX := Lib.hid hX; have HBR := Lib.hid hBR; have HCV := Lib.hid hcv; have HJ := Lib.hid J
                obtain ⟨e0, e1, e2, e3, e4⟩ := Go.Proofs.YtbcfkgolhklkaaaDoor.c5 hX
                obtain ⟨d0, d1, d2, d3, d4⟩ := Go.Proofs.YtbcfkgolhklkaaaDoor.c5 hBR
                obtain ⟨g0, g1, g2, g3, g4⟩ := f5 hBR
                clear hl0 hX hBR hcv J
                have hne0 : ¬ (st.flight.length : Int) > 0 := by omega
                go_wp2_with fail
                clear e0 e1 e2 e3 e4 d0 d1 d2 d3 d4 g0 g1 g2 g3 g4
                have hes : es = st := by rw [HSE.out]; exact settleS_end HL0.out
                subst hes
                exact bodyPost_ret (resCast (byz := byz) rfl (set5 HBR.out _ _ _ _ _) rfl rfl) rfl ⟨keeps_set5 HJ.out hlr _ _ _ _ _, _, by rw [HE.out]; rfl, by rw [if_pos HE.out]; exact (HCV.out.st5 HBR.out hlr HJ.out _ _ _ _ _).toC⟩
              · have hlb : ((st.flight.length : Nat) : Int) > 0 := by omega
                have hfl4 : st.flight.length ≤ 20000 := by have := HME.out.2; unfold measS at this; omega
                have HLP : Hid (0 < st.flight.length) := Lib.hid (by omega)
                have hdel := rdeliverB_any fa fm fc f ba bm bc b nas.length (by omega) ⟨nas.length, byz, source, st⟩ rfl _ 0 w wr J (HF.out.keep J) (HB.out.keep J) hcv (by dsimp only; omega) HDS.out (by rw [HDS.out.1]; omega) HSM.out (by dsimp only; omega)
                have HDEL := Lib.hid hdel
                have HX := Lib.hid hX; have HBR := Lib.hid hBR; have HJ := Lib.hid J
                obtain ⟨e0, e1, e2, e3, e4⟩ := Go.Proofs.YtbcfkgolhklkaaaDoor.c5 hX
                clear hdel hX hBR hcv J hl0
                go_wp2_with fail
                refine HDEL.out.mono ?_
                rintro e W5 ⟨v9, rfl, hcv9, k9⟩
                (try dsimp only at hcv9)
                obtain ⟨st9, hst9⟩ : ∃ s, s = deliv f b nas.length byz st 0 := ⟨_, rfl⟩
                rw [← hst9] at hcv9
                have HST9 := Lib.hid hst9
                have hcv0 := hcv9
                obtain ⟨an9, cn9, nas9, ag9, cg9, rfl, _, _, _, _⟩ := hcv0
                unfold vCast at hcv9 ⊢
                dsimp only at hcv9 ⊢
                have hX := HX.out.keep k9
                have HBR2 := Lib.hid (HBR.out.keep k9); have HJ2 := Lib.hid (HJ.out.trans k9); have HC9 := Lib.hid hcv9; have HX2 := Lib.hid hX
                clear e0 e1 e2 e3 e4 HDEL k9 hcv9 hst9
                obtain ⟨e0, e1, e2, e3, e4⟩ := Go.Proofs.YtbcfkgolhklkaaaDoor.c5 hX
                obtain ⟨g0, g1, g2, g3, g4⟩ := f5 hX
                clear hX
                go_wp2_with fail
                clear e0 e1 e2 e3 e4 g0 g1 g2 g3 g4
                go_roundg (gk - 1)
                case measure => have := HME.out.1; omega
                case rel => exact ⟨an9, nas9, cn9, ag9, cg9, st9, set5 HX2.out _ _ _ _ _, st5_other HBR2.out (Ne.symm n12) _ _ _ _ _, HC9.out.st5 HX2.out hlx HJ2.out _ _ _ _ _, keeps_set5 HJ2.out hlx _ _ _ _ _, Lib.hid (by rw [HSE.out, HST9.out]; exact settleS_step HDS.out HLP.out), Lib.hid (by rw [HST9.out]; exact deliv_small HSM.out 0), Lib.hid (by rw [HST9.out]; exact deliv_dst HDS.out 0), Lib.hid (by rw [HST9.out]; have h1 := deliv_meas (f := f) (b := b) (n := nas.length) (byz := byz) HLP.out (dst_at HDS.out HLP.out); have h2 := HME.out; omega)⟩
          · have hcb : (ck != 0) = true := by simpa using hc0
            have HE : Hid (er = ck) := HCK
            have hX := HX.out.keep K5; have hBR := HBR.out.keep K5; have J := HJ.out.trans K5
            obtain ⟨d0, d1, d2, d3, d4⟩ := Go.Proofs.YtbcfkgolhklkaaaDoor.c5 hBR
            obtain ⟨g0, g1, g2, g3, g4⟩ := f5 hBR
            have HBR := Lib.hid hBR; have HJ := Lib.hid J
            clear hBR J hX
            go_wp2_with fail
            clear d0 d1 d2 d3 d4 g0 g1 g2 g3 g4
            exact bodyPost_ret (resCast (byz := 0#16) rfl (set5 HBR.out _ _ _ _ _) rfl rfl) rfl ⟨keeps_set5 HJ.out hlr _ _ _ _ _, _, by rw [HE.out]; rfl, by rw [if_neg (by rw [HE.out]; first | decide | assumption)]; exact hasC_zero _⟩
end Go.Proofs.YtbcfkgolhklkaaaDoor
namespace Go.Proofs.YtbcfkgolhklkaaaDoor
open Go.RowKit Go.Lib Go.Shelf

def fewB (x : Nd) : Bool := decide (x.echoes.length ≤ 10) && decide (x.readies.length ≤ 10)
theorem few39_any (z : NA) (w : World) : Calls Tryd.prog 18 #[vn z] w fun e w' => e = .returned (.bool (fewB z.x)) ∧ Keeps w w' := by
  obtain ⟨⟨id, ec, hE, re, hR, de, hD, es, rs⟩, ae, ce, ar, cr⟩ := z
  have kA := (Keeps.refl w).alloc (.cells #[.int .i64 id, .string ec, .bool hE, .string re, .bool hR, .string de, .bool hD, .slice ae es.length ce, .slice ar rs.length cr] 46)
  obtain ⟨c0, c1, c2, c3, c4, c5, c6, c7, c8⟩ := (Blk.new w 46 #[.int .i64 id, .string ec, .bool hE, .string re, .bool hR, .string de, .bool hD, .slice ae es.length ce, .slice ar rs.length cr]).c9
  have HK := Lib.hid kA
  clear kA
  unfold vn fewB
  dsimp only
  by_cases h1 : es.length ≤ 10
  · have h1i : (es.length : Int) ≤ 10 := by omega
    have HR : Hid ((decide (es.length ≤ 10) && decide (rs.length ≤ 10)) = decide ((rs.length : Int) ≤ 10)) := Lib.hid (by rw [decide_eq_true h1, Bool.true_and, Bool.eq_iff_iff, decide_eq_true_eq, decide_eq_true_eq]; omega)
    clear h1
    go_enter Tryd.func18, Tryd.ntmps18
    go_wp2_with fail
    go_ret
    exact ⟨by rw [HR.out]; rfl, HK.out⟩
  · have h1i : ¬ (es.length : Int) ≤ 10 := by omega
    have HR : Hid ((decide (es.length ≤ 10) && decide (rs.length ≤ 10)) = false) := Lib.hid (by rw [decide_eq_false h1]; rfl)
    clear h1
    go_enter Tryd.func18, Tryd.ntmps18
    go_wp2_with fail
    go_ret
    exact ⟨by rw [HR.out]; rfl, HK.out⟩
theorem settlePred_any (z : NA) (w : World) : Calls Tryd.prog 17 (#[vn z] ++ #[]) w fun e w' => e = .returned (.bool (!fewB z.x)) ∧ Keeps w w' := by
  have hf := fun W => few39_any z W
  generalize fewB z.x = q at hf ⊢
  obtain ⟨⟨id, ec, hE, re, hR, de, hD, es, rs⟩, ae, ce, ar, cr⟩ := z
  have kA := (Keeps.refl w).alloc (.cells #[.int .i64 id, .string ec, .bool hE, .string re, .bool hR, .string de, .bool hD, .slice ae es.length ce, .slice ar rs.length cr] 46)
  obtain ⟨c0, c1, c2, c3, c4, c5, c6, c7, c8⟩ := (Blk.new w 46 #[.int .i64 id, .string ec, .bool hE, .string re, .bool hR, .string de, .bool hD, .slice ae es.length ce, .slice ar rs.length cr]).c9
  unfold vn at hf ⊢
  dsimp only at hf ⊢
  have HC := Lib.hid (hf (w.alloc (.cells #[.int .i64 id, .string ec, .bool hE, .string re, .bool hR, .string de, .bool hD, .slice ae es.length ce, .slice ar rs.length cr] 46)))
  have HK := Lib.hid kA
  clear kA hf
  go_enter Tryd.func17, Tryd.ntmps17
  go_wp2_with fail
  refine HC.out.mono ?_
  rintro e w1 ⟨rfl, k1⟩
  have HK1 := Lib.hid (HK.out.trans k1)
  clear k1
  go_wp2_with fail
  go_ret
  exact ⟨rfl, HK1.out⟩
set_option maxRecDepth 20000 in
theorem resN1 {fn : Func} {p : Tmp} (h : fn.results = #[.cell p 46]) {tmps : Array Value} {W : World} {B : Nat} {z : NA}
    (hB : Blk W B 46 #[.int .i64 z.x.id, .string z.x.echoed, .bool z.x.hasE, .string z.x.readied, .bool z.x.hasR, .string z.x.delivered, .bool z.x.hasD, .slice z.ae z.x.echoes.length z.ce, .slice z.ar z.x.readies.length z.cr]) (tp : tmps.getD p undef = .pointer (some ⟨B, 0, none⟩)) :
    (results fn tmps).run Tryd.prog W = .ok (vn z) W :=
  results_cell_row h _ _ _ _ _ _ _ tp hB rfl rfl rfl
set_option maxRecDepth 200000 in
set_option maxHeartbeats 4000000 in
theorem copied39_any (z : NA) (b0 w : World) (JB : Keeps b0 w) (hz : RdH w z) (hs1 : z.x.echoes.length ≤ 1000000) (hs2 : z.x.readies.length ≤ 1000000) :
    Calls Tryd.prog 22 #[vn z] w fun e w' => ∃ y, e = .returned (vn y) ∧ y.x = z.x ∧ Keeps w w' ∧ RPN b0 w' y := by
  obtain ⟨⟨id, ec, hE, re, hR, de, hD, es, rs⟩, ae, ce, ar, cr⟩ := z
  obtain ⟨h1, h2⟩ := hz
  dsimp only at h1 h2 hs1 hs2 ⊢
  have hs : ∀ (W : World) o, (W.alloc o).heap.size = W.heap.size + 1 := fun W o => World.size_alloc ..
  have k1 := (Keeps.refl w).alloc (.cells #[.int .i64 id, .string ec, .bool hE, .string re, .bool hR, .string de, .bool hD, .slice ae es.length ce, .slice ar rs.length cr] 46)
  have k2 := (Keeps.refl (w.alloc (.cells #[.int .i64 id, .string ec, .bool hE, .string re, .bool hR, .string de, .bool hD, .slice ae es.length ce, .slice ar rs.length cr] 46))).alloc (.cells #[.int .i64 0, .string ⟨#[]⟩, .bool false, .string ⟨#[]⟩, .bool false, .string ⟨#[]⟩, .bool false, .slice none 0 0, .slice none 0 0] 46)
  have hX := (Blk.new w 46 #[.int .i64 id, .string ec, .bool hE, .string re, .bool hR, .string de, .bool hD, .slice ae es.length ce, .slice ar rs.length cr]).keep k2
  have hBR := Blk.new (w.alloc (.cells #[.int .i64 id, .string ec, .bool hE, .string re, .bool hR, .string de, .bool hD, .slice ae es.length ce, .slice ar rs.length cr] 46)) 46 #[.int .i64 0, .string ⟨#[]⟩, .bool false, .string ⟨#[]⟩, .bool false, .string ⟨#[]⟩, .bool false, .slice none 0 0, .slice none 0 0]
  rw [hs] at hBR
  have J := k1.trans k2
  have HC1 := Lib.hid (fun W (k : Keeps w W) => cloneH_any ae ce es W (h1.keep k) hs1)
  have HC2 := Lib.hid (fun W (k : Keeps w W) => cloneH_any ar cr rs W (h2.keep k) hs2)
  have HJ0 := Lib.hid J; have HJB := Lib.hid JB; have HX := Lib.hid hX; have HBR := Lib.hid hBR
  have hb0 := JB.size
  clear hs k1 k2 hX hBR J h1 h2
  unfold vn
  dsimp only
  go_enter Tryd.func22, Tryd.ntmps22
  go_upto_region 1 with fail
  generalize (w.alloc (.cells #[.int .i64 id, .string ec, .bool hE, .string re, .bool hR, .string de, .bool hD, .slice ae es.length ce, .slice ar rs.length cr] 46)).alloc (.cells #[.int .i64 0, .string ⟨#[]⟩, .bool false, .string ⟨#[]⟩, .bool false, .string ⟨#[]⟩, .bool false, .slice none 0 0, .slice none 0 0] 46) = W0 at *
  obtain ⟨P2, hP2⟩ : ∃ P, P = w.heap.size + 1 := ⟨_, rfl⟩
  obtain ⟨P1, hP1⟩ : ∃ P, P = w.heap.size := ⟨_, rfl⟩
  rw [← hP2] at HBR ⊢
  rw [← hP1] at HX ⊢
  have n12 : P1 ≠ P2 := by omega
  have hl1 : b0.heap.size ≤ P1 := by omega
  have hl2 : b0.heap.size ≤ P2 := by omega
  have hw1 : w.heap.size ≤ P1 := by omega
  have hw2 : w.heap.size ≤ P2 := by omega
  clear hP1 hP2 hb0
  have hX := HX.out.keep ((Keeps.refl W0).drew); have hBR := HBR.out.keep ((Keeps.refl W0).drew)
  have J : Keeps w W0.drew := HJ0.out.trans (Keeps.refl W0).drew
  refine wp_region_held_drew (S := (fun w' => True)) (by kernel_rfl) ?_ (fun hHeld => ?_)
  · trivial
  generalize W0.drew = V0 at *
  clear HX HBR
  refine wpAnyH_take (i := 0) (oi := ⟨_, _, _, _, _, _⟩) (v := ?_) rfl (by kernel_rfl) (by kernel_rfl) (by kernel_rfl) (fun _ _ _ h => h) (Or.inl ⟨by rfl, ?_⟩) (by assumption) ?_
  rotate_left 1
  · intro w hSw; (try dsimp only at hSw); go_simp <;> with_reducible rfl
  (try simp only [Act.put]); (try simp only [List.setIfInBounds_toArray]); (try simp only [List.set_cons_succ]); (try simp only [List.set_cons_zero])
  refine wpAnyH_take (i := 3) (oi := ⟨_, _, _, _, _, _⟩) (v := ?_) rfl (by kernel_rfl) (by kernel_rfl) (by kernel_rfl) (fun _ _ _ h => h) (Or.inl ⟨by rfl, ?_⟩) (by assumption) ?_
  rotate_left 1
  · intro w hSw; (try dsimp only at hSw); go_simp <;> with_reducible rfl
  (try simp only [Act.put]); (try simp only [List.setIfInBounds_toArray]); (try simp only [List.set_cons_succ]); (try simp only [List.set_cons_zero])
  refine wpAnyH_ready (rs := [1, 4]) (by kernel_rfl) (by simp) ?_
  refine AllReadyH.cons (o := ⟨_, _, _, _, _, _⟩) rfl (fun K hK => ?_) (AllReadyH.cons (o := ⟨_, _, _, _, _, _⟩) rfl (fun K hK => ?_) AllReadyH.nil)
  · have c9 := hX.cell 7 (v := .slice ae es.length ce) rfl
    go_simp
    clear c9
    refine hK.out _ _ ?_ (fun hHeld => ?_)
    · trivial
    clear hK K
    (try simp only [Act.put]); (try simp only [List.setIfInBounds_toArray]); (try simp only [List.set_cons_succ]); (try simp only [List.set_cons_zero])
    refine wpAnyH_ready (rs := [2, 4]) (by kernel_rfl) (by simp) ?_
    refine AllReadyH.cons (o := ⟨_, _, _, _, _, _⟩) rfl (fun K hK => ?_) (AllReadyH.cons (o := ⟨_, _, _, _, _, _⟩) rfl (fun K hK => ?_) AllReadyH.nil)
    · go_simp
      have hc := HC1.out V0 J
      refine hc.mono ?_
      rintro e V2 ⟨u1, rfl, hO1⟩
      clear hc
      have kk := hO1.2
      obtain ⟨a1, c1, rfl, r1⟩ := hO1.rd
      replace hX := hX.keep kk; replace hBR := hBR.keep kk
      replace hO1 := hO1.since (HJB.out.trans J)
      replace J := J.trans kk
      clear kk
      refine hK.out _ _ ?_ (fun hHeld => ?_)
      · trivial
      clear hK K
      (try simp only [Act.put]); (try simp only [List.setIfInBounds_toArray]); (try simp only [List.set_cons_succ]); (try simp only [List.set_cons_zero])
      refine wpAnyH_ready (rs := [4]) (by kernel_rfl) (by simp) ?_
      refine AllReadyH.cons (o := ⟨_, _, _, _, _, _⟩) rfl (fun K hK => ?_) AllReadyH.nil
      have c9 := hX.cell 8 (v := .slice ar rs.length cr) rfl
      go_simp
      clear c9
      refine hK.out _ _ ?_ (fun hHeld => ?_)
      · trivial
      clear hK K
      (try simp only [Act.put]); (try simp only [List.setIfInBounds_toArray]); (try simp only [List.set_cons_succ]); (try simp only [List.set_cons_zero])
      refine wpAnyH_take (i := 6) (oi := ⟨_, _, _, _, _, _⟩) (v := ?_) rfl (by kernel_rfl) (by kernel_rfl) (by kernel_rfl) (fun _ _ _ h => h) (Or.inl ⟨by rfl, ?_⟩) (by assumption) ?_
      rotate_left 1
      · intro w hSw; (try dsimp only at hSw); go_simp <;> with_reducible rfl
      (try simp only [Act.put]); (try simp only [List.setIfInBounds_toArray]); (try simp only [List.set_cons_succ]); (try simp only [List.set_cons_zero])
      refine wpAnyH_ready (rs := [5]) (by kernel_rfl) (by simp) ?_
      refine AllReadyH.cons (o := ⟨_, _, _, _, _, _⟩) rfl (fun K hK => ?_) AllReadyH.nil
      go_simp
      have hc := HC2.out V2 J
      refine hc.mono ?_
      rintro e V4 ⟨u2, rfl, hO2⟩
      clear hc
      have kk := hO2.2
      obtain ⟨a2, c2, rfl, r2⟩ := hO2.rd
      replace hX := hX.keep kk; replace hBR := hBR.keep kk
      replace hO2 := hO2.since (HJB.out.trans J)
      replace hO1 := hO1.keep kk
      replace J := J.trans kk
      clear kk
      refine hK.out _ _ ?_ (fun hHeld => ?_)
      · trivial
      clear hK K
      (try simp only [Act.put]); (try simp only [List.setIfInBounds_toArray]); (try simp only [List.set_cons_succ]); (try simp only [List.set_cons_zero])
      refine wpAnyH_ready (rs := [7]) (by kernel_rfl) (by simp) ?_
      refine AllReadyH.cons (o := ⟨_, _, _, _, _, _⟩) rfl (fun K hK => ?_) AllReadyH.nil
      have g9 := hX.frozen 7
      have c9 := hX.cell 7 rfl
      go_simp
      clear g9 c9
      replace hO1 := own_oth9 hO1 hX (by decide) hl1 7 (.slice a1 es.length c1)
      replace hO2 := own_oth9 hO2 hX (by decide) hl1 7 (.slice a1 es.length c1)
      replace hBR := hBR.setOther (Ne.symm n12) 7 (.slice a1 es.length c1)
      replace J := keeps_set J hw1 7 (.slice a1 es.length c1)
      replace hX := hX.set 7 (.slice a1 es.length c1)
      generalize V4.setCell ⟨P1, 7, none⟩ (.slice a1 es.length c1) = V5 at *
      refine hK.out _ _ ?_ (fun hHeld => ?_)
      · trivial
      clear hK K
      (try simp only [Act.put]); (try simp only [List.setIfInBounds_toArray]); (try simp only [List.set_cons_succ]); (try simp only [List.set_cons_zero])
      refine wpAnyH_take (i := 8) (oi := ⟨_, _, _, _, _, _⟩) (v := ?_) rfl (by kernel_rfl) (by kernel_rfl) (by kernel_rfl) (fun _ _ _ h => h) (Or.inl ⟨by rfl, ?_⟩) (by assumption) ?_
      rotate_left 1
      · intro w hSw; (try dsimp only at hSw); go_simp <;> with_reducible rfl
      (try simp only [Act.put]); (try simp only [List.setIfInBounds_toArray]); (try simp only [List.set_cons_succ]); (try simp only [List.set_cons_zero])
      refine wpAnyH_ready (rs := [9]) (by kernel_rfl) (by simp) ?_
      refine AllReadyH.cons (o := ⟨_, _, _, _, _, _⟩) rfl (fun K hK => ?_) AllReadyH.nil
      have g9 := hX.frozen 8
      have c9 := hX.cell 8 rfl
      go_simp
      clear g9 c9
      replace hO1 := own_oth9 hO1 hX (by decide) hl1 8 (.slice a2 rs.length c2)
      replace hO2 := own_oth9 hO2 hX (by decide) hl1 8 (.slice a2 rs.length c2)
      replace hBR := hBR.setOther (Ne.symm n12) 8 (.slice a2 rs.length c2)
      replace J := keeps_set J hw1 8 (.slice a2 rs.length c2)
      replace hX := hX.set 8 (.slice a2 rs.length c2)
      generalize V5.setCell ⟨P1, 8, none⟩ (.slice a2 rs.length c2) = V6 at *
      refine hK.out _ _ ?_ (fun hHeld => ?_)
      · trivial
      clear hK K
      (try simp only [Act.put]); (try simp only [List.setIfInBounds_toArray]); (try simp only [List.set_cons_succ]); (try simp only [List.set_cons_zero])
      refine wpAnyH_done (by kernel_rfl) ?_ _
      have HX := Lib.hid hX; have HBR := Lib.hid hBR; have HJ := Lib.hid J; have HO1 := Lib.hid hO1; have HO2 := Lib.hid hO2
      obtain ⟨c0, c1, c2, c3, c4, c5, c6, c7, c8⟩ := hX.c9
      obtain ⟨d0, d1, d2, d3, d4, d5, d6, d7, d8⟩ := hBR.c9
      obtain ⟨g0, g1, g2, g3, g4, g5, g6, g7, g8⟩ := hBR.f9
      clear hX hBR J hO1 hO2 r1 r2
      go_wp2_with fail
      clear c0 c1 c2 c3 c4 c5 c6 c7 c8 d0 d1 d2 d3 d4 d5 d6 d7 d8 g0 g1 g2 g3 g4 g5 g6 g7 g8
      have hB9 := HBR.out.set9 (.int .i64 id) (.string ec) (.bool hE) (.string re) (.bool hR) (.string de) (.bool hD) (.slice a1 es.length c1) (.slice a2 rs.length c2)
      have hO1 := own_other9 HO1.out HBR.out (by decide) hl2 (.int .i64 id) (.string ec) (.bool hE) (.string re) (.bool hR) (.string de) (.bool hD) (.slice a1 es.length c1) (.slice a2 rs.length c2)
      have hO2 := own_other9 HO2.out HBR.out (by decide) hl2 (.int .i64 id) (.string ec) (.bool hE) (.string re) (.bool hR) (.string de) (.bool hD) (.slice a1 es.length c1) (.slice a2 rs.length c2)
      exact bodyPost_ret (resN1 (z := ⟨⟨id, ec, hE, re, hR, de, hD, es, rs⟩, a1, c1, a2, c2⟩) rfl hB9 rfl) rfl ⟨_, rfl, rfl, keeps_set9 HJ.out hw2 _ _ _ _ _ _ _ _ _, ⟨hO1.row0.rd, .inr hO1⟩, ⟨hO2.row0.rd, .inr hO2⟩⟩
    · have c9 := hX.cell 8 (v := .slice ar rs.length cr) rfl
      go_simp
      clear c9
      refine hK.out _ _ ?_ (fun hHeld => ?_)
      · trivial
      clear hK K
      (try simp only [Act.put]); (try simp only [List.setIfInBounds_toArray]); (try simp only [List.set_cons_succ]); (try simp only [List.set_cons_zero])
      refine wpAnyH_ready (rs := [2]) (by kernel_rfl) (by simp) ?_
      refine AllReadyH.cons (o := ⟨_, _, _, _, _, _⟩) rfl (fun K hK => ?_) AllReadyH.nil
      go_simp
      have hc := HC1.out V0 J
      refine hc.mono ?_
      rintro e V3 ⟨u1, rfl, hO1⟩
      clear hc
      have kk := hO1.2
      obtain ⟨a1, c1, rfl, r1⟩ := hO1.rd
      replace hX := hX.keep kk; replace hBR := hBR.keep kk
      replace hO1 := hO1.since (HJB.out.trans J)
      replace J := J.trans kk
      clear kk
      refine hK.out _ _ ?_ (fun hHeld => ?_)
      · trivial
      clear hK K
      (try simp only [Act.put]); (try simp only [List.setIfInBounds_toArray]); (try simp only [List.set_cons_succ]); (try simp only [List.set_cons_zero])
      refine wpAnyH_take (i := 6) (oi := ⟨_, _, _, _, _, _⟩) (v := ?_) rfl (by kernel_rfl) (by kernel_rfl) (by kernel_rfl) (fun _ _ _ h => h) (Or.inl ⟨by rfl, ?_⟩) (by assumption) ?_
      rotate_left 1
      · intro w hSw; (try dsimp only at hSw); go_simp <;> with_reducible rfl
      (try simp only [Act.put]); (try simp only [List.setIfInBounds_toArray]); (try simp only [List.set_cons_succ]); (try simp only [List.set_cons_zero])
      refine wpAnyH_ready (rs := [5]) (by kernel_rfl) (by simp) ?_
      refine AllReadyH.cons (o := ⟨_, _, _, _, _, _⟩) rfl (fun K hK => ?_) AllReadyH.nil
      go_simp
      have hc := HC2.out V3 J
      refine hc.mono ?_
      rintro e V4 ⟨u2, rfl, hO2⟩
      clear hc
      have kk := hO2.2
      obtain ⟨a2, c2, rfl, r2⟩ := hO2.rd
      replace hX := hX.keep kk; replace hBR := hBR.keep kk
      replace hO2 := hO2.since (HJB.out.trans J)
      replace hO1 := hO1.keep kk
      replace J := J.trans kk
      clear kk
      refine hK.out _ _ ?_ (fun hHeld => ?_)
      · trivial
      clear hK K
      (try simp only [Act.put]); (try simp only [List.setIfInBounds_toArray]); (try simp only [List.set_cons_succ]); (try simp only [List.set_cons_zero])
      refine wpAnyH_ready (rs := [7]) (by kernel_rfl) (by simp) ?_
      refine AllReadyH.cons (o := ⟨_, _, _, _, _, _⟩) rfl (fun K hK => ?_) AllReadyH.nil
      have g9 := hX.frozen 7
      have c9 := hX.cell 7 rfl
      go_simp
      clear g9 c9
      replace hO1 := own_oth9 hO1 hX (by decide) hl1 7 (.slice a1 es.length c1)
      replace hO2 := own_oth9 hO2 hX (by decide) hl1 7 (.slice a1 es.length c1)
      replace hBR := hBR.setOther (Ne.symm n12) 7 (.slice a1 es.length c1)
      replace J := keeps_set J hw1 7 (.slice a1 es.length c1)
      replace hX := hX.set 7 (.slice a1 es.length c1)
      generalize V4.setCell ⟨P1, 7, none⟩ (.slice a1 es.length c1) = V5 at *
      refine hK.out _ _ ?_ (fun hHeld => ?_)
      · trivial
      clear hK K
      (try simp only [Act.put]); (try simp only [List.setIfInBounds_toArray]); (try simp only [List.set_cons_succ]); (try simp only [List.set_cons_zero])
      refine wpAnyH_take (i := 8) (oi := ⟨_, _, _, _, _, _⟩) (v := ?_) rfl (by kernel_rfl) (by kernel_rfl) (by kernel_rfl) (fun _ _ _ h => h) (Or.inl ⟨by rfl, ?_⟩) (by assumption) ?_
      rotate_left 1
      · intro w hSw; (try dsimp only at hSw); go_simp <;> with_reducible rfl
      (try simp only [Act.put]); (try simp only [List.setIfInBounds_toArray]); (try simp only [List.set_cons_succ]); (try simp only [List.set_cons_zero])
      refine wpAnyH_ready (rs := [9]) (by kernel_rfl) (by simp) ?_
      refine AllReadyH.cons (o := ⟨_, _, _, _, _, _⟩) rfl (fun K hK => ?_) AllReadyH.nil
      have g9 := hX.frozen 8
      have c9 := hX.cell 8 rfl
      go_simp
      clear g9 c9
      replace hO1 := own_oth9 hO1 hX (by decide) hl1 8 (.slice a2 rs.length c2)
      replace hO2 := own_oth9 hO2 hX (by decide) hl1 8 (.slice a2 rs.length c2)
      replace hBR := hBR.setOther (Ne.symm n12) 8 (.slice a2 rs.length c2)
      replace J := keeps_set J hw1 8 (.slice a2 rs.length c2)
      replace hX := hX.set 8 (.slice a2 rs.length c2)
      generalize V5.setCell ⟨P1, 8, none⟩ (.slice a2 rs.length c2) = V6 at *
      refine hK.out _ _ ?_ (fun hHeld => ?_)
      · trivial
      clear hK K
      (try simp only [Act.put]); (try simp only [List.setIfInBounds_toArray]); (try simp only [List.set_cons_succ]); (try simp only [List.set_cons_zero])
      refine wpAnyH_done (by kernel_rfl) ?_ _
      have HX := Lib.hid hX; have HBR := Lib.hid hBR; have HJ := Lib.hid J; have HO1 := Lib.hid hO1; have HO2 := Lib.hid hO2
      obtain ⟨c0, c1, c2, c3, c4, c5, c6, c7, c8⟩ := hX.c9
      obtain ⟨d0, d1, d2, d3, d4, d5, d6, d7, d8⟩ := hBR.c9
      obtain ⟨g0, g1, g2, g3, g4, g5, g6, g7, g8⟩ := hBR.f9
      clear hX hBR J hO1 hO2 r1 r2
      go_wp2_with fail
      clear c0 c1 c2 c3 c4 c5 c6 c7 c8 d0 d1 d2 d3 d4 d5 d6 d7 d8 g0 g1 g2 g3 g4 g5 g6 g7 g8
      have hB9 := HBR.out.set9 (.int .i64 id) (.string ec) (.bool hE) (.string re) (.bool hR) (.string de) (.bool hD) (.slice a1 es.length c1) (.slice a2 rs.length c2)
      have hO1 := own_other9 HO1.out HBR.out (by decide) hl2 (.int .i64 id) (.string ec) (.bool hE) (.string re) (.bool hR) (.string de) (.bool hD) (.slice a1 es.length c1) (.slice a2 rs.length c2)
      have hO2 := own_other9 HO2.out HBR.out (by decide) hl2 (.int .i64 id) (.string ec) (.bool hE) (.string re) (.bool hR) (.string de) (.bool hD) (.slice a1 es.length c1) (.slice a2 rs.length c2)
      exact bodyPost_ret (resN1 (z := ⟨⟨id, ec, hE, re, hR, de, hD, es, rs⟩, a1, c1, a2, c2⟩) rfl hB9 rfl) rfl ⟨_, rfl, rfl, keeps_set9 HJ.out hw2 _ _ _ _ _ _ _ _ _, ⟨hO1.row0.rd, .inr hO1⟩, ⟨hO2.row0.rd, .inr hO2⟩⟩
  · have c9 := hX.cell 8 (v := .slice ar rs.length cr) rfl
    go_simp
    clear c9
    refine hK.out _ _ ?_ (fun hHeld => ?_)
    · trivial
    clear hK K
    (try simp only [Act.put]); (try simp only [List.setIfInBounds_toArray]); (try simp only [List.set_cons_succ]); (try simp only [List.set_cons_zero])
    refine wpAnyH_ready (rs := [1]) (by kernel_rfl) (by simp) ?_
    refine AllReadyH.cons (o := ⟨_, _, _, _, _, _⟩) rfl (fun K hK => ?_) AllReadyH.nil
    have c9 := hX.cell 7 (v := .slice ae es.length ce) rfl
    go_simp
    clear c9
    refine hK.out _ _ ?_ (fun hHeld => ?_)
    · trivial
    clear hK K
    (try simp only [Act.put]); (try simp only [List.setIfInBounds_toArray]); (try simp only [List.set_cons_succ]); (try simp only [List.set_cons_zero])
    refine wpAnyH_ready (rs := [2]) (by kernel_rfl) (by simp) ?_
    refine AllReadyH.cons (o := ⟨_, _, _, _, _, _⟩) rfl (fun K hK => ?_) AllReadyH.nil
    go_simp
    have hc := HC1.out V0 J
    refine hc.mono ?_
    rintro e V3 ⟨u1, rfl, hO1⟩
    clear hc
    have kk := hO1.2
    obtain ⟨a1, c1, rfl, r1⟩ := hO1.rd
    replace hX := hX.keep kk; replace hBR := hBR.keep kk
    replace hO1 := hO1.since (HJB.out.trans J)
    replace J := J.trans kk
    clear kk
    refine hK.out _ _ ?_ (fun hHeld => ?_)
    · trivial
    clear hK K
    (try simp only [Act.put]); (try simp only [List.setIfInBounds_toArray]); (try simp only [List.set_cons_succ]); (try simp only [List.set_cons_zero])
    refine wpAnyH_take (i := 6) (oi := ⟨_, _, _, _, _, _⟩) (v := ?_) rfl (by kernel_rfl) (by kernel_rfl) (by kernel_rfl) (fun _ _ _ h => h) (Or.inl ⟨by rfl, ?_⟩) (by assumption) ?_
    rotate_left 1
    · intro w hSw; (try dsimp only at hSw); go_simp <;> with_reducible rfl
    (try simp only [Act.put]); (try simp only [List.setIfInBounds_toArray]); (try simp only [List.set_cons_succ]); (try simp only [List.set_cons_zero])
    refine wpAnyH_ready (rs := [5]) (by kernel_rfl) (by simp) ?_
    refine AllReadyH.cons (o := ⟨_, _, _, _, _, _⟩) rfl (fun K hK => ?_) AllReadyH.nil
    go_simp
    have hc := HC2.out V3 J
    refine hc.mono ?_
    rintro e V4 ⟨u2, rfl, hO2⟩
    clear hc
    have kk := hO2.2
    obtain ⟨a2, c2, rfl, r2⟩ := hO2.rd
    replace hX := hX.keep kk; replace hBR := hBR.keep kk
    replace hO2 := hO2.since (HJB.out.trans J)
    replace hO1 := hO1.keep kk
    replace J := J.trans kk
    clear kk
    refine hK.out _ _ ?_ (fun hHeld => ?_)
    · trivial
    clear hK K
    (try simp only [Act.put]); (try simp only [List.setIfInBounds_toArray]); (try simp only [List.set_cons_succ]); (try simp only [List.set_cons_zero])
    refine wpAnyH_ready (rs := [7]) (by kernel_rfl) (by simp) ?_
    refine AllReadyH.cons (o := ⟨_, _, _, _, _, _⟩) rfl (fun K hK => ?_) AllReadyH.nil
    have g9 := hX.frozen 7
    have c9 := hX.cell 7 rfl
    go_simp
    clear g9 c9
    replace hO1 := own_oth9 hO1 hX (by decide) hl1 7 (.slice a1 es.length c1)
    replace hO2 := own_oth9 hO2 hX (by decide) hl1 7 (.slice a1 es.length c1)
    replace hBR := hBR.setOther (Ne.symm n12) 7 (.slice a1 es.length c1)
    replace J := keeps_set J hw1 7 (.slice a1 es.length c1)
    replace hX := hX.set 7 (.slice a1 es.length c1)
    generalize V4.setCell ⟨P1, 7, none⟩ (.slice a1 es.length c1) = V5 at *
    refine hK.out _ _ ?_ (fun hHeld => ?_)
    · trivial
    clear hK K
    (try simp only [Act.put]); (try simp only [List.setIfInBounds_toArray]); (try simp only [List.set_cons_succ]); (try simp only [List.set_cons_zero])
    refine wpAnyH_take (i := 8) (oi := ⟨_, _, _, _, _, _⟩) (v := ?_) rfl (by kernel_rfl) (by kernel_rfl) (by kernel_rfl) (fun _ _ _ h => h) (Or.inl ⟨by rfl, ?_⟩) (by assumption) ?_
    rotate_left 1
    · intro w hSw; (try dsimp only at hSw); go_simp <;> with_reducible rfl
    (try simp only [Act.put]); (try simp only [List.setIfInBounds_toArray]); (try simp only [List.set_cons_succ]); (try simp only [List.set_cons_zero])
    refine wpAnyH_ready (rs := [9]) (by kernel_rfl) (by simp) ?_
    refine AllReadyH.cons (o := ⟨_, _, _, _, _, _⟩) rfl (fun K hK => ?_) AllReadyH.nil
    have g9 := hX.frozen 8
    have c9 := hX.cell 8 rfl
    go_simp
    clear g9 c9
    replace hO1 := own_oth9 hO1 hX (by decide) hl1 8 (.slice a2 rs.length c2)
    replace hO2 := own_oth9 hO2 hX (by decide) hl1 8 (.slice a2 rs.length c2)
    replace hBR := hBR.setOther (Ne.symm n12) 8 (.slice a2 rs.length c2)
    replace J := keeps_set J hw1 8 (.slice a2 rs.length c2)
    replace hX := hX.set 8 (.slice a2 rs.length c2)
    generalize V5.setCell ⟨P1, 8, none⟩ (.slice a2 rs.length c2) = V6 at *
    refine hK.out _ _ ?_ (fun hHeld => ?_)
    · trivial
    clear hK K
    (try simp only [Act.put]); (try simp only [List.setIfInBounds_toArray]); (try simp only [List.set_cons_succ]); (try simp only [List.set_cons_zero])
    refine wpAnyH_done (by kernel_rfl) ?_ _
    have HX := Lib.hid hX; have HBR := Lib.hid hBR; have HJ := Lib.hid J; have HO1 := Lib.hid hO1; have HO2 := Lib.hid hO2
    obtain ⟨c0, c1, c2, c3, c4, c5, c6, c7, c8⟩ := hX.c9
    obtain ⟨d0, d1, d2, d3, d4, d5, d6, d7, d8⟩ := hBR.c9
    obtain ⟨g0, g1, g2, g3, g4, g5, g6, g7, g8⟩ := hBR.f9
    clear hX hBR J hO1 hO2 r1 r2
    go_wp2_with fail
    clear c0 c1 c2 c3 c4 c5 c6 c7 c8 d0 d1 d2 d3 d4 d5 d6 d7 d8 g0 g1 g2 g3 g4 g5 g6 g7 g8
    have hB9 := HBR.out.set9 (.int .i64 id) (.string ec) (.bool hE) (.string re) (.bool hR) (.string de) (.bool hD) (.slice a1 es.length c1) (.slice a2 rs.length c2)
    have hO1 := own_other9 HO1.out HBR.out (by decide) hl2 (.int .i64 id) (.string ec) (.bool hE) (.string re) (.bool hR) (.string de) (.bool hD) (.slice a1 es.length c1) (.slice a2 rs.length c2)
    have hO2 := own_other9 HO2.out HBR.out (by decide) hl2 (.int .i64 id) (.string ec) (.bool hE) (.string re) (.bool hR) (.string de) (.bool hD) (.slice a1 es.length c1) (.slice a2 rs.length c2)
    exact bodyPost_ret (resN1 (z := ⟨⟨id, ec, hE, re, hR, de, hD, es, rs⟩, a1, c1, a2, c2⟩) rfl hB9 rfl) rfl ⟨_, rfl, rfl, keeps_set9 HJ.out hw2 _ _ _ _ _ _ _ _ _, ⟨hO1.row0.rd, .inr hO1⟩, ⟨hO2.row0.rd, .inr hO2⟩⟩
end Go.Proofs.YtbcfkgolhklkaaaDoor
