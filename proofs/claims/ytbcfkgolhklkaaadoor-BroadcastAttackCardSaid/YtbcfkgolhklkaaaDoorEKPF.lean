/- Texts joined into one, what is needed of them (a program of ours). -/
import Derived.Test.YtbcfkgolhklkaaaDoorEKPE
import Derived.Test.YtbcfkgolhklkaaaDoorEKP
namespace Go.Proofs.YtbcfkgolhklkaaaDoor
open Go.RowKit Go.Lib Go.Shelf

theorem play_facts {f b : List S} {n : Nat} {byz A : S} : ∀ k {st : St}, AOk n st → AOk n (playN f b n byz A k st) ∧ measS n (playN f b n byz A k st) ≤ measS n st
  | 0, _, h => ⟨h, Nat.le_refl _⟩
  | k + 1, st, h => by
    unfold playN
    cases e : idxL (inA A byz) st.flight with
    | none => exact ⟨h, Nat.le_refl _⟩
    | some i =>
      have hi := (idxL_some e).1
      have hm := deliv_meas (f := f) (b := b) (byz := byz) (n := n) (k := i) hi (dst_at h.dst hi)
      obtain ⟨h1, h2⟩ := play_facts (f := f) (b := b) (byz := byz) (A := A) k (h.deliv (f := f) (b := b) (byz := byz) i)
      exact ⟨h1, Nat.le_trans h2 (by omega)⟩
theorem pushL_len (A p byz : S) (so : Nat) (v : Str) : (pushL A p byz so v).length ≤ 528 := by
  unfold pushL
  rw [List.length_append]
  have h1 := sayL_len A 1 so v
  have h2 := flatMap_leL (fun (k : Int) => (memL (p &&& byz)).flatMap fun i => sayL A k i v) 256 [2, 3] (fun k _ => by
    have h3 := flatMap_leL (fun i => sayL A k i v) 16 (memL (p &&& byz)) (fun i _ => sayL_len A k i v)
    have h4 := memL_len (p &&& byz)
    omega)
  simp only [List.length_cons, List.length_nil] at h2
  omega
theorem side_ok {f b : List S} {n : Nat} (hn : n ≤ 8) {byz : S} {st : St} (h : AOk n st) {so : Nat} (hs : so < 16) {A p : S} (hA : InN n A) (v : Str) (hl : st.flight.length ≤ 1000) : AOk n (sideS f b n byz so st A p v) ∧ (sideS f b n byz so st A p v).flight.length ≤ 2000 := by
  have h1 := h.push (A := A) (p := p) (byz := byz) hs hA v
  obtain ⟨h2, h3⟩ := play_facts (f := f) (b := b) (byz := byz) (A := A) (measS n ⟨st.nodes, st.flight ++ pushL A p byz so v⟩) h1
  have h4 := h1.meas hn
  have h5 := pushL_len A p byz so v
  refine ⟨h2, ?_⟩
  have h6 : (sideS f b n byz so st A p v).flight.length ≤ measS n (sideS f b n byz so st A p v) := Nat.le_add_right _ _
  have h7 : measS n (sideS f b n byz so st A p v) ≤ measS n ⟨st.nodes, st.flight ++ pushL A p byz so v⟩ := h3
  dsimp only at h4
  rw [List.length_append] at h4
  omega
set_option maxRecDepth 200000 in
set_option maxHeartbeats 8000000 in
theorem rattackC_any (w : World) (fa : Option Addr) (fm fc : Nat) (f : List S) (ba : Option Addr) (bm bc : Nat) (b : List S) (N : Int) (hf : Rd w fa fm fc 1 (sl f)) (hb : Rd w ba bm bc 1 (sl b)) (hfm : fm ≤ 1000000) (hbm : bm ≤ 1000000) :
    Calls Tryd.prog 14 #[.slice fa fm fc, .slice ba bm bc, .int .i64 N] w fun e w' => RetC w (atkE f b N) ((splI N.toNat b f).elim cd0 fun r => ⟨N, r.2.2, tzS r.2.2, atkS f b N.toNat r.1 r.2.1 r.2.2⟩) e w' := by
  have hcast := Blk.new w 32 #[.int .i64 0, .int .u16 0, .int .i64 0, .slice none 0 0, .slice none 0 0]
  have kC := (Keeps.refl w).alloc (.cells #[.int .i64 0, .int .u16 0, .int .i64 0, .slice none 0 0, .slice none 0 0] 32)
  have HBR := Lib.hid hcast; have HJ := Lib.hid kC; have HF := Lib.hid hf; have HB := Lib.hid hb
  clear hcast kC
  by_cases h1 : N < 1
  · rw [show atkE f b N = 7 by unfold atkE; rw [if_pos (by omega)]]
    generalize (splI N.toNat b f).elim cd0 (fun r => (⟨N, r.2.2, tzS r.2.2, atkS f b N.toNat r.1 r.2.1 r.2.2⟩ : CD)) = c0
    clear hf hb
    go_enter Tryd.func14, Tryd.ntmps14
    go_wp2_with fail
    exact bodyPost_ret (resCast (byz := 0#16) rfl HBR.out rfl rfl) rfl ⟨HJ.out, _, rfl, by rw [if_neg (by decide)]; exact hasC_zero _⟩
  by_cases h2 : N > 8
  · rw [show atkE f b N = 7 by unfold atkE; rw [if_pos (by omega)]]
    generalize (splI N.toNat b f).elim cd0 (fun r => (⟨N, r.2.2, tzS r.2.2, atkS f b N.toNat r.1 r.2.1 r.2.2⟩ : CD)) = c0
    clear hf hb
    go_enter Tryd.func14, Tryd.ntmps14
    go_wp2_with fail
    exact bodyPost_ret (resCast (byz := 0#16) rfl HBR.out rfl rfl) rfl ⟨HJ.out, _, rfl, by rw [if_neg (by decide)]; exact hasC_zero _⟩
  obtain ⟨n, rfl⟩ : ∃ n : Nat, N = n := ⟨N.toNat, by omega⟩
  rw [Int.toNat_natCast]
  have HX := Lib.hid (show atkE f b n = if chk39 f b n ≠ 0 then chk39 f b n else if (splI n b f).isSome then 0 else 13 by unfold atkE; rw [if_neg (by omega), Int.toNat_natCast])
  have HLI := Lib.hid (fun W (k : Keeps w W) => rlists39_any n (by omega) fa fm fc f ba bm bc b W (hf.keep k) (hb.keep k) hfm hbm)
  have HCI := Lib.hid (fun h => chk_ins (f := f) (b := b) (n := n) h)
  have L1 := Lib.hid hf.lenS; have L2 := Lib.hid hb.lenS
  have sf := hf.small; have sb := hb.small
  obtain ⟨er, her⟩ : ∃ e, e = atkE f b n := ⟨_, rfl⟩
  rw [← her] at HX ⊢
  obtain ⟨c0, hc0⟩ : ∃ c, c = (splI n b f).elim cd0 (fun r => (⟨n, r.2.2, tzS r.2.2, atkS f b n r.1 r.2.1 r.2.2⟩ : CD)) := ⟨_, rfl⟩
  rw [← hc0]
  have HC0 := Lib.hid hc0
  clear her hc0 hf hb
  generalize hck : chk39 f b n = ck at HX HLI HCI
  clear hck
  go_enter Tryd.func14, Tryd.ntmps14
  go_wp2_with fail
  refine (HLI.out _ HJ.out).mono ?_
  rintro e W0 ⟨rfl, k1⟩
  have hBR := HBR.out.keep k1
  have J := HJ.out.trans k1
  clear HLI HBR HJ k1
  by_cases hc0 : ck = 0
  case neg =>
    have hcb : (ck != 0) = true := by simpa using hc0
    have HE : Hid (er = ck) := Lib.hid (by rw [HX.out, if_pos hc0])
    obtain ⟨d0, d1, d2, d3, d4⟩ := Go.Proofs.YtbcfkgolhklkaaaDoor.c5 hBR
    obtain ⟨g0, g1, g2, g3, g4⟩ := f5 hBR
    have HBX := Lib.hid hBR; have HJX := Lib.hid J
    clear hBR J
    go_wp2_with fail
    clear d0 d1 d2 d3 d4 g0 g1 g2 g3 g4
    exact bodyPost_ret (resCast (byz := 0#16) rfl (set5 HBX.out _ _ _ _ _) rfl rfl) rfl ⟨keeps_set5 HJX.out (Nat.le_refl _) _ _ _ _ _, _, by rw [HE.out]; rfl, by rw [if_neg (by rw [HE.out]; first | decide | assumption)]; exact hasC_zero _⟩
  subst hc0
  have hbn : ((0 : Int) != 0) = false := rfl
  have HINS := Lib.hid (HCI.out rfl)
  have HX2 : Hid (er = if (splI n b f).isSome then 0 else 13) := Lib.hid (by rw [HX.out, if_neg (by simp)])
  have HBR := Lib.hid hBR; have HJ := Lib.hid J
  clear HCI HX hBR J
  go_wp2_with fail
  go_loopw [9] (fun u wr => ∃ i : Nat, i ≤ fm ∧ u = .int .i64 i ∧ Keeps W0 wr ∧ Hid (splI n b f = splI n b (f.drop i))) (fun u _ => fm - (RowKit.intOf u).toNat)
  case atStart => exact ⟨0, Nat.zero_le _, rfl, Keeps.refl _, Lib.hid (by rw [List.drop_zero])⟩
  case round =>
    obtain ⟨i, hi, rfl, K1, HI⟩ := hrel
    by_cases hlt : i < fm
    · go_wp2_with fail
      obtain ⟨wo, rfl⟩ : ∃ wo : World, wo = wr := ⟨_, rfl⟩
      go_loopw [10] (fun u wr => ∃ j : Nat, i ≤ j ∧ j ≤ fm ∧ u = .int .i64 j ∧ Keeps W0 wr ∧ Hid (splJ n b (at_ f i) (f.drop i) = splJ n b (at_ f i) (f.drop j))) (fun u _ => fm - (RowKit.intOf u).toNat)
      case atStart => exact ⟨i, Nat.le_refl _, hi, rfl, K1, Lib.hid rfl⟩
      case round =>
        obtain ⟨j, hij, hj, rfl, K2, HJJ⟩ := hrel
        by_cases hlj : j < fm
        · go_wp2_with fail
          obtain ⟨wo2, rfl⟩ : ∃ wo2 : World, wo2 = wr := ⟨_, rfl⟩
          go_loopw [11] (fun u wr => ∃ k : Nat, k ≤ bm ∧ u = .int .i64 k ∧ Keeps W0 wr ∧ Hid (splB n (at_ f i) (at_ f j) b = splB n (at_ f i) (at_ f j) (b.drop k))) (fun u _ => bm - (RowKit.intOf u).toNat)
          case atStart => exact ⟨0, Nat.zero_le _, rfl, K2, Lib.hid (by rw [List.drop_zero])⟩
          case round =>
            obtain ⟨k, hk, rfl, K3, HKK⟩ := hrel
            by_cases hlk : k < bm
            · have hfa := HF.out.isSome (by omega)
              have hba := HB.out.isSome (by omega)
              have HD1 := Lib.hid (dropH L1 hlt); have HD2 := Lib.hid (dropH L1 hlj); have HD3 := Lib.hid (dropH L2 hlk)
              have HLT : Hid ((at_ f i).toNat < 2 ^ n ∧ (at_ f j).toNat < 2 ^ n ∧ (at_ b k).toNat < 2 ^ n) := Lib.hid ⟨HINS.out.1 _ (by have := List.mem_of_mem_drop (i := i) (l := f) (by rw [HD1.out]; exact List.mem_cons_self ..); exact this), HINS.out.1 _ (by have := List.mem_of_mem_drop (i := j) (l := f) (by rw [HD2.out]; exact List.mem_cons_self ..); exact this), HINS.out.2.1 _ (by have := List.mem_of_mem_drop (i := k) (l := b) (by rw [HD3.out]; exact List.mem_cons_self ..); exact this)⟩
              have HFF := Lib.hid (fun W (K : Keeps w W) => And.intro ((HF.out.keep K).at hlt) (And.intro ((HF.out.keep K).at hlj) ((HB.out.keep K).at hlk)))
              generalize at_ f i = q at *
              generalize at_ f j = p at *
              generalize at_ b k = t at *
              have HF3 := Lib.hid (fun W (K : Keeps W0 W) => HFF.out W (HJ.out.trans K))
              have HB3 := Lib.hid (fun W (K : Keeps w W) => (HFF.out W K).2.2)
              have HSPL := Lib.hid (fun W => rsplit39_any q p t n (by omega) HLT.out.2.2 W)
              cases hsp : splP n q p t with
              | false =>
                rw [hsp] at HSPL
                have HB4 : Hid (splB n q p b = splB n q p (b.drop (k + 1))) := Lib.hid (by rw [HKK.out, HD3.out, splB, if_neg (by rw [hsp]; simp)])
                clear hsp HKK
                go_upto_region 15 with fail
                have kd := (Keeps.refl wr).drew
                have hF := HF3.out _ (K3.trans kd)
                have KW := K3.trans kd
                refine wp_region_held_drew (S := (fun w' => w'.cell? (adr fa i) = some (.int .u16 (sv q)) ∧ w'.cell? (adr fa j) = some (.int .u16 (sv p)) ∧ w'.cell? (adr ba k) = some (.int .u16 (sv t)))) (by kernel_rfl) ?_ (fun hHeld => ?_)
                · exact ⟨hF.1, hF.2.1, hF.2.2⟩
                clear K3 kd
                generalize wr.drew = V0 at *
                refine wpAnyH_take (i := 0) (oi := ⟨_, _, _, _, _, _⟩) (v := ?_) rfl (by kernel_rfl) (by kernel_rfl) (by kernel_rfl) (fun _ _ _ h => h) (Or.inl ⟨by rfl, ?_⟩) (by assumption) ?_
                rotate_left 1
                · intro w hSw; (try dsimp only at hSw); go_simp <;> with_reducible rfl
                (try simp only [Act.put]); (try simp only [List.setIfInBounds_toArray]); (try simp only [List.set_cons_succ]); (try simp only [List.set_cons_zero])
                refine wpAnyH_take (i := 1) (oi := ⟨_, _, _, _, _, _⟩) (v := ?_) rfl (by kernel_rfl) (by kernel_rfl) (by kernel_rfl) (fun _ _ _ h => h) (Or.inl ⟨by rfl, ?_⟩) (by assumption) ?_
                rotate_left 1
                · intro w hSw; (try dsimp only at hSw); go_simp <;> with_reducible rfl
                (try simp only [Act.put]); (try simp only [List.setIfInBounds_toArray]); (try simp only [List.set_cons_succ]); (try simp only [List.set_cons_zero])
                refine wpAnyH_take (i := 2) (oi := ⟨_, _, _, _, _, _⟩) (v := ?_) rfl (by kernel_rfl) (by kernel_rfl) (by kernel_rfl) (fun _ _ _ h => h) (Or.inl ⟨by rfl, ?_⟩) (by assumption) ?_
                rotate_left 1
                · intro w hSw; (try dsimp only at hSw); go_simp <;> with_reducible rfl
                (try simp only [Act.put]); (try simp only [List.setIfInBounds_toArray]); (try simp only [List.set_cons_succ]); (try simp only [List.set_cons_zero])
                refine wpAnyH_take (i := 3) (oi := ⟨_, _, _, _, _, _⟩) (v := ?_) rfl (by kernel_rfl) (by kernel_rfl) (by kernel_rfl) (fun _ _ _ h => h) (Or.inl ⟨by rfl, ?_⟩) (by assumption) ?_
                rotate_left 1
                · intro w hSw; (try dsimp only at hSw); go_simp <;> with_reducible rfl
                (try simp only [Act.put]); (try simp only [List.setIfInBounds_toArray]); (try simp only [List.set_cons_succ]); (try simp only [List.set_cons_zero])
                refine wpAnyH_take (i := 4) (oi := ⟨_, _, _, _, _, _⟩) (v := ?_) rfl (by kernel_rfl) (by kernel_rfl) (by kernel_rfl) (fun _ _ _ h => h) (Or.inl ⟨by rfl, ?_⟩) (by assumption) ?_
                rotate_left 1
                · intro w hSw; (try dsimp only at hSw); go_simp <;> with_reducible rfl
                (try simp only [Act.put]); (try simp only [List.setIfInBounds_toArray]); (try simp only [List.set_cons_succ]); (try simp only [List.set_cons_zero])
                refine wpAnyH_take (i := 5) (oi := ⟨_, _, _, _, _, _⟩) (v := ?_) rfl (by kernel_rfl) (by kernel_rfl) (by kernel_rfl) (fun _ _ _ h => h) (Or.inl ⟨by rfl, ?_⟩) (by assumption) ?_
                rotate_left 1
                · intro w hSw; (try dsimp only at hSw); go_simp <;> with_reducible rfl
                (try simp only [Act.put]); (try simp only [List.setIfInBounds_toArray]); (try simp only [List.set_cons_succ]); (try simp only [List.set_cons_zero])
                refine wpAnyH_take (i := 6) (oi := ⟨_, _, _, _, _, _⟩) (v := ?_) rfl (by kernel_rfl) (by kernel_rfl) (by kernel_rfl) (fun _ _ _ h => h) (Or.inl ⟨by rfl, ?_⟩) (by assumption) ?_
                rotate_left 1
                · intro w hSw; (try dsimp only at hSw); go_simp <;> with_reducible rfl
                (try simp only [Act.put]); (try simp only [List.setIfInBounds_toArray]); (try simp only [List.set_cons_succ]); (try simp only [List.set_cons_zero])
                refine wpAnyH_take (i := 7) (oi := ⟨_, _, _, _, _, _⟩) (v := ?_) rfl (by kernel_rfl) (by kernel_rfl) (by kernel_rfl) (fun _ _ _ h => h) (Or.inl ⟨by rfl, ?_⟩) (by assumption) ?_
                rotate_left 1
                · intro w hSw; (try dsimp only at hSw); go_simp <;> with_reducible rfl
                (try simp only [Act.put]); (try simp only [List.setIfInBounds_toArray]); (try simp only [List.set_cons_succ]); (try simp only [List.set_cons_zero])
                refine wpAnyH_take (i := 8) (oi := ⟨_, _, _, _, _, _⟩) (v := ?_) rfl (by kernel_rfl) (by kernel_rfl) (by kernel_rfl) (fun _ _ _ h => h) (Or.inl ⟨by rfl, ?_⟩) (by assumption) ?_
                rotate_left 1
                · intro w hSw; (try dsimp only at hSw); go_simp <;> with_reducible rfl
                (try simp only [Act.put]); (try simp only [List.setIfInBounds_toArray]); (try simp only [List.set_cons_succ]); (try simp only [List.set_cons_zero])
                refine wpAnyH_take (i := 9) (oi := ⟨_, _, _, _, _, _⟩) (v := ?_) rfl (by kernel_rfl) (by kernel_rfl) (by kernel_rfl) (fun _ _ _ h => h) (Or.inl ⟨by rfl, ?_⟩) (by assumption) ?_
                rotate_left 1
                · intro w hSw; (try dsimp only at hSw); go_simp <;> with_reducible rfl
                (try simp only [Act.put]); (try simp only [List.setIfInBounds_toArray]); (try simp only [List.set_cons_succ]); (try simp only [List.set_cons_zero])
                refine wpAnyH_take (i := 10) (oi := ⟨_, _, _, _, _, _⟩) (v := ?_) rfl (by kernel_rfl) (by kernel_rfl) (by kernel_rfl) (fun _ _ _ h => h) (Or.inl ⟨by rfl, ?_⟩) (by assumption) ?_
                rotate_left 1
                · intro w hSw; (try dsimp only at hSw); go_simp <;> with_reducible rfl
                (try simp only [Act.put]); (try simp only [List.setIfInBounds_toArray]); (try simp only [List.set_cons_succ]); (try simp only [List.set_cons_zero])
                refine wpAnyH_take (i := 11) (oi := ⟨_, _, _, _, _, _⟩) (v := ?_) rfl (by kernel_rfl) (by kernel_rfl) (by kernel_rfl) (fun _ _ _ h => h) (Or.inl ⟨by rfl, ?_⟩) (by assumption) ?_
                rotate_left 1
                · intro w hSw; (try dsimp only at hSw); go_simp <;> with_reducible rfl
                (try simp only [Act.put]); (try simp only [List.setIfInBounds_toArray]); (try simp only [List.set_cons_succ]); (try simp only [List.set_cons_zero])
                refine wpAnyH_take (i := 12) (oi := ⟨_, _, _, _, _, _⟩) (v := ?_) rfl (by kernel_rfl) (by kernel_rfl) (by kernel_rfl) (fun _ _ _ h => h) (Or.inl ⟨by rfl, ?_⟩) (by assumption) ?_
                rotate_left 1
                · intro w hSw; (try dsimp only at hSw); go_simp <;> with_reducible rfl
                (try simp only [Act.put]); (try simp only [List.setIfInBounds_toArray]); (try simp only [List.set_cons_succ]); (try simp only [List.set_cons_zero])
                refine wpAnyH_ready (rs := [13]) (by kernel_rfl) (by simp) ?_
                refine AllReadyH.cons (o := ⟨_, _, _, _, _, _⟩) rfl (fun K hK => ?_) AllReadyH.nil
                go_simp
                refine (HSPL.out V0).mono ?_
                rintro e V1 ⟨rfl, k1⟩
                have hF := HF3.out _ (KW.trans k1)
                have K4 := KW.trans k1
                refine hK.out _ _ ?_ (fun hHeld => ?_)
                · exact ⟨hF.1, hF.2.1, hF.2.2⟩
                clear hK K
                (try simp only [Act.put]); (try simp only [List.setIfInBounds_toArray]); (try simp only [List.set_cons_succ]); (try simp only [List.set_cons_zero])
                refine wpAnyH_take (i := 14) (oi := ⟨_, _, _, _, _, _⟩) (v := ?_) rfl (by kernel_rfl) (by kernel_rfl) (by kernel_rfl) (fun _ _ _ h => h) (Or.inl ⟨by rfl, ?_⟩) (by assumption) ?_
                rotate_left 1
                · intro w hSw; (try dsimp only at hSw); go_simp <;> with_reducible rfl
                (try simp only [Act.put]); (try simp only [List.setIfInBounds_toArray]); (try simp only [List.set_cons_succ]); (try simp only [List.set_cons_zero])
                refine wpAnyH_done (by kernel_rfl) ?_ _
                have HK4 := Lib.hid K4
                clear hF K4 KW k1
                go_wp2_with fail
                go_roundw
                case rel => exact ⟨k + 1, by omega, by go_num, HK4.out, HB4⟩
                case measure => simp [RowKit.intOf]; omega
              | true =>
                rw [hsp] at HSPL
                have HSPP := Lib.hid hsp
                have HSP9 : Hid (splI n b f = some (q, p, t)) := Lib.hid (by
                  rw [HI.out, HD1.out, splI, ← HD1.out, HJJ.out, HD2.out, splJ, HKK.out, HD3.out, splB, if_pos HSPP.out])
                have HE0 : Hid (er = 0) := Lib.hid (by rw [HX2.out, HSP9.out]; rfl)
                have HSP : Hid (c0 = ⟨n, t, tzS t, atkS f b n q p t⟩) := Lib.hid (by rw [HC0.out, HSP9.out]; rfl)
                clear hsp HKK HI HJJ
                go_upto_region 15 with fail
                have kd := (Keeps.refl wr).drew
                have hF := HF3.out _ (K3.trans kd)
                have KW := K3.trans kd
                refine wp_region_held_drew (S := (fun w' => w'.cell? (adr fa i) = some (.int .u16 (sv q)) ∧ w'.cell? (adr fa j) = some (.int .u16 (sv p)) ∧ w'.cell? (adr ba k) = some (.int .u16 (sv t)))) (by kernel_rfl) ?_ (fun hHeld => ?_)
                · exact ⟨hF.1, hF.2.1, hF.2.2⟩
                clear K3 kd
                generalize wr.drew = V0 at *
                refine wpAnyH_take (i := 0) (oi := ⟨_, _, _, _, _, _⟩) (v := ?_) rfl (by kernel_rfl) (by kernel_rfl) (by kernel_rfl) (fun _ _ _ h => h) (Or.inl ⟨by rfl, ?_⟩) (by assumption) ?_
                rotate_left 1
                · intro w hSw; (try dsimp only at hSw); go_simp <;> with_reducible rfl
                (try simp only [Act.put]); (try simp only [List.setIfInBounds_toArray]); (try simp only [List.set_cons_succ]); (try simp only [List.set_cons_zero])
                refine wpAnyH_take (i := 1) (oi := ⟨_, _, _, _, _, _⟩) (v := ?_) rfl (by kernel_rfl) (by kernel_rfl) (by kernel_rfl) (fun _ _ _ h => h) (Or.inl ⟨by rfl, ?_⟩) (by assumption) ?_
                rotate_left 1
                · intro w hSw; (try dsimp only at hSw); go_simp <;> with_reducible rfl
                (try simp only [Act.put]); (try simp only [List.setIfInBounds_toArray]); (try simp only [List.set_cons_succ]); (try simp only [List.set_cons_zero])
                refine wpAnyH_take (i := 2) (oi := ⟨_, _, _, _, _, _⟩) (v := ?_) rfl (by kernel_rfl) (by kernel_rfl) (by kernel_rfl) (fun _ _ _ h => h) (Or.inl ⟨by rfl, ?_⟩) (by assumption) ?_
                rotate_left 1
                · intro w hSw; (try dsimp only at hSw); go_simp <;> with_reducible rfl
                (try simp only [Act.put]); (try simp only [List.setIfInBounds_toArray]); (try simp only [List.set_cons_succ]); (try simp only [List.set_cons_zero])
                refine wpAnyH_take (i := 3) (oi := ⟨_, _, _, _, _, _⟩) (v := ?_) rfl (by kernel_rfl) (by kernel_rfl) (by kernel_rfl) (fun _ _ _ h => h) (Or.inl ⟨by rfl, ?_⟩) (by assumption) ?_
                rotate_left 1
                · intro w hSw; (try dsimp only at hSw); go_simp <;> with_reducible rfl
                (try simp only [Act.put]); (try simp only [List.setIfInBounds_toArray]); (try simp only [List.set_cons_succ]); (try simp only [List.set_cons_zero])
                refine wpAnyH_take (i := 4) (oi := ⟨_, _, _, _, _, _⟩) (v := ?_) rfl (by kernel_rfl) (by kernel_rfl) (by kernel_rfl) (fun _ _ _ h => h) (Or.inl ⟨by rfl, ?_⟩) (by assumption) ?_
                rotate_left 1
                · intro w hSw; (try dsimp only at hSw); go_simp <;> with_reducible rfl
                (try simp only [Act.put]); (try simp only [List.setIfInBounds_toArray]); (try simp only [List.set_cons_succ]); (try simp only [List.set_cons_zero])
                refine wpAnyH_take (i := 5) (oi := ⟨_, _, _, _, _, _⟩) (v := ?_) rfl (by kernel_rfl) (by kernel_rfl) (by kernel_rfl) (fun _ _ _ h => h) (Or.inl ⟨by rfl, ?_⟩) (by assumption) ?_
                rotate_left 1
                · intro w hSw; (try dsimp only at hSw); go_simp <;> with_reducible rfl
                (try simp only [Act.put]); (try simp only [List.setIfInBounds_toArray]); (try simp only [List.set_cons_succ]); (try simp only [List.set_cons_zero])
                refine wpAnyH_take (i := 6) (oi := ⟨_, _, _, _, _, _⟩) (v := ?_) rfl (by kernel_rfl) (by kernel_rfl) (by kernel_rfl) (fun _ _ _ h => h) (Or.inl ⟨by rfl, ?_⟩) (by assumption) ?_
                rotate_left 1
                · intro w hSw; (try dsimp only at hSw); go_simp <;> with_reducible rfl
                (try simp only [Act.put]); (try simp only [List.setIfInBounds_toArray]); (try simp only [List.set_cons_succ]); (try simp only [List.set_cons_zero])
                refine wpAnyH_take (i := 7) (oi := ⟨_, _, _, _, _, _⟩) (v := ?_) rfl (by kernel_rfl) (by kernel_rfl) (by kernel_rfl) (fun _ _ _ h => h) (Or.inl ⟨by rfl, ?_⟩) (by assumption) ?_
                rotate_left 1
                · intro w hSw; (try dsimp only at hSw); go_simp <;> with_reducible rfl
                (try simp only [Act.put]); (try simp only [List.setIfInBounds_toArray]); (try simp only [List.set_cons_succ]); (try simp only [List.set_cons_zero])
                refine wpAnyH_take (i := 8) (oi := ⟨_, _, _, _, _, _⟩) (v := ?_) rfl (by kernel_rfl) (by kernel_rfl) (by kernel_rfl) (fun _ _ _ h => h) (Or.inl ⟨by rfl, ?_⟩) (by assumption) ?_
                rotate_left 1
                · intro w hSw; (try dsimp only at hSw); go_simp <;> with_reducible rfl
                (try simp only [Act.put]); (try simp only [List.setIfInBounds_toArray]); (try simp only [List.set_cons_succ]); (try simp only [List.set_cons_zero])
                refine wpAnyH_take (i := 9) (oi := ⟨_, _, _, _, _, _⟩) (v := ?_) rfl (by kernel_rfl) (by kernel_rfl) (by kernel_rfl) (fun _ _ _ h => h) (Or.inl ⟨by rfl, ?_⟩) (by assumption) ?_
                rotate_left 1
                · intro w hSw; (try dsimp only at hSw); go_simp <;> with_reducible rfl
                (try simp only [Act.put]); (try simp only [List.setIfInBounds_toArray]); (try simp only [List.set_cons_succ]); (try simp only [List.set_cons_zero])
                refine wpAnyH_take (i := 10) (oi := ⟨_, _, _, _, _, _⟩) (v := ?_) rfl (by kernel_rfl) (by kernel_rfl) (by kernel_rfl) (fun _ _ _ h => h) (Or.inl ⟨by rfl, ?_⟩) (by assumption) ?_
                rotate_left 1
                · intro w hSw; (try dsimp only at hSw); go_simp <;> with_reducible rfl
                (try simp only [Act.put]); (try simp only [List.setIfInBounds_toArray]); (try simp only [List.set_cons_succ]); (try simp only [List.set_cons_zero])
                refine wpAnyH_take (i := 11) (oi := ⟨_, _, _, _, _, _⟩) (v := ?_) rfl (by kernel_rfl) (by kernel_rfl) (by kernel_rfl) (fun _ _ _ h => h) (Or.inl ⟨by rfl, ?_⟩) (by assumption) ?_
                rotate_left 1
                · intro w hSw; (try dsimp only at hSw); go_simp <;> with_reducible rfl
                (try simp only [Act.put]); (try simp only [List.setIfInBounds_toArray]); (try simp only [List.set_cons_succ]); (try simp only [List.set_cons_zero])
                refine wpAnyH_take (i := 12) (oi := ⟨_, _, _, _, _, _⟩) (v := ?_) rfl (by kernel_rfl) (by kernel_rfl) (by kernel_rfl) (fun _ _ _ h => h) (Or.inl ⟨by rfl, ?_⟩) (by assumption) ?_
                rotate_left 1
                · intro w hSw; (try dsimp only at hSw); go_simp <;> with_reducible rfl
                (try simp only [Act.put]); (try simp only [List.setIfInBounds_toArray]); (try simp only [List.set_cons_succ]); (try simp only [List.set_cons_zero])
                refine wpAnyH_ready (rs := [13]) (by kernel_rfl) (by simp) ?_
                refine AllReadyH.cons (o := ⟨_, _, _, _, _, _⟩) rfl (fun K hK => ?_) AllReadyH.nil
                go_simp
                refine (HSPL.out V0).mono ?_
                rintro e V1 ⟨rfl, k1⟩
                have hF := HF3.out _ (KW.trans k1)
                have K4 := KW.trans k1
                refine hK.out _ _ ?_ (fun hHeld => ?_)
                · exact ⟨hF.1, hF.2.1, hF.2.2⟩
                clear hK K
                (try simp only [Act.put]); (try simp only [List.setIfInBounds_toArray]); (try simp only [List.set_cons_succ]); (try simp only [List.set_cons_zero])
                refine wpAnyH_take (i := 14) (oi := ⟨_, _, _, _, _, _⟩) (v := ?_) rfl (by kernel_rfl) (by kernel_rfl) (by kernel_rfl) (fun _ _ _ h => h) (Or.inl ⟨by rfl, ?_⟩) (by assumption) ?_
                rotate_left 1
                · intro w hSw; (try dsimp only at hSw); go_simp <;> with_reducible rfl
                (try simp only [Act.put]); (try simp only [List.setIfInBounds_toArray]); (try simp only [List.set_cons_succ]); (try simp only [List.set_cons_zero])
                refine wpAnyH_done (by kernel_rfl) ?_ _
                have hts := small_lt (n := n) (by omega) HLT.out.2.2
                have ht0 := (splP_iff.1 HSPP.out).1
                have HMH := Lib.hid (mem_head hts ht0)
                have HSR := Lib.hid (show tzS t < 16 by have := (tz_bit hts ht0).1; omega)
                have HMEM := Lib.hid (fun W => members7_any t W)
                rw [memTo_memL] at HMEM
                have HSTA := Lib.hid (fun W (K : Keeps w W) => rstart39_any w W K n t (tzS t) (by omega))
                clear hts ht0 KW k1 HD1 HD2 HD3 HF3 HSPL
                generalize memL t = M at *
                have HF3 := HFF
                go_upto_region 16 with fail
                go_cut [12] (fun s12 wx => ∃ (P3 : Nat) (an : Option Addr) (nas : List NA) (cn : Nat) (ag : Option Addr) (cg : Nat), s12 = .pointer (some ⟨P3, 0, none⟩) ∧ w.heap.size ≤ P3 ∧ P3 ≠ w.heap.size ∧ Blk wx P3 32 #[.int .i64 n, .int .u16 (sv t), .int .i64 (tzS t), .slice an nas.length cn, .slice ag 0 cg] ∧ Blk wx w.heap.size 32 #[.int .i64 0, .int .u16 0, .int .i64 0, .slice none 0 0, .slice none 0 0] ∧ HasB w wx ⟨(n : Int), t, (tzS t : Int), ⟨startN n, []⟩⟩ (.agg #[.int .i64 n, .int .u16 (sv t), .int .i64 (tzS t), .slice an nas.length cn, .slice ag 0 cg]) ∧ Keeps w wx)
                case first =>
                  have kd := (Keeps.refl V1).drew
                  have hBR := HBR.out.keep (K4.trans kd)
                  have KW : Keeps w _ := HJ.out.trans (K4.trans kd)
                  refine wp_region_held_drew (S := (fun w' => w'.cell? (adr ba k) = some (.int .u16 (sv t)))) (by kernel_rfl) ?_ (fun hHeld => ?_)
                  · exact HB3.out _ KW
                  clear kd hF K4
                  generalize V1.drew = V0 at *
                  refine wpAnyH_take (i := 0) (oi := ⟨_, _, _, _, _, _⟩) (v := ?_) rfl (by kernel_rfl) (by kernel_rfl) (by kernel_rfl) (fun _ _ _ h => h) (Or.inl ⟨by rfl, ?_⟩) (by assumption) ?_
                  rotate_left 1
                  · intro w hSw; (try dsimp only at hSw); go_simp <;> with_reducible rfl
                  (try simp only [Act.put]); (try simp only [List.setIfInBounds_toArray]); (try simp only [List.set_cons_succ]); (try simp only [List.set_cons_zero])
                  refine wpAnyH_take (i := 1) (oi := ⟨_, _, _, _, _, _⟩) (v := ?_) rfl (by kernel_rfl) (by kernel_rfl) (by kernel_rfl) (fun _ _ _ h => h) (Or.inl ⟨by rfl, ?_⟩) (by assumption) ?_
                  rotate_left 1
                  · intro w hSw; (try dsimp only at hSw); go_simp <;> with_reducible rfl
                  (try simp only [Act.put]); (try simp only [List.setIfInBounds_toArray]); (try simp only [List.set_cons_succ]); (try simp only [List.set_cons_zero])
                  refine wpAnyH_take (i := 2) (oi := ⟨_, _, _, _, _, _⟩) (v := ?_) rfl (by kernel_rfl) (by kernel_rfl) (by kernel_rfl) (fun _ _ _ h => h) (Or.inl ⟨by rfl, ?_⟩) (by assumption) ?_
                  rotate_left 1
                  · intro w hSw; (try dsimp only at hSw); go_simp <;> with_reducible rfl
                  (try simp only [Act.put]); (try simp only [List.setIfInBounds_toArray]); (try simp only [List.set_cons_succ]); (try simp only [List.set_cons_zero])
                  refine wpAnyH_take (i := 3) (oi := ⟨_, _, _, _, _, _⟩) (v := ?_) rfl (by kernel_rfl) (by kernel_rfl) (by kernel_rfl) (fun _ _ _ h => h) (Or.inl ⟨by rfl, ?_⟩) (by assumption) ?_
                  rotate_left 1
                  · intro w hSw; (try dsimp only at hSw); go_simp <;> with_reducible rfl
                  (try simp only [Act.put]); (try simp only [List.setIfInBounds_toArray]); (try simp only [List.set_cons_succ]); (try simp only [List.set_cons_zero])
                  refine wpAnyH_take (i := 4) (oi := ⟨_, _, _, _, _, _⟩) (v := ?_) rfl (by kernel_rfl) (by kernel_rfl) (by kernel_rfl) (fun _ _ _ h => h) (Or.inl ⟨by rfl, ?_⟩) (by assumption) ?_
                  rotate_left 1
                  · intro w hSw; (try dsimp only at hSw); go_simp <;> with_reducible rfl
                  (try simp only [Act.put]); (try simp only [List.setIfInBounds_toArray]); (try simp only [List.set_cons_succ]); (try simp only [List.set_cons_zero])
                  refine wpAnyH_take (i := 5) (oi := ⟨_, _, _, _, _, _⟩) (v := ?_) rfl (by kernel_rfl) (by kernel_rfl) (by kernel_rfl) (fun _ _ _ h => h) (Or.inl ⟨by rfl, ?_⟩) (by assumption) ?_
                  rotate_left 1
                  · intro w hSw; (try dsimp only at hSw); go_simp <;> with_reducible rfl
                  (try simp only [Act.put]); (try simp only [List.setIfInBounds_toArray]); (try simp only [List.set_cons_succ]); (try simp only [List.set_cons_zero])
                  refine wpAnyH_take (i := 6) (oi := ⟨_, _, _, _, _, _⟩) (v := ?_) rfl (by kernel_rfl) (by kernel_rfl) (by kernel_rfl) (fun _ _ _ h => h) (Or.inl ⟨by rfl, ?_⟩) (by assumption) ?_
                  rotate_left 1
                  · intro w hSw; (try dsimp only at hSw); go_simp <;> with_reducible rfl
                  (try simp only [Act.put]); (try simp only [List.setIfInBounds_toArray]); (try simp only [List.set_cons_succ]); (try simp only [List.set_cons_zero])
                  refine wpAnyH_take (i := 7) (oi := ⟨_, _, _, _, _, _⟩) (v := ?_) rfl (by kernel_rfl) (by kernel_rfl) (by kernel_rfl) (fun _ _ _ h => h) (Or.inl ⟨by rfl, ?_⟩) (by assumption) ?_
                  rotate_left 1
                  · intro w hSw; (try dsimp only at hSw); go_simp <;> with_reducible rfl
                  (try simp only [Act.put]); (try simp only [List.setIfInBounds_toArray]); (try simp only [List.set_cons_succ]); (try simp only [List.set_cons_zero])
                  refine wpAnyH_take (i := 8) (oi := ⟨_, _, _, _, _, _⟩) (v := ?_) rfl (by kernel_rfl) (by kernel_rfl) (by kernel_rfl) (fun _ _ _ h => h) (Or.inl ⟨by rfl, ?_⟩) (by assumption) ?_
                  rotate_left 1
                  · intro w hSw; (try dsimp only at hSw); go_simp <;> with_reducible rfl
                  (try simp only [Act.put]); (try simp only [List.setIfInBounds_toArray]); (try simp only [List.set_cons_succ]); (try simp only [List.set_cons_zero])
                  refine wpAnyH_ready (rs := [9, 13]) (by kernel_rfl) (by simp) ?_
                  refine AllReadyH.cons (o := ⟨_, _, _, _, _, _⟩) rfl (fun K hK => ?_) (AllReadyH.cons (o := ⟨_, _, _, _, _, _⟩) rfl (fun K hK => ?_) AllReadyH.nil)
                  · go_simp
                    refine (HMEM.out V0).mono ?_
                    rintro e V11 ⟨mv, rfl, hI⟩
                    obtain ⟨am, cm, rfl, hm⟩ := hI.rd
                    have hao2 := hm.isSome (by have := HMH.out.2; omega)
                    have hml := HMH.out.2
                    replace hBR := hBR.keep hI.2
                    replace KW := KW.trans hI.2
                    clear hI
                    refine hK.out _ _ ?_ (fun hHeld => ?_)
                    · exact HB3.out _ KW
                    clear hK K
                    (try simp only [Act.put]); (try simp only [List.setIfInBounds_toArray]); (try simp only [List.set_cons_succ]); (try simp only [List.set_cons_zero])
                    refine wpAnyH_take (i := 10) (oi := ⟨_, _, _, _, _, _⟩) (v := ?_) rfl (by kernel_rfl) (by kernel_rfl) (by kernel_rfl) (fun _ _ _ h => h) (Or.inl ⟨by rfl, ?_⟩) (by assumption) ?_
                    rotate_left 1
                    · intro w hSw; (try dsimp only at hSw); go_simp <;> with_reducible rfl
                    (try simp only [Act.put]); (try simp only [List.setIfInBounds_toArray]); (try simp only [List.set_cons_succ]); (try simp only [List.set_cons_zero])
                    refine wpAnyH_ready (rs := [11, 13]) (by kernel_rfl) (by simp) ?_
                    refine AllReadyH.cons (o := ⟨_, _, _, _, _, _⟩) rfl (fun K hK => ?_) (AllReadyH.cons (o := ⟨_, _, _, _, _, _⟩) rfl (fun K hK => ?_) AllReadyH.nil)
                    · have q0 := hm.cell 0 _ (il_at M 0 HMH.out.2)
                      rw [HMH.out.1] at q0
                      go_simp
                      clear q0
                      refine hK.out _ _ ?_ (fun hHeld => ?_)
                      · exact HB3.out _ KW
                      clear hK K
                      (try simp only [Act.put]); (try simp only [List.setIfInBounds_toArray]); (try simp only [List.set_cons_succ]); (try simp only [List.set_cons_zero])
                      refine wpAnyH_ready (rs := [12, 13]) (by kernel_rfl) (by simp) ?_
                      refine AllReadyH.cons (o := ⟨_, _, _, _, _, _⟩) rfl (fun K hK => ?_) (AllReadyH.cons (o := ⟨_, _, _, _, _, _⟩) rfl (fun K hK => ?_) AllReadyH.nil)
                      · go_simp
                        refine (HSTA.out V11 KW).mono ?_
                        rintro e V12 ⟨v0, rfl, hc0, k9⟩
                        replace hBR := hBR.keep k9
                        replace hm := hm.keep k9
                        replace KW := KW.trans k9
                        obtain ⟨an, cn, nas, ag, cg, rfl, _, _, _, _⟩ := id hc0
                        have hcv := hc0
                        clear hc0
                        unfold vCast at hcv ⊢
                        dsimp only [List.length_nil] at hcv ⊢
                        refine hK.out _ _ ?_ (fun hHeld => ?_)
                        · exact HB3.out _ KW
                        clear hK K
                        (try simp only [Act.put]); (try simp only [List.setIfInBounds_toArray]); (try simp only [List.set_cons_succ]); (try simp only [List.set_cons_zero])
                        refine wpAnyH_ready (rs := [13]) (by kernel_rfl) (by simp) ?_
                        refine AllReadyH.cons (o := ⟨_, _, _, _, _, _⟩) rfl (fun K hK => ?_) AllReadyH.nil
                        go_simp
                        have hX := Blk.new V12 32 #[.int .i64 0, .int .u16 0, .int .i64 0, .slice none 0 0, .slice none 0 0]
                        have hlp : w.heap.size ≤ V12.heap.size := KW.size
                        have hne : V12.heap.size ≠ w.heap.size := by have := hBR.lt; omega
                        have kA := (Keeps.refl V12).alloc (.cells #[.int .i64 0, .int .u16 0, .int .i64 0, .slice none 0 0, .slice none 0 0] 32)
                        replace hBR := hBR.keep kA
                        replace hm := hm.keep kA
                        replace hcv := hcv.keep kA KW
                        replace KW := KW.trans kA
                        clear kA
                        generalize V12.alloc (.cells #[.int .i64 0, .int .u16 0, .int .i64 0, .slice none 0 0, .slice none 0 0] 32) = V13 at *
                        generalize V12.heap.size = P3 at *
                        refine hK.out _ _ ?_ (fun hHeld => ?_)
                        · exact HB3.out _ KW
                        clear hK K
                        (try simp only [Act.put]); (try simp only [List.setIfInBounds_toArray]); (try simp only [List.set_cons_succ]); (try simp only [List.set_cons_zero])
                        refine wpAnyH_ready (rs := [14]) (by kernel_rfl) (by simp) ?_
                        refine AllReadyH.cons (o := ⟨_, _, _, _, _, _⟩) rfl (fun K hK => ?_) AllReadyH.nil
                        obtain ⟨y0, y1, y2, y3, y4⟩ := Go.Proofs.YtbcfkgolhklkaaaDoor.c5 hX
                        obtain ⟨g0, g1, g2, g3, g4⟩ := f5 hX
                        go_simp
                        clear y0 y1 y2 y3 y4 g0 g1 g2 g3 g4
                        replace hcv := hcv.st5 hX hlp KW (.int .i64 n) (.int .u16 (sv t)) (.int .i64 (tzS t)) (.slice an nas.length cn) (.slice ag 0 cg)
                        replace hBR := st5_oth hBR (Ne.symm hne) (.int .i64 n) (.int .u16 (sv t)) (.int .i64 (tzS t)) (.slice an nas.length cn) (.slice ag 0 cg)
                        have hX9 := set5 hX (.int .i64 n) (.int .u16 (sv t)) (.int .i64 (tzS t)) (.slice an nas.length cn) (.slice ag 0 cg)
                        replace KW := keeps_set5 KW hlp (.int .i64 n) (.int .u16 (sv t)) (.int .i64 (tzS t)) (.slice an nas.length cn) (.slice ag 0 cg)
                        replace hX := hX9
                        clear hX9
                        unfold st5 at hX hBR hcv KW
                        generalize ((((V13.setCell ⟨P3, 0, none⟩ (.int .i64 n)).setCell ⟨P3, 1, none⟩ (.int .u16 (sv t))).setCell ⟨P3, 2, none⟩ (.int .i64 (tzS t))).setCell ⟨P3, 3, none⟩ (.slice an nas.length cn)).setCell ⟨P3, 4, none⟩ (.slice ag 0 cg) = VF at *
                        refine hK.out _ _ ?_ (fun hHeld => ?_)
                        · exact HB3.out _ KW
                        clear hK K
                        (try simp only [Act.put]); (try simp only [List.setIfInBounds_toArray]); (try simp only [List.set_cons_succ]); (try simp only [List.set_cons_zero])
                        refine wpAnyH_done (by kernel_rfl) ?_ _
                        have HX := Lib.hid hX; have HBR := Lib.hid hBR; have HCV := Lib.hid hcv; have HKW := Lib.hid KW
                        clear hX hBR hcv KW
                        go_wp2_with fail
                        go_meet
                        case rel => exact ⟨P3, an, nas, cn, ag, cg, rfl, hlp, hne, HX.out, HBR.out, HCV.out, HKW.out⟩
                      · go_simp
                        have hX := Blk.new V11 32 #[.int .i64 0, .int .u16 0, .int .i64 0, .slice none 0 0, .slice none 0 0]
                        have hlp : w.heap.size ≤ V11.heap.size := KW.size
                        have hne : V11.heap.size ≠ w.heap.size := by have := hBR.lt; omega
                        have kA := (Keeps.refl V11).alloc (.cells #[.int .i64 0, .int .u16 0, .int .i64 0, .slice none 0 0, .slice none 0 0] 32)
                        replace hBR := hBR.keep kA
                        replace hm := hm.keep kA
                        replace KW := KW.trans kA
                        clear kA
                        generalize V11.alloc (.cells #[.int .i64 0, .int .u16 0, .int .i64 0, .slice none 0 0, .slice none 0 0] 32) = V14 at *
                        generalize V11.heap.size = P3 at *
                        refine hK.out _ _ ?_ (fun hHeld => ?_)
                        · exact HB3.out _ KW
                        clear hK K
                        (try simp only [Act.put]); (try simp only [List.setIfInBounds_toArray]); (try simp only [List.set_cons_succ]); (try simp only [List.set_cons_zero])
                        refine wpAnyH_ready (rs := [12]) (by kernel_rfl) (by simp) ?_
                        refine AllReadyH.cons (o := ⟨_, _, _, _, _, _⟩) rfl (fun K hK => ?_) AllReadyH.nil
                        go_simp
                        refine (HSTA.out V14 KW).mono ?_
                        rintro e V15 ⟨v0, rfl, hc0, k9⟩
                        replace hBR := hBR.keep k9
                        replace hX := hX.keep k9
                        replace hm := hm.keep k9
                        replace KW := KW.trans k9
                        obtain ⟨an, cn, nas, ag, cg, rfl, _, _, _, _⟩ := id hc0
                        have hcv := hc0
                        clear hc0
                        unfold vCast at hcv ⊢
                        dsimp only [List.length_nil] at hcv ⊢
                        refine hK.out _ _ ?_ (fun hHeld => ?_)
                        · exact HB3.out _ KW
                        clear hK K
                        (try simp only [Act.put]); (try simp only [List.setIfInBounds_toArray]); (try simp only [List.set_cons_succ]); (try simp only [List.set_cons_zero])
                        refine wpAnyH_ready (rs := [14]) (by kernel_rfl) (by simp) ?_
                        refine AllReadyH.cons (o := ⟨_, _, _, _, _, _⟩) rfl (fun K hK => ?_) AllReadyH.nil
                        obtain ⟨y0, y1, y2, y3, y4⟩ := Go.Proofs.YtbcfkgolhklkaaaDoor.c5 hX
                        obtain ⟨g0, g1, g2, g3, g4⟩ := f5 hX
                        go_simp
                        clear y0 y1 y2 y3 y4 g0 g1 g2 g3 g4
                        replace hcv := hcv.st5 hX hlp KW (.int .i64 n) (.int .u16 (sv t)) (.int .i64 (tzS t)) (.slice an nas.length cn) (.slice ag 0 cg)
                        replace hBR := st5_oth hBR (Ne.symm hne) (.int .i64 n) (.int .u16 (sv t)) (.int .i64 (tzS t)) (.slice an nas.length cn) (.slice ag 0 cg)
                        have hX9 := set5 hX (.int .i64 n) (.int .u16 (sv t)) (.int .i64 (tzS t)) (.slice an nas.length cn) (.slice ag 0 cg)
                        replace KW := keeps_set5 KW hlp (.int .i64 n) (.int .u16 (sv t)) (.int .i64 (tzS t)) (.slice an nas.length cn) (.slice ag 0 cg)
                        replace hX := hX9
                        clear hX9
                        unfold st5 at hX hBR hcv KW
                        generalize ((((V15.setCell ⟨P3, 0, none⟩ (.int .i64 n)).setCell ⟨P3, 1, none⟩ (.int .u16 (sv t))).setCell ⟨P3, 2, none⟩ (.int .i64 (tzS t))).setCell ⟨P3, 3, none⟩ (.slice an nas.length cn)).setCell ⟨P3, 4, none⟩ (.slice ag 0 cg) = VF at *
                        refine hK.out _ _ ?_ (fun hHeld => ?_)
                        · exact HB3.out _ KW
                        clear hK K
                        (try simp only [Act.put]); (try simp only [List.setIfInBounds_toArray]); (try simp only [List.set_cons_succ]); (try simp only [List.set_cons_zero])
                        refine wpAnyH_done (by kernel_rfl) ?_ _
                        have HX := Lib.hid hX; have HBR := Lib.hid hBR; have HCV := Lib.hid hcv; have HKW := Lib.hid KW
                        clear hX hBR hcv KW
                        go_wp2_with fail
                        go_meet
                        case rel => exact ⟨P3, an, nas, cn, ag, cg, rfl, hlp, hne, HX.out, HBR.out, HCV.out, HKW.out⟩
                    · go_simp
                      have hX := Blk.new V11 32 #[.int .i64 0, .int .u16 0, .int .i64 0, .slice none 0 0, .slice none 0 0]
                      have hlp : w.heap.size ≤ V11.heap.size := KW.size
                      have hne : V11.heap.size ≠ w.heap.size := by have := hBR.lt; omega
                      have kA := (Keeps.refl V11).alloc (.cells #[.int .i64 0, .int .u16 0, .int .i64 0, .slice none 0 0, .slice none 0 0] 32)
                      replace hBR := hBR.keep kA
                      replace hm := hm.keep kA
                      replace KW := KW.trans kA
                      clear kA
                      generalize V11.alloc (.cells #[.int .i64 0, .int .u16 0, .int .i64 0, .slice none 0 0, .slice none 0 0] 32) = V16 at *
                      generalize V11.heap.size = P3 at *
                      refine hK.out _ _ ?_ (fun hHeld => ?_)
                      · exact HB3.out _ KW
                      clear hK K
                      (try simp only [Act.put]); (try simp only [List.setIfInBounds_toArray]); (try simp only [List.set_cons_succ]); (try simp only [List.set_cons_zero])
                      refine wpAnyH_ready (rs := [11]) (by kernel_rfl) (by simp) ?_
                      refine AllReadyH.cons (o := ⟨_, _, _, _, _, _⟩) rfl (fun K hK => ?_) AllReadyH.nil
                      have q0 := hm.cell 0 _ (il_at M 0 HMH.out.2)
                      rw [HMH.out.1] at q0
                      go_simp
                      clear q0
                      refine hK.out _ _ ?_ (fun hHeld => ?_)
                      · exact HB3.out _ KW
                      clear hK K
                      (try simp only [Act.put]); (try simp only [List.setIfInBounds_toArray]); (try simp only [List.set_cons_succ]); (try simp only [List.set_cons_zero])
                      refine wpAnyH_ready (rs := [12]) (by kernel_rfl) (by simp) ?_
                      refine AllReadyH.cons (o := ⟨_, _, _, _, _, _⟩) rfl (fun K hK => ?_) AllReadyH.nil
                      go_simp
                      refine (HSTA.out V16 KW).mono ?_
                      rintro e V17 ⟨v0, rfl, hc0, k9⟩
                      replace hBR := hBR.keep k9
                      replace hX := hX.keep k9
                      replace hm := hm.keep k9
                      replace KW := KW.trans k9
                      obtain ⟨an, cn, nas, ag, cg, rfl, _, _, _, _⟩ := id hc0
                      have hcv := hc0
                      clear hc0
                      unfold vCast at hcv ⊢
                      dsimp only [List.length_nil] at hcv ⊢
                      refine hK.out _ _ ?_ (fun hHeld => ?_)
                      · exact HB3.out _ KW
                      clear hK K
                      (try simp only [Act.put]); (try simp only [List.setIfInBounds_toArray]); (try simp only [List.set_cons_succ]); (try simp only [List.set_cons_zero])
                      refine wpAnyH_ready (rs := [14]) (by kernel_rfl) (by simp) ?_
                      refine AllReadyH.cons (o := ⟨_, _, _, _, _, _⟩) rfl (fun K hK => ?_) AllReadyH.nil
                      obtain ⟨y0, y1, y2, y3, y4⟩ := Go.Proofs.YtbcfkgolhklkaaaDoor.c5 hX
                      obtain ⟨g0, g1, g2, g3, g4⟩ := f5 hX
                      go_simp
                      clear y0 y1 y2 y3 y4 g0 g1 g2 g3 g4
                      replace hcv := hcv.st5 hX hlp KW (.int .i64 n) (.int .u16 (sv t)) (.int .i64 (tzS t)) (.slice an nas.length cn) (.slice ag 0 cg)
                      replace hBR := st5_oth hBR (Ne.symm hne) (.int .i64 n) (.int .u16 (sv t)) (.int .i64 (tzS t)) (.slice an nas.length cn) (.slice ag 0 cg)
                      have hX9 := set5 hX (.int .i64 n) (.int .u16 (sv t)) (.int .i64 (tzS t)) (.slice an nas.length cn) (.slice ag 0 cg)
                      replace KW := keeps_set5 KW hlp (.int .i64 n) (.int .u16 (sv t)) (.int .i64 (tzS t)) (.slice an nas.length cn) (.slice ag 0 cg)
                      replace hX := hX9
                      clear hX9
                      unfold st5 at hX hBR hcv KW
                      generalize ((((V17.setCell ⟨P3, 0, none⟩ (.int .i64 n)).setCell ⟨P3, 1, none⟩ (.int .u16 (sv t))).setCell ⟨P3, 2, none⟩ (.int .i64 (tzS t))).setCell ⟨P3, 3, none⟩ (.slice an nas.length cn)).setCell ⟨P3, 4, none⟩ (.slice ag 0 cg) = VF at *
                      refine hK.out _ _ ?_ (fun hHeld => ?_)
                      · exact HB3.out _ KW
                      clear hK K
                      (try simp only [Act.put]); (try simp only [List.setIfInBounds_toArray]); (try simp only [List.set_cons_succ]); (try simp only [List.set_cons_zero])
                      refine wpAnyH_done (by kernel_rfl) ?_ _
                      have HX := Lib.hid hX; have HBR := Lib.hid hBR; have HCV := Lib.hid hcv; have HKW := Lib.hid KW
                      clear hX hBR hcv KW
                      go_wp2_with fail
                      go_meet
                      case rel => exact ⟨P3, an, nas, cn, ag, cg, rfl, hlp, hne, HX.out, HBR.out, HCV.out, HKW.out⟩
                  · go_simp
                    have hX := Blk.new V0 32 #[.int .i64 0, .int .u16 0, .int .i64 0, .slice none 0 0, .slice none 0 0]
                    have hlp : w.heap.size ≤ V0.heap.size := KW.size
                    have hne : V0.heap.size ≠ w.heap.size := by have := hBR.lt; omega
                    have kA := (Keeps.refl V0).alloc (.cells #[.int .i64 0, .int .u16 0, .int .i64 0, .slice none 0 0, .slice none 0 0] 32)
                    replace hBR := hBR.keep kA
                    replace KW := KW.trans kA
                    clear kA
                    generalize V0.alloc (.cells #[.int .i64 0, .int .u16 0, .int .i64 0, .slice none 0 0, .slice none 0 0] 32) = V18 at *
                    generalize V0.heap.size = P3 at *
                    refine hK.out _ _ ?_ (fun hHeld => ?_)
                    · exact HB3.out _ KW
                    clear hK K
                    (try simp only [Act.put]); (try simp only [List.setIfInBounds_toArray]); (try simp only [List.set_cons_succ]); (try simp only [List.set_cons_zero])
                    refine wpAnyH_ready (rs := [9]) (by kernel_rfl) (by simp) ?_
                    refine AllReadyH.cons (o := ⟨_, _, _, _, _, _⟩) rfl (fun K hK => ?_) AllReadyH.nil
                    go_simp
                    refine (HMEM.out V18).mono ?_
                    rintro e V19 ⟨mv, rfl, hI⟩
                    obtain ⟨am, cm, rfl, hm⟩ := hI.rd
                    have hao2 := hm.isSome (by have := HMH.out.2; omega)
                    have hml := HMH.out.2
                    replace hBR := hBR.keep hI.2
                    replace hX := hX.keep hI.2
                    replace KW := KW.trans hI.2
                    clear hI
                    refine hK.out _ _ ?_ (fun hHeld => ?_)
                    · exact HB3.out _ KW
                    clear hK K
                    (try simp only [Act.put]); (try simp only [List.setIfInBounds_toArray]); (try simp only [List.set_cons_succ]); (try simp only [List.set_cons_zero])
                    refine wpAnyH_take (i := 10) (oi := ⟨_, _, _, _, _, _⟩) (v := ?_) rfl (by kernel_rfl) (by kernel_rfl) (by kernel_rfl) (fun _ _ _ h => h) (Or.inl ⟨by rfl, ?_⟩) (by assumption) ?_
                    rotate_left 1
                    · intro w hSw; (try dsimp only at hSw); go_simp <;> with_reducible rfl
                    (try simp only [Act.put]); (try simp only [List.setIfInBounds_toArray]); (try simp only [List.set_cons_succ]); (try simp only [List.set_cons_zero])
                    refine wpAnyH_ready (rs := [11]) (by kernel_rfl) (by simp) ?_
                    refine AllReadyH.cons (o := ⟨_, _, _, _, _, _⟩) rfl (fun K hK => ?_) AllReadyH.nil
                    have q0 := hm.cell 0 _ (il_at M 0 HMH.out.2)
                    rw [HMH.out.1] at q0
                    go_simp
                    clear q0
                    refine hK.out _ _ ?_ (fun hHeld => ?_)
                    · exact HB3.out _ KW
                    clear hK K
                    (try simp only [Act.put]); (try simp only [List.setIfInBounds_toArray]); (try simp only [List.set_cons_succ]); (try simp only [List.set_cons_zero])
                    refine wpAnyH_ready (rs := [12]) (by kernel_rfl) (by simp) ?_
                    refine AllReadyH.cons (o := ⟨_, _, _, _, _, _⟩) rfl (fun K hK => ?_) AllReadyH.nil
                    go_simp
                    refine (HSTA.out V19 KW).mono ?_
                    rintro e V20 ⟨v0, rfl, hc0, k9⟩
                    replace hBR := hBR.keep k9
                    replace hX := hX.keep k9
                    replace hm := hm.keep k9
                    replace KW := KW.trans k9
                    obtain ⟨an, cn, nas, ag, cg, rfl, _, _, _, _⟩ := id hc0
                    have hcv := hc0
                    clear hc0
                    unfold vCast at hcv ⊢
                    dsimp only [List.length_nil] at hcv ⊢
                    refine hK.out _ _ ?_ (fun hHeld => ?_)
                    · exact HB3.out _ KW
                    clear hK K
                    (try simp only [Act.put]); (try simp only [List.setIfInBounds_toArray]); (try simp only [List.set_cons_succ]); (try simp only [List.set_cons_zero])
                    refine wpAnyH_ready (rs := [14]) (by kernel_rfl) (by simp) ?_
                    refine AllReadyH.cons (o := ⟨_, _, _, _, _, _⟩) rfl (fun K hK => ?_) AllReadyH.nil
                    obtain ⟨y0, y1, y2, y3, y4⟩ := Go.Proofs.YtbcfkgolhklkaaaDoor.c5 hX
                    obtain ⟨g0, g1, g2, g3, g4⟩ := f5 hX
                    go_simp
                    clear y0 y1 y2 y3 y4 g0 g1 g2 g3 g4
                    replace hcv := hcv.st5 hX hlp KW (.int .i64 n) (.int .u16 (sv t)) (.int .i64 (tzS t)) (.slice an nas.length cn) (.slice ag 0 cg)
                    replace hBR := st5_oth hBR (Ne.symm hne) (.int .i64 n) (.int .u16 (sv t)) (.int .i64 (tzS t)) (.slice an nas.length cn) (.slice ag 0 cg)
                    have hX9 := set5 hX (.int .i64 n) (.int .u16 (sv t)) (.int .i64 (tzS t)) (.slice an nas.length cn) (.slice ag 0 cg)
                    replace KW := keeps_set5 KW hlp (.int .i64 n) (.int .u16 (sv t)) (.int .i64 (tzS t)) (.slice an nas.length cn) (.slice ag 0 cg)
                    replace hX := hX9
                    clear hX9
                    unfold st5 at hX hBR hcv KW
                    generalize ((((V20.setCell ⟨P3, 0, none⟩ (.int .i64 n)).setCell ⟨P3, 1, none⟩ (.int .u16 (sv t))).setCell ⟨P3, 2, none⟩ (.int .i64 (tzS t))).setCell ⟨P3, 3, none⟩ (.slice an nas.length cn)).setCell ⟨P3, 4, none⟩ (.slice ag 0 cg) = VF at *
                    refine hK.out _ _ ?_ (fun hHeld => ?_)
                    · exact HB3.out _ KW
                    clear hK K
                    (try simp only [Act.put]); (try simp only [List.setIfInBounds_toArray]); (try simp only [List.set_cons_succ]); (try simp only [List.set_cons_zero])
                    refine wpAnyH_done (by kernel_rfl) ?_ _
                    have HX := Lib.hid hX; have HBR := Lib.hid hBR; have HCV := Lib.hid hcv; have HKW := Lib.hid KW
                    clear hX hBR hcv KW
                    go_wp2_with fail
                    go_meet
                    case rel => exact ⟨P3, an, nas, cn, ag, cg, rfl, hlp, hne, HX.out, HBR.out, HCV.out, HKW.out⟩
                case rest =>
                obtain ⟨P3, an, nas, cn, ag, cg, rfl, hlp, hne, hX, hBR, hcv, KW⟩ := hcut
                obtain ⟨W, hWW⟩ : ∃ W, W = wc := ⟨_, rfl⟩
                rw [← hWW] at hX hBR hcv KW ⊢
                clear hWW
                have HX := Lib.hid hX; have HBR := Lib.hid hBR; have HCV := Lib.hid hcv; have HKW := Lib.hid KW
                obtain ⟨f1, f2, f3⟩ := HFF.out _ KW
                clear hX hBR hcv KW
                obtain ⟨y0, y1, y2, y3, y4⟩ := Go.Proofs.YtbcfkgolhklkaaaDoor.c5 HX.out
                have HSL := Lib.hid (sides_lt (by omega) HLT.out.1 HLT.out.2.1 HLT.out.2.2 HSPP.out)
                cases hb1 : (q &&& ~~~t == 0#16) with
                | true =>
                  have HB1 := Lib.hid hb1
                  obtain ⟨u2, hu2⟩ : ∃ u, u = (p &&& ~~~t == 0#16) := ⟨_, rfl⟩
                  have HB2 := Lib.hid hu2.symm
                  clear hu2
                  have hbn1 : (q &&& ~~~t != 0#16) = false := by simpa using hb1
                  have HM2 := Lib.hid (rest_two (by omega) HLT.out.2.2 ((splP_iff.1 HSPP.out).2.2 (by unfold alone; rw [HB1.out, HB2.out]; rfl)))
                  rw [rest_mem t (by omega)] at HM2
                  have HAS : Hid (atkSides n q p t = [(1#16 <<< im (corrL n t) 0, q, strX), (1#16 <<< im (corrL n t) 1, q, strY)]) := Lib.hid (by unfold atkSides lonQ alone; rw [HB1.out, HB2.out, rest_mem t (by omega)]; rfl)
                  have HCOR := Lib.hid (fun W => rcorrect9_any n t W (by omega))
                  generalize corrL n t = M9 at *
                  go_wp2_with (go_quiet (fail))
                  refine (HCOR.out _).mono ?_
                  rintro e w5 ⟨lv, rfl, hI⟩
                  obtain ⟨al, cl9, rfl, hl9⟩ := hI.rd
                  have K5 := ((Keeps.refl W).drewN _).trans hI.2
                  have HK5 := Lib.hid K5
                  have i0 := hl9.cell 0 _ (il_at M9 0 (by have := HM2.out.1; omega))
                  have i1 := hl9.cell 1 _ (il_at M9 1 (by have := HM2.out.1; omega))
                  have hao9 := hl9.isSome (by have := HM2.out.1; omega)
                  have hm0 : im M9 0 < n := HM2.out.2 0 (by decide)
                  have hm1 : im M9 1 < n := HM2.out.2 1 (by decide)
                  have hml : 0 < M9.length := by have := HM2.out.1; omega
                  have hml1 : (1 : Int) < (M9.length : Int) := by have := HM2.out.1; omega
                  have z0 : min (im M9 0) 16 = im M9 0 := by omega
                  have z1 : min (im M9 1) 16 = im M9 1 := by omega
                  have hX5 := HX.out.keep K5
                  clear hI HCOR y0 y1 y2 y3 y4 hl9 K5 f1 f2 f3
                  obtain ⟨y0, y1, y2, y3, y4⟩ := Go.Proofs.YtbcfkgolhklkaaaDoor.c5 hX5
                  clear hX5
                  go_wp2_with (go_quiet (fail))
                  clear i0 i1 hao9 hml hml1 z0 z1 hm0 hm1
                  have HSD : Hid (atkSides n q p t = [(1#16 <<< im M9 0, q, strX), (1#16 <<< im M9 1, q, strY)]) := HAS
                  have HLT1 := Lib.hid (HSL.out _ (by rw [HSD.out]; exact List.mem_cons_self ..)); have HLT2 := Lib.hid (HSL.out _ (by rw [HSD.out]; exact List.mem_cons_of_mem _ (List.mem_cons_self ..)))
                  dsimp only at HLT1 HLT2
                  have HS1 := Lib.hid (fun W' (K : Keeps W W') => rside39_any fa fm fc f ba bm bc b n (by omega) t (tzS t) HSR.out ⟨startN n, []⟩ (1#16 <<< im M9 0) (q) strX _ w W' (HKW.out.trans K) (HF.out.keep (HKW.out.trans K)) (HB.out.keep (HKW.out.trans K)) (HCV.out.keep K HKW.out) (inN_of HLT1.out.1) (AOk.start n (by omega)) (by simp))
                  refine (HS1.out _ (HK5.out.trans ((Keeps.refl _).drewN _))).mono ?_
                  rintro e w7 ⟨v1, rfl, hc1, k7⟩
                  have HK7 : Hid (Keeps W w7) := Lib.hid ((HK5.out.trans ((Keeps.refl _).drewN _)).trans k7)
                  have HA1 := Lib.hid (side_ok (f := f) (b := b) (n := n) (by omega) (byz := t) (AOk.start n (by omega)) HSR.out (A := 1#16 <<< im M9 0) (p := q) (inN_of HLT1.out.1) strX (by simp))
                  have HATK : Hid (atkS f b n q p t = sideS f b n t (tzS t) (sideS f b n t (tzS t) ⟨startN n, []⟩ (1#16 <<< im M9 0) (q) strX) (1#16 <<< im M9 1) (q) strY) := Lib.hid (by unfold atkS; rw [HSD.out]; rfl)
                  generalize sideS f b n t (tzS t) ⟨startN n, []⟩ (1#16 <<< im M9 0) (q) strX = st1 at *
                  have HC1 := Lib.hid hc1
                  clear hc1 k7 HS1 y0 y1 y2 y3 y4
                  go_wp2_with fail
                  refine (rside39_any fa fm fc f ba bm bc b n (by omega) t (tzS t) HSR.out st1 (1#16 <<< im M9 1) (q) strY _ w w7 (HKW.out.trans HK7.out) (HF.out.keep (HKW.out.trans HK7.out)) (HB.out.keep (HKW.out.trans HK7.out)) HC1.out (inN_of HLT2.out.1) HA1.out.1 HA1.out.2).mono ?_
                  rintro e w8 ⟨v2, rfl, hc2, k8⟩
                  rw [← HATK.out] at hc2
                  have hcv0 := hc2
                  obtain ⟨an9, cn9, nas9, ag9, cg9, rfl, _, _, _, _⟩ := hcv0
                  unfold vCast at hc2 ⊢
                  dsimp only at hc2 ⊢
                  have hBR := HBR.out.keep (HK7.out.trans k8)
                  have HJ8 := Lib.hid (HKW.out.trans (HK7.out.trans k8))
                  have HC2 := Lib.hid hc2; have HBR2 := Lib.hid hBR
                  obtain ⟨d0, d1, d2, d3, d4⟩ := Go.Proofs.YtbcfkgolhklkaaaDoor.c5 hBR
                  obtain ⟨g0, g1, g2, g3, g4⟩ := f5 hBR
                  clear hc2 hBR k8
                  go_wp2_with fail
                  clear d0 d1 d2 d3 d4 g0 g1 g2 g3 g4
                  refine bodyPost_ret (resCast (byz := t) rfl (set5 HBR2.out _ _ _ _ _) rfl rfl) rfl ⟨keeps_set5 HJ8.out (Nat.le_refl _) _ _ _ _ _, _, by rw [HE0.out]; rfl, ?_⟩
                  rw [if_pos HE0.out, HSP.out]
                  exact (HC2.out.st5 HBR2.out (Nat.le_refl _) HJ8.out _ _ _ _ _).toC
                | false =>
                  have HB1 := Lib.hid hb1
                  cases hb2 : (p &&& ~~~t == 0#16) with
                  | true =>
                    have HB2 := Lib.hid hb2
                    have hbn1 : (q &&& ~~~t != 0#16) = true := by simpa using hb1
                    have HM2 := Lib.hid (rest_two (by omega) HLT.out.2.2 ((splP_iff.1 HSPP.out).2.2 (by unfold alone; rw [HB1.out, HB2.out]; rfl)))
                    rw [rest_mem t (by omega)] at HM2
                    have HAS : Hid (atkSides n q p t = [(1#16 <<< im (corrL n t) 0, p, strX), (1#16 <<< im (corrL n t) 1, p, strY)]) := Lib.hid (by unfold atkSides lonQ alone; rw [HB1.out, HB2.out, rest_mem t (by omega)]; rfl)
                    have HCOR := Lib.hid (fun W => rcorrect9_any n t W (by omega))
                    generalize corrL n t = M9 at *
                    go_wp2_with (go_quiet (fail))
                    refine (HCOR.out _).mono ?_
                    rintro e w5 ⟨lv, rfl, hI⟩
                    obtain ⟨al, cl9, rfl, hl9⟩ := hI.rd
                    have K5 := ((Keeps.refl W).drewN _).trans hI.2
                    have HK5 := Lib.hid K5
                    have i0 := hl9.cell 0 _ (il_at M9 0 (by have := HM2.out.1; omega))
                    have i1 := hl9.cell 1 _ (il_at M9 1 (by have := HM2.out.1; omega))
                    have hao9 := hl9.isSome (by have := HM2.out.1; omega)
                    have hm0 : im M9 0 < n := HM2.out.2 0 (by decide)
                    have hm1 : im M9 1 < n := HM2.out.2 1 (by decide)
                    have hml : 0 < M9.length := by have := HM2.out.1; omega
                    have hml1 : (1 : Int) < (M9.length : Int) := by have := HM2.out.1; omega
                    have z0 : min (im M9 0) 16 = im M9 0 := by omega
                    have z1 : min (im M9 1) 16 = im M9 1 := by omega
                    have hX5 := HX.out.keep K5
                    clear hI HCOR y0 y1 y2 y3 y4 hl9 K5 f1 f2 f3
                    obtain ⟨y0, y1, y2, y3, y4⟩ := Go.Proofs.YtbcfkgolhklkaaaDoor.c5 hX5
                    clear hX5
                    go_wp2_with (go_quiet (fail))
                    clear i0 i1 hao9 hml hml1 z0 z1 hm0 hm1
                    have HSD : Hid (atkSides n q p t = [(1#16 <<< im M9 0, p, strX), (1#16 <<< im M9 1, p, strY)]) := HAS
                    have HLT1 := Lib.hid (HSL.out _ (by rw [HSD.out]; exact List.mem_cons_self ..)); have HLT2 := Lib.hid (HSL.out _ (by rw [HSD.out]; exact List.mem_cons_of_mem _ (List.mem_cons_self ..)))
                    dsimp only at HLT1 HLT2
                    have HS1 := Lib.hid (fun W' (K : Keeps W W') => rside39_any fa fm fc f ba bm bc b n (by omega) t (tzS t) HSR.out ⟨startN n, []⟩ (1#16 <<< im M9 0) (p) strX _ w W' (HKW.out.trans K) (HF.out.keep (HKW.out.trans K)) (HB.out.keep (HKW.out.trans K)) (HCV.out.keep K HKW.out) (inN_of HLT1.out.1) (AOk.start n (by omega)) (by simp))
                    refine (HS1.out _ (HK5.out.trans ((Keeps.refl _).drewN _))).mono ?_
                    rintro e w7 ⟨v1, rfl, hc1, k7⟩
                    have HK7 : Hid (Keeps W w7) := Lib.hid ((HK5.out.trans ((Keeps.refl _).drewN _)).trans k7)
                    have HA1 := Lib.hid (side_ok (f := f) (b := b) (n := n) (by omega) (byz := t) (AOk.start n (by omega)) HSR.out (A := 1#16 <<< im M9 0) (p := p) (inN_of HLT1.out.1) strX (by simp))
                    have HATK : Hid (atkS f b n q p t = sideS f b n t (tzS t) (sideS f b n t (tzS t) ⟨startN n, []⟩ (1#16 <<< im M9 0) (p) strX) (1#16 <<< im M9 1) (p) strY) := Lib.hid (by unfold atkS; rw [HSD.out]; rfl)
                    generalize sideS f b n t (tzS t) ⟨startN n, []⟩ (1#16 <<< im M9 0) (p) strX = st1 at *
                    have HC1 := Lib.hid hc1
                    clear hc1 k7 HS1 y0 y1 y2 y3 y4
                    go_wp2_with fail
                    refine (rside39_any fa fm fc f ba bm bc b n (by omega) t (tzS t) HSR.out st1 (1#16 <<< im M9 1) (p) strY _ w w7 (HKW.out.trans HK7.out) (HF.out.keep (HKW.out.trans HK7.out)) (HB.out.keep (HKW.out.trans HK7.out)) HC1.out (inN_of HLT2.out.1) HA1.out.1 HA1.out.2).mono ?_
                    rintro e w8 ⟨v2, rfl, hc2, k8⟩
                    rw [← HATK.out] at hc2
                    have hcv0 := hc2
                    obtain ⟨an9, cn9, nas9, ag9, cg9, rfl, _, _, _, _⟩ := hcv0
                    unfold vCast at hc2 ⊢
                    dsimp only at hc2 ⊢
                    have hBR := HBR.out.keep (HK7.out.trans k8)
                    have HJ8 := Lib.hid (HKW.out.trans (HK7.out.trans k8))
                    have HC2 := Lib.hid hc2; have HBR2 := Lib.hid hBR
                    obtain ⟨d0, d1, d2, d3, d4⟩ := Go.Proofs.YtbcfkgolhklkaaaDoor.c5 hBR
                    obtain ⟨g0, g1, g2, g3, g4⟩ := f5 hBR
                    clear hc2 hBR k8
                    go_wp2_with fail
                    clear d0 d1 d2 d3 d4 g0 g1 g2 g3 g4
                    refine bodyPost_ret (resCast (byz := t) rfl (set5 HBR2.out _ _ _ _ _) rfl rfl) rfl ⟨keeps_set5 HJ8.out (Nat.le_refl _) _ _ _ _ _, _, by rw [HE0.out]; rfl, ?_⟩
                    rw [if_pos HE0.out, HSP.out]
                    exact (HC2.out.st5 HBR2.out (Nat.le_refl _) HJ8.out _ _ _ _ _).toC
                  | false =>
                    have HB2 := Lib.hid hb2
                    have HAS : Hid (atkSides n q p t = [(q &&& ~~~t, q, strX), (p &&& ~~~t, p, strY)]) := Lib.hid (by unfold atkSides alone; rw [HB1.out, HB2.out]; rfl)
                    go_wp2_with (go_quiet (fail))
                    clear f1 f2 f3
                    have HSD : Hid (atkSides n q p t = [(q &&& ~~~t, q, strX), (p &&& ~~~t, p, strY)]) := HAS
                    have HLT1 := Lib.hid (HSL.out _ (by rw [HSD.out]; exact List.mem_cons_self ..)); have HLT2 := Lib.hid (HSL.out _ (by rw [HSD.out]; exact List.mem_cons_of_mem _ (List.mem_cons_self ..)))
                    dsimp only at HLT1 HLT2
                    have HS1 := Lib.hid (fun W' (K : Keeps W W') => rside39_any fa fm fc f ba bm bc b n (by omega) t (tzS t) HSR.out ⟨startN n, []⟩ (q &&& ~~~t) (q) strX _ w W' (HKW.out.trans K) (HF.out.keep (HKW.out.trans K)) (HB.out.keep (HKW.out.trans K)) (HCV.out.keep K HKW.out) (inN_of HLT1.out.1) (AOk.start n (by omega)) (by simp))
                    refine (HS1.out _ ((Keeps.refl _).drewN _)).mono ?_
                    rintro e w7 ⟨v1, rfl, hc1, k7⟩
                    have HK7 : Hid (Keeps W w7) := Lib.hid (((Keeps.refl _).drewN _).trans k7)
                    have HA1 := Lib.hid (side_ok (f := f) (b := b) (n := n) (by omega) (byz := t) (AOk.start n (by omega)) HSR.out (A := q &&& ~~~t) (p := q) (inN_of HLT1.out.1) strX (by simp))
                    have HATK : Hid (atkS f b n q p t = sideS f b n t (tzS t) (sideS f b n t (tzS t) ⟨startN n, []⟩ (q &&& ~~~t) (q) strX) (p &&& ~~~t) (p) strY) := Lib.hid (by unfold atkS; rw [HSD.out]; rfl)
                    generalize sideS f b n t (tzS t) ⟨startN n, []⟩ (q &&& ~~~t) (q) strX = st1 at *
                    have HC1 := Lib.hid hc1
                    clear hc1 k7 HS1 y0 y1 y2 y3 y4
                    go_wp2_with fail
                    refine (rside39_any fa fm fc f ba bm bc b n (by omega) t (tzS t) HSR.out st1 (p &&& ~~~t) (p) strY _ w w7 (HKW.out.trans HK7.out) (HF.out.keep (HKW.out.trans HK7.out)) (HB.out.keep (HKW.out.trans HK7.out)) HC1.out (inN_of HLT2.out.1) HA1.out.1 HA1.out.2).mono ?_
                    rintro e w8 ⟨v2, rfl, hc2, k8⟩
                    rw [← HATK.out] at hc2
                    have hcv0 := hc2
                    obtain ⟨an9, cn9, nas9, ag9, cg9, rfl, _, _, _, _⟩ := hcv0
                    unfold vCast at hc2 ⊢
                    dsimp only at hc2 ⊢
                    have hBR := HBR.out.keep (HK7.out.trans k8)
                    have HJ8 := Lib.hid (HKW.out.trans (HK7.out.trans k8))
                    have HC2 := Lib.hid hc2; have HBR2 := Lib.hid hBR
                    obtain ⟨d0, d1, d2, d3, d4⟩ := Go.Proofs.YtbcfkgolhklkaaaDoor.c5 hBR
                    obtain ⟨g0, g1, g2, g3, g4⟩ := f5 hBR
                    clear hc2 hBR k8
                    go_wp2_with fail
                    clear d0 d1 d2 d3 d4 g0 g1 g2 g3 g4
                    refine bodyPost_ret (resCast (byz := t) rfl (set5 HBR2.out _ _ _ _ _) rfl rfl) rfl ⟨keeps_set5 HJ8.out (Nat.le_refl _) _ _ _ _ _, _, by rw [HE0.out]; rfl, ?_⟩
                    rw [if_pos HE0.out, HSP.out]
                    exact (HC2.out.st5 HBR2.out (Nat.le_refl _) HJ8.out _ _ _ _ _).toC
            · have HKN : Hid (splB n (at_ f i) (at_ f j) b = none) := Lib.hid (by rw [HKK.out, dropN L2 hlk, splB])
              clear HKK
              go_wp2_with fail
              go_roundw
              case rel => exact ⟨j + 1, by omega, by omega, by go_num, K3, Lib.hid (by rw [HJJ.out, dropH L1 hlj, splJ, HKN.out])⟩
              case measure => simp [RowKit.intOf]; omega
        · have HKN : Hid (splJ n b (at_ f i) (f.drop i) = none) := Lib.hid (by rw [HJJ.out, dropN L1 hlj, splJ])
          clear HJJ
          go_wp2_with fail
          go_roundw
          case rel => exact ⟨i + 1, by omega, by go_num, K2, Lib.hid (by rw [HI.out, dropH L1 hlt, splI, ← dropH L1 hlt, HKN.out])⟩
          case measure => simp [RowKit.intOf]; omega
    · have HKN : Hid (splI n b f = none) := Lib.hid (by rw [HI.out, dropN L1 hlt, splI])
      have HE : Hid (er = 13) := Lib.hid (by rw [HX2.out, HKN.out]; rfl)
      have hBR := HBR.out.keep K1
      have J := HJ.out.trans K1
      clear HI HC0 HX2
      obtain ⟨d0, d1, d2, d3, d4⟩ := Go.Proofs.YtbcfkgolhklkaaaDoor.c5 hBR
      obtain ⟨g0, g1, g2, g3, g4⟩ := f5 hBR
      have HBX := Lib.hid hBR; have HJX := Lib.hid J
      clear hBR J
      go_wp2_with fail
      clear d0 d1 d2 d3 d4 g0 g1 g2 g3 g4
      exact bodyPost_ret (resCast (byz := 0#16) rfl (set5 HBX.out _ _ _ _ _) rfl rfl) rfl ⟨keeps_set5 HJX.out (Nat.le_refl _) _ _ _ _ _, _, by rw [HE.out]; rfl, by rw [if_neg (by rw [HE.out]; first | decide | assumption)]; exact hasC_zero _⟩
end Go.Proofs.YtbcfkgolhklkaaaDoor
