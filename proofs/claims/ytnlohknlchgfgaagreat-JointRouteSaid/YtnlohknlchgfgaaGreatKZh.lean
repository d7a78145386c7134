/- Texts joined into one (wip/bin/pack.py): Made29. -/
import Derived.Test.YtnlohknlchgfgaaGreatKZf
import Derived.Test.YtnlohknlchgfgaaGreatKZg
import Derived.Deep.RegionHeld3
import Derived.Deep.RegionLaw
import Derived.Lib.QuietBelow
/- The reference's moved and Made (layer 29). -/
namespace Go.Proofs.YtnlohknlchgfgaaGreat
open Go.RowKit Go.Lib Go.Shelf

def mvL (k : Nat) (l : List S) : List S := l.map fun (x : S) => (x <<< k : S)
def mvF (k : Nat) (x : F2) : F2 := (x.1 <<< k &&& 4095#16, x.2 <<< k &&& 4095#16)
theorem mvL_snoc (k : Nat) (l : List S) (i : Nat) (h : i < l.length) : mvL k (l.take (i + 1)) = mvL k (l.take i) ++ [at_ l i <<< k] := by
  unfold mvL; rw [take_at l i h, List.map_append]; rfl
set_option maxHeartbeats 1000000 in
theorem moved_any (a : Option Addr) (n c : Nat) (l : List S) (k : Nat) (w : World) (h : Rd w a n c 1 (sl l)) (hk : k ≤ 3) (hn : n ≤ 1000000) :
    Calls Tryz.prog 30 #[.slice a n c, .int .i64 k] w fun e w' => ∃ v, e = .returned v ∧ Own 29 1 w w' v (mvL k l).length (sl (mvL k l)) := by
  have L := Lib.hid h.lenS
  have s1 := h.small
  have hk0 : ¬ (k : Int) < 0 := by omega
  have HR := Lib.hid h
  clear h
  go_enter Tryz.func30, Tryz.ntmps30
  go_wp2
  go_loopw [5, 6] (fun u v wr => ∃ i : Nat, i ≤ n ∧ v = .int .i64 i ∧ Own 29 1 w wr u (mvL k (l.take i)).length (sl (mvL k (l.take i)))) (fun _ v _ => n - (RowKit.intOf v).toNat)
  case atStart => exact ⟨0, Nat.zero_le _, rfl, Own.nil _ _ (Keeps.refl _)⟩
  case round =>
    obtain ⟨i, hi, rfl, hO⟩ := hrel
    obtain ⟨ao, co, rfl, _⟩ := hO.rd
    have KO := hO.2
    by_cases hlt : i < n
    · have g0 := (HR.out.keep KO).at hlt
      have hs := HR.out.isSome (by omega)
      have hst := mvL_snoc k l i (by have := L.out; omega)
      have hle : (mvL k (l.take i)).length ≤ 1000000 := by unfold mvL; rw [List.length_map, List.length_take]; omega
      generalize at_ l i = x at *
      generalize mvL k (l.take i) = cur at *
      have HO := Lib.hid hO; have HST := Lib.hid hst; have HLC := Lib.hid hle
      have hlt' : (i : Int) < (n : Int) := by omega
      clear hO hst hle
      go_wp2_with (at_builtin; refine wp_app tyS rfl _ _ rfl (HO.out.alloc _) rfl rfl (rd_new 29 1 _ [.int .u16 (sv (x <<< k))] 1 (by decide) rfl) (sl_oneCell [x <<< k]) (by have := HLC.out; omega) ?_)
      intro v4 w4 hO4 _
      have HO4 := Lib.hid hO4
      clear hO4
      go_wp2_with fail
      go_roundw
      case rel => exact ⟨i + 1, by omega, by go_num, by rw [HST.out]; exact HO4.out.snoc⟩
      case measure => simp [RowKit.intOf]; omega
    · have hii : l.take i = l := List.take_of_length_le (by have := L.out; omega)
      rw [hii] at hO ⊢
      have HO := Lib.hid hO
      clear hO hii
      go_wp2_with fail
      go_ret
      exact ⟨_, rfl, HO.out⟩
@[go_sem] theorem sv_and4095 (x : S) : bits .and .u16 (sv x) 4095 = sv (x &&& 4095#16) := by
  have : (4095 : Int) = sv 4095#16 := rfl
  rw [this, sv_and]
def moveK (mv : Int) : Nat := (mv % 4).toNat
def made29 (nm : ByteArray) (kd N md : Int) (lr lw : List S) (lf : List F2) (mv : Int) : Cf :=
  ⟨nm, kdOf kd, fullS (nOf N) <<< moveK mv, mvL (moveK mv) (setsR md lr (nOf N)), mvL (moveK mv) (setsR md lw (nOf N)), normF ((madeF (nOf N) lf).map (mvF (moveK mv)))⟩
set_option maxRecDepth 20000 in
theorem resCfg1 {fn : Func} {p : Tmp} (h : fn.results = #[.cell p 32]) {tmps : Array Value} {W : World} {B : Nat} {z : CA}
    (hB : Blk W B 32 #[.string z.c.nm, .int .i64 z.c.kd, .int .u16 (sv z.c.M), .slice z.ar z.c.R.length z.cr, .slice z.aw z.c.Q.length z.cw, .slice z.af z.c.F.length z.cf])
    (tp : tmps.getD p undef = .pointer (some ⟨B, 0, none⟩)) : (results fn tmps).run Tryz.prog W = .ok (vg z) W :=
  results_cell_row h _ _ _ _ _ _ _ tp hB rfl rfl rfl
theorem Aft.name {W2 W : World} {B : Nat} {u0 u1 u2 : Value} {a1 : Option Addr} {n1 c1 : Nat} {L1 : List Value} {a2 : Option Addr} {n2 c2 : Nat} {L2 : List Value} (h : Aft W2 B u0 u1 u2 a1 n1 c1 L1 a2 n2 c2 L2 W) :
    ∃ B' x1 y1 x2 y2, B = B' ∧ a1 = x1 ∧ c1 = y1 ∧ a2 = x2 ∧ c2 = y2 ∧ Aft W2 B' u0 u1 u2 x1 n1 y1 L1 x2 n2 y2 L2 W := ⟨B, a1, c1, a2, c2, rfl, rfl, rfl, rfl, rfl, h⟩
def RetG (w : World) (c : Cf) (e : Ending) (w' : World) : Prop := ∃ z : CA, e = .returned (vg z) ∧ z.c = c ∧ RoG w' z ∧ Keeps w w'
set_option maxRecDepth 20000 in
set_option maxHeartbeats 8000000 in
theorem made29_any' (nm : ByteArray) (kd N md mv : Int) {ar : Option Addr} {cr : Nat} (lr : List S) {aw : Option Addr} {cw : Nat} (lw : List S) {af : Option Addr} {cf : Nat} (lf : List F2) (w : World) (hr : Rd w ar lr.length cr 1 (sl lr)) (hq : Rd w aw lw.length cw 1 (sl lw)) (hf : Rd w af lf.length cf 2 (fl lf))
    (hk0 : 0 ≤ kd) (hk1 : kd ≤ 255) (hN0 : 0 ≤ N) (hN1 : N ≤ 255) (hm0 : 0 ≤ md) (hm1 : md ≤ 255) (hv0 : 0 ≤ mv) :
    Calls Tryz.prog 7 #[.agg #[.int .u8 kd, .int .u8 N, .int .u8 md, .slice ar lr.length cr, .slice aw lw.length cw, .slice af lf.length cf, .int .u8 mv], .string nm] w fun e w' => RetG w (made29 nm kd N md lr lw lf mv) e w' := by
  have hs : ∀ o, (w.alloc o).heap.size = w.heap.size + 1 := fun o => World.size_alloc ..
  have hb := Blk.new w 27 #[.int .u8 kd, .int .u8 N, .int .u8 md, .slice ar lr.length cr, .slice aw lw.length cw, .slice af lf.length cf, .int .u8 mv]
  have K1 := (Keeps.refl w).alloc (.cells #[.int .u8 kd, .int .u8 N, .int .u8 md, .slice ar lr.length cr, .slice aw lw.length cw, .slice af lf.length cf, .int .u8 mv] 27)
  generalize hW1 : w.alloc (.cells #[.int .u8 kd, .int .u8 N, .int .u8 md, .slice ar lr.length cr, .slice aw lw.length cw, .slice af lf.length cf, .int .u8 mv] 27) = W1 at *
  have hs1 : W1.heap.size = w.heap.size + 1 := by rw [← hW1]; exact hs _
  have k2 := (Keeps.refl W1).alloc (.cells zG 32)
  have hres := Blk.new W1 32 zG
  have hb2 := hb.keep k2
  have KW := K1.trans k2
  rw [hs1] at hres
  have hof := of27n_any nm kd N md lr lw lf (W1.alloc (.cells zG 32)) (hr.keep KW) (hq.keep KW) (hf.keep KW) hk0 hk1 hN0 hN1 hm0 hm1
  have c0 := hb2.cell 0 (v := .int .u8 kd) rfl
  have c1 := hb2.cell 1 (v := .int .u8 N) rfl
  have c2 := hb2.cell 2 (v := .int .u8 md) rfl
  have c3 := hb2.cell 3 (v := .slice ar lr.length cr) rfl
  have c4 := hb2.cell 4 (v := .slice aw lw.length cw) rfl
  have c5 := hb2.cell 5 (v := .slice af lf.length cf) rfl
  rw [← hW1] at c0 c1 c2 c3 c4 c5 hres hb2 KW hof
  have hRl := setsR_len md lr (nOf N) (nOf_le N)
  have hQl := setsR_len md lw (nOf N) (nOf_le N)
  have hFl := madeF_le (nOf N) lf
  unfold made29
  generalize kdOf kd = kc at *
  generalize fullS (nOf N) = M at *
  generalize setsR md lr (nOf N) = R at *
  generalize setsR md lw (nOf N) = Q at *
  generalize madeF (nOf N) lf = F at *
  have hmk : (moveK mv : Int) = mv.tmod 4 := by unfold moveK; rw [Int.tmod_eq_emod_of_nonneg hv0]; omega
  have hmk3 : moveK mv ≤ 3 := by unfold moveK; omega
  generalize moveK mv = k at *
  obtain ⟨g, hg⟩ : ∃ g : List S → List S, g = mvL k := ⟨_, rfl⟩
  rw [← hg]
  have HMV := Lib.hid hg
  clear hg
  have HOF := Lib.hid hof; have HRES := Lib.hid hres; have HB := Lib.hid hb2; have HKW := Lib.hid KW; have HMK := Lib.hid hmk
  clear hof hres hb hb2 K1 k2 KW hs1 hW1 hs hr hq hf hk0 hk1 hN0 hN1 hm0 hm1 hmk
  go_enter Tryz.func7, Tryz.ntmps7
  go_wp2_with fail
  refine HOF.out.mono ?_
  rintro e w1 ⟨br, dr, bw, dw, bf, df, rfl, hC, K⟩
  have hml : mv % 4 = (k : Int) := by rw [HMK.out, Int.tmod_eq_emod_of_nonneg hv0]
  have hmt : mv.tmod 4 = (k : Int) := HMK.out.symm
  have hmw : IntKind.i64.wrap (k : Int) = (k : Int) := by rw [IntKind.wrap_i64]; omega
  have HRES0 := Lib.hid ((HRES.out.keep K).lt)
  have b2 := HB.out.keep K
  have rs := HRES.out.keep K
  have KK := HKW.out.trans K
  clear HB HRES HKW HOF K c0 c1 c2 c3 c4 c5 HMK
  have hc := Blk.new w1 32 #[.string nm, .int .i64 kc, .int .u16 (sv M), .slice br R.length dr, .slice bw Q.length dw, .slice bf F.length df]
  have KA := (Keeps.refl w1).alloc (.cells #[.string nm, .int .i64 kc, .int .u16 (sv M), .slice br R.length dr, .slice bw Q.length dw, .slice bf F.length df] 32)
  replace b2 := b2.keep KA
  replace rs := rs.keep KA
  replace KK := KK.trans KA
  replace hC := hC.keep KA
  have hlt := rs.lt
  have d6 := b2.cell 6 (v := .int .u8 mv) rfl
  have hnB : w.heap.size + 1 ≠ w1.heap.size := by have := HRES0.out; omega
  go_wp2_with fail
  -- region 3
  have hm1 := fun (a : Option Addr) (c : Nat) (l : List S) (W : World) (h : Rd W a l.length c 1 (sl l) ∧ l.length ≤ 1000000) => moved_any a l.length c l k W h.1 hmk3 h.2
  rw [← HMV.out] at hm1
  have hbc : BoxC (w1.alloc (.cells #[.string nm, .int .i64 kc, .int .u16 (sv M), .slice br R.length dr, .slice bw Q.length dw, .slice bf F.length df] 32)) w1.heap.size nm kc M br R.length dr bw Q.length dw bf F.length df := BoxC.new ..
  generalize hW2 : w1.alloc (.cells #[.string nm, .int .i64 kc, .int .u16 (sv M), .slice br R.length dr, .slice bw Q.length dw, .slice bf F.length df] 32) = W2 at *
  generalize w1.heap.size = B5 at *
  have HB := Lib.hid hbc; have H1 := Lib.hid hm1
  have HR := Lib.hid (fun (W : World) (K : Keeps W2 W) => And.intro (hC.keep K).r.rd (show R.length ≤ 1000000 by omega))
  have HQ := Lib.hid (fun (W : World) (K : Keeps W2 W) => And.intro (hC.keep K).q.rd (show Q.length ≤ 1000000 by omega))
  have J0 := Keeps.refl W2
  have HF5 := Lib.hid (fun (W : World) (K : Keeps W2 W) => (hC.keep K).f.rd)
  have HKK := Lib.hid KK; have HRS := Lib.hid rs
  clear hbc hm1 hW2 hc hC KA KK rs b2 d6 hlt hnB HRES0 hmw hml hmt
  go_region_held3 (fun w' => w'.cell? ⟨B5, 0, none⟩ = some (.string nm) ∧ w'.cell? ⟨B5, 1, none⟩ = some (.int .i64 kc) ∧ w'.cell? ⟨B5, 2, none⟩ = some (.int .u16 (sv M)) ∧ w'.cell? ⟨B5, 3, none⟩ = some (.slice br R.length dr) ∧ w'.cell? ⟨B5, 4, none⟩ = some (.slice bw Q.length dw) ∧ w'.cell? ⟨B5, 5, none⟩ = some (.slice bf F.length df)) (first | with_reducible exact (HB.out.keep (J0.drew)).conj | with_reducible exact (HB.out.keep (J0.alloc _).drew).conj | with_reducible exact (HB.out.keep (k9.alloc _)).conj | with_reducible exact hF | with_reducible exact (HB.out.keep (keeps_set6 k9 hNB _ _ _ _ _ _)).conj | go_keep) ((go_at_call 30; refine (H1.out _ _ _ _ (by first | with_reducible exact HR.out _ J0.drew | with_reducible exact HQ.out _ J0.drew | with_reducible exact HR.out _ ((J0.alloc _).drew) | with_reducible exact HQ.out _ ((J0.alloc _).drew) | with_reducible exact HR.out _ k9 | with_reducible exact HQ.out _ k9 | with_reducible exact HR.out _ (k9.alloc _) | with_reducible exact HQ.out _ (k9.alloc _))).mono ?_; rintro e W9 ⟨v9, rfl, hO⟩; obtain ⟨a9, c9, rfl, hR⟩ := hO.rd; (try (replace hr1 := hr1.keep (Keeps.trans (by first | with_reducible exact Keeps.refl _ | with_reducible exact (Keeps.refl _).alloc _ | with_reducible exact ((Keeps.refl _).alloc _).drew) hO.2))); (try (replace hq1 := hq1.keep (Keeps.trans (by first | with_reducible exact Keeps.refl _ | with_reducible exact (Keeps.refl _).alloc _ | with_reducible exact ((Keeps.refl _).alloc _).drew) hO.2))); (first | have hr1 : Row0 29 1 W9 (.slice a9 (g R).length c9) (g R).length (sl (g R)) := hO.row0 | have hq1 : Row0 29 1 W9 (.slice a9 (g Q).length c9) (g Q).length (sl (g Q)) := hO.row0); replace k9 : Keeps W2 W9 := Keeps.trans (by first | with_reducible exact J0.drew | with_reducible exact (J0.alloc _).drew | with_reducible exact k9 | with_reducible exact k9.alloc _) hO.2; have hF := (HB.out.keep k9).conj; (first | ((first | have hN := Blk.ofd hO.2 | have hN := Blk.of hO.2); have hNB := Keeps.size (by first | with_reducible exact k8 | with_reducible exact J0)) | (replace hN := Blk.keep hN hO.2) | skip); (try (obtain ⟨n0, n1, n2, n3, n4, n5⟩ := hN.c6; obtain ⟨g0, g1, g2, g3, g4, g5⟩ := hN.f6)); have k8 := k9; dsimp only))
  all_goals
    clear hF
    first
    | obtain ⟨Wf, hWf, hA⟩ := pack (Aft.ofSet hN hr1 hq1 k9 hNB (.string nm) (.int .i64 kc) (.int .u16 (sv (M <<< k))))
      rw [hWf]
      clear hWf hN hNB n0 n1 n2 n3 n4 n5 g0 g1 g2 g3 g4 g5
    | obtain ⟨Wf, hWf, hA⟩ := pack (Aft.ofNew hr1 hq1 k9 (.string nm) (.int .i64 kc) (.int .u16 (sv (M <<< k))))
      rw [hWf]
      clear hWf
  all_goals
    clear hO hR hr1 hq1 k9 k8
    obtain ⟨B7, x1, y1, x2, y2, hB7, e1, e2, e3, e4, hA⟩ := hA.name
    rw [hB7, e1, e2, e3, e4]
    clear hB7 e1 e2 e3 e4
    have hnil : Own 59 2 W2 Wf (.slice none 0 0) 0 (fl ((F.take 0).map (mvF k))) := Own.nil _ _ hA.k
    have HA := Lib.hid hA; have HNIL := Lib.hid hnil
    have hbc := (HB.out.keep hA.k).conj
    obtain ⟨c0, c1, c2, c3, c4, c5⟩ := hbc
    have ho := hA.blk
    clear hA hnil
    go_wp2_with fail
    clear c0 c1 c2 c3 c4 c5
    go_loopw [8] (fun v wr => ∃ (i : Nat) (u : Value), i ≤ F.length ∧ v = .int .i64 i ∧ Own 59 2 W2 wr u i (fl ((F.take i).map (mvF k))) ∧ Blk wr B7 32 #[.string nm, .int .i64 kc, .int .u16 (sv (M <<< k)), .slice x1 (g R).length y1, .slice x2 (g Q).length y2, u] ∧ Row0 29 1 wr (.slice x1 (g R).length y1) (g R).length (sl (g R)) ∧ Row0 29 1 wr (.slice x2 (g Q).length y2) (g Q).length (sl (g Q))) (fun v _ => F.length - (RowKit.intOf v).toNat)
    case atStart => exact ⟨0, _, Nat.zero_le _, rfl, HNIL.out, HA.out.blk, HA.out.r1, HA.out.r2⟩
    case round =>
      obtain ⟨i, u, hi, rfl, hO, hb, hr1, hr2⟩ := hrel
      have KO := hO.2
      obtain ⟨c0, c1, c2, c3, c4, c5⟩ := (HB.out.keep KO).conj
      by_cases hlt : i < F.length
      · have g0 := (HF5.out _ KO).f0 hlt
        have g1 := (HF5.out _ KO).f1' hlt
        have hs := (HF5.out _ KO).isSome (by omega)
        have hst : (F.take (i + 1)).map (mvF k) = (F.take i).map (mvF k) ++ [mvF k (fa F i)] := by rw [take_fa F i hlt, List.map_append]; rfl
        generalize fa F i = f at *
        obtain ⟨au, cu, rfl, _⟩ := hO.rd
        have hne := blk_ne hb hO.1 (by decide)
        have hbF := Blk.new wr 59 #[.int .u16 (sv f.1), .int .u16 (sv f.2)]
        have KF := (Keeps.refl wr).alloc (.cells #[.int .u16 (sv f.1), .int .u16 (sv f.2)] 59)
        have hfr := own_fresh hO
        obtain ⟨p0, p1, p2, p3, p4, p5⟩ := (hb.keep KF.drew).c6
        obtain ⟨s0, s1, s2, s3, s4, s5⟩ := (hb.keep (KF.alloc (.cells #[.int .u16 (sv (f.1 <<< k &&& 4095#16)), .int .u16 (sv (f.2 <<< k &&& 4095#16))] 59))).c6
        clear s0 s1 s2 s3 s4 p0 p1 p2 p3 p4
        have hlit := (rd_new 59 2 (wr.alloc (.cells #[.int .u16 (sv f.1), .int .u16 (sv f.2)] 59)) [.int .u16 (sv (mvF k f).1), .int .u16 (sv (mvF k f).2)] 1 (by decide) rfl).keep ((Keeps.refl _).drew)
        rw [World.size_alloc] at hlit
        have HLIT := Lib.hid hlit
        clear hlit
        have HO := Lib.hid hO; have HST := Lib.hid hst; have HB7 := Lib.hid hb; have HR1 := Lib.hid hr1; have HR2 := Lib.hid hr2; have HNE := Lib.hid hne
        have hlt' : (i : Int) < (F.length : Int) := by omega
        clear hO hst hb hr1 hr2 hne
        have HBF := Lib.hid hbF; have HFR := Lib.hid hfr
        have hn7 : wr.heap.size ≠ B7 := by have := HB7.out.lt; omega
        have HN7 := Lib.hid hn7
        clear hbF hfr hn7
        go_wp2_with fail
        clear g0 g1 c0 c1 c2 c3 c4 c5
        refine wp_region_held_drew (S := (fun w' => w'.cell? ⟨wr.heap.size, 0, none⟩ = some (.int .u16 (sv f.1)) ∧ w'.cell? ⟨wr.heap.size, 1, none⟩ = some (.int .u16 (sv f.2)))) (by kernel_rfl) ?_ (fun hHeld => ?_)
        · with_reducible exact cB2' (HBF.out.keep (Keeps.refl _).drew)
        refine wpAnyH_take (i := 0) (oi := ⟨_, _, _, _, _, _⟩) (v := ?_) rfl (by kernel_rfl) (by kernel_rfl) (by kernel_rfl) (fun _ _ _ h => h) (Or.inl ⟨by rfl, ?_⟩) (by assumption) ?_
        rotate_left 1
        · intro w hSw; (try dsimp only at hSw); go_simp <;> with_reducible rfl
        (try simp only [Act.put]); (try simp only [List.setIfInBounds_toArray]); (try simp only [List.set_cons_succ]); (try simp only [List.set_cons_zero])
        refine wpAnyH_take (i := 2) (oi := ⟨_, _, _, _, _, _⟩) (v := ?_) rfl (by kernel_rfl) (by kernel_rfl) (by kernel_rfl) (fun _ _ _ h => h) (Or.inl ⟨by rfl, ?_⟩) (by assumption) ?_
        rotate_left 1
        · intro w hSw; (try dsimp only at hSw); go_simp <;> with_reducible rfl
        (try simp only [Act.put]); (try simp only [List.setIfInBounds_toArray]); (try simp only [List.set_cons_succ]); (try simp only [List.set_cons_zero])
        refine wpAnyH_take (i := 3) (oi := ⟨_, _, _, _, _, _⟩) (v := ?_) rfl (by kernel_rfl) (by kernel_rfl) (by kernel_rfl) (fun _ _ _ h => h) (Or.inl ⟨by rfl, ?_⟩) (by assumption) ?_
        rotate_left 1
        · intro w hSw; (try dsimp only at hSw); go_simp <;> with_reducible rfl
        (try simp only [Act.put]); (try simp only [List.setIfInBounds_toArray]); (try simp only [List.set_cons_succ]); (try simp only [List.set_cons_zero])
        refine wpAnyH_take (i := 4) (oi := ⟨_, _, _, _, _, _⟩) (v := ?_) rfl (by kernel_rfl) (by kernel_rfl) (by kernel_rfl) (fun _ _ _ h => h) (Or.inl ⟨by rfl, ?_⟩) (by assumption) ?_
        rotate_left 1
        · intro w hSw; (try dsimp only at hSw); go_simp <;> with_reducible rfl
        (try simp only [Act.put]); (try simp only [List.setIfInBounds_toArray]); (try simp only [List.set_cons_succ]); (try simp only [List.set_cons_zero])
        refine wpAnyH_take (i := 5) (oi := ⟨_, _, _, _, _, _⟩) (v := ?_) rfl (by kernel_rfl) (by kernel_rfl) (by kernel_rfl) (fun _ _ _ h => h) (Or.inl ⟨by rfl, ?_⟩) (by assumption) ?_
        rotate_left 1
        · intro w hSw; (try dsimp only at hSw); go_simp <;> with_reducible rfl
        (try simp only [Act.put]); (try simp only [List.setIfInBounds_toArray]); (try simp only [List.set_cons_succ]); (try simp only [List.set_cons_zero])
        refine wpAnyH_take (i := 6) (oi := ⟨_, _, _, _, _, _⟩) (v := ?_) rfl (by kernel_rfl) (by kernel_rfl) (by kernel_rfl) (fun _ _ _ h => h) (Or.inl ⟨by rfl, ?_⟩) (by assumption) ?_
        rotate_left 1
        · intro w hSw; (try dsimp only at hSw); go_simp <;> with_reducible rfl
        (try simp only [Act.put]); (try simp only [List.setIfInBounds_toArray]); (try simp only [List.set_cons_succ]); (try simp only [List.set_cons_zero])
        refine wpAnyH_take (i := 7) (oi := ⟨_, _, _, _, _, _⟩) (v := ?_) rfl (by kernel_rfl) (by kernel_rfl) (by kernel_rfl) (fun _ _ _ h => h) (Or.inl ⟨by rfl, ?_⟩) (by assumption) ?_
        rotate_left 1
        · intro w hSw; (try dsimp only at hSw); go_simp <;> with_reducible rfl
        (try simp only [Act.put]); (try simp only [List.setIfInBounds_toArray]); (try simp only [List.set_cons_succ]); (try simp only [List.set_cons_zero])
        refine wpAnyH_take (i := 8) (oi := ⟨_, _, _, _, _, _⟩) (v := ?_) rfl (by kernel_rfl) (by kernel_rfl) (by kernel_rfl) (fun _ _ _ h => h) (Or.inl ⟨by rfl, ?_⟩) (by assumption) ?_
        rotate_left 1
        · intro w hSw; (try dsimp only at hSw); go_simp <;> with_reducible rfl
        (try simp only [Act.put]); (try simp only [List.setIfInBounds_toArray]); (try simp only [List.set_cons_succ]); (try simp only [List.set_cons_zero])
        refine wpAnyH_take (i := 9) (oi := ⟨_, _, _, _, _, _⟩) (v := ?_) rfl (by kernel_rfl) (by kernel_rfl) (by kernel_rfl) (fun _ _ _ h => h) (Or.inl ⟨by rfl, ?_⟩) (by assumption) ?_
        rotate_left 1
        · intro w hSw; (try dsimp only at hSw); go_simp <;> with_reducible rfl
        (try simp only [Act.put]); (try simp only [List.setIfInBounds_toArray]); (try simp only [List.set_cons_succ]); (try simp only [List.set_cons_zero])
        refine wpAnyH_take (i := 10) (oi := ⟨_, _, _, _, _, _⟩) (v := ?_) rfl (by kernel_rfl) (by kernel_rfl) (by kernel_rfl) (fun _ _ _ h => h) (Or.inl ⟨by rfl, ?_⟩) (by assumption) ?_
        rotate_left 1
        · intro w hSw; (try dsimp only at hSw); go_simp <;> with_reducible rfl
        (try simp only [Act.put]); (try simp only [List.setIfInBounds_toArray]); (try simp only [List.set_cons_succ]); (try simp only [List.set_cons_zero])
        refine wpAnyH_take (i := 11) (oi := ⟨_, _, _, _, _, _⟩) (v := ?_) rfl (by kernel_rfl) (by kernel_rfl) (by kernel_rfl) (fun _ _ _ h => h) (Or.inl ⟨by rfl, ?_⟩) (by assumption) ?_
        rotate_left 1
        · intro w hSw; (try dsimp only at hSw); go_simp <;> with_reducible rfl
        (try simp only [Act.put]); (try simp only [List.setIfInBounds_toArray]); (try simp only [List.set_cons_succ]); (try simp only [List.set_cons_zero])
        refine wpAnyH_take (i := 12) (oi := ⟨_, _, _, _, _, _⟩) (v := ?_) rfl (by kernel_rfl) (by kernel_rfl) (by kernel_rfl) (fun _ _ _ h => h) (Or.inl ⟨by rfl, ?_⟩) (by assumption) ?_
        rotate_left 1
        · intro w hSw; (try dsimp only at hSw); go_simp <;> with_reducible rfl
        (try simp only [Act.put]); (try simp only [List.setIfInBounds_toArray]); (try simp only [List.set_cons_succ]); (try simp only [List.set_cons_zero])
        refine wpAnyH_ready (rs := [1, 13]) (by kernel_rfl) (by simp) ?_
        refine AllReadyH.cons (o := ⟨_, _, _, _, _, _⟩) rfl (fun K hK => ?_) (AllReadyH.cons (o := ⟨_, _, _, _, _, _⟩) rfl (fun K hK => ?_) AllReadyH.nil)
        · go_simp
          refine hK.out _ _ ?_ (fun hHeld => ?_)
          · with_reducible exact cB2' (HBF.out.keep (Keeps.refl _).drew)
          clear hK K
          (try simp only [Act.put]); (try simp only [List.setIfInBounds_toArray]); (try simp only [List.set_cons_succ]); (try simp only [List.set_cons_zero])
          refine wpAnyH_ready (rs := [13]) (by kernel_rfl) (by simp) ?_
          refine AllReadyH.cons (o := ⟨_, _, _, _, _, _⟩) rfl (fun K hK => ?_) AllReadyH.nil
          go_simp
          refine hK.out _ _ ?_ (fun hHeld => ?_)
          · with_reducible exact cB2' (HBF.out.keep ((Keeps.refl _).alloc _).drew)
          clear hK K
          (try simp only [Act.put]); (try simp only [List.setIfInBounds_toArray]); (try simp only [List.set_cons_succ]); (try simp only [List.set_cons_zero])
          refine wpAnyH_ready (rs := [14]) (by kernel_rfl) (by simp) ?_
          refine AllReadyH.cons (o := ⟨_, _, _, _, _, _⟩) rfl (fun K hK => ?_) AllReadyH.nil
          refine step_app tyF (by rfl) _ _ (by rfl) (((HO.out.alloc _).alloc _).keep ((Keeps.refl _).drew)) (by rfl) (by rfl) HLIT.out (fl_oneCell [mvF k f]) (by omega) ?_
          intro v4 w4 hO4 hgr4
          obtain ⟨av, cv, rfl, _⟩ := hO4.rd
          have KV := ((KF.alloc (.cells #[.int .u16 (sv (mvF k f).1), .int .u16 (sv (mvF k f).2)] 59)).drew)
          have hb4 := blk_grown (HB7.out.keep KV) hgr4 HNE.out
          have hr14 : Row0 29 1 w4 _ _ _ := row_kept (HR1.out.keep KV) (HO.out.keep KV).1 (by decide) hgr4
          have hr24 : Row0 29 1 w4 _ _ _ := row_kept (HR2.out.keep KV) (HO.out.keep KV).1 (by decide) hgr4
          have o5 := hb4.cell 5 (v := .slice au i cu) rfl
          have o6 := hb4.frozen 5
          have HO4 := Lib.hid hO4
          have HB4 := Lib.hid hb4
          have HR14 := Lib.hid hr14
          have HR24 := Lib.hid hr24
          have HBF4 := Lib.hid (blk_grown ((HBF.out.keep ((Keeps.refl _).alloc _)).keep ((Keeps.refl _).drew)) hgr4 HFR.out)
          clear hO4 hgr4 hb4 hr14 hr24 KV
          refine hK.out _ _ ?_ (fun hHeld => ?_)
          · with_reducible exact cB2' HBF4.out
          clear hK K
          (try simp only [Act.put]); (try simp only [List.setIfInBounds_toArray]); (try simp only [List.set_cons_succ]); (try simp only [List.set_cons_zero])
          refine wpAnyH_take (i := 15) (oi := ⟨_, _, _, _, _, _⟩) (v := ?_) rfl (by kernel_rfl) (by kernel_rfl) (by kernel_rfl) (fun _ _ _ h => h) (Or.inl ⟨by rfl, ?_⟩) (by assumption) ?_
          rotate_left 1
          · intro w hSw; (try dsimp only at hSw); go_simp <;> with_reducible rfl
          (try simp only [Act.put]); (try simp only [List.setIfInBounds_toArray]); (try simp only [List.set_cons_succ]); (try simp only [List.set_cons_zero])
          refine wpAnyH_ready (rs := [16]) (by kernel_rfl) (by simp) ?_
          refine AllReadyH.cons (o := ⟨_, _, _, _, _, _⟩) rfl (fun K hK => ?_) AllReadyH.nil
          go_simp
          refine hK.out _ _ ?_ (fun hHeld => ?_)
          · with_reducible exact cB2' (HBF4.out.setOther HN7.out 5 _)
          clear hK K
          (try simp only [Act.put]); (try simp only [List.setIfInBounds_toArray]); (try simp only [List.set_cons_succ]); (try simp only [List.set_cons_zero])
          refine wpAnyH_done (by kernel_rfl) ?_ _
          clear p5 s5 o5 o6 HBF4 HBF HFR HN7
          have hO5 : Own 59 2 W2 (w4.setCell ⟨B7, 5, none⟩ (.slice av (i + 1) cv)) (.slice av (i + 1) cv) (i + 1) (fl ((F.take (i + 1)).map (mvF k))) := by
            rw [HST.out, fl_append]
            exact ⟨row_set HO4.out.1 HB4.out (by decide) 5 _, keeps_set HO4.out.2 HA.out.hB 5 _⟩
          have hb5 := HB4.out.set 5 (.slice av (i + 1) cv)
          have hr15 := HR14.out.set HB4.out (by decide) 5 (.slice av (i + 1) cv)
          have hr25 := HR24.out.set HB4.out (by decide) 5 (.slice av (i + 1) cv)
          have HO5 := Lib.hid hO5; have HB5 := Lib.hid hb5; have HR15 := Lib.hid hr15; have HR25 := Lib.hid hr25
          clear hO5 hb5 hr15 hr25 HO4 HB4 HR14 HR24
          go_wp2_with fail
          go_roundw
          case rel => exact ⟨i + 1, _, by omega, by go_num, HO5.out, HB5.out, HR15.out, HR25.out⟩
          case measure => simp [RowKit.intOf]; omega
        · go_simp
          refine hK.out _ _ ?_ (fun hHeld => ?_)
          · with_reducible exact cB2' (HBF.out.keep ((Keeps.refl _).alloc _).drew)
          clear hK K
          (try simp only [Act.put]); (try simp only [List.setIfInBounds_toArray]); (try simp only [List.set_cons_succ]); (try simp only [List.set_cons_zero])
          refine wpAnyH_ready (rs := [1]) (by kernel_rfl) (by simp) ?_
          refine AllReadyH.cons (o := ⟨_, _, _, _, _, _⟩) rfl (fun K hK => ?_) AllReadyH.nil
          go_simp
          refine hK.out _ _ ?_ (fun hHeld => ?_)
          · with_reducible exact cB2' (HBF.out.keep ((Keeps.refl _).alloc _).drew)
          clear hK K
          (try simp only [Act.put]); (try simp only [List.setIfInBounds_toArray]); (try simp only [List.set_cons_succ]); (try simp only [List.set_cons_zero])
          refine wpAnyH_ready (rs := [14]) (by kernel_rfl) (by simp) ?_
          refine AllReadyH.cons (o := ⟨_, _, _, _, _, _⟩) rfl (fun K hK => ?_) AllReadyH.nil
          refine step_app tyF (by rfl) _ _ (by rfl) (((HO.out.alloc _).alloc _).keep ((Keeps.refl _).drew)) (by rfl) (by rfl) HLIT.out (fl_oneCell [mvF k f]) (by omega) ?_
          intro v4 w4 hO4 hgr4
          obtain ⟨av, cv, rfl, _⟩ := hO4.rd
          have KV := ((KF.alloc (.cells #[.int .u16 (sv (mvF k f).1), .int .u16 (sv (mvF k f).2)] 59)).drew)
          have hb4 := blk_grown (HB7.out.keep KV) hgr4 HNE.out
          have hr14 : Row0 29 1 w4 _ _ _ := row_kept (HR1.out.keep KV) (HO.out.keep KV).1 (by decide) hgr4
          have hr24 : Row0 29 1 w4 _ _ _ := row_kept (HR2.out.keep KV) (HO.out.keep KV).1 (by decide) hgr4
          have o5 := hb4.cell 5 (v := .slice au i cu) rfl
          have o6 := hb4.frozen 5
          have HO4 := Lib.hid hO4
          have HB4 := Lib.hid hb4
          have HR14 := Lib.hid hr14
          have HR24 := Lib.hid hr24
          have HBF4 := Lib.hid (blk_grown ((HBF.out.keep ((Keeps.refl _).alloc _)).keep ((Keeps.refl _).drew)) hgr4 HFR.out)
          clear hO4 hgr4 hb4 hr14 hr24 KV
          refine hK.out _ _ ?_ (fun hHeld => ?_)
          · with_reducible exact cB2' HBF4.out
          clear hK K
          (try simp only [Act.put]); (try simp only [List.setIfInBounds_toArray]); (try simp only [List.set_cons_succ]); (try simp only [List.set_cons_zero])
          refine wpAnyH_take (i := 15) (oi := ⟨_, _, _, _, _, _⟩) (v := ?_) rfl (by kernel_rfl) (by kernel_rfl) (by kernel_rfl) (fun _ _ _ h => h) (Or.inl ⟨by rfl, ?_⟩) (by assumption) ?_
          rotate_left 1
          · intro w hSw; (try dsimp only at hSw); go_simp <;> with_reducible rfl
          (try simp only [Act.put]); (try simp only [List.setIfInBounds_toArray]); (try simp only [List.set_cons_succ]); (try simp only [List.set_cons_zero])
          refine wpAnyH_ready (rs := [16]) (by kernel_rfl) (by simp) ?_
          refine AllReadyH.cons (o := ⟨_, _, _, _, _, _⟩) rfl (fun K hK => ?_) AllReadyH.nil
          go_simp
          refine hK.out _ _ ?_ (fun hHeld => ?_)
          · with_reducible exact cB2' (HBF4.out.setOther HN7.out 5 _)
          clear hK K
          (try simp only [Act.put]); (try simp only [List.setIfInBounds_toArray]); (try simp only [List.set_cons_succ]); (try simp only [List.set_cons_zero])
          refine wpAnyH_done (by kernel_rfl) ?_ _
          clear p5 s5 o5 o6 HBF4 HBF HFR HN7
          have hO5 : Own 59 2 W2 (w4.setCell ⟨B7, 5, none⟩ (.slice av (i + 1) cv)) (.slice av (i + 1) cv) (i + 1) (fl ((F.take (i + 1)).map (mvF k))) := by
            rw [HST.out, fl_append]
            exact ⟨row_set HO4.out.1 HB4.out (by decide) 5 _, keeps_set HO4.out.2 HA.out.hB 5 _⟩
          have hb5 := HB4.out.set 5 (.slice av (i + 1) cv)
          have hr15 := HR14.out.set HB4.out (by decide) 5 (.slice av (i + 1) cv)
          have hr25 := HR24.out.set HB4.out (by decide) 5 (.slice av (i + 1) cv)
          have HO5 := Lib.hid hO5; have HB5 := Lib.hid hb5; have HR15 := Lib.hid hr15; have HR25 := Lib.hid hr25
          clear hO5 hb5 hr15 hr25 HO4 HB4 HR14 HR24
          go_wp2_with fail
          go_roundw
          case rel => exact ⟨i + 1, _, by omega, by go_num, HO5.out, HB5.out, HR15.out, HR25.out⟩
          case measure => simp [RowKit.intOf]; omega
      · have hii : F.take i = F := List.take_of_length_le (by omega)
        have hin : i = F.length := by omega
        subst hin
        rw [hii] at hO
        obtain ⟨au, cu, rfl, hRu⟩ := hO.rd
        obtain ⟨p0, p1, p2, p3, p4, p5⟩ := hb.c6
        have hlm : (F.map (mvF k)).length = F.length := List.length_map ..
        have hcall := normal_any au cu (F.map (mvF k)) wr (by rw [hlm]; exact hRu) (by omega)
        rw [hlm] at hcall
        have HC := Lib.hid hcall; have HB7 := Lib.hid hb; have HR1 := Lib.hid hr1; have HR2 := Lib.hid hr2
        have hlt' : ¬ (F.length : Int) < (F.length : Int) := by omega
        clear hcall hO hRu hb hr1 hr2 hlm
        go_wp2_with fail
        refine HC.out.mono ?_
        rintro e w5 ⟨v5, rfl, hO5⟩
        clear p0 p1 p2 p3 p4 p5 c0 c1 c2 c3 c4 c5
        have K5 := hO5.2
        have hq5 := hO5.row0
        obtain ⟨a5, cc5, rfl, _⟩ := hO5.rd
        have hb5 := HB7.out.keep K5
        have o5 := hb5.cell 5 (v := .slice au F.length cu) rfl
        have o6 := hb5.frozen 5
        have rs5 := HRS.out.keep (KO.trans K5)
        have hlt5 := HRS.out.lt
        have hge := HA.out.hB
        have hne : w.heap.size + 1 ≠ B7 := by omega
        have hq6 := hq5.set hb5 (by decide) 5 (.slice a5 (normF (F.map (mvF k))).length cc5)
        have hr16 := (HR1.out.keep K5).set hb5 (by decide) 5 (.slice a5 (normF (F.map (mvF k))).length cc5)
        have hr26 := (HR2.out.keep K5).set hb5 (by decide) 5 (.slice a5 (normF (F.map (mvF k))).length cc5)
        have hb6 := hb5.set 5 (.slice a5 (normF (F.map (mvF k))).length cc5)
        have rs6 := rs5.setOther hne 5 (.slice a5 (normF (F.map (mvF k))).length cc5)
        have hwB : w.heap.size ≤ B7 := by omega
        have KK6 := keeps_set (HKK.out.trans (KO.trans K5)) hwB 5 (.slice a5 (normF (F.map (mvF k))).length cc5)
        change Blk _ B7 _ #[.string nm, .int .i64 kc, .int .u16 (sv (M <<< k)), .slice x1 (g R).length y1, .slice x2 (g Q).length y2, .slice a5 (normF (F.map (mvF k))).length cc5] at hb6
        obtain ⟨p0, p1, p2, p3, p4, p5⟩ := hb6.c6
        obtain ⟨r0, r1, r2, r3, r4, r5⟩ := rs6.c6
        obtain ⟨z0, z1, z2, z3, z4, z5⟩ := rs6.f6
        have hr2 := rs6.set6 (.string nm) (.int .i64 kc) (.int .u16 (sv (M <<< k))) (.slice x1 (g R).length y1) (.slice x2 (g Q).length y2) (.slice a5 (normF (F.map (mvF k))).length cc5)
        have ks := keeps_set6 KK6 (Nat.le_succ w.heap.size) (.string nm) (.int .i64 kc) (.int .u16 (sv (M <<< k))) (.slice x1 (g R).length y1) (.slice x2 (g Q).length y2) (.slice a5 (normF (F.map (mvF k))).length cc5)
        have q1 := hr16.set6 rs6 (by decide) (.string nm) (.int .i64 kc) (.int .u16 (sv (M <<< k))) (.slice x1 (g R).length y1) (.slice x2 (g Q).length y2) (.slice a5 (normF (F.map (mvF k))).length cc5)
        have q2 := hr26.set6 rs6 (by decide) (.string nm) (.int .i64 kc) (.int .u16 (sv (M <<< k))) (.slice x1 (g R).length y1) (.slice x2 (g Q).length y2) (.slice a5 (normF (F.map (mvF k))).length cc5)
        have q3 := hq6.set6 rs6 (by decide) (.string nm) (.int .i64 kc) (.int .u16 (sv (M <<< k))) (.slice x1 (g R).length y1) (.slice x2 (g Q).length y2) (.slice a5 (normF (F.map (mvF k))).length cc5)
        have HR2' := Lib.hid hr2; have HKS := Lib.hid ks; have Q1 := Lib.hid q1; have Q2 := Lib.hid q2; have Q3 := Lib.hid q3
        clear hO5 K5 hq5 hb5 rs5 hq6 hr16 hr26 hb6 rs6 KK6 hr2 ks q1 q2 q3
        go_wp2_with fail
        refine bodyPost_ret (resCfg1 (z := ⟨⟨nm, kc, M <<< k, g R, g Q, normF (F.map (mvF k))⟩, x1, y1, x2, y2, a5, cc5⟩) rfl HR2'.out rfl) rfl ?_
        exact ⟨⟨⟨nm, kc, M <<< k, g R, g Q, normF (F.map (mvF k))⟩, x1, y1, x2, y2, a5, cc5⟩, rfl, rfl, ⟨Q1.out, Q2.out, Q3.out⟩, HKS.out⟩
  -- end 3
end Go.Proofs.YtnlohknlchgfgaaGreat
