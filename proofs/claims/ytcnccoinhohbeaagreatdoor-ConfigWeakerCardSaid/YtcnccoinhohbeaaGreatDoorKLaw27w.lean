/- Texts joined into one (wip/bin/pack.py): Law27w. -/
import Derived.Test.YtcnccoinhohbeaaGreatDoorKYg
import Derived.Test.YtcnccoinhohbeaaGreatDoorKYc
import Derived.Test.YtcnccoinhohbeaaGreatDoorKYy
import Derived.Test.YtcnccoinhohbeaaGreatDoorKT
import Derived.Lib.QuietBelow
/- The walk of the statement ConfigWeaker: it answers true and keeps what lay there. -/
namespace Go.Proofs.YtcnccoinhohbeaaGreatDoor
open Go.RowKit Go.Lib Go.Shelf

set_option maxRecDepth 20000 in
set_option maxHeartbeats 3000000 in
theorem ConfigWeaker_any (kd N md : Int) {ar : Option Addr} {cr : Nat} (lr : List S) {aw : Option Addr} {cw : Nat} (lw : List S) {af : Option Addr} {cf : Nat} (lf : List F2) (x0 x1 : S) {am : Option Addr} {cm : Nat} (lm : List F2) (w : World) (hT : Tab w) (hr : Rd w ar lr.length cr 1 (sl lr)) (hq : Rd w aw lw.length cw 1 (sl lw)) (hf : Rd w af lf.length cf 2 (fl lf)) (hk0 : 0 ≤ kd) (hk1 : kd ≤ 255) (hN0 : 0 ≤ N) (hN1 : N ≤ 255) (hm0 : 0 ≤ md) (hm1 : md ≤ 255) (hm : Rd w am lm.length cm 2 (fl lm)) :
    Calls Tryz.prog 8 #[.agg #[.int .u8 kd, .int .u8 N, .int .u8 md, .slice ar lr.length cr, .slice aw lw.length cw, .slice af lf.length cf], .agg #[.int .u16 (sv x0), .int .u16 (sv x1)], .slice am lm.length cm] w fun e w' => e = .returned (.bool true) ∧ Keeps w w' := by
  have KK := Keeps.refl w
  have K1 := (Keeps.refl w).alloc (.cells #[.int .u8 kd, .int .u8 N, .int .u8 md, .slice ar lr.length cr, .slice aw lw.length cw, .slice af lf.length cf] 25)
  have hk := BoxD.new w 25 kd N md ar lr.length cr aw lw.length cw af lf.length cf
  have hof := fun W (k : Keeps w W) => of27_any kd N md lr lw lf W (hr.keep k) (hq.keep k) (hf.keep k) hk0 hk1 hN0 hN1 hm0 hm1
  have HOF := Lib.hid hof
  obtain ⟨W0, hW1⟩ : ∃ W1, W1 = w.alloc (.cells #[.int .u8 kd, .int .u8 N, .int .u8 md, .slice ar lr.length cr, .slice aw lw.length cw, .slice af lf.length cf] 25) := ⟨_, rfl⟩
  rw [← hW1] at hk K1
  have HW1 := Lib.hid hW1
  replace hT := hT.keep K1
  replace KK := KK.trans K1
  have hRl := setsR_len md lr (nOf N) (nOf_le N)
  have hQl := setsR_len md lw (nOf N) (nOf_le N)
  have hFl := madeF_le (nOf N) lf
  have hfv := fv_made (nOf N) (Nat.le_trans (nOf_le N) (by decide)) lf
  have hgv := fv_made 5 (by decide) lm
  have hGl := madeF_le 5 lm
  replace hm := hm.keep K1
  have HTW := Lib.hid hT
  clear hof hr hq hf hk0 hk1 hN0 hN1 hm0 hm1 K1 hW1
  have hmade := HOF.out
  generalize kdOf kd = kc at *
  generalize fullS (nOf N) = M at *
  generalize setsR md lr (nOf N) = R at *
  generalize setsR md lw (nOf N) = Q at *
  generalize madeF (nOf N) lf = F at *
  have hmd := fun W (k : Keeps W0 W) => made19_any 5 am cm lm W (hm.keep k) (by decide) (by decide)
  generalize madeF 5 lm = G at *
  have hbl := bothL_len F G
  have hsm : F.length * G.length ≤ 49 := Nat.le_trans (Nat.mul_le_mul hFl hGl) (by decide)
  have hbo := fun a1 c1 a2 c2 W (h1 : Rd W a1 F.length c1 2 (fl F)) (h2 : Rd W a2 G.length c2 2 (fl G)) => both_any a1 c1 F a2 c2 G W h1 h2 hfv hgv (by omega)
  have hnl := normF_le (bothL F G)
  have e1 : limE (normF (bothL F G)) = 0 := if_neg (by omega)
  have e2 : limL (normF (bothL F G)) = normF (bothL F G) := if_neg (by omega)
  rw [e1, e2] at hbo
  have hwm := weak_model (kd := kc) (wt := x0) (M := M) (R := R) (Q := Q) (F := F) (G := G)
  have hww := weak_wit (kd := kc) (wt := x0) (wt' := x0 &&& x1) (M := M) (R := R) (Q := Q) (F := F)
  replace hwm := fun h => hwm h hgv (by omega)
  replace hww := fun h => hww h (and_sub_left x0 x1)
  have hHl : (normF (bothL F G)).length ≤ 49 := by omega
  clear hbl hnl e1 e2 hfv hgv hGl hsm
  generalize normF (bothL F G) = H at *
  have es := fun wt br dr bw dw bf df W (t : Tab W) (h : RowC W br dr R bw dw Q bf df F) => cSafe_any (nm := ⟨#[99]⟩) kc wt M W t h (by omega)
  have eh := fun wt br dr bw dw bf df W (t : Tab W) (h : RowC W br dr R bw dw Q bf df H) => cSafe_any (nm := ⟨#[99]⟩) kc wt M W t h (by omega)
  have ES := Lib.hid es; have EH := Lib.hid eh; have HMD := Lib.hid hmd; have HBO := Lib.hid hbo; have HWM := Lib.hid hwm; have HWW := Lib.hid hww
  clear es eh hmd hbo hwm hww
  obtain ⟨sf, hsf⟩ : ∃ b, b = safe27 kc x0 M R Q F := ⟨_, rfl⟩
  have HSF := Lib.hid hsf
  clear hsf
  go_enter Tryz.func8, Tryz.ntmps8
  go_wp2_with fail
  rw [← HW1.out]
  have hp := Blk.new W0 51 #[.int .u16 (sv x0), .int .u16 (sv x1)]
  have hsz : W0.heap.size = w.heap.size + 1 := by rw [HW1.out]; exact Array.size_push _
  obtain ⟨BP, hBP⟩ : ∃ B, B = w.heap.size + 1 := ⟨_, rfl⟩
  rw [hsz, ← hBP] at hp
  clear hsz
  have K := (Keeps.refl W0).alloc (.cells #[.int .u16 (sv x0), .int .u16 (sv x1)] 51)
  have KM := Keeps.refl W0
  replace KM := KM.trans K
  obtain ⟨W0', hW0'⟩ : ∃ V, V = W0.alloc (.cells #[.int .u16 (sv x0), .int .u16 (sv x1)] 51) := ⟨_, rfl⟩
  rw [← hW0'] at hp K KM ⊢
  rw [← hBP]
  clear hW0' hBP
  replace hT := hT.keep K
  replace hk := hk.keep K
  replace KK := KK.trans K
  clear K
  refine (awake27_any _ hT).mono ?_
  rintro e W1 ⟨rfl, K⟩
  replace KM := KM.trans K
  replace hT := hT.keep K
  replace hk := hk.keep K
  replace hp := hp.keep K
  replace KK := KK.trans K
  clear K
  obtain ⟨k0, k1, k2, k3, k4, k5⟩ := hk.conj
  go_wp2_with fail
  clear k0 k1 k2 k3 k4 k5
  refine (hmade _ KK).mono ?_
  rintro e W2 ⟨br, dr, bw, dw, bf, df, rfl, hC, K⟩
  replace KM := KM.trans K
  replace hT := hT.keep K
  replace hk := hk.keep K
  replace hp := hp.keep K
  replace KK := KK.trans K
  clear K
  obtain ⟨q0, q1⟩ := cB2 (hp.keep ((Keeps.refl W2).alloc (.cells #[.string ⟨#[99]⟩, .int .i64 kc, .int .u16 (sv M), .slice br R.length dr, .slice bw Q.length dw, .slice bf F.length df] 31)))
  go_wp2_with fail
  clear q0 q1
  have hb := BoxC.new W2 31 ⟨#[99]⟩ kc M br R.length dr bw Q.length dw bf F.length df
  have hbb := Blk.new W2 31 #[.string ⟨#[99]⟩, .int .i64 kc, .int .u16 (sv M), .slice br R.length dr, .slice bw Q.length dw, .slice bf F.length df]
  have K := (Keeps.refl W2).alloc (.cells #[.string ⟨#[99]⟩, .int .i64 kc, .int .u16 (sv M), .slice br R.length dr, .slice bw Q.length dw, .slice bf F.length df] 31)
  obtain ⟨B7, hB7⟩ : ∃ B, B = W2.heap.size := ⟨_, rfl⟩
  obtain ⟨V7, hV7⟩ : ∃ V, V = W2.alloc (.cells #[.string ⟨#[99]⟩, .int .i64 kc, .int .u16 (sv M), .slice br R.length dr, .slice bw Q.length dw, .slice bf F.length df] 31) := ⟨_, rfl⟩
  rw [← hB7, ← hV7] at hb hbb
  rw [← hV7] at K
  rw [← hV7, ← hB7]
  clear hV7 hB7
  replace KM := KM.trans K
  replace hT := hT.keep K
  replace hk := hk.keep K
  replace hp := hp.keep K
  replace hC := hC.keep K
  replace KK := KK.trans K
  clear K
  refine (ES.out _ _ _ _ _ _ _ _ hT hC).mono ?_
  rintro e W3 ⟨rfl, K⟩; replace KM := KM.trans K
  replace hT := hT.keep K
  replace hk := hk.keep K
  replace hp := hp.keep K
  replace hC := hC.keep K
  replace hb := hb.keep K
  replace hbb := hbb.keep K
  replace KK := KK.trans K
  clear K
  rw [← HSF.out]
  cases sf
  · skip
    go_wp2_with fail
    go_ret
    exact ⟨rfl, KK⟩
  · skip
    have hs1 := HWM.out HSF.out.symm
    have hs2 := HWW.out HSF.out.symm
    have HS1 := Lib.hid hs1; have HS2 := Lib.hid hs2
    clear hs1 hs2
    obtain ⟨c0, c1, c2, c3, c4, c5⟩ := hb.conj
    go_wp2_with fail
    clear c0 c1 c2 c3 c4 c5
    have h8 := Blk.new W3 31 #[.string ⟨#[99]⟩, .int .i64 kc, .int .u16 (sv M), .slice br R.length dr, .slice bw Q.length dw, .slice bf F.length df]
    have K := (Keeps.refl W3).alloc (.cells #[.string ⟨#[99]⟩, .int .i64 kc, .int .u16 (sv M), .slice br R.length dr, .slice bw Q.length dw, .slice bf F.length df] 31)
    have hne : B7 ≠ W3.heap.size := by have := hbb.lt; omega
    have hb8 : w.heap.size ≤ W3.heap.size := KK.size
    have hb80 : W0.heap.size ≤ W3.heap.size := KM.size
    have hne2 : BP ≠ W3.heap.size := by have := hp.lt; omega
    obtain ⟨B8, hB8⟩ : ∃ B, B = W3.heap.size := ⟨_, rfl⟩
    obtain ⟨V8, hV8⟩ : ∃ V, V = W3.alloc (.cells #[.string ⟨#[99]⟩, .int .i64 kc, .int .u16 (sv M), .slice br R.length dr, .slice bw Q.length dw, .slice bf F.length df] 31) := ⟨_, rfl⟩
    rw [← hB8, ← hV8] at h8
    rw [← hV8] at K
    rw [← hB8] at hne hb8 hne2 hb80
    rw [← hV8, ← hB8]
    clear hV8 hB8
    replace KM := KM.trans K
    replace hT := hT.keep K
    replace hk := hk.keep K
    replace hp := hp.keep K
    replace hC := hC.keep K
    replace hb := hb.keep K
    replace hbb := hbb.keep K
    replace KK := KK.trans K
    clear K
    have HFA := Lib.hid (fun (W : World) (k : Keeps V8 W) => k.cell hb.c5)
    have HFB := Lib.hid (fun (W : World) (k : Keeps V8 W) (u : Value) => (Blk.setOther (hbb.keep k) hne 5 u).cell 5 rfl)
    have HF8 := Lib.hid (fun (W : World) (k : Keeps V8 W) => And.intro ((h8.keep k).cell 5 rfl) ((h8.keep k).frozen 5))
    have HFF := Lib.hid hC.f.rd
    have J := (Keeps.refl V8).drew
    refine wp_region_held_drew (S := (fun w' => w'.cell? ⟨B7, 5, none⟩ = some (.slice bf F.length df))) (by kernel_rfl) ?_ (fun hHeld => ?_)
    · exact HFA.out _ J
    refine wpAnyH_take (i := 0) (oi := ⟨_, _, _, _, _, _⟩) (v := ?_) rfl (by kernel_rfl) (by kernel_rfl) (by kernel_rfl) (fun _ _ _ h => h) (Or.inl ⟨by rfl, ?_⟩) (by assumption) ?_
    rotate_left 1
    · intro w hSw; (try dsimp only at hSw); go_simp <;> with_reducible rfl
    (try simp only [Act.put]); (try simp only [List.setIfInBounds_toArray]); (try simp only [List.set_cons_succ]); (try simp only [List.set_cons_zero])
    refine wpAnyH_take (i := 1) (oi := ⟨_, _, _, _, _, _⟩) (v := ?_) rfl (by kernel_rfl) (by kernel_rfl) (by kernel_rfl) (fun _ _ _ h => h) (Or.inl ⟨by rfl, ?_⟩) (by assumption) ?_
    rotate_left 1
    · intro w hSw; (try dsimp only at hSw); go_simp <;> with_reducible rfl
    (try simp only [Act.put]); (try simp only [List.setIfInBounds_toArray]); (try simp only [List.set_cons_succ]); (try simp only [List.set_cons_zero])
    refine wpAnyH_take (i := 2) (oi := ⟨_, _, _, _, _, _⟩) (v := ?_) rfl (by kernel_rfl) (by kernel_rfl) (by kernel_rfl) (fun _ _ _ h => h) (Or.inl ⟨by rfl, ?_⟩) (by assumption) ?_
    rotate_left 1
    · intro w hSw; (try dsimp only at hSw); go_simp <;> with_reducible rfl
    (try simp only [Act.put]); (try simp only [List.setIfInBounds_toArray]); (try simp only [List.set_cons_succ]); (try simp only [List.set_cons_zero])
    refine wpAnyH_ready (rs := [3]) (by kernel_rfl) (by simp) ?_
    refine AllReadyH.cons (o := ⟨_, _, _, _, _, _⟩) rfl (fun K hK => ?_) AllReadyH.nil
    go_simp
    refine (HMD.out _ (KM.trans J)).mono ?_; rintro e W8 ⟨v8, rfl, hO8⟩; obtain ⟨a8, c8, rfl, hR8⟩ := hO8.rd; have K8 := hO8.2; clear hO8; replace J := Keeps.trans J K8; have HR8 := Lib.hid hR8; clear hR8
    try go_wp2_with fail
    refine hK.out _ _ ?_ (fun hHeld => ?_)
    · exact HFA.out _ J
    clear hK K
    (try simp only [Act.put]); (try simp only [List.setIfInBounds_toArray]); (try simp only [List.set_cons_succ]); (try simp only [List.set_cons_zero])
    refine wpAnyH_ready (rs := [4]) (by kernel_rfl) (by simp) ?_
    refine AllReadyH.cons (o := ⟨_, _, _, _, _, _⟩) rfl (fun K hK => ?_) AllReadyH.nil
    go_simp
    refine (HBO.out _ _ _ _ _ (HFF.out.keep J) HR8.out).mono ?_; rintro e W9 ⟨v9, rfl, hO9⟩; have hRO := hO9.row0; obtain ⟨a9, c9, rfl, _⟩ := hO9.rd; have K9 := hO9.2; clear hO9; replace J := Keeps.trans J K9; have HR9 := Lib.hid hRO; clear hRO; obtain ⟨y5, z5⟩ := HF8.out _ J
    try go_wp2_with fail
    refine hK.out _ _ ?_ (fun hHeld => ?_)
    · exact HFA.out _ J
    clear hK K
    (try simp only [Act.put]); (try simp only [List.setIfInBounds_toArray]); (try simp only [List.set_cons_succ]); (try simp only [List.set_cons_zero])
    refine wpAnyH_take (i := 5) (oi := ⟨_, _, _, _, _, _⟩) (v := ?_) rfl (by kernel_rfl) (by kernel_rfl) (by kernel_rfl) (fun _ _ _ h => h) (Or.inl ⟨by rfl, ?_⟩) (by assumption) ?_
    rotate_left 1
    · intro w hSw; (try dsimp only at hSw); go_simp <;> with_reducible rfl
    (try simp only [Act.put]); (try simp only [List.setIfInBounds_toArray]); (try simp only [List.set_cons_succ]); (try simp only [List.set_cons_zero])
    refine wpAnyH_take (i := 6) (oi := ⟨_, _, _, _, _, _⟩) (v := ?_) rfl (by kernel_rfl) (by kernel_rfl) (by kernel_rfl) (fun _ _ _ h => h) (Or.inl ⟨by rfl, ?_⟩) (by assumption) ?_
    rotate_left 1
    · intro w hSw; (try dsimp only at hSw); go_simp <;> with_reducible rfl
    (try simp only [Act.put]); (try simp only [List.setIfInBounds_toArray]); (try simp only [List.set_cons_succ]); (try simp only [List.set_cons_zero])
    refine wpAnyH_take (i := 7) (oi := ⟨_, _, _, _, _, _⟩) (v := ?_) rfl (by kernel_rfl) (by kernel_rfl) (by kernel_rfl) (fun _ _ _ h => h) (Or.inl ⟨by rfl, ?_⟩) (by assumption) ?_
    rotate_left 1
    · intro w hSw; (try dsimp only at hSw); go_simp <;> with_reducible rfl
    (try simp only [Act.put]); (try simp only [List.setIfInBounds_toArray]); (try simp only [List.set_cons_succ]); (try simp only [List.set_cons_zero])
    refine wpAnyH_take (i := 8) (oi := ⟨_, _, _, _, _, _⟩) (v := ?_) rfl (by kernel_rfl) (by kernel_rfl) (by kernel_rfl) (fun _ _ _ h => h) (Or.inl ⟨by rfl, ?_⟩) (by assumption) ?_
    rotate_left 1
    · intro w hSw; (try dsimp only at hSw); go_simp <;> with_reducible rfl
    (try simp only [Act.put]); (try simp only [List.setIfInBounds_toArray]); (try simp only [List.set_cons_succ]); (try simp only [List.set_cons_zero])
    refine wpAnyH_ready (rs := [9]) (by kernel_rfl) (by simp) ?_
    refine AllReadyH.cons (o := ⟨_, _, _, _, _, _⟩) rfl (fun K hK => ?_) AllReadyH.nil
    go_simp
    refine hK.out _ _ ?_ (fun hHeld => ?_)
    · first | exact HFB.out _ J _ | exact HFB.out _ J.drew _
    clear hK K
    (try simp only [Act.put]); (try simp only [List.setIfInBounds_toArray]); (try simp only [List.set_cons_succ]); (try simp only [List.set_cons_zero])
    refine wpAnyH_take (i := 10) (oi := ⟨_, _, _, _, _, _⟩) (v := ?_) rfl (by kernel_rfl) (by kernel_rfl) (by kernel_rfl) (fun _ _ _ h => h) (Or.inl ⟨by rfl, ?_⟩) (by assumption) ?_
    rotate_left 1
    · intro w hSw; (try dsimp only at hSw); go_simp <;> with_reducible rfl
    (try simp only [Act.put]); (try simp only [List.setIfInBounds_toArray]); (try simp only [List.set_cons_succ]); (try simp only [List.set_cons_zero])
    refine wpAnyH_done (by kernel_rfl) ?_ _
    have h8J := h8.keep J
    have hWn : Keeps W0 (W9.setCell ⟨B8, 5, none⟩ (.slice a9 H.length c9)) := keeps_set (KM.trans J) hb80 5 _
    have hKn : Keeps w (W9.setCell ⟨B8, 5, none⟩ (.slice a9 H.length c9)) := keeps_set (KK.trans J) hb8 5 _
    replace hT := HTW.out.keep hWn
    have hC0 := hC.keep J
    replace hC : RowC (W9.setCell ⟨B8, 5, none⟩ (.slice a9 H.length c9)) br dr R bw dw Q bf df F := ⟨hC0.r.set h8J (by decide) 5 _, hC0.q.set h8J (by decide) 5 _, hC0.f.set h8J (by decide) 5 _⟩
    have hC2 : RowC (W9.setCell ⟨B8, 5, none⟩ (.slice a9 H.length c9)) br dr R bw dw Q a9 c9 H := ⟨hC.r, hC.q, HR9.out.set h8J (by decide) 5 _⟩
    replace hbb := Blk.setOther (hbb.keep J) hne 5 (.slice a9 H.length c9)
    replace hp := Blk.setOther (hp.keep J) hne2 5 (.slice a9 H.length c9)
    replace h8 : Blk (W9.setCell ⟨B8, 5, none⟩ (.slice a9 H.length c9)) B8 31 #[.string ⟨#[99]⟩, .int .i64 kc, .int .u16 (sv M), .slice br R.length dr, .slice bw Q.length dw, .slice a9 H.length c9] := h8J.set 5 _
    clear hC0 h8J hWn hb hk KK y5 z5 J K8 K9 hHeld
    obtain ⟨WS, hWS⟩ : ∃ V, V = W9.setCell ⟨B8, 5, none⟩ (.slice a9 H.length c9) := ⟨_, rfl⟩
    rw [← hWS] at hT hC hC2 hbb hp h8 hKn ⊢
    clear hWS
    obtain ⟨c0, c1, c2, c3, c4, c5⟩ := hbb.c6
    obtain ⟨q0, q1⟩ := cB2 hp
    go_wp2_with fail
    clear c0 c1 c2 c3 c4 c5 q0 q1
    skip
    refine (ES.out (x0 &&& x1) _ _ _ _ _ _ _ hT hC).mono ?_
    rintro e W10 ⟨rfl, K⟩
    rw [HS2.out]
    replace hT := hT.keep K
    replace hC2 := hC2.keep K
    replace h8 := h8.keep K
    replace hp := hp.keep K
    replace hKn := hKn.trans K
    clear K hC hbb
    obtain ⟨c0, c1, c2, c3, c4, c5⟩ := h8.c6
    obtain ⟨q0, q1⟩ := cB2 hp
    go_wp2_with fail
    clear c0 c1 c2 c3 c4 c5 q0 q1
    refine (EH.out _ _ _ _ _ _ _ _ hT hC2).mono ?_
    rintro e W11 ⟨rfl, K⟩
    rw [HS1.out]
    go_wp2_with fail
    go_ret
    exact ⟨rfl, hKn.trans K⟩
end Go.Proofs.YtcnccoinhohbeaaGreatDoor
