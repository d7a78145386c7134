/- Texts joined into one (wip/bin/pack.py): Law27f. -/
import Derived.Test.YtcnccoinhohbeaaGreatDoorKLaw27e
import Derived.Test.YtcnccoinhohbeaaGreatDoorKYo
import Derived.Lib.QuietBelow
/- The walk of the statement ConfigCheck: it answers true and keeps what lay there. -/
namespace Go.Proofs.YtcnccoinhohbeaaGreatDoor
open Go.RowKit Go.Lib Go.Shelf

set_option maxRecDepth 20000 in
set_option maxHeartbeats 3000000 in
theorem ConfigCheck_any (kd N md : Int) {ar : Option Addr} {cr : Nat} (lr : List S) {aw : Option Addr} {cw : Nat} (lw : List S) {af : Option Addr} {cf : Nat} (lf : List F2) (wt : S) {al : Option Addr} {cl : Nat} (ll : List It) (w : World) (hT : Tab w) (hr : Rd w ar lr.length cr 1 (sl lr)) (hq : Rd w aw lw.length cw 1 (sl lw)) (hf : Rd w af lf.length cf 2 (fl lf)) (hk0 : 0 ≤ kd) (hk1 : kd ≤ 255) (hN0 : 0 ≤ N) (hN1 : N ≤ 255) (hm0 : 0 ≤ md) (hm1 : md ≤ 255) (hl : Rd w al ll.length cl 5 (itl ll)) :
    Calls Tryz.prog 7 #[.agg #[.int .u8 kd, .int .u8 N, .int .u8 md, .slice ar lr.length cr, .slice aw lw.length cw, .slice af lf.length cf], .int .u16 (sv wt), .slice al ll.length cl] w fun e w' => e = .returned (.bool true) ∧ Keeps w w' := by
  have KK := Keeps.refl w
  have K1 := (Keeps.refl w).alloc (.cells #[.int .u8 kd, .int .u8 N, .int .u8 md, .slice ar lr.length cr, .slice aw lw.length cw, .slice af lf.length cf] 25)
  have hk := BoxD.new w 25 kd N md ar lr.length cr aw lw.length cw af lf.length cf
  have hof := fun W (k : Keeps w W) => of27_any kd N md lr lw lf W (hr.keep k) (hq.keep k) (hf.keep k) hk0 hk1 hN0 hN1 hm0 hm1
  have HOF := Lib.hid hof
  obtain ⟨W0, hW1⟩ : ∃ W1, W1 = w.alloc (.cells #[.int .u8 kd, .int .u8 N, .int .u8 md, .slice ar lr.length cr, .slice aw lw.length cw, .slice af lf.length cf] 25) := ⟨_, rfl⟩
  rw [← hW1] at hk K1
  have HW1 := Lib.hid hW1
  replace hT := hT.keep K1
  replace hl := hl.keep K1
  replace KK := KK.trans K1
  have hRl := setsR_len md lr (nOf N) (nOf_le N)
  have hQl := setsR_len md lw (nOf N) (nOf_le N)
  have hFl := madeF_le (nOf N) lf
  clear hof hr hq hf hk0 hk1 hN0 hN1 hm0 hm1 K1 hW1
  have hmade := HOF.out
  generalize kdOf kd = kc at *
  generalize fullS (nOf N) = M at *
  generalize setsR md lr (nOf N) = R at *
  generalize setsR md lw (nOf N) = Q at *
  generalize madeF (nOf N) lf = F at *
  by_cases h500 : ll.length ≤ 500
  rotate_left
  · skip
    have hd : decide ((500 : Int) < (ll.length : Int)) = true := by simp; omega
    clear h500
    go_enter Tryz.func7, Tryz.ntmps7
    go_wp2_with fail
    rw [← HW1.out]
    refine (awake27_any _ hT).mono ?_
    rintro e W1 ⟨rfl, K⟩
    replace hT := hT.keep K
    replace hk := hk.keep K
    replace KK := KK.trans K
    clear K
    go_wp2_with fail
    refine (awake27_any _ hT).mono ?_
    rintro e W2 ⟨rfl, K⟩
    replace hT := hT.keep K
    replace hk := hk.keep K
    replace KK := KK.trans K
    clear K
    go_wp2_with fail
    go_ret
    exact ⟨rfl, KK⟩
  have hd : decide ((500 : Int) < (ll.length : Int)) = false := by simp; omega
  have hbl := byz27_le kc M F
  have hbig := rowsR_small (byz := byz27 kc M F) hRl hQl (by omega)
  have hal := al_small (wt := wt) (byz := byz27 kc M F) hRl hQl (by omega)
  have e1 := fun a c br dr bw dw bf df W (t : Tab W) (h : RowC W br dr R bw dw Q bf df F) hl => cCheck_any (nm := ⟨#[99]⟩) kc wt M (al := a) (cl := c) ll W t h hl (by omega) hal
  have e2 := fun a c br dr bw dw bf df W (t : Tab W) (h : RowC W br dr R bw dw Q bf df F) hl => rCheck_any (nm := ⟨#[99]⟩) kc wt M (al := a) (cl := c) ll W h.rd hl (by omega) hbig
  have e3 := fun br dr bw dw bf df W (t : Tab W) (h : RowC W br dr R bw dw Q bf df F) => cSafe_any (nm := ⟨#[99]⟩) kc wt M W t h (by omega)
  rw [rchk_eq] at e2
  have hfacts := chk_safe (kd := kc) (wt := wt) (M := M) (R := R) (Q := Q) (F := F) (l := ll)
  generalize chkS kc wt M R Q F ll = q at *
  generalize safe27 kc wt M R Q F = sf at *
  have E1 := Lib.hid e1; have E2 := Lib.hid e2; have E3 := Lib.hid e3; have HFA := Lib.hid hfacts
  clear e1 e2 e3 hfacts hal hbig hbl
  go_enter Tryz.func7, Tryz.ntmps7
  go_wp2_with fail
  rw [← HW1.out]
  refine (awake27_any _ hT).mono ?_
  rintro e W1 ⟨rfl, K⟩
  replace hT := hT.keep K
  replace hk := hk.keep K
  replace hl := hl.keep K
  replace KK := KK.trans K
  clear K
  obtain ⟨k0, k1, k2, k3, k4, k5⟩ := hk.conj
  go_wp2_with fail
  clear k0 k1 k2 k3 k4 k5
  refine (hmade _ KK).mono ?_
  rintro e W2 ⟨br, dr, bw, dw, bf, df, rfl, hC, K⟩
  replace hT := hT.keep K
  replace hk := hk.keep K
  replace hl := hl.keep K
  replace KK := KK.trans K
  clear K
  go_wp2_with fail
  have hb := BoxC.new W2 31 ⟨#[99]⟩ kc M br R.length dr bw Q.length dw bf F.length df
  have K := (Keeps.refl W2).alloc (.cells #[.string ⟨#[99]⟩, .int .i64 kc, .int .u16 (sv M), .slice br R.length dr, .slice bw Q.length dw, .slice bf F.length df] 31)
  replace hT := hT.keep K
  replace hk := hk.keep K
  replace hl := hl.keep K
  replace hC := hC.keep K
  replace KK := KK.trans K
  clear K
  obtain ⟨c0, c1, c2, c3, c4, c5⟩ := hb.conj
  go_wp2_with fail
  obtain ⟨V, hV⟩ : ∃ V, V = W2.alloc (.cells #[.string ⟨#[99]⟩, .int .i64 kc, .int .u16 (sv M), .slice br R.length dr, .slice bw Q.length dw, .slice bf F.length df] 31) := ⟨_, rfl⟩
  rw [← hV] at hT hk hC hb hl KK c0 c1 c2 c3 c4 c5 ⊢
  clear hV
  clear c0 c1 c2 c3 c4 c5
  have J := Keeps.refl V
  have HFB := Lib.hid (fun (W : World) (k : Keeps V W) => (hb.keep k).conj)
  have HCC := Lib.hid hC; have HTT := Lib.hid hT; have HLL := Lib.hid hl
  refine wp_region_held_drew (S := (fun w' => w'.cell? ⟨W2.heap.size, 0, none⟩ = some (.string ⟨#[99]⟩) ∧ w'.cell? ⟨W2.heap.size, 1, none⟩ = some (.int .i64 kc) ∧ w'.cell? ⟨W2.heap.size, 2, none⟩ = some (.int .u16 (sv M)) ∧ w'.cell? ⟨W2.heap.size, 3, none⟩ = some (.slice br R.length dr) ∧ w'.cell? ⟨W2.heap.size, 4, none⟩ = some (.slice bw Q.length dw) ∧ w'.cell? ⟨W2.heap.size, 5, none⟩ = some (.slice bf F.length df))) (by kernel_rfl) ?_ (fun hHeld => ?_)
  · exact HFB.out _ J.drew
  refine wpAnyH_take (i := 0) (oi := ⟨_, _, _, _, _, _⟩) (v := ?_) rfl (by kernel_rfl) (by kernel_rfl) (by kernel_rfl) (fun _ _ _ h => h) (Or.inl ⟨by rfl, ?_⟩) (by assumption) ?_
  rotate_left 1
  · intro w hSw; (try dsimp only at hSw); go_simp <;> with_reducible rfl
  (try simp only [Act.put]); (try simp only [List.setIfInBounds_toArray]); (try simp only [List.set_cons_succ]); (try simp only [List.set_cons_zero])
  refine wpAnyH_take (i := 1) (oi := ⟨_, _, _, _, _, _⟩) (v := ?_) rfl (by kernel_rfl) (by kernel_rfl) (by kernel_rfl) (fun _ _ _ h => h) (Or.inl ⟨by rfl, ?_⟩) (by assumption) ?_
  rotate_left 1
  · intro w hSw; (try dsimp only at hSw); go_simp <;> with_reducible rfl
  (try simp only [Act.put]); (try simp only [List.setIfInBounds_toArray]); (try simp only [List.set_cons_succ]); (try simp only [List.set_cons_zero])
  refine wpAnyH_take (i := 2) (oi := ⟨_, _, _, _, _, _⟩) (v := ?_) rfl (by kernel_rfl) (by kernel_rfl) (by kernel_rfl) (fun _ _ _ h => h) (Or.inl ⟨by rfl, ?_⟩) (by assumption) ?_
  rotate_left 1
  · intro w hSw; (try dsimp only at hSw); go_simp <;> with_reducible rfl
  (try simp only [Act.put]); (try simp only [List.setIfInBounds_toArray]); (try simp only [List.set_cons_succ]); (try simp only [List.set_cons_zero])
  refine wpAnyH_ready (rs := [3]) (by kernel_rfl) (by simp) ?_
  refine AllReadyH.cons (o := ⟨_, _, _, _, _, _⟩) rfl (fun K hK => ?_) AllReadyH.nil
  go_simp
  refine (cloneI_any _ _ ll _ (HLL.out.keep J.drew) (by omega)).mono ?_; rintro e W5 ⟨v5, rfl, hO5⟩; obtain ⟨a5, d5, rfl, hR5⟩ := hO5.rd; replace J := Keeps.trans J.drew hO5.2
  try go_wp2_with fail
  refine hK.out _ _ ?_ (fun hHeld => ?_)
  · exact HFB.out _ J
  clear hK K
  (try simp only [Act.put]); (try simp only [List.setIfInBounds_toArray]); (try simp only [List.set_cons_succ]); (try simp only [List.set_cons_zero])
  refine wpAnyH_ready (rs := [4]) (by kernel_rfl) (by simp) ?_
  refine AllReadyH.cons (o := ⟨_, _, _, _, _, _⟩) rfl (fun K hK => ?_) AllReadyH.nil
  go_simp
  refine (E1.out _ _ _ _ _ _ _ _ _ (HTT.out.keep J) (HCC.out.keep J) hR5).mono ?_; rintro e W6 ⟨rfl, K6⟩; replace J := Keeps.trans J K6
  try go_wp2_with fail
  refine hK.out _ _ ?_ (fun hHeld => ?_)
  · exact HFB.out _ J
  clear hK K
  (try simp only [Act.put]); (try simp only [List.setIfInBounds_toArray]); (try simp only [List.set_cons_succ]); (try simp only [List.set_cons_zero])
  refine wpAnyH_take (i := 5) (oi := ⟨_, _, _, _, _, _⟩) (v := ?_) rfl (by kernel_rfl) (by kernel_rfl) (by kernel_rfl) (fun _ _ _ h => h) (Or.inl ⟨by rfl, ?_⟩) (by assumption) ?_
  rotate_left 1
  · intro w hSw; (try dsimp only at hSw); go_simp <;> with_reducible rfl
  (try simp only [Act.put]); (try simp only [List.setIfInBounds_toArray]); (try simp only [List.set_cons_succ]); (try simp only [List.set_cons_zero])
  refine wpAnyH_done (by kernel_rfl) ?_ _
  clear hR5 hO5 HFB HCC HTT HLL
  replace hT := hT.keep J
  replace hk := hk.keep J
  replace hl := hl.keep J
  replace hC := hC.keep J
  replace hb := hb.keep J
  replace KK := KK.trans J
  clear J
  have hcs : q = false ∨ (q = true ∧ sf = true) := by
    cases q
    · exact .inl rfl
    · exact .inr ⟨rfl, HFA.out rfl⟩
  clear HFA
  rcases hcs with rfl | ⟨rfl, rfl⟩
  · skip
    obtain ⟨c0, c1, c2, c3, c4, c5⟩ := hb.conj
    go_wp2_with fail
    clear c0 c1 c2 c3 c4 c5
    refine (E2.out _ _ _ _ _ _ _ _ _ hT hC hl).mono ?_
    rintro e W8 ⟨rfl, K⟩
    replace hT := hT.keep K
    replace hk := hk.keep K
    replace hl := hl.keep K
    replace hC := hC.keep K
    replace hb := hb.keep K
    replace KK := KK.trans K
    clear K
    go_wp2_with fail
    go_ret
    exact ⟨rfl, KK⟩
  · skip
    obtain ⟨c0, c1, c2, c3, c4, c5⟩ := hb.conj
    go_wp2_with fail
    clear c0 c1 c2 c3 c4 c5
    refine (E2.out _ _ _ _ _ _ _ _ _ hT hC hl).mono ?_
    rintro e W8 ⟨rfl, K⟩
    replace hT := hT.keep K
    replace hk := hk.keep K
    replace hl := hl.keep K
    replace hC := hC.keep K
    replace hb := hb.keep K
    replace KK := KK.trans K
    clear K
    obtain ⟨c0, c1, c2, c3, c4, c5⟩ := hb.conj
    go_wp2_with fail
    clear c0 c1 c2 c3 c4 c5
    refine (E3.out _ _ _ _ _ _ _ hT hC).mono ?_
    rintro e W9 ⟨rfl, K⟩
    replace hT := hT.keep K
    replace hk := hk.keep K
    replace hl := hl.keep K
    replace hC := hC.keep K
    replace hb := hb.keep K
    replace KK := KK.trans K
    clear K
    go_wp2_with fail
    go_ret
    exact ⟨rfl, KK⟩
end Go.Proofs.YtcnccoinhohbeaaGreatDoor
