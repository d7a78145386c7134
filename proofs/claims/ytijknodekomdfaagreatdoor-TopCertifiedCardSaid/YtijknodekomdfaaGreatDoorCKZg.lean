/- Texts joined into one, what is needed of them (a program of ours). -/
import Derived.Test.YtijknodekomdfaaGreatDoorCKM
namespace Go.Proofs.YtijknodekomdfaaGreatDoor
open Go.RowKit Go.Lib Go.Shelf

def RetCfgN (nm : ByteArray) (w : World) (kd : Int) (M : S) (R Q : List S) (F : List F2) (e : Ending) (w' : World) : Prop :=
  ∃ ar cr aw cw af cf, e = .returned (.agg #[.string nm, .int .i64 kd, .int .u16 (sv M), .slice ar R.length cr, .slice aw Q.length cw, .slice af F.length cf]) ∧ RowC w' ar cr R aw cw Q af cf F ∧ Keeps w w'
set_option maxRecDepth 20000 in
set_option maxHeartbeats 3000000 in
theorem of27n_any (nm : ByteArray) (kd N md : Int) {ar : Option Addr} {cr : Nat} (lr : List S) {aw : Option Addr} {cw : Nat} (lw : List S) {af : Option Addr} {cf : Nat} (lf : List F2) (w : World) (hr : Rd w ar lr.length cr 1 (sl lr)) (hq : Rd w aw lw.length cw 1 (sl lw)) (hf : Rd w af lf.length cf 2 (fl lf))
    (hk0 : 0 ≤ kd) (_hk1 : kd ≤ 255) (hN0 : 0 ≤ N) (hN1 : N ≤ 255) (hm0 : 0 ≤ md) (hm1 : md ≤ 255) :
    Calls Tryz.prog 19 #[.agg #[.int .u8 kd, .int .u8 N, .int .u8 md, .slice ar lr.length cr, .slice aw lw.length cw, .slice af lf.length cf], .string nm] w fun e w' => RetCfgN nm w (kdOf kd) (fullS (nOf N)) (setsR md lr (nOf N)) (setsR md lw (nOf N)) (madeF (nOf N) lf) e w' := by
  have K0 := (Keeps.refl w).alloc (.cells #[.int .u8 kd, .int .u8 N, .int .u8 md, .slice ar lr.length cr, .slice aw lw.length cw, .slice af lf.length cf] 48)
  have hb := BoxD.new w 48 kd N md ar lr.length cr aw lw.length cw af lf.length cf
  obtain ⟨W1, hW1⟩ : ∃ W0, W0 = w.alloc (.cells #[.int .u8 kd, .int .u8 N, .int .u8 md, .slice ar lr.length cr, .slice aw lw.length cw, .slice af lf.length cf] 48) := ⟨_, rfl⟩
  have hsz : W1.heap.size = w.heap.size + 1 := by rw [hW1, World.size_alloc]
  rw [← hW1] at hb K0
  have k2 := (Keeps.refl W1).alloc (.cells #[.string ⟨#[]⟩, .int .i64 0, .int .u16 0, .slice none 0 0, .slice none 0 0, .slice none 0 0] 36)
  obtain ⟨W2, hW2⟩ : ∃ W2, W2 = W1.alloc (.cells #[.string ⟨#[]⟩, .int .i64 0, .int .u16 0, .slice none 0 0, .slice none 0 0, .slice none 0 0] 36) := ⟨_, rfl⟩
  rw [← hW2] at k2
  replace hb := hb.keep k2
  replace K0 := K0.trans k2
  have hres : Blk W2 (w.heap.size + 1) 36 #[.string ⟨#[]⟩, .int .i64 0, .int .u16 0, .slice none 0 0, .slice none 0 0, .slice none 0 0] := by
    rw [hW2, ← hsz]; exact Blk.new _ _ _
  have HRES := Lib.hid hres
  have hw2 := hres.lt
  clear hres
  have hn1 : N % 5 = ((N % 5).toNat : Int) := by omega
  have hn2 : (N % 5).toNat < 5 := by omega
  obtain ⟨z, hz⟩ : ∃ z : Nat, kd % 2 = (z : Int) := ⟨(kd % 2).toNat, by omega⟩
  have hzt : kd.tmod 2 = (z : Int) := by rw [Int.tmod_eq_emod_of_nonneg hk0, hz]
  have hz2 : z < 2 := by omega
  have hno : nOf N = 1 + (N % 5).toNat := rfl
  rw [hno]
  generalize (N % 5).toNat = q at *
  have h1 := fun (a : Option Addr) (c : Nat) (l : List S) (W : World) (h : Rd W a l.length c 1 (sl l)) => sets_any kd N md (.slice ar lr.length cr) (.slice aw lw.length cw) (.slice af lf.length cf) a c l (1 + q) W h (by omega) (by omega) hm0 hm1
  have h3 := fun W (k : Keeps w W) => made19_any (1 + q) af cf lf W (hf.keep k) (by omega) (by omega)
  rw [show ((1 + q : Nat) : Int) = 1 + (q : Int) by omega] at h1 h3
  obtain ⟨g, hg⟩ : ∃ g : List S → List S, g = fun l => setsR md l (1 + q) := ⟨_, rfl⟩
  replace h1 : ∀ (a : Option Addr) (c : Nat) (l : List S) (W : World), Rd W a l.length c 1 (sl l) → Calls Tryz.prog 63 #[.agg #[.int .u8 kd, .int .u8 N, .int .u8 md, .slice ar lr.length cr, .slice aw lw.length cw, .slice af lf.length cf], .slice a l.length c, .int .i64 (1 + (q : Int))] W fun e w' => ∃ v, e = .returned v ∧ Own 31 1 W w' v (g l).length (sl (g l)) := by
    subst hg; exact h1
  rw [show setsR md lr (1 + q) = g lr by rw [hg], show setsR md lw (1 + q) = g lw by rw [hg]]
  clear hg
  generalize madeF (1 + q) lf = F at *
  have H1 := Lib.hid h1; have H3 := Lib.hid h3; have HB := Lib.hid hb
  replace hr := hr.keep K0; replace hq := hq.keep K0
  have HR := Lib.hid (fun (W : World) (K : Keeps W2 W) => hr.keep K)
  have HQ := Lib.hid (fun (W : World) (K : Keeps W2 W) => hq.keep K)
  clear h1 h3 hno hr hq hf hb
  go_enter Tryz.func19, Tryz.ntmps19
  have hcc := HB.out.conj
  obtain ⟨c0, c1, c2, c3, c4, c5⟩ := hcc
  go_wp2_with fail
  rw [← hW1, ← hW2]
  have J0 := Keeps.refl W2
  clear c0 c1 c2 c3 c4 c5 hsz k2 hW1 hW2
  go_region_held3 (fun w' => w'.cell? ⟨w.heap.size, 0, none⟩ = some (.int .u8 kd) ∧ w'.cell? ⟨w.heap.size, 1, none⟩ = some (.int .u8 N) ∧ w'.cell? ⟨w.heap.size, 2, none⟩ = some (.int .u8 md) ∧ w'.cell? ⟨w.heap.size, 3, none⟩ = some (.slice ar lr.length cr) ∧ w'.cell? ⟨w.heap.size, 4, none⟩ = some (.slice aw lw.length cw) ∧ w'.cell? ⟨w.heap.size, 5, none⟩ = some (.slice af lf.length cf)) (first | with_reducible exact (HB.out.keep (J0.drew)).conj | with_reducible exact (HB.out.keep (J0.alloc _).drew).conj | with_reducible exact (HB.out.keep (k9.alloc _)).conj | with_reducible exact hF | with_reducible exact (HB.out.keep (keeps_set6 k9 hNB _ _ _ _ _ _)).conj | go_keep) ((go_at_call 63; refine (H1.out _ _ _ _ (by first | with_reducible exact HR.out _ J0.drew | with_reducible exact HQ.out _ J0.drew | with_reducible exact HR.out _ ((J0.alloc _).drew) | with_reducible exact HQ.out _ ((J0.alloc _).drew) | with_reducible exact HR.out _ k9 | with_reducible exact HQ.out _ k9 | with_reducible exact HR.out _ (k9.alloc _) | with_reducible exact HQ.out _ (k9.alloc _))).mono ?_; rintro e W9 ⟨v9, rfl, hO⟩; obtain ⟨a9, c9, rfl, hR⟩ := hO.rd; (try (replace hr1 := hr1.keep (Keeps.trans (by first | with_reducible exact Keeps.refl _ | with_reducible exact (Keeps.refl _).alloc _ | with_reducible exact ((Keeps.refl _).alloc _).drew) hO.2))); (try (replace hq1 := hq1.keep (Keeps.trans (by first | with_reducible exact Keeps.refl _ | with_reducible exact (Keeps.refl _).alloc _ | with_reducible exact ((Keeps.refl _).alloc _).drew) hO.2))); (first | have hr1 : Row0 31 1 W9 (.slice a9 (g lr).length c9) (g lr).length (sl (g lr)) := hO.row0 | have hq1 : Row0 31 1 W9 (.slice a9 (g lw).length c9) (g lw).length (sl (g lw)) := hO.row0); replace k9 : Keeps W2 W9 := Keeps.trans (by first | with_reducible exact J0.drew | with_reducible exact (J0.alloc _).drew | with_reducible exact k9 | with_reducible exact k9.alloc _) hO.2; have hF := (HB.out.keep k9).conj; (first | ((first | have hN := Blk.ofd hO.2 | have hN := Blk.of hO.2); have hNB := Keeps.size (by first | with_reducible exact k8 | with_reducible exact J0)) | (replace hN := Blk.keep hN hO.2) | skip); (try (obtain ⟨n0, n1, n2, n3, n4, n5⟩ := hN.c6; obtain ⟨g0, g1, g2, g3, g4, g5⟩ := hN.f6)); have k8 := k9; dsimp only))
  all_goals
    clear hF
    first
    | obtain ⟨Wf, hWf, hA⟩ := pack (Aft.ofSet hN hr1 hq1 k9 hNB (.string nm) (.int .i64 (IntKind.i64.wrap (1 + IntKind.i64.wrap (z : Int)))) (.int .u16 (sv (1#16 <<< (1 + (q : Int)).toNat - 1#16))))
      rw [hWf]
      clear hWf hN hNB n0 n1 n2 n3 n4 n5 g0 g1 g2 g3 g4 g5
    | obtain ⟨Wf, hWf, hA⟩ := pack (Aft.ofNew hr1 hq1 k9 (.string nm) (.int .i64 (IntKind.i64.wrap (1 + IntKind.i64.wrap (z : Int)))) (.int .u16 (sv (1#16 <<< (1 + (q : Int)).toNat - 1#16))))
      rw [hWf]
      clear hWf
  all_goals
    clear hO hR hr1 hq1 k9 k8
    have hu1 : IntKind.i64.wrap (1 + IntKind.i64.wrap (z : Int)) = 1 + (z : Int) := by rw [wrapi_in (z : Int) (by omega) (by omega), wrapi_in (1 + (z : Int)) (by omega) (by omega)]
    have hu2 : sv (1#16 <<< (1 + (q : Int)).toNat - 1#16) = sv (fullS (1 + q)) := by
      rw [show (1 + (q : Int)).toNat = 1 + q by omega]; rfl
    rw [hu1, hu2] at hA
    have hne : _ ≠ w.heap.size + 1 := Nat.ne_of_gt (Nat.lt_of_lt_of_le hw2 hA.hB)
    have HA := Lib.hid hA
    have kA := K0.trans hA.k
    obtain ⟨d0, d1, d2, d3, d4, d5⟩ := (HB.out.keep hA.k).conj
    have hcall := H3.out _ kA
    have HC := Lib.hid hcall; have HNE := Lib.hid hne
    clear hA hu1 hu2 hcall hne d0 d1 d2 d3 d4
    go_wp2_with fail
    refine HC.out.mono ?_
    rintro e W10 ⟨v10, rfl, hO3⟩
    obtain ⟨a3, c3, rfl, hR3⟩ := hO3.rd
    have m10 := HA.out.blk.keep hO3.2
    have s10 := HRES.out.keep (HA.out.k.trans hO3.2)
    have k10 := kA.trans hO3.2
    obtain ⟨n0, n1, n2, n3, n4, n5⟩ := m10.c6
    obtain ⟨g0, g1, g2, g3, g4, g5⟩ := m10.f6
    obtain ⟨p0, p1, p2, p3, p4, p5⟩ := s10.c6
    obtain ⟨q0, q1, q2, q3, q4, q5⟩ := s10.f6
    have hne := HNE.out
    go_wp2_with fail
    clear n0 n1 n2 n3 n4 n5 g0 g1 g2 g3 g4 g5 p0 p1 p2 p3 p4 p5 q0 q1 q2 q3 q4 q5
    have hb1 := (m10.set 5 (.slice a3 F.length c3))
    have hs1 := s10.setOther (Ne.symm hne) 5 (.slice a3 F.length c3)
    have x1 := ((HA.out.r1.keep hO3.2).set m10 (by decide) 5 (.slice a3 F.length c3)).set6 hs1 (by decide)
    have x2 := ((HA.out.r2.keep hO3.2).set m10 (by decide) 5 (.slice a3 F.length c3)).set6 hs1 (by decide)
    have x3 := (hO3.row0.set m10 (by decide) 5 (.slice a3 F.length c3)).set6 hs1 (by decide)
    have hkd : kdOf kd = 1 + (z : Int) := by unfold kdOf; rw [hz]
    rw [hkd]
    have hsz2 : w.heap.size ≤ w.heap.size + 1 := Nat.le_succ _
    refine bodyPost_ret (results_cell_row rfl _ _ _ _ _ _ _ rfl (hs1.set6 _ _ _ _ _ _) rfl rfl rfl) rfl ?_
    exact ⟨_, _, _, _, _, _, rfl, ⟨x1 _ _ _ _ _ _, x2 _ _ _ _ _ _, x3 _ _ _ _ _ _⟩, keeps_set6 (keeps_set k10 (Nat.le_trans K0.size HA.out.hB) _ _) hsz2 _ _ _ _ _ _⟩
end Go.Proofs.YtijknodekomdfaaGreatDoor
