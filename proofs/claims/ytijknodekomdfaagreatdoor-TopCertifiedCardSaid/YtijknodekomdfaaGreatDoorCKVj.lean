/- Texts joined into one, what is needed of them (a program of ours). -/
import Derived.Test.YtijknodekomdfaaGreatDoorCKVb
import Derived.Test.YtijknodekomdfaaGreatDoorCKTe
import Derived.Test.YtijknodekomdfaaGreatDoorCKVi
import Derived.Test.YtijknodekomdfaaGreatDoorCKVh
import Derived.Test.YtijknodekomdfaaGreatDoorCKVc
namespace Go.Proofs.YtijknodekomdfaaGreatDoor
open Go.RowKit Go.Lib Go.Shelf

theorem cnt_small {byz R Q : List S} (hR : R.length ≤ 32) (hQ : Q.length ≤ 32) (hb : byz.length ≤ 8) : ¬ 20000 < cntR byz R Q := by
  unfold cntR
  have h1 : R.length * Q.length * byz.length ≤ 32 * 32 * 8 := Nat.mul_le_mul (Nat.mul_le_mul hR hQ) hb
  have h0 : Q.length * (Q.length + 1) ≤ 32 * 33 := Nat.mul_le_mul hQ (by omega)
  have hbad : (if at_ byz 0 = 0#16 then 0 else byz.length) ≤ 8 := by split <;> omega
  have h2 : Q.length * (Q.length + 1) / 2 * (if at_ byz 0 = 0#16 then 0 else byz.length) ≤ 528 * 8 := Nat.mul_le_mul (by omega) hbad
  omega
theorem al_small {wt : S} {byz R Q : List S} (hR : R.length ≤ 32) (hQ : Q.length ≤ 32) (hb : byz.length ≤ 8) : (allL wt byz R Q).length ≤ 9000000 := by
  unfold allL
  rw [List.length_append]
  have h1 := flatMap_le R (fun r => Q.flatMap (al1 wt byz r)) (32 * 8) (fun r _ => Nat.le_trans (flatMap_le Q (al1 wt byz r) 8 (fun q _ => by unfold al1; rw [List.length_map]; exact hb)) (Nat.mul_le_mul hQ (Nat.le_refl _)))
  have h2 := flatMap_le Q (fun p => Q.flatMap (al2 byz p)) (32 * 8) (fun r _ => Nat.le_trans (flatMap_le Q (al2 byz r) 8 (fun q _ => by unfold al2; rw [List.length_map]; exact Nat.le_trans (List.length_filter_le _ _) hb)) (Nat.mul_le_mul hQ (Nat.le_refl _)))
  have h3 : R.length * (32 * 8) ≤ 32 * (32 * 8) := Nat.mul_le_mul hR (Nat.le_refl _)
  have h4 : Q.length * (32 * 8) ≤ 32 * (32 * 8) := Nat.mul_le_mul hQ (Nat.le_refl _)
  omega

/-- what the law meets -/
structure CertOk (kc : Int) (wt M : S) (R Q : List S) (F : List F2) : Prop where
  kd : kc = 1 ∨ kc = 2
  vR : validS R = 0
  vQ : validS Q = 0
  sR : Sm R
  sQ : Sm Q
  lR : R.length ≤ 32
  lQ : Q.length ≤ 32
  lF : F.length ≤ 7
  lB : (byz27 kc M F).length ≤ 8
  al : (allL wt (byz27 kc M F) R Q).length ≤ 9000000
  saf : safe27 kc wt M R Q F = (byz27 kc M F).all (agrB wt M R Q)
  pro : (proS kc wt M R Q F).2 = if safe27 kc wt M R Q F = true then 0 else 12
  chk : safe27 kc wt M R Q F = true → chkS kc wt M R Q F (proS kc wt M R Q F).1 = true
  cla : (clash27 kc wt M R Q F).2 = if safe27 kc wt M R Q F = true then 13 else 0
  isc : safe27 kc wt M R Q F = false → iscS kc wt M R Q F (clash27 kc wt M R Q F).1 = true
theorem sm_of {R : List S} {M : S} (h : cfS R M = 0) (hl : R.length ≤ 32) : validS R = 0 ∧ Sm R := by
  have h1 := (cf_parts h).1
  exact ⟨h1, ((valid_iff R).1 h1).low, by omega⟩
theorem certOk (kd N md : Int) (lr lw : List S) (lf : List F2) (wt : S) : CertOk (kdOf kd) wt (fullS (nOf N)) (setsR md lr (nOf N)) (setsR md lw (nOf N)) (madeF (nOf N) lf) := by
  have hRl := setsR_len md lr (nOf N) (nOf_le N)
  have hQl := setsR_len md lw (nOf N) (nOf_le N)
  have hFl := madeF_le (nOf N) lf
  have hcv := of_cv kd N md lr lw lf
  have hp := cv_parts hcv
  generalize kdOf kd = kc at *
  generalize fullS (nOf N) = M at *
  generalize setsR md lr (nOf N) = R at *
  generalize setsR md lw (nOf N) = Q at *
  generalize madeF (nOf N) lf = F at *
  have hbl := byz27_le kc M F
  have hcn := cnt_small (byz := byz27 kc M F) hRl hQl (by omega)
  have hal := al_small (wt := wt) (byz := byz27 kc M F) hRl hQl (by omega)
  obtain ⟨hf1, hf2⟩ := pro_facts (kd := kc) (wt := wt) (M := M) (R := R) (Q := Q) (F := F) _ rfl hcn
  have hps := proS_small (kd := kc) (wt := wt) (M := M) (R := R) (Q := Q) (F := F) hcv _ rfl _ rfl hcn
  have h12 : (proS kc wt M R Q F).2 = 0 ∨ (proS kc wt M R Q F).2 = 12 := by
    rw [hps]
    split
    · exact .inr rfl
    · exact .inl rfl
  have hc : (clash27 kc wt M R Q F).2 = 0 ∨ (clash27 kc wt M R Q F).2 = 13 := by
    unfold clash27
    rw [if_neg (by simp [hcv])]
    cases firstR wt (byz27 kc M F) R Q with
    | none => exact .inr rfl
    | some x => exact .inl rfl
  have hs : safe27 kc wt M R Q F = ((clash27 kc wt M R Q F).2 == 13) := rfl
  refine ⟨hp.1, (sm_of hp.2.2.1 hRl).1, (sm_of hp.2.2.2.1 hQl).1, (sm_of hp.2.2.1 hRl).2, (sm_of hp.2.2.2.1 hQl).2, hRl, hQl, by omega, by omega, hal, safe_agr hcv, ?_, fun h => hf2 ?_, ?_, fun h => ?_⟩
  · rw [← hf1]
    rcases h12 with h | h <;> rw [h] <;> decide
  · rw [← hf1] at h
    simpa using h
  · rw [hs]
    rcases hc with h | h <;> rw [h] <;> decide
  · rw [isc_clash]
    rw [hs] at h
    rcases hc with h2 | h2
    · rw [h2]; rfl
    · rw [h2] at h; cases h
end Go.Proofs.YtijknodekomdfaaGreatDoor
namespace Go.Proofs.YtijknodekomdfaaGreatDoor
open Go.RowKit Go.Lib Go.Shelf

set_option maxRecDepth 20000 in
set_option maxHeartbeats 4000000 in
theorem agrees_any (a1 : Option Addr) (n1 c1 : Nat) (f : List S) (a2 : Option Addr) (n2 c2 : Nat) (g : List S) (b : S) (w : World) (hT : Tab w) (h1 : Rd w a1 n1 c1 1 (sl f)) (h2 : Rd w a2 n2 c2 1 (sl g)) (v1 : validS f = 0) (v2 : validS g = 0) (s1 : Sm f) (s2 : Sm g) :
    Calls Tryz.prog 24 #[.slice a1 n1 c1, .slice a2 n2 c2, .int .u16 (sv b)] w fun e w' => e = .returned (.tuple #[.bool (famB f g b), .bool true]) ∧ Keeps w w' := by
  have o1 := of20_any a1 n1 c1 f w hT h1 v1 s1
  have o2 := fun W (k : Keeps w W) => of20_any a2 n2 c2 g W (hT.keep k) (h2.keep k) v2 s2
  have o3 := fun W (k : Keeps w W) u v (hx : HasX W (ofX f) u) (hy : HasX W (ofX g) v) => prove_any b W (hT.keep k) hx hy s1.vx s2.vx (lft_small s1 s2 b)
  have o4 := fun W (k : Keeps w W) => families_any a1 n1 c1 f a2 n2 c2 g b W (h1.keep k) (h2.keep k)
  have o5 := fun W u v a c (hx : HasX W (ofX f) u) (hy : HasX W (ofX g) v) (hr : Rd W a (prvT f g b).1.length c 3 (chl (prvT f g b).1)) (hq : (prvT f g b).2.2 = true) => check20_any b a c (prvT f g b).1 (prvT f g b).2.1 W hx hy s1.vx s2.vx hr (prv_good s1 s2 hq).1 (prv_good s1 s2 hq).2
  have hpf := prv_fam s1 s2 b
  replace o3 : ∀ W (_ : Keeps w W) u v (_ : HasX W (ofX f) u) (_ : HasX W (ofX g) v), Calls Tryz.prog 73 #[u, v, .int .u16 (sv b)] W fun e w' => RetTr W (prvT f g b) e w' := o3
  generalize prvT f g b = r at *
  generalize ofX f = x at *
  generalize ofX g = y at *
  obtain ⟨r1, r2, r3⟩ := r
  dsimp only at o5 hpf
  rw [← hpf] at o4
  rw [← hpf]
  clear hpf
  have O1 := Lib.hid o1; have O2 := Lib.hid o2; have O3 := Lib.hid o3; have O4 := Lib.hid o4; have O5 := Lib.hid o5
  clear o1 o2 o3 o4 o5 hT h1 h2 v1 v2 s1 s2
  go_enter Tryz.func24, Tryz.ntmps24
  go_wp2_with fail
  refine O1.out.mono ?_
  rintro e w1 ⟨u, rfl, hx, k1⟩
  obtain ⟨ax, cx, nes, rfl, _, _, _⟩ := id hx
  generalize nes.length = nx at *
  generalize ((x.2 : Nat) : Int) = rx at *
  have kA := (Keeps.refl w1).alloc (.cells #[.slice ax nx cx, .int .i64 rx] 121)
  have bA := Blk.new w1 121 #[.slice ax nx cx, .int .i64 rx]
  have HX := Lib.hid (hx.keep kA); have BA := Lib.hid bA; have KA := Lib.hid (k1.trans kA)
  clear hx k1 kA bA O1
  go_wp2_with fail
  generalize w1.alloc (.cells #[.slice ax nx cx, .int .i64 rx] 121) = W1 at *
  generalize w1.heap.size = B1 at *
  refine (O2.out W1 KA.out).mono ?_
  rintro e w2 ⟨v, rfl, hy, k2⟩
  obtain ⟨ay, cy, mes, rfl, _, _, _⟩ := id hy
  generalize mes.length = ny at *
  generalize ((y.2 : Nat) : Int) = ry at *
  have kB := (Keeps.refl w2).alloc (.cells #[.slice ay ny cy, .int .i64 ry] 121)
  have bB := Blk.new w2 121 #[.slice ay ny cy, .int .i64 ry]
  have HX2 := Lib.hid (HX.out.keep (k2.trans kB)); have HY := Lib.hid (hy.keep kB); have BA2 := Lib.hid (BA.out.keep (k2.trans kB)); have BB := Lib.hid bB; have KB := Lib.hid ((KA.out.trans k2).trans kB)
  obtain ⟨c0, c1'⟩ := BA2.out.x2
  obtain ⟨c2', c3⟩ := BB.out.x2
  clear hy k2 kB bB O2 HX BA KA
  go_wp2_with fail
  generalize w2.alloc (.cells #[.slice ay ny cy, .int .i64 ry] 121) = W2 at *
  generalize w2.heap.size = B2 at *
  refine (O3.out W2 KB.out _ _ HX2.out HY.out).mono ?_
  rintro e w3 ⟨k3, at3, nt, ct, qt, rfl, ht⟩
  have kC := (Keeps.refl w3).alloc (.cells #[.slice at3 nt ct, .int .i64 qt] 126)
  have bC := Blk.new w3 126 #[.slice at3 nt ct, .int .i64 qt]
  have BC := Lib.hid bC
  have KC := Lib.hid (k3.trans kC)
  have HTR : Hid (r3 = true → nt = r1.length ∧ qt = r2 ∧ Rd (w3.alloc (.cells #[.slice at3 nt ct, .int .i64 qt] 126)) at3 r1.length ct 3 (chl r1)) := Lib.hid fun hr => ⟨(ht hr).1, (ht hr).2.1, (ht hr).2.2.keep kC⟩
  clear k3 kC bC ht O3 c0 c1' c2' c3
  cases r3 with
  | false =>
    go_wp2_with fail
    refine (O4.out _ (KB.out.trans KC.out)).mono ?_
    rintro e w4 ⟨rfl, k4⟩
    go_wp2_with fail
    go_ret2
    exact ⟨rfl, (KB.out.trans KC.out).trans k4⟩
  | true =>
    obtain ⟨rfl, rfl, hrd⟩ := HTR.out rfl
    have HRD := Lib.hid hrd
    clear hrd HTR
    go_wp2_with fail
    generalize w3.alloc (.cells #[.slice at3 r1.length ct, .int .i64 qt] 126) = W3 at *
    generalize w3.heap.size = B3 at *
    refine (O4.out _ (KB.out.trans KC.out)).mono ?_
    rintro e w4 ⟨rfl, k4⟩
    obtain ⟨c0, c1'⟩ := (BA2.out.keep (KC.out.trans k4)).x2
    obtain ⟨c2', c3⟩ := (BB.out.keep (KC.out.trans k4)).x2
    obtain ⟨c4, c5⟩ := (BC.out.keep k4).x2
    have K4 := Lib.hid k4
    clear k4
    go_wp2_with fail
    refine (O5.out w4 _ _ at3 ct (HX2.out.keep (KC.out.trans K4.out)) (HY.out.keep (KC.out.trans K4.out)) (HRD.out.keep K4.out) (by trivial)).mono ?_
    rintro e w5 ⟨rfl, k5⟩
    go_wp2_with fail
    go_ret2
    exact ⟨rfl, ((KB.out.trans KC.out).trans K4.out).trans k5⟩
end Go.Proofs.YtijknodekomdfaaGreatDoor
