/- Texts joined into one (wip/bin/pack.py): R28d. -/
import Derived.Lib.QuietBelow
import Derived.Test.YtkoohobpbopnnaaGreatDoorKK
import Derived.Test.YtkoohobpbopnnaaGreatDoorKF
/- The reference's Tolerates, Stronger, Covers, inside, checked, Minimal, Maximal. -/
namespace Go.Proofs.YtkoohobpbopnnaaGreatDoor
open Go.RowKit Go.Lib Go.Shelf

set_option maxRecDepth 20000 in
set_option maxHeartbeats 1600000 in
theorem rTol_any (p : Option Addr) (n c : Nat) (m : List F2) (a : F2) (w : World) (h : Rd w p n c 2 (fl m)) :
    Calls Tryz.prog 62 #[.slice p n c, .agg #[.int .u16 (sv a.1), .int .u16 (sv a.2)]] w fun e w' => e = .returned (.bool (tolF m a)) ∧ Keeps w w' := by
  have K0 := (Keeps.refl w).alloc (.cells #[.int .u16 (sv a.1), .int .u16 (sv a.2)] 64)
  have hn := newF a w 64
  obtain ⟨W1, hW1⟩ : ∃ W1, W1 = w.alloc (.cells #[.int .u16 (sv a.1), .int .u16 (sv a.2)] 64) := ⟨_, rfl⟩
  rw [← hW1] at K0 hn
  have L := h.lenF
  subst L
  have hR := h.keep K0
  have sm := h.small
  have hres : tolF m a = m.any fun b => covF b a := rfl
  have HRES := Lib.hid hres
  clear hres
  generalize tolF m a = res at *
  go_enter Tryz.func62, Tryz.ntmps62
  go_wp2_with fail
  rw [← hW1]
  clear hW1
  go_loopw [5] (fun v wr => ∃ i : Nat, i ≤ m.length ∧ v = .int .i64 i ∧ Keeps W1 wr ∧ Hid (res = (m.drop i).any fun b => covF b a)) (fun v _ => m.length - (intOf v).toNat)
  case atStart => exact ⟨0, Nat.zero_le _, rfl, Keeps.refl _, HRES.out⟩
  case round =>
    obtain ⟨i, hi, rfl, K1, HI⟩ := hrel
    by_cases hlt : i < m.length
    · have hRi := hR.keep K1
      have g0 := cell_regrown (hRi.f0 hlt)
      have g1 := cell_regrown (hRi.f1' hlt)
      have g2 := cell_regrown (K1.cell hn.1)
      have g3 := cell_regrown (K1.cell hn.2)
      have hs := hR.isSome (by omega)
      have hst := HI.out
      rw [drop_fa m i hlt, List.any_cons] at hst
      have hcx := covers19_q (fa m i) a wr
      cases hq : covF (fa m i) a
      all_goals
        rw [hq] at hst hcx
        simp only [Bool.false_or, Bool.true_or] at hst
        have HCX := Lib.hid hcx; have HS := Lib.hid hst
        clear hcx hst HI hq
        go_wp2_with fail
        refine wp_region_quiet_below (by kernel_rfl) (by kernel_rfl) ?_
        repeat (first | go_big_quiet_step (exact HCX.out _ _) | quiet_step (exact HCX.out _ _))
        refine wpQuiet_nil ?_
        intro _ hw'
        obtain ⟨⟨dq, osq⟩, hw''⟩ := hw'
        subst hw''
        have KF := K1.trans (grow_keeps dq osq)
        clear g0 g1 g2 g3
        generalize Sort.grow (redrawn wr dq) osq = wz at *
        go_wp2_with fail
      · go_roundw
        case rel => exact ⟨i + 1, by omega, by go_num, KF, HS⟩
        case measure => simp [intOf]; omega
      · go_ret
        rw [HS.out]
        exact ⟨rfl, K0.trans KF⟩
    · have hst := HI.out
      rw [List.drop_eq_nil_of_le (by omega), List.any_nil] at hst
      have HS := Lib.hid hst
      clear hst HI
      go_wp2_with fail
      go_ret
      rw [HS.out]
      exact ⟨rfl, K0.trans K1⟩
set_option maxRecDepth 20000 in
theorem rStr_any (p : Option Addr) (n c : Nat) (m : List F2) (p2 : Option Addr) (n2 c2 : Nat) (m2 : List F2) (w : World) (h : Rd w p n c 2 (fl m)) (h2 : Rd w p2 n2 c2 2 (fl m2)) :
    Calls Tryz.prog 31 #[.slice p n c, .slice p2 n2 c2] w fun e w' => e = .returned (.bool (strS m m2)) ∧ Keeps w w' := by
  have L := h2.lenF
  subst L
  have sm := h2.small
  have hres : strS m m2 = !(m2.any fun f => !tolF m f) := rfl
  have HRES := Lib.hid hres
  clear hres
  generalize strS m m2 = res at *
  have hc := fun W (k : Keeps w W) (a : F2) => rTol_any p n c m a W (h.keep k)
  have HC := Lib.hid hc
  clear hc h
  go_enter Tryz.func31, Tryz.ntmps31
  go_wp2_with fail
  go_loopw [5] (fun v wr => ∃ i : Nat, i ≤ m2.length ∧ v = .int .i64 i ∧ Keeps w wr ∧ Hid (res = !((m2.drop i).any fun f => !tolF m f))) (fun v _ => m2.length - (intOf v).toNat)
  case atStart => exact ⟨0, Nat.zero_le _, rfl, Keeps.refl _, HRES.out⟩
  case round =>
    obtain ⟨i, hi, rfl, K1, HI⟩ := hrel
    by_cases hlt : i < m2.length
    · have hRi := h2.keep K1
      have g0 := hRi.f0 hlt
      have g1 := hRi.f1' hlt
      have hs := h2.isSome (by omega)
      have hst := HI.out
      rw [drop_fa m2 i hlt, List.any_cons] at hst
      have hcx := HC.out wr K1 (fa m2 i)
      cases hq : tolF m (fa m2 i)
      all_goals
        rw [hq] at hst hcx
        simp only [Bool.false_or, Bool.true_or, Bool.not_false, Bool.not_true] at hst
        have HCX := Lib.hid hcx; have HS := Lib.hid hst
        clear hcx hst HI hq
        go_wp2_with fail
        refine HCX.out.mono ?_
        rintro e w3 ⟨rfl, K2⟩
        clear g0 g1
        go_wp2_with fail
      · go_ret
        rw [HS.out]
        exact ⟨rfl, K1.trans K2⟩
      · go_roundw
        case rel => exact ⟨i + 1, by omega, by go_num, K1.trans K2, HS⟩
        case measure => simp [intOf]; omega
    · have hst := HI.out
      rw [List.drop_eq_nil_of_le (by omega), List.any_nil] at hst
      have HS := Lib.hid hst
      clear hst HI
      go_wp2_with fail
      go_ret
      rw [HS.out]
      exact ⟨rfl, K1⟩
theorem rCov_any (p : Option Addr) (n c : Nat) (m : List F2) (s : S) (w : World) (h : Rd w p n c 2 (fl m)) :
    Calls Tryz.prog 33 #[.slice p n c, .int .u16 (sv s)] w fun e w' => e = .returned (.bool (covS m s)) ∧ w = w' := by
  have L := h.lenF
  subst L
  have sm := h.small
  have hres : covS m s = m.any fun f => s &&& ~~~f.1 == 0#16 := rfl
  have HRES := Lib.hid hres
  clear hres
  generalize covS m s = res at *
  go_enter Tryz.func33, Tryz.ntmps33
  go_wp2_with fail
  go_loop [5] (fun v => ∃ i : Nat, i ≤ m.length ∧ v = .int .i64 i ∧ Hid (res = (m.drop i).any fun f => s &&& ~~~f.1 == 0#16)) (fun v => m.length - (intOf v).toNat)
  case atStart => exact ⟨0, Nat.zero_le _, rfl, HRES.out⟩
  case round =>
    obtain ⟨i, hi, rfl, HI⟩ := hrel
    by_cases hlt : i < m.length
    · have g0 := h.f0 hlt
      have hs := h.isSome (by omega)
      have hst := HI.out
      rw [drop_fa m i hlt, List.any_cons] at hst
      cases hq : (s &&& ~~~(fa m i).1 == 0#16)
      all_goals
        rw [hq] at hst
        simp only [Bool.false_or, Bool.true_or] at hst
        have HS := Lib.hid hst
        clear hst HI
        go_wp2_with fail
      · go_round
        case rel => exact ⟨i + 1, by omega, by go_num, HS⟩
        case measure => simp [intOf]; omega
      · go_ret
        rw [HS.out]
        exact ⟨rfl, rfl⟩
    · have hst := HI.out
      rw [List.drop_eq_nil_of_le (by omega), List.any_nil] at hst
      have HS := Lib.hid hst
      clear hst HI
      go_wp2_with fail
      go_ret
      rw [HS.out]
      exact ⟨rfl, rfl⟩
/-- the subsets of a set among the first numbers -/
def inTo (M : S) : Nat → List S
  | 0 => []
  | x + 1 => inTo M x ++ (if (BitVec.ofNat 16 x &&& ~~~M == 0#16) then [BitVec.ofNat 16 x] else [])
theorem inTo_len (M : S) : ∀ x, (inTo M x).length ≤ x
  | 0 => Nat.le_refl _
  | x + 1 => by
    have := inTo_len M x
    rw [inTo, List.length_append]
    split <;> simp <;> omega
def insM (M : S) : List S := inTo M 4096
theorem insM_eq (M : S) : ∀ x, x = 4096 → inTo M x = insM M := fun x h => by rw [h, insM]
set_option maxRecDepth 20000 in
set_option maxHeartbeats 1600000 in
theorem inside_any (nm : ByteArray) (kd : Int) (M : S) {ar : Option Addr} {cr : Nat} {R : List S} {aw : Option Addr} {cw : Nat} {Q : List S} {af : Option Addr} {cf : Nat} {F : List F2} (w : World) :
    Calls Tryz.prog 45 #[.agg #[.string nm, .int .i64 kd, .int .u16 (sv M), .slice ar R.length cr, .slice aw Q.length cw, .slice af F.length cf]] w fun e w' => ∃ v, e = .returned v ∧ Own 27 1 w w' v (insM M).length (sl (insM M)) := by
  have K0 := (Keeps.refl w).alloc (.cells #[.string nm, .int .i64 kd, .int .u16 (sv M), .slice ar R.length cr, .slice aw Q.length cw, .slice af F.length cf] 32)
  have hb := BoxC.new w 32 nm kd M ar R.length cr aw Q.length cw af F.length cf
  obtain ⟨W1, hW1⟩ : ∃ W0, W0 = w.alloc (.cells #[.string nm, .int .i64 kd, .int .u16 (sv M), .slice ar R.length cr, .slice aw Q.length cw, .slice af F.length cf] 32) := ⟨_, rfl⟩
  rw [← hW1] at hb K0
  have HA := Lib.hid (insM_eq M)
  generalize insM M = res at *
  have HL := Lib.hid (inTo_len M)
  have HB := Lib.hid (fun (W : World) (K : Keeps W1 W) => (hb.keep K).c2)
  clear hb
  go_enter Tryz.func45, Tryz.ntmps45
  go_wp2_with fail
  rw [← hW1]
  clear hW1
  go_loopw [3, 4] (fun u v wr => ∃ x : Nat, x ≤ 4096 ∧ v = .int .i64 x ∧ Own 27 1 W1 wr u (inTo M x).length (sl (inTo M x))) (fun _ v _ => 4096 - (intOf v).toNat)
  case atStart => exact ⟨0, Nat.zero_le _, rfl, Own.nil _ _ (Keeps.refl _)⟩
  case round =>
    obtain ⟨x, hx, rfl, hO⟩ := hrel
    obtain ⟨a2, c2, rfl, hRa⟩ := hO.rd
    by_cases hlt : x < 4096
    · have hxv : (x : Int) = sv (BitVec.ofNat 16 x) := by rw [sv_lit x (by omega)]
      have hst : inTo M (x + 1) = inTo M x ++ (if (BitVec.ofNat 16 x &&& ~~~M == 0#16) then [BitVec.ofNat 16 x] else []) := rfl
      have hN : (inTo M x).length + 1 ≤ 10000000 := by have := HL.out x; omega
      have hwr : IntKind.u16.wrap (x : Int) = sv (BitVec.ofNat 16 x) := by rw [IntKind.wrap_u16, ← hxv]; omega
      have hc2 := HB.out wr hO.2
      have hxi : (x : Int) < 4096 := by omega
      have HN := Lib.hid hN; have HO := Lib.hid hO
      clear hxv hN hO hRa
      cases hq : (BitVec.ofNat 16 x &&& ~~~M == 0#16)
      · rw [hq, if_neg (by simp), List.append_nil] at hst
        have HST := Lib.hid hst
        clear hst
        go_wp2_with fail
        clear hwr hxi hc2 hq
        go_roundw
        case rel => exact ⟨x + 1, by omega, by go_num, by rw [HST.out]; exact HO.out⟩
        case measure => simp [intOf]; omega
      · rw [hq, if_pos rfl] at hst
        have HST := Lib.hid hst
        clear hst
        go_wp2_with (at_builtin; refine wp_app tyS rfl _ _ rfl (HO.out.alloc _) rfl rfl (rd_new 27 1 _ [.int .u16 (sv (BitVec.ofNat 16 x))] 1 (by decide) rfl) (sl_oneCell [BitVec.ofNat 16 x]) (by have := HN.out; omega) ?_)
        intro v3 w3 hO3 hg3
        clear hg3 hwr hxi hc2 hq
        go_wp2_with fail
        go_roundw
        case rel => exact ⟨x + 1, by omega, by go_num, by rw [HST.out]; exact hO3.snoc⟩
        case measure => simp [intOf]; omega
    · have hx4 : x = 4096 := by omega
      have HF := Lib.hid (HA.out x hx4)
      have hxi : ¬ (x : Int) < 4096 := by omega
      have HO := Lib.hid hO
      clear hO hRa hx4 hlt hx HA HL
      go_wp2_with fail
      go_ret
      rw [← HF.out]
      exact ⟨_, rfl, HO.out.since K0⟩
def chkR (l out : List S) : List S × Int := if l.any outS then ([], 7) else if 400 < out.length then ([], 3) else (out, 0)
set_option maxRecDepth 20000 in
theorem checked_any (w0 : World) (a : Option Addr) (n c : Nat) (l : List S) (v : Value) (o : List S) (w : World) (h : Rd w a n c 1 (sl l)) (hv : Own 27 1 w0 w v o.length (sl o)) :
    Calls Tryz.prog 76 #[.slice a n c, v] w fun e w' => RetS w0 (chkR l o) e w' := by
  have L := h.lenS
  subst L
  have sm := h.small
  obtain ⟨a2, c2, rfl, hR2⟩ := hv.rd
  have s2 := hR2.small
  have KV := hv.2
  have HV := Lib.hid hv
  have hres : chkR l o = if l.any outS then ([], 7) else if 400 < o.length then ([], 3) else (o, 0) := rfl
  have HRES := Lib.hid hres
  clear hres hR2 hv
  generalize chkR l o = res at *
  go_enter Tryz.func76, Tryz.ntmps76
  go_wp2_with fail
  go_loopw [6] (fun u wr => ∃ i : Nat, i ≤ l.length ∧ u = .int .i64 i ∧ w = wr ∧ Hid (l.any outS = (l.drop i).any outS)) (fun u _ => l.length - (intOf u).toNat)
  case atStart => exact ⟨0, Nat.zero_le _, rfl, rfl, rfl⟩
  case round =>
    obtain ⟨i, hi, rfl, rfl, HI⟩ := hrel
    by_cases hlt : i < l.length
    · have hc := h.at hlt
      have hs := h.isSome (by omega)
      have hst := HI.out
      rw [drop_at l i hlt, List.any_cons] at hst
      have hcon := fun W => range_any (at_ l i) W
      generalize at_ l i = x at *
      cases hq : outS x
      · have hq' : (x &&& 61440#16 != 0#16) = false := hq
        rw [hq, Bool.false_or] at hst
        rw [hq'] at hcon
        have HC := Lib.hid hcon; have HS := Lib.hid hst
        clear hcon hst HI hq hq'
        go_wp2_with fail
        refine (HC.out _).mono ?_
        rintro e w3 ⟨rfl, rfl⟩
        go_wp2_with fail
        go_roundw
        case rel => exact ⟨i + 1, by omega, by go_num, trivial, HS⟩
        case measure => simp [intOf]; omega
      · have hq' : (x &&& 61440#16 != 0#16) = true := hq
        rw [hq, Bool.true_or] at hst
        rw [hq'] at hcon
        have hf : res = ([], 7) := by rw [HRES.out, hst]; rfl
        have HC := Lib.hid hcon; have HF := Lib.hid hf
        clear hcon hst HI hq hq' hf
        go_wp2_with fail
        refine (HC.out _).mono ?_
        rintro e w3 ⟨rfl, rfl⟩
        go_wp2_with fail
        go_ret2
        rw [HF.out]
        exact ⟨_, rfl, Own.nil _ _ KV⟩
    · have hst := HI.out
      rw [drop_all l i (by omega), List.any_nil] at hst
      by_cases h400 : 400 < o.length
      · have hf : res = ([], 3) := by rw [HRES.out, hst, if_neg (by simp), if_pos h400]
        have h4 : (400 : Int) < (o.length : Int) := by omega
        have HF := Lib.hid hf
        clear hst HI hf h400
        go_wp2_with fail
        go_ret2
        rw [HF.out]
        exact ⟨_, rfl, Own.nil _ _ KV⟩
      · have hf : res = (o, 0) := by rw [HRES.out, hst, if_neg (by simp), if_neg h400]
        have h4 : ¬ (400 : Int) < (o.length : Int) := by omega
        have HF := Lib.hid hf
        clear hst HI hf h400
        go_wp2_with fail
        go_ret2
        rw [HF.out]
        exact ⟨_, rfl, HV.out⟩
set_option maxRecDepth 20000 in
theorem rMin_any (a : Option Addr) (n c : Nat) (l : List S) (w : World) (h : Rd w a n c 1 (sl l)) (hn : n ≤ 1000000) :
    Calls Tryz.prog 54 #[.slice a n c] w fun e w' => RetS w (chkR l (refLeast l)) e w' := by
  have h1 := Lib.hid (refLeast_any a n c l w h hn)
  have h2 := fun W v (hv : Own 27 1 w W v (refLeast l).length (sl (refLeast l))) => checked_any w a n c l v (refLeast l) W (h.keep hv.2) hv
  generalize refLeast l = o at *
  generalize chkR l o = res at *
  have H2 := Lib.hid h2
  clear h2 h
  go_enter Tryz.func54, Tryz.ntmps54
  go_wp2_with fail
  refine h1.out.mono ?_
  rintro e w2 ⟨v2, rfl, hO2⟩
  have HO2 := Lib.hid hO2
  obtain ⟨a2, c2, rfl, hR2⟩ := hO2.rd
  clear hO2 hR2
  go_wp2_with fail
  refine (H2.out _ _ HO2.out).mono ?_
  rintro e w3 ⟨v3, rfl, hO3⟩
  go_wp2_with fail
  go_ret2
  exact ⟨_, rfl, hO3⟩
set_option maxRecDepth 20000 in
theorem rMax_any (a : Option Addr) (n c : Nat) (l : List S) (w : World) (h : Rd w a n c 1 (sl l)) (hn : n ≤ 1000000) :
    Calls Tryz.prog 47 #[.slice a n c] w fun e w' => RetS w (chkR l (refGreatest l)) e w' := by
  have h1 := Lib.hid (refGreatest_any a n c l w h hn)
  have h2 := fun W v (hv : Own 27 1 w W v (refGreatest l).length (sl (refGreatest l))) => checked_any w a n c l v (refGreatest l) W (h.keep hv.2) hv
  generalize refGreatest l = o at *
  generalize chkR l o = res at *
  have H2 := Lib.hid h2
  clear h2 h
  go_enter Tryz.func47, Tryz.ntmps47
  go_wp2_with fail
  refine h1.out.mono ?_
  rintro e w2 ⟨v2, rfl, hO2⟩
  have HO2 := Lib.hid hO2
  obtain ⟨a2, c2, rfl, hR2⟩ := hO2.rd
  clear hO2 hR2
  go_wp2_with fail
  refine (H2.out _ _ HO2.out).mono ?_
  rintro e w3 ⟨v3, rfl, hO3⟩
  go_wp2_with fail
  go_ret2
  exact ⟨_, rfl, hO3⟩
end Go.Proofs.YtkoohobpbopnnaaGreatDoor
