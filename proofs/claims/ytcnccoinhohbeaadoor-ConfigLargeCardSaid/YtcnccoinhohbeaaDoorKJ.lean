/- Texts joined into one (wip/bin/pack.py): R28a, R28b, Clash28M. -/
import Derived.Test.YtcnccoinhohbeaaDoorKI
/- The reference's errors of families, configurations and clients; its Byzantine sets and Accepts. -/
namespace Go.Proofs.YtcnccoinhohbeaaDoor
open Go.RowKit Go.Lib Go.Shelf

/-- the last step of the reference's check of a family -/
def rngR (M : S) : List S → Int
  | [] => 0
  | x :: xs => if (x &&& ~~~M == 0#16) = true then rngR M xs else 7
theorem rngR_any (M : S) : ∀ l : List S, rngR M l = if (l.any fun x => x &&& ~~~M != 0#16) = true then 7 else 0
  | [] => rfl
  | x :: xs => by
    rw [rngR, List.any_cons, rngR_any M xs]
    cases h : (x &&& ~~~M == 0#16) with
    | true => simp [bne, h]
    | false => simp [bne, h]
theorem cfS_ref (l : List S) (M : S) : cfS l M = if rvalS l ≠ 0 then rvalS l else if l.length = 0 ∨ at_ l 0 = 0#16 then 9 else rngR M l := by
  unfold cfS
  rw [rval_eq, rngR_any, sup_all]
set_option maxRecDepth 20000 in
theorem rfam_any (a : Option Addr) (n c : Nat) (l : List S) (M : S) (w : World) (h : Rd w a n c 1 (sl l)) :
    Calls Tryd.prog 29 #[.slice a n c, .int .u16 (sv M)] w fun e w' => e = .returned (.int .i64 (cfS l M)) ∧ Keeps w w' := by
  have hv := rValid_any a n c l w h
  have L := h.lenS
  subst L
  have sn := h.small
  rw [cfS_ref]
  generalize rvalS l = v at *
  have HV := Lib.hid hv; clear hv
  by_cases hz : v = 0
  · subst hz
    rw [if_neg (by simp)]
    by_cases h0 : l.length = 0
    · rw [if_pos (by omega)]
      have hb : ((l.length : Int) == 0) = true := by rw [beq_iff_eq]; omega
      have HB := Lib.hid hb
      clear hb h0
      go_enter Tryd.func29, Tryd.ntmps29
      go_wp2_with fail
      refine HV.out.mono ?_
      rintro e w2 ⟨rfl, K⟩
      have hb := HB.out
      go_wp2_with fail
      go_ret
      exact ⟨rfl, K⟩
    · have hb : ((l.length : Int) == 0) = false := by rw [beq_eq_false_iff_ne]; omega
      by_cases h1 : at_ l 0 = 0#16
      · rw [if_pos (.inr h1)]
        have h1b : (at_ l 0 == 0#16) = true := by simpa using h1
        have HH := Lib.hid (And.intro h1b (And.intro hb (show 0 < l.length by omega)))
        clear h1 h1b hb h0
        go_enter Tryd.func29, Tryd.ntmps29
        go_wp2_with fail
        refine HV.out.mono ?_
        rintro e w2 ⟨rfl, K⟩
        obtain ⟨h1b, hb, h0⟩ := HH.out
        have hsm := h.isSome h0
        have hc := (h.keep K).at (i := 0) h0
        go_wp2_with fail
        go_ret
        exact ⟨rfl, K⟩
      · rw [if_neg (by rintro (h2 | h2); omega; exact h1 h2)]
        have h1b : (at_ l 0 == 0#16) = false := by simpa using h1
        have HH := Lib.hid (And.intro h1b (And.intro hb (show 0 < l.length by omega)))
        clear h1 h1b hb h0
        go_enter Tryd.func29, Tryd.ntmps29
        go_wp2_with fail
        refine HV.out.mono ?_
        rintro e w2 ⟨rfl, K⟩
        obtain ⟨h1b, hb, h0⟩ := HH.out
        have hsm := h.isSome h0
        have hc := (h.keep K).at (i := 0) h0
        have HSM := Lib.hid hsm
        go_wp2_with fail
        clear h1b hb hc h0
        have K2 := K
        go_loopw [6] (fun v wr => ∃ k : Nat, k ≤ l.length ∧ v = .int .i64 k ∧ w2 = wr ∧ Hid (rngR M l = rngR M (l.drop k))) (fun v _ => l.length - (intOf v).toNat)
        case atStart => exact ⟨0, Nat.zero_le _, rfl, rfl, rfl⟩
        case round =>
          obtain ⟨k, hk, rfl, rfl, HI⟩ := hrel
          by_cases hlt : k < l.length
          · have hc := (h.keep K).at hlt
            have hst := HI.out
            rw [drop_at l k hlt, rngR] at hst
            have hcall := within7_any (at_ l k) M w2
            cases hq : (at_ l k &&& ~~~M == 0#16)
            · rw [hq] at hst hcall
              simp only [Bool.false_eq_true, if_false] at hst
              have HC := Lib.hid hcall; have HS := Lib.hid hst
              clear hcall hst HI
              go_wp2_with fail
              refine HC.out.mono ?_
              rintro e w3 ⟨rfl, rfl⟩
              go_wp2_with fail
              go_ret
              rw [HS.out]
              exact ⟨rfl, K⟩
            · rw [hq] at hst hcall
              simp only [if_true] at hst
              have HC := Lib.hid hcall; have HS := Lib.hid hst
              clear hcall hst HI
              go_wp2_with fail
              refine HC.out.mono ?_
              rintro e w3 ⟨rfl, rfl⟩
              go_wp2_with fail
              go_roundw
              case rel => exact ⟨k + 1, by omega, by go_num, trivial, HS⟩
              case measure => simp [intOf]; omega
          · have hst := HI.out
            rw [drop_all l k (by omega), rngR] at hst
            have HS := Lib.hid hst
            clear hst HI
            go_wp2_with fail
            go_ret
            rw [HS.out]
            exact ⟨rfl, K⟩
  · rw [if_pos hz]
    have hb : (v != 0) = true := by simpa using hz
    clear hz
    go_enter Tryd.func29, Tryd.ntmps29
    go_wp2_with fail
    refine HV.out.mono ?_
    rintro e w2 ⟨rfl, K⟩
    go_wp2_with fail
    go_ret
    exact ⟨rfl, K⟩
set_option maxRecDepth 20000 in
set_option maxHeartbeats 2000000 in
theorem rcValid_any {nm : ByteArray} [NmOk nm] (kd : Int) (M : S) {ar : Option Addr} {cr : Nat} {R : List S} {aw : Option Addr} {cw : Nat} {Q : List S} {af : Option Addr} {cf : Nat} {F : List F2} (w : World) (h : RdC w ar cr R aw cw Q af cf F) :
    Calls Tryd.prog 12 #[.agg #[.string nm, .int .i64 kd, .int .u16 (sv M), .slice ar R.length cr, .slice aw Q.length cw, .slice af F.length cf]] w fun e w' => e = .returned (.int .i64 (cvS kd M R Q F)) ∧ Keeps w w' := by
  have hb := BoxC.new w 31 nm kd M ar R.length cr aw Q.length cw af F.length cf
  have K0 := (Keeps.refl w).alloc (.cells #[.string nm, .int .i64 kd, .int .u16 (sv M), .slice ar R.length cr, .slice aw Q.length cw, .slice af F.length cf] 31)
  have h1 := fun W k => rfam_any ar R.length cr R M W (h.r.keep k)
  have h2 := fun W k => rfam_any aw Q.length cw Q M W (h.q.keep k)
  have h3 := fun W k => rfvalid_any af F.length cf F W (h.f.keep k)
  unfold cvS
  generalize cfS R M = x at *
  generalize cfS Q M = y at *
  generalize fvS F = z at *
  generalize R.length = nr at *
  generalize Q.length = nq at *
  generalize F.length = nf at *
  obtain ⟨W0, hW0⟩ : ∃ W0, W0 = w.alloc (.cells #[.string nm, .int .i64 kd, .int .u16 (sv M), .slice ar nr cr, .slice aw nq cw, .slice af nf cf] 31) := ⟨_, rfl⟩
  rw [← hW0] at hb K0
  obtain ⟨c0, c1, c2, c3, c4, c5⟩ := hb
  have H1 := Lib.hid h1; have H2 := Lib.hid h2; have H3 := Lib.hid h3
  clear h1 h2 h3 h
  have h12 : (sv M / 4096 != 0) = true ∧ 4096 ≤ sv M ∨ (sv M / 4096 != 0) = false ∧ ¬ 4096 ≤ sv M := by
    have hb := sv_bound M
    by_cases h : 4096 ≤ sv M
    · exact .inl ⟨by rw [bne_iff_ne]; omega, h⟩
    · exact .inr ⟨by rw [bne_eq_false_iff_eq]; omega, h⟩
  have hcs : (x ≠ 0 ∧ (x != 0) = true) ∨ (x = 0 ∧ y ≠ 0 ∧ (y != 0) = true) ∨ (x = 0 ∧ y = 0) := by
    by_cases hx : x = 0
    · by_cases hy : y = 0
      · exact .inr (.inr ⟨hx, hy⟩)
      · exact .inr (.inl ⟨hx, hy, by simpa using hy⟩)
    · exact .inl ⟨hx, by simpa using hx⟩
  rcases hcs with ⟨hx, hb⟩ | ⟨rfl, hy, hb⟩ | ⟨rfl, rfl⟩
  · rw [if_pos hx]
    clear hx
    cases k1 : (kd != 1) <;> cases k2 : (kd != 2) <;> cases k4 : (M == 0#16) <;> rcases h12 with ⟨k3, k5⟩ | ⟨k3, k5⟩ <;> rw [k3]
    all_goals clear k3
    all_goals simp only [Bool.and_self, Bool.and_false, Bool.false_and, if_true, Bool.false_eq_true, if_false]
    all_goals
        go_enter Tryd.func12, Tryd.ntmps12
        go_wp2_with fail
        rw [← hW0]
        clear hW0
        refine (rIsNameOk nm _).mono ?_
        rintro e w2 ⟨rfl, rfl⟩
        go_wp2_with fail
    all_goals first
        | (go_ret; exact ⟨rfl, K0⟩)
        | (refine (H1.out _ K0).mono ?_
           rintro e w2 ⟨rfl, K1⟩
           replace c3 := K1.cell c3; replace c4 := K1.cell c4; replace c5 := K1.cell c5; replace c2 := K1.cell c2
           clear c0 c1
           replace K1 := K0.trans K1
           go_wp2_with fail
           go_ret
           exact ⟨rfl, K1⟩)
  · rw [if_neg (show ¬ (0 : Int) ≠ 0 by simp), if_pos hy]
    clear hy
    cases k1 : (kd != 1) <;> cases k2 : (kd != 2) <;> cases k4 : (M == 0#16) <;> rcases h12 with ⟨k3, k5⟩ | ⟨k3, k5⟩ <;> rw [k3]
    all_goals clear k3
    all_goals simp only [Bool.and_self, Bool.and_false, Bool.false_and, if_true, Bool.false_eq_true, if_false]
    all_goals
        go_enter Tryd.func12, Tryd.ntmps12
        go_wp2_with fail
        rw [← hW0]
        clear hW0
        refine (rIsNameOk nm _).mono ?_
        rintro e w2 ⟨rfl, rfl⟩
        go_wp2_with fail
    all_goals first
        | (go_ret; exact ⟨rfl, K0⟩)
        | (refine (H1.out _ K0).mono ?_
           rintro e w2 ⟨rfl, K1⟩
           replace c3 := K1.cell c3; replace c4 := K1.cell c4; replace c5 := K1.cell c5; replace c2 := K1.cell c2
           clear c0 c1
           replace K1 := K0.trans K1
           go_wp2_with fail
           refine (H2.out _ K1).mono ?_
           rintro e w3 ⟨rfl, K2⟩
           replace c5 := K2.cell c5
           clear c2 c3 c4
           replace K2 := K1.trans K2
           go_wp2_with fail
           go_ret
           exact ⟨rfl, K2⟩)
  · rw [if_neg (show ¬ (0 : Int) ≠ 0 by simp), if_neg (show ¬ (0 : Int) ≠ 0 by simp)]
    cases k1 : (kd != 1) <;> cases k2 : (kd != 2) <;> cases k4 : (M == 0#16) <;> rcases h12 with ⟨k3, k5⟩ | ⟨k3, k5⟩ <;> rw [k3]
    all_goals clear k3
    all_goals simp only [Bool.and_self, Bool.and_false, Bool.false_and, if_true, Bool.false_eq_true, if_false]
    all_goals
        go_enter Tryd.func12, Tryd.ntmps12
        go_wp2_with fail
        rw [← hW0]
        clear hW0
        refine (rIsNameOk nm _).mono ?_
        rintro e w2 ⟨rfl, rfl⟩
        go_wp2_with fail
    all_goals first
        | (go_ret; exact ⟨rfl, K0⟩)
        | (refine (H1.out _ K0).mono ?_
           rintro e w2 ⟨rfl, K1⟩
           replace c3 := K1.cell c3; replace c4 := K1.cell c4; replace c5 := K1.cell c5; replace c2 := K1.cell c2
           clear c0 c1
           replace K1 := K0.trans K1
           go_wp2_with fail
           refine (H2.out _ K1).mono ?_
           rintro e w3 ⟨rfl, K2⟩
           replace c5 := K2.cell c5
           clear c2 c3 c4
           replace K2 := K1.trans K2
           go_wp2_with fail
           refine (H3.out _ K2).mono ?_
           rintro e w4 ⟨rfl, K3⟩
           go_wp2_with fail
           go_ret
           exact ⟨rfl, K2.trans K3⟩)
end Go.Proofs.YtcnccoinhohbeaaDoor
/- The reference's Byzantine sets and Accepts. -/
namespace Go.Proofs.YtcnccoinhohbeaaDoor
open Go.RowKit Go.Lib Go.Shelf

/-- what the reference's Accepts answers -/
def raccS (kd : Int) (wt M : S) (R Q : List S) (F m : List F2) (s : S) : Bool := tvS kd M R Q F m == 0 && accT s wt (refGreatest (mskF M m)) R
theorem fv_len {m : List F2} (h : fvS m = 0) : m.length ≤ 100 := by
  unfold fvS at h
  by_cases h0 : m.length = 0
  · omega
  · rw [if_neg h0] at h
    by_cases h1 : 100 < m.length
    · rw [if_pos h1] at h; exact absurd h (by decide)
    · omega
theorem byz_ref {kd : Int} {M : S} {R Q : List S} {F m : List F2} (h : tvS kd M R Q F m = 0) : byzS M m = refGreatest (mskF M m) :=
  byz_same (cv_small (tv_cv h).1) (by have := fv_len (tv_cv h).2; omega)
theorem racc_eq (kd : Int) (wt M : S) (R Q : List S) (F m : List F2) (s : S) : raccS kd wt M R Q F m s = accS28 kd wt M R Q F m s := by
  unfold raccS accS28
  by_cases h : tvS kd M R Q F m = 0
  · rw [byz_ref h]
  · have hb : (tvS kd M R Q F m == 0) = false := by simpa using h
    rw [hb, Bool.false_and, Bool.false_and]
end Go.Proofs.YtcnccoinhohbeaaDoor
/- The reference's clashes are the program's: plain law. -/
namespace Go.Proofs.YtcnccoinhohbeaaDoor
open Go.RowKit Go.Lib Go.Shelf

def rulesR (wt : S) (byz R Q : List S) : Option CL :=
  match R.findSome? (f1 wt byz Q) with
  | some x => some x
  | none => Q.findSome? (f2 byz Q)
def rclashC (kd : Int) (wt : S) (byz R Q : List S) : Option CL :=
  match (if kd = 1 then crash1 byz else none) with
  | some b => some (3, 0#16, 0#16, b)
  | none => rulesR wt byz R Q
def rclashS (kd : Int) (wt M : S) (R Q : List S) (F m : List F2) : CL × Int :=
  if tvS kd M R Q F m ≠ 0 then (cl0, tvS kd M R Q F m) else match rclashC kd wt (refGreatest (mskF M m)) R Q with | some x => (x, 0) | none => (cl0, 13)
theorem crash_zero {byz : List S} (h : crash1 byz = none) : ∀ b ∈ byz, b = 0#16 := fun b hb => by
  have := List.find?_eq_none.1 h b hb
  simpa using this
theorem f2_none {byz : List S} (h : crash1 byz = none) (Q : List S) (p : S) : f2 byz Q p = none := by
  unfold f2
  rw [List.findSome?_eq_none_iff]
  intro q _
  unfold g2
  rw [Option.map_eq_none_iff, List.find?_eq_none]
  intro b hb
  rw [crash_zero h b hb]; simp [p2]
theorem rules_same {kd : Int} (wt : S) {byz R Q : List S} (h : kd = 2 ∨ crash1 byz = none) : rulesR wt byz R Q = rulesS kd wt byz R Q := by
  unfold rulesR rulesS
  cases hr : R.findSome? (f1 wt byz Q) with
  | some x => rfl
  | none =>
    rcases h with h | h
    · simp [h]
    · have : Q.findSome? (f2 byz Q) = none := by rw [List.findSome?_eq_none_iff]; intro q _; exact f2_none h Q q
      simp [this]
theorem cv_kind {kd : Int} {M : S} {R Q : List S} {F : List F2} (h : cvS kd M R Q F = 0) : kd = 1 ∨ kd = 2 := by
  unfold cvS at h
  by_cases h1 : (kd != 1 && kd != 2) = true
  · rw [if_pos h1] at h; exact absurd h (by decide)
  · by_cases h2 : kd = 1
    · exact .inl h2
    · refine .inr ?_
      simp [h2] at h1; exact h1
theorem rclashC_same {kd : Int} (wt M : S) {R Q : List S} {m : List F2} (hk : kd = 1 ∨ kd = 2) (hb : byzS M m = refGreatest (mskF M m)) : rclashC kd wt (refGreatest (mskF M m)) R Q = clashC kd wt M R Q m := by
  unfold rclashC clashC
  rw [← hb]
  rcases hk with rfl | rfl
  · simp only [if_true]
    cases hc : crash1 (byzS M m) with
    | some b => rfl
    | none => exact rules_same wt (.inr hc)
  · simp only [show ¬ ((2 : Int) = 1) by decide, if_false]
    exact rules_same wt (.inl rfl)
theorem rclash_eq (kd : Int) (wt M : S) (R Q : List S) (F m : List F2) : rclashS kd wt M R Q F m = clashS kd wt M R Q F m := by
  unfold rclashS clashS
  by_cases h : tvS kd M R Q F m = 0
  · rw [if_neg (by simp [h]), if_neg (by simp [h]), rclashC_same wt M (cv_kind (tv_cv h).1) (byz_ref h)]
    cases clashC kd wt M R Q m <;> rfl
  · rw [if_pos h, if_pos h]
end Go.Proofs.YtcnccoinhohbeaaDoor
