/- Texts joined into one (wip/bin/pack.py): R27e. -/
import Derived.Lib.QuietBelow
import Derived.Test.YtcnccoinhohbeaaGreatDoorKT
import Derived.Test.YtcnccoinhohbeaaGreatDoorKU
/- The reference's In, Avoids, Tolerates. -/
namespace Go.Proofs.YtcnccoinhohbeaaGreatDoor
open Go.RowKit Go.Lib Go.Shelf

set_option maxRecDepth 20000 in
theorem rIn_any (a : Option Addr) (n c : Nat) (l : List S) (s : S) (w : World) (h : Rd w a n c 1 (sl l)) :
    Calls Tryz.prog 40 #[.slice a n c, .int .u16 (sv s)] w fun e w' => e = .returned (.bool (l.contains s)) ∧ w = w' := by
  have L := h.lenS
  subst L
  have sm := h.small
  have hres : (l.contains s) = l.any fun x => x == s := by
    rw [List.contains_eq_any_beq]; congr 1; funext x; exact BEq.comm
  have HRES := Lib.hid hres
  clear hres
  generalize (l.contains s) = res at *
  go_enter Tryz.func40, Tryz.ntmps40
  go_wp2_with fail
  go_loop [5] (fun v => ∃ i : Nat, i ≤ l.length ∧ v = .int .i64 i ∧ Hid (res = (l.drop i).any fun x => x == s)) (fun v => l.length - (RowKit.intOf v).toNat)
  case atStart => exact ⟨0, Nat.zero_le _, rfl, HRES.out⟩
  case round =>
    obtain ⟨i, hi, rfl, HI⟩ := hrel
    by_cases hlt : i < l.length
    · have g0 := h.at hlt
      have hs := h.isSome (by omega)
      have hst := HI.out
      rw [drop_at l i hlt, List.any_cons] at hst
      generalize at_ l i = x at *
      cases hq : (x == s)
      all_goals
        rw [hq] at hst
        simp only [Bool.false_or, Bool.true_or] at hst
        have HS := Lib.hid hst
        clear hst HI
        go_wp2_with fail
      · go_round
        case rel => exact ⟨i + 1, by omega, by go_num, HS⟩
        case measure => simp [RowKit.intOf]; omega
      · go_ret
        rw [HS.out]
        exact ⟨rfl, rfl⟩
    · have hst := HI.out
      rw [List.drop_eq_nil_of_le (by omega), List.any_nil] at hst
      have HS := Lib.hid hst
      clear hst HI
      go_wp2_with fail
      go_ret
      rw [HS.out]
      exact ⟨rfl, rfl⟩

set_option maxRecDepth 20000 in
set_option maxHeartbeats 2000000 in
theorem rTol27_any {nm : ByteArray} [NmOk nm] (kd : Int) (z M : S) {ar : Option Addr} {cr : Nat} {R : List S} {aw : Option Addr} {cw : Nat} {Q : List S} {af : Option Addr} {cf : Nat} {F : List F2} (w : World) (h : RdC w ar cr R aw cw Q af cf F) (hn : F.length ≤ 1000000) :
    Calls Tryz.prog 12 #[.agg #[.string nm, .int .i64 kd, .int .u16 (sv M), .slice ar R.length cr, .slice aw Q.length cw, .slice af F.length cf], .int .u16 (sv z)] w fun e w' => e = .returned (.bool (tolS27 kd M R Q F z)) ∧ Keeps w w' := by
  have K0 := (Keeps.refl w).alloc (.cells #[.string nm, .int .i64 kd, .int .u16 (sv M), .slice ar R.length cr, .slice aw Q.length cw, .slice af F.length cf] 31)
  have hb := BoxC.new w 31 nm kd M ar R.length cr aw Q.length cw af F.length cf
  obtain ⟨W1, hW1⟩ : ∃ W0, W0 = w.alloc (.cells #[.string nm, .int .i64 kd, .int .u16 (sv M), .slice ar R.length cr, .slice aw Q.length cw, .slice af F.length cf] 31) := ⟨_, rfl⟩
  rw [← hW1] at hb K0
  have h1 := fun W (k : Keeps w W) => rcValid_any (nm := nm) kd M W (h.keep k)
  have h2 := fun W (k : Keeps w W) => rByz27_any nm kd M (ar := ar) (cr := cr) (R := R) (aw := aw) (cw := cw) (Q := Q) (af := af) (cf := cf) (F := F) af F.length cf F W ((h.keep k).f) hn
  unfold tolS27
  obtain ⟨q, hq⟩ : ∃ q, q = (byz27 kd M F).any fun b => z &&& M &&& ~~~b == 0#16 := ⟨_, rfl⟩
  rw [← hq]
  have HQ := Lib.hid hq
  clear hq
  generalize cvS kd M R Q F = er at *
  generalize byz27 kd M F = byz at *
  generalize R.length = nr at *
  generalize Q.length = nq at *
  generalize F.length = nf at *
  have H1 := Lib.hid h1; have H2 := Lib.hid h2
  obtain ⟨c0, c1, c2, c3, c4, c5⟩ := hb.conj
  have HBX := Lib.hid (fun (W : World) (K : Keeps W1 W) => (hb.keep K).c2)
  clear h1 h2 h hb
  have hcs : er = 0 ∨ er ≠ 0 ∧ (er != 0) = true ∧ (er == 0) = false := by
    by_cases hz : er = 0
    · exact .inl hz
    · exact .inr ⟨hz, by simpa using hz, by simpa using hz⟩
  rcases hcs with rfl | ⟨_, hb1, hb2⟩
  · rw [beq_self_eq_true, Bool.true_and]
    go_enter Tryz.func12, Tryz.ntmps12
    go_wp2_with fail
    rw [← hW1]
    clear hW1
    refine (H1.out _ K0).mono ?_
    rintro e w3 ⟨rfl, K1⟩
    replace c0 := K1.cell c0; replace c1 := K1.cell c1; replace c2 := K1.cell c2; replace c3 := K1.cell c3; replace c4 := K1.cell c4; replace c5 := K1.cell c5
    have J1 := K1
    replace K1 := K0.trans K1
    go_wp2_with fail
    clear c0 c1 c2 c3 c4 c5
    refine (H2.out _ K1).mono ?_
    rintro e w4 ⟨v4, rfl, hO⟩
    obtain ⟨a4, cc4, rfl, hR⟩ := hO.rd
    have J2 := J1.trans hO.2
    have K2 := K1.trans hO.2
    have sz := hR.small
    have HR := Lib.hid hR
    clear hO hR H1 H2 J1 K1 K0
    go_wp2_with fail
    go_loopw [6] (fun v wr => ∃ i : Nat, i ≤ byz.length ∧ v = .int .i64 i ∧ Keeps w4 wr ∧ Hid (q = (byz.drop i).any fun b => z &&& M &&& ~~~b == 0#16)) (fun v _ => byz.length - (RowKit.intOf v).toNat)
    case atStart => exact ⟨0, Nat.zero_le _, rfl, Keeps.refl _, HQ.out⟩
    case round =>
      obtain ⟨i, hi, rfl, K3, HI⟩ := hrel
      by_cases hlt : i < byz.length
      · have g0 := cell_regrown ((HR.out.keep K3).at hlt)
        have hs := HR.out.isSome (by omega)
        have c2 := cell_regrown (HBX.out _ (J2.trans K3))
        have hst := HI.out
        rw [drop_at byz i hlt, List.any_cons] at hst
        generalize at_ byz i = b at *
        have hc := fun d os => Calls.regrown_of ((within7_any (z &&& M) b (Sort.grow (redrawn wr d) os)).mono fun e w' ⟨he, hw⟩ => ⟨he, hw ▸ Keeps.refl _⟩)
        cases hq : (z &&& M &&& ~~~b == 0#16)
        all_goals
          rw [hq] at hst hc
          simp only [Bool.false_or, Bool.true_or] at hst
          have HS := Lib.hid hst; have HC := Lib.hid hc
          clear hst HI hc hq
          go_wp2_with fail
          refine wp_region_quiet_below (by kernel_rfl) (by kernel_rfl) ?_
          repeat (first | go_big_quiet_step (exact HC.out _ _) | quiet_step (exact HC.out _ _))
          refine wpQuiet_nil ?_
          intro _ hw'
          obtain ⟨⟨dq, osq⟩, hw''⟩ := hw'
          subst hw''
          have KF := K3.trans (grow_keeps dq osq)
          clear g0 c2
          generalize Sort.grow (redrawn wr dq) osq = wz at *
          go_wp2_with fail
        · go_roundw
          case rel => exact ⟨i + 1, by omega, by go_num, KF, HS⟩
          case measure => simp [RowKit.intOf]; omega
        · go_ret
          rw [HS.out]
          exact ⟨rfl, K2.trans KF⟩
      · have hst := HI.out
        rw [List.drop_eq_nil_of_le (by omega), List.any_nil] at hst
        have HS := Lib.hid hst
        clear hst HI
        go_wp2_with fail
        go_ret
        rw [HS.out]
        exact ⟨rfl, K2.trans K3⟩
  · rw [hb2, Bool.false_and]
    go_enter Tryz.func12, Tryz.ntmps12
    go_wp2_with fail
    rw [← hW1]
    clear hW1
    refine (H1.out _ K0).mono ?_
    rintro e w3 ⟨rfl, K1⟩
    go_wp2_with fail
    go_ret
    exact ⟨rfl, K0.trans K1⟩
end Go.Proofs.YtcnccoinhohbeaaGreatDoor
