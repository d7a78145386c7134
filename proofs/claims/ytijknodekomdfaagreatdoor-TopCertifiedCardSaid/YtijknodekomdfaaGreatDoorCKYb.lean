/- Texts joined into one, what is needed of them (a program of ours). -/
import Derived.Test.YtijknodekomdfaaGreatDoorCKU
import Derived.Test.YtijknodekomdfaaGreatDoorCKYa
namespace Go.Proofs.YtijknodekomdfaaGreatDoor
open Go.RowKit Go.Lib Go.Shelf

theorem KpX.tab {bad : Nat → Obj → Prop} {w w' : World} (h : KpX bad w w') (hT : Tab w) (hb : ∀ o, ¬ bad 0 o) : Tab w' := fun i hi => by
  have hlt := hT.lt
  have he : w.heap[0]? = some w.heap[0] := Array.getElem?_eq_getElem hlt
  have h2 := h.block _ _ he (hb _)
  exact (World.cell?_of_block (h2.trans he.symm)).trans (hT i hi)
theorem common_any (s : S) (w : World) (hT : Tab w) : Calls Tryz.prog 140 #[.int .u16 (sv s)] w fun e w' => e = .returned (.int .i64 (cmnS s)) ∧ w = w' := by
  unfold cmnS
  by_cases h0 : s = 0#16
  · rw [if_pos h0]
    have hb : (s == 0#16) = true := by simpa using h0
    clear h0
    go_enter Tryz.func140, Tryz.ntmps140
    go_wp2_with fail
    go_ret
    exact ⟨rfl, rfl⟩
  · rw [if_neg h0]
    have hb : (s == 0#16) = false := by simpa using h0
    have hc := Lib.hid (tz_any s w hT h0)
    clear h0
    go_enter Tryz.func140, Tryz.ntmps140
    go_wp2_with fail
    refine hc.out.mono ?_
    rintro e w2 ⟨rfl, rfl⟩
    go_wp2_with fail
    go_ret
    exact ⟨rfl, rfl⟩
def argsI (x : It) : Array Value := #[.int .i64 x.1, .int .u16 (sv x.2.1), .int .u16 (sv x.2.2.1), .int .u16 (sv x.2.2.2.1), .int .i64 x.2.2.2.2]
set_option maxRecDepth 20000 in
set_option maxHeartbeats 6000000 in
theorem all_any (nm : ByteArray) (kd : Int) (M wt : S) {ar : Option Addr} {cr : Nat} {R : List S} {aw : Option Addr} {cw : Nat} {Q : List S} {af : Option Addr} {cf : Nat} {F : List F2} (g : Nat) (lb : Array Value) (p : It → Bool) (bad : Nat → Obj → Prop) (Inv : List It → World → Prop) (byz : List S) (w : World) (hT : Tab w) (h : RowC w ar cr R aw cw Q af cf F)
    (hbS : ∀ k cs, ¬ bad k (.cells cs 31)) (hbF : ∀ k cs, ¬ bad k (.cells cs 34)) (hbC : ∀ k cs, ¬ bad k (.cells cs 36)) (hbG : ∀ o, ¬ bad 0 o)
    (hkeep : ∀ l W W', Inv l W → Keeps W W' → Inv l W')
    (eg : ∀ args w, (callFunc g args).run Tryz.prog w = .ok (.enter g args) w)
    (hstep : ∀ l x W, l.all p = true → (∃ rest, allL wt byz R Q = l ++ x :: rest) → Inv l W → Calls Tryz.prog g (argsI x ++ lb) W fun e w' => e = .returned (.bool (p x)) ∧ Inv (l ++ [x]) w' ∧ KpX bad W w')
    (h0 : Inv [] w)
    (hbyz : ∀ W, Keeps w W → Calls Tryz.prog 50 #[.agg #[.string nm, .int .i64 kd, .int .u16 (sv M), .slice ar R.length cr, .slice aw Q.length cw, .slice af F.length cf]] W fun e w' => ∃ v, e = .returned v ∧ Own 31 1 W w' v byz.length (sl byz)) :
    Calls Tryz.prog 76 #[.agg #[.string nm, .int .i64 kd, .int .u16 (sv M), .slice ar R.length cr, .slice aw Q.length cw, .slice af F.length cf], .int .u16 (sv wt), .func (.func g) #[] lb] w fun e w' => e = .returned (.tuple #[]) ∧ Inv (upTo p (allL wt byz R Q)) w' ∧ KpX bad w w' := by
  have K0 := (Keeps.refl w).alloc (.cells #[.string nm, .int .i64 kd, .int .u16 (sv M), .slice ar R.length cr, .slice aw Q.length cw, .slice af F.length cf] 36)
  have hB := Blk.new w 36 #[.string nm, .int .i64 kd, .int .u16 (sv M), .slice ar R.length cr, .slice aw Q.length cw, .slice af F.length cf]
  obtain ⟨W1, hW1⟩ : ∃ W0, W0 = w.alloc (.cells #[.string nm, .int .i64 kd, .int .u16 (sv M), .slice ar R.length cr, .slice aw Q.length cw, .slice af F.length cf] 36) := ⟨_, rfl⟩
  rw [← hW1] at hB K0
  have e0 : allL wt byz R Q = (R.flatMap fun r => Q.flatMap (al1 wt byz r)) ++ (Q.flatMap fun p => Q.flatMap (al2 byz p)) := rfl
  have E0 := Lib.hid e0
  clear e0
  have HUP := Lib.hid (upTo_stop p)
  have HUA := Lib.hid (upTo_all p)
  generalize allL wt byz R Q = res at *
  have HST := Lib.hid hstep; have HBY := Lib.hid hbyz; have HKP := Lib.hid hkeep; have H0 := Lib.hid h0; have HBX := Lib.hid hB
  have HbS := Lib.hid hbS; have HbF := Lib.hid hbF; have HbC := Lib.hid hbC; have HbG := Lib.hid hbG
  have HROW := Lib.hid h; have HTAB := Lib.hid hT
  have sr := h.rd.r.small; have sq := h.rd.q.small
  obtain ⟨c0, c1, c2, c3, c4, c5⟩ := hB.c6
  clear hstep hbyz hkeep h0 hB hbS hbF hbC hbG h hT
  go_enter Tryz.func76, Tryz.ntmps76
  go_wp2_with fail
  rw [← hW1]
  clear hW1 c0 c1 c2 c3 c4 c5
  refine (HBY.out _ K0).mono ?_
  rintro e W2 ⟨v2, rfl, hO2⟩
  obtain ⟨a2, d2, rfl, hR2⟩ := hO2.rd
  have sz := hR2.small
  have HB2 := Lib.hid (HBX.out.keep hO2.2)
  have HR2 := Lib.hid (HROW.out.keep (K0.trans hO2.2))
  have HZ2 := Lib.hid hO2.row0
  have HT2 := Lib.hid (HTAB.out.keep (K0.trans hO2.2))
  have HI2 := Lib.hid (HKP.out _ _ _ H0.out (K0.trans hO2.2))
  have KX2 : KpX bad w W2 := KpX.of (K0.trans hO2.2)
  have HKX2 := Lib.hid KX2
  -- what holds in every world that a function's calls have left
  have facts : ∀ W, KpX bad W2 W → (Blk W w.heap.size 36 #[.string nm, .int .i64 kd, .int .u16 (sv M), .slice ar R.length cr, .slice aw Q.length cw, .slice af F.length cf]) ∧ RowC W ar cr R aw cw Q af cf F ∧ Row0 31 1 W (.slice a2 byz.length d2) byz.length (sl byz) ∧ Tab W := fun W k =>
    ⟨k.blk HB2.out (HbC.out _ _), k.rowC HR2.out HbS.out HbF.out, k.row0 HZ2.out HbS.out, k.tab HT2.out HbG.out⟩
  have HFA := Lib.hid facts
  clear facts hR2 hO2 KX2 K0
  obtain ⟨c0, c1, c2, c3, c4, c5⟩ := HB2.out.c6
  go_wp2_with fail
  clear c0 c1 c2 c3 c4 c5
  go_loopw [25] (fun v wr => ∃ (i : Nat) (pre : List It), i ≤ R.length ∧ v = .int .i64 i ∧ Inv pre wr ∧ KpX bad W2 wr ∧ Hid (pre.all p = true) ∧ Hid (res = pre ++ (((R.drop i).flatMap fun r => Q.flatMap (al1 wt byz r)) ++ (Q.flatMap fun p => Q.flatMap (al2 byz p))))) (fun v _ => R.length - (RowKit.intOf v).toNat)
  case atStart => exact ⟨0, [], Nat.zero_le _, rfl, HI2.out, KpX.refl _ _, rfl, by show _ = _; rw [E0.out, List.drop_zero]; rfl⟩
  case round =>
    obtain ⟨i, pre, hi, rfl, hI, K3, HP, HI⟩ := hrel
    obtain ⟨fb, fr, fz, ft⟩ := HFA.out _ K3
    obtain ⟨c0, c1, c2, c3, c4, c5⟩ := fb.c6
    by_cases hlt : i < R.length
    · have hst := HI.out
      rw [drop_at R i hlt, List.flatMap_cons, List.append_assoc] at hst
      have x1 := fr.rd.r.at hlt
      have y1 := fr.rd.r.isSome (by omega)
      obtain ⟨r, hr⟩ : ∃ r, r = at_ R i := ⟨_, rfl⟩
      rw [← hr] at hst x1
      have HS1 := Lib.hid hst
      clear hst HI hr fb fr fz ft
      go_wp2_with fail
      clear c0 c1 c2 c3 c4 c5 x1 y1
      go_loopw [32] (fun v wr => ∃ (k : Nat) (pre : List It), k ≤ Q.length ∧ v = .int .i64 k ∧ Inv pre wr ∧ KpX bad W2 wr ∧ Hid (pre.all p = true) ∧ Hid (res = pre ++ (((Q.drop k).flatMap (al1 wt byz r)) ++ (((R.drop (i + 1)).flatMap fun r => Q.flatMap (al1 wt byz r)) ++ (Q.flatMap fun p => Q.flatMap (al2 byz p)))))) (fun v _ => Q.length - (RowKit.intOf v).toNat)
      case atStart => exact ⟨0, pre, Nat.zero_le _, rfl, hI, K3, HP, by show _ = _; rw [HS1.out, List.drop_zero]⟩
      case round =>
        clear HS1 hI K3 HP
        obtain ⟨k, pre, hk, rfl, hI, K3, HP, HK⟩ := hrel
        obtain ⟨fb, fr, fz, ft⟩ := HFA.out _ K3
        by_cases hltk : k < Q.length
        · have hst := HK.out
          rw [drop_at Q k hltk, List.flatMap_cons, List.append_assoc] at hst
          have x1 := fr.rd.q.at hltk
          have y1 := fr.rd.q.isSome (by omega)
          obtain ⟨q, hq⟩ : ∃ q, q = at_ Q k := ⟨_, rfl⟩
          rw [← hq] at hst x1
          obtain ⟨rk, hrk⟩ : ∃ rk, rk = ((Q.drop (k + 1)).flatMap (al1 wt byz r)) ++ (((R.drop (i + 1)).flatMap fun r => Q.flatMap (al1 wt byz r)) ++ (Q.flatMap fun p => Q.flatMap (al2 byz p))) := ⟨_, rfl⟩
          rw [← hrk] at hst
          have HRK := Lib.hid hrk
          have HS1 := Lib.hid hst
          clear hst HK hq hrk fb fr fz ft
          go_wp2_with fail
          clear x1 y1
          go_loopw [38] (fun v wr => ∃ (j : Nat) (pre : List It), j ≤ byz.length ∧ v = .int .i64 j ∧ Inv pre wr ∧ KpX bad W2 wr ∧ Hid (pre.all p = true) ∧ Hid (res = pre ++ (al1 wt (byz.drop j) r q ++ rk))) (fun v _ => byz.length - (RowKit.intOf v).toNat)
          case atStart => exact ⟨0, pre, Nat.zero_le _, rfl, hI, K3, HP, by show _ = _; rw [HS1.out, List.drop_zero]⟩
          case round =>
            clear HS1 hI K3 HP
            obtain ⟨j, pre, hj, rfl, hI, K3, HP, HJ⟩ := hrel
            obtain ⟨fb, fr, fz, ft⟩ := HFA.out _ K3
            by_cases hltj : j < byz.length
            · have hst := HJ.out
              have x1 := fz.rd.at hltj
              have y1 := fz.rd.isSome (by omega)
              rw [show al1 wt (byz.drop j) r q = it1 wt r q (at_ byz j) :: al1 wt (byz.drop (j + 1)) r q by unfold al1; rw [drop_at byz j hltj, List.map_cons]] at hst
              rw [List.cons_append] at hst
              generalize at_ byz j = b at *
              have HSX := Lib.hid hst
              clear hst HJ
              have hcm := fun s => common_any s _ ft
              have HCM := Lib.hid hcm
              have hsp := HST.out pre (it1 wt r q b) _ HP.out ⟨_, HSX.out⟩ hI
              unfold argsI it1 at hsp
              simp only at hsp
              cases hpx : p (it1 wt r q b)
              · rw [show p (1, r, q, b, cmnS (r &&& q &&& ~~~b &&& ~~~wt)) = false from hpx] at hsp
                have HSP := Lib.hid hsp
                have hup := HUP.out (it1 wt r q b) (al1 wt (byz.drop (j + 1)) r q ++ rk) hpx pre HP.out
                rw [← HSX.out] at hup
                have HU := Lib.hid hup
                clear hsp hcm hup hI fb fr fz ft hpx
                go_wp2_with fail
                refine (HCM.out _).mono ?_
                rintro e w5 ⟨rfl, rfl⟩
                go_wp2_with fail
                refine HSP.out.mono ?_
                rintro e w6 ⟨rfl, hI6, K6⟩
                go_wp2_with fail
                try simp only [Exit.inBlock, Exit.then]
                first | refine bodyPost_ret (results_none rfl _ _ _) rfl ?_ | refine bodyPost_end (results_none rfl _ _ _) rfl ?_
                exact ⟨rfl, by rw [HU.out]; exact hI6, HKX2.out.trans (K3.trans K6)⟩
              · rw [show p (1, r, q, b, cmnS (r &&& q &&& ~~~b &&& ~~~wt)) = true from hpx] at hsp
                have HSP := Lib.hid hsp
                have HPX := Lib.hid hpx
                clear hsp hcm hI fb fr fz ft hpx
                go_wp2_with fail
                refine (HCM.out _).mono ?_
                rintro e w5 ⟨rfl, rfl⟩
                go_wp2_with fail
                refine HSP.out.mono ?_
                rintro e w6 ⟨rfl, hI6, K6⟩
                go_wp2_with fail
                go_roundw
                case rel => exact ⟨j + 1, pre ++ [it1 wt r q b], by omega, by go_num, hI6, K3.trans K6, by show _ = _; rw [List.all_append, HP.out]; simp [HPX.out], by show _ = _; rw [HSX.out]; simp⟩
                case measure => simp [RowKit.intOf]; omega
            · have hst := HJ.out
              rw [drop_all byz j (by omega), show al1 wt [] r q = [] from rfl, List.nil_append, HRK.out] at hst
              have HS := Lib.hid hst
              clear hst HJ fb fr fz ft
              go_wp2_with fail
              go_roundw
              case rel => exact ⟨k + 1, pre, by omega, by go_num, hI, K3, HP, HS⟩
              case measure => simp [RowKit.intOf]; omega
        · have hst := HK.out
          rw [drop_all Q k (by omega), List.flatMap_nil, List.nil_append] at hst
          have HS := Lib.hid hst
          clear hst HK fb fr fz ft
          go_wp2_with fail
          go_roundw
          case rel => exact ⟨i + 1, pre, by omega, by go_num, hI, K3, HP, HS⟩
          case measure => simp [RowKit.intOf]; omega
    · have hst := HI.out
      rw [drop_all R i (by omega), List.flatMap_nil, List.nil_append] at hst
      have HS0 : Hid (res = pre ++ ((Q.drop 0).flatMap fun p => Q.flatMap (al2 byz p))) := by show _ = _; rw [hst, List.drop_zero]
      clear hst HI fb fr fz ft
      go_wp2_with fail
      clear c0 c1 c2 c3 c4 c5
      go_loopw [63] (fun v wr => ∃ (i : Nat) (pre : List It), i ≤ Q.length ∧ v = .int .i64 i ∧ Inv pre wr ∧ KpX bad W2 wr ∧ Hid (pre.all p = true) ∧ Hid (res = pre ++ (((Q.drop i).flatMap fun p => Q.flatMap (al2 byz p))))) (fun v _ => Q.length - (RowKit.intOf v).toNat)
      case atStart => exact ⟨0, pre, Nat.zero_le _, rfl, hI, K3, HP, HS0⟩
      case round =>
        obtain ⟨i, pre, hi, rfl, hI, K3, HP, HI⟩ := hrel
        obtain ⟨fb, fr, fz, ft⟩ := HFA.out _ K3
        obtain ⟨c0, c1, c2, c3, c4, c5⟩ := fb.c6
        by_cases hlt : i < Q.length
        · have hst := HI.out
          rw [drop_at Q i hlt, List.flatMap_cons] at hst
          have x1 := fr.rd.q.at hlt
          have y1 := fr.rd.q.isSome (by omega)
          obtain ⟨r, hr⟩ : ∃ r, r = at_ Q i := ⟨_, rfl⟩
          rw [← hr] at hst x1
          have HS1 := Lib.hid hst
          clear hst HI hr fb fr fz ft
          go_wp2_with fail
          clear c0 c1 c2 c3 c4 c5 x1 y1
          go_loopw [70] (fun v wr => ∃ (k : Nat) (pre : List It), k ≤ Q.length ∧ v = .int .i64 k ∧ Inv pre wr ∧ KpX bad W2 wr ∧ Hid (pre.all p = true) ∧ Hid (res = pre ++ (((Q.drop k).flatMap (al2 byz r)) ++ ((Q.drop (i + 1)).flatMap fun p => Q.flatMap (al2 byz p))))) (fun v _ => Q.length - (RowKit.intOf v).toNat)
          case atStart => exact ⟨0, pre, Nat.zero_le _, rfl, hI, K3, HP, by show _ = _; rw [HS1.out, List.drop_zero]⟩
          case round =>
            clear HS1 hI K3 HP
            obtain ⟨k, pre, hk, rfl, hI, K3, HP, HK⟩ := hrel
            obtain ⟨fb, fr, fz, ft⟩ := HFA.out _ K3
            by_cases hltk : k < Q.length
            · have hst := HK.out
              rw [drop_at Q k hltk, List.flatMap_cons, List.append_assoc] at hst
              have x1 := fr.rd.q.at hltk
              have y1 := fr.rd.q.isSome (by omega)
              obtain ⟨q, hq⟩ : ∃ q, q = at_ Q k := ⟨_, rfl⟩
              rw [← hq] at hst x1
              obtain ⟨rk, hrk⟩ : ∃ rk, rk = ((Q.drop (k + 1)).flatMap (al2 byz r)) ++ ((Q.drop (i + 1)).flatMap fun p => Q.flatMap (al2 byz p)) := ⟨_, rfl⟩
              rw [← hrk] at hst
              have HRK := Lib.hid hrk
              have HS1 := Lib.hid hst
              clear hst HK hq hrk fb fr fz ft
              go_wp2_with fail
              clear x1 y1
              go_loopw [76] (fun v wr => ∃ (j : Nat) (pre : List It), j ≤ byz.length ∧ v = .int .i64 j ∧ Inv pre wr ∧ KpX bad W2 wr ∧ Hid (pre.all p = true) ∧ Hid (res = pre ++ (al2 (byz.drop j) r q ++ rk))) (fun v _ => byz.length - (RowKit.intOf v).toNat)
              case atStart => exact ⟨0, pre, Nat.zero_le _, rfl, hI, K3, HP, by show _ = _; rw [HS1.out, List.drop_zero]⟩
              case round =>
                clear HS1 hI K3 HP
                obtain ⟨j, pre, hj, rfl, hI, K3, HP, HJ⟩ := hrel
                obtain ⟨fb, fr, fz, ft⟩ := HFA.out _ K3
                by_cases hltj : j < byz.length
                · have hst := HJ.out
                  have x1 := fz.rd.at hltj
                  have y1 := fz.rd.isSome (by omega)
                  rw [al2_drop byz j hltj] at hst
                  generalize at_ byz j = b at *
                  cases hb0 : (b != 0#16)
                  · rw [hb0, if_neg (by simp), List.nil_append] at hst
                    have HSX := Lib.hid hst
                    clear hst HJ fb fr fz ft
                    go_wp2_with fail
                    go_roundw
                    case rel => exact ⟨j + 1, pre, by omega, by go_num, hI, K3, HP, HSX⟩
                    case measure => simp [RowKit.intOf]; omega
                  · rw [hb0, if_pos rfl, List.append_assoc, List.singleton_append] at hst
                    have HSX := Lib.hid hst
                    clear hst HJ
                    have hcm := fun s => common_any s _ ft
                    have HCM := Lib.hid hcm
                    have hsp := HST.out pre (it2 r q b) _ HP.out ⟨_, HSX.out⟩ hI
                    unfold argsI it2 at hsp
                    simp only at hsp
                    cases hpx : p (it2 r q b)
                    · rw [show p (2, r, q, b, cmnS (r &&& q &&& ~~~b)) = false from hpx] at hsp
                      have HSP := Lib.hid hsp
                      have hup := HUP.out (it2 r q b) (al2 (byz.drop (j + 1)) r q ++ rk) hpx pre HP.out
                      rw [← HSX.out] at hup
                      have HU := Lib.hid hup
                      clear hsp hcm hup hI fb fr fz ft hpx
                      go_wp2_with fail
                      refine (HCM.out _).mono ?_
                      rintro e w5 ⟨rfl, rfl⟩
                      go_wp2_with fail
                      refine HSP.out.mono ?_
                      rintro e w6 ⟨rfl, hI6, K6⟩
                      go_wp2_with fail
                      try simp only [Exit.inBlock, Exit.then]
                      first | refine bodyPost_ret (results_none rfl _ _ _) rfl ?_ | refine bodyPost_end (results_none rfl _ _ _) rfl ?_
                      exact ⟨rfl, by rw [HU.out]; exact hI6, HKX2.out.trans (K3.trans K6)⟩
                    · rw [show p (2, r, q, b, cmnS (r &&& q &&& ~~~b)) = true from hpx] at hsp
                      have HSP := Lib.hid hsp
                      have HPX := Lib.hid hpx
                      clear hsp hcm hI fb fr fz ft hpx
                      go_wp2_with fail
                      refine (HCM.out _).mono ?_
                      rintro e w5 ⟨rfl, rfl⟩
                      go_wp2_with fail
                      refine HSP.out.mono ?_
                      rintro e w6 ⟨rfl, hI6, K6⟩
                      go_wp2_with fail
                      go_roundw
                      case rel => exact ⟨j + 1, pre ++ [it2 r q b], by omega, by go_num, hI6, K3.trans K6, by show _ = _; rw [List.all_append, HP.out]; simp [HPX.out], by show _ = _; rw [HSX.out]; simp⟩
                      case measure => simp [RowKit.intOf]; omega
                · have hst := HJ.out
                  rw [drop_all byz j (by omega), show al2 [] r q = [] from rfl, List.nil_append, HRK.out] at hst
                  have HS := Lib.hid hst
                  clear hst HJ fb fr fz ft
                  go_wp2_with fail
                  go_roundw
                  case rel => exact ⟨k + 1, pre, by omega, by go_num, hI, K3, HP, HS⟩
                  case measure => simp [RowKit.intOf]; omega
            · have hst := HK.out
              rw [drop_all Q k (by omega), List.flatMap_nil, List.nil_append] at hst
              have HS := Lib.hid hst
              clear hst HK fb fr fz ft
              go_wp2_with fail
              go_roundw
              case rel => exact ⟨i + 1, pre, by omega, by go_num, hI, K3, HP, HS⟩
              case measure => simp [RowKit.intOf]; omega
        · have hst := HI.out
          rw [drop_all Q i (by omega), List.flatMap_nil, List.append_nil] at hst
          have hua := HUA.out pre HP.out
          rw [← hst] at hua
          have HU := Lib.hid hua
          have HF := Lib.hid hst
          clear hst HI hua fb fr fz ft c0 c1 c2 c3 c4 c5
          go_wp2_with fail
          try simp only [Exit.inBlock, Exit.then]
          first | refine bodyPost_ret (results_none rfl _ _ _) rfl ?_ | refine bodyPost_end (results_none rfl _ _ _) rfl ?_
          exact ⟨rfl, by rw [HU.out, HF.out]; exact hI, HKX2.out.trans K3⟩
end Go.Proofs.YtijknodekomdfaaGreatDoor
