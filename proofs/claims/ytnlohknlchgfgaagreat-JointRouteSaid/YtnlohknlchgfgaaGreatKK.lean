/- Texts joined into one (wip/bin/pack.py): R28c. -/
import Derived.Test.YtnlohknlchgfgaaGreatKJ
import Derived.Deep.RegionHeld3
/- The reference's rules and Clash. -/
namespace Go.Proofs.YtnlohknlchgfgaaGreat
open Go.RowKit Go.Lib Go.Shelf


def clRes : Option CL → CL × Int
  | some x => (x, 0)
  | none => (cl0, 13)
theorem f_some {α : Type} {f : S → Option α} {l : List S} {i : Nat} {b : α} (h : i < l.length) (hf : f (at_ l i) = some b) : (l.drop i).findSome? f = some b := by rw [f_step f l i h, hf]
theorem f_none {α : Type} {f : S → Option α} {l : List S} {i : Nat} (h : i < l.length) (hf : f (at_ l i) = none) : (l.drop i).findSome? f = (l.drop (i + 1)).findSome? f := by rw [f_step f l i h, hf]
theorem bool_hid {a b : Bool} (h : a = b) : Hid (a = b) := h
set_option maxRecDepth 20000 in
set_option maxHeartbeats 4000000 in
theorem rrules_any (nm : ByteArray) (kd : Int) (M wt : S) {ar : Option Addr} {cr : Nat} {R : List S} {aw : Option Addr} {cw : Nat} {Q : List S} {af : Option Addr} {cf : Nat} {F : List F2} (a : Option Addr) (n c : Nat) (byz : List S) (w : World) (h : RdC w ar cr R aw cw Q af cf F) (hm : Rd w a n c 1 (sl byz)) :
    Calls Tryz.prog 93 #[.agg #[.string nm, .int .i64 kd, .int .u16 (sv M), .slice ar R.length cr, .slice aw Q.length cw, .slice af F.length cf], .int .u16 (sv wt), .slice a n c] w fun e w' => RetCB (rulesR wt byz R Q) e ∧ Keeps w w' := by
  have K0 := (Keeps.refl w).alloc (.cells #[.string nm, .int .i64 kd, .int .u16 (sv M), .slice ar R.length cr, .slice aw Q.length cw, .slice af F.length cf] 32)
  have hb := BoxC.new w 32 nm kd M ar R.length cr aw Q.length cw af F.length cf
  obtain ⟨W1, hW1⟩ : ∃ W0, W0 = w.alloc (.cells #[.string nm, .int .i64 kd, .int .u16 (sv M), .slice ar R.length cr, .slice aw Q.length cw, .slice af F.length cf] 32) := ⟨_, rfl⟩
  have hsz : W1.heap.size = w.heap.size + 1 := by rw [hW1, World.size_alloc]
  rw [← hW1] at hb K0
  have k2 := (Keeps.refl W1).alloc (.cells #[.int .i64 0, .int .u16 0, .int .u16 0, .int .u16 0] 90)
  have hx : ClBox (W1.alloc (.cells #[.int .i64 0, .int .u16 0, .int .u16 0, .int .u16 0] 90)) (w.heap.size + 1) cl0 := by rw [← hsz]; exact World.alloc_heap_new W1 _
  obtain ⟨W2, hW2⟩ : ∃ W2, W2 = W1.alloc (.cells #[.int .i64 0, .int .u16 0, .int .u16 0, .int .u16 0] 90) := ⟨_, rfl⟩
  rw [← hW2] at hx k2
  replace hb := hb.keep k2
  replace K0 := K0.trans k2
  have hr := h.r.keep K0
  have hq := h.q.keep K0
  have hz := hm.keep K0
  have sr := hr.small; have sq := hq.small; have sz := hz.small
  have L := hz.lenS
  subst L
  clear h hm
  have e0 : rulesR wt byz R Q = match R.findSome? (f1 wt byz Q) with | some x => some x | none => Q.findSome? (f2 byz Q) := rfl
  have E0 := Lib.hid e0
  clear e0
  generalize rulesR wt byz R Q = res at *
  have HB := Lib.hid (fun (W : World) (K : Keeps W2 W) => And.intro (hb.keep K).c3 (hb.keep K).c4)
  have HR := Lib.hid (fun (W : World) (K : Keeps W2 W) (i : Nat) (hi : i < R.length) => (hr.keep K).at hi)
  have HQ := Lib.hid (fun (W : World) (K : Keeps W2 W) (i : Nat) (hi : i < Q.length) => (hq.keep K).at hi)
  have HZ := Lib.hid (fun (W : World) (K : Keeps W2 W) (i : Nat) (hi : i < byz.length) => (hz.keep K).at hi)
  have HX := Lib.hid (fun (W : World) (K : Keeps W2 W) => hx.keep K)
  have SR : 0 < R.length → ar.isSome = true := hr.isSome
  have SQ : 0 < Q.length → aw.isSome = true := hq.isSome
  have SZ : 0 < byz.length → a.isSome = true := hz.isSome
  have HS1 := Lib.hid SR; have HS2 := Lib.hid SQ; have HS3 := Lib.hid SZ
  have hfin : Keeps w W2 ∧ w.heap.size ≤ w.heap.size + 1 := ⟨K0, Nat.le_succ _⟩
  have HFIN := Lib.hid hfin
  clear SR SQ SZ hr hq hz hb hx K0 k2 hfin
  go_enter Tryz.func93, Tryz.ntmps93
  go_wp2_with fail
  rw [← hW1, ← hW2]
  clear hW1 hW2 hsz
  go_loopw [8] (fun v wr => ∃ i : Nat, i ≤ R.length ∧ v = .int .i64 i ∧ Keeps W2 wr ∧ Hid (R.findSome? (f1 wt byz Q) = (R.drop i).findSome? (f1 wt byz Q))) (fun v _ => R.length - (intOf v).toNat)
  case atStart => exact ⟨0, Nat.zero_le _, rfl, Keeps.refl _, rfl⟩
  case round =>
    obtain ⟨i, hi, rfl, K3, HI⟩ := hrel
    obtain ⟨b3, b4⟩ := HB.out _ K3
    by_cases hlt : i < R.length
    · have hst := HI.out
      rw [f_step _ R i hlt] at hst
      have HST := Lib.hid hst
      clear hst HI
      obtain ⟨r, hr⟩ : ∃ r, r = at_ R i := ⟨_, rfl⟩
      rw [← hr] at HST
      have HEr := Lib.hid hr
      clear hr
      go_wp2_with fail
      clear b3 b4
      go_loopw [9] (fun v wx => ∃ k : Nat, k ≤ Q.length ∧ v = .int .i64 k ∧ Keeps W2 wx ∧ Hid (f1 wt byz Q r = (Q.drop k).findSome? (g1 wt byz r))) (fun v _ => Q.length - (intOf v).toNat)
      case atStart => exact ⟨0, Nat.zero_le _, rfl, K3, rfl⟩
      case round =>
        obtain ⟨k, hk, rfl, K4, HK⟩ := hrel
        obtain ⟨b3, b4⟩ := HB.out _ K4
        by_cases hltk : k < Q.length
        · have hst := HK.out
          rw [f_step _ Q k hltk] at hst
          have HSK := Lib.hid hst
          clear hst HK
          obtain ⟨q, hq⟩ : ∃ q, q = at_ Q k := ⟨_, rfl⟩
          rw [← hq] at HSK
          have HEq := Lib.hid hq
          clear hq
          go_wp2_with fail
          clear b3 b4
          go_loopw [10] (fun v wy => ∃ j : Nat, j ≤ byz.length ∧ v = .int .i64 j ∧ Keeps W2 wy ∧ Hid (byz.find? (p1 r q wt) = (byz.drop j).find? (p1 r q wt))) (fun v _ => byz.length - (intOf v).toNat)
          case atStart => exact ⟨0, Nat.zero_le _, rfl, K4, rfl⟩
          case round =>
            obtain ⟨j, hj, rfl, K5, HJ⟩ := hrel
            by_cases hltj : j < byz.length
            · obtain ⟨b3, b4⟩ := HB.out _ K5
              have hst := HJ.out
              rw [find_step _ byz j hltj] at hst
              have x1 := HR.out _ K5 i hlt
              have x2 := HQ.out _ K5 k hltk
              have x3 := HZ.out _ K5 j hltj
              rw [← HEr.out] at x1
              rw [← HEq.out] at x2
              generalize at_ byz j = b at *
              have y1 := HS1.out (Nat.lt_of_le_of_lt (Nat.zero_le _) hlt)
              have y2 := HS2.out (Nat.lt_of_le_of_lt (Nat.zero_le _) hltk)
              have y3 := HS3.out (Nat.lt_of_le_of_lt (Nat.zero_le _) hltj)
              have hcon := fun W => broken_any r q (b ||| wt) W
              cases hpp : (r &&& q &&& ~~~(b ||| wt) == 0#16)
              · rw [show p1 r q wt b = false from hpp] at hst
                rw [hpp] at hcon
                have HC := Lib.hid hcon
                have HS := Lib.hid hst
                clear hst HJ hcon hpp
                go_wp2_with fail
                go_quiet ((go_at_call 120; exact Calls.quiet_of_same (HC.out _)))
                go_wp2_with fail
                go_roundw
                case rel => exact ⟨j + 1, by omega, by go_num, K5.drewN _, HS⟩
                case measure => simp [intOf]; omega
              · rw [show p1 r q wt b = true from hpp] at hst
                rw [hpp] at hcon
                have HC := Lib.hid hcon
                clear hcon hpp
                have hg : g1 wt byz r q = some (1, r, q, b) := by unfold g1; rw [hst]; rfl
                have hf := HSK.out
                rw [hg] at hf
                have ht := HST.out
                rw [hf] at ht
                have he := E0.out
                rw [ht] at he
                simp only at he
                have HE := Lib.hid he
                have x6 := HX.out _ K5
                obtain ⟨f0, f1', f2', f3⟩ := x6.frozen
                obtain ⟨g0, g1', g2', g3⟩ := x6.cells
                have X6 := Lib.hid x6
                clear hst HJ hg hf ht he x6
                go_wp2_with fail
                go_quiet ((go_at_call 120; exact Calls.quiet_of_same (HC.out _)))
                go_wp2_with fail
                go_region
                all_goals
                  go_wp2_with fail
                  refine bodyPost_ret (resBox rfl ((HX.out _ (K5.drewN _)).keep ((Keeps.refl _).drew) |>.store (1, r, q, b)) rfl rfl) rfl ⟨by rw [HE.out]; rfl, ?_⟩
                  exact ((HFIN.out.1.trans (K5.drewN _)).drew).set4 HFIN.out.2 _ _ _ _
            · have hst := HJ.out
              rw [drop_all byz j (by omega)] at hst
              have hg : g1 wt byz r q = none := by unfold g1; rw [hst]; rfl
              have hf := HSK.out
              rw [hg] at hf
              have HS := Lib.hid hf
              clear hst hf hg HJ
              go_wp2_with fail
              go_roundw
              case rel => exact ⟨k + 1, by omega, by go_num, K5, HS⟩
              case measure => simp [intOf]; omega
        · have hst := HK.out
          rw [drop_all Q k (by omega)] at hst
          have hf := HST.out
          rw [hst] at hf
          have HS := Lib.hid hf
          clear hst hf HK
          go_wp2_with fail
          go_roundw
          case rel => exact ⟨i + 1, by omega, by go_num, K4, HS⟩
          case measure => simp [intOf]; omega
    · have hst := HI.out
      rw [drop_all R i (by omega)] at hst
      have he := E0.out
      rw [hst] at he
      simp only [List.findSome?_nil] at he
      have HE0 := Lib.hid he
      clear he hst HI
      clear E0
      have E0 := HE0
      clear HE0
      go_wp2_with fail
      clear b3 b4
      go_loopw [11] (fun v wr => ∃ i : Nat, i ≤ Q.length ∧ v = .int .i64 i ∧ Keeps W2 wr ∧ Hid (Q.findSome? (f2 byz Q) = (Q.drop i).findSome? (f2 byz Q))) (fun v _ => Q.length - (intOf v).toNat)
      case atStart => exact ⟨0, Nat.zero_le _, rfl, K3, rfl⟩
      case round =>
        obtain ⟨i, hi, rfl, K3, HI⟩ := hrel
        obtain ⟨b3, b4⟩ := HB.out _ K3
        by_cases hlt : i < Q.length
        · have hst := HI.out
          rw [f_step _ Q i hlt] at hst
          have HST := Lib.hid hst
          clear hst HI
          obtain ⟨r, hr⟩ : ∃ r, r = at_ Q i := ⟨_, rfl⟩
          rw [← hr] at HST
          have HEr := Lib.hid hr
          clear hr
          go_wp2_with fail
          clear b3 b4
          go_loopw [12] (fun v wx => ∃ k : Nat, k ≤ Q.length ∧ v = .int .i64 k ∧ Keeps W2 wx ∧ Hid (f2 byz Q r = (Q.drop k).findSome? (g2 byz r))) (fun v _ => Q.length - (intOf v).toNat)
          case atStart => exact ⟨0, Nat.zero_le _, rfl, K3, rfl⟩
          case round =>
            obtain ⟨k, hk, rfl, K4, HK⟩ := hrel
            obtain ⟨b3, b4⟩ := HB.out _ K4
            by_cases hltk : k < Q.length
            · have hst := HK.out
              rw [f_step _ Q k hltk] at hst
              have HSK := Lib.hid hst
              clear hst HK
              obtain ⟨q, hq⟩ : ∃ q, q = at_ Q k := ⟨_, rfl⟩
              rw [← hq] at HSK
              have HEq := Lib.hid hq
              clear hq
              go_wp2_with fail
              clear b3 b4
              go_loopw [13] (fun v wy => ∃ j : Nat, j ≤ byz.length ∧ v = .int .i64 j ∧ Keeps W2 wy ∧ Hid (byz.find? (p2 r q) = (byz.drop j).find? (p2 r q))) (fun v _ => byz.length - (intOf v).toNat)
              case atStart => exact ⟨0, Nat.zero_le _, rfl, K4, rfl⟩
              case round =>
                obtain ⟨j, hj, rfl, K5, HJ⟩ := hrel
                by_cases hltj : j < byz.length
                · obtain ⟨b3, b4⟩ := HB.out _ K5
                  have hst := HJ.out
                  rw [find_step _ byz j hltj] at hst
                  have x1 := HQ.out _ K5 i hlt
                  have x2 := HQ.out _ K5 k hltk
                  have x3 := HZ.out _ K5 j hltj
                  rw [← HEr.out] at x1
                  rw [← HEq.out] at x2
                  generalize at_ byz j = b at *
                  have y1 := HS2.out (Nat.lt_of_le_of_lt (Nat.zero_le _) hlt)
                  have y2 := HS2.out (Nat.lt_of_le_of_lt (Nat.zero_le _) hltk)
                  have y3 := HS3.out (Nat.lt_of_le_of_lt (Nat.zero_le _) hltj)
                  by_cases hb0 : b = 0#16
                  · subst hb0
                    have hbz : (0#16 != 0#16 : Bool) = false := rfl
                    rw [show p2 r q 0#16 = false from rfl] at hst
                    have HS := Lib.hid hst
                    clear hst HJ
                    go_wp2_with fail
                    go_quiet ((go_at_call 120; exact Calls.quiet_of_same (HCZ)))
                    go_wp2_with fail
                    go_roundw
                    case rel => exact ⟨j + 1, by omega, by go_num, K5.drewN _, HS⟩
                    case measure => simp [intOf]; omega
                  · have hbn : (b != 0#16) = true := by simpa using hb0
                    have hcon := fun W => broken_any r q b W
                    cases hpp : (r &&& q &&& ~~~b == 0#16)
                    · rw [show p2 r q b = false by unfold p2; rw [hpp, Bool.and_false]] at hst
                      rw [hpp] at hcon
                      have HC := Lib.hid hcon
                      have HS := Lib.hid hst
                      clear hst HJ hcon hpp hb0
                      go_wp2_with fail
                      go_quiet ((go_at_call 120; exact Calls.quiet_of_same (HC.out _)))
                      go_wp2_with fail
                      go_roundw
                      case rel => exact ⟨j + 1, by omega, by go_num, K5.drewN _, HS⟩
                      case measure => simp [intOf]; omega
                    · rw [show p2 r q b = true by unfold p2; rw [hpp, hbn]; rfl] at hst
                      rw [hpp] at hcon
                      have HC := Lib.hid hcon
                      clear hcon hpp hb0
                      have hg : g2 byz r q = some (2, r, q, b) := by unfold g2; rw [hst]; rfl
                      have hf := HSK.out
                      rw [hg] at hf
                      have ht := HST.out
                      rw [hf] at ht
                      have he := E0.out
                      rw [ht] at he
                      simp only at he
                      have HE := Lib.hid he
                      have x6 := HX.out _ K5
                      obtain ⟨f0, f1', f2', f3⟩ := x6.frozen
                      obtain ⟨g0, g1', g2', g3⟩ := x6.cells
                      have X6 := Lib.hid x6
                      clear hst HJ hg hf ht he x6
                      go_wp2_with fail
                      go_quiet ((go_at_call 120; exact Calls.quiet_of_same (HC.out _)))
                      go_wp2_with fail
                      go_region
                      all_goals
                        go_wp2_with fail
                        refine bodyPost_ret (resBox rfl ((HX.out _ (K5.drewN _)).keep ((Keeps.refl _).drew) |>.store (2, r, q, b)) rfl rfl) rfl ⟨by rw [HE.out]; rfl, ?_⟩
                        exact ((HFIN.out.1.trans (K5.drewN _)).drew).set4 HFIN.out.2 _ _ _ _
                · have hst := HJ.out
                  rw [drop_all byz j (by omega)] at hst
                  have hg : g2 byz r q = none := by unfold g2; rw [hst]; rfl
                  have hf := HSK.out
                  rw [hg] at hf
                  have HS := Lib.hid hf
                  clear hst hf hg HJ
                  go_wp2_with fail
                  go_roundw
                  case rel => exact ⟨k + 1, by omega, by go_num, K5, HS⟩
                  case measure => simp [intOf]; omega
            · have hst := HK.out
              rw [drop_all Q k (by omega)] at hst
              have hf := HST.out
              rw [hst] at hf
              have HS := Lib.hid hf
              clear hst hf HK
              go_wp2_with fail
              go_roundw
              case rel => exact ⟨i + 1, by omega, by go_num, K4, HS⟩
              case measure => simp [intOf]; omega
        · have hst := HI.out
          rw [drop_all Q i (by omega)] at hst
          have he := E0.out
          rw [hst] at he
          simp only [List.findSome?_nil] at he
          have HE0 := Lib.hid he
          clear he hst HI
          have x6 := HX.out _ K3
          obtain ⟨f0, f1', f2', f3⟩ := x6.frozen
          obtain ⟨g0, g1', g2', g3⟩ := x6.cells
          clear x6
          go_wp2_with fail
          refine bodyPost_ret (resBox rfl ((HX.out _ K3).store cl0) rfl rfl) rfl ⟨by rw [HE0.out]; rfl, ?_⟩
          exact (HFIN.out.1.trans K3).set4 HFIN.out.2 _ _ _ _

set_option maxRecDepth 20000 in
set_option maxHeartbeats 3000000 in
theorem rclash_any {nm : ByteArray} [NmOk nm] (kd : Int) (wt M : S) {ar : Option Addr} {cr : Nat} {R : List S} {aw : Option Addr} {cw : Nat} {Q : List S} {af : Option Addr} {cf : Nat} {F : List F2} (a : Option Addr) (n c : Nat) (m : List F2) (w : World) (h : RdC w ar cr R aw cw Q af cf F) (hm : Rd w a n c 2 (fl m)) (hn : n ≤ 1000000) :
    Calls Tryz.prog 57 #[.agg #[.string nm, .int .i64 kd, .int .u16 (sv M), .slice ar R.length cr, .slice aw Q.length cw, .slice af F.length cf], .int .u16 (sv wt), .slice a n c] w fun e w' => RetCE (rclashS kd wt M R Q F m) e ∧ Keeps w w' := by
  have K0 := (Keeps.refl w).alloc (.cells #[.string nm, .int .i64 kd, .int .u16 (sv M), .slice ar R.length cr, .slice aw Q.length cw, .slice af F.length cf] 32)
  have hb := BoxC.new w 32 nm kd M ar R.length cr aw Q.length cw af F.length cf
  obtain ⟨W1, hW1⟩ : ∃ W0, W0 = w.alloc (.cells #[.string nm, .int .i64 kd, .int .u16 (sv M), .slice ar R.length cr, .slice aw Q.length cw, .slice af F.length cf] 32) := ⟨_, rfl⟩
  have hsz : W1.heap.size = w.heap.size + 1 := by rw [hW1, World.size_alloc]
  rw [← hW1] at hb K0
  have k2 := (Keeps.refl W1).alloc (.cells #[.int .i64 0, .int .u16 0, .int .u16 0, .int .u16 0] 90)
  have hx : ClBox (W1.alloc (.cells #[.int .i64 0, .int .u16 0, .int .u16 0, .int .u16 0] 90)) (w.heap.size + 1) cl0 := by rw [← hsz]; exact World.alloc_heap_new W1 _
  obtain ⟨W2, hW2⟩ : ∃ W2, W2 = W1.alloc (.cells #[.int .i64 0, .int .u16 0, .int .u16 0, .int .u16 0] 90) := ⟨_, rfl⟩
  rw [← hW2] at hx k2
  replace hb := hb.keep k2
  replace K0 := K0.trans k2
  have h1 := fun W (k : Keeps w W) => rError_any (nm := nm) kd M a n c m W (h.keep k) (hm.keep k)
  have h2 := fun W (k : Keeps w W) => rByz_any nm kd M (ar := ar) (cr := cr) (R := R) (aw := aw) (cw := cw) (Q := Q) (af := af) (cf := cf) (F := F) a n c m W (hm.keep k) hn
  have h3 := fun W (k : Keeps w W) A N C hz => rrules_any nm kd M wt A N C (refGreatest (mskF M m)) W (h.keep k) hz
  have e0 : rclashS kd wt M R Q F m = if tvS kd M R Q F m ≠ 0 then (cl0, tvS kd M R Q F m) else match rclashC kd wt (refGreatest (mskF M m)) R Q with | some x => (x, 0) | none => (cl0, 13) := rfl
  have e1 : rclashC kd wt (refGreatest (mskF M m)) R Q = match (if kd = 1 then crash1 (refGreatest (mskF M m)) else none) with | some b => some (3, 0#16, 0#16, b) | none => rulesR wt (refGreatest (mskF M m)) R Q := rfl
  have H1 := Lib.hid h1; have H2 := Lib.hid h2; have H3 := Lib.hid h3; have E0 := Lib.hid e0; have E1 := Lib.hid e1
  clear h1 h2 h3 e0 e1
  generalize rclashS kd wt M R Q F m = res at *
  generalize rclashC kd wt (refGreatest (mskF M m)) R Q = cl at *
  generalize tvS kd M R Q F m = er at *
  generalize refGreatest (mskF M m) = byz at *
  generalize rulesR wt byz R Q = ru at *
  clear h hm
  generalize R.length = nr at *
  generalize Q.length = nq at *
  generalize F.length = nf at *
  obtain ⟨c0, c1, c2, c3, c4, c5⟩ := hb.conj
  have HBX := Lib.hid hb
  clear hb
  go_enter Tryz.func57, Tryz.ntmps57
  go_wp2_with fail
  rw [← hW1, ← hW2]
  clear hW1 hW2 hsz k2 c0 c1 c2 c3 c4 c5
  refine (H1.out _ K0).mono ?_
  rintro e w3 ⟨rfl, K1⟩
  have b3 := HBX.out.keep K1
  have x3 := hx.keep K1
  replace K1 := K0.trans K1
  clear hx K0 H1 HBX
  by_cases her : er = 0
  rotate_left
  · have hres : res = (cl0, er) := by rw [E0.out, if_pos her]
    have hb : (er != 0) = true := by simpa using her
    obtain ⟨f0, f1, f2, f3⟩ := x3.frozen
    obtain ⟨g0, g1, g2, g3⟩ := x3.cells
    have X3 := Lib.hid x3; have HRS := Lib.hid hres
    clear x3 hres her b3
    go_wp2_with fail
    exact bodyPost_ret (resBox rfl (X3.out.store cl0) rfl rfl) rfl ⟨by rw [HRS.out]; rfl, K1.set4 (by omega) _ _ _ _⟩
  subst her
  obtain ⟨c0, c1, c2, c3, c4, c5⟩ := b3.conj
  go_wp2_with fail
  clear c0 c1 c2 c3 c4 c5
  refine (H2.out _ K1).mono ?_
  rintro e w4 ⟨v4, rfl, hO⟩
  obtain ⟨a4, cc4, rfl, hR⟩ := hO.rd
  have Kx := hO.2
  have b4 := b3.keep Kx
  have x4 := x3.keep Kx
  have K2 := K1.trans Kx
  have sb := hR.small
  clear x3 Kx hO H2 b3
  obtain ⟨c0, c1, c2, c3, c4, c5⟩ := b4.conj
  go_wp2_with fail
  go_loopw [10] (fun v wr => ∃ k : Nat, k ≤ byz.length ∧ v = .int .i64 k ∧ w4 = wr ∧ Hid ((if kd = 1 then crash1 byz else none) = if kd = 1 then (byz.drop k).find? (fun b => b != 0#16) else none)) (fun v _ => byz.length - (intOf v).toNat)
  case atStart => exact ⟨0, Nat.zero_le _, rfl, rfl, rfl⟩
  case round =>
    obtain ⟨k, hk, rfl, rfl, HK⟩ := hrel
    by_cases hlt : k < byz.length ∧ kd = 1
    · obtain ⟨hlt, hk1⟩ := hlt
      subst hk1
      have hc := hR.at hlt
      have hs := hR.isSome (by omega)
      have hst := HK.out
      rw [if_pos rfl, if_pos rfl, find_step _ byz k hlt] at hst
      generalize at_ byz k = b at *
      cases hb : (b != 0#16)
      · rw [hb] at hst
        have HS : Hid ((if (1 : Int) = 1 then crash1 byz else none) = if (1 : Int) = 1 then (byz.drop (k + 1)).find? (fun b => b != 0#16) else none) := by show _ = _; rw [if_pos rfl, if_pos rfl]; exact hst
        clear hst HK
        go_wp2_with fail
        go_roundw
        case rel => exact ⟨k + 1, by omega, by go_num, trivial, HS⟩
        case measure => simp [intOf]; omega
      · rw [hb] at hst
        have hres : res = ((3, 0#16, 0#16, b), 0) := by rw [E0.out, if_neg (by simp), E1.out, if_pos rfl, hst]
        obtain ⟨f0, f1, f2, f3⟩ := x4.frozen
        obtain ⟨g0, g1, g2, g3⟩ := x4.cells
        have X4 := Lib.hid x4; have HRS := Lib.hid hres
        clear x4 hres hst HK
        go_wp2_with fail
        exact bodyPost_ret (resBox rfl (X4.out.store (3, 0#16, 0#16, b)) rfl rfl) rfl ⟨by rw [HRS.out]; rfl, K2.set4 (by omega) _ _ _ _⟩
    · have hnone : (if kd = 1 then crash1 byz else none) = none := by
        rw [HK.out]
        by_cases hk1 : kd = 1
        · rw [if_pos hk1, drop_all byz k (by omega)]; rfl
        · rw [if_neg hk1]
      have hcl : cl = ru := by rw [E1.out, hnone]
      have hE0 := E0.out
      rw [if_neg (by simp)] at hE0
      have hE : res = clRes ru := by rw [← hcl]; exact hE0
      have HE := Lib.hid hE
      clear hE hE0 E0 hcl E1 hnone HK
      have hways : ¬ (k : Int) < (byz.length : Int) ∨ (k : Int) < (byz.length : Int) ∧ (kd == 1) = false := by
        by_cases hl : k < byz.length
        · refine .inr ⟨by omega, ?_⟩
          have : ¬ kd = 1 := fun e => hlt ⟨hl, e⟩
          simpa using this
        · exact .inl (by omega)
      clear hlt
      have cnn : ru = none ∨ ∃ x, ru = some x := by cases ru <;> simp
      rcases hways with hw | ⟨hw, hw1⟩
      all_goals
        go_wp2_with fail
        clear c0 c1 c2 c3 c4 c5
        refine (H3.out _ K2 _ _ _ hR).mono ?_
        rintro e w6 ⟨he, K3⟩
        unfold RetCB at he
        subst he
        have x6 := x4.keep K3
        have K4 := K2.trans K3
        rcases cnn with hru | ⟨x, hru⟩
        · have hres : res = (cl0, 13) := by rw [HE.out, hru]; rfl
          rw [hru]
          have x7 := x6.keep ((Keeps.refl w6).alloc (.cells #[.int .i64 0, .int .u16 (sv 0#16), .int .u16 (sv 0#16), .int .u16 (sv 0#16)] 90))
          obtain ⟨f0, f1, f2, f3⟩ := x7.frozen
          obtain ⟨g0, g1, g2, g3⟩ := x7.cells
          have X7 := Lib.hid x7; have HRS := Lib.hid hres
          clear x7 x6 hres hru x4 HE b4
          dsimp only [vcl, cl0, Option.getD, Option.isSome]
          go_wp2_with fail
          exact bodyPost_ret (resBox rfl (X7.out.store cl0) rfl rfl) rfl ⟨by rw [HRS.out]; rfl, (K4.alloc _).set4 (by omega) _ _ _ _⟩
        · have hres : res = (x, 0) := by rw [HE.out, hru]; rfl
          rw [hru]
          have x7 := x6.keep ((Keeps.refl w6).alloc (.cells #[.int .i64 x.1, .int .u16 (sv x.2.1), .int .u16 (sv x.2.2.1), .int .u16 (sv x.2.2.2)] 90))
          have y7 : ClBox (w6.alloc (.cells #[.int .i64 x.1, .int .u16 (sv x.2.1), .int .u16 (sv x.2.2.1), .int .u16 (sv x.2.2.2)] 90)) w6.heap.size x := World.alloc_heap_new w6 _
          obtain ⟨f0, f1, f2, f3⟩ := x7.frozen
          obtain ⟨g0, g1, g2, g3⟩ := x7.cells
          obtain ⟨d0, d1, d2, d3⟩ := y7.cells
          have X7 := Lib.hid x7; have HRS := Lib.hid hres
          clear x7 x6 y7 hres hru x4 HE b4
          dsimp only [vcl, Option.getD, Option.isSome]
          go_wp2_with fail
          exact bodyPost_ret (resBox rfl (X7.out.store x) rfl rfl) rfl ⟨by rw [HRS.out]; rfl, (K4.alloc _).set4 (by omega) _ _ _ _⟩
end Go.Proofs.YtnlohknlchgfgaaGreat
