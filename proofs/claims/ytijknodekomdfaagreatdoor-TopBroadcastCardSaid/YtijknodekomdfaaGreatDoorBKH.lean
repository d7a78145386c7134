/- Texts joined into one, what is needed of them (a program of ours). -/
import Derived.Test.YtijknodekomdfaaGreatDoorBKG
import Derived.Test.YtijknodekomdfaaGreatDoorBKC
import Derived.Test.YtijknodekomdfaaGreatDoorBKA
import Derived.Test.YtijknodekomdfaaGreatDoorSortLay
namespace Go.Proofs.YtijknodekomdfaaGreatDoor
open Go.RowKit Go.Lib Go.Shelf

def naS (i : Nat) : NA := ⟨{ nd0 with id := (i : Int) }, none, 0, none, 0⟩
def startNA (n : Nat) : List NA := (List.range n).map naS
theorem startNA_succ (k : Nat) : startNA (k + 1) = startNA k ++ [naS k] := by unfold startNA; rw [List.range_succ, List.map_append]; rfl
@[simp] theorem startNA_len (n : Nat) : (startNA n).length = n := by simp [startNA]
theorem startNA_x (n : Nat) : (startNA n).map NA.x = startN n := by unfold startNA startN; rw [List.map_map]; rfl
theorem nok_start (W : World) (i : Nat) : NOk W (naS i) := ⟨World.ownsRow_nil _ _ _ _, World.ownsRow_nil _ _ _ _⟩
set_option maxRecDepth 20000 in
set_option maxHeartbeats 2000000 in
theorem newRun39_any (w : World) (fa : Option Addr) (fm fc : Nat) (ba : Option Addr) (bm bc : Nat) (n : Nat) (byz : S) (source : Int) (hn : n ≤ 16) :
    Calls Tryz.prog 87 #[.slice fa fm fc, .slice ba bm bc, .int .i64 n, .int .u16 (sv byz), .int .i64 source] w fun e W' => ∃ B nv, e = .returned (.pointer (some ⟨B, 0, none⟩)) ∧ Keeps w W' ∧ RunW w W' B (.slice fa fm fc) (.slice ba bm bc) n byz source nv (startNA n) (.slice none 0 0) [] (.slice none 0 0) [] := by
  have kA := (Keeps.refl w).alloc (.cells #[.slice fa fm fc, .slice ba bm bc, .int .i64 n, .int .u16 (sv byz), .int .i64 source, .slice none 0 0, .slice none 0 0] 148)
  have hB := Blk.new w 148 #[.slice fa fm fc, .slice ba bm bc, .int .i64 n, .int .u16 (sv byz), .int .i64 source, .slice none 0 0, .slice none 0 0]
  have HK := Lib.hid kA; have HB := Lib.hid hB
  clear kA hB
  go_enter Tryz.func87, Tryz.ntmps87
  go_wp2_with fail
  generalize w.alloc (.cells #[.slice fa fm fc, .slice ba bm bc, .int .i64 n, .int .u16 (sv byz), .int .i64 source, .slice none 0 0, .slice none 0 0] 148) = wA at *
  go_loopw [22] (fun v wr => ∃ (k : Nat) (nv : Value), k ≤ n ∧ v = .int .i64 k ∧ Blk wr w.heap.size 148 #[.slice fa fm fc, .slice ba bm bc, .int .i64 n, .int .u16 (sv byz), .int .i64 source, nv, .slice none 0 0] ∧ Own 153 9 w wr nv k (nl (startNA k))) (fun v _ => n - (RowKit.intOf v).toNat)
  case atStart => exact ⟨0, _, Nat.zero_le _, rfl, HB.out, .nil _ _ HK.out⟩
  case round =>
    clear HB HK
    obtain ⟨k, nv, hk, rfl, hB, hO⟩ := hrel
    by_cases hlt : k < n
    · have kB := (Keeps.refl wr).alloc (.cells (nl [naS k]).toArray 153)
      have r1 : Rd (wr.alloc (.cells (nl [naS k]).toArray 153)) (some ⟨wr.heap.size, 0, none⟩) 1 1 9 (nl [naS k]) := rd_new 153 9 wr _ 1 (by decide) rfl
      have HR := Lib.hid r1
      have HO := Lib.hid (hO.keep kB)
      have HBB := Lib.hid (hB.keep kB)
      have c5 := hB.cell 5 rfl
      clear r1 kB hO hB
      go_wp2_with (at_builtin; refine wp_app ty_nl rfl _ _ rfl HO.out rfl rfl HR.out (nl_cells _) (by omega) ?_)
      intro v' w1 hO1 hgr
      obtain ⟨a1, c1, rfl, _⟩ := hO1.rd
      rw [← nl_append, ← startNA_succ] at hO1
      have hB1 := blk_grown9 HBB.out hgr (blk_ne HBB.out HO.out.1 (by decide))
      have hO2 := own_oth9 hO1 hB1 (by decide) (Nat.le_refl _) 5 (.slice a1 (k + 1) c1)
      have e5 := hB1.cell 5 rfl
      have g5 := hB1.frozen 5
      have HB2 := Lib.hid (hB1.set 5 (.slice a1 (k + 1) c1))
      have HO2 := Lib.hid hO2
      clear hO1 hgr hB1 hO2 c5
      go_wp2_with fail
      go_roundw
      case rel => exact ⟨k + 1, _, by omega, by go_num, HB2.out, HO2.out⟩
      case measure => simp [RowKit.intOf]; omega
    · have e1 : k = n := by omega
      subst e1
      go_wp2_with fail
      go_ret
      refine ⟨_, nv, rfl, hO.2, hB, Nat.le_refl _, by rw [startNA_len]; exact hO, .nil _ _ hO.2, .nil _ _ hO.2, .inl rfl, fun z hz => by
        obtain ⟨i, _, rfl⟩ := List.mem_map.1 hz
        exact nok_start _ i⟩
end Go.Proofs.YtijknodekomdfaaGreatDoor
namespace Go.Proofs.YtijknodekomdfaaGreatDoor
open Go.RowKit Go.Lib Go.Shelf

def strX : Str := ⟨#[120]⟩
def strY : Str := ⟨#[121]⟩
def lieV (n : Nat) (byz : S) (s : Nat) (k : Int) (j : Nat) : List Ct := ([strX, strY].take j).flatMap fun v => toAll n byz ⟨k, s, 0, v⟩
def lieK (n : Nat) (byz : S) (source s : Nat) (j : Nat) : List Ct := (([1, 2, 3] : List Int).take j).flatMap fun k => if k = 1 ∧ s ≠ source then [] else lieV n byz s k 2
def lieI (n : Nat) (byz : S) (source : Nat) (j : Nat) : List Ct := (List.range j).flatMap fun s => if corr n byz s then [] else lieK n byz source s 3
theorem lieI_all (n : Nat) (byz : S) (source : Nat) : lieI n byz source n = lieL n byz source strX strY := rfl
theorem lieV_succ (n : Nat) (byz : S) (s : Nat) (k : Int) (j : Nat) (hj : j < 2) : lieV n byz s k (j + 1) = lieV n byz s k j ++ toAll n byz ⟨k, s, 0, if j = 0 then strX else strY⟩ := by
  unfold lieV
  rcases (by omega : j = 0 ∨ j = 1) with rfl | rfl <;> simp
theorem lieK_succ (n : Nat) (byz : S) (source s : Nat) (j : Nat) (hj : j < 3) : lieK n byz source s (j + 1) = lieK n byz source s j ++ (if ((j : Int) + 1 = 1 ∧ s ≠ source) then [] else lieV n byz s ((j : Int) + 1) 2) := by
  unfold lieK
  rcases (by omega : j = 0 ∨ j = 1 ∨ j = 2) with rfl | rfl | rfl <;> simp
theorem lieI_succ (n : Nat) (byz : S) (source : Nat) (j : Nat) : lieI n byz source (j + 1) = lieI n byz source j ++ (if corr n byz j then [] else lieK n byz source j 3) := by
  unfold lieI
  rw [List.range_succ, List.flatMap_append]
  simp
theorem corrI_nat (n : Nat) (byz : S) (i : Nat) : corrI n byz i = corr n byz i := by unfold corrI; simp
set_option maxRecDepth 20000 in
set_option maxHeartbeats 4000000 in
theorem lies39_any (w0 w : World) (B : Nat) (fv bv : Value) (n : Nat) (byz : S) (source : Nat) (nv : Value) (nas : List NA) (gv : Value) (fl : List Ct) (lv : Value) (ls : List Ct) (hn : n ≤ 16) (hR : RunW w0 w B fv bv n byz source nv nas gv fl lv ls) :
    Calls Tryz.prog 90 #[.pointer (some ⟨B, 0, none⟩)] w fun e W' => ∃ ov, e = .returned ov ∧ Own 145 4 w W' ov (lieL n byz source strX strY).length (cl (lieL n byz source strX strY)) := by
  have hB := hR.box
  obtain ⟨c0, c1, c2, c3, c4, c5, c6⟩ := hB.c7
  have HB := Lib.hid hB
  clear c0 c1 c3 c4 c5 c6 hR hB
  go_enter Tryz.func90, Tryz.ntmps90
  go_wp2_with fail
  clear c2
  go_loopw [3, 15] (fun s3 v wr => ∃ (i : Nat) (O : List Ct), i ≤ n ∧ v = .int .i64 i ∧ Hid (O = lieI n byz source i) ∧ O.length ≤ 96 * i ∧ Own 145 4 w wr s3 O.length (cl O)) (fun _ v _ => n - (RowKit.intOf v).toNat)
  case atStart => exact ⟨0, [], Nat.zero_le _, rfl, Lib.hid rfl, by simp, .nil _ _ (Keeps.refl _)⟩
  case round =>
    obtain ⟨i, O, hi, rfl, HI, hOl, hO⟩ := hrel
    by_cases hlt : i < n
    · have hc := correct39_any n hn byz i B fv bv (.int .i64 source) nv gv wr (HB.out.keep hO.2)
      rw [corrI_nat] at hc
      have HC := Lib.hid hc
      clear hc
      have his := lieI_succ n byz source i
      have HIS := Lib.hid his
      clear his
      cases hq : corr n byz i with
      | true =>
        rw [hq] at HC
        have HQ := Lib.hid hq
        clear hq
        go_wp2_with (go_at_call 88; refine HC.out.mono ?_; rintro e w' ⟨rfl, rfl⟩)
        go_roundw
        case rel => exact ⟨i + 1, O, by omega, by go_num, hrfl <| by rw [HIS.out, if_pos HQ.out, List.append_nil]; exact HI.out, by omega, hO⟩
        case measure => simp [RowKit.intOf]; omega
      | false =>
        rw [hq] at HC
        have HQ := Lib.hid hq
        clear hq
        have kA := (Keeps.refl wr).alloc (.cells #[.int .i64 1, .int .i64 2, .int .i64 3] 3)
        have hk0 := Blk.new wr 3 #[.int .i64 1, .int .i64 2, .int .i64 3]
        have HO := Lib.hid (hO.keep kA); have HK0 := Lib.hid hk0
        clear hO hk0 kA
        go_wp2_with (go_at_call 88; refine HC.out.mono ?_; rintro e w' ⟨rfl, rfl⟩)
        clear HC
        generalize wr.alloc (.cells #[.int .i64 1, .int .i64 2, .int .i64 3] 3) = wA at *
        generalize wr.heap.size = BK at *
        go_loopw [3, 23] (fun s3 v wr2 => ∃ (j : Nat) (O2 : List Ct), j ≤ 3 ∧ v = .int .i64 j ∧ Hid (O2 = O ++ lieK n byz source i j) ∧ O2.length ≤ 96 * i + 32 * j ∧ Own 145 4 w wr2 s3 O2.length (cl O2) ∧ Blk wr2 BK 3 #[.int .i64 1, .int .i64 2, .int .i64 3]) (fun _ v _ => 3 - (RowKit.intOf v).toNat)
        case atStart => exact ⟨0, O, by omega, rfl, Lib.hid (by simp [lieK]), by omega, HO.out, HK0.out⟩
        case round =>
          clear HO HK0
          obtain ⟨j, O2, hj, rfl, HJ, hOl2, hO2, hbk⟩ := hrel
          by_cases hlt2 : j < 3
          · have hj3 : (j : Int) < 3 := by omega
            have hkc : wr.cell? ⟨BK, j, none⟩ = some (.int .i64 ((j : Int) + 1)) := by
              rcases (by omega : j = 0 ∨ j = 1 ∨ j = 2) with rfl | rfl | rfl
              · exact hbk.cell 0 rfl
              · exact hbk.cell 1 rfl
              · exact hbk.cell 2 rfl
            have hjs := lieK_succ n byz source i j hlt2
            have HJS := Lib.hid hjs
            clear hjs
            have c4 := (HB.out.keep hO2.2).cell 4 rfl
            by_cases hsk : ((j : Int) + 1 = 1 ∧ i ≠ source)
            · have HSK := Lib.hid hsk
              have q1 : j = 0 := by omega
              have q2 : (((i : Int) != (source : Int)) = true) := by have := hsk.2; simp; omega
              clear hsk
              subst q1
              go_wp2_with fail
              go_roundw
              case rel => exact ⟨1, O2, by omega, by go_num, hrfl <| by rw [HJS.out, if_pos HSK.out, List.append_nil]; exact HJ.out, by omega, hO2, hbk⟩
              case measure => simp [RowKit.intOf]
            · have HSK := Lib.hid hsk
              have hcond : ((((j : Int) + 1 == 1) && ((i : Int) != (source : Int))) = false) := by
                rcases Classical.em ((j : Int) + 1 = 1) with h | h
                · have : i = source := Classical.byContradiction fun e => hsk ⟨h, e⟩
                  subst this; simp
                · have : (((j : Int) + 1 == 1) = false) := beq_eq_false_iff_ne.2 h
                  rw [this]; rfl
              obtain ⟨kk, hkk⟩ : ∃ kk : Int, kk = (j : Int) + 1 := ⟨_, rfl⟩
              rw [← hkk] at hkc hcond
              have HKK := Lib.hid hkk
              have hkp : kk = 1 ∨ kk = 2 ∨ kk = 3 := by omega
              have kV := (Keeps.refl wr).alloc (.cells #[.string ⟨#[120]⟩, .string ⟨#[121]⟩] 9)
              have hv0 := Blk.new wr 9 #[.string ⟨#[120]⟩, .string ⟨#[121]⟩]
              have HO := Lib.hid (hO2.keep kV); have HK0 := Lib.hid (hbk.keep kV); have HV0 := Lib.hid hv0
              clear hO2 hbk hv0 kV hkk hsk
              by_cases hk1 : kk = 1
              all_goals
                first
                  | (have hb1 : (kk == 1) = true := by simpa using hk1)
                  | (have hb1 : (kk == 1) = false := by simpa using hk1)
                have hb2 : (kk = 1) → (((i : Int) != (source : Int)) = false) := fun h => by
                  have := hcond
                  rw [h] at this
                  simpa using this
                first
                  | (have hb3 := hb2 hk1)
                  | skip
                clear hb2 hcond hkp hk1
                go_wp2_with fail
                clear c4 hkc hb1
                generalize wr.alloc (.cells #[.string ⟨#[120]⟩, .string ⟨#[121]⟩] 9) = wB at *
                generalize wr.heap.size = BV at *
                go_loopw [3, 40] (fun s3 v wr3 => ∃ (q : Nat) (O3 : List Ct), q ≤ 2 ∧ v = .int .i64 q ∧ Hid (O3 = O2 ++ lieV n byz i kk q) ∧ O3.length ≤ 96 * i + 32 * j + 16 * q ∧ Own 145 4 w wr3 s3 O3.length (cl O3) ∧ Blk wr3 BK 3 #[.int .i64 1, .int .i64 2, .int .i64 3] ∧ Blk wr3 BV 9 #[.string ⟨#[120]⟩, .string ⟨#[121]⟩]) (fun _ v _ => 2 - (RowKit.intOf v).toNat)
                case atStart => exact ⟨0, O2, by omega, rfl, Lib.hid (by simp [lieV]), by omega, HO.out, HK0.out, HV0.out⟩
                case round =>
                  clear HO HK0 HV0
                  obtain ⟨q, O3, hq3, rfl, HV, hOl3, hO3, hbk3, hbv⟩ := hrel
                  by_cases hlt3 : q < 2
                  · have hq2 : (q : Int) < 2 := by omega
                    have hvc : wr.cell? ⟨BV, q, none⟩ = some (.string (if q = 0 then strX else strY)) := by
                      rcases (by omega : q = 0 ∨ q = 1) with rfl | rfl
                      · exact hbv.cell 0 rfl
                      · exact hbv.cell 1 rfl
                    have hvs := lieV_succ n byz i kk q hlt3
                    obtain ⟨vv, hvv⟩ : ∃ vv, vv = (if q = 0 then strX else strY) := ⟨_, rfl⟩
                    rw [← hvv] at hvc hvs
                    have HVS := Lib.hid hvs
                    clear hvs hvv
                    have c2 := (HB.out.keep hO3.2).cell 2 rfl
                    have HO := Lib.hid hO3; have HK0 := Lib.hid hbk3; have HV0 := Lib.hid hbv
                    clear hO3 hbk3 hbv
                    go_wp2_with fail
                    clear c2 hvc
                    go_loopw [3, 49] (fun s3 v wr4 => ∃ (r : Nat) (O4 : List Ct), r ≤ n ∧ v = .int .i64 r ∧ Hid (O4 = O3 ++ preA n byz ⟨kk, i, 0, vv⟩ r) ∧ O4.length ≤ 96 * i + 32 * j + 16 * q + r ∧ Own 145 4 w wr4 s3 O4.length (cl O4) ∧ Blk wr4 BK 3 #[.int .i64 1, .int .i64 2, .int .i64 3] ∧ Blk wr4 BV 9 #[.string ⟨#[120]⟩, .string ⟨#[121]⟩]) (fun _ v _ => n - (RowKit.intOf v).toNat)
                    case atStart => exact ⟨0, O3, Nat.zero_le _, rfl, Lib.hid (by simp [preA]), by omega, HO.out, HK0.out, HV0.out⟩
                    case round =>
                      clear HO HK0 HV0
                      obtain ⟨r, O4, hr4, rfl, HP, hOl4, hO4, hbk4, hbv4⟩ := hrel
                      by_cases hlt4 : r < n
                      · have hc := correct39_any n hn byz r B fv bv (.int .i64 source) nv gv wr (HB.out.keep hO4.2)
                        rw [corrI_nat] at hc
                        have HC := Lib.hid hc
                        clear hc
                        have hps := pre_succ n byz ⟨kk, i, 0, vv⟩ r
                        have HPS := Lib.hid hps
                        clear hps
                        cases hqq : corr n byz r with
                        | false =>
                          rw [hqq] at HC
                          have HQQ := Lib.hid hqq
                          clear hqq
                          go_wp2_with (go_at_call 88; refine HC.out.mono ?_; rintro e w' ⟨rfl, rfl⟩)
                          go_roundw
                          case rel => exact ⟨r + 1, O4, by omega, by go_num, hrfl <| by rw [HPS.out, if_neg (by rw [HQQ.out]; simp)]; exact HP.out, by omega, hO4, hbk4, hbv4⟩
                          case measure => simp [RowKit.intOf]; omega
                        | true =>
                          rw [hqq] at HC
                          have HQQ := Lib.hid hqq
                          clear hqq
                          have kC := (Keeps.refl wr).alloc (.cells #[.int .i64 kk, .int .i64 i, .int .i64 r, .string vv] 145)
                          have r1 : Rd (wr.alloc (.cells #[.int .i64 kk, .int .i64 i, .int .i64 r, .string vv] 145)) (some ⟨wr.heap.size, 0, none⟩) 1 1 4 (cl [(⟨kk, i, r, vv⟩ : Ct)]) := rd_new 145 4 wr _ 1 (by decide) rfl
                          have HR := Lib.hid r1; have HO := Lib.hid (hO4.keep kC); have HK0 := Lib.hid (hbk4.keep kC); have HV0 := Lib.hid (hbv4.keep kC)
                          clear r1 hO4 kC hbk4 hbv4
                          go_wp2_with (first | (go_at_call 88; refine HC.out.mono ?_; rintro e w' ⟨rfl, rfl⟩) | (at_builtin; refine wp_app ty_cl rfl _ _ rfl HO.out rfl rfl HR.out (cl_cells _) (by omega) ?_))
                          intro v' w1 hO1 hgr
                          rw [← cl_append, len_snoc9 O4 ⟨kk, i, r, vv⟩] at hO1
                          have HK1 := Lib.hid (blk_grown9 HK0.out hgr (blk_ne HK0.out HO.out.1 (by decide)))
                          have HV1 := Lib.hid (blk_grown9 HV0.out hgr (blk_ne HV0.out HO.out.1 (by decide)))
                          have HO1 := Lib.hid hO1
                          clear hO1 hgr HO HR HC HK0 HV0
                          go_wp2_with fail
                          go_roundw
                          case rel => exact ⟨r + 1, O4 ++ [⟨kk, i, r, vv⟩], by omega, by go_num, hrfl <| by rw [HPS.out, if_pos HQQ.out, HP.out, List.append_assoc], by rw [← len_snoc9]; omega, HO1.out, HK1.out, HV1.out⟩
                          case measure => simp [RowKit.intOf]; omega
                      · have e1 : r = n := by omega
                        subst e1
                        go_wp2_with fail
                        go_roundw
                        case rel => exact ⟨q + 1, O4, by omega, by go_num, hrfl <| by rw [HVS.out, ← List.append_assoc, ← HV.out]; exact HP.out, by omega, hO4, hbk4, hbv4⟩
                        case measure => simp [RowKit.intOf]; omega
                  · have e1 : q = 2 := by omega
                    subst e1
                    go_wp2_with fail
                    go_roundw
                    case rel => exact ⟨j + 1, O3, by omega, by go_num, hrfl <| by rw [HJS.out, if_neg HSK.out, ← List.append_assoc, ← HJ.out, ← HKK.out]; exact HV.out, by omega, hO3, hbk3⟩
                    case measure => simp [RowKit.intOf]; omega
          · have e1 : j = 3 := by omega
            subst e1
            go_wp2_with fail
            go_roundw
            case rel => exact ⟨i + 1, O2, by omega, by go_num, hrfl <| by rw [HIS.out, if_neg (by rw [HQ.out]; simp), ← HI.out]; exact HJ.out, by omega, hO2⟩
            case measure => simp [RowKit.intOf]; omega
    · have e1 : i = n := by omega
      subst e1
      go_wp2_with fail
      go_ret
      have e2 := HI.out
      rw [lieI_all] at e2
      subst e2
      exact ⟨_, rfl, hO⟩
end Go.Proofs.YtijknodekomdfaaGreatDoor
namespace Go.Proofs.YtijknodekomdfaaGreatDoor
open Go.RowKit Go.Lib Go.Shelf

theorem insPred9 (n : Nat) (hn : n < 16) (B : Nat) (l : List S) (w : World) (hc : w.cell? ⟨B, 0, none⟩ = some (.int .i64 n)) :
    PredK Tryz.prog 198 #[.pointer (some ⟨B, 0, none⟩)] vs (fun x => x >>> n != 0#16) l w := fun W x _ hk => by
  have hc' := hk.cell hc
  have hmin : min n 16 = n := by omega
  show Calls Tryz.prog 198 #[.int .u16 (sv x), .pointer (some ⟨B, 0, none⟩)] W fun e w' => e = .returned (.bool (x >>> n != 0#16)) ∧ Keeps W w'
  go_enter Tryz.func198, Tryz.ntmps198
  go_wp2_with fail
  go_ret
  exact ⟨rfl, Keeps.refl _⟩
/-- every set lies among the first n servers -/
def insB (f : List S) (n : Nat) : Bool := !(f.any fun x => x >>> n != 0#16)
theorem inside9_any (n : Nat) (hn : n < 16) (a : Option Addr) (m c : Nat) (f : List S) (w : World) (h : Rd w a m c 1 (sl f)) :
    Calls Tryz.prog 156 #[.slice a m c, .int .i64 n] w fun e w' => e = .returned (.bool (insB f n)) ∧ Keeps w w' := by
  have hK := (Keeps.refl w).alloc (.cells #[.int .i64 n] 3)
  have hcon := containsFuncS_any a m c f (w.alloc (.cells #[.int .i64 n] 3)) 198 #[.pointer (some ⟨w.heap.size, 0, none⟩)] (fun x => x >>> n != 0#16) (h.keep hK) (enters_of Tryz.func198 (by kernel_rfl) rfl)
    (insPred9 n hn w.heap.size f _ (by rw [World.cell?_alloc_at _ _ _ _ rfl]; rfl))
  unfold insB
  generalize (f.any fun x => x >>> n != 0#16) = r at hcon ⊢
  have HC := Lib.hid hcon; clear hcon h
  go_enter Tryz.func156, Tryz.ntmps156
  go_wp2_with (go_at_call 46; refine HC.out.mono ?_; rintro e w' ⟨rfl, K2⟩)
  go_ret
  exact ⟨rfl, hK.trans K2⟩
end Go.Proofs.YtijknodekomdfaaGreatDoor
namespace Go.Proofs.YtijknodekomdfaaGreatDoor
open Go.RowKit Go.Lib Go.Shelf Go.Sort

def ltS (x y : S) : Bool := decide (cmpS x y < 0)
theorem ltS_iff (x y : S) : ltS x y = true ↔ cnt x < cnt y ∨ (cnt x = cnt y ∧ sv x < sv y) := by
  unfold ltS cmpS cmpI
  rw [decide_eq_true_eq]
  by_cases h : cnt x = cnt y
  · rw [if_pos h]; split <;> (try split) <;> omega
  · rw [if_neg h]; split <;> (try split) <;> omega
theorem ltS_f (x y : S) : ltS x y = false ↔ ¬ (cnt x < cnt y ∨ (cnt x = cnt y ∧ sv x < sv y)) := by
  rw [← ltS_iff]; simp
theorem swoS : SWO ltS where
  irrefl x := by rw [ltS_f]; omega
  trans x y z h1 h2 := by rw [ltS_iff] at *; omega
  ntrans x y z h1 h2 := by rw [ltS_f] at *; omega
theorem totS (x y : S) (h1 : ltS x y = false) (h2 : ltS y x = false) : x = y := by
  rw [ltS_f] at h1 h2
  exact sv_inj.1 (by omega)
def msort (l : List S) : List S := l.mergeSort fun x y => !ltS y x

theorem own_put {e : TypeId} {w0 w : World} {g n cap : Nat} {l : List S} (h : Own e 1 w0 w (.slice (some ⟨g, 0, none⟩) n cap) n (sl l)) (d : Array S) (k : Nat) (hk : k ≤ d.size) (hkc : k ≤ cap) (q : Nat) (os : Array Obj) (hdn : d.size ≤ cap) :
    Own e 1 w0 (grow (putRow vs (Sort.ahead w q) g 0 d) os) (.slice (some ⟨g, 0, none⟩) k cap) k (sl (d.toList.take k)) := by
  obtain ⟨⟨h1, h2⟩, hK⟩ := h
  rcases h2 with ⟨h', _⟩ | ⟨g', cap', cur, h', hb, hg, hnc, hcm, hcs, htake⟩
  · simp at h'
  · simp only [Value.slice.injEq, Option.some.injEq, Addr.mk.injEq, and_true, true_and] at h'
    obtain ⟨rfl, rfl⟩ := h'
    have hgl := (Array.getElem?_eq_some_iff.1 hg).1
    have hheap : (grow (putRow vs (Sort.ahead w q) g 0 d) os).heap = (w.heap.modify g (onCells (putCells vs 0 d))) ++ os := rfl
    refine ⟨⟨by simp; omega, .inr ⟨g, cap, putCells vs 0 d cur, rfl, hb, ?_, hkc, hcm, ?_, ?_⟩⟩, ?_⟩
    · rw [hheap, Array.getElem?_append_left (by simpa using hgl), Array.getElem?_modify, if_pos rfl, hg]; rfl
    · simpa [putCells] using hcs
    · apply List.ext_getElem?
      intro j
      simp only [putCells, Array.toList_mapIdx, List.getElem?_take, List.getElem?_mapIdx, Array.getElem?_toList, sl, List.getElem?_map, Nat.mul_one]
      by_cases hj : j < k
      · have hjd : j < d.size := by omega
        have hjc : j < cur.size := by rw [hcs]; omega
        simp [hj, hjd, hjc, vs]
      · simp [hj]
    · refine ⟨hK.below.os, hK.below.tape, hK.below.output, ?_, fun i hi => ?_⟩
      · have := hK.size; rw [hheap]; simp; omega
      · have hs := hK.size
        rw [hheap, Array.getElem?_append_left (by simp; omega), Array.getElem?_modify, if_neg (by omega)]
        exact hK.below.block i hi
theorem own_holds {e : TypeId} {w0 w : World} {g n cap : Nat} {l : List S} (h : Own e 1 w0 w (.slice (some ⟨g, 0, none⟩) n cap) n (sl l)) : Holds vs w g 0 l.toArray ∧ g < w.heap.size := by
  have hl : l.length = n := by have := h.1.1; simpa using this
  refine ⟨fun j hj => ?_, (h.1.lt g rfl).2⟩
  have hj' : j < n := by simpa [hl] using hj
  refine ⟨?_, by rw [Nat.zero_add]; exact h.1.frozenAt j⟩
  rw [Nat.zero_add, h.1.cellAt j (by omega), sl]
  simp [show j < l.length by omega, vs]

theorem cmpLaysS (blk off size : Nat) (w : World) : CmpLays1 Tryz.prog 44 #[] vs cmpS blk off size w :=
  fun _ _ _ _ x y => (compare_grown x y _).mono fun _ _ h => h

theorem sortFunc_any (w0 w : World) (v : Value) (n : Nat) (l : List S) (h : Own 31 1 w0 w v n (sl l)) (hn : n ≤ 1000000) :
    Calls Tryz.prog 43 #[v, .func (.func 44) #[] #[]] w fun e w' => e = .returned (.tuple #[]) ∧ Own 31 1 w0 w' v n (sl (msort l)) := by
  have hl : l.length = n := by have := h.1.1; simpa using this
  have h0 := h
  rcases h.1.2 with ⟨rfl, rfl⟩ | ⟨g, cap, cur, rfl, hb, hg, hnc, hcm, hcs, htake⟩
  · have hl0 : l = [] := List.eq_nil_of_length_eq_zero hl
    subst hl0
    refine (AnyF.slices_SortFunc_none { sortS with } none 0 (.func (.func 44) #[] #[]) w).mono fun e w' ⟨he, hw⟩ => ⟨he, ?_⟩
    subst hw
    rw [show msort [] = [] from by simp [msort]]
    exact h0
  · obtain ⟨hH, hblk⟩ := own_holds h0
    have eg : ∀ args w, (callFunc 44 args).run Tryz.prog w = .ok (.enter 44 args) w := enters_of Tryz.func44 (by kernel_rfl) rfl
    have hcon := Any.slices_SortFunc_total sortS vs (fun _ => rfl) cmpS swoS 44 #[] g 0 cap l.toArray w eg (cmpLaysS g 0 l.toArray.size w) hH hblk (by simp; omega) totS
    have e1 : l.toArray.size = n := by simpa using hl
    rw [e1] at hcon
    refine Calls.mono (show Calls Tryz.prog 43 _ _ _ from hcon) fun e w' ⟨he, q, os, hw⟩ => ⟨he, ?_⟩
    subst hw
    have hms : (msort l).length = n := by rw [msort, List.length_mergeSort, hl]
    have := own_put h0 (msort l).toArray n (by simp; omega) hnc q os (by simp; omega)
    rw [List.take_of_length_le (by simp; omega)] at this
    exact this

/-- runs of equals, each once -/
def compactL (l : List S) : List S := compactUpTo l.toArray l.length
theorem compactL_le (l : List S) : (compactL l).length ≤ l.length := by
  unfold compactL compactUpTo
  rw [List.length_map]
  exact Nat.le_trans (List.length_filter_le _ _) (by simp)
theorem compactL_small (l : List S) (h : l.length < 2) : compactL l = l := by
  match l, h with
  | [], _ => rfl
  | [x], _ => rfl

theorem compact_any (w0 w : World) (v : Value) (n : Nat) (l : List S) (h : Own 31 1 w0 w v n (sl l)) (hn : n ≤ 1000000) :
    Calls Tryz.prog 45 #[v] w fun e w' => ∃ v', e = .returned v' ∧ Own 31 1 w0 w' v' (compactL l).length (sl (compactL l)) := by
  have hl : l.length = n := by have := h.1.1; simpa using this
  by_cases h2 : n < 2
  · rw [compactL_small l (by omega), hl]
    have H := Lib.hid h
    obtain ⟨a, c, rfl, _⟩ := h.rd
    have hlt : ((n : Int) < 2) := by omega
    clear h hl hn
    go_enter Tryz.func45, Tryz.ntmps45
    go_wp2
    go_ret
    exact ⟨_, rfl, H.out⟩
  · have h0 := h
    rcases h.1.2 with ⟨rfl, rfl⟩ | ⟨g, cap, cur, rfl, hb, hg, hnc, hcm, hcs, htake⟩
    · omega
    · obtain ⟨hH, hblk⟩ := own_holds h0
      have heq : EqlAt Tryz.prog 31 vs (fun x y => decide (x = y)) := ⟨fun x y w => by
        have := (EqlAt.intD Tryz.prog 31 .u16).1 (sv x) (sv y) w
        simpa [vs, sv_inj] using this, fun op a b x y w => by exact (EqlAt.intD Tryz.prog 31 .u16).2 op a b (sv x) (sv y) w⟩
      have hne : NeqAt Tryz.prog 31 vs (fun x y => decide (x = y)) := ⟨fun x y w => by
        have := (NeqAt.intD Tryz.prog 31 .u16).1 (sv x) (sv y) w
        simpa [vs, sv_inj] using this, fun op a b x y w => by exact (NeqAt.intD Tryz.prog 31 .u16).2 op a b (sv x) (sv y) w⟩
      have hcon := AnyE.slices_Compact compS vs (fun _ => rfl) heq hne 0#16 Tryz.zeroValue31 g 0 cap l.toArray w hH (by simp; omega) (by simp; omega)
      have e1 : l.toArray.size = n := by simpa using hl
      rw [e1] at hcon
      refine Calls.mono (show Calls Tryz.prog 45 _ _ _ from hcon) fun e w' ⟨he, q, hw⟩ => ?_
      have hcl : compactUpTo l.toArray n = compactL l := by unfold compactL; rw [hl]
      rw [hcl] at he hw
      have hle := compactL_le l
      refine ⟨_, he, ?_⟩
      subst hw
      have := own_put h0 (compactL l ++ List.replicate (n - (compactL l).length) 0#16).toArray (compactL l).length (by simp) (by omega) q #[] (by simp; omega)
      rw [grow_empty] at this
      simpa using this

/-- sorted, each once -/
def sortS' (l : List S) : List S := compactL (msort l)
theorem msort_length (l : List S) : (msort l).length = l.length := by rw [msort, List.length_mergeSort]

theorem sorted_any (a : Option Addr) (n c : Nat) (l : List S) (w : World) (h : Rd w a n c 1 (sl l)) (hn : n ≤ 1000000) :
    Calls Tryz.prog 183 #[.slice a n c] w fun e w' => ∃ v, e = .returned v ∧ Own 31 1 w w' v (sortS' l).length (sl (sortS' l)) := by
  have hl := h.lenS
  have hc := cloneS_any a n c (sl l) w h (sl_oneCell l) hn
  have hs := fun w1 v (hO : Own 31 1 w w1 v n (sl l)) => sortFunc_any w w1 v n l hO hn
  have hk := fun w1 v (hO : Own 31 1 w w1 v n (sl (msort l))) => compact_any w w1 v n (msort l) hO hn
  unfold sortS'
  generalize msort l = m at hs hk ⊢
  have HC := Lib.hid hc; have HS := Lib.hid hs; have HK := Lib.hid hk; clear hc hs hk hl h
  go_enter Tryz.func183, Tryz.ntmps183
  go_wp2_with fail
  refine HC.out.mono ?_
  rintro e w1 ⟨v1, rfl, hO⟩
  go_wp2_with fail
  refine (HS.out _ _ hO).mono ?_
  rintro e w2 ⟨rfl, hO2⟩
  go_wp2_with fail
  refine (HK.out _ _ hO2).mono ?_
  rintro e w3 ⟨v3, rfl, hO3⟩
  go_wp2_with fail
  go_ret
  exact ⟨_, rfl, hO3⟩
end Go.Proofs.YtijknodekomdfaaGreatDoor
namespace Go.Proofs.YtijknodekomdfaaGreatDoor
open Go.RowKit Go.Lib Go.Shelf

/-- a list accepts a set -/
def accS (f : List S) (s : S) : Bool := f.any fun x => x &&& ~~~s == 0#16

theorem contains_any (a b : S) (w : World) : Calls Tryz.prog 166 #[.int .u16 (sv a), .int .u16 (sv b)] w fun e w' => e = .returned (.bool (b &&& ~~~a == 0#16)) ∧ w = w' := by
  go_enter Tryz.func166, Tryz.ntmps166
  go_wp2
  go_ret
  exact ⟨rfl, rfl⟩

theorem acceptsPred (s : S) (B : Nat) (l : List S) (w : World) (hc : w.cell? ⟨B, 0, none⟩ = some (.int .u16 (sv s))) :
    PredK Tryz.prog 165 #[.pointer (some ⟨B, 0, none⟩)] vs (fun x => x &&& ~~~s == 0#16) l w := fun W x _ hk => by
  have hc' := hk.cell hc
  have hcall := Lib.hid (contains_any s x)
  show Calls Tryz.prog 165 #[.int .u16 (sv x), .pointer (some ⟨B, 0, none⟩)] W _
  go_enter Tryz.func165, Tryz.ntmps165
  go_wp2_with (go_at_call 166; refine (hcall.out _).mono ?_; rintro e w' ⟨rfl, rfl⟩)
  go_ret
  exact ⟨rfl, Keeps.refl _⟩

theorem accepts_any (a : Option Addr) (n c : Nat) (l : List S) (s : S) (w : World) (h : Rd w a n c 1 (sl l)) :
    Calls Tryz.prog 101 #[.slice a n c, .int .u16 (sv s)] w fun e w' => e = .returned (.bool (accS l s)) ∧ Keeps w w' := by
  have eg : ∀ args w, (callFunc 165 args).run Tryz.prog w = .ok (.enter 165 args) w := enters_of Tryz.func165 (by kernel_rfl) rfl
  have hK := (Keeps.refl w).alloc (.cells #[.int .u16 (sv s)] 31)
  have hcon := containsFuncS_any a n c l (w.alloc (.cells #[.int .u16 (sv s)] 31)) 165 #[.pointer (some ⟨w.heap.size, 0, none⟩)] (fun x => x &&& ~~~s == 0#16) (h.keep hK) eg
    (acceptsPred s w.heap.size l _ (by rw [World.cell?_alloc_at _ _ _ _ rfl]; rfl))
  change Calls _ _ _ _ (fun e w' => e = .returned (.bool (accS l s)) ∧ _) at hcon
  generalize accS l s = r at hcon ⊢
  have HC := Lib.hid hcon; clear hcon eg h
  go_enter Tryz.func101, Tryz.ntmps101
  go_wp2_with (go_at_call 46; refine HC.out.mono ?_; rintro e w' ⟨rfl, K2⟩)
  go_ret
  exact ⟨rfl, hK.trans K2⟩

/-- what least gathers -/
def leastR : List S → List S → List S
  | acc, [] => acc
  | acc, s :: rest => if accS acc s then leastR acc rest else leastR (acc ++ [s]) rest
/-- the minimal sets, as the program finds them -/
def leastP (l : List S) : List S := leastR [] (sortS' l)

set_option maxHeartbeats 800000 in
theorem least_any (a : Option Addr) (n c : Nat) (l : List S) (w : World) (h : Rd w a n c 1 (sl l)) (hn : n ≤ 1000000) :
    Calls Tryz.prog 112 #[.slice a n c] w fun e w' => ∃ v, e = .returned v ∧ Own 31 1 w w' v (leastP l).length (sl (leastP l)) := by
  have hs := sorted_any a n c l w h hn
  have hlen : (sortS' l).length ≤ 1000000 := by
    have h1 := compactL_le (msort l)
    have h2 := msort_length l
    have h3 := h.lenS
    unfold sortS'; omega
  unfold leastP
  generalize sortS' l = m at hs hlen ⊢
  have HS := Lib.hid hs; clear hs h
  go_enter Tryz.func112, Tryz.ntmps112
  go_wp2_with fail
  refine HS.out.mono ?_
  rintro e w1 ⟨v1, rfl, hO⟩
  obtain ⟨a1, c1, rfl, hR⟩ := hO.rd
  have s1 := hR.small
  go_wp2_with fail
  go_loopw [3, 9] (fun u v wr => ∃ (k : Nat) (acc : List S), k ≤ m.length ∧ v = .int .i64 k ∧ acc.length ≤ k ∧ Own 31 1 w1 wr u acc.length (sl acc) ∧ Hid (leastR [] m = leastR acc (m.drop k))) (fun _ v _ => m.length - (RowKit.intOf v).toNat)
  case atStart => exact ⟨0, [], Nat.zero_le _, rfl, Nat.zero_le _, Own.nil _ _ (Keeps.refl _), rfl⟩
  case round =>
    obtain ⟨k, acc, hk, rfl, hak, hA, HI⟩ := hrel
    by_cases hlt : k < m.length
    · have hc := (hR.keep hA.2).at hlt
      have ha := hR.isSome (by omega)
      obtain ⟨a2, c2, rfl, hRa⟩ := hA.rd
      have hcall := fun W (K : Keeps wr W) => accepts_any a2 acc.length c2 acc (at_ m k) W (hRa.keep K)
      cases hq : accS acc (at_ m k) with
      | true =>
        rw [hq] at hcall
        have HC := Lib.hid hcall; have HQ := Lib.hid hq; clear hcall hq
        go_wp2_with (go_at_call 101; refine (HC.out _ (Keeps.refl _)).mono ?_; rintro e w2 ⟨rfl, K2⟩)
        go_roundw
        case rel => exact ⟨k + 1, acc, by omega, by go_num, by omega, hA.keep K2, hrfl <| by rw [HI.out, drop_at m k hlt, leastR, if_pos HQ.out]⟩
        case measure => simp [RowKit.intOf]; omega
      | false =>
        rw [hq] at hcall
        have HC := Lib.hid hcall; have HQ := Lib.hid hq; clear hcall hq
        go_wp2_with (first | (go_at_call 101; refine (HC.out _ (Keeps.refl _)).mono ?_; rintro e w2 ⟨rfl, K2⟩) | (at_builtin; refine wp_app tyS rfl _ _ rfl ((hA.keep K2).alloc _) rfl rfl (rd_new _ 1 _ [.int .u16 (sv (at_ m k))] 1 (by decide) rfl) (sl_oneCell [at_ m k]) ?_ ?_))
        · omega
        · intro v' w3 hO3 _
          go_wp2
          go_roundw
          case rel => exact ⟨k + 1, acc ++ [at_ m k], by omega, by go_num, by simp; omega, hO3.snoc, hrfl <| by rw [HI.out, drop_at m k hlt, leastR, if_neg (by rw [HQ.out]; simp)]⟩
          case measure => simp [RowKit.intOf]; omega
    · go_wp2
      go_ret
      refine ⟨_, rfl, ?_⟩
      rw [HI.out, drop_all m k (by omega), leastR]
      exact hA.since hO.2

/-- a list and an error number come back -/
def RetS (w0 : World) (r : List S × Int) (e : Ending) (w' : World) : Prop :=
  ∃ v, e = .returned (.tuple #[v, .int .i64 r.2]) ∧ Own 31 1 w0 w' v r.1.length (sl r.1)
def limS (l : List S) : List S × Int := if 400 < l.length then ([], 3) else (l, 0)
theorem limited_any (v : Value) (l : List S) (w0 w : World) (h : Own 31 1 w0 w v l.length (sl l)) :
    Calls Tryz.prog 127 #[v] w fun e w' => RetS w0 (limS l) e w' := by
  obtain ⟨a, c, rfl, hR⟩ := h.rd
  have H := Lib.hid h; clear h hR
  by_cases h4 : 400 < l.length
  · have e1 : limS l = ([], 3) := if_pos h4
    rw [e1]
    clear e1
    go_enter Tryz.func127, Tryz.ntmps127
    go_wp2
    go_ret2
    exact ⟨_, rfl, Own.nil _ _ H.out.2⟩
  · have e1 : limS l = (l, 0) := if_neg h4
    rw [e1]
    clear e1
    go_enter Tryz.func127, Tryz.ntmps127
    go_wp2
    go_ret2
    exact ⟨_, rfl, H.out⟩
end Go.Proofs.YtijknodekomdfaaGreatDoor
namespace Go.Proofs.YtijknodekomdfaaGreatDoor
open Go.RowKit Go.Lib Go.Shelf

@[go_sem] theorem sv_and_out (x : S) : bits .and .u16 (sv x) 61440 = sv (x &&& 61440#16) := by
  have : (61440 : Int) = sv 61440#16 := rfl
  rw [this, sv_and]

theorem Rd.takeS {w : World} {a : Option Addr} {n c : Nat} {l : List S} (h : Rd w a n c 1 (sl l)) {i : Nat} (hi : i ≤ n) : Rd w a i c 1 (sl (l.take i)) := by
  have hl := h.lenS
  refine ⟨by simp; omega, by have := h.nc; omega, h.cm, fun h0 => h.isSome (by omega), fun j u hu => ?_⟩
  rw [sl_take, List.getElem?_take] at hu
  split at hu
  · exact h.cell j u hu
  · cases hu
/-- the union -/
def supR : S → List S → S
  | acc, [] => acc
  | acc, s :: rest => supR (acc ||| s) rest
def supS (l : List S) : S := supR 0#16 l

theorem support_any (a : Option Addr) (n c : Nat) (l : List S) (w : World) (h : Rd w a n c 1 (sl l)) :
    Calls Tryz.prog 121 #[.slice a n c] w fun e w' => e = .returned (.int .u16 (sv (supS l))) ∧ w = w' := by
  have L := Lib.hid h.lenS
  have s1 := h.small
  go_enter Tryz.func121, Tryz.ntmps121
  go_wp2
  go_loopw [3, 8] (fun u v wr => ∃ (k : Nat) (acc : S), k ≤ n ∧ v = .int .i64 k ∧ u = .int .u16 (sv acc) ∧ w = wr ∧ Hid (supS l = supR acc (l.drop k))) (fun _ v _ => n - (RowKit.intOf v).toNat)
  case atStart => exact ⟨0, 0#16, Nat.zero_le _, rfl, rfl, rfl, rfl⟩
  case round =>
    obtain ⟨k, acc, hk, rfl, rfl, rfl, HI⟩ := hrel
    by_cases hlt : k < n
    · have hc := h.at hlt
      have hs := h.isSome (by omega)
      have HJ : Hid (supS l = supR (acc ||| at_ l k) (l.drop (k + 1))) := by have := HI.out; rw [dropH L hlt] at this; exact this
      clear HI
      go_wp2
      go_roundw
      case rel => exact ⟨k + 1, _, by omega, rfl, rfl, trivial, HJ⟩
      case measure => simp [RowKit.intOf]; omega
    · have HJ : Hid (supS l = acc) := by have := HI.out; rw [dropN L hlt] at this; exact this
      clear HI
      go_wp2
      go_ret
      rw [HJ.out]
      exact ⟨rfl, rfl⟩

/-- the first pass: the error of range or of order -/
def val1 : Option S → List S → Int
  | _, [] => 0
  | p, s :: rest => if s &&& 61440#16 != 0#16 then 7 else if (match p with | none => false | some q => decide (0 ≤ cmpS q s)) then 1 else val1 (some s) rest
/-- the second pass: a set that contains an earlier one -/
def val2 : List S → List S → Int
  | _, [] => 0
  | pre, s :: rest => if accS pre s then 1 else val2 (pre ++ [s]) rest
def validS (l : List S) : Int := if l.length > 400 then 3 else if val1 none l = 0 then val2 [] l else val1 none l
def prevS (l : List S) (k : Nat) : Option S := if k = 0 then none else some (at_ l (k - 1))

set_option maxHeartbeats 1000000 in
theorem valid_any (a : Option Addr) (n c : Nat) (l : List S) (w : World) (h : Rd w a n c 1 (sl l)) :
    Calls Tryz.prog 120 #[.slice a n c] w fun e w' => e = .returned (.int .i64 (validS l)) ∧ Keeps w w' := by
  have L := Lib.hid h.lenS
  have s1 := h.small
  have hcmp := fun x y W => compare_any x y W
  have HC := Lib.hid hcmp; clear hcmp
  by_cases h400 : n > 400
  · have hv : validS l = 3 := by unfold validS; rw [if_pos (by have := L.out; omega)]
    rw [hv]
    have h1 : (400 : Int) < n := by omega
    clear hv h400
    go_enter Tryz.func120, Tryz.ntmps120
    go_wp2
    go_ret
    exact ⟨rfl, Keeps.refl _⟩
  · have hv : Hid (validS l = if val1 none l = 0 then val2 [] l else val1 none l) := by show validS l = _; unfold validS; rw [if_neg (by have := L.out; omega)]
    have h1 : ¬ (400 : Int) < n := by omega
    go_enter Tryz.func120, Tryz.ntmps120
    go_wp2
    go_loopw [12] (fun v wr => ∃ (k : Nat), k ≤ n ∧ v = .int .i64 k ∧ Keeps w wr ∧ Hid (val1 none l = val1 (prevS l k) (l.drop k))) (fun v _ => n - (RowKit.intOf v).toNat)
    case atStart => exact ⟨0, Nat.zero_le _, rfl, Keeps.refl _, rfl⟩
    case round =>
      obtain ⟨k, hk, rfl, K1, HI⟩ := hrel
      by_cases hlt : k < n
      · have hc := (h.keep K1).at hlt
        have hs := (h.keep K1).isSome (by omega)
        have hst := HI.out
        rw [dropH L hlt] at hst
        by_cases hout : (at_ l k &&& 61440#16 != 0#16) = true
        · have HV : Hid (validS l = 7) := by
            have e : val1 none l = 7 := by rw [hst]; unfold val1; rw [if_pos hout]
            show validS l = 7; rw [hv.out, e]; rfl
          clear hst HI
          go_wp2
          go_ret
          rw [HV.out]
          exact ⟨rfl, K1⟩
        · have hout' : (at_ l k &&& 61440#16 != 0#16) = false := by simpa using hout
          rcases Nat.eq_zero_or_pos k with rfl | hp
          · have HJ : Hid (val1 none l = val1 (prevS l 1) (l.drop 1)) := by
              show _ = _
              rw [hst]; conv => lhs; unfold val1
              rw [if_neg hout]; rfl
            clear hst HI hout
            go_wp2
            go_roundw
            case rel => exact ⟨1, by omega, rfl, K1, HJ⟩
            case measure => simp [RowKit.intOf]; omega
          · have hcp := (h.keep K1).at (show k - 1 < n by omega)
            have hk0 : (0 : Int) < k := by omega
            have hprev : prevS l k = some (at_ l (k - 1)) := by unfold prevS; rw [if_neg (by omega)]
            rw [hprev] at hst
            by_cases hge : 0 ≤ cmpS (at_ l (k - 1)) (at_ l k)
            · have HV : Hid (validS l = 1) := by
                have e : val1 none l = 1 := by rw [hst]; unfold val1; rw [if_neg hout, if_pos (by simpa using hge)]
                show validS l = 1; rw [hv.out, e]; rfl
              clear hst HI hprev
              go_wp2_with (go_at_call 44; refine (HC.out _ _ _).mono ?_; rintro e w2 ⟨rfl, K2⟩)
              go_ret
              rw [HV.out]
              exact ⟨rfl, K1.trans K2⟩
            · have HJ : Hid (val1 none l = val1 (prevS l (k + 1)) (l.drop (k + 1))) := by
                show _ = _
                rw [hst]; conv => lhs; unfold val1
                rw [if_neg hout, if_neg (by simpa using hge)]
                unfold prevS; rw [if_neg (by omega)]; rfl
              clear hst HI hprev
              go_wp2_with (go_at_call 44; refine (HC.out _ _ _).mono ?_; rintro e w2 ⟨rfl, K2⟩)
              go_roundw
              case rel => exact ⟨k + 1, by omega, rfl, K1.trans K2, HJ⟩
              case measure => simp [RowKit.intOf]; omega
      · have HV1 : Hid (validS l = val2 [] l) := by
          have e : val1 none l = 0 := by have := HI.out; rw [dropN L hlt] at this; simpa [val1] using this
          show validS l = _; rw [hv.out, if_pos e]
        have hkn : n = k := by omega
        subst hkn
        clear HI
        go_wp2
        go_loopw [37] (fun v wx => ∃ (i : Nat), i ≤ n ∧ v = .int .i64 i ∧ Keeps w wx ∧ Hid (val2 [] l = val2 (l.take i) (l.drop i))) (fun v _ => n - (RowKit.intOf v).toNat)
        case atStart => exact ⟨0, Nat.zero_le _, rfl, K1, rfl⟩
        case round =>
          obtain ⟨i, hi, rfl, K2, HI⟩ := hrel
          by_cases hlt2 : i < n
          · have hc := (h.keep K2).at hlt2
            have hs := (h.keep K2).isSome (by omega)
            have hacc := accepts_any a i c (l.take i) (at_ l i) wr ((h.keep K2).takeS (by omega))
            have hst := HI.out
            rw [dropH L hlt2] at hst
            have HA := Lib.hid hacc
            have hnc := h.nc
            have hcm := h.cm
            by_cases hac : accS (l.take i) (at_ l i) = true
            · have HV : Hid (validS l = 1) := by
                have e : val2 [] l = 1 := by rw [hst]; unfold val2; rw [if_pos hac]
                show validS l = 1; rw [HV1.out, e]
              clear hst HI hacc
              go_wp2_with (go_at_call 101; refine HA.out.mono ?_; rintro e w2 ⟨rfl, K3⟩)
              go_ret
              rw [HV.out]
              exact ⟨rfl, K2.trans K3⟩
            · have HJ : Hid (val2 [] l = val2 (l.take (i + 1)) (l.drop (i + 1))) := by
                show _ = _
                rw [hst]; conv => lhs; unfold val2
                rw [if_neg hac, takeH L hlt2]
              have hac' : accS (l.take i) (at_ l i) = false := by simpa using hac
              clear hst HI hacc hac
              go_wp2_with (go_at_call 101; refine HA.out.mono ?_; rintro e w2 ⟨rfl, K3⟩)
              go_roundw
              case rel => exact ⟨i + 1, by omega, rfl, K2.trans K3, HJ⟩
              case measure => simp [RowKit.intOf]; omega
          · have HV : Hid (validS l = 0) := by
              have e : val2 [] l = 0 := by have := HI.out; rw [dropN L hlt2] at this; simpa [val2] using this
              show validS l = 0; rw [HV1.out, e]
            clear HI
            go_wp2
            go_ret
            rw [HV.out]
            exact ⟨rfl, K2⟩
end Go.Proofs.YtijknodekomdfaaGreatDoor
namespace Go.Proofs.YtijknodekomdfaaGreatDoor
open Go.RowKit Go.Lib Go.Shelf

def chk39 (f b : List S) (n : Nat) : Int := if validS f ≠ 0 then validS f else if (insB f n && insB b n) = true then 0 else 7
theorem check9_any (n : Nat) (hn : n < 16) (a1 : Option Addr) (m1 c1 : Nat) (f : List S) (a2 : Option Addr) (m2 c2 : Nat) (b : List S) (w : World) (h1 : Rd w a1 m1 c1 1 (sl f)) (h2 : Rd w a2 m2 c2 1 (sl b)) :
    Calls Tryz.prog 86 #[.slice a1 m1 c1, .slice a2 m2 c2, .int .i64 n] w fun e w' => e = .returned (.int .i64 (chk39 f b n)) ∧ Keeps w w' := by
  have e1 := valid_any a1 m1 c1 f w h1
  have e2 := fun W (k : Keeps w W) => inside9_any n hn a1 m1 c1 f W (h1.keep k)
  have e3 := fun W (k : Keeps w W) => inside9_any n hn a2 m2 c2 b W (h2.keep k)
  unfold chk39
  generalize validS f = v at *
  generalize insB f n = q1 at *
  generalize insB b n = q2 at *
  have E1 := Lib.hid e1; have E2 := Lib.hid e2; have E3 := Lib.hid e3
  clear e1 e2 e3 h1 h2
  by_cases hv : v = 0
  · subst hv
    cases q1 <;> cases q2
    all_goals
      go_enter Tryz.func86, Tryz.ntmps86
      go_wp2_with fail
      refine E1.out.mono ?_
      rintro e W1 ⟨rfl, K1⟩
      go_wp2_with fail
      refine (E2.out _ K1).mono ?_
      rintro e W2 ⟨rfl, K2⟩
      go_wp2_with fail
      first
        | (go_ret; exact ⟨rfl, K1.trans K2⟩)
        | (refine (E3.out _ (K1.trans K2)).mono ?_
           rintro e W3 ⟨rfl, K3⟩
           go_wp2_with fail
           go_ret
           exact ⟨rfl, (K1.trans K2).trans K3⟩)
  · rw [if_pos hv]
    have hb : (v == 0) = false := by simpa using hv
    have hb2 : (v != 0) = true := by simpa using hv
    go_enter Tryz.func86, Tryz.ntmps86
    go_wp2_with fail
    refine E1.out.mono ?_
    rintro e W1 ⟨rfl, K1⟩
    go_wp2_with fail
    go_ret
    exact ⟨rfl, K1⟩
end Go.Proofs.YtijknodekomdfaaGreatDoor
