/- Texts joined into one (wip/bin/pack.py): TopC. -/
import Derived.Test.YtijknodekomdfaaGreatDoorKTa
import Derived.Test.YtijknodekomdfaaGreatDoorKTh
import Derived.Test.YtijknodekomdfaaGreatDoorKL
import Derived.Test.YtijknodekomdfaaGreatDoorKTg
import Derived.Test.YtijknodekomdfaaGreatDoorKTd
import Derived.Test.YtijknodekomdfaaGreatDoorKTe
import Derived.Lib.QuietBelow
/- The statement TopCanonical. -/
namespace Go.Proofs.YtijknodekomdfaaGreatDoor
open Go.RowKit Go.Lib Go.Shelf
theorem al_smallT {wt : S} {byz R Q : List S} (hR : R.length ≤ 32) (hQ : Q.length ≤ 32) (hb : byz.length ≤ 8) : (allL wt byz R Q).length ≤ 9000000 := by
  unfold allL
  rw [List.length_append]
  have h1 := flatMap_le R (fun r => Q.flatMap (al1 wt byz r)) (32 * 8) (fun r _ => Nat.le_trans (flatMap_le Q (al1 wt byz r) 8 (fun q _ => by unfold al1; rw [List.length_map]; exact hb)) (Nat.mul_le_mul hQ (Nat.le_refl _)))
  have h2 := flatMap_le Q (fun p => Q.flatMap (al2 byz p)) (32 * 8) (fun r _ => Nat.le_trans (flatMap_le Q (al2 byz r) 8 (fun q _ => by unfold al2; rw [List.length_map]; exact Nat.le_trans (List.length_filter_le _ _) hb)) (Nat.mul_le_mul hQ (Nat.le_refl _)))
  have h3 : R.length * (32 * 8) ≤ 32 * (32 * 8) := Nat.mul_le_mul hR (Nat.le_refl _)
  have h4 : Q.length * (32 * 8) ≤ 32 * (32 * 8) := Nat.mul_le_mul hQ (Nat.le_refl _)
  omega
theorem eF_snoc (E : List S) (i : Nat) (h : i < E.length) : eF (E.take (i + 1)) = eF (E.take i) ++ [(at_ E i, 0#16)] := by
  unfold eF; rw [take_at E i h, List.map_append]; rfl
/-- what is known of the run -/
structure TC (n : Nat) (E R : List S) (F : List F2) (f3 : Bool) (e : Int) (P : List It) : Prop where
  v : cvS 2 (fullS n) R R F = 0
  saf : safe27 2 0#16 (fullS n) R R F = f3
  dis : disOK E R = f3
  fr : ((covRes n E 3).2 == 13) = f3
  liv : liv27 2 (fullS n) R R F = true
  av : availS R E = true
  pe : (proS 2 0#16 (fullS n) R R F).2 = e
  pp : (proS 2 0#16 (fullS n) R R F).1 = P
  et : f3 = true → e = 0
  ef : f3 = false → e = 12
  chk : f3 = true → chkS 2 0#16 (fullS n) R R F P = true
  al : (allL 0#16 (byz27 2 (fullS n) F) R R).length ≤ 9000000
theorem tc_of {n : Nat} (h1 : 1 ≤ n) (hn : n ≤ 12) {E : List S} (h : EOk n E) (h0 : at_ (cR n E) 0 ≠ 0#16) :
    TC n E (cR n E) (eF E) (disOK E (cR n E)) (proS 2 0#16 (fullS n) (cR n E) (cR n E) (eF E)).2 (proS 2 0#16 (fullS n) (cR n E) (cR n E) (eF E)).1 := by
  obtain ⟨p1, p2⟩ := cR_pro h1 hn h h0
  have hl := cR_len h
  have hb := byz27_le 2 (fullS n) (eF E)
  have he : (eF E).length = E.length := List.length_map ..
  have := h.len
  exact ⟨cR_cv h1 hn h h0, cR_safe h1 hn h h0, rfl, (cR_free hn h).symm, cR_live h1 hn h h0, cR_avail h, rfl, rfl, fun e => (p1 e).1, p2, fun e => (p1 e).2, al_smallT (by omega) (by omega) (by omega)⟩
set_option maxRecDepth 20000 in
set_option maxHeartbeats 8000000 in
theorem topc_core (x : Int) (n : Nat) (am : Option Addr) (cm : Nat) (m : List F2) (w : World) (hx : x % 6 = (n : Int) - 1) (h1 : 1 ≤ n) (h6 : n ≤ 6) (hx0 : 0 ≤ x) (hT : Tab w) (hm : Rd w am m.length cm 2 (fl m)) :
    Calls Tryz.prog 3 #[.int .u8 x, .slice am m.length cm] w fun e w' => e = .returned (.bool true) ∧ Keeps w w' := by
  have hE := eOk n (by omega) m
  have hcan := canon_ok (by omega) hE
  have hne := cR_ne hE
  have hlen := cR_len hE
  have hzero := fun h0 => cR_zero (n := n) (by omega) hE h0
  have htc := fun h0 => tc_of h1 (by omega) hE h0
  have hEl := hE.len
  have hml := madeF_le n m
  have hma := fun W (k : Keeps w W) => made19_any n am cm m W (hm.keep k) h1 (by omega)
  have hby := fun a c W (h : Rd W a (madeF n m).length c 2 (fl (madeF n m))) => faultByz_any a (madeF n m).length c (madeF n m) W h (by omega)
  unfold eS at *
  have HMA := Lib.hid hma; have HBY := Lib.hid hby
  clear hE hma hby hm
  generalize madeF n m = ml at *
  generalize bzP (sortS' (fB ml)) = E at *
  generalize hRg : cR n E = R at *
  generalize hFg : eF E = F at *
  have HCAN := Lib.hid hcan; have HNE := Lib.hid hne; have HZERO := Lib.hid hzero; have HTC := Lib.hid htc; have HFG := Lib.hid hFg; have HEL := Lib.hid hEl; have HRL := Lib.hid hlen
  clear hcan hne hzero htc hRg hFg hEl hml hlen
  have KK := Keeps.refl w
  go_enter Tryz.func3, Tryz.ntmps3
  go_wp2_with fail
  refine (awakeT_any _ hT).mono ?_
  rintro e W1 ⟨rfl, K⟩
  replace hT := hT.keep K; replace KK := KK.trans K; clear K
  by_cases h20 : 6 < m.length
  · have h20' : (6 : Int) < (m.length : Int) := by omega
    go_wp2_with fail
    refine (awakeT_any _ hT).mono ?_
    rintro e w4 ⟨rfl, K⟩
    go_wp2_with fail
    go_ret
    exact ⟨rfl, KK.trans K⟩
  have h20' : ¬ (6 : Int) < (m.length : Int) := by omega
  go_wp2_with fail
  have e1 : 1 + ((n : Int) - 1) = (n : Int) := by omega
  simp only [e1]
  clear e1 hx hx0 h20 h20'
  refine (HMA.out _ KK).mono ?_
  rintro e W2 ⟨v, rfl, hO⟩
  have K := hO.2
  obtain ⟨al, cl, rfl, hml⟩ := hO.rd
  clear hO
  replace hT := hT.keep K; replace KK := KK.trans K; clear K HMA
  go_wp2_with fail
  refine (HBY.out _ _ _ hml).mono ?_
  rintro e W3 ⟨v, rfl, hO⟩
  have K := hO.2
  obtain ⟨ae, ce, rfl, hE⟩ := hO.rd
  clear hO hml
  replace hT := hT.keep K; replace KK := KK.trans K; clear K HBY
  go_wp2_with fail
  have hcc := canonical_any (n : Int) ae E.length ce E W3 hE (by have := HEL.out; omega)
  rw [HCAN.out] at hcc
  refine hcc.mono ?_
  rintro e W4 ⟨v, rfl, hO⟩
  clear hcc
  have K := hO.2
  have hR : Row0 31 1 W4 v R.length (sl R) := hO.row0
  obtain ⟨ar, cr, rfl, _⟩ := hO.rd
  clear hO
  replace hT := hT.keep K; replace KK := KK.trans K; replace hE := hE.keep K; clear K HCAN
  have hp : 0 < R.length := List.length_pos_iff.2 HNE.out
  have hp' : (0 : Int) < (R.length : Int) := by omega
  have g0 := hR.rd.at hp
  have ga := hR.rd.isSome (by omega)
  by_cases h0 : at_ R 0 = 0#16
  · rw [h0] at g0
    go_wp2_with fail
    have hcf := free_any ae E.length ce E W4 (n : Int) 1 hE (by have := HEL.out; omega)
    rw [HZERO.out h0] at hcf
    refine hcf.mono ?_
    rintro e W5 ⟨rfl, K⟩
    go_wp2_with fail
    go_ret
    exact ⟨rfl, KK.trans K⟩
  have hb0 : (at_ R 0 == 0#16) = false := by simpa using h0
  have htc := HTC.out h0
  clear HZERO HTC HNE h0
  generalize at_ R 0 = r0 at *
  go_wp2_with fail
  clear g0 ga hb0 hp'
  obtain ⟨f3, ee, P, htc⟩ : ∃ f3 ee P, TC n E R F f3 ee P := ⟨_, _, _, htc⟩
  have HTCX := Lib.hid htc; clear htc
  have hEL7 := HEL.out
  go_loopw [10, 57] (fun u v wr => ∃ i : Nat, i ≤ E.length ∧ v = .int .i64 i ∧ Own 34 2 W4 wr u (eF (E.take i)).length (fl (eF (E.take i)))) (fun _ v _ => E.length - (RowKit.intOf v).toNat)
  case atStart => exact ⟨0, Nat.zero_le _, rfl, Own.nil _ _ (Keeps.refl _)⟩
  case round =>
    obtain ⟨i, hi, rfl, hO⟩ := hrel
    obtain ⟨ao, co, rfl, _⟩ := hO.rd
    have KO := hO.2
    by_cases hlt : i < E.length
    · have g0 := (hE.keep KO).at hlt
      have hs := hE.isSome (by omega)
      have hst := eF_snoc E i hlt
      have hle : (eF (E.take i)).length ≤ 1000000 := by unfold eF; rw [List.length_map, List.length_take]; have := HEL.out; omega
      generalize at_ E i = y at *
      generalize eF (E.take i) = cur at *
      have HO := Lib.hid hO; have HST := Lib.hid hst; have HLC := Lib.hid hle
      clear hO hst hle
      go_wp2_with (at_builtin; refine wp_app tyF rfl _ _ rfl (HO.out.alloc _) rfl rfl (rd_new 34 2 _ [.int .u16 (sv y), .int .u16 0] 1 (by decide) rfl) (fl_oneCell [(y, 0#16)]) (by have := HLC.out; omega) ?_)
      intro v4 w4 hO4 _
      have HO4 := Lib.hid hO4
      clear hO4
      go_wp2_with fail
      go_roundw
      case rel => exact ⟨i + 1, by omega, by go_num, by rw [HST.out, fl_append, List.length_append]; exact HO4.out⟩
      case measure => simp [RowKit.intOf]; omega
    · have hii : E.take i = E := List.take_of_length_le (by omega)
      rw [hii, HFG.out] at hO ⊢
      have rf : Row0 34 2 wr (.slice ao F.length co) F.length (fl F) := hO.row0
      clear hO hii
      replace hT := hT.keep KO; replace KK := KK.trans KO; replace hE := hE.keep KO; replace hR := hR.keep KO; clear KO
      have hmin : min n 16 = n := by omega
      have hn8 := Blk.new wr 36 #[.string ⟨#[99]⟩, .int .i64 2, .int .u16 (sv (1#16 <<< n - 1#16)), .slice ar R.length cr, .slice ar R.length cr, .slice ao F.length co]
      have K := (Keeps.refl wr).alloc (.cells #[.string ⟨#[99]⟩, .int .i64 2, .int .u16 (sv (1#16 <<< n - 1#16)), .slice ar R.length cr, .slice ar R.length cr, .slice ao F.length co] 36)
      replace hT := hT.keep K; replace hE := hE.keep K; replace hR := hR.keep K; replace rf := rf.keep K; replace KK := KK.trans K; clear K
      have HFL : Hid (F.length ≤ 7) := by rw [← HFG.out]; unfold eF; rw [List.length_map]; exact HEL.out
      cases f3 with
      | true =>
        have hee := HTCX.out.et rfl
        subst hee
        go_wp2_with fail
        generalize wr.alloc (.cells #[.string ⟨#[99]⟩, .int .i64 2, .int .u16 (sv (1#16 <<< n - 1#16)), .slice ar R.length cr, .slice ar R.length cr, .slice ao F.length co] 36) = W5 at *
        generalize wr.heap.size = B at *
        have hcf := free_any ae E.length ce E W5 (n : Int) 3 hE (by omega)
        rw [HTCX.out.fr] at hcf
        refine hcf.mono ?_
        clear hcf
        rintro e W6 ⟨rfl, K⟩
        replace hT := hT.keep K; replace hE := hE.keep K; replace hR := hR.keep K; replace rf := rf.keep K; replace hn8 := hn8.keep K; replace KK := KK.trans K; clear K
        obtain ⟨c0, c1, c2, c3, c4, c5⟩ := hn8.c6
        go_wp2_with fail
        clear c0 c1 c2 c3 c4 c5
        have q := cProve_any (nm := ⟨#[99]⟩) 2 0#16 (1#16 <<< n - 1#16) (R := R) (Q := R) (F := F) W6 hT ⟨hR, hR, rf⟩ (by have := HRL.out; omega) (by have := HRL.out; omega) (by have := HFL.out; omega)
        have pe : (proS 2 0#16 (1#16 <<< n - 1#16) R R F).2 = _ := HTCX.out.pe
        have pp : (proS 2 0#16 (1#16 <<< n - 1#16) R R F).1 = _ := HTCX.out.pp
        refine q.mono ?_
        intro e W7 hq
        obtain ⟨v, he, ho⟩ := hq
        rw [pp] at ho
        rw [pe] at he
        have K := ho.2
        obtain ⟨ap, cp, rfl, rp⟩ := ho.rd
        subst he
        clear q ho pe pp
        replace hT := hT.keep K; replace hE := hE.keep K; replace hR := hR.keep K; replace rf := rf.keep K; replace hn8 := hn8.keep K; replace KK := KK.trans K; clear K
        obtain ⟨c0, c1, c2, c3, c4, c5⟩ := hn8.c6
        go_wp2_with fail
        clear c0 c1 c2 c3 c4 c5
        have q := configValid_any (nm := ⟨#[99]⟩) 2 (1#16 <<< n - 1#16) (R := R) (Q := R) (F := F) W7 ⟨hR.rd, hR.rd, rf.rd⟩
        rw [show cvS 2 (1#16 <<< n - 1#16) R R F = 0 from HTCX.out.v] at q
        refine q.mono ?_
        clear q
        rintro e W8 ⟨rfl, K⟩
        replace hT := hT.keep K; replace hE := hE.keep K; replace hR := hR.keep K; replace rf := rf.keep K; replace hn8 := hn8.keep K; replace rp := rp.keep K; replace KK := KK.trans K; clear K
        obtain ⟨c0, c1, c2, c3, c4, c5⟩ := hn8.c6
        go_wp2_with fail
        clear c0 c1 c2 c3 c4 c5
        have q := cSafe_any (nm := ⟨#[99]⟩) 2 0#16 (1#16 <<< n - 1#16) (R := R) (Q := R) (F := F) W8 hT ⟨hR, hR, rf⟩ (by have := HFL.out; omega)
        rw [show safe27 2 0#16 (1#16 <<< n - 1#16) R R F = _ from HTCX.out.saf] at q
        refine q.mono ?_
        clear q
        rintro e W9 ⟨rfl, K⟩
        replace hT := hT.keep K; replace hE := hE.keep K; replace hR := hR.keep K; replace rf := rf.keep K; replace hn8 := hn8.keep K; replace rp := rp.keep K; replace KK := KK.trans K; clear K
        go_wp2_with fail
        have q := dis_any ar R.length cr ae E.length ce R E W9 hR.rd hE
        rw [HTCX.out.dis] at q
        refine q.mono ?_
        clear q
        rintro e W10 ⟨rfl, rfl⟩
        obtain ⟨c0, c1, c2, c3, c4, c5⟩ := hn8.c6
        go_wp2_with fail
        clear c0 c1 c2 c3 c4 c5
        have q := live27_any (nm := ⟨#[99]⟩) 2 (1#16 <<< n - 1#16) (R := R) (Q := R) (F := F) W9 ⟨hR.rd, hR.rd, rf.rd⟩
        rw [show liv27 2 (1#16 <<< n - 1#16) R R F = true from HTCX.out.liv] at q
        refine q.mono ?_
        clear q
        rintro e W11 ⟨rfl, K⟩
        replace hT := hT.keep K; replace hE := hE.keep K; replace hR := hR.keep K; replace rf := rf.keep K; replace hn8 := hn8.keep K; replace rp := rp.keep K; replace KK := KK.trans K; clear K
        go_wp2_with fail
        have q := avail_any ar R.length cr ae E.length ce R E W11 hR.rd hE
        rw [HTCX.out.av] at q
        refine q.mono ?_
        clear q
        rintro e W12 ⟨rfl, K⟩
        replace hT := hT.keep K; replace hE := hE.keep K; replace hR := hR.keep K; replace rf := rf.keep K; replace hn8 := hn8.keep K; replace rp := rp.keep K; replace KK := KK.trans K; clear K
        obtain ⟨c0, c1, c2, c3, c4, c5⟩ := hn8.c6
        go_wp2_with fail
        clear c0 c1 c2 c3 c4 c5
        have q := cCheck_any (nm := ⟨#[99]⟩) 2 0#16 (1#16 <<< n - 1#16) (R := R) (Q := R) (F := F) P W12 hT ⟨hR, hR, rf⟩ rp (by have := HFL.out; omega) HTCX.out.al
        rw [show chkS 2 0#16 (1#16 <<< n - 1#16) R R F P = true from HTCX.out.chk rfl] at q
        refine q.mono ?_
        clear q
        rintro e W13 ⟨rfl, K⟩
        replace KK := KK.trans K
        go_wp2_with fail
        go_ret
        exact ⟨rfl, KK⟩
      | false =>
        have hee := HTCX.out.ef rfl
        subst hee
        go_wp2_with fail
        generalize wr.alloc (.cells #[.string ⟨#[99]⟩, .int .i64 2, .int .u16 (sv (1#16 <<< n - 1#16)), .slice ar R.length cr, .slice ar R.length cr, .slice ao F.length co] 36) = W5 at *
        generalize wr.heap.size = B at *
        have hcf := free_any ae E.length ce E W5 (n : Int) 3 hE (by omega)
        rw [HTCX.out.fr] at hcf
        refine hcf.mono ?_
        clear hcf
        rintro e W6 ⟨rfl, K⟩
        replace hT := hT.keep K; replace hE := hE.keep K; replace hR := hR.keep K; replace rf := rf.keep K; replace hn8 := hn8.keep K; replace KK := KK.trans K; clear K
        obtain ⟨c0, c1, c2, c3, c4, c5⟩ := hn8.c6
        go_wp2_with fail
        clear c0 c1 c2 c3 c4 c5
        have q := cProve_any (nm := ⟨#[99]⟩) 2 0#16 (1#16 <<< n - 1#16) (R := R) (Q := R) (F := F) W6 hT ⟨hR, hR, rf⟩ (by have := HRL.out; omega) (by have := HRL.out; omega) (by have := HFL.out; omega)
        have pe : (proS 2 0#16 (1#16 <<< n - 1#16) R R F).2 = _ := HTCX.out.pe
        have pp : (proS 2 0#16 (1#16 <<< n - 1#16) R R F).1 = _ := HTCX.out.pp
        refine q.mono ?_
        intro e W7 hq
        obtain ⟨v, he, ho⟩ := hq
        rw [pp] at ho
        rw [pe] at he
        have K := ho.2
        obtain ⟨ap, cp, rfl, rp⟩ := ho.rd
        subst he
        clear q ho pe pp
        replace hT := hT.keep K; replace hE := hE.keep K; replace hR := hR.keep K; replace rf := rf.keep K; replace hn8 := hn8.keep K; replace KK := KK.trans K; clear K
        obtain ⟨c0, c1, c2, c3, c4, c5⟩ := hn8.c6
        go_wp2_with fail
        clear c0 c1 c2 c3 c4 c5
        have q := configValid_any (nm := ⟨#[99]⟩) 2 (1#16 <<< n - 1#16) (R := R) (Q := R) (F := F) W7 ⟨hR.rd, hR.rd, rf.rd⟩
        rw [show cvS 2 (1#16 <<< n - 1#16) R R F = 0 from HTCX.out.v] at q
        refine q.mono ?_
        clear q
        rintro e W8 ⟨rfl, K⟩
        replace hT := hT.keep K; replace hE := hE.keep K; replace hR := hR.keep K; replace rf := rf.keep K; replace hn8 := hn8.keep K; replace rp := rp.keep K; replace KK := KK.trans K; clear K
        obtain ⟨c0, c1, c2, c3, c4, c5⟩ := hn8.c6
        go_wp2_with fail
        clear c0 c1 c2 c3 c4 c5
        have q := cSafe_any (nm := ⟨#[99]⟩) 2 0#16 (1#16 <<< n - 1#16) (R := R) (Q := R) (F := F) W8 hT ⟨hR, hR, rf⟩ (by have := HFL.out; omega)
        rw [show safe27 2 0#16 (1#16 <<< n - 1#16) R R F = _ from HTCX.out.saf] at q
        refine q.mono ?_
        clear q
        rintro e W9 ⟨rfl, K⟩
        replace hT := hT.keep K; replace hE := hE.keep K; replace hR := hR.keep K; replace rf := rf.keep K; replace hn8 := hn8.keep K; replace rp := rp.keep K; replace KK := KK.trans K; clear K
        go_wp2_with fail
        have q := dis_any ar R.length cr ae E.length ce R E W9 hR.rd hE
        rw [HTCX.out.dis] at q
        refine q.mono ?_
        clear q
        rintro e W10 ⟨rfl, rfl⟩
        obtain ⟨c0, c1, c2, c3, c4, c5⟩ := hn8.c6
        go_wp2_with fail
        clear c0 c1 c2 c3 c4 c5
        have q := live27_any (nm := ⟨#[99]⟩) 2 (1#16 <<< n - 1#16) (R := R) (Q := R) (F := F) W9 ⟨hR.rd, hR.rd, rf.rd⟩
        rw [show liv27 2 (1#16 <<< n - 1#16) R R F = true from HTCX.out.liv] at q
        refine q.mono ?_
        clear q
        rintro e W11 ⟨rfl, K⟩
        replace hT := hT.keep K; replace hE := hE.keep K; replace hR := hR.keep K; replace rf := rf.keep K; replace hn8 := hn8.keep K; replace rp := rp.keep K; replace KK := KK.trans K; clear K
        go_wp2_with fail
        have q := avail_any ar R.length cr ae E.length ce R E W11 hR.rd hE
        rw [HTCX.out.av] at q
        refine q.mono ?_
        clear q
        rintro e W12 ⟨rfl, K⟩
        replace hT := hT.keep K; replace hE := hE.keep K; replace hR := hR.keep K; replace rf := rf.keep K; replace hn8 := hn8.keep K; replace rp := rp.keep K; replace KK := KK.trans K; clear K
        go_wp2_with fail
        go_ret
        exact ⟨rfl, KK⟩
theorem TopCanonical_any (x : Int) (am : Option Addr) (cm : Nat) (m : List F2) (w : World) (hT : Tab w) (hx0 : 0 ≤ x) (_hx1 : x ≤ 255) (hm : Rd w am m.length cm 2 (fl m)) :
    Calls Tryz.prog 3 #[.int .u8 x, .slice am m.length cm] w fun e w' => e = .returned (.bool true) ∧ Keeps w w' :=
  topc_core x (1 + (x % 6).toNat) am cm m w (by omega) (by omega) (by omega) hx0 hT hm
end Go.Proofs.YtijknodekomdfaaGreatDoor
