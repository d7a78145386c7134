/- Texts joined into one, what is needed of them (a program of ours). -/
import Derived.Test.YtijknodekomdfaaGreatDoorCKVj
import Derived.Test.YtijknodekomdfaaGreatDoorCKTa
import Derived.Test.YtijknodekomdfaaGreatDoorCKZg
import Derived.Test.YtijknodekomdfaaGreatDoorCKLaw29a
import Derived.Test.YtijknodekomdfaaGreatDoorCKYc
import Derived.Test.YtijknodekomdfaaGreatDoorCKTd
import Derived.Deep.DeepCutAuto
namespace Go.Proofs.YtijknodekomdfaaGreatDoor
open Go.RowKit Go.Lib Go.Shelf

theorem byz_one (M : S) (F : List F2) : byz27 1 M F = [0#16] := by unfold byz27; rw [if_pos rfl]
theorem byz_two (M : S) (F : List F2) : byz27 2 M F = restrL M F := by unfold byz27; rw [if_neg (by decide)]
set_option maxRecDepth 20000 in
set_option maxHeartbeats 8000000 in
theorem TopCertified_any (a b : D29) (z : S) (am : Option Addr) (cm : Nat) (m : List F2) (w : World) (hT : Tab w) (ha : OkD w a) (_hb : OkD w b) (_hm : Rd w am m.length cm 2 (fl m)) :
    Calls Tryz.prog 5 #[.agg #[.int .u8 a.kd, .int .u8 a.N, .int .u8 a.md, .slice a.ar a.lr.length a.cr, .slice a.aw a.lw.length a.cw, .slice a.af a.lf.length a.cf, .int .u8 b.kd, .int .u8 b.N, .int .u8 b.md, .slice b.ar b.lr.length b.cr, .slice b.aw b.lw.length b.cw, .slice b.af b.lf.length b.cf, .int .u16 (sv z), .slice am m.length cm]] w fun e w' => e = .returned (.bool true) ∧ Keeps w w' := by
  haveI : NmOk ⟨#[99]⟩ := ⟨by decide⟩
  have hb4 := Blk.new w 50 #[.int .u8 a.kd, .int .u8 a.N, .int .u8 a.md, .slice a.ar a.lr.length a.cr, .slice a.aw a.lw.length a.cw, .slice a.af a.lf.length a.cf, .int .u8 b.kd, .int .u8 b.N, .int .u8 b.md, .slice b.ar b.lr.length b.cr, .slice b.aw b.lw.length b.cw, .slice b.af b.lf.length b.cf, .int .u16 (sv z), .slice am m.length cm]
  have KW := (Keeps.refl w).alloc (.cells #[.int .u8 a.kd, .int .u8 a.N, .int .u8 a.md, .slice a.ar a.lr.length a.cr, .slice a.aw a.lw.length a.cw, .slice a.af a.lf.length a.cf, .int .u8 b.kd, .int .u8 b.N, .int .u8 b.md, .slice b.ar b.lr.length b.cr, .slice b.aw b.lw.length b.cw, .slice b.af b.lf.length b.cf, .int .u16 (sv z), .slice am m.length cm] 50)
  have hof := fun W (k : Keeps w W) => of27n_any ⟨#[99]⟩ a.kd a.N a.md a.lr a.lw a.lf W (ha.r.keep k) (ha.q.keep k) (ha.f.keep k) ha.k0 ha.k1 ha.n0 ha.n1 ha.m0 ha.m1
  have hok := certOk a.kd a.N a.md a.lr a.lw a.lf z
  generalize kdOf a.kd = kc at *
  generalize fullS (nOf a.N) = M at *
  generalize setsR a.md a.lr (nOf a.N) = R at *
  generalize setsR a.md a.lw (nOf a.N) = Q at *
  generalize madeF (nOf a.N) a.lf = F at *
  have HOF := Lib.hid hof; have HOK := Lib.hid hok; have HB4 := Lib.hid hb4; have HKW := Lib.hid KW; have HT := Lib.hid hT
  clear hof hok hb4 KW hT ha
  go_enter Tryz.func5, Tryz.ntmps5
  go_wp2_with fail
  generalize w.alloc (.cells #[.int .u8 a.kd, .int .u8 a.N, .int .u8 a.md, .slice a.ar a.lr.length a.cr, .slice a.aw a.lw.length a.cw, .slice a.af a.lf.length a.cf, .int .u8 b.kd, .int .u8 b.N, .int .u8 b.md, .slice b.ar b.lr.length b.cr, .slice b.aw b.lw.length b.cw, .slice b.af b.lf.length b.cf, .int .u16 (sv z), .slice am m.length cm] 50) = W1 at *
  generalize w.heap.size = BD at *
  refine (awakeT_any W1 (HT.out.keep HKW.out)).mono ?_
  rintro e W2 ⟨rfl, K1⟩
  have HB5 := Lib.hid (HB4.out.keep K1)
  have HK2 := Lib.hid (HKW.out.trans K1)
  clear HB4 HKW K1
  have d0 : W2.cell? ⟨BD, 0, none⟩ = some (.int .u8 a.kd) := HB5.out.cell 0 rfl
  have d1 : W2.cell? ⟨BD, 1, none⟩ = some (.int .u8 a.N) := HB5.out.cell 1 rfl
  have d2 : W2.cell? ⟨BD, 2, none⟩ = some (.int .u8 a.md) := HB5.out.cell 2 rfl
  have d3 : W2.cell? ⟨BD, 3, none⟩ = some (.slice a.ar a.lr.length a.cr) := HB5.out.cell 3 rfl
  have d4 : W2.cell? ⟨BD, 4, none⟩ = some (.slice a.aw a.lw.length a.cw) := HB5.out.cell 4 rfl
  have d5 : W2.cell? ⟨BD, 5, none⟩ = some (.slice a.af a.lf.length a.cf) := HB5.out.cell 5 rfl
  have d12 : W2.cell? ⟨BD, 12, none⟩ = some (.int .u16 (sv z)) := HB5.out.cell 12 rfl
  have HD12 := Lib.hid d12
  clear HB5 d12
  go_wp2_with fail
  refine (HOF.out W2 HK2.out).mono ?_
  rintro e W3 ⟨ar, cr, aw, cw, af, cf, rfl, hC, K3⟩
  clear HOF d0 d1 d2 d3 d4 d5
  have kb := (Keeps.refl W3).alloc (.cells #[.string ⟨#[99]⟩, .int .i64 kc, .int .u16 (sv M), .slice ar R.length cr, .slice aw Q.length cw, .slice af F.length cf] 36)
  have bb := Blk.new W3 36 #[.string ⟨#[99]⟩, .int .i64 kc, .int .u16 (sv M), .slice ar R.length cr, .slice aw Q.length cw, .slice af F.length cf]
  have HC := Lib.hid (hC.keep kb); have HBC := Lib.hid bb; have HKK := Lib.hid (HK2.out.trans (K3.trans kb)); have HD := Lib.hid (kb.cell (K3.cell HD12.out))
  clear hC K3 kb bb HD12 HK2
  go_upto_region 4 with fail
  generalize W3.alloc (.cells #[.string ⟨#[99]⟩, .int .i64 kc, .int .u16 (sv M), .slice ar R.length cr, .slice aw Q.length cw, .slice af F.length cf] 36) = W4 at *
  generalize W3.heap.size = BC at *
  have hlit : Rd (W4.alloc (.cells #[.int .u16 0] 31)) (some ⟨W4.heap.size, 0, none⟩) 1 1 1 (sl [0#16]) := rd_new 31 1 W4 (sl [0#16]) 1 (by decide) rfl
  have k5 := (Keeps.refl W4).alloc (.cells #[.int .u16 0] 31)
  have c1 : (W4.alloc (.cells #[.int .u16 0] 31)).cell? ⟨BC, 1, none⟩ = some (.int .i64 kc) := (HBC.out.keep k5).cell 1 rfl
  have HLIT := Lib.hid hlit
  have HC5 := Lib.hid (HC.out.keep k5); have HBC5 := Lib.hid (HBC.out.keep k5); have HK5 := Lib.hid (HKK.out.trans k5); have HD5 := Lib.hid (k5.cell HD.out)
  clear hlit k5 HC HBC HKK HD
  go_upto_region 5 with fail
  generalize W4.alloc (.cells #[.int .u16 0] 31) = W5 at *
  generalize W4.heap.size = BL at *
  obtain ⟨bl, hbl⟩ : ∃ bl, bl = byz27 kc M F := ⟨_, rfl⟩
  have HBL := Lib.hid hbl
  clear hbl
  go_upto_if 24 with fail
  clear c1
  go_cut [4] from 16 (fun s4 wx => ∃ a4 c4, s4 = .slice a4 bl.length c4 ∧ Rd wx a4 bl.length c4 1 (sl bl) ∧ Keeps W5 wx)
  case first =>
    rcases HOK.out.kd with rfl | rfl
    · have hb1 : bl = [0#16] := by rw [HBL.out, byz_one]
      have hb2 : bl.length = 1 := by rw [hb1]; rfl
      have HB1 := Lib.hid hb1; have HB2 := Lib.hid hb2
      clear hb1 hb2
      go_wp2_with fail
      go_meet
      case rel => exact ⟨_, _, by rw [HB2.out], by rw [HB1.out]; exact HLIT.out, Keeps.refl _⟩
    · have hr := restr_any ⟨#[99]⟩ 2 M (ar := ar) (cr := cr) (R := R) (aw := aw) (cw := cw) (Q := Q) (af := af) (cf := cf) (F := F) af F.length cf F W5 HC5.out.rd.f (by have := HOK.out.lF; omega)
      rw [← byz_two M F, ← HBL.out] at hr
      have HRS := Lib.hid hr
      have c0 : W5.cell? ⟨BC, 0, none⟩ = some (.string ⟨#[99]⟩) := HBC5.out.cell 0 rfl
      have c1 : W5.cell? ⟨BC, 1, none⟩ = some (.int .i64 2) := HBC5.out.cell 1 rfl
      have c2 : W5.cell? ⟨BC, 2, none⟩ = some (.int .u16 (sv M)) := HBC5.out.cell 2 rfl
      have c3 : W5.cell? ⟨BC, 3, none⟩ = some (.slice ar R.length cr) := HBC5.out.cell 3 rfl
      have c4 : W5.cell? ⟨BC, 4, none⟩ = some (.slice aw Q.length cw) := HBC5.out.cell 4 rfl
      have c5 : W5.cell? ⟨BC, 5, none⟩ = some (.slice af F.length cf) := HBC5.out.cell 5 rfl
      clear hr
      go_wp2_with fail
      refine HRS.out.mono ?_
      rintro e w9 ⟨v, rfl, hO⟩
      obtain ⟨a4, c4', rfl, hrd⟩ := hO.rd
      have HRD := Lib.hid hrd; have HKO := Lib.hid hO.2
      clear hrd hO
      go_wp2_with fail
      go_meet
      case rel => exact ⟨_, _, rfl, HRD.out, HKO.out⟩
  obtain ⟨a4, c4, rfl, hrd, k6⟩ := hcut
  have HRD := Lib.hid hrd
  have HC6 := Lib.hid (HC5.out.keep k6); have HBC6 := Lib.hid (HBC5.out.keep k6); have HK6 := Lib.hid (HK5.out.trans k6); have HD6 := Lib.hid (k6.cell HD5.out)
  clear hrd k6 HC5 HBC5 HK5 HD5 HLIT
  go_upto_region 8 with fail
  have z4 := HRD.out.small
  go_wp2_with fail
  have hag1 := fun (x : S) W (k : Keeps wc W) => agrees_any ar R.length cr R aw Q.length cw Q x W (HT.out.keep (HK6.out.trans k)) ((HC6.out.keep k).rd.r) ((HC6.out.keep k).rd.q) HOK.out.vR HOK.out.vQ HOK.out.sR HOK.out.sQ
  have hag2 := fun (x : S) W (k : Keeps wc W) => agrees_any aw Q.length cw Q aw Q.length cw Q x W (HT.out.keep (HK6.out.trans k)) ((HC6.out.keep k).rd.q) ((HC6.out.keep k).rd.q) HOK.out.vQ HOK.out.vQ HOK.out.sQ HOK.out.sQ
  have HA1 := Lib.hid hag1; have HA2 := Lib.hid hag2
  clear hag1 hag2
  go_loopw [5, 31] (fun s y wr => ∃ (i : Nat) (q : Bool), i ≤ bl.length ∧ y = .int .i64 i ∧ s = .bool q ∧ Hid (q = (bl.take i).all (agrB z M R Q)) ∧ Keeps wc wr) (fun _ y _ => bl.length - (RowKit.intOf y).toNat)
  case atStart => exact ⟨0, true, Nat.zero_le _, rfl, rfl, rfl, Keeps.refl _⟩
  case round =>
    obtain ⟨i, q, hi, rfl, rfl, HQ, K⟩ := hrel
    by_cases hlt : i < bl.length
    · have g0 := (HRD.out.keep K).at hlt
      have hao := HRD.out.isSome (by omega)
      have c2 : wr.cell? ⟨BC, 2, none⟩ = some (.int .u16 (sv M)) := (HBC6.out.keep K).cell 2 rfl
      have c3 : wr.cell? ⟨BC, 3, none⟩ = some (.slice ar R.length cr) := (HBC6.out.keep K).cell 3 rfl
      have c4' : wr.cell? ⟨BC, 4, none⟩ = some (.slice aw Q.length cw) := (HBC6.out.keep K).cell 4 rfl
      have d12 := K.cell HD6.out
      have hst : (bl.take (i + 1)).all (agrB z M R Q) = (q && agrB z M R Q (at_ bl i)) := by
        rw [take_at bl i hlt, List.all_append, ← HQ.out]
        simp
      generalize at_ bl i = x at *
      have h1 := HA1.out (x ||| z &&& M) wr K
      have h2 := HA2.out x
      rw [show agrB z M R Q x = (famB R Q (x ||| z &&& M) && (x == 0#16 || famB Q Q x)) from rfl] at hst
      generalize famB R Q (x ||| z &&& M) = p at *
      generalize famB Q Q x = p2 at *
      have H1 := Lib.hid h1; have H2 := Lib.hid h2; have KK := Lib.hid K
      clear h1 h2 K HQ
      by_cases hx : x = 0#16
      · have h0b : (x == 0#16) = true := by simpa using hx
        rw [h0b, Bool.true_or, Bool.and_true] at hst
        have h0n : (x != 0#16) = false := by simpa using hx
        have HST := Lib.hid hst
        clear hst H2 hx
        cases q <;> cases p
        all_goals
          go_wp2_with fail
          refine H1.out.mono ?_
          rintro e w7 ⟨rfl, K7⟩
          go_wp2_with fail
          go_roundw
          case rel => exact ⟨i + 1, _, by omega, by go_num, rfl, Lib.hid (by rw [HST.out]; rfl), KK.out.trans K7⟩
          case measure => simp [RowKit.intOf]; omega
      · have h0b : (x == 0#16) = false := by simpa using hx
        rw [h0b, Bool.false_or] at hst
        have h0n : (x != 0#16) = true := by simpa using hx
        have HST := Lib.hid hst
        clear hst hx
        cases q <;> cases p <;> cases p2
        all_goals
          go_wp2_with fail
          refine H1.out.mono ?_
          rintro e w7 ⟨rfl, K7⟩
          have c4'' := K7.cell c4'
          go_wp2_with fail
          refine (H2.out w7 (KK.out.trans K7)).mono ?_
          rintro e w8 ⟨rfl, K8⟩
          go_wp2_with fail
          go_roundw
          case rel => exact ⟨i + 1, _, by omega, by go_num, rfl, Lib.hid (by rw [HST.out]; rfl), (KK.out.trans K7).trans K8⟩
          case measure => simp [RowKit.intOf]; omega
    · obtain rfl : i = bl.length := by omega
      have hsf : safe27 kc z M R Q F = q := by rw [HOK.out.saf, ← HBL.out, HQ.out, List.take_length]
      have e1 := fun W (k : Keeps wc W) => cProve_any (nm := ⟨#[99]⟩) kc z M W (HT.out.keep (HK6.out.trans k)) (HC6.out.keep k) (by have := HOK.out.lR; omega) (by have := HOK.out.lQ; omega) (by have := HOK.out.lF; omega)
      have e2 := fun W (k : Keeps wc W) => cClash_any (nm := ⟨#[99]⟩) kc z M W (HT.out.keep (HK6.out.trans k)) (HC6.out.keep k) (by have := HOK.out.lF; omega)
      have e3 := fun W (k : Keeps wc W) => cSafe_any (nm := ⟨#[99]⟩) kc z M W (HT.out.keep (HK6.out.trans k)) (HC6.out.keep k) (by have := HOK.out.lF; omega)
      have hp := HOK.out.pro
      have hc := HOK.out.cla
      rw [hsf] at hp hc
      simp only [hsf] at e3
      unfold RetPr at e1
      unfold RetCE vcl at e2
      have KK := Lib.hid K
      clear K HQ
      cases q with
      | true =>
        have e4 := fun W (k : Keeps wc W) a c (hl : Rd W a (proS kc z M R Q F).1.length c 5 (itl (proS kc z M R Q F).1)) => cCheck_any (nm := ⟨#[99]⟩) kc z M (al := a) (cl := c) (proS kc z M R Q F).1 W (HT.out.keep (HK6.out.trans k)) (HC6.out.keep k) hl (by have := HOK.out.lF; omega) HOK.out.al
        simp only [HOK.out.chk hsf] at e4
        generalize proS kc z M R Q F = r at *
        generalize clash27 kc z M R Q F = y at *
        obtain ⟨rl, re⟩ := r
        obtain ⟨⟨x0, x1, x2, x3⟩, ye⟩ := y
        dsimp only at e1 e2 e4 hp hc
        rw [if_pos rfl] at hp hc
        subst hp
        subst hc
        clear hsf
        have HPR := Lib.hid e1; have HCL := Lib.hid e2; have HSF := Lib.hid e3; have HLAST := Lib.hid e4
        clear e1 e2 e3 e4
        obtain ⟨c0, c1, c2, c3, c4', c5⟩ := (HBC6.out.keep KK.out).c6
        have d12 := KK.out.cell HD6.out
        go_wp2_with fail
        refine (HPR.out wr KK.out).mono ?_
        rintro e w7 ⟨v, rfl, hO⟩
        obtain ⟨al, cl, rfl, hrl⟩ := hO.rd
        have HRL := Lib.hid hrl
        have K7 := Lib.hid (KK.out.trans hO.2)
        clear hrl hO c0 c1 c2 c3 c4' c5 d12
        obtain ⟨c0, c1, c2, c3, c4', c5⟩ := (HBC6.out.keep K7.out).c6
        have d12 := K7.out.cell HD6.out
        go_wp2_with fail
        refine (HCL.out w7 K7.out).mono ?_
        rintro e w8 ⟨rfl, k8⟩
        clear c0 c1 c2 c3 c4' c5 d12
        have kx := (Keeps.refl w8).alloc (.cells #[.int .i64 x0, .int .u16 (sv x1), .int .u16 (sv x2), .int .u16 (sv x3)] 61)
        have bx := Blk.new w8 61 #[.int .i64 x0, .int .u16 (sv x1), .int .u16 (sv x2), .int .u16 (sv x3)]
        have K9 := Lib.hid (K7.out.trans (k8.trans kx)); have BX := Lib.hid bx
        have HRL9 := Lib.hid (HRL.out.keep (k8.trans kx))
        clear k8 kx bx
        obtain ⟨c0, c1, c2, c3, c4', c5⟩ := (HBC6.out.keep K9.out).c6
        have d12 := K9.out.cell HD6.out
        go_wp2_with fail
        generalize w8.alloc (.cells #[.int .i64 x0, .int .u16 (sv x1), .int .u16 (sv x2), .int .u16 (sv x3)] 61) = W9 at *
        generalize w8.heap.size = BX9 at *
        refine (HSF.out W9 K9.out).mono ?_
        rintro e w10 ⟨rfl, k10⟩
        have K10 := Lib.hid (K9.out.trans k10)
        have HRL10 := Lib.hid (HRL9.out.keep k10); have BX10 := Lib.hid (BX.out.keep k10)
        clear k10 c0 c1 c2 c3 c4' c5 d12
        obtain ⟨c0, c1, c2, c3, c4', c5⟩ := (HBC6.out.keep K10.out).c6
        have d12 := K10.out.cell HD6.out
        go_wp2_with fail
        refine (HLAST.out w10 K10.out al cl HRL10.out).mono ?_
        rintro e w11 ⟨rfl, k11⟩
        go_wp2_with fail
        go_ret
        exact ⟨rfl, HK6.out.trans (K10.out.trans k11)⟩
      | false =>
        have e4 := fun W (k : Keeps wc W) => cIs_any (nm := ⟨#[99]⟩) kc (clash27 kc z M R Q F).1.1 z M (clash27 kc z M R Q F).1.2.1 (clash27 kc z M R Q F).1.2.2.1 (clash27 kc z M R Q F).1.2.2.2 W ((HC6.out.keep k).rd) (by have := HOK.out.lF; omega)
        have hi2 := HOK.out.isc hsf
        generalize proS kc z M R Q F = r at *
        generalize clash27 kc z M R Q F = y at *
        obtain ⟨rl, re⟩ := r
        obtain ⟨⟨x0, x1, x2, x3⟩, ye⟩ := y
        dsimp only at e1 e2 e4 hp hc hi2
        simp only [hi2] at e4
        rw [if_neg (by decide)] at hp hc
        subst hp
        subst hc
        clear hsf hi2
        have HPR := Lib.hid e1; have HCL := Lib.hid e2; have HSF := Lib.hid e3; have HLAST := Lib.hid e4
        clear e1 e2 e3 e4
        obtain ⟨c0, c1, c2, c3, c4', c5⟩ := (HBC6.out.keep KK.out).c6
        have d12 := KK.out.cell HD6.out
        go_wp2_with fail
        refine (HPR.out wr KK.out).mono ?_
        rintro e w7 ⟨v, rfl, hO⟩
        obtain ⟨al, cl, rfl, hrl⟩ := hO.rd
        have HRL := Lib.hid hrl
        have K7 := Lib.hid (KK.out.trans hO.2)
        clear hrl hO c0 c1 c2 c3 c4' c5 d12
        obtain ⟨c0, c1, c2, c3, c4', c5⟩ := (HBC6.out.keep K7.out).c6
        have d12 := K7.out.cell HD6.out
        go_wp2_with fail
        refine (HCL.out w7 K7.out).mono ?_
        rintro e w8 ⟨rfl, k8⟩
        clear c0 c1 c2 c3 c4' c5 d12
        have kx := (Keeps.refl w8).alloc (.cells #[.int .i64 x0, .int .u16 (sv x1), .int .u16 (sv x2), .int .u16 (sv x3)] 61)
        have bx := Blk.new w8 61 #[.int .i64 x0, .int .u16 (sv x1), .int .u16 (sv x2), .int .u16 (sv x3)]
        have K9 := Lib.hid (K7.out.trans (k8.trans kx)); have BX := Lib.hid bx
        have HRL9 := Lib.hid (HRL.out.keep (k8.trans kx))
        clear k8 kx bx
        obtain ⟨c0, c1, c2, c3, c4', c5⟩ := (HBC6.out.keep K9.out).c6
        have d12 := K9.out.cell HD6.out
        go_wp2_with fail
        generalize w8.alloc (.cells #[.int .i64 x0, .int .u16 (sv x1), .int .u16 (sv x2), .int .u16 (sv x3)] 61) = W9 at *
        generalize w8.heap.size = BX9 at *
        refine (HSF.out W9 K9.out).mono ?_
        rintro e w10 ⟨rfl, k10⟩
        have K10 := Lib.hid (K9.out.trans k10)
        have HRL10 := Lib.hid (HRL9.out.keep k10); have BX10 := Lib.hid (BX.out.keep k10)
        clear k10 c0 c1 c2 c3 c4' c5 d12
        obtain ⟨c0, c1, c2, c3, c4', c5⟩ := (HBC6.out.keep K10.out).c6
        have d12 := K10.out.cell HD6.out
        have f0 : w10.cell? ⟨BX9, 0, none⟩ = some (.int .i64 x0) := BX10.out.cell 0 rfl
        have f1 : w10.cell? ⟨BX9, 1, none⟩ = some (.int .u16 (sv x1)) := BX10.out.cell 1 rfl
        have f2 : w10.cell? ⟨BX9, 2, none⟩ = some (.int .u16 (sv x2)) := BX10.out.cell 2 rfl
        have f3 : w10.cell? ⟨BX9, 3, none⟩ = some (.int .u16 (sv x3)) := BX10.out.cell 3 rfl
        go_wp2_with fail
        refine (HLAST.out w10 K10.out).mono ?_
        rintro e w11 ⟨rfl, k11⟩
        go_wp2_with fail
        go_ret
        exact ⟨rfl, HK6.out.trans (K10.out.trans k11)⟩
end Go.Proofs.YtijknodekomdfaaGreatDoor
