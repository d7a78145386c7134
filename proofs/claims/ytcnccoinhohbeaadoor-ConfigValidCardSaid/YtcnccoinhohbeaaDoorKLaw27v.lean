/- Texts joined into one (wip/bin/pack.py): Law27v. -/
import Derived.Lib.QuietBelow
import Derived.Test.YtcnccoinhohbeaaDoorKYp
/- The walk of the statement ConfigValid: it answers true and keeps what lay there. -/
namespace Go.Proofs.YtcnccoinhohbeaaDoor
open Go.RowKit Go.Lib Go.Shelf

set_option maxRecDepth 20000 in
set_option maxHeartbeats 4000000 in
theorem validCore (nm : ByteArray) (kd : Int) (wt M : S) {ar : Option Addr} {nr cr : Nat} {aw : Option Addr} {nq cw : Nat} {af : Option Addr} {nf cf : Nat} (w : World) (hT : Tab w) (er : Int) (h13 : (er == 13) = false)
    (hv : ∀ W, Keeps w W → Calls Tryd.prog 13 #[.agg #[.string nm, .int .i64 kd, .int .u16 (sv M), .slice ar nr cr, .slice aw nq cw, .slice af nf cf]] W fun e w' => e = .returned (.int .i64 er) ∧ Keeps W w')
    (hrv : ∀ W, Keeps w W → Calls Tryd.prog 12 #[.agg #[.string nm, .int .i64 kd, .int .u16 (sv M), .slice ar nr cr, .slice aw nq cw, .slice af nf cf]] W fun e w' => e = .returned (.int .i64 er) ∧ Keeps W w') :
    Calls Tryd.prog 4 #[.agg #[.string nm, .int .i64 kd, .int .u16 (sv M), .slice ar nr cr, .slice aw nq cw, .slice af nf cf], .int .u16 (sv wt)] w fun e w' => e = .returned (.bool true) ∧ Keeps w w' := by
  have KK := Keeps.refl w
  have K1 := (Keeps.refl w).alloc (.cells #[.string nm, .int .i64 kd, .int .u16 (sv M), .slice ar nr cr, .slice aw nq cw, .slice af nf cf] 31)
  have hb := BoxC.new w 31 nm kd M ar nr cr aw nq cw af nf cf
  obtain ⟨W0, hW1⟩ : ∃ W1, W1 = w.alloc (.cells #[.string nm, .int .i64 kd, .int .u16 (sv M), .slice ar nr cr, .slice aw nq cw, .slice af nf cf] 31) := ⟨_, rfl⟩
  rw [← hW1] at hb K1
  have HW1 := Lib.hid hW1
  replace hT := hT.keep K1
  replace KK := KK.trans K1
  clear hW1 K1
  have hfw := fun W => few27_any nm kd M (ar := ar) (nr := nr) (cr := cr) (aw := aw) (nq := nq) (cw := cw) (af := af) (nf := nf) (cf := cf) W
  generalize fewB nm nr nq nf = fw at *
  have hee : (er != er) = false := by simp
  have HFW := Lib.hid hfw; have HV := Lib.hid hv; have HRV := Lib.hid hrv
  clear hfw hrv
  cases fw
  · skip
    clear hv
    go_enter Tryd.func4, Tryd.ntmps4
    go_wp2_with fail
    rw [← HW1.out]
    refine (awake27_any _ hT).mono ?_
    rintro e W1 ⟨rfl, K⟩
    replace hT := hT.keep K
    replace hb := hb.keep K
    replace KK := KK.trans K
    clear K
    obtain ⟨c0, c1, c2, c3, c4, c5⟩ := hb.conj
    go_wp2_with fail
    clear c0 c1 c2 c3 c4 c5
    refine (HFW.out _).mono ?_
    rintro e W2 ⟨rfl, K⟩
    replace hT := hT.keep K
    replace hb := hb.keep K
    replace KK := KK.trans K
    clear K
    go_wp2_with fail
    refine (awake27_any _ hT).mono ?_
    rintro e W3 ⟨rfl, K⟩
    replace hT := hT.keep K
    replace hb := hb.keep K
    replace KK := KK.trans K
    clear K
    go_wp2_with fail
    go_ret
    exact ⟨rfl, KK⟩
  · skip
    by_cases her : er = 0
    · skip
      subst her
      clear hv
      go_enter Tryd.func4, Tryd.ntmps4
      go_wp2_with fail
      rw [← HW1.out]
      refine (awake27_any _ hT).mono ?_
      rintro e W1 ⟨rfl, K⟩
      replace hT := hT.keep K
      replace hb := hb.keep K
      replace KK := KK.trans K
      clear K
      obtain ⟨c0, c1, c2, c3, c4, c5⟩ := hb.conj
      go_wp2_with fail
      clear c0 c1 c2 c3 c4 c5
      refine (HFW.out _).mono ?_
      rintro e W2 ⟨rfl, K⟩
      replace hT := hT.keep K
      replace hb := hb.keep K
      replace KK := KK.trans K
      clear K
      obtain ⟨c0, c1, c2, c3, c4, c5⟩ := hb.conj
      go_wp2_with fail
      clear c0 c1 c2 c3 c4 c5
      refine (HRV.out _ KK).mono ?_
      rintro e W3 ⟨rfl, K⟩
      replace hT := hT.keep K
      replace hb := hb.keep K
      replace KK := KK.trans K
      clear K
      obtain ⟨c0, c1, c2, c3, c4, c5⟩ := hb.conj
      go_wp2_with fail
      clear c0 c1 c2 c3 c4 c5
      refine (HV.out _ KK).mono ?_
      rintro e W4 ⟨rfl, K⟩
      replace hT := hT.keep K
      replace hb := hb.keep K
      replace KK := KK.trans K
      clear K
      go_wp2_with fail
      go_ret
      exact ⟨rfl, KK⟩
    · skip
      have e1 := fun W (k : Keeps w W) => eClash_any nm kd wt M (ar := ar) (nr := nr) (cr := cr) (aw := aw) (nq := nq) (cw := cw) (af := af) (nf := nf) (cf := cf) W er her (fun W' k' => hv W' (k.trans k'))
      have e2 := fun W (k : Keeps w W) => eDead_any nm kd M (ar := ar) (nr := nr) (cr := cr) (aw := aw) (nq := nq) (cw := cw) (af := af) (nf := nf) (cf := cf) W er her (fun W' k' => hv W' (k.trans k'))
      have e3 := fun W (k : Keeps w W) => eProve_any nm kd wt M (ar := ar) (nr := nr) (cr := cr) (aw := aw) (nq := nq) (cw := cw) (af := af) (nf := nf) (cf := cf) W er her (fun W' k' => hv W' (k.trans k'))
      have e4 := fun W (k : Keeps w W) => eSafe_any nm kd wt M (ar := ar) (nr := nr) (cr := cr) (aw := aw) (nq := nq) (cw := cw) (af := af) (nf := nf) (cf := cf) W er h13 her (fun W' k' => hv W' (k.trans k'))
      have e5 := fun W (k : Keeps w W) => eIs_any nm kd 1 wt M 0#16 0#16 0#16 (ar := ar) (nr := nr) (cr := cr) (aw := aw) (nq := nq) (cw := cw) (af := af) (nf := nf) (cf := cf) W er her (fun W' k' => hv W' (k.trans k'))
      have e6 := fun W (k : Keeps w W) => eLive_any nm kd M (ar := ar) (nr := nr) (cr := cr) (aw := aw) (nq := nq) (cw := cw) (af := af) (nf := nf) (cf := cf) W er h13 her (fun W' k' => hv W' (k.trans k'))
      have e7 := fun W (k : Keeps w W) => eTol_any nm kd 0#16 M (ar := ar) (nr := nr) (cr := cr) (aw := aw) (nq := nq) (cw := cw) (af := af) (nf := nf) (cf := cf) W er her (fun W' k' => hv W' (k.trans k'))
      have e8 := fun W (k : Keeps w W) => eCheck_any nm kd wt M (ar := ar) (nr := nr) (cr := cr) (aw := aw) (nq := nq) (cw := cw) (af := af) (nf := nf) (cf := cf) (al := none) (nl := 0) (cl := 0) W er her (fun W' k' => hv W' (k.trans k'))
      unfold RetCE at e1
      unfold RetFE at e2
      simp only [vcl, cl0, sv_zero] at e1 e5 e7
      simp only [vf, sv_zero] at e2
      have E1 := Lib.hid e1; have E2 := Lib.hid e2; have E3 := Lib.hid e3; have E4 := Lib.hid e4; have E5 := Lib.hid e5; have E6 := Lib.hid e6; have E7 := Lib.hid e7; have E8 := Lib.hid e8
      clear e1 e2 e3 e4 e5 e6 e7 e8 hv
      have hen : (er == er) = true := by simp
      have hez : (er == 0) = false := by simpa using her
      go_enter Tryd.func4, Tryd.ntmps4
      go_wp2_with fail
      rw [← HW1.out]
      refine (awake27_any _ hT).mono ?_
      rintro e W1 ⟨rfl, K⟩
      replace hT := hT.keep K
      replace hb := hb.keep K
      replace KK := KK.trans K
      clear K
      obtain ⟨c0, c1, c2, c3, c4, c5⟩ := hb.conj
      go_wp2_with fail
      clear c0 c1 c2 c3 c4 c5
      refine (HFW.out _).mono ?_
      rintro e W2 ⟨rfl, K⟩
      replace hT := hT.keep K
      replace hb := hb.keep K
      replace KK := KK.trans K
      clear K
      obtain ⟨c0, c1, c2, c3, c4, c5⟩ := hb.conj
      go_wp2_with fail
      clear c0 c1 c2 c3 c4 c5
      refine (HRV.out _ KK).mono ?_
      rintro e W3 ⟨rfl, K⟩
      replace hT := hT.keep K
      replace hb := hb.keep K
      replace KK := KK.trans K
      clear K
      obtain ⟨c0, c1, c2, c3, c4, c5⟩ := hb.conj
      go_wp2_with fail
      clear c0 c1 c2 c3 c4 c5
      refine (HV.out _ KK).mono ?_
      rintro e W4 ⟨rfl, K⟩
      replace hT := hT.keep K
      replace hb := hb.keep K
      replace KK := KK.trans K
      clear K
      obtain ⟨c0, c1, c2, c3, c4, c5⟩ := hb.conj
      go_wp2_with fail
      clear c0 c1 c2 c3 c4 c5
      refine (E1.out _ KK).mono ?_
      rintro e W5 ⟨rfl, K⟩
      replace hT := hT.keep K
      replace hb := hb.keep K
      replace KK := KK.trans K
      clear K
      have hx := Blk.new W5 42 #[.int .i64 0, .int .u16 0, .int .u16 0, .int .u16 0]
      have K := (Keeps.refl W5).alloc (.cells #[.int .i64 0, .int .u16 0, .int .u16 0, .int .u16 0] 42)
      replace hT := hT.keep K
      replace hb := hb.keep K
      replace KK := KK.trans K
      clear K
      obtain ⟨c0, c1, c2, c3, c4, c5⟩ := hb.conj
      go_wp2_with fail
      clear c0 c1 c2 c3 c4 c5
      refine (E2.out _ KK).mono ?_
      rintro e W6 ⟨rfl, K⟩
      replace hT := hT.keep K
      replace hb := hb.keep K
      replace hx := hx.keep K
      replace KK := KK.trans K
      clear K
      have hy := Blk.new W6 34 #[.int .u16 0, .int .u16 0]
      have K := (Keeps.refl W6).alloc (.cells #[.int .u16 0, .int .u16 0] 34)
      replace hT := hT.keep K
      replace hb := hb.keep K
      replace hx := hx.keep K
      replace KK := KK.trans K
      clear K
      obtain ⟨c0, c1, c2, c3, c4, c5⟩ := hb.conj
      go_wp2_with fail
      clear c0 c1 c2 c3 c4 c5
      refine (E3.out _ KK).mono ?_
      rintro e W7 ⟨rfl, K⟩
      replace hT := hT.keep K
      replace hb := hb.keep K
      replace hx := hx.keep K
      replace hy := hy.keep K
      replace KK := KK.trans K
      clear K
      obtain ⟨x0', x1', x2', x3'⟩ := cB4 hx
      have y0' := hy.cell 0 (v := .int .u16 0) rfl
      have y1' := hy.cell 1 (v := .int .u16 0) rfl
      obtain ⟨c0, c1, c2, c3, c4, c5⟩ := hb.conj
      go_wp2_with fail
      clear c0 c1 c2 c3 c4 c5
      refine (E4.out _ KK).mono ?_
      rintro e W8 ⟨rfl, K⟩
      replace hT := hT.keep K
      replace hb := hb.keep K
      replace hx := hx.keep K
      replace hy := hy.keep K
      replace KK := KK.trans K
      clear K
      clear x0' x1' x2' x3' y0' y1'
      obtain ⟨c0, c1, c2, c3, c4, c5⟩ := hb.conj
      go_wp2_with fail
      clear c0 c1 c2 c3 c4 c5
      refine (E5.out _ KK).mono ?_
      rintro e W9 ⟨rfl, K⟩
      replace hT := hT.keep K
      replace hb := hb.keep K
      replace hx := hx.keep K
      replace hy := hy.keep K
      replace KK := KK.trans K
      clear K
      obtain ⟨c0, c1, c2, c3, c4, c5⟩ := hb.conj
      go_wp2_with fail
      clear c0 c1 c2 c3 c4 c5
      refine (E6.out _ KK).mono ?_
      rintro e W10 ⟨rfl, K⟩
      replace hT := hT.keep K
      replace hb := hb.keep K
      replace hx := hx.keep K
      replace hy := hy.keep K
      replace KK := KK.trans K
      clear K
      obtain ⟨c0, c1, c2, c3, c4, c5⟩ := hb.conj
      go_wp2_with fail
      clear c0 c1 c2 c3 c4 c5
      refine (E7.out _ KK).mono ?_
      rintro e W11 ⟨rfl, K⟩
      replace hT := hT.keep K
      replace hb := hb.keep K
      replace hx := hx.keep K
      replace hy := hy.keep K
      replace KK := KK.trans K
      clear K
      obtain ⟨c0, c1, c2, c3, c4, c5⟩ := hb.conj
      go_wp2_with fail
      clear c0 c1 c2 c3 c4 c5
      refine (E8.out _ KK).mono ?_
      rintro e W12 ⟨rfl, K⟩
      replace hT := hT.keep K
      replace hb := hb.keep K
      replace hx := hx.keep K
      replace hy := hy.keep K
      replace KK := KK.trans K
      clear K
      go_wp2_with fail
      go_ret
      exact ⟨rfl, KK⟩

set_option maxRecDepth 20000 in
theorem ConfigValid_any (nm : ByteArray) (kd : Int) (M : S) {ar : Option Addr} {cr : Nat} {R : List S} {aw : Option Addr} {cw : Nat} {Q : List S} {af : Option Addr} {cf : Nat} {F : List F2} (wt : S) (w : World) (hT : Tab w) (hC : RdC w ar cr R aw cw Q af cf F) :
    Calls Tryd.prog 4 #[.agg #[.string nm, .int .i64 kd, .int .u16 (sv M), .slice ar R.length cr, .slice aw Q.length cw, .slice af F.length cf], .int .u16 (sv wt)] w fun e w' => e = .returned (.bool true) ∧ Keeps w w' := by
  cases hn : nmB nm
  · exact validCore nm kd wt M w hT 1 (by decide) (fun W _ => badValid_any nm hn kd M W) (fun W _ => rBadValid_any nm hn kd M W)
  · have hok : NmOk nm := ⟨hn⟩
    exact validCore nm kd wt M w hT (cvS kd M R Q F) (by have := cv_ne kd M R Q F; simpa using this) (fun W k => configValid_any (nm := nm) kd M W (hC.keep k)) (fun W k => rcValid_any (nm := nm) kd M W (hC.keep k))
end Go.Proofs.YtcnccoinhohbeaaDoor
