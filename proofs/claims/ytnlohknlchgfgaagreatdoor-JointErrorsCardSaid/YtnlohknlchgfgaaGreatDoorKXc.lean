/- Texts joined into one (wip/bin/pack.py): OpenC. -/
import Derived.Test.YtnlohknlchgfgaaGreatDoorKN
import Derived.Test.YtnlohknlchgfgaaGreatDoorKC
/- A configuration that came in, opened. -/
namespace Go.Proofs.YtnlohknlchgfgaaGreatDoor
open Go.RowKit Go.Lib Go.ChangeShapes Go.WideShapes Go.Deep

section
variable {H : Type} {enc : TypeId × Value → H} {w : World} {base : Nat} {spare : Nat → Bool} {held : Bool}
theorem cConf : Tryz.prog.cellsOf 32 = 6 := by kernel_rfl
theorem cStr : Tryz.prog.cellsOf 9 = 1 := by kernel_rfl
theorem cInt : Tryz.prog.cellsOf 3 = 1 := by kernel_rfl
theorem cSets : Tryz.prog.cellsOf 30 = 1 := by kernel_rfl
/-- a configuration's value -/
def ConfIs (w : World) (v : Value) (nm : ByteArray) (kd : Int) (M : S) (ar : Option Addr) (cr : Nat) (R : List S) (aw : Option Addr) (cw : Nat) (Q : List S) (af : Option Addr) (cf : Nat) (F : List F2) : Prop :=
  v = .agg #[.string nm, .int .i64 kd, .int .u16 (sv M), .slice ar R.length cr, .slice aw Q.length cw, .slice af F.length cf] ∧ RdC w ar cr R aw cw Q af cf F
set_option maxRecDepth 20000 in
theorem open_conf {r : Reach} {b0 : Nat} {v : Value} {d : DataW H} {p : List MemPlace} (hv : Value.okWide Tryz.prog w r b0 32 v) (h : DataW.Trod enc Tryz.prog w base spare held 32 v d p) :
    ∃ nm kd M ar cr R aw cw Q af cf F, ConfIs w v nm kd M ar cr R aw cw Q af cf F := by
  obtain ⟨cs, rfl, hsz⟩ := okWide_struct Tryz.underlying32 hv
  obtain ⟨l⟩ := cs
  obtain ⟨fuel, hf0⟩ := h
  have hl : l.length = 6 := hsz.trans cConf
  obtain ⟨xs, n, _, _, _, hxl, hf⟩ := DataW.trod_struct Tryz.underlying32 hf0
  obtain ⟨u0, u1, u2, u3, u4, u5, rfl⟩ := len6 hl
  obtain ⟨y0, y1, y2, y3, y4, y5, rfl⟩ := len6 (show xs.length = 6 from hxl)
  have f0 : DataW.trod enc Tryz.prog w base spare held n 9 (([u0, u1, u2, u3, u4, u5].drop 0).take (Tryz.prog.cellsOf 9)) = some y0 := hf 0 _ rfl
  have f1 : DataW.trod enc Tryz.prog w base spare held n 3 (([u0, u1, u2, u3, u4, u5].drop 1).take (Tryz.prog.cellsOf 3)) = some y1 := hf 1 _ rfl
  have f2 : DataW.trod enc Tryz.prog w base spare held n 29 (([u0, u1, u2, u3, u4, u5].drop 2).take (Tryz.prog.cellsOf 29)) = some y2 := hf 2 _ rfl
  have f3 : DataW.trod enc Tryz.prog w base spare held n 30 (([u0, u1, u2, u3, u4, u5].drop 3).take (Tryz.prog.cellsOf 30)) = some y3 := hf 3 _ rfl
  have f4 : DataW.trod enc Tryz.prog w base spare held n 30 (([u0, u1, u2, u3, u4, u5].drop 4).take (Tryz.prog.cellsOf 30)) = some y4 := hf 4 _ rfl
  have f5 : DataW.trod enc Tryz.prog w base spare held n 23 (([u0, u1, u2, u3, u4, u5].drop 5).take (Tryz.prog.cellsOf 23)) = some y5 := hf 5 _ rfl
  rw [cStr] at f0
  rw [cInt] at f1
  rw [cells1] at f2
  rw [cSets] at f3 f4
  rw [cSF] at f5
  obtain ⟨nm, e0, _, _⟩ := DataW.trod_string Tryz.underlying9 f0
  obtain ⟨kd, e1, _, _⟩ := DataW.trod_int Tryz.underlying3 f1
  obtain ⟨M, e2⟩ := one_set f2
  obtain ⟨ar, nr, cr, R, e3, r3⟩ := rd_sets Tryz.underlying30 Tryz.underlying29 cells1 f3
  obtain ⟨aw, nw, cw, Q, e4, r4⟩ := rd_sets Tryz.underlying30 Tryz.underlying29 cells1 f4
  obtain ⟨af, nf, cf, F, e5, r5⟩ := rd_faults f5
  simp at e0 e1 e2 e3 e4 e5
  have L3 := r3.lenS; have L4 := r4.lenS; have L5 := r5.lenF
  subst e0; subst e1; subst e2; subst e3; subst e4; subst e5; subst L3; subst L4; subst L5
  exact ⟨nm, kd, M, ar, cr, R, aw, cw, Q, af, cf, F, rfl, r3, r4, r5⟩
end
end Go.Proofs.YtnlohknlchgfgaaGreatDoor
