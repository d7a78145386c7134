/- Texts joined into one (wip/bin/pack.py): OpenV. -/
import Derived.Test.YtijknodekomdfaaGreatDoorKN
/- A draft, a clash, a slice of faults that came in as arguments, opened. -/
namespace Go.Proofs.YtijknodekomdfaaGreatDoor
open Go.RowKit Go.Lib Go.ChangeShapes Go.WideShapes Go.Deep

section
variable {H : Type} {enc : TypeId × Value → H} {w : World} {base : Nat} {spare : Nat → Bool} {held : Bool}
def DraftV (w : World) (v : Value) (kd N md : Int) (ar : Option Addr) (cr : Nat) (lr : List S) (aw : Option Addr) (cw : Nat) (lw : List S) (af : Option Addr) (cf : Nat) (lf : List F2) : Prop :=
  v = .agg #[.int .u8 kd, .int .u8 N, .int .u8 md, .slice ar lr.length cr, .slice aw lw.length cw, .slice af lf.length cf] ∧ (0 ≤ kd ∧ kd ≤ 255) ∧ (0 ≤ N ∧ N ≤ 255) ∧ (0 ≤ md ∧ md ≤ 255) ∧ Rd w ar lr.length cr 1 (sl lr) ∧ Rd w aw lw.length cw 1 (sl lw) ∧ Rd w af lf.length cf 2 (fl lf)
set_option maxRecDepth 20000 in
theorem open_draftV {r : Reach} {b0 : Nat} {v : Value} {d : DataW H} {p : List MemPlace} (hv : Value.okWide Tryz.prog w r b0 48 v) (h : DataW.Trod enc Tryz.prog w base spare held 48 v d p) :
    ∃ kd N md ar cr lr aw cw lw af cf lf, DraftV w v kd N md ar cr lr aw cw lw af cf lf := by
  obtain ⟨cs, rfl, hsz⟩ := okWide_struct Tryz.underlying48 hv
  obtain ⟨l⟩ := cs
  obtain ⟨fuel, hf0⟩ := h
  obtain ⟨kd, N, md, ar, cr, lr, aw, cw, lw, af, cf, lf, e, b⟩ := open_draft hf0
  have e' : l = [.int .u8 kd, .int .u8 N, .int .u8 md, .slice ar lr.length cr, .slice aw lw.length cw, .slice af lf.length cf] := e
  subst e'
  exact ⟨kd, N, md, ar, cr, lr, aw, cw, lw, af, cf, lf, rfl, b⟩
theorem cClashV : Tryz.prog.cellsOf 61 = 4 := by kernel_rfl
theorem cIntV : Tryz.prog.cellsOf 3 = 1 := by kernel_rfl
theorem one_intV {fuel : Nat} {cs : List Value} {x : DataW H × List MemPlace} (h : DataW.trod enc Tryz.prog w base spare held fuel 3 cs = some x) : ∃ z : Int, cs = [.int .i64 z] := by
  obtain ⟨z, e, _, _⟩ := DataW.trod_int Tryz.underlying3 h
  exact ⟨z, e⟩
theorem len4V {α : Type} {l : List α} (h : l.length = 4) : ∃ a b c d, l = [a, b, c, d] := by
  match l, h with
  | [a, b, c, d], _ => exact ⟨a, b, c, d, rfl⟩
set_option maxRecDepth 20000 in
theorem open_clashV {r : Reach} {b0 : Nat} {v : Value} {d : DataW H} {p : List MemPlace} (hv : Value.okWide Tryz.prog w r b0 61 v) (h : DataW.Trod enc Tryz.prog w base spare held 61 v d p) :
    ∃ (x0 : Int) (x1 x2 x3 : S), v = .agg #[.int .i64 x0, .int .u16 (sv x1), .int .u16 (sv x2), .int .u16 (sv x3)] := by
  obtain ⟨cs, rfl, hsz⟩ := okWide_struct Tryz.underlying61 hv
  obtain ⟨l⟩ := cs
  obtain ⟨fuel, hf0⟩ := h
  have hl : l.length = 4 := hsz.trans cClashV
  obtain ⟨xs, n, _, _, _, hxl, hf⟩ := DataW.trod_struct Tryz.underlying61 hf0
  obtain ⟨u0, u1, u2, u3, rfl⟩ := len4V hl
  obtain ⟨y0, y1, y2, y3, rfl⟩ := len4V (show xs.length = 4 from hxl)
  have f0 : DataW.trod enc Tryz.prog w base spare held n 3 (([u0, u1, u2, u3].drop 0).take (Tryz.prog.cellsOf 3)) = some y0 := hf 0 _ rfl
  have f1 : DataW.trod enc Tryz.prog w base spare held n 31 (([u0, u1, u2, u3].drop 1).take (Tryz.prog.cellsOf 31)) = some y1 := hf 1 _ rfl
  have f2 : DataW.trod enc Tryz.prog w base spare held n 31 (([u0, u1, u2, u3].drop 2).take (Tryz.prog.cellsOf 31)) = some y2 := hf 2 _ rfl
  have f3 : DataW.trod enc Tryz.prog w base spare held n 31 (([u0, u1, u2, u3].drop 3).take (Tryz.prog.cellsOf 31)) = some y3 := hf 3 _ rfl
  rw [cIntV] at f0
  rw [cells1] at f1 f2 f3
  obtain ⟨x0, e0⟩ := one_intV f0
  obtain ⟨x1, e1⟩ := one_set f1
  obtain ⟨x2, e2⟩ := one_set f2
  obtain ⟨x3, e3⟩ := one_set f3
  simp at e0 e1 e2 e3
  subst e0; subst e1; subst e2; subst e3
  exact ⟨x0, x1, x2, x3, rfl⟩
end
theorem open_faultsV {H : Type} {enc : TypeId × Value → H} {w : World} {base : Nat} {spare : Nat → Bool} {held : Bool} {a : Option Addr} {len cap : Nat} {d : DataW H} {p : List MemPlace} (h : DataW.Trod enc Tryz.prog w base spare held 22 (.slice a len cap) d p) :
    ∃ l : List F2, Rd w a len cap 2 (fl l) := by
  obtain ⟨fuel, hf⟩ := h
  obtain ⟨a', len', cap', l, e, hr⟩ := rd_faults hf
  simp [Value.cells] at e
  obtain ⟨rfl, rfl, rfl⟩ := e
  exact ⟨l, hr⟩
end Go.Proofs.YtijknodekomdfaaGreatDoor
