/- Texts joined into one, what is needed of them (a program of ours). -/
import Derived.Test.YtijknodekomdfaaGreatDoorCKN
import Derived.Test.YtijknodekomdfaaGreatDoorCKLaw29a
namespace Go.Proofs.YtijknodekomdfaaGreatDoor
open Go.RowKit Go.Lib Go.ChangeShapes Go.WideShapes Go.Deep

section
variable {H : Type} {enc : TypeId × Value → H} {w : World} {base : Nat} {spare : Nat → Bool} {held : Bool}
theorem cDeal : Tryz.prog.cellsOf 50 = 14 := by kernel_rfl
theorem cSetT : Tryz.prog.cellsOf 31 = 1 := by kernel_rfl
theorem len14T {α : Type} {l : List α} (h : l.length = 14) : ∃ u0 u1 u2 u3 u4 u5 u6 u7 u8 u9 u10 u11 u12 u13, l = [u0, u1, u2, u3, u4, u5, u6, u7, u8, u9, u10, u11, u12, u13] := by
  match l, h with
  | [u0, u1, u2, u3, u4, u5, u6, u7, u8, u9, u10, u11, u12, u13], _ => exact ⟨u0, u1, u2, u3, u4, u5, u6, u7, u8, u9, u10, u11, u12, u13, rfl⟩
theorem len4T {α : Type} {l : List α} (h : l.length = 4) : ∃ a b c d, l = [a, b, c, d] := by
  match l, h with
  | [a, b, c, d], _ => exact ⟨a, b, c, d, rfl⟩
set_option maxRecDepth 20000 in
theorem open_deal {r : Reach} {b0 : Nat} {v : Value} {d : DataW H} {p : List MemPlace} (hv : Value.okWide Tryz.prog w r b0 50 v) (h : DataW.Trod enc Tryz.prog w base spare held 50 v d p) :
    ∃ (a b : D29) (z : S) (am : Option Addr) (cm : Nat) (m : List F2), v = .agg #[.int .u8 a.kd, .int .u8 a.N, .int .u8 a.md, .slice a.ar a.lr.length a.cr, .slice a.aw a.lw.length a.cw, .slice a.af a.lf.length a.cf, .int .u8 b.kd, .int .u8 b.N, .int .u8 b.md, .slice b.ar b.lr.length b.cr, .slice b.aw b.lw.length b.cw, .slice b.af b.lf.length b.cf, .int .u16 (sv z), .slice am m.length cm] ∧ OkD w a ∧ OkD w b ∧ Rd w am m.length cm 2 (fl m) := by
  obtain ⟨cs, rfl, hsz⟩ := okWide_struct Tryz.underlying50 hv
  obtain ⟨l⟩ := cs
  obtain ⟨fuel, hf0⟩ := h
  have hl : l.length = 14 := hsz.trans cDeal
  obtain ⟨xs, n, _, _, _, hxl, hf⟩ := DataW.trod_struct Tryz.underlying50 hf0
  obtain ⟨u0, u1, u2, u3, u4, u5, u6, u7, u8, u9, u10, u11, u12, u13, rfl⟩ := len14T hl
  obtain ⟨y0, y1, y2, y3, rfl⟩ := len4T (show xs.length = 4 from hxl)
  have f0 : DataW.trod enc Tryz.prog w base spare held n 48 (([u0, u1, u2, u3, u4, u5, u6, u7, u8, u9, u10, u11, u12, u13].drop 0).take (Tryz.prog.cellsOf 48)) = some y0 := hf 0 _ rfl
  have f1 : DataW.trod enc Tryz.prog w base spare held n 48 (([u0, u1, u2, u3, u4, u5, u6, u7, u8, u9, u10, u11, u12, u13].drop 6).take (Tryz.prog.cellsOf 48)) = some y1 := hf 1 _ rfl
  have f2 : DataW.trod enc Tryz.prog w base spare held n 31 (([u0, u1, u2, u3, u4, u5, u6, u7, u8, u9, u10, u11, u12, u13].drop 12).take (Tryz.prog.cellsOf 31)) = some y2 := hf 2 _ rfl
  have f3 : DataW.trod enc Tryz.prog w base spare held n 22 (([u0, u1, u2, u3, u4, u5, u6, u7, u8, u9, u10, u11, u12, u13].drop 13).take (Tryz.prog.cellsOf 22)) = some y3 := hf 3 _ rfl
  rw [cDraft] at f0 f1
  rw [cSetT] at f2
  rw [cSF] at f3
  obtain ⟨kd, N, md, ar, cr, lr, aw, cw, lw, af, cf, lf, e0, b0, b1, b2, r3, r4, r5⟩ := open_draft f0
  obtain ⟨kd', N', md', ar', cr', lr', aw', cw', lw', af', cf', lf', e1, b0', b1', b2', r3', r4', r5'⟩ := open_draft f1
  obtain ⟨z, e2⟩ := one_set f2
  obtain ⟨am, nm, cm, m, e3, r6⟩ := rd_faults f3
  simp at e0 e1 e2 e3
  obtain ⟨rfl, rfl, rfl, rfl, rfl, rfl⟩ := e0
  obtain ⟨rfl, rfl, rfl, rfl, rfl, rfl⟩ := e1
  have L6 := r6.lenF
  subst e2; subst e3; subst L6
  exact ⟨⟨kd, N, md, 0, lr, lw, lf, ar, cr, aw, cw, af, cf⟩, ⟨kd', N', md', 0, lr', lw', lf', ar', cr', aw', cw', af', cf'⟩, z, am, cm, m, rfl, ⟨r3, r4, r5, b0.1, b0.2, b1.1, b1.2, b2.1, b2.2, Int.le_refl _⟩, ⟨r3', r4', r5', b0'.1, b0'.2, b1'.1, b1'.2, b2'.1, b2'.2, Int.le_refl _⟩, r6⟩
end
end Go.Proofs.YtijknodekomdfaaGreatDoor
