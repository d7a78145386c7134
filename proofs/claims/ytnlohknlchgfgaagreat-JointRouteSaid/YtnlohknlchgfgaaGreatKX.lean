/- Texts joined into one (wip/bin/pack.py): OpenJ, OpenJ2. -/
import Derived.Test.YtnlohknlchgfgaaGreatKN
import Derived.Test.YtnlohknlchgfgaaGreatKLaw29a
/- A description of layer 29 that came in as an argument, opened. -/
namespace Go.Proofs.YtnlohknlchgfgaaGreat
open Go.RowKit Go.Lib Go.ChangeShapes Go.WideShapes Go.Deep

section
variable {H : Type} {enc : TypeId × Value → H} {w : World} {base : Nat} {spare : Nat → Bool} {held : Bool}
theorem cD29 : Tryz.prog.cellsOf 27 = 7 := by kernel_rfl
theorem cU8J : Tryz.prog.cellsOf 5 = 1 := by kernel_rfl
theorem one_u8J {fuel : Nat} {cs : List Value} {x : DataW H × List MemPlace} (h : DataW.trod enc Tryz.prog w base spare held fuel 5 cs = some x) : ∃ z : Int, cs = [.int .u8 z] ∧ 0 ≤ z ∧ z ≤ 255 := by
  obtain ⟨z, e, _, hw⟩ := DataW.trod_int Tryz.underlying5 h
  exact ⟨z, e, bounds8' hw⟩
theorem len7J {α : Type} {l : List α} (h : l.length = 7) : ∃ a b c d e f g, l = [a, b, c, d, e, f, g] := by
  match l, h with
  | [a, b, c, d, e, f, g], _ => exact ⟨a, b, c, d, e, f, g, rfl⟩
theorem len2J {α : Type} {l : List α} (h : l.length = 2) : ∃ a b, l = [a, b] := by
  match l, h with
  | [a, b], _ => exact ⟨a, b, rfl⟩
set_option maxRecDepth 20000 in
theorem open_d29 {r : Reach} {b0 : Nat} {v : Value} {d : DataW H} {p : List MemPlace} (hv : Value.okWide Tryz.prog w r b0 27 v) (h : DataW.Trod enc Tryz.prog w base spare held 27 v d p) :
    ∃ x : D29, v = vD x ∧ OkD w x := by
  obtain ⟨cs, rfl, hsz⟩ := okWide_struct Tryz.underlying27 hv
  obtain ⟨l⟩ := cs
  obtain ⟨fuel, hf0⟩ := h
  have hl : l.length = 7 := hsz.trans cD29
  obtain ⟨xs, n, _, _, _, hxl, hf⟩ := DataW.trod_struct Tryz.underlying27 hf0
  obtain ⟨u0, u1, u2, u3, u4, u5, u6, rfl⟩ := len7J hl
  obtain ⟨y0, y1, rfl⟩ := len2J (show xs.length = 2 from hxl)
  have f0 : DataW.trod enc Tryz.prog w base spare held n 25 (([u0, u1, u2, u3, u4, u5, u6].drop 0).take (Tryz.prog.cellsOf 25)) = some y0 := hf 0 _ rfl
  have f1 : DataW.trod enc Tryz.prog w base spare held n 5 (([u0, u1, u2, u3, u4, u5, u6].drop 6).take (Tryz.prog.cellsOf 5)) = some y1 := hf 1 _ rfl
  rw [cDraft] at f0
  rw [cU8J] at f1
  obtain ⟨kd, N, md, ar, cr, lr, aw, cw, lw, af, cf, lf, e0, b0, b1, b2, r3, r4, r5⟩ := open_draft f0
  obtain ⟨mv, e1, m0, m1⟩ := one_u8J f1
  simp at e0 e1
  obtain ⟨rfl, rfl, rfl, rfl, rfl, rfl⟩ := e0
  subst e1
  exact ⟨⟨kd, N, md, mv, lr, lw, lf, ar, cr, aw, cw, af, cf⟩, rfl, ⟨r3, r4, r5, b0.1, b0.2, b1.1, b1.2, b2.1, b2.2, m0⟩⟩
end
end Go.Proofs.YtnlohknlchgfgaaGreat
/- Two numbers of 16 bits that came in as an argument, opened. -/
namespace Go.Proofs.YtnlohknlchgfgaaGreat
open Go.RowKit Go.Lib Go.ChangeShapes Go.WideShapes Go.Deep

section
variable {H : Type} {enc : TypeId × Value → H} {w : World} {base : Nat} {spare : Nat → Bool} {held : Bool}
theorem cP16 : Tryz.prog.cellsOf 56 = 2 := by kernel_rfl
theorem cU16J : Tryz.prog.cellsOf 28 = 1 := by kernel_rfl
theorem okWide_arr {P : Program} {r : Reach} {b0 : Nat} {t : TypeId} {v : Value} {n : Nat} {e : TypeId} (ht : P.underlying t = some (.array n e)) (h : Value.okWide P w r b0 t v) : ∃ cs, v = .agg cs ∧ cs.size = P.cellsOf t := by
  simp only [Value.okWide, ht] at h
  obtain ⟨cs, h1, h2, _⟩ := h
  exact ⟨cs, h1, h2⟩
theorem one_u16J {fuel : Nat} {cs : List Value} {x : DataW H × List MemPlace} (h : DataW.trod enc Tryz.prog w base spare held fuel 28 cs = some x) : ∃ z : S, cs = [.int .u16 (sv z)] := by
  obtain ⟨z, e, _, b⟩ := DataW.trod_int Tryz.underlying28 h
  have q := bounds16 b
  exact ⟨BitVec.ofInt 16 z, by rw [e, sv_ofInt z q.1 q.2]⟩
set_option maxRecDepth 20000 in
theorem open_pair16 {r : Reach} {b0 : Nat} {v : Value} {d : DataW H} {p : List MemPlace} (hv : Value.okWide Tryz.prog w r b0 56 v) (h : DataW.Trod enc Tryz.prog w base spare held 56 v d p) :
    ∃ x0 x1 : S, v = .agg #[.int .u16 (sv x0), .int .u16 (sv x1)] := by
  obtain ⟨cs, rfl, hsz⟩ := okWide_arr Tryz.underlying56 hv
  obtain ⟨l⟩ := cs
  obtain ⟨fuel, hf0⟩ := h
  have hl : l.length = 2 := hsz.trans cP16
  obtain ⟨xs, n, _, _, _, hxl, hf⟩ := DataW.trod_array Tryz.underlying56 hf0
  obtain ⟨u0, u1, rfl⟩ := len2J hl
  obtain ⟨y0, y1, rfl⟩ := len2J (show xs.length = 2 from hxl)
  have f0 : DataW.trod enc Tryz.prog w base spare held n 28 (([u0, u1].drop (0 * Tryz.prog.cellsOf 28)).take (Tryz.prog.cellsOf 28)) = some y0 := hf 0 (by decide)
  have f1 : DataW.trod enc Tryz.prog w base spare held n 28 (([u0, u1].drop (1 * Tryz.prog.cellsOf 28)).take (Tryz.prog.cellsOf 28)) = some y1 := hf 1 (by decide)
  rw [cU16J] at f0 f1
  obtain ⟨z0, e0⟩ := one_u16J (x := y0) f0
  obtain ⟨z1, e1⟩ := one_u16J (x := y1) f1
  simp at e0 e1
  subst e0; subst e1
  exact ⟨z0, z1, rfl⟩
end
end Go.Proofs.YtnlohknlchgfgaaGreat
