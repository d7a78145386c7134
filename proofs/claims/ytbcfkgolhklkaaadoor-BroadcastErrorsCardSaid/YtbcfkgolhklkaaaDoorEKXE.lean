/- Texts joined into one, what is needed of them (a program of ours). -/
import Derived.Test.YtbcfkgolhklkaaaDoorEKX
import Derived.Test.YtbcfkgolhklkaaaDoorEKA
namespace Go.Proofs.YtbcfkgolhklkaaaDoor
open Go.RowKit Go.Lib Go.ChangeShapes Go.WideShapes Go.Deep

section
variable {H : Type} {enc : TypeId × Value → H} {w : World} {base : Nat} {spare : Nat → Bool} {held : Bool} {fuel : Nat} {cs : List Value} {x : DataW H × List MemPlace}
theorem lenE4 {α : Type} {l : List α} (h : l.length = 4) : ∃ a b c d, l = [a, b, c, d] := by match l, h with | [a, b, c, d], _ => exact ⟨a, b, c, d, rfl⟩
theorem c16E : Tryd.prog.cellsOf 24 = 1 := by kernel_rfl
theorem cIntE : Tryd.prog.cellsOf 3 = 1 := by kernel_rfl
theorem cNumE : Tryd.prog.cellsOf 26 = 4 := by kernel_rfl
theorem one_setE (h : DataW.trod enc Tryd.prog w base spare held fuel 24 cs = some x) : ∃ z : S, cs = [.int .u16 (sv z)] := by
  obtain ⟨z, e, _, b⟩ := DataW.trod_int Tryd.underlying24 h
  have q := bounds16 b
  exact ⟨BitVec.ofInt 16 z, by rw [e, sv_ofInt z q.1 q.2]⟩
theorem one_intE (h : DataW.trod enc Tryd.prog w base spare held fuel 3 cs = some x) : ∃ z : Int, cs = [.int .i64 z] := by
  obtain ⟨z, e, _, _⟩ := DataW.trod_int Tryd.underlying3 h
  exact ⟨z, e⟩
theorem open_sets {a : Option Addr} {len cap : Nat} {d : DataW H} {p : List MemPlace} (h : DataW.Trod enc Tryd.prog w base spare held 22 (.slice a len cap) d p) : ∃ l : List S, Rd w a len cap 1 (sl l) := by
  obtain ⟨fuel, hf⟩ := h
  obtain ⟨a', len', cap', l, e, hr⟩ := rd_sets Tryd.underlying22 Tryd.underlying24 c16E hf
  simp [Value.cells] at e
  obtain ⟨rfl, rfl, rfl⟩ := e
  exact ⟨l, hr⟩
set_option maxRecDepth 20000 in
theorem open_numbers {r : Reach} {b0 : Nat} {v : Value} {d : DataW H} {p : List MemPlace} (hv : Value.okWide Tryd.prog w r b0 26 v) (h : DataW.Trod enc Tryd.prog w base spare held 26 v d p) :
    ∃ (N so ch : Int) (z : S), v = .agg #[.int .i64 N, .int .i64 so, .int .i64 ch, .int .u16 (sv z)] := by
  obtain ⟨cs, rfl, hsz⟩ := okWide_struct Tryd.underlying26 hv
  obtain ⟨l⟩ := cs
  obtain ⟨fuel, hf0⟩ := h
  have hl : l.length = 4 := hsz.trans cNumE
  obtain ⟨xs, n, _, _, _, hxl, hf⟩ := DataW.trod_struct Tryd.underlying26 hf0
  obtain ⟨u0, u1, u2, u3, rfl⟩ := lenE4 hl
  obtain ⟨y0, y1, y2, y3, rfl⟩ := lenE4 (show xs.length = 4 from hxl)
  have f0 : DataW.trod enc Tryd.prog w base spare held n 3 (([u0, u1, u2, u3].drop 0).take (Tryd.prog.cellsOf 3)) = some y0 := hf 0 _ rfl
  have f1 : DataW.trod enc Tryd.prog w base spare held n 3 (([u0, u1, u2, u3].drop 1).take (Tryd.prog.cellsOf 3)) = some y1 := hf 1 _ rfl
  have f2 : DataW.trod enc Tryd.prog w base spare held n 3 (([u0, u1, u2, u3].drop 2).take (Tryd.prog.cellsOf 3)) = some y2 := hf 2 _ rfl
  have f3 : DataW.trod enc Tryd.prog w base spare held n 24 (([u0, u1, u2, u3].drop 3).take (Tryd.prog.cellsOf 24)) = some y3 := hf 3 _ rfl
  rw [cIntE] at f0 f1 f2
  rw [c16E] at f3
  obtain ⟨x0, e0⟩ := one_intE f0
  obtain ⟨x1, e1⟩ := one_intE f1
  obtain ⟨x2, e2⟩ := one_intE f2
  obtain ⟨x3, e3⟩ := one_setE f3
  simp at e0 e1 e2 e3
  subst e0; subst e1; subst e2; subst e3
  exact ⟨x0, x1, x2, x3, rfl⟩
end
end Go.Proofs.YtbcfkgolhklkaaaDoor
