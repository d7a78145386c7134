/- Texts joined into one (wip/bin/pack.py): OpenP. -/
import Derived.OpenShut
import Derived.Test.YtcnccoinhohbeaaGreatDoorKV
/- A pair of sets that came in as an argument, opened. -/
namespace Go.Proofs.YtcnccoinhohbeaaGreatDoor
open Go.RowKit Go.Lib Go.ChangeShapes Go.WideShapes Go.Deep

theorem okWide_arrayV {P : Program} {w : World} {t : TypeId} {r : Reach} {base : Nat} {v : Value} {n : Nat} {e : TypeId} (ht : P.underlying t = some (.array n e)) (h : Value.okWide P w r base t v) : ∃ cs, v = .agg cs ∧ cs.size = P.cellsOf t := by
  simp only [Value.okWide, ht] at h
  obtain ⟨cs, h1, h2, _⟩ := h
  exact ⟨cs, h1, h2⟩
theorem len2V {α : Type} {l : List α} (h : l.length = 2) : ∃ a b, l = [a, b] := by
  match l, h with
  | [a, b], _ => exact ⟨a, b, rfl⟩
theorem cPairV : Tryz.prog.cellsOf 51 = 2 := by kernel_rfl
set_option maxRecDepth 20000 in
theorem open_pairV {H : Type} {enc : TypeId × Value → H} {w : World} {base : Nat} {spare : Nat → Bool} {held : Bool} {r : Reach} {b0 : Nat} {v : Value} {d : DataW H} {p : List MemPlace} (hv : Value.okWide Tryz.prog w r b0 51 v) (h : DataW.Trod enc Tryz.prog w base spare held 51 v d p) :
    ∃ (x0 x1 : S), v = .agg #[.int .u16 (sv x0), .int .u16 (sv x1)] := by
  obtain ⟨cs, rfl, hsz⟩ := okWide_arrayV Tryz.underlying51 hv
  obtain ⟨l⟩ := cs
  obtain ⟨fuel, hf0⟩ := h
  have hl : l.length = 2 := hsz.trans cPairV
  obtain ⟨xs, n, _, _, _, hxl, hf⟩ := DataW.trod_array Tryz.underlying51 hf0
  obtain ⟨u0, u1, rfl⟩ := len2V hl
  obtain ⟨y0, y1, rfl⟩ := len2V hxl
  have f0 : DataW.trod enc Tryz.prog w base spare held n 27 (([u0, u1].drop (0 * Tryz.prog.cellsOf 27)).take (Tryz.prog.cellsOf 27)) = some y0 := hf 0 (by decide)
  have f1 : DataW.trod enc Tryz.prog w base spare held n 27 (([u0, u1].drop (1 * Tryz.prog.cellsOf 27)).take (Tryz.prog.cellsOf 27)) = some y1 := hf 1 (by decide)
  rw [cells1] at f0 f1
  obtain ⟨x0, e0⟩ := one_set f0
  obtain ⟨x1, e1⟩ := one_set f1
  simp at e0 e1
  subst e0; subst e1
  exact ⟨x0, x1, rfl⟩
end Go.Proofs.YtcnccoinhohbeaaGreatDoor
