/- Texts joined into one, what is needed of them (a program of ours). -/
import Derived.Test.YtbcfkgolhklkaaaDoorEKX
import Derived.Test.YtbcfkgolhklkaaaDoorEKR
import Derived.Test.YtbcfkgolhklkaaaDoorEKS
namespace Go.Proofs.YtbcfkgolhklkaaaDoor
open Go.RowKit Go.Lib Go.ChangeShapes Go.WideShapes Go.Deep

section
variable {H : Type} {enc : TypeId × Value → H} {w : World} {base : Nat} {spare : Nat → Bool} {held : Bool} {fuel : Nat} {cs : List Value} {x : DataW H × List MemPlace}
theorem cCase39 : Tryd.prog.cellsOf 42 = 6 := by kernel_rfl
set_option maxRecDepth 20000 in
theorem open_case39 {r : Reach} {b0 : Nat} {v : Value} {d : DataW H} {p : List MemPlace} (hv : Value.okWide Tryd.prog w r b0 42 v) (h : DataW.Trod enc Tryd.prog w base spare held 42 v d p) :
    ∃ k : KA, v = vK k ∧ RdK w k := by
  obtain ⟨cs, rfl, hsz⟩ := okWide_struct Tryd.underlying42 hv
  obtain ⟨l⟩ := cs
  obtain ⟨fuel, hf0⟩ := h
  have hl : l.length = 6 := hsz.trans cCase39
  obtain ⟨xs, n, _, _, _, hxl, hf⟩ := DataW.trod_struct Tryd.underlying42 hf0
  obtain ⟨u0, u1, u2, u3, u4, u5, rfl⟩ := len6 hl
  obtain ⟨y0, y1, y2, y3, y4, y5, rfl⟩ := len6 (show xs.length = 6 from hxl)
  have f0 : DataW.trod enc Tryd.prog w base spare held n 5 (([u0, u1, u2, u3, u4, u5].drop 0).take (Tryd.prog.cellsOf 5)) = some y0 := hf 0 _ rfl
  have f1 : DataW.trod enc Tryd.prog w base spare held n 5 (([u0, u1, u2, u3, u4, u5].drop 1).take (Tryd.prog.cellsOf 5)) = some y1 := hf 1 _ rfl
  have f2 : DataW.trod enc Tryd.prog w base spare held n 5 (([u0, u1, u2, u3, u4, u5].drop 2).take (Tryd.prog.cellsOf 5)) = some y2 := hf 2 _ rfl
  have f3 : DataW.trod enc Tryd.prog w base spare held n 40 (([u0, u1, u2, u3, u4, u5].drop 3).take (Tryd.prog.cellsOf 40)) = some y3 := hf 3 _ rfl
  have f4 : DataW.trod enc Tryd.prog w base spare held n 40 (([u0, u1, u2, u3, u4, u5].drop 4).take (Tryd.prog.cellsOf 40)) = some y4 := hf 4 _ rfl
  have f5 : DataW.trod enc Tryd.prog w base spare held n 5 (([u0, u1, u2, u3, u4, u5].drop 5).take (Tryd.prog.cellsOf 5)) = some y5 := hf 5 _ rfl
  rw [c8] at f0 f1 f2 f5
  rw [cS16] at f3 f4
  obtain ⟨z0, e0, b0⟩ := one_u8 f0
  obtain ⟨z1, e1, b1⟩ := one_u8 f1
  obtain ⟨z2, e2, b2⟩ := one_u8 f2
  obtain ⟨ar, nr, cr, lr, e3, r3⟩ := rd_sets Tryd.underlying40 Tryd.underlying23 c16 f3
  obtain ⟨aw, nw, cw, lw, e4, r4⟩ := rd_sets Tryd.underlying40 Tryd.underlying23 c16 f4
  obtain ⟨z5, e5, b5⟩ := one_u8 f5
  simp at e0 e1 e2 e3 e4 e5
  have L3 := r3.lenS; have L4 := r4.lenS
  subst e0; subst e1; subst e2; subst e3; subst e4; subst e5; subst L3; subst L4
  obtain ⟨m0, rfl⟩ : ∃ m : Nat, z0 = m := ⟨z0.toNat, by omega⟩
  obtain ⟨m1, rfl⟩ : ∃ m : Nat, z1 = m := ⟨z1.toNat, by omega⟩
  obtain ⟨m2, rfl⟩ : ∃ m : Nat, z2 = m := ⟨z2.toNat, by omega⟩
  obtain ⟨m5, rfl⟩ : ∃ m : Nat, z5 = m := ⟨z5.toNat, by omega⟩
  exact ⟨⟨m0, m1, m2, ar, lr, cr, aw, lw, cw, m5⟩, rfl, r3, r4, by dsimp only; omega, by dsimp only; omega, by dsimp only; omega, by dsimp only; omega⟩
end
end Go.Proofs.YtbcfkgolhklkaaaDoor
