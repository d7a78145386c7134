/- Texts joined into one, what is needed of them (a program of ours). -/
import Derived.Test.YtijknodekomdfaaGreatDoorBKX
import Derived.Test.YtijknodekomdfaaGreatDoorBKT
namespace Go.Proofs.YtijknodekomdfaaGreatDoor
open Go.RowKit Go.Lib Go.ChangeShapes Go.WideShapes Go.Deep

section
variable {H : Type} {enc : TypeId × Value → H} {w : World} {base : Nat} {spare : Nat → Bool} {held : Bool} {fuel : Nat} {cs : List Value} {x : DataW H × List MemPlace}
/-- a slice of bytes reads as a list of numbers -/
theorem rd_bytes (h : DataW.trod enc Tryz.prog w base spare held fuel 68 cs = some x) : ∃ (a : Option Addr) (len cap : Nat) (l : List Nat), cs = [.slice a len cap] ∧ Rd w a len cap 1 (bl l) ∧ ∀ c ∈ l, c < 256 := by
  rcases open_ints Tryz.underlying68 Tryz.underlying5 c8 h with ⟨hcs, _⟩ | ⟨y, len, cap, zs, hcs, _, hl, hm, hz, _, hcell, hwz⟩
  · exact ⟨none, 0, 0, [], hcs, ⟨rfl, Nat.le_refl _, Nat.zero_le _, fun h => absurd h (Nat.lt_irrefl _), fun j u hu => by simp [bl] at hu⟩, fun c hc => by cases hc⟩
  · have hlz : len ≤ zs.length := by rw [hz]; split <;> omega
    refine ⟨some y, len, cap, (zs.take len).map Int.toNat, hcs, ⟨by simp [bl]; omega, hl, hm, fun _ => rfl, fun j u hu => ?_⟩, fun c hc => ?_⟩
    · have hj : j < len := by
        have := (List.getElem?_eq_some_iff.1 hu).1
        simp [bl] at this; omega
      have hjz : j < zs.length := by omega
      have hb := bounds8' (hwz zs[j] (List.getElem_mem hjz))
      have e1 : u = .int .u8 zs[j] := by
        simp [bl, hj, hjz] at hu
        rw [← hu]
        congr 1
        omega
      rw [e1]
      have := hcell j hjz
      simpa [adr, List.getD, hjz] using this
    · obtain ⟨z, hz, rfl⟩ := List.mem_map.1 hc
      have := bounds8' (hwz z (List.mem_of_mem_take hz))
      omega
theorem cCase39 : Tryz.prog.cellsOf 67 = 6 := by kernel_rfl
set_option maxRecDepth 20000 in
theorem open_case39 {r : Reach} {b0 : Nat} {v : Value} {d : DataW H} {p : List MemPlace} (hv : Value.okWide Tryz.prog w r b0 67 v) (h : DataW.Trod enc Tryz.prog w base spare held 67 v d p) :
    ∃ k : KA, v = vK k ∧ RdK w k := by
  obtain ⟨cs, rfl, hsz⟩ := okWide_struct Tryz.underlying67 hv
  obtain ⟨l⟩ := cs
  obtain ⟨fuel, hf0⟩ := h
  have hl : l.length = 6 := hsz.trans cCase39
  obtain ⟨xs, n, _, _, _, hxl, hf⟩ := DataW.trod_struct Tryz.underlying67 hf0
  obtain ⟨u0, u1, u2, u3, u4, u5, rfl⟩ := len6 hl
  obtain ⟨y0, y1, y2, y3, y4, y5, rfl⟩ := len6 (show xs.length = 6 from hxl)
  have f0 : DataW.trod enc Tryz.prog w base spare held n 5 (([u0, u1, u2, u3, u4, u5].drop 0).take (Tryz.prog.cellsOf 5)) = some y0 := hf 0 _ rfl
  have f1 : DataW.trod enc Tryz.prog w base spare held n 5 (([u0, u1, u2, u3, u4, u5].drop 1).take (Tryz.prog.cellsOf 5)) = some y1 := hf 1 _ rfl
  have f2 : DataW.trod enc Tryz.prog w base spare held n 5 (([u0, u1, u2, u3, u4, u5].drop 2).take (Tryz.prog.cellsOf 5)) = some y2 := hf 2 _ rfl
  have f3 : DataW.trod enc Tryz.prog w base spare held n 46 (([u0, u1, u2, u3, u4, u5].drop 3).take (Tryz.prog.cellsOf 46)) = some y3 := hf 3 _ rfl
  have f4 : DataW.trod enc Tryz.prog w base spare held n 46 (([u0, u1, u2, u3, u4, u5].drop 4).take (Tryz.prog.cellsOf 46)) = some y4 := hf 4 _ rfl
  have f5 : DataW.trod enc Tryz.prog w base spare held n 5 (([u0, u1, u2, u3, u4, u5].drop 5).take (Tryz.prog.cellsOf 5)) = some y5 := hf 5 _ rfl
  rw [c8] at f0 f1 f2 f5
  rw [cS16] at f3 f4
  obtain ⟨z0, e0, b0⟩ := one_u8 f0
  obtain ⟨z1, e1, b1⟩ := one_u8 f1
  obtain ⟨z2, e2, b2⟩ := one_u8 f2
  obtain ⟨ar, nr, cr, lr, e3, r3⟩ := rd_sets Tryz.underlying46 Tryz.underlying30 c16 f3
  obtain ⟨aw, nw, cw, lw, e4, r4⟩ := rd_sets Tryz.underlying46 Tryz.underlying30 c16 f4
  obtain ⟨z5, e5, b5⟩ := one_u8 f5
  simp at e0 e1 e2 e3 e4 e5
  have L3 := r3.lenS; have L4 := r4.lenS
  subst e0; subst e1; subst e2; subst e3; subst e4; subst e5; subst L3; subst L4
  obtain ⟨m0, rfl⟩ : ∃ m : Nat, z0 = m := ⟨z0.toNat, by omega⟩
  obtain ⟨m1, rfl⟩ : ∃ m : Nat, z1 = m := ⟨z1.toNat, by omega⟩
  obtain ⟨m2, rfl⟩ : ∃ m : Nat, z2 = m := ⟨z2.toNat, by omega⟩
  obtain ⟨m5, rfl⟩ : ∃ m : Nat, z5 = m := ⟨z5.toNat, by omega⟩
  exact ⟨⟨m0, m1, m2, ar, lr, cr, aw, lw, cw, m5⟩, rfl, r3, r4, by dsimp only; omega, by dsimp only; omega, by dsimp only; omega, by dsimp only; omega⟩
theorem open_bytes {a : Option Addr} {len cap : Nat} {d : DataW H} {p : List MemPlace} (h : DataW.Trod enc Tryz.prog w base spare held 68 (.slice a len cap) d p) :
    ∃ l : List Nat, Rd w a l.length cap 1 (bl l) ∧ (∀ c ∈ l, c < 256) ∧ len = l.length := by
  obtain ⟨fuel, hf⟩ := h
  obtain ⟨a', len', cap', l, e, hr, h256⟩ := rd_bytes hf
  simp [Value.cells] at e
  obtain ⟨rfl, rfl, rfl⟩ := e
  have L : len = l.length := by have := hr.len; simp [bl] at this; omega
  subst L
  exact ⟨l, hr, h256, rfl⟩
end
end Go.Proofs.YtijknodekomdfaaGreatDoor
