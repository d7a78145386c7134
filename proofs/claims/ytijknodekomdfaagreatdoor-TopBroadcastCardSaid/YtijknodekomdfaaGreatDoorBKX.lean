/- Texts joined into one, what is needed of them (a program of ours). -/
import Derived.Test.YtijknodekomdfaaGreatDoorBKA
import Derived.ProofKit
import Derived.OpenShut
import Derived.Deep.Slices
import Derived.ChangeShapes
namespace Go.Proofs.YtijknodekomdfaaGreatDoor
open Go.RowKit Go.Lib Go.ChangeShapes Go.WideShapes Go.Deep

section
variable {H : Type} {enc : TypeId × Value → H} {w : World} {base : Nat} {spare : Nat → Bool} {held : Bool} {fuel : Nat} {cs : List Value} {x : DataW H × List MemPlace}
theorem len6 {α : Type} {l : List α} (h : l.length = 6) : ∃ a b c d e f, l = [a, b, c, d, e, f] := by match l, h with | [a, b, c, d, e, f], _ => exact ⟨a, b, c, d, e, f, rfl⟩
theorem rd_sets {t e : TypeId} (ht : Tryz.prog.underlying t = some (.slice e)) (he : Tryz.prog.underlying e = some (.int .u16)) (hc : Tryz.prog.cellsOf e = 1)
    (h : DataW.trod enc Tryz.prog w base spare held fuel t cs = some x) : ∃ (a : Option Addr) (len cap : Nat) (l : List S), cs = [.slice a len cap] ∧ Rd w a len cap 1 (sl l) := by
  rcases open_ints ht he hc h with ⟨hcs, _⟩ | ⟨y, len, cap, zs, hcs, _, hl, hm, hz, _, hcell, hwz⟩
  · exact ⟨none, 0, 0, [], hcs, rfl, Nat.le_refl _, Nat.zero_le _, fun h => absurd h (Nat.lt_irrefl _), fun j u hu => by simp [sl] at hu⟩
  · have hlz : len ≤ zs.length := by rw [hz]; split <;> omega
    refine ⟨some y, len, cap, (zs.take len).map (BitVec.ofInt 16), hcs, by simp; omega, hl, hm, fun _ => rfl, fun j u hu => ?_⟩
    have hj : j < len := by
      have := (List.getElem?_eq_some_iff.1 hu).1
      simp at this; omega
    have hjz : j < zs.length := by omega
    have hb := bounds16 (hwz zs[j] (List.getElem_mem hjz))
    have e1 : u = .int .u16 zs[j] := by
      simp [sl, hj, hjz] at hu
      rw [← hu, sv_ofInt _ hb.1 hb.2]
    rw [e1]
    have := hcell j hjz
    simpa [adr, List.getD, hjz] using this
theorem bounds8' {z : Int} (h : (Lit.int .u8 z).wf = true) : 0 ≤ z ∧ z ≤ 255 := by
  simp [Lit.wf, IntKind.min, IntKind.max, IntKind.signed, IntKind.bits] at h
  omega
theorem one_u8 (h : DataW.trod enc Tryz.prog w base spare held fuel 5 cs = some x) : ∃ z : Int, cs = [.int .u8 z] ∧ 0 ≤ z ∧ z ≤ 255 := by
  obtain ⟨z, e, _, b⟩ := DataW.trod_int Tryz.underlying5 h
  exact ⟨z, e, bounds8' b⟩
theorem c8 : Tryz.prog.cellsOf 5 = 1 := by kernel_rfl
theorem c16 : Tryz.prog.cellsOf 30 = 1 := by kernel_rfl
theorem cS16 : Tryz.prog.cellsOf 46 = 1 := by kernel_rfl
end
end Go.Proofs.YtijknodekomdfaaGreatDoor
