/- A slice of sets that came in reads as a list of sets. -/
import Derived.Test.YtbiggfbbccpcmaaDoorBase
namespace Go.Proofs.YtbiggfbbccpcmaaDoor
open Go.RowKit Go.Lib

theorem sv_ofInt (z : Int) (h0 : 0 ≤ z) (h1 : z ≤ 65535) : sv (BitVec.ofInt 16 z) = z := by
  unfold sv; rw [BitVec.toNat_ofInt]; omega
theorem bounds16 {z : Int} (h : (Lit.int .u16 z).wf = true) : 0 ≤ z ∧ z ≤ 65535 := by
  simp [Lit.wf, IntKind.min, IntKind.max, IntKind.signed, IntKind.bits] at h
  omega
theorem row_rd {w : World} {a : Option Addr} {len cap : Nat} {zs : List Int}
    (h : (a = none ∧ len = 0 ∧ cap = 0 ∧ zs = []) ∨ ∃ x, a = some x ∧ len ≤ cap ∧ cap ≤ maxLen ∧ zs.length = cap ∧ (∀ i, i < zs.length → w.cell? (x.add i) = some (.int .u16 (zs.getD i 0))) ∧ ∀ n ∈ zs, (Lit.int .u16 n).wf = true) :
    ∃ l : List S, Rd w a len cap 1 (sl l) := by
  rcases h with ⟨rfl, rfl, rfl, rfl⟩ | ⟨x, rfl, hl, hm, hz, hc, hw⟩
  · exact ⟨[], rfl, Nat.le_refl _, Nat.zero_le _, fun h => absurd h (Nat.lt_irrefl _), fun j u hu => by simp [sl] at hu⟩
  · refine ⟨(zs.take len).map (BitVec.ofInt 16), by simp; omega, hl, hm, fun _ => rfl, fun j u hu => ?_⟩
    have hj : j < len := by
      have := (List.getElem?_eq_some_iff.1 hu).1
      simp at this; omega
    have hjz : j < zs.length := by omega
    have hb := bounds16 (hw zs[j] (List.getElem_mem hjz))
    have e1 : u = .int .u16 zs[j] := by
      simp [sl, hj, hjz] at hu
      rw [← hu, sv_ofInt _ hb.1 hb.2]
    rw [e1]
    have := hc j hjz
    simpa [adr, List.getD, hjz] using this
end Go.Proofs.YtbiggfbbccpcmaaDoor
