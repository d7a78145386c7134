/- A slice of bytes that came in reads as a list of bytes. -/
import Derived.Test.YtbiggfbbccpcmaaDoorRow
import Derived.Test.YtbiggfbbccpcmaaDoorR09d
namespace Go.Proofs.YtbiggfbbccpcmaaDoor
open Go.RowKit Go.Lib

theorem bv_ofInt (z : Int) (h0 : 0 ≤ z) (h1 : z ≤ 255) : bv (BitVec.ofInt 8 z) = z := by
  unfold bv; rw [BitVec.toNat_ofInt]; omega
theorem bounds8 {z : Int} (h : (Lit.int .u8 z).wf = true) : 0 ≤ z ∧ z ≤ 255 := by
  simp [Lit.wf, IntKind.min, IntKind.max, IntKind.signed, IntKind.bits] at h
  omega
theorem row_rdB {w : World} {a : Option Addr} {len cap : Nat} {zs : List Int}
    (h : (a = none ∧ len = 0 ∧ cap = 0 ∧ zs = []) ∨ ∃ x, a = some x ∧ len ≤ cap ∧ cap ≤ maxLen ∧ zs.length = cap ∧ (∀ i, i < zs.length → w.cell? (x.add i) = some (.int .u8 (zs.getD i 0))) ∧ ∀ n ∈ zs, (Lit.int .u8 n).wf = true) :
    ∃ l : List B8, Rd w a len cap 1 (bl l) := by
  rcases h with ⟨rfl, rfl, rfl, rfl⟩ | ⟨x, rfl, hl, hm, hz, hc, hw⟩
  · exact ⟨[], rfl, Nat.le_refl _, Nat.zero_le _, fun h => absurd h (Nat.lt_irrefl _), fun j u hu => by simp [bl] at hu⟩
  · refine ⟨(zs.take len).map (BitVec.ofInt 8), by simp [bl]; omega, hl, hm, fun _ => rfl, fun j u hu => ?_⟩
    have hj : j < len := by
      have := (List.getElem?_eq_some_iff.1 hu).1
      simp [bl] at this; omega
    have hjz : j < zs.length := by omega
    have hb := bounds8 (hw zs[j] (List.getElem_mem hjz))
    have e1 : u = .int .u8 zs[j] := by
      simp [bl, hj, hjz] at hu
      rw [← hu, bv_ofInt _ hb.1 hb.2]
    rw [e1]
    have := hc j hjz
    simpa [adr, List.getD, hjz] using this
end Go.Proofs.YtbiggfbbccpcmaaDoor
