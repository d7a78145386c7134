/- Texts joined into one (wip/bin/pack.py): OpenF. -/
import Derived.Test.YtkoohobpbopnnaaGreatDoorKN
/- A slice of faults that came in as an argument. -/
namespace Go.Proofs.YtkoohobpbopnnaaGreatDoor
open Go.RowKit Go.Lib Go.ChangeShapes Go.WideShapes Go.Deep

theorem open_faultsV {H : Type} {enc : TypeId × Value → H} {w : World} {base : Nat} {spare : Nat → Bool} {held : Bool} {a : Option Addr} {len cap : Nat} {d : DataW H} {p : List MemPlace} (h : DataW.Trod enc Tryz.prog w base spare held 23 (.slice a len cap) d p) :
    ∃ l : List F2, Rd w a len cap 2 (fl l) := by
  obtain ⟨fuel, hf⟩ := h
  obtain ⟨a', len', cap', l, e, hr⟩ := rd_faults hf
  simp [Value.cells] at e
  obtain ⟨rfl, rfl, rfl⟩ := e
  exact ⟨l, hr⟩
end Go.Proofs.YtkoohobpbopnnaaGreatDoor
