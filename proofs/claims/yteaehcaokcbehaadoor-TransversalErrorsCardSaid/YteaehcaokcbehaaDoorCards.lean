/-
  DERIVED. GIVEN WITH THE SEED: THE CARDS: each row of YteaehcaokcbehaaDoorRows.lean that lists a variable, with what it lists TIED to the program's text (the seventh form; the later family's looks); each row that meets fmt, with fmt's text TOLD by the authors' own Lean function (tested against real Go, not proved from fmt's source: count such statements apart). THE CARD IS WHAT COUNTS. Prove the row's statement (the work); the ties are given (YteaehcaokcbehaaDoorTie.lean); close each card by the builder's one call (the guide's Derived/Test/ToyasCard.lean, 'card_holds'). Laid BY PROGRAM, IN A SANDBOX (cutbox-door.mjs). By AI agents, Wed Nov 11 2026. No macro, syntax, notation, axiom, sorry.
-/
import Derived.Test.YteaehcaokcbehaaDoorRows
import GoSem.ClaimSeven
namespace Go.Proofs.YteaehcaokcbehaaDoor
namespace Rows

/-- THE TIED CARD OF 'sederuntlaw09.TransversalHits'. -/
def transversalHitsCard : Claim7 := { stood := { row := transversalHitsRow, standIns := [], harness := (true, "79c71ebede6fa98c4739340f742c7d0f1398312afee0f80c6e16bc8efd089c67"), looks := false }, kinds := [], alts := [], laidByText := true, laidKinds := [.data], laidTests := true, laidLooks := .later }
def TransversalHitsCardSaid : Prop := Claim7.holds Tryd.pinned (.plain (OpenSpec.ofChange transversalHitsSpec)) transversalHitsCard

/-- THE TIED CARD OF 'sederuntlaw09.TransversalGreatest'. -/
def transversalGreatestCard : Claim7 := { stood := { row := transversalGreatestRow, standIns := [], harness := (true, "79c71ebede6fa98c4739340f742c7d0f1398312afee0f80c6e16bc8efd089c67"), looks := false }, kinds := [], alts := [], laidByText := true, laidKinds := [.data], laidTests := true, laidLooks := .later }
def TransversalGreatestCardSaid : Prop := Claim7.holds Tryd.pinned (.plain (OpenSpec.ofChange transversalGreatestSpec)) transversalGreatestCard

/-- THE TIED CARD OF 'sederuntlaw09.TransversalCoterie'. -/
def transversalCoterieCard : Claim7 := { stood := { row := transversalCoterieRow, standIns := [], harness := (true, "79c71ebede6fa98c4739340f742c7d0f1398312afee0f80c6e16bc8efd089c67"), looks := false }, kinds := [], alts := [], laidByText := true, laidKinds := [.data], laidTests := true, laidLooks := .later }
def TransversalCoterieCardSaid : Prop := Claim7.holds Tryd.pinned (.plain (OpenSpec.ofChange transversalCoterieSpec)) transversalCoterieCard

/-- THE TIED CARD OF 'sederuntlaw09.TransversalExtend'. -/
def transversalExtendCard : Claim7 := { stood := { row := transversalExtendRow, standIns := [], harness := (true, "79c71ebede6fa98c4739340f742c7d0f1398312afee0f80c6e16bc8efd089c67"), looks := false }, kinds := [], alts := [], laidByText := true, laidKinds := [.data], laidTests := true, laidLooks := .later }
def TransversalExtendCardSaid : Prop := Claim7.holds Tryd.pinned (.plain (OpenSpec.ofChange transversalExtendSpec)) transversalExtendCard

/-- THE TIED CARD OF 'sederuntlaw09.TransversalDual'. -/
def transversalDualCard : Claim7 := { stood := { row := transversalDualRow, standIns := [], harness := (true, "79c71ebede6fa98c4739340f742c7d0f1398312afee0f80c6e16bc8efd089c67"), looks := false }, kinds := [], alts := [], laidByText := true, laidKinds := [.data], laidTests := true, laidLooks := .later }
def TransversalDualCardSaid : Prop := Claim7.holds Tryd.pinned (.plain (OpenSpec.ofChange transversalDualSpec)) transversalDualCard

/-- THE TIED CARD OF 'sederuntlaw09.TransversalCross'. -/
def transversalCrossCard : Claim7 := { stood := { row := transversalCrossRow, standIns := [], harness := (true, "79c71ebede6fa98c4739340f742c7d0f1398312afee0f80c6e16bc8efd089c67"), looks := false }, kinds := [], alts := [], laidByText := true, laidKinds := [.data], laidTests := true, laidLooks := .later }
def TransversalCrossCardSaid : Prop := Claim7.holds Tryd.pinned (.plain (OpenSpec.ofChange transversalCrossSpec)) transversalCrossCard

/-- THE TIED CARD OF 'sederuntlaw09.TransversalLeast'. -/
def transversalLeastCard : Claim7 := { stood := { row := transversalLeastRow, standIns := [], harness := (true, "79c71ebede6fa98c4739340f742c7d0f1398312afee0f80c6e16bc8efd089c67"), looks := false }, kinds := [], alts := [], laidByText := true, laidKinds := [.data], laidTests := true, laidLooks := .later }
def TransversalLeastCardSaid : Prop := Claim7.holds Tryd.pinned (.plain (OpenSpec.ofChange transversalLeastSpec)) transversalLeastCard

/-- THE TIED CARD OF 'sederuntlaw09.TransversalErrors'. -/
def transversalErrorsCard : Claim7 := { stood := { row := transversalErrorsRow, standIns := [], harness := (true, "79c71ebede6fa98c4739340f742c7d0f1398312afee0f80c6e16bc8efd089c67"), looks := false }, kinds := [], alts := [], laidByText := true, laidKinds := [.data], laidTests := true, laidLooks := .later }
def TransversalErrorsCardSaid : Prop := Claim7.holds Tryd.pinned (.plain (OpenSpec.ofChange transversalErrorsSpec)) transversalErrorsCard

/-- THE SECOND FORM's CARD OF 'sederuntlaw09.TransversalHits'. -/
def transversalHitsUptoCard : Claim7 := { stood := { row := transversalHitsUptoRow, standIns := [], harness := (true, "79c71ebede6fa98c4739340f742c7d0f1398312afee0f80c6e16bc8efd089c67"), looks := false }, kinds := [], alts := [], laidByText := true, laidKinds := [.data], laidTests := true, laidLooks := .later }
def TransversalHitsUptoCardSaid : Prop := Claim7.holds Tryd.pinned (.plain (OpenSpec.upto transversalHitsSpec)) transversalHitsUptoCard

/-- THE SECOND FORM's CARD OF 'sederuntlaw09.TransversalGreatest'. -/
def transversalGreatestUptoCard : Claim7 := { stood := { row := transversalGreatestUptoRow, standIns := [], harness := (true, "79c71ebede6fa98c4739340f742c7d0f1398312afee0f80c6e16bc8efd089c67"), looks := false }, kinds := [], alts := [], laidByText := true, laidKinds := [.data], laidTests := true, laidLooks := .later }
def TransversalGreatestUptoCardSaid : Prop := Claim7.holds Tryd.pinned (.plain (OpenSpec.upto transversalGreatestSpec)) transversalGreatestUptoCard

/-- THE SECOND FORM's CARD OF 'sederuntlaw09.TransversalCoterie'. -/
def transversalCoterieUptoCard : Claim7 := { stood := { row := transversalCoterieUptoRow, standIns := [], harness := (true, "79c71ebede6fa98c4739340f742c7d0f1398312afee0f80c6e16bc8efd089c67"), looks := false }, kinds := [], alts := [], laidByText := true, laidKinds := [.data], laidTests := true, laidLooks := .later }
def TransversalCoterieUptoCardSaid : Prop := Claim7.holds Tryd.pinned (.plain (OpenSpec.upto transversalCoterieSpec)) transversalCoterieUptoCard

/-- THE SECOND FORM's CARD OF 'sederuntlaw09.TransversalExtend'. -/
def transversalExtendUptoCard : Claim7 := { stood := { row := transversalExtendUptoRow, standIns := [], harness := (true, "79c71ebede6fa98c4739340f742c7d0f1398312afee0f80c6e16bc8efd089c67"), looks := false }, kinds := [], alts := [], laidByText := true, laidKinds := [.data], laidTests := true, laidLooks := .later }
def TransversalExtendUptoCardSaid : Prop := Claim7.holds Tryd.pinned (.plain (OpenSpec.upto transversalExtendSpec)) transversalExtendUptoCard

/-- THE SECOND FORM's CARD OF 'sederuntlaw09.TransversalDual'. -/
def transversalDualUptoCard : Claim7 := { stood := { row := transversalDualUptoRow, standIns := [], harness := (true, "79c71ebede6fa98c4739340f742c7d0f1398312afee0f80c6e16bc8efd089c67"), looks := false }, kinds := [], alts := [], laidByText := true, laidKinds := [.data], laidTests := true, laidLooks := .later }
def TransversalDualUptoCardSaid : Prop := Claim7.holds Tryd.pinned (.plain (OpenSpec.upto transversalDualSpec)) transversalDualUptoCard

/-- THE SECOND FORM's CARD OF 'sederuntlaw09.TransversalCross'. -/
def transversalCrossUptoCard : Claim7 := { stood := { row := transversalCrossUptoRow, standIns := [], harness := (true, "79c71ebede6fa98c4739340f742c7d0f1398312afee0f80c6e16bc8efd089c67"), looks := false }, kinds := [], alts := [], laidByText := true, laidKinds := [.data], laidTests := true, laidLooks := .later }
def TransversalCrossUptoCardSaid : Prop := Claim7.holds Tryd.pinned (.plain (OpenSpec.upto transversalCrossSpec)) transversalCrossUptoCard

/-- THE SECOND FORM's CARD OF 'sederuntlaw09.TransversalLeast'. -/
def transversalLeastUptoCard : Claim7 := { stood := { row := transversalLeastUptoRow, standIns := [], harness := (true, "79c71ebede6fa98c4739340f742c7d0f1398312afee0f80c6e16bc8efd089c67"), looks := false }, kinds := [], alts := [], laidByText := true, laidKinds := [.data], laidTests := true, laidLooks := .later }
def TransversalLeastUptoCardSaid : Prop := Claim7.holds Tryd.pinned (.plain (OpenSpec.upto transversalLeastSpec)) transversalLeastUptoCard

/-- THE SECOND FORM's CARD OF 'sederuntlaw09.TransversalErrors'. -/
def transversalErrorsUptoCard : Claim7 := { stood := { row := transversalErrorsUptoRow, standIns := [], harness := (true, "79c71ebede6fa98c4739340f742c7d0f1398312afee0f80c6e16bc8efd089c67"), looks := false }, kinds := [], alts := [], laidByText := true, laidKinds := [.data], laidTests := true, laidLooks := .later }
def TransversalErrorsUptoCardSaid : Prop := Claim7.holds Tryd.pinned (.plain (OpenSpec.upto transversalErrorsSpec)) transversalErrorsUptoCard
end Rows
end Go.Proofs.YteaehcaokcbehaaDoor
