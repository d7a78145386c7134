/-
  DERIVED. GIVEN WITH THE SEED: THE CARDS: each row of YtbiggfbbccpcmaaDoorRows.lean that lists a variable, with what it lists TIED to the program's text (the seventh form; the later family's looks); each row that meets fmt, with fmt's text TOLD by the authors' own Lean function (tested against real Go, not proved from fmt's source: count such statements apart). THE CARD IS WHAT COUNTS. Prove the row's statement (the work); the ties are given (YtbiggfbbccpcmaaDoorTie.lean); close each card by the builder's one call (the guide's Derived/Test/ToyasCard.lean, 'card_holds'). Laid BY PROGRAM, IN A SANDBOX (cutbox-door.mjs). By AI agents, Wed Nov 11 2026. No macro, syntax, notation, axiom, sorry.
-/
import Derived.Test.YtbiggfbbccpcmaaDoorRows
import GoSem.ClaimSeven
namespace Go.Proofs.YtbiggfbbccpcmaaDoor
namespace Rows

/-- THE TIED CARD OF 'sederuntlaw17.ResilienceOf'. -/
def resilienceOfCard : Claim7 := { stood := { row := resilienceOfRow, standIns := [], harness := (true, "3a09e1fd13620d76920e836abac3d819308be9ec4d77d816ad29250457acdf17"), looks := false }, kinds := [], alts := [], laidByText := true, laidKinds := [.data], laidTests := true, laidLooks := .later }
def ResilienceOfCardSaid : Prop := Claim7.holds Tryd.pinned (.plain (OpenSpec.ofChange resilienceOfSpec)) resilienceOfCard

/-- THE TIED CARD OF 'sederuntlaw17.ResilienceSurvives'. -/
def resilienceSurvivesCard : Claim7 := { stood := { row := resilienceSurvivesRow, standIns := [], harness := (true, "3a09e1fd13620d76920e836abac3d819308be9ec4d77d816ad29250457acdf17"), looks := false }, kinds := [], alts := [], laidByText := true, laidKinds := [.data], laidTests := true, laidLooks := .later }
def ResilienceSurvivesCardSaid : Prop := Claim7.holds Tryd.pinned (.plain (OpenSpec.ofChange resilienceSurvivesSpec)) resilienceSurvivesCard

/-- THE TIED CARD OF 'sederuntlaw17.ResilienceInfluence'. -/
def resilienceInfluenceCard : Claim7 := { stood := { row := resilienceInfluenceRow, standIns := [], harness := (true, "3a09e1fd13620d76920e836abac3d819308be9ec4d77d816ad29250457acdf17"), looks := false }, kinds := [], alts := [], laidByText := true, laidKinds := [.data], laidTests := true, laidLooks := .later }
def ResilienceInfluenceCardSaid : Prop := Claim7.holds Tryd.pinned (.plain (OpenSpec.ofChange resilienceInfluenceSpec)) resilienceInfluenceCard

/-- THE TIED CARD OF 'sederuntlaw17.ResilienceClasses'. -/
def resilienceClassesCard : Claim7 := { stood := { row := resilienceClassesRow, standIns := [], harness := (true, "3a09e1fd13620d76920e836abac3d819308be9ec4d77d816ad29250457acdf17"), looks := false }, kinds := [], alts := [], laidByText := true, laidKinds := [.data], laidTests := true, laidLooks := .later }
def ResilienceClassesCardSaid : Prop := Claim7.holds Tryd.pinned (.plain (OpenSpec.ofChange resilienceClassesSpec)) resilienceClassesCard

/-- THE TIED CARD OF 'sederuntlaw17.ResilienceServers'. -/
def resilienceServersCard : Claim7 := { stood := { row := resilienceServersRow, standIns := [], harness := (true, "3a09e1fd13620d76920e836abac3d819308be9ec4d77d816ad29250457acdf17"), looks := false }, kinds := [], alts := [], laidByText := true, laidKinds := [.data], laidTests := true, laidLooks := .later }
def ResilienceServersCardSaid : Prop := Claim7.holds Tryd.pinned (.plain (OpenSpec.ofChange resilienceServersSpec)) resilienceServersCard

/-- THE TIED CARD OF 'sederuntlaw17.ResilienceAfter'. -/
def resilienceAfterCard : Claim7 := { stood := { row := resilienceAfterRow, standIns := [], harness := (true, "3a09e1fd13620d76920e836abac3d819308be9ec4d77d816ad29250457acdf17"), looks := false }, kinds := [], alts := [], laidByText := true, laidKinds := [.data], laidTests := true, laidLooks := .later }
def ResilienceAfterCardSaid : Prop := Claim7.holds Tryd.pinned (.plain (OpenSpec.ofChange resilienceAfterSpec)) resilienceAfterCard

/-- THE TIED CARD OF 'sederuntlaw17.ResilienceErrors'. -/
def resilienceErrorsCard : Claim7 := { stood := { row := resilienceErrorsRow, standIns := [], harness := (true, "3a09e1fd13620d76920e836abac3d819308be9ec4d77d816ad29250457acdf17"), looks := false }, kinds := [], alts := [], laidByText := true, laidKinds := [.data], laidTests := true, laidLooks := .later }
def ResilienceErrorsCardSaid : Prop := Claim7.holds Tryd.pinned (.plain (OpenSpec.ofChange resilienceErrorsSpec)) resilienceErrorsCard

/-- THE SECOND FORM's CARD OF 'sederuntlaw17.ResilienceOf'. -/
def resilienceOfUptoCard : Claim7 := { stood := { row := resilienceOfUptoRow, standIns := [], harness := (true, "3a09e1fd13620d76920e836abac3d819308be9ec4d77d816ad29250457acdf17"), looks := false }, kinds := [], alts := [], laidByText := true, laidKinds := [.data], laidTests := true, laidLooks := .later }
def ResilienceOfUptoCardSaid : Prop := Claim7.holds Tryd.pinned (.plain (OpenSpec.upto resilienceOfSpec)) resilienceOfUptoCard

/-- THE SECOND FORM's CARD OF 'sederuntlaw17.ResilienceSurvives'. -/
def resilienceSurvivesUptoCard : Claim7 := { stood := { row := resilienceSurvivesUptoRow, standIns := [], harness := (true, "3a09e1fd13620d76920e836abac3d819308be9ec4d77d816ad29250457acdf17"), looks := false }, kinds := [], alts := [], laidByText := true, laidKinds := [.data], laidTests := true, laidLooks := .later }
def ResilienceSurvivesUptoCardSaid : Prop := Claim7.holds Tryd.pinned (.plain (OpenSpec.upto resilienceSurvivesSpec)) resilienceSurvivesUptoCard

/-- THE SECOND FORM's CARD OF 'sederuntlaw17.ResilienceInfluence'. -/
def resilienceInfluenceUptoCard : Claim7 := { stood := { row := resilienceInfluenceUptoRow, standIns := [], harness := (true, "3a09e1fd13620d76920e836abac3d819308be9ec4d77d816ad29250457acdf17"), looks := false }, kinds := [], alts := [], laidByText := true, laidKinds := [.data], laidTests := true, laidLooks := .later }
def ResilienceInfluenceUptoCardSaid : Prop := Claim7.holds Tryd.pinned (.plain (OpenSpec.upto resilienceInfluenceSpec)) resilienceInfluenceUptoCard

/-- THE SECOND FORM's CARD OF 'sederuntlaw17.ResilienceClasses'. -/
def resilienceClassesUptoCard : Claim7 := { stood := { row := resilienceClassesUptoRow, standIns := [], harness := (true, "3a09e1fd13620d76920e836abac3d819308be9ec4d77d816ad29250457acdf17"), looks := false }, kinds := [], alts := [], laidByText := true, laidKinds := [.data], laidTests := true, laidLooks := .later }
def ResilienceClassesUptoCardSaid : Prop := Claim7.holds Tryd.pinned (.plain (OpenSpec.upto resilienceClassesSpec)) resilienceClassesUptoCard

/-- THE SECOND FORM's CARD OF 'sederuntlaw17.ResilienceServers'. -/
def resilienceServersUptoCard : Claim7 := { stood := { row := resilienceServersUptoRow, standIns := [], harness := (true, "3a09e1fd13620d76920e836abac3d819308be9ec4d77d816ad29250457acdf17"), looks := false }, kinds := [], alts := [], laidByText := true, laidKinds := [.data], laidTests := true, laidLooks := .later }
def ResilienceServersUptoCardSaid : Prop := Claim7.holds Tryd.pinned (.plain (OpenSpec.upto resilienceServersSpec)) resilienceServersUptoCard

/-- THE SECOND FORM's CARD OF 'sederuntlaw17.ResilienceAfter'. -/
def resilienceAfterUptoCard : Claim7 := { stood := { row := resilienceAfterUptoRow, standIns := [], harness := (true, "3a09e1fd13620d76920e836abac3d819308be9ec4d77d816ad29250457acdf17"), looks := false }, kinds := [], alts := [], laidByText := true, laidKinds := [.data], laidTests := true, laidLooks := .later }
def ResilienceAfterUptoCardSaid : Prop := Claim7.holds Tryd.pinned (.plain (OpenSpec.upto resilienceAfterSpec)) resilienceAfterUptoCard

/-- THE SECOND FORM's CARD OF 'sederuntlaw17.ResilienceErrors'. -/
def resilienceErrorsUptoCard : Claim7 := { stood := { row := resilienceErrorsUptoRow, standIns := [], harness := (true, "3a09e1fd13620d76920e836abac3d819308be9ec4d77d816ad29250457acdf17"), looks := false }, kinds := [], alts := [], laidByText := true, laidKinds := [.data], laidTests := true, laidLooks := .later }
def ResilienceErrorsUptoCardSaid : Prop := Claim7.holds Tryd.pinned (.plain (OpenSpec.upto resilienceErrorsSpec)) resilienceErrorsUptoCard
end Rows
end Go.Proofs.YtbiggfbbccpcmaaDoor
