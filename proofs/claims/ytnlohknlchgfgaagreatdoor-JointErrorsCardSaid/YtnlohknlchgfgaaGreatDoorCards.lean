/-
  DERIVED. GIVEN WITH THE SEED: THE CARDS: each row of YtnlohknlchgfgaaGreatDoorRows.lean that lists a variable, with what it lists TIED to the program's text (the seventh form; the later family's looks); each row that meets fmt, with fmt's text TOLD by the authors' own Lean function (tested against real Go, not proved from fmt's source: count such statements apart). THE CARD IS WHAT COUNTS. Prove the row's statement (the work); the ties are given (YtnlohknlchgfgaaGreatDoorTie.lean); close each card by the builder's one call (the guide's Derived/Test/ToyasCard.lean, 'card_holds'). Laid BY PROGRAM, IN A SANDBOX (cutbox-door.mjs). By AI agents, Wed Nov 11 2026. No macro, syntax, notation, axiom, sorry.
-/
import Derived.Test.YtnlohknlchgfgaaGreatDoorRows
import GoSem.ClaimSeven
namespace Go.Proofs.YtnlohknlchgfgaaGreatDoor
namespace Rows

/-- THE TIED CARD OF 'sederuntlaw29.JointSafe'. -/
def jointSafeCard : Claim7 := { stood := { row := jointSafeRow, standIns := [], harness := (true, "d50346b97c8aef52a0ed134fe25e975ceecd4f228bc99ec956a7aea81403e53e"), looks := false }, kinds := [], alts := [], laidByText := true, laidKinds := [.data], laidTests := true, laidLooks := .later }
def JointSafeCardSaid : Prop := Claim7.holds Tryz.pinned (.plain (OpenSpec.ofChange jointSafeSpec)) jointSafeCard

/-- THE TIED CARD OF 'sederuntlaw29.JointChain'. -/
def jointChainCard : Claim7 := { stood := { row := jointChainRow, standIns := [], harness := (true, "d50346b97c8aef52a0ed134fe25e975ceecd4f228bc99ec956a7aea81403e53e"), looks := false }, kinds := [], alts := [], laidByText := true, laidKinds := [.data], laidTests := true, laidLooks := .later }
def JointChainCardSaid : Prop := Claim7.holds Tryz.pinned (.plain (OpenSpec.ofChange jointChainSpec)) jointChainCard

/-- THE TIED CARD OF 'sederuntlaw29.JointErrors'. -/
def jointErrorsCard : Claim7 := { stood := { row := jointErrorsRow, standIns := [], harness := (true, "d50346b97c8aef52a0ed134fe25e975ceecd4f228bc99ec956a7aea81403e53e"), looks := false }, kinds := [], alts := [], laidByText := true, laidKinds := [.data], laidTests := true, laidLooks := .later }
def JointErrorsCardSaid : Prop := Claim7.holds Tryz.pinned (.plain (OpenSpec.ofChange jointErrorsSpec)) jointErrorsCard

/-- THE SECOND FORM's CARD OF 'sederuntlaw29.JointSafe'. -/
def jointSafeUptoCard : Claim7 := { stood := { row := jointSafeUptoRow, standIns := [], harness := (true, "d50346b97c8aef52a0ed134fe25e975ceecd4f228bc99ec956a7aea81403e53e"), looks := false }, kinds := [], alts := [], laidByText := true, laidKinds := [.data], laidTests := true, laidLooks := .later }
def JointSafeUptoCardSaid : Prop := Claim7.holds Tryz.pinned (.plain (OpenSpec.upto jointSafeSpec)) jointSafeUptoCard

/-- THE SECOND FORM's CARD OF 'sederuntlaw29.JointChain'. -/
def jointChainUptoCard : Claim7 := { stood := { row := jointChainUptoRow, standIns := [], harness := (true, "d50346b97c8aef52a0ed134fe25e975ceecd4f228bc99ec956a7aea81403e53e"), looks := false }, kinds := [], alts := [], laidByText := true, laidKinds := [.data], laidTests := true, laidLooks := .later }
def JointChainUptoCardSaid : Prop := Claim7.holds Tryz.pinned (.plain (OpenSpec.upto jointChainSpec)) jointChainUptoCard

/-- THE SECOND FORM's CARD OF 'sederuntlaw29.JointErrors'. -/
def jointErrorsUptoCard : Claim7 := { stood := { row := jointErrorsUptoRow, standIns := [], harness := (true, "d50346b97c8aef52a0ed134fe25e975ceecd4f228bc99ec956a7aea81403e53e"), looks := false }, kinds := [], alts := [], laidByText := true, laidKinds := [.data], laidTests := true, laidLooks := .later }
def JointErrorsUptoCardSaid : Prop := Claim7.holds Tryz.pinned (.plain (OpenSpec.upto jointErrorsSpec)) jointErrorsUptoCard
end Rows
end Go.Proofs.YtnlohknlchgfgaaGreatDoor
