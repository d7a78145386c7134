/-
  DERIVED. GIVEN WITH THE SEED: THE CARDS: each row of YtcnccoinhohbeaaDoorRows.lean that lists a variable, with what it lists TIED to the program's text (the seventh form; the later family's looks); each row that meets fmt, with fmt's text TOLD by the authors' own Lean function (tested against real Go, not proved from fmt's source: count such statements apart). THE CARD IS WHAT COUNTS. Prove the row's statement (the work); the ties are given (YtcnccoinhohbeaaDoorTie.lean); close each card by the builder's one call (the guide's Derived/Test/ToyasCard.lean, 'card_holds'). Laid BY PROGRAM, IN A SANDBOX (cutbox-door.mjs). By AI agents, Wed Nov 11 2026. No macro, syntax, notation, axiom, sorry.
-/
import Derived.Test.YtcnccoinhohbeaaDoorRows
import GoSem.ClaimSeven
namespace Go.Proofs.YtcnccoinhohbeaaDoor
namespace Rows

/-- THE TIED CARD OF 'sederuntlaw27.ConfigLive'. -/
def configLiveCard : Claim7 := { stood := { row := configLiveRow, standIns := [], harness := (true, "397ce3d9f458f7909943315e342ebe756d6c7d6cd76557ee9d7427aa381cbde2"), looks := false }, kinds := [], alts := [], laidByText := true, laidKinds := [.data], laidTests := true, laidLooks := .later }
def ConfigLiveCardSaid : Prop := Claim7.holds Tryd.pinned (.plain (OpenSpec.ofChange configLiveSpec)) configLiveCard

/-- THE TIED CARD OF 'sederuntlaw27.ConfigValid'. -/
def configValidCard : Claim7 := { stood := { row := configValidRow, standIns := [], harness := (true, "397ce3d9f458f7909943315e342ebe756d6c7d6cd76557ee9d7427aa381cbde2"), looks := false }, kinds := [], alts := [], laidByText := true, laidKinds := [.data], laidTests := true, laidLooks := .later }
def ConfigValidCardSaid : Prop := Claim7.holds Tryd.pinned (.plain (OpenSpec.ofChange configValidSpec)) configValidCard

/-- THE TIED CARD OF 'sederuntlaw27.ConfigLarge'. -/
def configLargeCard : Claim7 := { stood := { row := configLargeRow, standIns := [], harness := (true, "397ce3d9f458f7909943315e342ebe756d6c7d6cd76557ee9d7427aa381cbde2"), looks := false }, kinds := [], alts := [], laidByText := true, laidKinds := [.data], laidTests := true, laidLooks := .later }
def ConfigLargeCardSaid : Prop := Claim7.holds Tryd.pinned (.plain (OpenSpec.ofChange configLargeSpec)) configLargeCard

/-- THE SECOND FORM's CARD OF 'sederuntlaw27.ConfigLive'. -/
def configLiveUptoCard : Claim7 := { stood := { row := configLiveUptoRow, standIns := [], harness := (true, "397ce3d9f458f7909943315e342ebe756d6c7d6cd76557ee9d7427aa381cbde2"), looks := false }, kinds := [], alts := [], laidByText := true, laidKinds := [.data], laidTests := true, laidLooks := .later }
def ConfigLiveUptoCardSaid : Prop := Claim7.holds Tryd.pinned (.plain (OpenSpec.upto configLiveSpec)) configLiveUptoCard

/-- THE SECOND FORM's CARD OF 'sederuntlaw27.ConfigValid'. -/
def configValidUptoCard : Claim7 := { stood := { row := configValidUptoRow, standIns := [], harness := (true, "397ce3d9f458f7909943315e342ebe756d6c7d6cd76557ee9d7427aa381cbde2"), looks := false }, kinds := [], alts := [], laidByText := true, laidKinds := [.data], laidTests := true, laidLooks := .later }
def ConfigValidUptoCardSaid : Prop := Claim7.holds Tryd.pinned (.plain (OpenSpec.upto configValidSpec)) configValidUptoCard

/-- THE SECOND FORM's CARD OF 'sederuntlaw27.ConfigLarge'. -/
def configLargeUptoCard : Claim7 := { stood := { row := configLargeUptoRow, standIns := [], harness := (true, "397ce3d9f458f7909943315e342ebe756d6c7d6cd76557ee9d7427aa381cbde2"), looks := false }, kinds := [], alts := [], laidByText := true, laidKinds := [.data], laidTests := true, laidLooks := .later }
def ConfigLargeUptoCardSaid : Prop := Claim7.holds Tryd.pinned (.plain (OpenSpec.upto configLargeSpec)) configLargeUptoCard
end Rows
end Go.Proofs.YtcnccoinhohbeaaDoor
