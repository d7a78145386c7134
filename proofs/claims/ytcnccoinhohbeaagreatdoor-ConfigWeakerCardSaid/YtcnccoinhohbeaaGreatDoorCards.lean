/-
  DERIVED. GIVEN WITH THE SEED: THE CARDS: each row of YtcnccoinhohbeaaGreatDoorRows.lean that lists a variable, with what it lists TIED to the program's text (the seventh form; the later family's looks); each row that meets fmt, with fmt's text TOLD by the authors' own Lean function (tested against real Go, not proved from fmt's source: count such statements apart). THE CARD IS WHAT COUNTS. Prove the row's statement (the work); the ties are given (YtcnccoinhohbeaaGreatDoorTie.lean); close each card by the builder's one call (the guide's Derived/Test/ToyasCard.lean, 'card_holds'). Laid BY PROGRAM, IN A SANDBOX (cutbox-door.mjs). By AI agents, Wed Nov 11 2026. No macro, syntax, notation, axiom, sorry.
-/
import Derived.Test.YtcnccoinhohbeaaGreatDoorRows
import GoSem.ClaimSeven
namespace Go.Proofs.YtcnccoinhohbeaaGreatDoor
namespace Rows

/-- THE TIED CARD OF 'sederuntlaw27.ConfigTolerates'. -/
def configToleratesCard : Claim7 := { stood := { row := configToleratesRow, standIns := [], harness := (true, "a721dac09d79d508ee29f7eb55dc683cf99468389e39669fe36caa293e46997a"), looks := false }, kinds := [], alts := [], laidByText := true, laidKinds := [.data], laidTests := true, laidLooks := .later }
def ConfigToleratesCardSaid : Prop := Claim7.holds Tryz.pinned (.plain (OpenSpec.ofChange configToleratesSpec)) configToleratesCard

/-- THE TIED CARD OF 'sederuntlaw27.ConfigClash'. -/
def configClashCard : Claim7 := { stood := { row := configClashRow, standIns := [], harness := (true, "a721dac09d79d508ee29f7eb55dc683cf99468389e39669fe36caa293e46997a"), looks := false }, kinds := [], alts := [], laidByText := true, laidKinds := [.data], laidTests := true, laidLooks := .later }
def ConfigClashCardSaid : Prop := Claim7.holds Tryz.pinned (.plain (OpenSpec.ofChange configClashSpec)) configClashCard

/-- THE TIED CARD OF 'sederuntlaw27.ConfigIsClash'. -/
def configIsClashCard : Claim7 := { stood := { row := configIsClashRow, standIns := [], harness := (true, "a721dac09d79d508ee29f7eb55dc683cf99468389e39669fe36caa293e46997a"), looks := false }, kinds := [], alts := [], laidByText := true, laidKinds := [.data], laidTests := true, laidLooks := .later }
def ConfigIsClashCardSaid : Prop := Claim7.holds Tryz.pinned (.plain (OpenSpec.ofChange configIsClashSpec)) configIsClashCard

/-- THE TIED CARD OF 'sederuntlaw27.ConfigProve'. -/
def configProveCard : Claim7 := { stood := { row := configProveRow, standIns := [], harness := (true, "a721dac09d79d508ee29f7eb55dc683cf99468389e39669fe36caa293e46997a"), looks := false }, kinds := [], alts := [], laidByText := true, laidKinds := [.data], laidTests := true, laidLooks := .later }
def ConfigProveCardSaid : Prop := Claim7.holds Tryz.pinned (.plain (OpenSpec.ofChange configProveSpec)) configProveCard

/-- THE TIED CARD OF 'sederuntlaw27.ConfigCheck'. -/
def configCheckCard : Claim7 := { stood := { row := configCheckRow, standIns := [], harness := (true, "a721dac09d79d508ee29f7eb55dc683cf99468389e39669fe36caa293e46997a"), looks := false }, kinds := [], alts := [], laidByText := true, laidKinds := [.data], laidTests := true, laidLooks := .later }
def ConfigCheckCardSaid : Prop := Claim7.holds Tryz.pinned (.plain (OpenSpec.ofChange configCheckSpec)) configCheckCard

/-- THE TIED CARD OF 'sederuntlaw27.ConfigWeaker'. -/
def configWeakerCard : Claim7 := { stood := { row := configWeakerRow, standIns := [], harness := (true, "a721dac09d79d508ee29f7eb55dc683cf99468389e39669fe36caa293e46997a"), looks := false }, kinds := [], alts := [], laidByText := true, laidKinds := [.data], laidTests := true, laidLooks := .later }
def ConfigWeakerCardSaid : Prop := Claim7.holds Tryz.pinned (.plain (OpenSpec.ofChange configWeakerSpec)) configWeakerCard

/-- THE SECOND FORM's CARD OF 'sederuntlaw27.ConfigTolerates'. -/
def configToleratesUptoCard : Claim7 := { stood := { row := configToleratesUptoRow, standIns := [], harness := (true, "a721dac09d79d508ee29f7eb55dc683cf99468389e39669fe36caa293e46997a"), looks := false }, kinds := [], alts := [], laidByText := true, laidKinds := [.data], laidTests := true, laidLooks := .later }
def ConfigToleratesUptoCardSaid : Prop := Claim7.holds Tryz.pinned (.plain (OpenSpec.upto configToleratesSpec)) configToleratesUptoCard

/-- THE SECOND FORM's CARD OF 'sederuntlaw27.ConfigClash'. -/
def configClashUptoCard : Claim7 := { stood := { row := configClashUptoRow, standIns := [], harness := (true, "a721dac09d79d508ee29f7eb55dc683cf99468389e39669fe36caa293e46997a"), looks := false }, kinds := [], alts := [], laidByText := true, laidKinds := [.data], laidTests := true, laidLooks := .later }
def ConfigClashUptoCardSaid : Prop := Claim7.holds Tryz.pinned (.plain (OpenSpec.upto configClashSpec)) configClashUptoCard

/-- THE SECOND FORM's CARD OF 'sederuntlaw27.ConfigIsClash'. -/
def configIsClashUptoCard : Claim7 := { stood := { row := configIsClashUptoRow, standIns := [], harness := (true, "a721dac09d79d508ee29f7eb55dc683cf99468389e39669fe36caa293e46997a"), looks := false }, kinds := [], alts := [], laidByText := true, laidKinds := [.data], laidTests := true, laidLooks := .later }
def ConfigIsClashUptoCardSaid : Prop := Claim7.holds Tryz.pinned (.plain (OpenSpec.upto configIsClashSpec)) configIsClashUptoCard

/-- THE SECOND FORM's CARD OF 'sederuntlaw27.ConfigProve'. -/
def configProveUptoCard : Claim7 := { stood := { row := configProveUptoRow, standIns := [], harness := (true, "a721dac09d79d508ee29f7eb55dc683cf99468389e39669fe36caa293e46997a"), looks := false }, kinds := [], alts := [], laidByText := true, laidKinds := [.data], laidTests := true, laidLooks := .later }
def ConfigProveUptoCardSaid : Prop := Claim7.holds Tryz.pinned (.plain (OpenSpec.upto configProveSpec)) configProveUptoCard

/-- THE SECOND FORM's CARD OF 'sederuntlaw27.ConfigCheck'. -/
def configCheckUptoCard : Claim7 := { stood := { row := configCheckUptoRow, standIns := [], harness := (true, "a721dac09d79d508ee29f7eb55dc683cf99468389e39669fe36caa293e46997a"), looks := false }, kinds := [], alts := [], laidByText := true, laidKinds := [.data], laidTests := true, laidLooks := .later }
def ConfigCheckUptoCardSaid : Prop := Claim7.holds Tryz.pinned (.plain (OpenSpec.upto configCheckSpec)) configCheckUptoCard

/-- THE SECOND FORM's CARD OF 'sederuntlaw27.ConfigWeaker'. -/
def configWeakerUptoCard : Claim7 := { stood := { row := configWeakerUptoRow, standIns := [], harness := (true, "a721dac09d79d508ee29f7eb55dc683cf99468389e39669fe36caa293e46997a"), looks := false }, kinds := [], alts := [], laidByText := true, laidKinds := [.data], laidTests := true, laidLooks := .later }
def ConfigWeakerUptoCardSaid : Prop := Claim7.holds Tryz.pinned (.plain (OpenSpec.upto configWeakerSpec)) configWeakerUptoCard
end Rows
end Go.Proofs.YtcnccoinhohbeaaGreatDoor
