/-
  DERIVED. GIVEN WITH THE SEED: THE CARDS: each row of YtbcfkgolhklkaaaDoorRows.lean that lists a variable, with what it lists TIED to the program's text (the seventh form; the later family's looks); each row that meets fmt, with fmt's text TOLD by the authors' own Lean function (tested against real Go, not proved from fmt's source: count such statements apart). THE CARD IS WHAT COUNTS. Prove the row's statement (the work); the ties are given (YtbcfkgolhklkaaaDoorTie.lean); close each card by the builder's one call (the guide's Derived/Test/ToyasCard.lean, 'card_holds'). Laid BY PROGRAM, IN A SANDBOX (cutbox-door.mjs). By AI agents, Wed Nov 11 2026. No macro, syntax, notation, axiom, sorry.
-/
import Derived.Test.YtbcfkgolhklkaaaDoorRows
import GoSem.ClaimSeven
namespace Go.Proofs.YtbcfkgolhklkaaaDoor
namespace Rows

/-- THE TIED CARD OF 'sederuntlaw39.BroadcastErrors'. -/
def broadcastErrorsCard : Claim7 := { stood := { row := broadcastErrorsRow, standIns := [], harness := (true, "50279ecfa1cccd2d44be8e3ea1698a1e4dc0197664656130319856e1b7915886"), looks := false }, kinds := [], alts := [], laidByText := true, laidKinds := [.data], laidTests := true, laidLooks := .later }
def BroadcastErrorsCardSaid : Prop := Claim7.holds Tryd.pinned (.plain (OpenSpec.ofChange broadcastErrorsSpec)) broadcastErrorsCard

/-- THE TIED CARD OF 'sederuntlaw39.BroadcastSettle'. -/
def broadcastSettleCard : Claim7 := { stood := { row := broadcastSettleRow, standIns := [], harness := (true, "50279ecfa1cccd2d44be8e3ea1698a1e4dc0197664656130319856e1b7915886"), looks := false }, kinds := [], alts := [], laidByText := true, laidKinds := [.data], laidTests := true, laidLooks := .later }
def BroadcastSettleCardSaid : Prop := Claim7.holds Tryd.pinned (.plain (OpenSpec.ofChange broadcastSettleSpec)) broadcastSettleCard

/-- THE TIED CARD OF 'sederuntlaw39.BroadcastRun'. -/
def broadcastRunCard : Claim7 := { stood := { row := broadcastRunRow, standIns := [], harness := (true, "50279ecfa1cccd2d44be8e3ea1698a1e4dc0197664656130319856e1b7915886"), looks := false }, kinds := [], alts := [], laidByText := true, laidKinds := [.data], laidTests := true, laidLooks := .later }
def BroadcastRunCardSaid : Prop := Claim7.holds Tryd.pinned (.plain (OpenSpec.ofChange broadcastRunSpec)) broadcastRunCard

/-- THE TIED CARD OF 'sederuntlaw39.BroadcastConsistent'. -/
def broadcastConsistentCard : Claim7 := { stood := { row := broadcastConsistentRow, standIns := [], harness := (true, "50279ecfa1cccd2d44be8e3ea1698a1e4dc0197664656130319856e1b7915886"), looks := false }, kinds := [], alts := [], laidByText := true, laidKinds := [.data], laidTests := true, laidLooks := .later }
def BroadcastConsistentCardSaid : Prop := Claim7.holds Tryd.pinned (.plain (OpenSpec.ofChange broadcastConsistentSpec)) broadcastConsistentCard

/-- THE TIED CARD OF 'sederuntlaw39.BroadcastTotal'. -/
def broadcastTotalCard : Claim7 := { stood := { row := broadcastTotalRow, standIns := [], harness := (true, "50279ecfa1cccd2d44be8e3ea1698a1e4dc0197664656130319856e1b7915886"), looks := false }, kinds := [], alts := [], laidByText := true, laidKinds := [.data], laidTests := true, laidLooks := .later }
def BroadcastTotalCardSaid : Prop := Claim7.holds Tryd.pinned (.plain (OpenSpec.ofChange broadcastTotalSpec)) broadcastTotalCard

/-- THE TIED CARD OF 'sederuntlaw39.BroadcastAttack'. -/
def broadcastAttackCard : Claim7 := { stood := { row := broadcastAttackRow, standIns := [], harness := (true, "50279ecfa1cccd2d44be8e3ea1698a1e4dc0197664656130319856e1b7915886"), looks := false }, kinds := [], alts := [], laidByText := true, laidKinds := [.data], laidTests := true, laidLooks := .later }
def BroadcastAttackCardSaid : Prop := Claim7.holds Tryd.pinned (.plain (OpenSpec.ofChange broadcastAttackSpec)) broadcastAttackCard

/-- THE SECOND FORM's CARD OF 'sederuntlaw39.BroadcastErrors'. -/
def broadcastErrorsUptoCard : Claim7 := { stood := { row := broadcastErrorsUptoRow, standIns := [], harness := (true, "50279ecfa1cccd2d44be8e3ea1698a1e4dc0197664656130319856e1b7915886"), looks := false }, kinds := [], alts := [], laidByText := true, laidKinds := [.data], laidTests := true, laidLooks := .later }
def BroadcastErrorsUptoCardSaid : Prop := Claim7.holds Tryd.pinned (.plain (OpenSpec.upto broadcastErrorsSpec)) broadcastErrorsUptoCard

/-- THE SECOND FORM's CARD OF 'sederuntlaw39.BroadcastSettle'. -/
def broadcastSettleUptoCard : Claim7 := { stood := { row := broadcastSettleUptoRow, standIns := [], harness := (true, "50279ecfa1cccd2d44be8e3ea1698a1e4dc0197664656130319856e1b7915886"), looks := false }, kinds := [], alts := [], laidByText := true, laidKinds := [.data], laidTests := true, laidLooks := .later }
def BroadcastSettleUptoCardSaid : Prop := Claim7.holds Tryd.pinned (.plain (OpenSpec.upto broadcastSettleSpec)) broadcastSettleUptoCard

/-- THE SECOND FORM's CARD OF 'sederuntlaw39.BroadcastRun'. -/
def broadcastRunUptoCard : Claim7 := { stood := { row := broadcastRunUptoRow, standIns := [], harness := (true, "50279ecfa1cccd2d44be8e3ea1698a1e4dc0197664656130319856e1b7915886"), looks := false }, kinds := [], alts := [], laidByText := true, laidKinds := [.data], laidTests := true, laidLooks := .later }
def BroadcastRunUptoCardSaid : Prop := Claim7.holds Tryd.pinned (.plain (OpenSpec.upto broadcastRunSpec)) broadcastRunUptoCard

/-- THE SECOND FORM's CARD OF 'sederuntlaw39.BroadcastConsistent'. -/
def broadcastConsistentUptoCard : Claim7 := { stood := { row := broadcastConsistentUptoRow, standIns := [], harness := (true, "50279ecfa1cccd2d44be8e3ea1698a1e4dc0197664656130319856e1b7915886"), looks := false }, kinds := [], alts := [], laidByText := true, laidKinds := [.data], laidTests := true, laidLooks := .later }
def BroadcastConsistentUptoCardSaid : Prop := Claim7.holds Tryd.pinned (.plain (OpenSpec.upto broadcastConsistentSpec)) broadcastConsistentUptoCard

/-- THE SECOND FORM's CARD OF 'sederuntlaw39.BroadcastTotal'. -/
def broadcastTotalUptoCard : Claim7 := { stood := { row := broadcastTotalUptoRow, standIns := [], harness := (true, "50279ecfa1cccd2d44be8e3ea1698a1e4dc0197664656130319856e1b7915886"), looks := false }, kinds := [], alts := [], laidByText := true, laidKinds := [.data], laidTests := true, laidLooks := .later }
def BroadcastTotalUptoCardSaid : Prop := Claim7.holds Tryd.pinned (.plain (OpenSpec.upto broadcastTotalSpec)) broadcastTotalUptoCard

/-- THE SECOND FORM's CARD OF 'sederuntlaw39.BroadcastAttack'. -/
def broadcastAttackUptoCard : Claim7 := { stood := { row := broadcastAttackUptoRow, standIns := [], harness := (true, "50279ecfa1cccd2d44be8e3ea1698a1e4dc0197664656130319856e1b7915886"), looks := false }, kinds := [], alts := [], laidByText := true, laidKinds := [.data], laidTests := true, laidLooks := .later }
def BroadcastAttackUptoCardSaid : Prop := Claim7.holds Tryd.pinned (.plain (OpenSpec.upto broadcastAttackSpec)) broadcastAttackUptoCard
end Rows
end Go.Proofs.YtbcfkgolhklkaaaDoor
