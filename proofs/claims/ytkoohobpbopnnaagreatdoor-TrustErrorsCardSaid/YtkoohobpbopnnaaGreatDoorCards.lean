/-
  DERIVED. GIVEN WITH THE SEED: THE CARDS: each row of YtkoohobpbopnnaaGreatDoorRows.lean that lists a variable, with what it lists TIED to the program's text (the seventh form; the later family's looks); each row that meets fmt, with fmt's text TOLD by the authors' own Lean function (tested against real Go, not proved from fmt's source: count such statements apart). THE CARD IS WHAT COUNTS. Prove the row's statement (the work); the ties are given (YtkoohobpbopnnaaGreatDoorTie.lean); close each card by the builder's one call (the guide's Derived/Test/ToyasCard.lean, 'card_holds'). Laid BY PROGRAM, IN A SANDBOX (cutbox-door.mjs). By AI agents, Wed Nov 11 2026. No macro, syntax, notation, axiom, sorry.
-/
import Derived.Test.YtkoohobpbopnnaaGreatDoorRows
import GoSem.ClaimSeven
namespace Go.Proofs.YtkoohobpbopnnaaGreatDoor
namespace Rows

/-- THE TIED CARD OF 'sederuntlaw28.TrustSound'. -/
def trustSoundCard : Claim7 := { stood := { row := trustSoundRow, standIns := [], harness := (true, "d969a002d30331ea5fa5ff975b357e4e17cd7d0df6ceaa58e413800e4580e50f"), looks := false }, kinds := [], alts := [], laidByText := true, laidKinds := [.data], laidTests := true, laidLooks := .later }
def TrustSoundCardSaid : Prop := Claim7.holds Tryz.pinned (.plain (OpenSpec.ofChange trustSoundSpec)) trustSoundCard

/-- THE TIED CARD OF 'sederuntlaw28.TrustLimits'. -/
def trustLimitsCard : Claim7 := { stood := { row := trustLimitsRow, standIns := [], harness := (true, "d969a002d30331ea5fa5ff975b357e4e17cd7d0df6ceaa58e413800e4580e50f"), looks := false }, kinds := [], alts := [], laidByText := true, laidKinds := [.data], laidTests := true, laidLooks := .later }
def TrustLimitsCardSaid : Prop := Claim7.holds Tryz.pinned (.plain (OpenSpec.ofChange trustLimitsSpec)) trustLimitsCard

/-- THE TIED CARD OF 'sederuntlaw28.TrustAccepts'. -/
def trustAcceptsCard : Claim7 := { stood := { row := trustAcceptsRow, standIns := [], harness := (true, "d969a002d30331ea5fa5ff975b357e4e17cd7d0df6ceaa58e413800e4580e50f"), looks := false }, kinds := [], alts := [], laidByText := true, laidKinds := [.data], laidTests := true, laidLooks := .later }
def TrustAcceptsCardSaid : Prop := Claim7.holds Tryz.pinned (.plain (OpenSpec.ofChange trustAcceptsSpec)) trustAcceptsCard

/-- THE TIED CARD OF 'sederuntlaw28.TrustOwn'. -/
def trustOwnCard : Claim7 := { stood := { row := trustOwnRow, standIns := [], harness := (true, "d969a002d30331ea5fa5ff975b357e4e17cd7d0df6ceaa58e413800e4580e50f"), looks := false }, kinds := [], alts := [], laidByText := true, laidKinds := [.data], laidTests := true, laidLooks := .later }
def TrustOwnCardSaid : Prop := Claim7.holds Tryz.pinned (.plain (OpenSpec.ofChange trustOwnSpec)) trustOwnCard

/-- THE TIED CARD OF 'sederuntlaw28.TrustMeet'. -/
def trustMeetCard : Claim7 := { stood := { row := trustMeetRow, standIns := [], harness := (true, "d969a002d30331ea5fa5ff975b357e4e17cd7d0df6ceaa58e413800e4580e50f"), looks := false }, kinds := [], alts := [], laidByText := true, laidKinds := [.data], laidTests := true, laidLooks := .later }
def TrustMeetCardSaid : Prop := Claim7.holds Tryz.pinned (.plain (OpenSpec.ofChange trustMeetSpec)) trustMeetCard

/-- THE TIED CARD OF 'sederuntlaw28.TrustCommits'. -/
def trustCommitsCard : Claim7 := { stood := { row := trustCommitsRow, standIns := [], harness := (true, "d969a002d30331ea5fa5ff975b357e4e17cd7d0df6ceaa58e413800e4580e50f"), looks := false }, kinds := [], alts := [], laidByText := true, laidKinds := [.data], laidTests := true, laidLooks := .later }
def TrustCommitsCardSaid : Prop := Claim7.holds Tryz.pinned (.plain (OpenSpec.ofChange trustCommitsSpec)) trustCommitsCard

/-- THE TIED CARD OF 'sederuntlaw28.TrustErrors'. -/
def trustErrorsCard : Claim7 := { stood := { row := trustErrorsRow, standIns := [], harness := (true, "d969a002d30331ea5fa5ff975b357e4e17cd7d0df6ceaa58e413800e4580e50f"), looks := false }, kinds := [], alts := [], laidByText := true, laidKinds := [.data], laidTests := true, laidLooks := .later }
def TrustErrorsCardSaid : Prop := Claim7.holds Tryz.pinned (.plain (OpenSpec.ofChange trustErrorsSpec)) trustErrorsCard

/-- THE TIED CARD OF 'sederuntlaw28.TrustStronger'. -/
def trustStrongerCard : Claim7 := { stood := { row := trustStrongerRow, standIns := [], harness := (true, "d969a002d30331ea5fa5ff975b357e4e17cd7d0df6ceaa58e413800e4580e50f"), looks := false }, kinds := [], alts := [], laidByText := true, laidKinds := [.data], laidTests := true, laidLooks := .later }
def TrustStrongerCardSaid : Prop := Claim7.holds Tryz.pinned (.plain (OpenSpec.ofChange trustStrongerSpec)) trustStrongerCard

/-- THE SECOND FORM's CARD OF 'sederuntlaw28.TrustSound'. -/
def trustSoundUptoCard : Claim7 := { stood := { row := trustSoundUptoRow, standIns := [], harness := (true, "d969a002d30331ea5fa5ff975b357e4e17cd7d0df6ceaa58e413800e4580e50f"), looks := false }, kinds := [], alts := [], laidByText := true, laidKinds := [.data], laidTests := true, laidLooks := .later }
def TrustSoundUptoCardSaid : Prop := Claim7.holds Tryz.pinned (.plain (OpenSpec.upto trustSoundSpec)) trustSoundUptoCard

/-- THE SECOND FORM's CARD OF 'sederuntlaw28.TrustLimits'. -/
def trustLimitsUptoCard : Claim7 := { stood := { row := trustLimitsUptoRow, standIns := [], harness := (true, "d969a002d30331ea5fa5ff975b357e4e17cd7d0df6ceaa58e413800e4580e50f"), looks := false }, kinds := [], alts := [], laidByText := true, laidKinds := [.data], laidTests := true, laidLooks := .later }
def TrustLimitsUptoCardSaid : Prop := Claim7.holds Tryz.pinned (.plain (OpenSpec.upto trustLimitsSpec)) trustLimitsUptoCard

/-- THE SECOND FORM's CARD OF 'sederuntlaw28.TrustAccepts'. -/
def trustAcceptsUptoCard : Claim7 := { stood := { row := trustAcceptsUptoRow, standIns := [], harness := (true, "d969a002d30331ea5fa5ff975b357e4e17cd7d0df6ceaa58e413800e4580e50f"), looks := false }, kinds := [], alts := [], laidByText := true, laidKinds := [.data], laidTests := true, laidLooks := .later }
def TrustAcceptsUptoCardSaid : Prop := Claim7.holds Tryz.pinned (.plain (OpenSpec.upto trustAcceptsSpec)) trustAcceptsUptoCard

/-- THE SECOND FORM's CARD OF 'sederuntlaw28.TrustOwn'. -/
def trustOwnUptoCard : Claim7 := { stood := { row := trustOwnUptoRow, standIns := [], harness := (true, "d969a002d30331ea5fa5ff975b357e4e17cd7d0df6ceaa58e413800e4580e50f"), looks := false }, kinds := [], alts := [], laidByText := true, laidKinds := [.data], laidTests := true, laidLooks := .later }
def TrustOwnUptoCardSaid : Prop := Claim7.holds Tryz.pinned (.plain (OpenSpec.upto trustOwnSpec)) trustOwnUptoCard

/-- THE SECOND FORM's CARD OF 'sederuntlaw28.TrustMeet'. -/
def trustMeetUptoCard : Claim7 := { stood := { row := trustMeetUptoRow, standIns := [], harness := (true, "d969a002d30331ea5fa5ff975b357e4e17cd7d0df6ceaa58e413800e4580e50f"), looks := false }, kinds := [], alts := [], laidByText := true, laidKinds := [.data], laidTests := true, laidLooks := .later }
def TrustMeetUptoCardSaid : Prop := Claim7.holds Tryz.pinned (.plain (OpenSpec.upto trustMeetSpec)) trustMeetUptoCard

/-- THE SECOND FORM's CARD OF 'sederuntlaw28.TrustCommits'. -/
def trustCommitsUptoCard : Claim7 := { stood := { row := trustCommitsUptoRow, standIns := [], harness := (true, "d969a002d30331ea5fa5ff975b357e4e17cd7d0df6ceaa58e413800e4580e50f"), looks := false }, kinds := [], alts := [], laidByText := true, laidKinds := [.data], laidTests := true, laidLooks := .later }
def TrustCommitsUptoCardSaid : Prop := Claim7.holds Tryz.pinned (.plain (OpenSpec.upto trustCommitsSpec)) trustCommitsUptoCard

/-- THE SECOND FORM's CARD OF 'sederuntlaw28.TrustErrors'. -/
def trustErrorsUptoCard : Claim7 := { stood := { row := trustErrorsUptoRow, standIns := [], harness := (true, "d969a002d30331ea5fa5ff975b357e4e17cd7d0df6ceaa58e413800e4580e50f"), looks := false }, kinds := [], alts := [], laidByText := true, laidKinds := [.data], laidTests := true, laidLooks := .later }
def TrustErrorsUptoCardSaid : Prop := Claim7.holds Tryz.pinned (.plain (OpenSpec.upto trustErrorsSpec)) trustErrorsUptoCard

/-- THE SECOND FORM's CARD OF 'sederuntlaw28.TrustStronger'. -/
def trustStrongerUptoCard : Claim7 := { stood := { row := trustStrongerUptoRow, standIns := [], harness := (true, "d969a002d30331ea5fa5ff975b357e4e17cd7d0df6ceaa58e413800e4580e50f"), looks := false }, kinds := [], alts := [], laidByText := true, laidKinds := [.data], laidTests := true, laidLooks := .later }
def TrustStrongerUptoCardSaid : Prop := Claim7.holds Tryz.pinned (.plain (OpenSpec.upto trustStrongerSpec)) trustStrongerUptoCard
end Rows
end Go.Proofs.YtkoohobpbopnnaaGreatDoor
