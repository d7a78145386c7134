/-
  DERIVED. GIVEN WITH THE SEED: THE CARDS: each row of YtijknodekomdfaaGreatDoorRows.lean that lists a variable, with what it lists TIED to the program's text (the seventh form; the later family's looks); each row that meets fmt, with fmt's text TOLD by the authors' own Lean function (tested against real Go, not proved from fmt's source: count such statements apart). THE CARD IS WHAT COUNTS. Prove the row's statement (the work); the ties are given (YtijknodekomdfaaGreatDoorTie.lean); close each card by the builder's one call (the guide's Derived/Test/ToyasCard.lean, 'card_holds'). Laid BY PROGRAM, IN A SANDBOX (cutbox-door.mjs). By AI agents, Wed Nov 11 2026. No macro, syntax, notation, axiom, sorry.
-/
import Derived.Test.YtijknodekomdfaaGreatDoorRows
import GoSem.ClaimSeven
namespace Go.Proofs.YtijknodekomdfaaGreatDoor
namespace Rows

/-- THE TIED CARD OF 'sederunttop.TopCanonical'. -/
def topCanonicalCard : Claim7 := { stood := { row := topCanonicalRow, standIns := [], harness := (true, "bb7f3be0438f2b60da35fe06aae6dbdf74e1c44ee332a2aac5442392a3a9b83e"), looks := false }, kinds := [], alts := [], laidByText := true, laidKinds := [.data], laidTests := true, laidLooks := .later }
def TopCanonicalCardSaid : Prop := Claim7.holds Tryz.pinned (.plain (OpenSpec.ofChange topCanonicalSpec)) topCanonicalCard

/-- THE TIED CARD OF 'sederunttop.TopJoint'. -/
def topJointCard : Claim7 := { stood := { row := topJointRow, standIns := [], harness := (true, "bb7f3be0438f2b60da35fe06aae6dbdf74e1c44ee332a2aac5442392a3a9b83e"), looks := false }, kinds := [], alts := [], laidByText := true, laidKinds := [.data], laidTests := true, laidLooks := .later }
def TopJointCardSaid : Prop := Claim7.holds Tryz.pinned (.plain (OpenSpec.ofChange topJointSpec)) topJointCard

/-- THE TIED CARD OF 'sederunttop.TopCertified'. -/
def topCertifiedCard : Claim7 := { stood := { row := topCertifiedRow, standIns := [], harness := (true, "bb7f3be0438f2b60da35fe06aae6dbdf74e1c44ee332a2aac5442392a3a9b83e"), looks := false }, kinds := [], alts := [], laidByText := true, laidKinds := [.data], laidTests := true, laidLooks := .later }
def TopCertifiedCardSaid : Prop := Claim7.holds Tryz.pinned (.plain (OpenSpec.ofChange topCertifiedSpec)) topCertifiedCard

/-- THE TIED CARD OF 'sederunttop.TopBroadcast'. -/
def topBroadcastCard : Claim7 := { stood := { row := topBroadcastRow, standIns := [], harness := (true, "bb7f3be0438f2b60da35fe06aae6dbdf74e1c44ee332a2aac5442392a3a9b83e"), looks := false }, kinds := [], alts := [], laidByText := true, laidKinds := [.data, .data, .data], laidTests := true, laidLooks := .later }
def TopBroadcastCardSaid : Prop := Claim7.holds Tryz.pinned (.plain (OpenSpec.ofChange topBroadcastSpec)) topBroadcastCard

/-- THE SECOND FORM's CARD OF 'sederunttop.TopCanonical'. -/
def topCanonicalUptoCard : Claim7 := { stood := { row := topCanonicalUptoRow, standIns := [], harness := (true, "bb7f3be0438f2b60da35fe06aae6dbdf74e1c44ee332a2aac5442392a3a9b83e"), looks := false }, kinds := [], alts := [], laidByText := true, laidKinds := [.data], laidTests := true, laidLooks := .later }
def TopCanonicalUptoCardSaid : Prop := Claim7.holds Tryz.pinned (.plain (OpenSpec.upto topCanonicalSpec)) topCanonicalUptoCard

/-- THE SECOND FORM's CARD OF 'sederunttop.TopJoint'. -/
def topJointUptoCard : Claim7 := { stood := { row := topJointUptoRow, standIns := [], harness := (true, "bb7f3be0438f2b60da35fe06aae6dbdf74e1c44ee332a2aac5442392a3a9b83e"), looks := false }, kinds := [], alts := [], laidByText := true, laidKinds := [.data], laidTests := true, laidLooks := .later }
def TopJointUptoCardSaid : Prop := Claim7.holds Tryz.pinned (.plain (OpenSpec.upto topJointSpec)) topJointUptoCard

/-- THE SECOND FORM's CARD OF 'sederunttop.TopCertified'. -/
def topCertifiedUptoCard : Claim7 := { stood := { row := topCertifiedUptoRow, standIns := [], harness := (true, "bb7f3be0438f2b60da35fe06aae6dbdf74e1c44ee332a2aac5442392a3a9b83e"), looks := false }, kinds := [], alts := [], laidByText := true, laidKinds := [.data], laidTests := true, laidLooks := .later }
def TopCertifiedUptoCardSaid : Prop := Claim7.holds Tryz.pinned (.plain (OpenSpec.upto topCertifiedSpec)) topCertifiedUptoCard

/-- THE SECOND FORM's CARD OF 'sederunttop.TopBroadcast'. -/
def topBroadcastUptoCard : Claim7 := { stood := { row := topBroadcastUptoRow, standIns := [], harness := (true, "bb7f3be0438f2b60da35fe06aae6dbdf74e1c44ee332a2aac5442392a3a9b83e"), looks := false }, kinds := [], alts := [], laidByText := true, laidKinds := [.data, .data, .data], laidTests := true, laidLooks := .later }
def TopBroadcastUptoCardSaid : Prop := Claim7.holds Tryz.pinned (.plain (OpenSpec.upto topBroadcastSpec)) topBroadcastUptoCard
end Rows
end Go.Proofs.YtijknodekomdfaaGreatDoor
