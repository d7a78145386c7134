/-
  No cell of these rows narrows 'for every input' (looked for: loops, veiled, ifaces, maps, wideKeys, modest, calm, conditions, laid).
  DERIVED. THE GIVEN ROWS OF THIS SEAT. 4 by the template 'for every input the law returns true; each argument reads behind the call as it read before'; 0 by the template 'total and deterministic' (their statements: YtnlohknlchgfgaaGreatTotals.lean).
  GIVEN WITH THE SEED: the statements are not yours to turn. If you find one false, say at which input.
  Laid BY PROGRAM, IN A SANDBOX (cutbox-rows.mjs): the forced cells as the released guide's own fill.sh prints them over the translation 406e2665c2a62889… (all of the seat's roots in one cut). By AI agents, Wed Nov 11 2026. No macro, syntax, notation, axiom, sorry.
-/
import Derived.Test.YtnlohknlchgfgaaGreatChecked
import GoSem.Claim
import GoSem.ClaimJoined
import GoSem.ClaimMapViews
import Derived.JoinedTies
import Derived.KernelRfl
namespace Go.Proofs.YtnlohknlchgfgaaGreat
/- THE CELL 'sum', in the pinned program and in every row, IS THE sha256 OF THE DUMP (.gsa) THAT YtnlohknlchgfgaaGreatProg.lean LOADS. Nothing in Lean hashes anything: it is a label: what it is worth is what the hold of that sum in a sandbox is worth. -/
noncomputable def Tryz.pinned : Pinned := { name := "ytnlohknlchgfgaagreat", sum := "406e2665c2a628897747172cb5f10921927fc7ee06b2b7af9206227b2704598c", checked := Tryz.checked }
namespace Rows
def none {H : Type} : Left H := { results := [], args := [] }

/-- 'sederuntlaw29.JointOf': WHATEVER THE INPUT: true; the input reads as it did. -/
def jointOfSpec : ChangeSpec := { name := "jointOf", fn := fun _ => fun
  | [d1, d2] => { results := [.lit (.bool true)], args := [d1, d2] }
  | _ => none }
def jointOfRow : OpenClaim := { program := "ytnlohknlchgfgaagreat", sum := "406e2665c2a628897747172cb5f10921927fc7ee06b2b7af9206227b2704598c", func := "sederunt/sederuntlaw29.JointOf", spec := "jointOf", unfollowed := true, recurses := true, apart := false }
def JointOfSaid : Prop := jointOfRow.holds Tryz.pinned (OpenSpec.ofChange jointOfSpec)

/-- ITS FALSE NEIGHBOUR: 'it returns false'. Refute it at one input. -/
def jointOfWrong : ChangeSpec := { name := "jointOf", fn := fun _ => fun
  | [d1, d2] => { results := [.lit (.bool false)], args := [d1, d2] }
  | _ => none }
def JointOfWrongFalsely : Prop := jointOfRow.holds Tryz.pinned (OpenSpec.ofChange jointOfWrong)

/-- 'sederuntlaw29.JointTolerates': WHATEVER THE INPUT: true; the input reads as it did. -/
def jointToleratesSpec : ChangeSpec := { name := "jointTolerates", fn := fun _ => fun
  | [d1, d2, d3] => { results := [.lit (.bool true)], args := [d1, d2, d3] }
  | _ => none }
def jointToleratesRow : OpenClaim := { program := "ytnlohknlchgfgaagreat", sum := "406e2665c2a628897747172cb5f10921927fc7ee06b2b7af9206227b2704598c", func := "sederunt/sederuntlaw29.JointTolerates", spec := "jointTolerates", unfollowed := true, recurses := true, apart := false }
def JointToleratesSaid : Prop := jointToleratesRow.holds Tryz.pinned (OpenSpec.ofChange jointToleratesSpec)

/-- ITS FALSE NEIGHBOUR: 'it returns false'. Refute it at one input. -/
def jointToleratesWrong : ChangeSpec := { name := "jointTolerates", fn := fun _ => fun
  | [d1, d2, d3] => { results := [.lit (.bool false)], args := [d1, d2, d3] }
  | _ => none }
def JointToleratesWrongFalsely : Prop := jointToleratesRow.holds Tryz.pinned (OpenSpec.ofChange jointToleratesWrong)

/-- 'sederuntlaw29.JointRoute': WHATEVER THE INPUT: true; the input reads as it did. -/
def jointRouteSpec : ChangeSpec := { name := "jointRoute", fn := fun _ => fun
  | [d1, d2, d3] => { results := [.lit (.bool true)], args := [d1, d2, d3] }
  | _ => none }
def jointRouteRow : OpenClaim := { program := "ytnlohknlchgfgaagreat", sum := "406e2665c2a628897747172cb5f10921927fc7ee06b2b7af9206227b2704598c", func := "sederunt/sederuntlaw29.JointRoute", spec := "jointRoute", unfollowed := true, recurses := true, apart := false }
def JointRouteSaid : Prop := jointRouteRow.holds Tryz.pinned (OpenSpec.ofChange jointRouteSpec)

/-- ITS FALSE NEIGHBOUR: 'it returns false'. Refute it at one input. -/
def jointRouteWrong : ChangeSpec := { name := "jointRoute", fn := fun _ => fun
  | [d1, d2, d3] => { results := [.lit (.bool false)], args := [d1, d2, d3] }
  | _ => none }
def JointRouteWrongFalsely : Prop := jointRouteRow.holds Tryz.pinned (OpenSpec.ofChange jointRouteWrong)

/-- 'sederuntlaw29.JointSound': WHATEVER THE INPUT: true; the input reads as it did. -/
def jointSoundSpec : ChangeSpec := { name := "jointSound", fn := fun _ => fun
  | [d1, d2, d3] => { results := [.lit (.bool true)], args := [d1, d2, d3] }
  | _ => none }
def jointSoundRow : OpenClaim := { program := "ytnlohknlchgfgaagreat", sum := "406e2665c2a628897747172cb5f10921927fc7ee06b2b7af9206227b2704598c", func := "sederunt/sederuntlaw29.JointSound", spec := "jointSound", unfollowed := true, recurses := true, apart := false }
def JointSoundSaid : Prop := jointSoundRow.holds Tryz.pinned (OpenSpec.ofChange jointSoundSpec)

/-- ITS FALSE NEIGHBOUR: 'it returns false'. Refute it at one input. -/
def jointSoundWrong : ChangeSpec := { name := "jointSound", fn := fun _ => fun
  | [d1, d2, d3] => { results := [.lit (.bool false)], args := [d1, d2, d3] }
  | _ => none }
def JointSoundWrongFalsely : Prop := jointSoundRow.holds Tryz.pinned (OpenSpec.ofChange jointSoundWrong)

/- THE SECOND FORM. 'bulk': how many values and letters a reading holds, each counted each time it is reached (what is shared counts as often as it is met; a slice's spare places count too). A statement '..UptoSaid' is the law's where the arguments, and the package variables that the reading takes, are together of bulk at most 1048576: NARROWER than '..Said'. Prove '..Said' where nothing that the law and all that it calls make is longer than what came in: it says more and counts as full. Else prove '..UptoSaid'. A law counts once. -/
mutual
def uptoBulk {H : Type} : DataW H → Nat
  | .lit (.string bytes) => bytes.length + 1
  | .lit _ => 1
  | .nil => 1
  | .ptr d => uptoBulk d + 1
  | .slice elems spare => uptoBulkAll elems + uptoBulkAll spare + 1
  | .agg parts => uptoBulkAll parts + 1
  | .iface _ d => uptoBulk d + 1
  | .map entries => uptoBulkEntries entries + 1
  | .held _ => 1
def uptoBulkAll {H : Type} : List (DataW H) → Nat
  | [] => 0
  | d :: r => uptoBulk d + uptoBulkAll r
def uptoBulkEntries {H : Type} : List (Lit × DataW H) → Nat
  | [] => 0
  | x :: r => uptoBulkEntry x + uptoBulkEntries r
def uptoBulkEntry {H : Type} : Lit × DataW H → Nat
  | (.string bytes, d) => bytes.length + uptoBulk d + 1
  | (_, d) => uptoBulk d + 1
 end
def uptoSmall : (H : Type) → List (DataW H) → Bool := fun _ ds => decide (uptoBulkAll ds ≤ 1048576)
def OpenSpec.upto (s : _root_.Go.ChangeSpec) : _root_.Go.OpenSpec := { _root_.Go.OpenSpec.ofChange s with cond := some uptoSmall }

/-- 'sederuntlaw29.JointOf', WHERE WHAT IT READS IS OF BULK AT MOST 1048576: true; the input reads as it did. -/
def jointOfUptoRow : OpenClaim := { program := "ytnlohknlchgfgaagreat", sum := "406e2665c2a628897747172cb5f10921927fc7ee06b2b7af9206227b2704598c", func := "sederunt/sederuntlaw29.JointOf", spec := "jointOf", unfollowed := true, recurses := true, apart := false, narrowed := true }
def JointOfUptoSaid : Prop := jointOfUptoRow.holds Tryz.pinned (OpenSpec.upto jointOfSpec)

/-- 'sederuntlaw29.JointTolerates', WHERE WHAT IT READS IS OF BULK AT MOST 1048576: true; the input reads as it did. -/
def jointToleratesUptoRow : OpenClaim := { program := "ytnlohknlchgfgaagreat", sum := "406e2665c2a628897747172cb5f10921927fc7ee06b2b7af9206227b2704598c", func := "sederunt/sederuntlaw29.JointTolerates", spec := "jointTolerates", unfollowed := true, recurses := true, apart := false, narrowed := true }
def JointToleratesUptoSaid : Prop := jointToleratesUptoRow.holds Tryz.pinned (OpenSpec.upto jointToleratesSpec)

/-- 'sederuntlaw29.JointRoute', WHERE WHAT IT READS IS OF BULK AT MOST 1048576: true; the input reads as it did. -/
def jointRouteUptoRow : OpenClaim := { program := "ytnlohknlchgfgaagreat", sum := "406e2665c2a628897747172cb5f10921927fc7ee06b2b7af9206227b2704598c", func := "sederunt/sederuntlaw29.JointRoute", spec := "jointRoute", unfollowed := true, recurses := true, apart := false, narrowed := true }
def JointRouteUptoSaid : Prop := jointRouteUptoRow.holds Tryz.pinned (OpenSpec.upto jointRouteSpec)

/-- 'sederuntlaw29.JointSound', WHERE WHAT IT READS IS OF BULK AT MOST 1048576: true; the input reads as it did. -/
def jointSoundUptoRow : OpenClaim := { program := "ytnlohknlchgfgaagreat", sum := "406e2665c2a628897747172cb5f10921927fc7ee06b2b7af9206227b2704598c", func := "sederunt/sederuntlaw29.JointSound", spec := "jointSound", unfollowed := true, recurses := true, apart := false, narrowed := true }
def JointSoundUptoSaid : Prop := jointSoundUptoRow.holds Tryz.pinned (OpenSpec.upto jointSoundSpec)

end Rows
end Go.Proofs.YtnlohknlchgfgaaGreat
