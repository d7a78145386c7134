/-
  NARROWER THAN 'FOR EVERY INPUT', by the rows' own cells (each row's printed sentence says how): TrustSound: laid · TrustLimits: laid · TrustAccepts: laid · TrustOwn: laid · TrustMeet: laid · TrustCommits: laid · TrustErrors: laid · TrustStronger: laid.
  DERIVED. THE GIVEN ROWS OF THIS SEAT. 8 by the template 'for every input the law returns true; each argument reads behind the call as it read before'; 0 by the template 'total and deterministic' (their statements: YtkoohobpbopnnaaGreatDoorTotals.lean).
  GIVEN WITH THE SEED: the statements are not yours to turn. If you find one false, say at which input.
  Laid BY PROGRAM, IN A SANDBOX (cutbox-rows.mjs): the forced cells as the released guide's own fill.sh prints them over the translation 1979b31c00c88334… (all of the seat's roots in one cut). By AI agents, Wed Nov 11 2026. No macro, syntax, notation, axiom, sorry.
-/
import Derived.Test.YtkoohobpbopnnaaGreatDoorChecked
import GoSem.Claim
import GoSem.ClaimJoined
import GoSem.ClaimMapViews
import Derived.JoinedTies
import Derived.KernelRfl
namespace Go.Proofs.YtkoohobpbopnnaaGreatDoor
/- THE CELL 'sum', in the pinned program and in every row, IS THE sha256 OF THE DUMP (.gsa) THAT YtkoohobpbopnnaaGreatDoorProg.lean LOADS. Nothing in Lean hashes anything: it is a label: what it is worth is what the hold of that sum in a sandbox is worth. -/
noncomputable def Tryz.pinned : Pinned := { name := "ytkoohobpbopnnaagreatdoor", sum := "1979b31c00c88334c520bb88681f62d0f0cca159a9619300cc8ff77c3e57564d", checked := Tryz.checked }
namespace Rows
def none {H : Type} : Left H := { results := [], args := [] }

/- WHAT THE LISTED PACKAGE-LEVEL VARIABLES READ AS WHEN THE CALL BEGINS. Each datum BY PROGRAM (the guide's laid-datum.mjs) off the statement by which the dump's own 'gosem.cut.vars' lays the variable. In a bare row this is a premise. The card (YtkoohobpbopnnaaGreatDoorCards.lean) ties it to the program's text. -/
def laid_math_bits_deBruijn32tab {H : Type} : DataW H := .agg [.lit (.int .u8 0), .lit (.int .u8 1), .lit (.int .u8 28), .lit (.int .u8 2), .lit (.int .u8 29), .lit (.int .u8 14), .lit (.int .u8 24), .lit (.int .u8 3), .lit (.int .u8 30), .lit (.int .u8 22), .lit (.int .u8 20), .lit (.int .u8 15), .lit (.int .u8 25), .lit (.int .u8 17), .lit (.int .u8 4), .lit (.int .u8 8), .lit (.int .u8 31), .lit (.int .u8 27), .lit (.int .u8 13), .lit (.int .u8 23), .lit (.int .u8 21), .lit (.int .u8 19), .lit (.int .u8 16), .lit (.int .u8 7), .lit (.int .u8 26), .lit (.int .u8 12), .lit (.int .u8 18), .lit (.int .u8 6), .lit (.int .u8 11), .lit (.int .u8 5), .lit (.int .u8 10), .lit (.int .u8 9)]

/-- 'sederuntlaw28.TrustSound': WHATEVER THE INPUT: true; the input reads as it did. -/
def trustSoundSpec : ChangeSpec := { name := "trustSound", fn := fun _ => fun
  | [d] => { results := [.lit (.bool true)], args := [d] }
  | _ => none }
def trustSoundRow : OpenClaim := { program := "ytkoohobpbopnnaagreatdoor", sum := "1979b31c00c88334c520bb88681f62d0f0cca159a9619300cc8ff77c3e57564d", func := "sederunt/sederuntlaw28.TrustSound", spec := "trustSound", unfollowed := true, recurses := true, named := ["math/bits.deBruijn32tab"], apart := false, laid := [("math/bits.deBruijn32tab", laid_math_bits_deBruijn32tab)] }
def TrustSoundSaid : Prop := trustSoundRow.holds Tryz.pinned (OpenSpec.ofChange trustSoundSpec)

/-- ITS FALSE NEIGHBOUR: 'it returns false'. Refute it at one input. -/
def trustSoundWrong : ChangeSpec := { name := "trustSound", fn := fun _ => fun
  | [d] => { results := [.lit (.bool false)], args := [d] }
  | _ => none }
def TrustSoundWrongFalsely : Prop := trustSoundRow.holds Tryz.pinned (OpenSpec.ofChange trustSoundWrong)

/-- 'sederuntlaw28.TrustLimits': WHATEVER THE INPUT: true; the input reads as it did. -/
def trustLimitsSpec : ChangeSpec := { name := "trustLimits", fn := fun _ => fun
  | [d] => { results := [.lit (.bool true)], args := [d] }
  | _ => none }
def trustLimitsRow : OpenClaim := { program := "ytkoohobpbopnnaagreatdoor", sum := "1979b31c00c88334c520bb88681f62d0f0cca159a9619300cc8ff77c3e57564d", func := "sederunt/sederuntlaw28.TrustLimits", spec := "trustLimits", unfollowed := true, recurses := true, named := ["math/bits.deBruijn32tab"], apart := false, laid := [("math/bits.deBruijn32tab", laid_math_bits_deBruijn32tab)] }
def TrustLimitsSaid : Prop := trustLimitsRow.holds Tryz.pinned (OpenSpec.ofChange trustLimitsSpec)

/-- ITS FALSE NEIGHBOUR: 'it returns false'. Refute it at one input. -/
def trustLimitsWrong : ChangeSpec := { name := "trustLimits", fn := fun _ => fun
  | [d] => { results := [.lit (.bool false)], args := [d] }
  | _ => none }
def TrustLimitsWrongFalsely : Prop := trustLimitsRow.holds Tryz.pinned (OpenSpec.ofChange trustLimitsWrong)

/-- 'sederuntlaw28.TrustAccepts': WHATEVER THE INPUT: true; the input reads as it did. -/
def trustAcceptsSpec : ChangeSpec := { name := "trustAccepts", fn := fun _ => fun
  | [d1, d2] => { results := [.lit (.bool true)], args := [d1, d2] }
  | _ => none }
def trustAcceptsRow : OpenClaim := { program := "ytkoohobpbopnnaagreatdoor", sum := "1979b31c00c88334c520bb88681f62d0f0cca159a9619300cc8ff77c3e57564d", func := "sederunt/sederuntlaw28.TrustAccepts", spec := "trustAccepts", unfollowed := true, recurses := true, named := ["math/bits.deBruijn32tab"], apart := false, laid := [("math/bits.deBruijn32tab", laid_math_bits_deBruijn32tab)] }
def TrustAcceptsSaid : Prop := trustAcceptsRow.holds Tryz.pinned (OpenSpec.ofChange trustAcceptsSpec)

/-- ITS FALSE NEIGHBOUR: 'it returns false'. Refute it at one input. -/
def trustAcceptsWrong : ChangeSpec := { name := "trustAccepts", fn := fun _ => fun
  | [d1, d2] => { results := [.lit (.bool false)], args := [d1, d2] }
  | _ => none }
def TrustAcceptsWrongFalsely : Prop := trustAcceptsRow.holds Tryz.pinned (OpenSpec.ofChange trustAcceptsWrong)

/-- 'sederuntlaw28.TrustOwn': WHATEVER THE INPUT: true; the input reads as it did. -/
def trustOwnSpec : ChangeSpec := { name := "trustOwn", fn := fun _ => fun
  | [d] => { results := [.lit (.bool true)], args := [d] }
  | _ => none }
def trustOwnRow : OpenClaim := { program := "ytkoohobpbopnnaagreatdoor", sum := "1979b31c00c88334c520bb88681f62d0f0cca159a9619300cc8ff77c3e57564d", func := "sederunt/sederuntlaw28.TrustOwn", spec := "trustOwn", unfollowed := true, recurses := true, named := ["math/bits.deBruijn32tab"], apart := false, laid := [("math/bits.deBruijn32tab", laid_math_bits_deBruijn32tab)] }
def TrustOwnSaid : Prop := trustOwnRow.holds Tryz.pinned (OpenSpec.ofChange trustOwnSpec)

/-- ITS FALSE NEIGHBOUR: 'it returns false'. Refute it at one input. -/
def trustOwnWrong : ChangeSpec := { name := "trustOwn", fn := fun _ => fun
  | [d] => { results := [.lit (.bool false)], args := [d] }
  | _ => none }
def TrustOwnWrongFalsely : Prop := trustOwnRow.holds Tryz.pinned (OpenSpec.ofChange trustOwnWrong)

/-- 'sederuntlaw28.TrustMeet': WHATEVER THE INPUT: true; the input reads as it did. -/
def trustMeetSpec : ChangeSpec := { name := "trustMeet", fn := fun _ => fun
  | [d1, d2, d3] => { results := [.lit (.bool true)], args := [d1, d2, d3] }
  | _ => none }
def trustMeetRow : OpenClaim := { program := "ytkoohobpbopnnaagreatdoor", sum := "1979b31c00c88334c520bb88681f62d0f0cca159a9619300cc8ff77c3e57564d", func := "sederunt/sederuntlaw28.TrustMeet", spec := "trustMeet", unfollowed := true, recurses := true, named := ["math/bits.deBruijn32tab"], apart := false, laid := [("math/bits.deBruijn32tab", laid_math_bits_deBruijn32tab)] }
def TrustMeetSaid : Prop := trustMeetRow.holds Tryz.pinned (OpenSpec.ofChange trustMeetSpec)

/-- ITS FALSE NEIGHBOUR: 'it returns false'. Refute it at one input. -/
def trustMeetWrong : ChangeSpec := { name := "trustMeet", fn := fun _ => fun
  | [d1, d2, d3] => { results := [.lit (.bool false)], args := [d1, d2, d3] }
  | _ => none }
def TrustMeetWrongFalsely : Prop := trustMeetRow.holds Tryz.pinned (OpenSpec.ofChange trustMeetWrong)

/-- 'sederuntlaw28.TrustCommits': WHATEVER THE INPUT: true; the input reads as it did. -/
def trustCommitsSpec : ChangeSpec := { name := "trustCommits", fn := fun _ => fun
  | [d1, d2] => { results := [.lit (.bool true)], args := [d1, d2] }
  | _ => none }
def trustCommitsRow : OpenClaim := { program := "ytkoohobpbopnnaagreatdoor", sum := "1979b31c00c88334c520bb88681f62d0f0cca159a9619300cc8ff77c3e57564d", func := "sederunt/sederuntlaw28.TrustCommits", spec := "trustCommits", unfollowed := true, recurses := true, named := ["math/bits.deBruijn32tab"], apart := false, laid := [("math/bits.deBruijn32tab", laid_math_bits_deBruijn32tab)] }
def TrustCommitsSaid : Prop := trustCommitsRow.holds Tryz.pinned (OpenSpec.ofChange trustCommitsSpec)

/-- ITS FALSE NEIGHBOUR: 'it returns false'. Refute it at one input. -/
def trustCommitsWrong : ChangeSpec := { name := "trustCommits", fn := fun _ => fun
  | [d1, d2] => { results := [.lit (.bool false)], args := [d1, d2] }
  | _ => none }
def TrustCommitsWrongFalsely : Prop := trustCommitsRow.holds Tryz.pinned (OpenSpec.ofChange trustCommitsWrong)

/-- 'sederuntlaw28.TrustErrors': WHATEVER THE INPUT: true; the input reads as it did. -/
def trustErrorsSpec : ChangeSpec := { name := "trustErrors", fn := fun _ => fun
  | [d1, d2, d3] => { results := [.lit (.bool true)], args := [d1, d2, d3] }
  | _ => none }
def trustErrorsRow : OpenClaim := { program := "ytkoohobpbopnnaagreatdoor", sum := "1979b31c00c88334c520bb88681f62d0f0cca159a9619300cc8ff77c3e57564d", func := "sederunt/sederuntlaw28.TrustErrors", spec := "trustErrors", unfollowed := true, recurses := true, named := ["math/bits.deBruijn32tab"], apart := false, laid := [("math/bits.deBruijn32tab", laid_math_bits_deBruijn32tab)] }
def TrustErrorsSaid : Prop := trustErrorsRow.holds Tryz.pinned (OpenSpec.ofChange trustErrorsSpec)

/-- ITS FALSE NEIGHBOUR: 'it returns false'. Refute it at one input. -/
def trustErrorsWrong : ChangeSpec := { name := "trustErrors", fn := fun _ => fun
  | [d1, d2, d3] => { results := [.lit (.bool false)], args := [d1, d2, d3] }
  | _ => none }
def TrustErrorsWrongFalsely : Prop := trustErrorsRow.holds Tryz.pinned (OpenSpec.ofChange trustErrorsWrong)

/-- 'sederuntlaw28.TrustStronger': WHATEVER THE INPUT: true; the input reads as it did. -/
def trustStrongerSpec : ChangeSpec := { name := "trustStronger", fn := fun _ => fun
  | [d1, d2, d3] => { results := [.lit (.bool true)], args := [d1, d2, d3] }
  | _ => none }
def trustStrongerRow : OpenClaim := { program := "ytkoohobpbopnnaagreatdoor", sum := "1979b31c00c88334c520bb88681f62d0f0cca159a9619300cc8ff77c3e57564d", func := "sederunt/sederuntlaw28.TrustStronger", spec := "trustStronger", unfollowed := true, recurses := true, named := ["math/bits.deBruijn32tab"], apart := false, laid := [("math/bits.deBruijn32tab", laid_math_bits_deBruijn32tab)] }
def TrustStrongerSaid : Prop := trustStrongerRow.holds Tryz.pinned (OpenSpec.ofChange trustStrongerSpec)

/-- ITS FALSE NEIGHBOUR: 'it returns false'. Refute it at one input. -/
def trustStrongerWrong : ChangeSpec := { name := "trustStronger", fn := fun _ => fun
  | [d1, d2, d3] => { results := [.lit (.bool false)], args := [d1, d2, d3] }
  | _ => none }
def TrustStrongerWrongFalsely : Prop := trustStrongerRow.holds Tryz.pinned (OpenSpec.ofChange trustStrongerWrong)

/- THE SECOND FORM. 'bulk': how many values and letters a reading holds, each counted each time it is reached (what is shared counts as often as it is met; a slice's spare places count too). A statement '..UptoSaid' is the law's where the arguments, and the package variables that the reading takes, are together of bulk at most 1048576: NARROWER than '..Said'. Prove '..Said' where nothing that the law and all that it calls make is longer than what came in: it says more and counts as full. Else prove '..UptoSaid'. A law counts once. -/
mutual
def uptoBulk {H : Type} : DataW H → Nat
  | .lit (.string bytes) => bytes.length + 1
  | .lit _ => 1
  | .nil => 1
  | .ptr d => uptoBulk d + 1
  | .slice elems spare => uptoBulkAll elems + uptoBulkAll spare + 1
  | .agg parts => uptoBulkAll parts + 1
  | .iface _ d => uptoBulk d + 1
  | .map entries => uptoBulkEntries entries + 1
  | .held _ => 1
def uptoBulkAll {H : Type} : List (DataW H) → Nat
  | [] => 0
  | d :: r => uptoBulk d + uptoBulkAll r
def uptoBulkEntries {H : Type} : List (Lit × DataW H) → Nat
  | [] => 0
  | x :: r => uptoBulkEntry x + uptoBulkEntries r
def uptoBulkEntry {H : Type} : Lit × DataW H → Nat
  | (.string bytes, d) => bytes.length + uptoBulk d + 1
  | (_, d) => uptoBulk d + 1
 end
def uptoSmall : (H : Type) → List (DataW H) → Bool := fun _ ds => decide (uptoBulkAll ds ≤ 1048576)
def OpenSpec.upto (s : _root_.Go.ChangeSpec) : _root_.Go.OpenSpec := { _root_.Go.OpenSpec.ofChange s with cond := some uptoSmall }

/-- 'sederuntlaw28.TrustSound', WHERE WHAT IT READS IS OF BULK AT MOST 1048576: true; the input reads as it did. -/
def trustSoundUptoRow : OpenClaim := { program := "ytkoohobpbopnnaagreatdoor", sum := "1979b31c00c88334c520bb88681f62d0f0cca159a9619300cc8ff77c3e57564d", func := "sederunt/sederuntlaw28.TrustSound", spec := "trustSound", unfollowed := true, recurses := true, named := ["math/bits.deBruijn32tab"], apart := false, laid := [("math/bits.deBruijn32tab", laid_math_bits_deBruijn32tab)], narrowed := true }
def TrustSoundUptoSaid : Prop := trustSoundUptoRow.holds Tryz.pinned (OpenSpec.upto trustSoundSpec)

/-- 'sederuntlaw28.TrustLimits', WHERE WHAT IT READS IS OF BULK AT MOST 1048576: true; the input reads as it did. -/
def trustLimitsUptoRow : OpenClaim := { program := "ytkoohobpbopnnaagreatdoor", sum := "1979b31c00c88334c520bb88681f62d0f0cca159a9619300cc8ff77c3e57564d", func := "sederunt/sederuntlaw28.TrustLimits", spec := "trustLimits", unfollowed := true, recurses := true, named := ["math/bits.deBruijn32tab"], apart := false, laid := [("math/bits.deBruijn32tab", laid_math_bits_deBruijn32tab)], narrowed := true }
def TrustLimitsUptoSaid : Prop := trustLimitsUptoRow.holds Tryz.pinned (OpenSpec.upto trustLimitsSpec)

/-- 'sederuntlaw28.TrustAccepts', WHERE WHAT IT READS IS OF BULK AT MOST 1048576: true; the input reads as it did. -/
def trustAcceptsUptoRow : OpenClaim := { program := "ytkoohobpbopnnaagreatdoor", sum := "1979b31c00c88334c520bb88681f62d0f0cca159a9619300cc8ff77c3e57564d", func := "sederunt/sederuntlaw28.TrustAccepts", spec := "trustAccepts", unfollowed := true, recurses := true, named := ["math/bits.deBruijn32tab"], apart := false, laid := [("math/bits.deBruijn32tab", laid_math_bits_deBruijn32tab)], narrowed := true }
def TrustAcceptsUptoSaid : Prop := trustAcceptsUptoRow.holds Tryz.pinned (OpenSpec.upto trustAcceptsSpec)

/-- 'sederuntlaw28.TrustOwn', WHERE WHAT IT READS IS OF BULK AT MOST 1048576: true; the input reads as it did. -/
def trustOwnUptoRow : OpenClaim := { program := "ytkoohobpbopnnaagreatdoor", sum := "1979b31c00c88334c520bb88681f62d0f0cca159a9619300cc8ff77c3e57564d", func := "sederunt/sederuntlaw28.TrustOwn", spec := "trustOwn", unfollowed := true, recurses := true, named := ["math/bits.deBruijn32tab"], apart := false, laid := [("math/bits.deBruijn32tab", laid_math_bits_deBruijn32tab)], narrowed := true }
def TrustOwnUptoSaid : Prop := trustOwnUptoRow.holds Tryz.pinned (OpenSpec.upto trustOwnSpec)

/-- 'sederuntlaw28.TrustMeet', WHERE WHAT IT READS IS OF BULK AT MOST 1048576: true; the input reads as it did. -/
def trustMeetUptoRow : OpenClaim := { program := "ytkoohobpbopnnaagreatdoor", sum := "1979b31c00c88334c520bb88681f62d0f0cca159a9619300cc8ff77c3e57564d", func := "sederunt/sederuntlaw28.TrustMeet", spec := "trustMeet", unfollowed := true, recurses := true, named := ["math/bits.deBruijn32tab"], apart := false, laid := [("math/bits.deBruijn32tab", laid_math_bits_deBruijn32tab)], narrowed := true }
def TrustMeetUptoSaid : Prop := trustMeetUptoRow.holds Tryz.pinned (OpenSpec.upto trustMeetSpec)

/-- 'sederuntlaw28.TrustCommits', WHERE WHAT IT READS IS OF BULK AT MOST 1048576: true; the input reads as it did. -/
def trustCommitsUptoRow : OpenClaim := { program := "ytkoohobpbopnnaagreatdoor", sum := "1979b31c00c88334c520bb88681f62d0f0cca159a9619300cc8ff77c3e57564d", func := "sederunt/sederuntlaw28.TrustCommits", spec := "trustCommits", unfollowed := true, recurses := true, named := ["math/bits.deBruijn32tab"], apart := false, laid := [("math/bits.deBruijn32tab", laid_math_bits_deBruijn32tab)], narrowed := true }
def TrustCommitsUptoSaid : Prop := trustCommitsUptoRow.holds Tryz.pinned (OpenSpec.upto trustCommitsSpec)

/-- 'sederuntlaw28.TrustErrors', WHERE WHAT IT READS IS OF BULK AT MOST 1048576: true; the input reads as it did. -/
def trustErrorsUptoRow : OpenClaim := { program := "ytkoohobpbopnnaagreatdoor", sum := "1979b31c00c88334c520bb88681f62d0f0cca159a9619300cc8ff77c3e57564d", func := "sederunt/sederuntlaw28.TrustErrors", spec := "trustErrors", unfollowed := true, recurses := true, named := ["math/bits.deBruijn32tab"], apart := false, laid := [("math/bits.deBruijn32tab", laid_math_bits_deBruijn32tab)], narrowed := true }
def TrustErrorsUptoSaid : Prop := trustErrorsUptoRow.holds Tryz.pinned (OpenSpec.upto trustErrorsSpec)

/-- 'sederuntlaw28.TrustStronger', WHERE WHAT IT READS IS OF BULK AT MOST 1048576: true; the input reads as it did. -/
def trustStrongerUptoRow : OpenClaim := { program := "ytkoohobpbopnnaagreatdoor", sum := "1979b31c00c88334c520bb88681f62d0f0cca159a9619300cc8ff77c3e57564d", func := "sederunt/sederuntlaw28.TrustStronger", spec := "trustStronger", unfollowed := true, recurses := true, named := ["math/bits.deBruijn32tab"], apart := false, laid := [("math/bits.deBruijn32tab", laid_math_bits_deBruijn32tab)], narrowed := true }
def TrustStrongerUptoSaid : Prop := trustStrongerUptoRow.holds Tryz.pinned (OpenSpec.upto trustStrongerSpec)

end Rows
end Go.Proofs.YtkoohobpbopnnaaGreatDoor
