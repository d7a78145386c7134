/-
  NARROWER THAN 'FOR EVERY INPUT', by the rows' own cells (each row's printed sentence says how): BroadcastErrors: laid · BroadcastSettle: laid · BroadcastRun: laid · BroadcastConsistent: laid · BroadcastTotal: laid · BroadcastAttack: laid.
  DERIVED. THE GIVEN ROWS OF THIS SEAT. 6 by the template 'for every input the law returns true; each argument reads behind the call as it read before'; 0 by the template 'total and deterministic' (their statements: YtbcfkgolhklkaaaDoorTotals.lean).
  GIVEN WITH THE SEED: the statements are not yours to turn. If you find one false, say at which input.
  Laid BY PROGRAM, IN A SANDBOX (cutbox-rows.mjs): the forced cells as the released guide's own fill.sh prints them over the translation 9a1017377c65e267… (all of the seat's roots in one cut). By AI agents, Wed Nov 11 2026. No macro, syntax, notation, axiom, sorry.
-/
import Derived.Test.YtbcfkgolhklkaaaDoorChecked
import GoSem.Claim
import GoSem.ClaimJoined
import GoSem.ClaimMapViews
import Derived.JoinedTies
import Derived.KernelRfl
namespace Go.Proofs.YtbcfkgolhklkaaaDoor
/- THE CELL 'sum', in the pinned program and in every row, IS THE sha256 OF THE DUMP (.gsa) THAT YtbcfkgolhklkaaaDoorProg.lean LOADS. Nothing in Lean hashes anything: it is a label: what it is worth is what the hold of that sum in a sandbox is worth. -/
noncomputable def Tryd.pinned : Pinned := { name := "ytbcfkgolhklkaaadoor", sum := "9a1017377c65e267d42f5ce4b1be741c618737d8acb6b6101c3126b485c0819e", checked := Tryd.checked }
namespace Rows
def none {H : Type} : Left H := { results := [], args := [] }

/- WHAT THE LISTED PACKAGE-LEVEL VARIABLES READ AS WHEN THE CALL BEGINS. Each datum BY PROGRAM (the guide's laid-datum.mjs) off the statement by which the dump's own 'gosem.cut.vars' lays the variable. In a bare row this is a premise. The card (YtbcfkgolhklkaaaDoorCards.lean) ties it to the program's text. -/
def laid_math_bits_deBruijn32tab {H : Type} : DataW H := .agg [.lit (.int .u8 0), .lit (.int .u8 1), .lit (.int .u8 28), .lit (.int .u8 2), .lit (.int .u8 29), .lit (.int .u8 14), .lit (.int .u8 24), .lit (.int .u8 3), .lit (.int .u8 30), .lit (.int .u8 22), .lit (.int .u8 20), .lit (.int .u8 15), .lit (.int .u8 25), .lit (.int .u8 17), .lit (.int .u8 4), .lit (.int .u8 8), .lit (.int .u8 31), .lit (.int .u8 27), .lit (.int .u8 13), .lit (.int .u8 23), .lit (.int .u8 21), .lit (.int .u8 19), .lit (.int .u8 16), .lit (.int .u8 7), .lit (.int .u8 26), .lit (.int .u8 12), .lit (.int .u8 18), .lit (.int .u8 6), .lit (.int .u8 11), .lit (.int .u8 5), .lit (.int .u8 10), .lit (.int .u8 9)]

/-- 'sederuntlaw39.BroadcastErrors': WHATEVER THE INPUT: true; the input reads as it did. -/
def broadcastErrorsSpec : ChangeSpec := { name := "broadcastErrors", fn := fun _ => fun
  | [d1, d2, d3] => { results := [.lit (.bool true)], args := [d1, d2, d3] }
  | _ => none }
def broadcastErrorsRow : OpenClaim := { program := "ytbcfkgolhklkaaadoor", sum := "9a1017377c65e267d42f5ce4b1be741c618737d8acb6b6101c3126b485c0819e", func := "sederunt/sederuntlaw39.BroadcastErrors", spec := "broadcastErrors", unfollowed := true, recurses := true, named := ["math/bits.deBruijn32tab"], apart := false, laid := [("math/bits.deBruijn32tab", laid_math_bits_deBruijn32tab)] }
def BroadcastErrorsSaid : Prop := broadcastErrorsRow.holds Tryd.pinned (OpenSpec.ofChange broadcastErrorsSpec)

/-- ITS FALSE NEIGHBOUR: 'it returns false'. Refute it at one input. -/
def broadcastErrorsWrong : ChangeSpec := { name := "broadcastErrors", fn := fun _ => fun
  | [d1, d2, d3] => { results := [.lit (.bool false)], args := [d1, d2, d3] }
  | _ => none }
def BroadcastErrorsWrongFalsely : Prop := broadcastErrorsRow.holds Tryd.pinned (OpenSpec.ofChange broadcastErrorsWrong)

/-- 'sederuntlaw39.BroadcastSettle': WHATEVER THE INPUT: true; the input reads as it did. -/
def broadcastSettleSpec : ChangeSpec := { name := "broadcastSettle", fn := fun _ => fun
  | [d1, d2] => { results := [.lit (.bool true)], args := [d1, d2] }
  | _ => none }
def broadcastSettleRow : OpenClaim := { program := "ytbcfkgolhklkaaadoor", sum := "9a1017377c65e267d42f5ce4b1be741c618737d8acb6b6101c3126b485c0819e", func := "sederunt/sederuntlaw39.BroadcastSettle", spec := "broadcastSettle", unfollowed := true, recurses := true, named := ["math/bits.deBruijn32tab"], apart := false, laid := [("math/bits.deBruijn32tab", laid_math_bits_deBruijn32tab)] }
def BroadcastSettleSaid : Prop := broadcastSettleRow.holds Tryd.pinned (OpenSpec.ofChange broadcastSettleSpec)

/-- ITS FALSE NEIGHBOUR: 'it returns false'. Refute it at one input. -/
def broadcastSettleWrong : ChangeSpec := { name := "broadcastSettle", fn := fun _ => fun
  | [d1, d2] => { results := [.lit (.bool false)], args := [d1, d2] }
  | _ => none }
def BroadcastSettleWrongFalsely : Prop := broadcastSettleRow.holds Tryd.pinned (OpenSpec.ofChange broadcastSettleWrong)

/-- 'sederuntlaw39.BroadcastRun': WHATEVER THE INPUT: true; the input reads as it did. -/
def broadcastRunSpec : ChangeSpec := { name := "broadcastRun", fn := fun _ => fun
  | [d1, d2] => { results := [.lit (.bool true)], args := [d1, d2] }
  | _ => none }
def broadcastRunRow : OpenClaim := { program := "ytbcfkgolhklkaaadoor", sum := "9a1017377c65e267d42f5ce4b1be741c618737d8acb6b6101c3126b485c0819e", func := "sederunt/sederuntlaw39.BroadcastRun", spec := "broadcastRun", unfollowed := true, recurses := true, named := ["math/bits.deBruijn32tab"], apart := false, laid := [("math/bits.deBruijn32tab", laid_math_bits_deBruijn32tab)] }
def BroadcastRunSaid : Prop := broadcastRunRow.holds Tryd.pinned (OpenSpec.ofChange broadcastRunSpec)

/-- ITS FALSE NEIGHBOUR: 'it returns false'. Refute it at one input. -/
def broadcastRunWrong : ChangeSpec := { name := "broadcastRun", fn := fun _ => fun
  | [d1, d2] => { results := [.lit (.bool false)], args := [d1, d2] }
  | _ => none }
def BroadcastRunWrongFalsely : Prop := broadcastRunRow.holds Tryd.pinned (OpenSpec.ofChange broadcastRunWrong)

/-- 'sederuntlaw39.BroadcastConsistent': WHATEVER THE INPUT: true; the input reads as it did. -/
def broadcastConsistentSpec : ChangeSpec := { name := "broadcastConsistent", fn := fun _ => fun
  | [d1, d2] => { results := [.lit (.bool true)], args := [d1, d2] }
  | _ => none }
def broadcastConsistentRow : OpenClaim := { program := "ytbcfkgolhklkaaadoor", sum := "9a1017377c65e267d42f5ce4b1be741c618737d8acb6b6101c3126b485c0819e", func := "sederunt/sederuntlaw39.BroadcastConsistent", spec := "broadcastConsistent", unfollowed := true, recurses := true, named := ["math/bits.deBruijn32tab"], apart := false, laid := [("math/bits.deBruijn32tab", laid_math_bits_deBruijn32tab)] }
def BroadcastConsistentSaid : Prop := broadcastConsistentRow.holds Tryd.pinned (OpenSpec.ofChange broadcastConsistentSpec)

/-- ITS FALSE NEIGHBOUR: 'it returns false'. Refute it at one input. -/
def broadcastConsistentWrong : ChangeSpec := { name := "broadcastConsistent", fn := fun _ => fun
  | [d1, d2] => { results := [.lit (.bool false)], args := [d1, d2] }
  | _ => none }
def BroadcastConsistentWrongFalsely : Prop := broadcastConsistentRow.holds Tryd.pinned (OpenSpec.ofChange broadcastConsistentWrong)

/-- 'sederuntlaw39.BroadcastTotal': WHATEVER THE INPUT: true; the input reads as it did. -/
def broadcastTotalSpec : ChangeSpec := { name := "broadcastTotal", fn := fun _ => fun
  | [d1, d2] => { results := [.lit (.bool true)], args := [d1, d2] }
  | _ => none }
def broadcastTotalRow : OpenClaim := { program := "ytbcfkgolhklkaaadoor", sum := "9a1017377c65e267d42f5ce4b1be741c618737d8acb6b6101c3126b485c0819e", func := "sederunt/sederuntlaw39.BroadcastTotal", spec := "broadcastTotal", unfollowed := true, recurses := true, named := ["math/bits.deBruijn32tab"], apart := false, laid := [("math/bits.deBruijn32tab", laid_math_bits_deBruijn32tab)] }
def BroadcastTotalSaid : Prop := broadcastTotalRow.holds Tryd.pinned (OpenSpec.ofChange broadcastTotalSpec)

/-- ITS FALSE NEIGHBOUR: 'it returns false'. Refute it at one input. -/
def broadcastTotalWrong : ChangeSpec := { name := "broadcastTotal", fn := fun _ => fun
  | [d1, d2] => { results := [.lit (.bool false)], args := [d1, d2] }
  | _ => none }
def BroadcastTotalWrongFalsely : Prop := broadcastTotalRow.holds Tryd.pinned (OpenSpec.ofChange broadcastTotalWrong)

/-- 'sederuntlaw39.BroadcastAttack': WHATEVER THE INPUT: true; the input reads as it did. -/
def broadcastAttackSpec : ChangeSpec := { name := "broadcastAttack", fn := fun _ => fun
  | [d] => { results := [.lit (.bool true)], args := [d] }
  | _ => none }
def broadcastAttackRow : OpenClaim := { program := "ytbcfkgolhklkaaadoor", sum := "9a1017377c65e267d42f5ce4b1be741c618737d8acb6b6101c3126b485c0819e", func := "sederunt/sederuntlaw39.BroadcastAttack", spec := "broadcastAttack", unfollowed := true, recurses := true, named := ["math/bits.deBruijn32tab"], apart := false, laid := [("math/bits.deBruijn32tab", laid_math_bits_deBruijn32tab)] }
def BroadcastAttackSaid : Prop := broadcastAttackRow.holds Tryd.pinned (OpenSpec.ofChange broadcastAttackSpec)

/-- ITS FALSE NEIGHBOUR: 'it returns false'. Refute it at one input. -/
def broadcastAttackWrong : ChangeSpec := { name := "broadcastAttack", fn := fun _ => fun
  | [d] => { results := [.lit (.bool false)], args := [d] }
  | _ => none }
def BroadcastAttackWrongFalsely : Prop := broadcastAttackRow.holds Tryd.pinned (OpenSpec.ofChange broadcastAttackWrong)

/- THE SECOND FORM. 'bulk': how many values and letters a reading holds, each counted each time it is reached (what is shared counts as often as it is met; a slice's spare places count too). A statement '..UptoSaid' is the law's where the arguments, and the package variables that the reading takes, are together of bulk at most 1048576: NARROWER than '..Said'. Prove '..Said' where nothing that the law and all that it calls make is longer than what came in: it says more and counts as full. Else prove '..UptoSaid'. A law counts once. -/
mutual
def uptoBulk {H : Type} : DataW H → Nat
  | .lit (.string bytes) => bytes.length + 1
  | .lit _ => 1
  | .nil => 1
  | .ptr d => uptoBulk d + 1
  | .slice elems spare => uptoBulkAll elems + uptoBulkAll spare + 1
  | .agg parts => uptoBulkAll parts + 1
  | .iface _ d => uptoBulk d + 1
  | .map entries => uptoBulkEntries entries + 1
  | .held _ => 1
def uptoBulkAll {H : Type} : List (DataW H) → Nat
  | [] => 0
  | d :: r => uptoBulk d + uptoBulkAll r
def uptoBulkEntries {H : Type} : List (Lit × DataW H) → Nat
  | [] => 0
  | x :: r => uptoBulkEntry x + uptoBulkEntries r
def uptoBulkEntry {H : Type} : Lit × DataW H → Nat
  | (.string bytes, d) => bytes.length + uptoBulk d + 1
  | (_, d) => uptoBulk d + 1
 end
def uptoSmall : (H : Type) → List (DataW H) → Bool := fun _ ds => decide (uptoBulkAll ds ≤ 1048576)
def OpenSpec.upto (s : _root_.Go.ChangeSpec) : _root_.Go.OpenSpec := { _root_.Go.OpenSpec.ofChange s with cond := some uptoSmall }

/-- 'sederuntlaw39.BroadcastErrors', WHERE WHAT IT READS IS OF BULK AT MOST 1048576: true; the input reads as it did. -/
def broadcastErrorsUptoRow : OpenClaim := { program := "ytbcfkgolhklkaaadoor", sum := "9a1017377c65e267d42f5ce4b1be741c618737d8acb6b6101c3126b485c0819e", func := "sederunt/sederuntlaw39.BroadcastErrors", spec := "broadcastErrors", unfollowed := true, recurses := true, named := ["math/bits.deBruijn32tab"], apart := false, laid := [("math/bits.deBruijn32tab", laid_math_bits_deBruijn32tab)], narrowed := true }
def BroadcastErrorsUptoSaid : Prop := broadcastErrorsUptoRow.holds Tryd.pinned (OpenSpec.upto broadcastErrorsSpec)

/-- 'sederuntlaw39.BroadcastSettle', WHERE WHAT IT READS IS OF BULK AT MOST 1048576: true; the input reads as it did. -/
def broadcastSettleUptoRow : OpenClaim := { program := "ytbcfkgolhklkaaadoor", sum := "9a1017377c65e267d42f5ce4b1be741c618737d8acb6b6101c3126b485c0819e", func := "sederunt/sederuntlaw39.BroadcastSettle", spec := "broadcastSettle", unfollowed := true, recurses := true, named := ["math/bits.deBruijn32tab"], apart := false, laid := [("math/bits.deBruijn32tab", laid_math_bits_deBruijn32tab)], narrowed := true }
def BroadcastSettleUptoSaid : Prop := broadcastSettleUptoRow.holds Tryd.pinned (OpenSpec.upto broadcastSettleSpec)

/-- 'sederuntlaw39.BroadcastRun', WHERE WHAT IT READS IS OF BULK AT MOST 1048576: true; the input reads as it did. -/
def broadcastRunUptoRow : OpenClaim := { program := "ytbcfkgolhklkaaadoor", sum := "9a1017377c65e267d42f5ce4b1be741c618737d8acb6b6101c3126b485c0819e", func := "sederunt/sederuntlaw39.BroadcastRun", spec := "broadcastRun", unfollowed := true, recurses := true, named := ["math/bits.deBruijn32tab"], apart := false, laid := [("math/bits.deBruijn32tab", laid_math_bits_deBruijn32tab)], narrowed := true }
def BroadcastRunUptoSaid : Prop := broadcastRunUptoRow.holds Tryd.pinned (OpenSpec.upto broadcastRunSpec)

/-- 'sederuntlaw39.BroadcastConsistent', WHERE WHAT IT READS IS OF BULK AT MOST 1048576: true; the input reads as it did. -/
def broadcastConsistentUptoRow : OpenClaim := { program := "ytbcfkgolhklkaaadoor", sum := "9a1017377c65e267d42f5ce4b1be741c618737d8acb6b6101c3126b485c0819e", func := "sederunt/sederuntlaw39.BroadcastConsistent", spec := "broadcastConsistent", unfollowed := true, recurses := true, named := ["math/bits.deBruijn32tab"], apart := false, laid := [("math/bits.deBruijn32tab", laid_math_bits_deBruijn32tab)], narrowed := true }
def BroadcastConsistentUptoSaid : Prop := broadcastConsistentUptoRow.holds Tryd.pinned (OpenSpec.upto broadcastConsistentSpec)

/-- 'sederuntlaw39.BroadcastTotal', WHERE WHAT IT READS IS OF BULK AT MOST 1048576: true; the input reads as it did. -/
def broadcastTotalUptoRow : OpenClaim := { program := "ytbcfkgolhklkaaadoor", sum := "9a1017377c65e267d42f5ce4b1be741c618737d8acb6b6101c3126b485c0819e", func := "sederunt/sederuntlaw39.BroadcastTotal", spec := "broadcastTotal", unfollowed := true, recurses := true, named := ["math/bits.deBruijn32tab"], apart := false, laid := [("math/bits.deBruijn32tab", laid_math_bits_deBruijn32tab)], narrowed := true }
def BroadcastTotalUptoSaid : Prop := broadcastTotalUptoRow.holds Tryd.pinned (OpenSpec.upto broadcastTotalSpec)

/-- 'sederuntlaw39.BroadcastAttack', WHERE WHAT IT READS IS OF BULK AT MOST 1048576: true; the input reads as it did. -/
def broadcastAttackUptoRow : OpenClaim := { program := "ytbcfkgolhklkaaadoor", sum := "9a1017377c65e267d42f5ce4b1be741c618737d8acb6b6101c3126b485c0819e", func := "sederunt/sederuntlaw39.BroadcastAttack", spec := "broadcastAttack", unfollowed := true, recurses := true, named := ["math/bits.deBruijn32tab"], apart := false, laid := [("math/bits.deBruijn32tab", laid_math_bits_deBruijn32tab)], narrowed := true }
def BroadcastAttackUptoSaid : Prop := broadcastAttackUptoRow.holds Tryd.pinned (OpenSpec.upto broadcastAttackSpec)

end Rows
end Go.Proofs.YtbcfkgolhklkaaaDoor
