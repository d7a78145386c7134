/-
  NARROWER THAN 'FOR EVERY INPUT', by the rows' own cells (each row's printed sentence says how): ResilienceOf: laid · ResilienceSurvives: laid · ResilienceInfluence: laid · ResilienceClasses: laid · ResilienceServers: laid · ResilienceAfter: laid · ResilienceErrors: laid.
  DERIVED. THE GIVEN ROWS OF THIS SEAT. 7 by the template 'for every input the law returns true; each argument reads behind the call as it read before'; 0 by the template 'total and deterministic' (their statements: YtbiggfbbccpcmaaDoorTotals.lean).
  GIVEN WITH THE SEED: the statements are not yours to turn. If you find one false, say at which input.
  Laid BY PROGRAM, IN A SANDBOX (cutbox-rows.mjs): the forced cells as the released guide's own fill.sh prints them over the translation 860a8969d8113e76… (all of the seat's roots in one cut). By AI agents, Wed Nov 11 2026. No macro, syntax, notation, axiom, sorry.
-/
import Derived.Test.YtbiggfbbccpcmaaDoorChecked
import GoSem.Claim
import GoSem.ClaimJoined
import GoSem.ClaimMapViews
import Derived.JoinedTies
import Derived.KernelRfl
namespace Go.Proofs.YtbiggfbbccpcmaaDoor
/- THE CELL 'sum', in the pinned program and in every row, IS THE sha256 OF THE DUMP (.gsa) THAT YtbiggfbbccpcmaaDoorProg.lean LOADS. Nothing in Lean hashes anything: it is a label: what it is worth is what the hold of that sum in a sandbox is worth. -/
noncomputable def Tryd.pinned : Pinned := { name := "ytbiggfbbccpcmaadoor", sum := "860a8969d8113e765a52985ee45fa4dfeb0d58849de8a36261d32cee782dd87b", checked := Tryd.checked }
namespace Rows
def none {H : Type} : Left H := { results := [], args := [] }

/- WHAT THE LISTED PACKAGE-LEVEL VARIABLES READ AS WHEN THE CALL BEGINS. Each datum BY PROGRAM (the guide's laid-datum.mjs) off the statement by which the dump's own 'gosem.cut.vars' lays the variable. In a bare row this is a premise. The card (YtbiggfbbccpcmaaDoorCards.lean) ties it to the program's text. -/
def laid_math_bits_deBruijn32tab {H : Type} : DataW H := .agg [.lit (.int .u8 0), .lit (.int .u8 1), .lit (.int .u8 28), .lit (.int .u8 2), .lit (.int .u8 29), .lit (.int .u8 14), .lit (.int .u8 24), .lit (.int .u8 3), .lit (.int .u8 30), .lit (.int .u8 22), .lit (.int .u8 20), .lit (.int .u8 15), .lit (.int .u8 25), .lit (.int .u8 17), .lit (.int .u8 4), .lit (.int .u8 8), .lit (.int .u8 31), .lit (.int .u8 27), .lit (.int .u8 13), .lit (.int .u8 23), .lit (.int .u8 21), .lit (.int .u8 19), .lit (.int .u8 16), .lit (.int .u8 7), .lit (.int .u8 26), .lit (.int .u8 12), .lit (.int .u8 18), .lit (.int .u8 6), .lit (.int .u8 11), .lit (.int .u8 5), .lit (.int .u8 10), .lit (.int .u8 9)]

/-- 'sederuntlaw17.ResilienceOf': WHATEVER THE INPUT: true; the input reads as it did. -/
def resilienceOfSpec : ChangeSpec := { name := "resilienceOf", fn := fun _ => fun
  | [d] => { results := [.lit (.bool true)], args := [d] }
  | _ => none }
def resilienceOfRow : OpenClaim := { program := "ytbiggfbbccpcmaadoor", sum := "860a8969d8113e765a52985ee45fa4dfeb0d58849de8a36261d32cee782dd87b", func := "sederunt/sederuntlaw17.ResilienceOf", spec := "resilienceOf", unfollowed := true, recurses := true, named := ["math/bits.deBruijn32tab"], apart := false, laid := [("math/bits.deBruijn32tab", laid_math_bits_deBruijn32tab)] }
def ResilienceOfSaid : Prop := resilienceOfRow.holds Tryd.pinned (OpenSpec.ofChange resilienceOfSpec)

/-- ITS FALSE NEIGHBOUR: 'it returns false'. Refute it at one input. -/
def resilienceOfWrong : ChangeSpec := { name := "resilienceOf", fn := fun _ => fun
  | [d] => { results := [.lit (.bool false)], args := [d] }
  | _ => none }
def ResilienceOfWrongFalsely : Prop := resilienceOfRow.holds Tryd.pinned (OpenSpec.ofChange resilienceOfWrong)

/-- 'sederuntlaw17.ResilienceSurvives': WHATEVER THE INPUT: true; the input reads as it did. -/
def resilienceSurvivesSpec : ChangeSpec := { name := "resilienceSurvives", fn := fun _ => fun
  | [d1, d2] => { results := [.lit (.bool true)], args := [d1, d2] }
  | _ => none }
def resilienceSurvivesRow : OpenClaim := { program := "ytbiggfbbccpcmaadoor", sum := "860a8969d8113e765a52985ee45fa4dfeb0d58849de8a36261d32cee782dd87b", func := "sederunt/sederuntlaw17.ResilienceSurvives", spec := "resilienceSurvives", unfollowed := true, recurses := true, named := ["math/bits.deBruijn32tab"], apart := false, laid := [("math/bits.deBruijn32tab", laid_math_bits_deBruijn32tab)] }
def ResilienceSurvivesSaid : Prop := resilienceSurvivesRow.holds Tryd.pinned (OpenSpec.ofChange resilienceSurvivesSpec)

/-- ITS FALSE NEIGHBOUR: 'it returns false'. Refute it at one input. -/
def resilienceSurvivesWrong : ChangeSpec := { name := "resilienceSurvives", fn := fun _ => fun
  | [d1, d2] => { results := [.lit (.bool false)], args := [d1, d2] }
  | _ => none }
def ResilienceSurvivesWrongFalsely : Prop := resilienceSurvivesRow.holds Tryd.pinned (OpenSpec.ofChange resilienceSurvivesWrong)

/-- 'sederuntlaw17.ResilienceInfluence': WHATEVER THE INPUT: true; the input reads as it did. -/
def resilienceInfluenceSpec : ChangeSpec := { name := "resilienceInfluence", fn := fun _ => fun
  | [d1, d2] => { results := [.lit (.bool true)], args := [d1, d2] }
  | _ => none }
def resilienceInfluenceRow : OpenClaim := { program := "ytbiggfbbccpcmaadoor", sum := "860a8969d8113e765a52985ee45fa4dfeb0d58849de8a36261d32cee782dd87b", func := "sederunt/sederuntlaw17.ResilienceInfluence", spec := "resilienceInfluence", unfollowed := true, recurses := true, named := ["math/bits.deBruijn32tab"], apart := false, laid := [("math/bits.deBruijn32tab", laid_math_bits_deBruijn32tab)] }
def ResilienceInfluenceSaid : Prop := resilienceInfluenceRow.holds Tryd.pinned (OpenSpec.ofChange resilienceInfluenceSpec)

/-- ITS FALSE NEIGHBOUR: 'it returns false'. Refute it at one input. -/
def resilienceInfluenceWrong : ChangeSpec := { name := "resilienceInfluence", fn := fun _ => fun
  | [d1, d2] => { results := [.lit (.bool false)], args := [d1, d2] }
  | _ => none }
def ResilienceInfluenceWrongFalsely : Prop := resilienceInfluenceRow.holds Tryd.pinned (OpenSpec.ofChange resilienceInfluenceWrong)

/-- 'sederuntlaw17.ResilienceClasses': WHATEVER THE INPUT: true; the input reads as it did. -/
def resilienceClassesSpec : ChangeSpec := { name := "resilienceClasses", fn := fun _ => fun
  | [d1, d2, d3] => { results := [.lit (.bool true)], args := [d1, d2, d3] }
  | _ => none }
def resilienceClassesRow : OpenClaim := { program := "ytbiggfbbccpcmaadoor", sum := "860a8969d8113e765a52985ee45fa4dfeb0d58849de8a36261d32cee782dd87b", func := "sederunt/sederuntlaw17.ResilienceClasses", spec := "resilienceClasses", unfollowed := true, recurses := true, named := ["math/bits.deBruijn32tab"], apart := false, laid := [("math/bits.deBruijn32tab", laid_math_bits_deBruijn32tab)] }
def ResilienceClassesSaid : Prop := resilienceClassesRow.holds Tryd.pinned (OpenSpec.ofChange resilienceClassesSpec)

/-- ITS FALSE NEIGHBOUR: 'it returns false'. Refute it at one input. -/
def resilienceClassesWrong : ChangeSpec := { name := "resilienceClasses", fn := fun _ => fun
  | [d1, d2, d3] => { results := [.lit (.bool false)], args := [d1, d2, d3] }
  | _ => none }
def ResilienceClassesWrongFalsely : Prop := resilienceClassesRow.holds Tryd.pinned (OpenSpec.ofChange resilienceClassesWrong)

/-- 'sederuntlaw17.ResilienceServers': WHATEVER THE INPUT: true; the input reads as it did. -/
def resilienceServersSpec : ChangeSpec := { name := "resilienceServers", fn := fun _ => fun
  | [d1, d2] => { results := [.lit (.bool true)], args := [d1, d2] }
  | _ => none }
def resilienceServersRow : OpenClaim := { program := "ytbiggfbbccpcmaadoor", sum := "860a8969d8113e765a52985ee45fa4dfeb0d58849de8a36261d32cee782dd87b", func := "sederunt/sederuntlaw17.ResilienceServers", spec := "resilienceServers", unfollowed := true, recurses := true, named := ["math/bits.deBruijn32tab"], apart := false, laid := [("math/bits.deBruijn32tab", laid_math_bits_deBruijn32tab)] }
def ResilienceServersSaid : Prop := resilienceServersRow.holds Tryd.pinned (OpenSpec.ofChange resilienceServersSpec)

/-- ITS FALSE NEIGHBOUR: 'it returns false'. Refute it at one input. -/
def resilienceServersWrong : ChangeSpec := { name := "resilienceServers", fn := fun _ => fun
  | [d1, d2] => { results := [.lit (.bool false)], args := [d1, d2] }
  | _ => none }
def ResilienceServersWrongFalsely : Prop := resilienceServersRow.holds Tryd.pinned (OpenSpec.ofChange resilienceServersWrong)

/-- 'sederuntlaw17.ResilienceAfter': WHATEVER THE INPUT: true; the input reads as it did. -/
def resilienceAfterSpec : ChangeSpec := { name := "resilienceAfter", fn := fun _ => fun
  | [d1, d2] => { results := [.lit (.bool true)], args := [d1, d2] }
  | _ => none }
def resilienceAfterRow : OpenClaim := { program := "ytbiggfbbccpcmaadoor", sum := "860a8969d8113e765a52985ee45fa4dfeb0d58849de8a36261d32cee782dd87b", func := "sederunt/sederuntlaw17.ResilienceAfter", spec := "resilienceAfter", unfollowed := true, recurses := true, named := ["math/bits.deBruijn32tab"], apart := false, laid := [("math/bits.deBruijn32tab", laid_math_bits_deBruijn32tab)] }
def ResilienceAfterSaid : Prop := resilienceAfterRow.holds Tryd.pinned (OpenSpec.ofChange resilienceAfterSpec)

/-- ITS FALSE NEIGHBOUR: 'it returns false'. Refute it at one input. -/
def resilienceAfterWrong : ChangeSpec := { name := "resilienceAfter", fn := fun _ => fun
  | [d1, d2] => { results := [.lit (.bool false)], args := [d1, d2] }
  | _ => none }
def ResilienceAfterWrongFalsely : Prop := resilienceAfterRow.holds Tryd.pinned (OpenSpec.ofChange resilienceAfterWrong)

/-- 'sederuntlaw17.ResilienceErrors': WHATEVER THE INPUT: true; the input reads as it did. -/
def resilienceErrorsSpec : ChangeSpec := { name := "resilienceErrors", fn := fun _ => fun
  | [d1, d2] => { results := [.lit (.bool true)], args := [d1, d2] }
  | _ => none }
def resilienceErrorsRow : OpenClaim := { program := "ytbiggfbbccpcmaadoor", sum := "860a8969d8113e765a52985ee45fa4dfeb0d58849de8a36261d32cee782dd87b", func := "sederunt/sederuntlaw17.ResilienceErrors", spec := "resilienceErrors", unfollowed := true, recurses := true, named := ["math/bits.deBruijn32tab"], apart := false, laid := [("math/bits.deBruijn32tab", laid_math_bits_deBruijn32tab)] }
def ResilienceErrorsSaid : Prop := resilienceErrorsRow.holds Tryd.pinned (OpenSpec.ofChange resilienceErrorsSpec)

/-- ITS FALSE NEIGHBOUR: 'it returns false'. Refute it at one input. -/
def resilienceErrorsWrong : ChangeSpec := { name := "resilienceErrors", fn := fun _ => fun
  | [d1, d2] => { results := [.lit (.bool false)], args := [d1, d2] }
  | _ => none }
def ResilienceErrorsWrongFalsely : Prop := resilienceErrorsRow.holds Tryd.pinned (OpenSpec.ofChange resilienceErrorsWrong)

/- THE SECOND FORM. 'bulk': how many values and letters a reading holds, each counted each time it is reached (what is shared counts as often as it is met; a slice's spare places count too). A statement '..UptoSaid' is the law's where the arguments, and the package variables that the reading takes, are together of bulk at most 1048576: NARROWER than '..Said'. Prove '..Said' where nothing that the law and all that it calls make is longer than what came in: it says more and counts as full. Else prove '..UptoSaid'. A law counts once. -/
mutual
def uptoBulk {H : Type} : DataW H → Nat
  | .lit (.string bytes) => bytes.length + 1
  | .lit _ => 1
  | .nil => 1
  | .ptr d => uptoBulk d + 1
  | .slice elems spare => uptoBulkAll elems + uptoBulkAll spare + 1
  | .agg parts => uptoBulkAll parts + 1
  | .iface _ d => uptoBulk d + 1
  | .map entries => uptoBulkEntries entries + 1
  | .held _ => 1
def uptoBulkAll {H : Type} : List (DataW H) → Nat
  | [] => 0
  | d :: r => uptoBulk d + uptoBulkAll r
def uptoBulkEntries {H : Type} : List (Lit × DataW H) → Nat
  | [] => 0
  | x :: r => uptoBulkEntry x + uptoBulkEntries r
def uptoBulkEntry {H : Type} : Lit × DataW H → Nat
  | (.string bytes, d) => bytes.length + uptoBulk d + 1
  | (_, d) => uptoBulk d + 1
 end
def uptoSmall : (H : Type) → List (DataW H) → Bool := fun _ ds => decide (uptoBulkAll ds ≤ 1048576)
def OpenSpec.upto (s : _root_.Go.ChangeSpec) : _root_.Go.OpenSpec := { _root_.Go.OpenSpec.ofChange s with cond := some uptoSmall }

/-- 'sederuntlaw17.ResilienceOf', WHERE WHAT IT READS IS OF BULK AT MOST 1048576: true; the input reads as it did. -/
def resilienceOfUptoRow : OpenClaim := { program := "ytbiggfbbccpcmaadoor", sum := "860a8969d8113e765a52985ee45fa4dfeb0d58849de8a36261d32cee782dd87b", func := "sederunt/sederuntlaw17.ResilienceOf", spec := "resilienceOf", unfollowed := true, recurses := true, named := ["math/bits.deBruijn32tab"], apart := false, laid := [("math/bits.deBruijn32tab", laid_math_bits_deBruijn32tab)], narrowed := true }
def ResilienceOfUptoSaid : Prop := resilienceOfUptoRow.holds Tryd.pinned (OpenSpec.upto resilienceOfSpec)

/-- 'sederuntlaw17.ResilienceSurvives', WHERE WHAT IT READS IS OF BULK AT MOST 1048576: true; the input reads as it did. -/
def resilienceSurvivesUptoRow : OpenClaim := { program := "ytbiggfbbccpcmaadoor", sum := "860a8969d8113e765a52985ee45fa4dfeb0d58849de8a36261d32cee782dd87b", func := "sederunt/sederuntlaw17.ResilienceSurvives", spec := "resilienceSurvives", unfollowed := true, recurses := true, named := ["math/bits.deBruijn32tab"], apart := false, laid := [("math/bits.deBruijn32tab", laid_math_bits_deBruijn32tab)], narrowed := true }
def ResilienceSurvivesUptoSaid : Prop := resilienceSurvivesUptoRow.holds Tryd.pinned (OpenSpec.upto resilienceSurvivesSpec)

/-- 'sederuntlaw17.ResilienceInfluence', WHERE WHAT IT READS IS OF BULK AT MOST 1048576: true; the input reads as it did. -/
def resilienceInfluenceUptoRow : OpenClaim := { program := "ytbiggfbbccpcmaadoor", sum := "860a8969d8113e765a52985ee45fa4dfeb0d58849de8a36261d32cee782dd87b", func := "sederunt/sederuntlaw17.ResilienceInfluence", spec := "resilienceInfluence", unfollowed := true, recurses := true, named := ["math/bits.deBruijn32tab"], apart := false, laid := [("math/bits.deBruijn32tab", laid_math_bits_deBruijn32tab)], narrowed := true }
def ResilienceInfluenceUptoSaid : Prop := resilienceInfluenceUptoRow.holds Tryd.pinned (OpenSpec.upto resilienceInfluenceSpec)

/-- 'sederuntlaw17.ResilienceClasses', WHERE WHAT IT READS IS OF BULK AT MOST 1048576: true; the input reads as it did. -/
def resilienceClassesUptoRow : OpenClaim := { program := "ytbiggfbbccpcmaadoor", sum := "860a8969d8113e765a52985ee45fa4dfeb0d58849de8a36261d32cee782dd87b", func := "sederunt/sederuntlaw17.ResilienceClasses", spec := "resilienceClasses", unfollowed := true, recurses := true, named := ["math/bits.deBruijn32tab"], apart := false, laid := [("math/bits.deBruijn32tab", laid_math_bits_deBruijn32tab)], narrowed := true }
def ResilienceClassesUptoSaid : Prop := resilienceClassesUptoRow.holds Tryd.pinned (OpenSpec.upto resilienceClassesSpec)

/-- 'sederuntlaw17.ResilienceServers', WHERE WHAT IT READS IS OF BULK AT MOST 1048576: true; the input reads as it did. -/
def resilienceServersUptoRow : OpenClaim := { program := "ytbiggfbbccpcmaadoor", sum := "860a8969d8113e765a52985ee45fa4dfeb0d58849de8a36261d32cee782dd87b", func := "sederunt/sederuntlaw17.ResilienceServers", spec := "resilienceServers", unfollowed := true, recurses := true, named := ["math/bits.deBruijn32tab"], apart := false, laid := [("math/bits.deBruijn32tab", laid_math_bits_deBruijn32tab)], narrowed := true }
def ResilienceServersUptoSaid : Prop := resilienceServersUptoRow.holds Tryd.pinned (OpenSpec.upto resilienceServersSpec)

/-- 'sederuntlaw17.ResilienceAfter', WHERE WHAT IT READS IS OF BULK AT MOST 1048576: true; the input reads as it did. -/
def resilienceAfterUptoRow : OpenClaim := { program := "ytbiggfbbccpcmaadoor", sum := "860a8969d8113e765a52985ee45fa4dfeb0d58849de8a36261d32cee782dd87b", func := "sederunt/sederuntlaw17.ResilienceAfter", spec := "resilienceAfter", unfollowed := true, recurses := true, named := ["math/bits.deBruijn32tab"], apart := false, laid := [("math/bits.deBruijn32tab", laid_math_bits_deBruijn32tab)], narrowed := true }
def ResilienceAfterUptoSaid : Prop := resilienceAfterUptoRow.holds Tryd.pinned (OpenSpec.upto resilienceAfterSpec)

/-- 'sederuntlaw17.ResilienceErrors', WHERE WHAT IT READS IS OF BULK AT MOST 1048576: true; the input reads as it did. -/
def resilienceErrorsUptoRow : OpenClaim := { program := "ytbiggfbbccpcmaadoor", sum := "860a8969d8113e765a52985ee45fa4dfeb0d58849de8a36261d32cee782dd87b", func := "sederunt/sederuntlaw17.ResilienceErrors", spec := "resilienceErrors", unfollowed := true, recurses := true, named := ["math/bits.deBruijn32tab"], apart := false, laid := [("math/bits.deBruijn32tab", laid_math_bits_deBruijn32tab)], narrowed := true }
def ResilienceErrorsUptoSaid : Prop := resilienceErrorsUptoRow.holds Tryd.pinned (OpenSpec.upto resilienceErrorsSpec)

end Rows
end Go.Proofs.YtbiggfbbccpcmaaDoor
