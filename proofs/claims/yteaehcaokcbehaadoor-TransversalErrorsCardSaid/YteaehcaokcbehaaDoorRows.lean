/-
  NARROWER THAN 'FOR EVERY INPUT', by the rows' own cells (each row's printed sentence says how): TransversalHits: laid · TransversalGreatest: laid · TransversalCoterie: laid · TransversalExtend: laid · TransversalDual: laid · TransversalCross: laid · TransversalLeast: laid · TransversalErrors: laid.
  DERIVED. THE GIVEN ROWS OF THIS SEAT. 8 by the template 'for every input the law returns true; each argument reads behind the call as it read before'; 0 by the template 'total and deterministic' (their statements: YteaehcaokcbehaaDoorTotals.lean).
  GIVEN WITH THE SEED: the statements are not yours to turn. If you find one false, say at which input.
  Laid BY PROGRAM, IN A SANDBOX (cutbox-rows.mjs): the forced cells as the released guide's own fill.sh prints them over the translation c85f528bdff14b46… (all of the seat's roots in one cut). By AI agents, Wed Nov 11 2026. No macro, syntax, notation, axiom, sorry.
-/
import Derived.Test.YteaehcaokcbehaaDoorChecked
import GoSem.Claim
import GoSem.ClaimJoined
import GoSem.ClaimMapViews
import Derived.JoinedTies
import Derived.KernelRfl
namespace Go.Proofs.YteaehcaokcbehaaDoor
/- THE CELL 'sum', in the pinned program and in every row, IS THE sha256 OF THE DUMP (.gsa) THAT YteaehcaokcbehaaDoorProg.lean LOADS. Nothing in Lean hashes anything: it is a label: what it is worth is what the hold of that sum in a sandbox is worth. -/
noncomputable def Tryd.pinned : Pinned := { name := "yteaehcaokcbehaadoor", sum := "c85f528bdff14b46e0521e6248111b883dc7b9d27d15f06c581b92425e2d43dd", checked := Tryd.checked }
namespace Rows
def none {H : Type} : Left H := { results := [], args := [] }

/- WHAT THE LISTED PACKAGE-LEVEL VARIABLES READ AS WHEN THE CALL BEGINS. Each datum BY PROGRAM (the guide's laid-datum.mjs) off the statement by which the dump's own 'gosem.cut.vars' lays the variable. In a bare row this is a premise. The card (YteaehcaokcbehaaDoorCards.lean) ties it to the program's text. -/
def laid_math_bits_deBruijn32tab {H : Type} : DataW H := .agg [.lit (.int .u8 0), .lit (.int .u8 1), .lit (.int .u8 28), .lit (.int .u8 2), .lit (.int .u8 29), .lit (.int .u8 14), .lit (.int .u8 24), .lit (.int .u8 3), .lit (.int .u8 30), .lit (.int .u8 22), .lit (.int .u8 20), .lit (.int .u8 15), .lit (.int .u8 25), .lit (.int .u8 17), .lit (.int .u8 4), .lit (.int .u8 8), .lit (.int .u8 31), .lit (.int .u8 27), .lit (.int .u8 13), .lit (.int .u8 23), .lit (.int .u8 21), .lit (.int .u8 19), .lit (.int .u8 16), .lit (.int .u8 7), .lit (.int .u8 26), .lit (.int .u8 12), .lit (.int .u8 18), .lit (.int .u8 6), .lit (.int .u8 11), .lit (.int .u8 5), .lit (.int .u8 10), .lit (.int .u8 9)]

/-- 'sederuntlaw09.TransversalHits': WHATEVER THE INPUT: true; the input reads as it did. -/
def transversalHitsSpec : ChangeSpec := { name := "transversalHits", fn := fun _ => fun
  | [d1, d2] => { results := [.lit (.bool true)], args := [d1, d2] }
  | _ => none }
def transversalHitsRow : OpenClaim := { program := "yteaehcaokcbehaadoor", sum := "c85f528bdff14b46e0521e6248111b883dc7b9d27d15f06c581b92425e2d43dd", func := "sederunt/sederuntlaw09.TransversalHits", spec := "transversalHits", unfollowed := true, recurses := true, named := ["math/bits.deBruijn32tab"], apart := false, laid := [("math/bits.deBruijn32tab", laid_math_bits_deBruijn32tab)] }
def TransversalHitsSaid : Prop := transversalHitsRow.holds Tryd.pinned (OpenSpec.ofChange transversalHitsSpec)

/-- ITS FALSE NEIGHBOUR: 'it returns false'. Refute it at one input. -/
def transversalHitsWrong : ChangeSpec := { name := "transversalHits", fn := fun _ => fun
  | [d1, d2] => { results := [.lit (.bool false)], args := [d1, d2] }
  | _ => none }
def TransversalHitsWrongFalsely : Prop := transversalHitsRow.holds Tryd.pinned (OpenSpec.ofChange transversalHitsWrong)

/-- 'sederuntlaw09.TransversalGreatest': WHATEVER THE INPUT: true; the input reads as it did. -/
def transversalGreatestSpec : ChangeSpec := { name := "transversalGreatest", fn := fun _ => fun
  | [d1, d2] => { results := [.lit (.bool true)], args := [d1, d2] }
  | _ => none }
def transversalGreatestRow : OpenClaim := { program := "yteaehcaokcbehaadoor", sum := "c85f528bdff14b46e0521e6248111b883dc7b9d27d15f06c581b92425e2d43dd", func := "sederunt/sederuntlaw09.TransversalGreatest", spec := "transversalGreatest", unfollowed := true, recurses := true, named := ["math/bits.deBruijn32tab"], apart := false, laid := [("math/bits.deBruijn32tab", laid_math_bits_deBruijn32tab)] }
def TransversalGreatestSaid : Prop := transversalGreatestRow.holds Tryd.pinned (OpenSpec.ofChange transversalGreatestSpec)

/-- ITS FALSE NEIGHBOUR: 'it returns false'. Refute it at one input. -/
def transversalGreatestWrong : ChangeSpec := { name := "transversalGreatest", fn := fun _ => fun
  | [d1, d2] => { results := [.lit (.bool false)], args := [d1, d2] }
  | _ => none }
def TransversalGreatestWrongFalsely : Prop := transversalGreatestRow.holds Tryd.pinned (OpenSpec.ofChange transversalGreatestWrong)

/-- 'sederuntlaw09.TransversalCoterie': WHATEVER THE INPUT: true; the input reads as it did. -/
def transversalCoterieSpec : ChangeSpec := { name := "transversalCoterie", fn := fun _ => fun
  | [d] => { results := [.lit (.bool true)], args := [d] }
  | _ => none }
def transversalCoterieRow : OpenClaim := { program := "yteaehcaokcbehaadoor", sum := "c85f528bdff14b46e0521e6248111b883dc7b9d27d15f06c581b92425e2d43dd", func := "sederunt/sederuntlaw09.TransversalCoterie", spec := "transversalCoterie", unfollowed := true, recurses := true, named := ["math/bits.deBruijn32tab"], apart := false, laid := [("math/bits.deBruijn32tab", laid_math_bits_deBruijn32tab)] }
def TransversalCoterieSaid : Prop := transversalCoterieRow.holds Tryd.pinned (OpenSpec.ofChange transversalCoterieSpec)

/-- ITS FALSE NEIGHBOUR: 'it returns false'. Refute it at one input. -/
def transversalCoterieWrong : ChangeSpec := { name := "transversalCoterie", fn := fun _ => fun
  | [d] => { results := [.lit (.bool false)], args := [d] }
  | _ => none }
def TransversalCoterieWrongFalsely : Prop := transversalCoterieRow.holds Tryd.pinned (OpenSpec.ofChange transversalCoterieWrong)

/-- 'sederuntlaw09.TransversalExtend': WHATEVER THE INPUT: true; the input reads as it did. -/
def transversalExtendSpec : ChangeSpec := { name := "transversalExtend", fn := fun _ => fun
  | [d] => { results := [.lit (.bool true)], args := [d] }
  | _ => none }
def transversalExtendRow : OpenClaim := { program := "yteaehcaokcbehaadoor", sum := "c85f528bdff14b46e0521e6248111b883dc7b9d27d15f06c581b92425e2d43dd", func := "sederunt/sederuntlaw09.TransversalExtend", spec := "transversalExtend", unfollowed := true, recurses := true, named := ["math/bits.deBruijn32tab"], apart := false, laid := [("math/bits.deBruijn32tab", laid_math_bits_deBruijn32tab)] }
def TransversalExtendSaid : Prop := transversalExtendRow.holds Tryd.pinned (OpenSpec.ofChange transversalExtendSpec)

/-- ITS FALSE NEIGHBOUR: 'it returns false'. Refute it at one input. -/
def transversalExtendWrong : ChangeSpec := { name := "transversalExtend", fn := fun _ => fun
  | [d] => { results := [.lit (.bool false)], args := [d] }
  | _ => none }
def TransversalExtendWrongFalsely : Prop := transversalExtendRow.holds Tryd.pinned (OpenSpec.ofChange transversalExtendWrong)

/-- 'sederuntlaw09.TransversalDual': WHATEVER THE INPUT: true; the input reads as it did. -/
def transversalDualSpec : ChangeSpec := { name := "transversalDual", fn := fun _ => fun
  | [d1, d2] => { results := [.lit (.bool true)], args := [d1, d2] }
  | _ => none }
def transversalDualRow : OpenClaim := { program := "yteaehcaokcbehaadoor", sum := "c85f528bdff14b46e0521e6248111b883dc7b9d27d15f06c581b92425e2d43dd", func := "sederunt/sederuntlaw09.TransversalDual", spec := "transversalDual", unfollowed := true, recurses := true, named := ["math/bits.deBruijn32tab"], apart := false, laid := [("math/bits.deBruijn32tab", laid_math_bits_deBruijn32tab)] }
def TransversalDualSaid : Prop := transversalDualRow.holds Tryd.pinned (OpenSpec.ofChange transversalDualSpec)

/-- ITS FALSE NEIGHBOUR: 'it returns false'. Refute it at one input. -/
def transversalDualWrong : ChangeSpec := { name := "transversalDual", fn := fun _ => fun
  | [d1, d2] => { results := [.lit (.bool false)], args := [d1, d2] }
  | _ => none }
def TransversalDualWrongFalsely : Prop := transversalDualRow.holds Tryd.pinned (OpenSpec.ofChange transversalDualWrong)

/-- 'sederuntlaw09.TransversalCross': WHATEVER THE INPUT: true; the input reads as it did. -/
def transversalCrossSpec : ChangeSpec := { name := "transversalCross", fn := fun _ => fun
  | [d1, d2] => { results := [.lit (.bool true)], args := [d1, d2] }
  | _ => none }
def transversalCrossRow : OpenClaim := { program := "yteaehcaokcbehaadoor", sum := "c85f528bdff14b46e0521e6248111b883dc7b9d27d15f06c581b92425e2d43dd", func := "sederunt/sederuntlaw09.TransversalCross", spec := "transversalCross", unfollowed := true, recurses := true, named := ["math/bits.deBruijn32tab"], apart := false, laid := [("math/bits.deBruijn32tab", laid_math_bits_deBruijn32tab)] }
def TransversalCrossSaid : Prop := transversalCrossRow.holds Tryd.pinned (OpenSpec.ofChange transversalCrossSpec)

/-- ITS FALSE NEIGHBOUR: 'it returns false'. Refute it at one input. -/
def transversalCrossWrong : ChangeSpec := { name := "transversalCross", fn := fun _ => fun
  | [d1, d2] => { results := [.lit (.bool false)], args := [d1, d2] }
  | _ => none }
def TransversalCrossWrongFalsely : Prop := transversalCrossRow.holds Tryd.pinned (OpenSpec.ofChange transversalCrossWrong)

/-- 'sederuntlaw09.TransversalLeast': WHATEVER THE INPUT: true; the input reads as it did. -/
def transversalLeastSpec : ChangeSpec := { name := "transversalLeast", fn := fun _ => fun
  | [d] => { results := [.lit (.bool true)], args := [d] }
  | _ => none }
def transversalLeastRow : OpenClaim := { program := "yteaehcaokcbehaadoor", sum := "c85f528bdff14b46e0521e6248111b883dc7b9d27d15f06c581b92425e2d43dd", func := "sederunt/sederuntlaw09.TransversalLeast", spec := "transversalLeast", unfollowed := true, recurses := true, named := ["math/bits.deBruijn32tab"], apart := false, laid := [("math/bits.deBruijn32tab", laid_math_bits_deBruijn32tab)] }
def TransversalLeastSaid : Prop := transversalLeastRow.holds Tryd.pinned (OpenSpec.ofChange transversalLeastSpec)

/-- ITS FALSE NEIGHBOUR: 'it returns false'. Refute it at one input. -/
def transversalLeastWrong : ChangeSpec := { name := "transversalLeast", fn := fun _ => fun
  | [d] => { results := [.lit (.bool false)], args := [d] }
  | _ => none }
def TransversalLeastWrongFalsely : Prop := transversalLeastRow.holds Tryd.pinned (OpenSpec.ofChange transversalLeastWrong)

/-- 'sederuntlaw09.TransversalErrors': WHATEVER THE INPUT: true; the input reads as it did. -/
def transversalErrorsSpec : ChangeSpec := { name := "transversalErrors", fn := fun _ => fun
  | [d] => { results := [.lit (.bool true)], args := [d] }
  | _ => none }
def transversalErrorsRow : OpenClaim := { program := "yteaehcaokcbehaadoor", sum := "c85f528bdff14b46e0521e6248111b883dc7b9d27d15f06c581b92425e2d43dd", func := "sederunt/sederuntlaw09.TransversalErrors", spec := "transversalErrors", unfollowed := true, recurses := true, named := ["math/bits.deBruijn32tab"], apart := false, laid := [("math/bits.deBruijn32tab", laid_math_bits_deBruijn32tab)] }
def TransversalErrorsSaid : Prop := transversalErrorsRow.holds Tryd.pinned (OpenSpec.ofChange transversalErrorsSpec)

/-- ITS FALSE NEIGHBOUR: 'it returns false'. Refute it at one input. -/
def transversalErrorsWrong : ChangeSpec := { name := "transversalErrors", fn := fun _ => fun
  | [d] => { results := [.lit (.bool false)], args := [d] }
  | _ => none }
def TransversalErrorsWrongFalsely : Prop := transversalErrorsRow.holds Tryd.pinned (OpenSpec.ofChange transversalErrorsWrong)

/- THE SECOND FORM. 'bulk': how many values and letters a reading holds, each counted each time it is reached (what is shared counts as often as it is met; a slice's spare places count too). A statement '..UptoSaid' is the law's where the arguments, and the package variables that the reading takes, are together of bulk at most 1048576: NARROWER than '..Said'. Prove '..Said' where nothing that the law and all that it calls make is longer than what came in: it says more and counts as full. Else prove '..UptoSaid'. A law counts once. -/
mutual
def uptoBulk {H : Type} : DataW H → Nat
  | .lit (.string bytes) => bytes.length + 1
  | .lit _ => 1
  | .nil => 1
  | .ptr d => uptoBulk d + 1
  | .slice elems spare => uptoBulkAll elems + uptoBulkAll spare + 1
  | .agg parts => uptoBulkAll parts + 1
  | .iface _ d => uptoBulk d + 1
  | .map entries => uptoBulkEntries entries + 1
  | .held _ => 1
def uptoBulkAll {H : Type} : List (DataW H) → Nat
  | [] => 0
  | d :: r => uptoBulk d + uptoBulkAll r
def uptoBulkEntries {H : Type} : List (Lit × DataW H) → Nat
  | [] => 0
  | x :: r => uptoBulkEntry x + uptoBulkEntries r
def uptoBulkEntry {H : Type} : Lit × DataW H → Nat
  | (.string bytes, d) => bytes.length + uptoBulk d + 1
  | (_, d) => uptoBulk d + 1
 end
def uptoSmall : (H : Type) → List (DataW H) → Bool := fun _ ds => decide (uptoBulkAll ds ≤ 1048576)
def OpenSpec.upto (s : _root_.Go.ChangeSpec) : _root_.Go.OpenSpec := { _root_.Go.OpenSpec.ofChange s with cond := some uptoSmall }

/-- 'sederuntlaw09.TransversalHits', WHERE WHAT IT READS IS OF BULK AT MOST 1048576: true; the input reads as it did. -/
def transversalHitsUptoRow : OpenClaim := { program := "yteaehcaokcbehaadoor", sum := "c85f528bdff14b46e0521e6248111b883dc7b9d27d15f06c581b92425e2d43dd", func := "sederunt/sederuntlaw09.TransversalHits", spec := "transversalHits", unfollowed := true, recurses := true, named := ["math/bits.deBruijn32tab"], apart := false, laid := [("math/bits.deBruijn32tab", laid_math_bits_deBruijn32tab)], narrowed := true }
def TransversalHitsUptoSaid : Prop := transversalHitsUptoRow.holds Tryd.pinned (OpenSpec.upto transversalHitsSpec)

/-- 'sederuntlaw09.TransversalGreatest', WHERE WHAT IT READS IS OF BULK AT MOST 1048576: true; the input reads as it did. -/
def transversalGreatestUptoRow : OpenClaim := { program := "yteaehcaokcbehaadoor", sum := "c85f528bdff14b46e0521e6248111b883dc7b9d27d15f06c581b92425e2d43dd", func := "sederunt/sederuntlaw09.TransversalGreatest", spec := "transversalGreatest", unfollowed := true, recurses := true, named := ["math/bits.deBruijn32tab"], apart := false, laid := [("math/bits.deBruijn32tab", laid_math_bits_deBruijn32tab)], narrowed := true }
def TransversalGreatestUptoSaid : Prop := transversalGreatestUptoRow.holds Tryd.pinned (OpenSpec.upto transversalGreatestSpec)

/-- 'sederuntlaw09.TransversalCoterie', WHERE WHAT IT READS IS OF BULK AT MOST 1048576: true; the input reads as it did. -/
def transversalCoterieUptoRow : OpenClaim := { program := "yteaehcaokcbehaadoor", sum := "c85f528bdff14b46e0521e6248111b883dc7b9d27d15f06c581b92425e2d43dd", func := "sederunt/sederuntlaw09.TransversalCoterie", spec := "transversalCoterie", unfollowed := true, recurses := true, named := ["math/bits.deBruijn32tab"], apart := false, laid := [("math/bits.deBruijn32tab", laid_math_bits_deBruijn32tab)], narrowed := true }
def TransversalCoterieUptoSaid : Prop := transversalCoterieUptoRow.holds Tryd.pinned (OpenSpec.upto transversalCoterieSpec)

/-- 'sederuntlaw09.TransversalExtend', WHERE WHAT IT READS IS OF BULK AT MOST 1048576: true; the input reads as it did. -/
def transversalExtendUptoRow : OpenClaim := { program := "yteaehcaokcbehaadoor", sum := "c85f528bdff14b46e0521e6248111b883dc7b9d27d15f06c581b92425e2d43dd", func := "sederunt/sederuntlaw09.TransversalExtend", spec := "transversalExtend", unfollowed := true, recurses := true, named := ["math/bits.deBruijn32tab"], apart := false, laid := [("math/bits.deBruijn32tab", laid_math_bits_deBruijn32tab)], narrowed := true }
def TransversalExtendUptoSaid : Prop := transversalExtendUptoRow.holds Tryd.pinned (OpenSpec.upto transversalExtendSpec)

/-- 'sederuntlaw09.TransversalDual', WHERE WHAT IT READS IS OF BULK AT MOST 1048576: true; the input reads as it did. -/
def transversalDualUptoRow : OpenClaim := { program := "yteaehcaokcbehaadoor", sum := "c85f528bdff14b46e0521e6248111b883dc7b9d27d15f06c581b92425e2d43dd", func := "sederunt/sederuntlaw09.TransversalDual", spec := "transversalDual", unfollowed := true, recurses := true, named := ["math/bits.deBruijn32tab"], apart := false, laid := [("math/bits.deBruijn32tab", laid_math_bits_deBruijn32tab)], narrowed := true }
def TransversalDualUptoSaid : Prop := transversalDualUptoRow.holds Tryd.pinned (OpenSpec.upto transversalDualSpec)

/-- 'sederuntlaw09.TransversalCross', WHERE WHAT IT READS IS OF BULK AT MOST 1048576: true; the input reads as it did. -/
def transversalCrossUptoRow : OpenClaim := { program := "yteaehcaokcbehaadoor", sum := "c85f528bdff14b46e0521e6248111b883dc7b9d27d15f06c581b92425e2d43dd", func := "sederunt/sederuntlaw09.TransversalCross", spec := "transversalCross", unfollowed := true, recurses := true, named := ["math/bits.deBruijn32tab"], apart := false, laid := [("math/bits.deBruijn32tab", laid_math_bits_deBruijn32tab)], narrowed := true }
def TransversalCrossUptoSaid : Prop := transversalCrossUptoRow.holds Tryd.pinned (OpenSpec.upto transversalCrossSpec)

/-- 'sederuntlaw09.TransversalLeast', WHERE WHAT IT READS IS OF BULK AT MOST 1048576: true; the input reads as it did. -/
def transversalLeastUptoRow : OpenClaim := { program := "yteaehcaokcbehaadoor", sum := "c85f528bdff14b46e0521e6248111b883dc7b9d27d15f06c581b92425e2d43dd", func := "sederunt/sederuntlaw09.TransversalLeast", spec := "transversalLeast", unfollowed := true, recurses := true, named := ["math/bits.deBruijn32tab"], apart := false, laid := [("math/bits.deBruijn32tab", laid_math_bits_deBruijn32tab)], narrowed := true }
def TransversalLeastUptoSaid : Prop := transversalLeastUptoRow.holds Tryd.pinned (OpenSpec.upto transversalLeastSpec)

/-- 'sederuntlaw09.TransversalErrors', WHERE WHAT IT READS IS OF BULK AT MOST 1048576: true; the input reads as it did. -/
def transversalErrorsUptoRow : OpenClaim := { program := "yteaehcaokcbehaadoor", sum := "c85f528bdff14b46e0521e6248111b883dc7b9d27d15f06c581b92425e2d43dd", func := "sederunt/sederuntlaw09.TransversalErrors", spec := "transversalErrors", unfollowed := true, recurses := true, named := ["math/bits.deBruijn32tab"], apart := false, laid := [("math/bits.deBruijn32tab", laid_math_bits_deBruijn32tab)], narrowed := true }
def TransversalErrorsUptoSaid : Prop := transversalErrorsUptoRow.holds Tryd.pinned (OpenSpec.upto transversalErrorsSpec)

end Rows
end Go.Proofs.YteaehcaokcbehaaDoor
