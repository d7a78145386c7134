/-
  No cell of these rows narrows 'for every input' (looked for: loops, veiled, ifaces, maps, wideKeys, modest, calm, conditions, laid).
  DERIVED. THE GIVEN ROWS OF THIS SEAT. 7 by the template 'for every input the law returns true; each argument reads behind the call as it read before'; 0 by the template 'total and deterministic' (their statements: YtnkknjpnkobplaaTotals.lean).
  GIVEN WITH THE SEED: the statements are not yours to turn. If you find one false, say at which input.
  Laid BY PROGRAM, IN A SANDBOX (cutbox-rows.mjs): the forced cells as the released guide's own fill.sh prints them over the translation 4da68209868acb74… (all of the seat's roots in one cut). By AI agents, Wed Nov 11 2026. No macro, syntax, notation, axiom, sorry.
-/
import Derived.Test.YtnkknjpnkobplaaChecked
import GoSem.Claim
import GoSem.ClaimJoined
import GoSem.ClaimMapViews
import Derived.JoinedTies
import Derived.KernelRfl
namespace Go.Proofs.Ytnkknjpnkobplaa
/- THE CELL 'sum', in the pinned program and in every row, IS THE sha256 OF THE DUMP (.gsa) THAT YtnkknjpnkobplaaProg.lean LOADS. Nothing in Lean hashes anything: it is a label: what it is worth is what the hold of that sum in a sandbox is worth. -/
noncomputable def Try.pinned : Pinned := { name := "ytnkknjpnkobplaa", sum := "4da68209868acb7428dce33e3cf5d81c605264ac4e242af511dd7787f7f85126", checked := Try.checked }
namespace Rows
def none {H : Type} : Left H := { results := [], args := [] }

/-- 'sederuntlaw21.DisseminationPairs': WHATEVER THE INPUT: true; the input reads as it did. -/
def disseminationPairsSpec : ChangeSpec := { name := "disseminationPairs", fn := fun _ => fun
  | [d1, d2] => { results := [.lit (.bool true)], args := [d1, d2] }
  | _ => none }
def disseminationPairsRow : OpenClaim := { program := "ytnkknjpnkobplaa", sum := "4da68209868acb7428dce33e3cf5d81c605264ac4e242af511dd7787f7f85126", func := "sederunt/sederuntlaw21.DisseminationPairs", spec := "disseminationPairs", unfollowed := true, recurses := true, apart := false }
def DisseminationPairsSaid : Prop := disseminationPairsRow.holds Try.pinned (OpenSpec.ofChange disseminationPairsSpec)

/-- ITS FALSE NEIGHBOUR: 'it returns false'. Refute it at one input. -/
def disseminationPairsWrong : ChangeSpec := { name := "disseminationPairs", fn := fun _ => fun
  | [d1, d2] => { results := [.lit (.bool false)], args := [d1, d2] }
  | _ => none }
def DisseminationPairsWrongFalsely : Prop := disseminationPairsRow.holds Try.pinned (OpenSpec.ofChange disseminationPairsWrong)

/-- 'sederuntlaw21.DisseminationMasking': WHATEVER THE INPUT: true; the input reads as it did. -/
def disseminationMaskingSpec : ChangeSpec := { name := "disseminationMasking", fn := fun _ => fun
  | [d1, d2] => { results := [.lit (.bool true)], args := [d1, d2] }
  | _ => none }
def disseminationMaskingRow : OpenClaim := { program := "ytnkknjpnkobplaa", sum := "4da68209868acb7428dce33e3cf5d81c605264ac4e242af511dd7787f7f85126", func := "sederunt/sederuntlaw21.DisseminationMasking", spec := "disseminationMasking", unfollowed := true, recurses := true, apart := false }
def DisseminationMaskingSaid : Prop := disseminationMaskingRow.holds Try.pinned (OpenSpec.ofChange disseminationMaskingSpec)

/-- ITS FALSE NEIGHBOUR: 'it returns false'. Refute it at one input. -/
def disseminationMaskingWrong : ChangeSpec := { name := "disseminationMasking", fn := fun _ => fun
  | [d1, d2] => { results := [.lit (.bool false)], args := [d1, d2] }
  | _ => none }
def DisseminationMaskingWrongFalsely : Prop := disseminationMaskingRow.holds Try.pinned (OpenSpec.ofChange disseminationMaskingWrong)

/-- 'sederuntlaw21.DisseminationMore': WHATEVER THE INPUT: true; the input reads as it did. -/
def disseminationMoreSpec : ChangeSpec := { name := "disseminationMore", fn := fun _ => fun
  | [d1, d2, d3] => { results := [.lit (.bool true)], args := [d1, d2, d3] }
  | _ => none }
def disseminationMoreRow : OpenClaim := { program := "ytnkknjpnkobplaa", sum := "4da68209868acb7428dce33e3cf5d81c605264ac4e242af511dd7787f7f85126", func := "sederunt/sederuntlaw21.DisseminationMore", spec := "disseminationMore", unfollowed := true, recurses := true, apart := false }
def DisseminationMoreSaid : Prop := disseminationMoreRow.holds Try.pinned (OpenSpec.ofChange disseminationMoreSpec)

/-- ITS FALSE NEIGHBOUR: 'it returns false'. Refute it at one input. -/
def disseminationMoreWrong : ChangeSpec := { name := "disseminationMore", fn := fun _ => fun
  | [d1, d2, d3] => { results := [.lit (.bool false)], args := [d1, d2, d3] }
  | _ => none }
def DisseminationMoreWrongFalsely : Prop := disseminationMoreRow.holds Try.pinned (OpenSpec.ofChange disseminationMoreWrong)

/-- 'sederuntlaw21.DisseminationCover': WHATEVER THE INPUT: true; the input reads as it did. -/
def disseminationCoverSpec : ChangeSpec := { name := "disseminationCover", fn := fun _ => fun
  | [d1, d2, d3] => { results := [.lit (.bool true)], args := [d1, d2, d3] }
  | _ => none }
def disseminationCoverRow : OpenClaim := { program := "ytnkknjpnkobplaa", sum := "4da68209868acb7428dce33e3cf5d81c605264ac4e242af511dd7787f7f85126", func := "sederunt/sederuntlaw21.DisseminationCover", spec := "disseminationCover", unfollowed := true, recurses := true, apart := false }
def DisseminationCoverSaid : Prop := disseminationCoverRow.holds Try.pinned (OpenSpec.ofChange disseminationCoverSpec)

/-- ITS FALSE NEIGHBOUR: 'it returns false'. Refute it at one input. -/
def disseminationCoverWrong : ChangeSpec := { name := "disseminationCover", fn := fun _ => fun
  | [d1, d2, d3] => { results := [.lit (.bool false)], args := [d1, d2, d3] }
  | _ => none }
def DisseminationCoverWrongFalsely : Prop := disseminationCoverRow.holds Try.pinned (OpenSpec.ofChange disseminationCoverWrong)

/-- 'sederuntlaw21.DisseminationAvailable': WHATEVER THE INPUT: true; the input reads as it did. -/
def disseminationAvailableSpec : ChangeSpec := { name := "disseminationAvailable", fn := fun _ => fun
  | [d1, d2] => { results := [.lit (.bool true)], args := [d1, d2] }
  | _ => none }
def disseminationAvailableRow : OpenClaim := { program := "ytnkknjpnkobplaa", sum := "4da68209868acb7428dce33e3cf5d81c605264ac4e242af511dd7787f7f85126", func := "sederunt/sederuntlaw21.DisseminationAvailable", spec := "disseminationAvailable", unfollowed := true, recurses := true, apart := false }
def DisseminationAvailableSaid : Prop := disseminationAvailableRow.holds Try.pinned (OpenSpec.ofChange disseminationAvailableSpec)

/-- ITS FALSE NEIGHBOUR: 'it returns false'. Refute it at one input. -/
def disseminationAvailableWrong : ChangeSpec := { name := "disseminationAvailable", fn := fun _ => fun
  | [d1, d2] => { results := [.lit (.bool false)], args := [d1, d2] }
  | _ => none }
def DisseminationAvailableWrongFalsely : Prop := disseminationAvailableRow.holds Try.pinned (OpenSpec.ofChange disseminationAvailableWrong)

/-- 'sederuntlaw21.DisseminationCanonical': WHATEVER THE INPUT: true; the input reads as it did. -/
def disseminationCanonicalSpec : ChangeSpec := { name := "disseminationCanonical", fn := fun _ => fun
  | [d1, d2] => { results := [.lit (.bool true)], args := [d1, d2] }
  | _ => none }
def disseminationCanonicalRow : OpenClaim := { program := "ytnkknjpnkobplaa", sum := "4da68209868acb7428dce33e3cf5d81c605264ac4e242af511dd7787f7f85126", func := "sederunt/sederuntlaw21.DisseminationCanonical", spec := "disseminationCanonical", unfollowed := true, recurses := true, apart := false }
def DisseminationCanonicalSaid : Prop := disseminationCanonicalRow.holds Try.pinned (OpenSpec.ofChange disseminationCanonicalSpec)

/-- ITS FALSE NEIGHBOUR: 'it returns false'. Refute it at one input. -/
def disseminationCanonicalWrong : ChangeSpec := { name := "disseminationCanonical", fn := fun _ => fun
  | [d1, d2] => { results := [.lit (.bool false)], args := [d1, d2] }
  | _ => none }
def DisseminationCanonicalWrongFalsely : Prop := disseminationCanonicalRow.holds Try.pinned (OpenSpec.ofChange disseminationCanonicalWrong)

/-- 'sederuntlaw21.DisseminationNeeded': WHATEVER THE INPUT: true; the input reads as it did. -/
def disseminationNeededSpec : ChangeSpec := { name := "disseminationNeeded", fn := fun _ => fun
  | [d1, d2, d3] => { results := [.lit (.bool true)], args := [d1, d2, d3] }
  | _ => none }
def disseminationNeededRow : OpenClaim := { program := "ytnkknjpnkobplaa", sum := "4da68209868acb7428dce33e3cf5d81c605264ac4e242af511dd7787f7f85126", func := "sederunt/sederuntlaw21.DisseminationNeeded", spec := "disseminationNeeded", unfollowed := true, recurses := true, apart := false }
def DisseminationNeededSaid : Prop := disseminationNeededRow.holds Try.pinned (OpenSpec.ofChange disseminationNeededSpec)

/-- ITS FALSE NEIGHBOUR: 'it returns false'. Refute it at one input. -/
def disseminationNeededWrong : ChangeSpec := { name := "disseminationNeeded", fn := fun _ => fun
  | [d1, d2, d3] => { results := [.lit (.bool false)], args := [d1, d2, d3] }
  | _ => none }
def DisseminationNeededWrongFalsely : Prop := disseminationNeededRow.holds Try.pinned (OpenSpec.ofChange disseminationNeededWrong)

/- THE SECOND FORM. 'bulk': how many values and letters a reading holds, each counted each time it is reached (what is shared counts as often as it is met; a slice's spare places count too). A statement '..UptoSaid' is the law's where the arguments, and the package variables that the reading takes, are together of bulk at most 1048576: NARROWER than '..Said'. Prove '..Said' where nothing that the law and all that it calls make is longer than what came in: it says more and counts as full. Else prove '..UptoSaid'. A law counts once. -/
mutual
def uptoBulk {H : Type} : DataW H → Nat
  | .lit (.string bytes) => bytes.length + 1
  | .lit _ => 1
  | .nil => 1
  | .ptr d => uptoBulk d + 1
  | .slice elems spare => uptoBulkAll elems + uptoBulkAll spare + 1
  | .agg parts => uptoBulkAll parts + 1
  | .iface _ d => uptoBulk d + 1
  | .map entries => uptoBulkEntries entries + 1
  | .held _ => 1
def uptoBulkAll {H : Type} : List (DataW H) → Nat
  | [] => 0
  | d :: r => uptoBulk d + uptoBulkAll r
def uptoBulkEntries {H : Type} : List (Lit × DataW H) → Nat
  | [] => 0
  | x :: r => uptoBulkEntry x + uptoBulkEntries r
def uptoBulkEntry {H : Type} : Lit × DataW H → Nat
  | (.string bytes, d) => bytes.length + uptoBulk d + 1
  | (_, d) => uptoBulk d + 1
 end
def uptoSmall : (H : Type) → List (DataW H) → Bool := fun _ ds => decide (uptoBulkAll ds ≤ 1048576)
def OpenSpec.upto (s : _root_.Go.ChangeSpec) : _root_.Go.OpenSpec := { _root_.Go.OpenSpec.ofChange s with cond := some uptoSmall }

/-- 'sederuntlaw21.DisseminationPairs', WHERE WHAT IT READS IS OF BULK AT MOST 1048576: true; the input reads as it did. -/
def disseminationPairsUptoRow : OpenClaim := { program := "ytnkknjpnkobplaa", sum := "4da68209868acb7428dce33e3cf5d81c605264ac4e242af511dd7787f7f85126", func := "sederunt/sederuntlaw21.DisseminationPairs", spec := "disseminationPairs", unfollowed := true, recurses := true, apart := false, narrowed := true }
def DisseminationPairsUptoSaid : Prop := disseminationPairsUptoRow.holds Try.pinned (OpenSpec.upto disseminationPairsSpec)

/-- 'sederuntlaw21.DisseminationMasking', WHERE WHAT IT READS IS OF BULK AT MOST 1048576: true; the input reads as it did. -/
def disseminationMaskingUptoRow : OpenClaim := { program := "ytnkknjpnkobplaa", sum := "4da68209868acb7428dce33e3cf5d81c605264ac4e242af511dd7787f7f85126", func := "sederunt/sederuntlaw21.DisseminationMasking", spec := "disseminationMasking", unfollowed := true, recurses := true, apart := false, narrowed := true }
def DisseminationMaskingUptoSaid : Prop := disseminationMaskingUptoRow.holds Try.pinned (OpenSpec.upto disseminationMaskingSpec)

/-- 'sederuntlaw21.DisseminationMore', WHERE WHAT IT READS IS OF BULK AT MOST 1048576: true; the input reads as it did. -/
def disseminationMoreUptoRow : OpenClaim := { program := "ytnkknjpnkobplaa", sum := "4da68209868acb7428dce33e3cf5d81c605264ac4e242af511dd7787f7f85126", func := "sederunt/sederuntlaw21.DisseminationMore", spec := "disseminationMore", unfollowed := true, recurses := true, apart := false, narrowed := true }
def DisseminationMoreUptoSaid : Prop := disseminationMoreUptoRow.holds Try.pinned (OpenSpec.upto disseminationMoreSpec)

/-- 'sederuntlaw21.DisseminationCover', WHERE WHAT IT READS IS OF BULK AT MOST 1048576: true; the input reads as it did. -/
def disseminationCoverUptoRow : OpenClaim := { program := "ytnkknjpnkobplaa", sum := "4da68209868acb7428dce33e3cf5d81c605264ac4e242af511dd7787f7f85126", func := "sederunt/sederuntlaw21.DisseminationCover", spec := "disseminationCover", unfollowed := true, recurses := true, apart := false, narrowed := true }
def DisseminationCoverUptoSaid : Prop := disseminationCoverUptoRow.holds Try.pinned (OpenSpec.upto disseminationCoverSpec)

/-- 'sederuntlaw21.DisseminationAvailable', WHERE WHAT IT READS IS OF BULK AT MOST 1048576: true; the input reads as it did. -/
def disseminationAvailableUptoRow : OpenClaim := { program := "ytnkknjpnkobplaa", sum := "4da68209868acb7428dce33e3cf5d81c605264ac4e242af511dd7787f7f85126", func := "sederunt/sederuntlaw21.DisseminationAvailable", spec := "disseminationAvailable", unfollowed := true, recurses := true, apart := false, narrowed := true }
def DisseminationAvailableUptoSaid : Prop := disseminationAvailableUptoRow.holds Try.pinned (OpenSpec.upto disseminationAvailableSpec)

/-- 'sederuntlaw21.DisseminationCanonical', WHERE WHAT IT READS IS OF BULK AT MOST 1048576: true; the input reads as it did. -/
def disseminationCanonicalUptoRow : OpenClaim := { program := "ytnkknjpnkobplaa", sum := "4da68209868acb7428dce33e3cf5d81c605264ac4e242af511dd7787f7f85126", func := "sederunt/sederuntlaw21.DisseminationCanonical", spec := "disseminationCanonical", unfollowed := true, recurses := true, apart := false, narrowed := true }
def DisseminationCanonicalUptoSaid : Prop := disseminationCanonicalUptoRow.holds Try.pinned (OpenSpec.upto disseminationCanonicalSpec)

/-- 'sederuntlaw21.DisseminationNeeded', WHERE WHAT IT READS IS OF BULK AT MOST 1048576: true; the input reads as it did. -/
def disseminationNeededUptoRow : OpenClaim := { program := "ytnkknjpnkobplaa", sum := "4da68209868acb7428dce33e3cf5d81c605264ac4e242af511dd7787f7f85126", func := "sederunt/sederuntlaw21.DisseminationNeeded", spec := "disseminationNeeded", unfollowed := true, recurses := true, apart := false, narrowed := true }
def DisseminationNeededUptoSaid : Prop := disseminationNeededUptoRow.holds Try.pinned (OpenSpec.upto disseminationNeededSpec)

end Rows
end Go.Proofs.Ytnkknjpnkobplaa
