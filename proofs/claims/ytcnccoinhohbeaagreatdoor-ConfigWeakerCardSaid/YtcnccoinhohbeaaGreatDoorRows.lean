/-
  NARROWER THAN 'FOR EVERY INPUT', by the rows' own cells (each row's printed sentence says how): ConfigTolerates: laid · ConfigClash: laid · ConfigIsClash: laid · ConfigProve: laid · ConfigCheck: laid · ConfigWeaker: laid.
  DERIVED. THE GIVEN ROWS OF THIS SEAT. 6 by the template 'for every input the law returns true; each argument reads behind the call as it read before'; 0 by the template 'total and deterministic' (their statements: YtcnccoinhohbeaaGreatDoorTotals.lean).
  GIVEN WITH THE SEED: the statements are not yours to turn. If you find one false, say at which input.
  Laid BY PROGRAM, IN A SANDBOX (cutbox-rows.mjs): the forced cells as the released guide's own fill.sh prints them over the translation 5f2a370005a02630… (all of the seat's roots in one cut). By AI agents, Wed Nov 11 2026. No macro, syntax, notation, axiom, sorry.
-/
import Derived.Test.YtcnccoinhohbeaaGreatDoorChecked
import GoSem.Claim
import GoSem.ClaimJoined
import GoSem.ClaimMapViews
import Derived.JoinedTies
import Derived.KernelRfl
namespace Go.Proofs.YtcnccoinhohbeaaGreatDoor
/- THE CELL 'sum', in the pinned program and in every row, IS THE sha256 OF THE DUMP (.gsa) THAT YtcnccoinhohbeaaGreatDoorProg.lean LOADS. Nothing in Lean hashes anything: it is a label: what it is worth is what the hold of that sum in a sandbox is worth. -/
noncomputable def Tryz.pinned : Pinned := { name := "ytcnccoinhohbeaagreatdoor", sum := "5f2a370005a02630d6ae8f69e3c13b516bba9b031e07a764630b779ff41404d5", checked := Tryz.checked }
namespace Rows
def none {H : Type} : Left H := { results := [], args := [] }

/- WHAT THE LISTED PACKAGE-LEVEL VARIABLES READ AS WHEN THE CALL BEGINS. Each datum BY PROGRAM (the guide's laid-datum.mjs) off the statement by which the dump's own 'gosem.cut.vars' lays the variable. In a bare row this is a premise. The card (YtcnccoinhohbeaaGreatDoorCards.lean) ties it to the program's text. -/
def laid_math_bits_deBruijn32tab {H : Type} : DataW H := .agg [.lit (.int .u8 0), .lit (.int .u8 1), .lit (.int .u8 28), .lit (.int .u8 2), .lit (.int .u8 29), .lit (.int .u8 14), .lit (.int .u8 24), .lit (.int .u8 3), .lit (.int .u8 30), .lit (.int .u8 22), .lit (.int .u8 20), .lit (.int .u8 15), .lit (.int .u8 25), .lit (.int .u8 17), .lit (.int .u8 4), .lit (.int .u8 8), .lit (.int .u8 31), .lit (.int .u8 27), .lit (.int .u8 13), .lit (.int .u8 23), .lit (.int .u8 21), .lit (.int .u8 19), .lit (.int .u8 16), .lit (.int .u8 7), .lit (.int .u8 26), .lit (.int .u8 12), .lit (.int .u8 18), .lit (.int .u8 6), .lit (.int .u8 11), .lit (.int .u8 5), .lit (.int .u8 10), .lit (.int .u8 9)]

/-- 'sederuntlaw27.ConfigTolerates': WHATEVER THE INPUT: true; the input reads as it did. -/
def configToleratesSpec : ChangeSpec := { name := "configTolerates", fn := fun _ => fun
  | [d1, d2] => { results := [.lit (.bool true)], args := [d1, d2] }
  | _ => none }
def configToleratesRow : OpenClaim := { program := "ytcnccoinhohbeaagreatdoor", sum := "5f2a370005a02630d6ae8f69e3c13b516bba9b031e07a764630b779ff41404d5", func := "sederunt/sederuntlaw27.ConfigTolerates", spec := "configTolerates", unfollowed := true, recurses := true, named := ["math/bits.deBruijn32tab"], apart := false, laid := [("math/bits.deBruijn32tab", laid_math_bits_deBruijn32tab)] }
def ConfigToleratesSaid : Prop := configToleratesRow.holds Tryz.pinned (OpenSpec.ofChange configToleratesSpec)

/-- ITS FALSE NEIGHBOUR: 'it returns false'. Refute it at one input. -/
def configToleratesWrong : ChangeSpec := { name := "configTolerates", fn := fun _ => fun
  | [d1, d2] => { results := [.lit (.bool false)], args := [d1, d2] }
  | _ => none }
def ConfigToleratesWrongFalsely : Prop := configToleratesRow.holds Tryz.pinned (OpenSpec.ofChange configToleratesWrong)

/-- 'sederuntlaw27.ConfigClash': WHATEVER THE INPUT: true; the input reads as it did. -/
def configClashSpec : ChangeSpec := { name := "configClash", fn := fun _ => fun
  | [d1, d2] => { results := [.lit (.bool true)], args := [d1, d2] }
  | _ => none }
def configClashRow : OpenClaim := { program := "ytcnccoinhohbeaagreatdoor", sum := "5f2a370005a02630d6ae8f69e3c13b516bba9b031e07a764630b779ff41404d5", func := "sederunt/sederuntlaw27.ConfigClash", spec := "configClash", unfollowed := true, recurses := true, named := ["math/bits.deBruijn32tab"], apart := false, laid := [("math/bits.deBruijn32tab", laid_math_bits_deBruijn32tab)] }
def ConfigClashSaid : Prop := configClashRow.holds Tryz.pinned (OpenSpec.ofChange configClashSpec)

/-- ITS FALSE NEIGHBOUR: 'it returns false'. Refute it at one input. -/
def configClashWrong : ChangeSpec := { name := "configClash", fn := fun _ => fun
  | [d1, d2] => { results := [.lit (.bool false)], args := [d1, d2] }
  | _ => none }
def ConfigClashWrongFalsely : Prop := configClashRow.holds Tryz.pinned (OpenSpec.ofChange configClashWrong)

/-- 'sederuntlaw27.ConfigIsClash': WHATEVER THE INPUT: true; the input reads as it did. -/
def configIsClashSpec : ChangeSpec := { name := "configIsClash", fn := fun _ => fun
  | [d1, d2, d3] => { results := [.lit (.bool true)], args := [d1, d2, d3] }
  | _ => none }
def configIsClashRow : OpenClaim := { program := "ytcnccoinhohbeaagreatdoor", sum := "5f2a370005a02630d6ae8f69e3c13b516bba9b031e07a764630b779ff41404d5", func := "sederunt/sederuntlaw27.ConfigIsClash", spec := "configIsClash", unfollowed := true, recurses := true, named := ["math/bits.deBruijn32tab"], apart := false, laid := [("math/bits.deBruijn32tab", laid_math_bits_deBruijn32tab)] }
def ConfigIsClashSaid : Prop := configIsClashRow.holds Tryz.pinned (OpenSpec.ofChange configIsClashSpec)

/-- ITS FALSE NEIGHBOUR: 'it returns false'. Refute it at one input. -/
def configIsClashWrong : ChangeSpec := { name := "configIsClash", fn := fun _ => fun
  | [d1, d2, d3] => { results := [.lit (.bool false)], args := [d1, d2, d3] }
  | _ => none }
def ConfigIsClashWrongFalsely : Prop := configIsClashRow.holds Tryz.pinned (OpenSpec.ofChange configIsClashWrong)

/-- 'sederuntlaw27.ConfigProve': WHATEVER THE INPUT: true; the input reads as it did. -/
def configProveSpec : ChangeSpec := { name := "configProve", fn := fun _ => fun
  | [d1, d2] => { results := [.lit (.bool true)], args := [d1, d2] }
  | _ => none }
def configProveRow : OpenClaim := { program := "ytcnccoinhohbeaagreatdoor", sum := "5f2a370005a02630d6ae8f69e3c13b516bba9b031e07a764630b779ff41404d5", func := "sederunt/sederuntlaw27.ConfigProve", spec := "configProve", unfollowed := true, recurses := true, named := ["math/bits.deBruijn32tab"], apart := false, laid := [("math/bits.deBruijn32tab", laid_math_bits_deBruijn32tab)] }
def ConfigProveSaid : Prop := configProveRow.holds Tryz.pinned (OpenSpec.ofChange configProveSpec)

/-- ITS FALSE NEIGHBOUR: 'it returns false'. Refute it at one input. -/
def configProveWrong : ChangeSpec := { name := "configProve", fn := fun _ => fun
  | [d1, d2] => { results := [.lit (.bool false)], args := [d1, d2] }
  | _ => none }
def ConfigProveWrongFalsely : Prop := configProveRow.holds Tryz.pinned (OpenSpec.ofChange configProveWrong)

/-- 'sederuntlaw27.ConfigCheck': WHATEVER THE INPUT: true; the input reads as it did. -/
def configCheckSpec : ChangeSpec := { name := "configCheck", fn := fun _ => fun
  | [d1, d2, d3] => { results := [.lit (.bool true)], args := [d1, d2, d3] }
  | _ => none }
def configCheckRow : OpenClaim := { program := "ytcnccoinhohbeaagreatdoor", sum := "5f2a370005a02630d6ae8f69e3c13b516bba9b031e07a764630b779ff41404d5", func := "sederunt/sederuntlaw27.ConfigCheck", spec := "configCheck", unfollowed := true, recurses := true, named := ["math/bits.deBruijn32tab"], apart := false, laid := [("math/bits.deBruijn32tab", laid_math_bits_deBruijn32tab)] }
def ConfigCheckSaid : Prop := configCheckRow.holds Tryz.pinned (OpenSpec.ofChange configCheckSpec)

/-- ITS FALSE NEIGHBOUR: 'it returns false'. Refute it at one input. -/
def configCheckWrong : ChangeSpec := { name := "configCheck", fn := fun _ => fun
  | [d1, d2, d3] => { results := [.lit (.bool false)], args := [d1, d2, d3] }
  | _ => none }
def ConfigCheckWrongFalsely : Prop := configCheckRow.holds Tryz.pinned (OpenSpec.ofChange configCheckWrong)

/-- 'sederuntlaw27.ConfigWeaker': WHATEVER THE INPUT: true; the input reads as it did. -/
def configWeakerSpec : ChangeSpec := { name := "configWeaker", fn := fun _ => fun
  | [d1, d2, d3] => { results := [.lit (.bool true)], args := [d1, d2, d3] }
  | _ => none }
def configWeakerRow : OpenClaim := { program := "ytcnccoinhohbeaagreatdoor", sum := "5f2a370005a02630d6ae8f69e3c13b516bba9b031e07a764630b779ff41404d5", func := "sederunt/sederuntlaw27.ConfigWeaker", spec := "configWeaker", unfollowed := true, recurses := true, named := ["math/bits.deBruijn32tab"], apart := false, laid := [("math/bits.deBruijn32tab", laid_math_bits_deBruijn32tab)] }
def ConfigWeakerSaid : Prop := configWeakerRow.holds Tryz.pinned (OpenSpec.ofChange configWeakerSpec)

/-- ITS FALSE NEIGHBOUR: 'it returns false'. Refute it at one input. -/
def configWeakerWrong : ChangeSpec := { name := "configWeaker", fn := fun _ => fun
  | [d1, d2, d3] => { results := [.lit (.bool false)], args := [d1, d2, d3] }
  | _ => none }
def ConfigWeakerWrongFalsely : Prop := configWeakerRow.holds Tryz.pinned (OpenSpec.ofChange configWeakerWrong)

/- THE SECOND FORM. 'bulk': how many values and letters a reading holds, each counted each time it is reached (what is shared counts as often as it is met; a slice's spare places count too). A statement '..UptoSaid' is the law's where the arguments, and the package variables that the reading takes, are together of bulk at most 1048576: NARROWER than '..Said'. Prove '..Said' where nothing that the law and all that it calls make is longer than what came in: it says more and counts as full. Else prove '..UptoSaid'. A law counts once. -/
mutual
def uptoBulk {H : Type} : DataW H → Nat
  | .lit (.string bytes) => bytes.length + 1
  | .lit _ => 1
  | .nil => 1
  | .ptr d => uptoBulk d + 1
  | .slice elems spare => uptoBulkAll elems + uptoBulkAll spare + 1
  | .agg parts => uptoBulkAll parts + 1
  | .iface _ d => uptoBulk d + 1
  | .map entries => uptoBulkEntries entries + 1
  | .held _ => 1
def uptoBulkAll {H : Type} : List (DataW H) → Nat
  | [] => 0
  | d :: r => uptoBulk d + uptoBulkAll r
def uptoBulkEntries {H : Type} : List (Lit × DataW H) → Nat
  | [] => 0
  | x :: r => uptoBulkEntry x + uptoBulkEntries r
def uptoBulkEntry {H : Type} : Lit × DataW H → Nat
  | (.string bytes, d) => bytes.length + uptoBulk d + 1
  | (_, d) => uptoBulk d + 1
 end
def uptoSmall : (H : Type) → List (DataW H) → Bool := fun _ ds => decide (uptoBulkAll ds ≤ 1048576)
def OpenSpec.upto (s : _root_.Go.ChangeSpec) : _root_.Go.OpenSpec := { _root_.Go.OpenSpec.ofChange s with cond := some uptoSmall }

/-- 'sederuntlaw27.ConfigTolerates', WHERE WHAT IT READS IS OF BULK AT MOST 1048576: true; the input reads as it did. -/
def configToleratesUptoRow : OpenClaim := { program := "ytcnccoinhohbeaagreatdoor", sum := "5f2a370005a02630d6ae8f69e3c13b516bba9b031e07a764630b779ff41404d5", func := "sederunt/sederuntlaw27.ConfigTolerates", spec := "configTolerates", unfollowed := true, recurses := true, named := ["math/bits.deBruijn32tab"], apart := false, laid := [("math/bits.deBruijn32tab", laid_math_bits_deBruijn32tab)], narrowed := true }
def ConfigToleratesUptoSaid : Prop := configToleratesUptoRow.holds Tryz.pinned (OpenSpec.upto configToleratesSpec)

/-- 'sederuntlaw27.ConfigClash', WHERE WHAT IT READS IS OF BULK AT MOST 1048576: true; the input reads as it did. -/
def configClashUptoRow : OpenClaim := { program := "ytcnccoinhohbeaagreatdoor", sum := "5f2a370005a02630d6ae8f69e3c13b516bba9b031e07a764630b779ff41404d5", func := "sederunt/sederuntlaw27.ConfigClash", spec := "configClash", unfollowed := true, recurses := true, named := ["math/bits.deBruijn32tab"], apart := false, laid := [("math/bits.deBruijn32tab", laid_math_bits_deBruijn32tab)], narrowed := true }
def ConfigClashUptoSaid : Prop := configClashUptoRow.holds Tryz.pinned (OpenSpec.upto configClashSpec)

/-- 'sederuntlaw27.ConfigIsClash', WHERE WHAT IT READS IS OF BULK AT MOST 1048576: true; the input reads as it did. -/
def configIsClashUptoRow : OpenClaim := { program := "ytcnccoinhohbeaagreatdoor", sum := "5f2a370005a02630d6ae8f69e3c13b516bba9b031e07a764630b779ff41404d5", func := "sederunt/sederuntlaw27.ConfigIsClash", spec := "configIsClash", unfollowed := true, recurses := true, named := ["math/bits.deBruijn32tab"], apart := false, laid := [("math/bits.deBruijn32tab", laid_math_bits_deBruijn32tab)], narrowed := true }
def ConfigIsClashUptoSaid : Prop := configIsClashUptoRow.holds Tryz.pinned (OpenSpec.upto configIsClashSpec)

/-- 'sederuntlaw27.ConfigProve', WHERE WHAT IT READS IS OF BULK AT MOST 1048576: true; the input reads as it did. -/
def configProveUptoRow : OpenClaim := { program := "ytcnccoinhohbeaagreatdoor", sum := "5f2a370005a02630d6ae8f69e3c13b516bba9b031e07a764630b779ff41404d5", func := "sederunt/sederuntlaw27.ConfigProve", spec := "configProve", unfollowed := true, recurses := true, named := ["math/bits.deBruijn32tab"], apart := false, laid := [("math/bits.deBruijn32tab", laid_math_bits_deBruijn32tab)], narrowed := true }
def ConfigProveUptoSaid : Prop := configProveUptoRow.holds Tryz.pinned (OpenSpec.upto configProveSpec)

/-- 'sederuntlaw27.ConfigCheck', WHERE WHAT IT READS IS OF BULK AT MOST 1048576: true; the input reads as it did. -/
def configCheckUptoRow : OpenClaim := { program := "ytcnccoinhohbeaagreatdoor", sum := "5f2a370005a02630d6ae8f69e3c13b516bba9b031e07a764630b779ff41404d5", func := "sederunt/sederuntlaw27.ConfigCheck", spec := "configCheck", unfollowed := true, recurses := true, named := ["math/bits.deBruijn32tab"], apart := false, laid := [("math/bits.deBruijn32tab", laid_math_bits_deBruijn32tab)], narrowed := true }
def ConfigCheckUptoSaid : Prop := configCheckUptoRow.holds Tryz.pinned (OpenSpec.upto configCheckSpec)

/-- 'sederuntlaw27.ConfigWeaker', WHERE WHAT IT READS IS OF BULK AT MOST 1048576: true; the input reads as it did. -/
def configWeakerUptoRow : OpenClaim := { program := "ytcnccoinhohbeaagreatdoor", sum := "5f2a370005a02630d6ae8f69e3c13b516bba9b031e07a764630b779ff41404d5", func := "sederunt/sederuntlaw27.ConfigWeaker", spec := "configWeaker", unfollowed := true, recurses := true, named := ["math/bits.deBruijn32tab"], apart := false, laid := [("math/bits.deBruijn32tab", laid_math_bits_deBruijn32tab)], narrowed := true }
def ConfigWeakerUptoSaid : Prop := configWeakerUptoRow.holds Tryz.pinned (OpenSpec.upto configWeakerSpec)

end Rows
end Go.Proofs.YtcnccoinhohbeaaGreatDoor
