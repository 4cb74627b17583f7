/-
  NARROWER THAN 'FOR EVERY INPUT', by the rows' own cells (each row's printed sentence says how): ArgsReads: laid · ArgsNames: laid · ArgsOrder: laid · ArgsOperands: laid · ArgsKeeps: laid.
  DERIVED. THE GIVEN ROWS OF THIS SEAT. 5 by the template 'for every input the law returns true; each argument reads behind the call as it read before'; 0 by the template 'total and deterministic' (their statements: YtphiahlodjblcaaDoorTotals.lean).
  GIVEN WITH THE SEED: the statements are not yours to turn. If you find one false, say at which input.
  Laid BY PROGRAM, IN A SANDBOX (cutbox-rows.mjs): the forced cells as the released guide's own fill.sh prints them over the translation 262a6642af4bee8c… (all of the seat's roots in one cut). By AI agents, Wed Nov 11 2026. No macro, syntax, notation, axiom, sorry.
-/
import Derived.Test.YtphiahlodjblcaaDoorChecked
import GoSem.Claim
import GoSem.ClaimJoined
import GoSem.ClaimMapViews
import Derived.JoinedTies
import Derived.KernelRfl
namespace Go.Proofs.YtphiahlodjblcaaDoor
/- THE CELL 'sum', in the pinned program and in every row, IS THE sha256 OF THE DUMP (.gsa) THAT YtphiahlodjblcaaDoorProg.lean LOADS. Nothing in Lean hashes anything: it is a label: what it is worth is what the hold of that sum in a sandbox is worth. -/
noncomputable def Tryd.pinned : Pinned := { name := "ytphiahlodjblcaadoor", sum := "262a6642af4bee8c4b290e1601e52ecf7bfe60480b4c3c8c01684fb1694a4d40", checked := Tryd.checked }
namespace Rows
def none {H : Type} : Left H := { results := [], args := [] }

/- WHAT THE LISTED PACKAGE-LEVEL VARIABLES READ AS WHEN THE CALL BEGINS. Each datum BY PROGRAM (the guide's laid-datum.mjs) off the statement by which the dump's own 'gosem.cut.vars' lays the variable. In a bare row this is a premise. The card (YtphiahlodjblcaaDoorCards.lean) ties it to the program's text. -/
def laid_drayman_args_kinds {H : Type} : DataW H := .agg [.agg [.lit (.string []), .lit (.string []), .lit (.int .i64 0)], .agg [.lit (.string [109, 107, 100, 105, 114]), .lit (.string [112]), .lit (.int .i64 1)], .agg [.lit (.string [114, 109]), .lit (.string [82, 100, 102, 114]), .lit (.int .i64 1)], .agg [.lit (.string [108, 110]), .lit (.string [84, 102, 110, 115]), .lit (.int .i64 1)], .agg [.lit (.string [109, 118]), .lit (.string [84, 102, 110]), .lit (.int .i64 2)], .agg [.lit (.string [99, 112]), .lit (.string [80, 82, 84, 102, 110, 114]), .lit (.int .i64 2)]]

/-- 'draymanlaw17.ArgsReads': WHATEVER THE INPUT: true; the input reads as it did. -/
def argsReadsSpec : ChangeSpec := { name := "argsReads", fn := fun _ => fun
  | [d] => { results := [.lit (.bool true)], args := [d] }
  | _ => none }
def argsReadsRow : OpenClaim := { program := "ytphiahlodjblcaadoor", sum := "262a6642af4bee8c4b290e1601e52ecf7bfe60480b4c3c8c01684fb1694a4d40", func := "drayman/draymanlaw17.ArgsReads", spec := "argsReads", inPlace := ["internal/abi.NoEscape", "internal/bytealg.MakeNoZero", "internal/bytealg.IndexByteString"], recurses := true, named := ["drayman/args.kinds"], apart := false, laid := [("drayman/args.kinds", laid_drayman_args_kinds)] }
def ArgsReadsSaid : Prop := argsReadsRow.holds Tryd.pinned (OpenSpec.ofChange argsReadsSpec)

/-- ITS FALSE NEIGHBOUR: 'it returns false'. Refute it at one input. -/
def argsReadsWrong : ChangeSpec := { name := "argsReads", fn := fun _ => fun
  | [d] => { results := [.lit (.bool false)], args := [d] }
  | _ => none }
def ArgsReadsWrongFalsely : Prop := argsReadsRow.holds Tryd.pinned (OpenSpec.ofChange argsReadsWrong)

/-- 'draymanlaw17.ArgsNames': WHATEVER THE INPUT: true; the input reads as it did. -/
def argsNamesSpec : ChangeSpec := { name := "argsNames", fn := fun _ => fun
  | [d1, d2, d3] => { results := [.lit (.bool true)], args := [d1, d2, d3] }
  | _ => none }
def argsNamesRow : OpenClaim := { program := "ytphiahlodjblcaadoor", sum := "262a6642af4bee8c4b290e1601e52ecf7bfe60480b4c3c8c01684fb1694a4d40", func := "drayman/draymanlaw17.ArgsNames", spec := "argsNames", inPlace := ["internal/abi.NoEscape", "internal/bytealg.MakeNoZero", "internal/bytealg.IndexByteString"], recurses := true, named := ["drayman/args.kinds"], apart := false, laid := [("drayman/args.kinds", laid_drayman_args_kinds)] }
def ArgsNamesSaid : Prop := argsNamesRow.holds Tryd.pinned (OpenSpec.ofChange argsNamesSpec)

/-- ITS FALSE NEIGHBOUR: 'it returns false'. Refute it at one input. -/
def argsNamesWrong : ChangeSpec := { name := "argsNames", fn := fun _ => fun
  | [d1, d2, d3] => { results := [.lit (.bool false)], args := [d1, d2, d3] }
  | _ => none }
def ArgsNamesWrongFalsely : Prop := argsNamesRow.holds Tryd.pinned (OpenSpec.ofChange argsNamesWrong)

/-- 'draymanlaw17.ArgsOrder': WHATEVER THE INPUT: true; the input reads as it did. -/
def argsOrderSpec : ChangeSpec := { name := "argsOrder", fn := fun _ => fun
  | [d1, d2, d3] => { results := [.lit (.bool true)], args := [d1, d2, d3] }
  | _ => none }
def argsOrderRow : OpenClaim := { program := "ytphiahlodjblcaadoor", sum := "262a6642af4bee8c4b290e1601e52ecf7bfe60480b4c3c8c01684fb1694a4d40", func := "drayman/draymanlaw17.ArgsOrder", spec := "argsOrder", inPlace := ["internal/abi.NoEscape", "internal/bytealg.MakeNoZero", "internal/bytealg.IndexByteString"], recurses := true, named := ["drayman/args.kinds"], apart := false, laid := [("drayman/args.kinds", laid_drayman_args_kinds)] }
def ArgsOrderSaid : Prop := argsOrderRow.holds Tryd.pinned (OpenSpec.ofChange argsOrderSpec)

/-- ITS FALSE NEIGHBOUR: 'it returns false'. Refute it at one input. -/
def argsOrderWrong : ChangeSpec := { name := "argsOrder", fn := fun _ => fun
  | [d1, d2, d3] => { results := [.lit (.bool false)], args := [d1, d2, d3] }
  | _ => none }
def ArgsOrderWrongFalsely : Prop := argsOrderRow.holds Tryd.pinned (OpenSpec.ofChange argsOrderWrong)

/-- 'draymanlaw17.ArgsOperands': WHATEVER THE INPUT: true; the input reads as it did. -/
def argsOperandsSpec : ChangeSpec := { name := "argsOperands", fn := fun _ => fun
  | [d1, d2, d3] => { results := [.lit (.bool true)], args := [d1, d2, d3] }
  | _ => none }
def argsOperandsRow : OpenClaim := { program := "ytphiahlodjblcaadoor", sum := "262a6642af4bee8c4b290e1601e52ecf7bfe60480b4c3c8c01684fb1694a4d40", func := "drayman/draymanlaw17.ArgsOperands", spec := "argsOperands", inPlace := ["internal/abi.NoEscape", "internal/bytealg.MakeNoZero", "internal/bytealg.IndexByteString"], recurses := true, named := ["drayman/args.kinds"], apart := false, laid := [("drayman/args.kinds", laid_drayman_args_kinds)] }
def ArgsOperandsSaid : Prop := argsOperandsRow.holds Tryd.pinned (OpenSpec.ofChange argsOperandsSpec)

/-- ITS FALSE NEIGHBOUR: 'it returns false'. Refute it at one input. -/
def argsOperandsWrong : ChangeSpec := { name := "argsOperands", fn := fun _ => fun
  | [d1, d2, d3] => { results := [.lit (.bool false)], args := [d1, d2, d3] }
  | _ => none }
def ArgsOperandsWrongFalsely : Prop := argsOperandsRow.holds Tryd.pinned (OpenSpec.ofChange argsOperandsWrong)

/-- 'draymanlaw17.ArgsKeeps': WHATEVER THE INPUT: true; the input reads as it did. -/
def argsKeepsSpec : ChangeSpec := { name := "argsKeeps", fn := fun _ => fun
  | [d] => { results := [.lit (.bool true)], args := [d] }
  | _ => none }
def argsKeepsRow : OpenClaim := { program := "ytphiahlodjblcaadoor", sum := "262a6642af4bee8c4b290e1601e52ecf7bfe60480b4c3c8c01684fb1694a4d40", func := "drayman/draymanlaw17.ArgsKeeps", spec := "argsKeeps", inPlace := ["internal/abi.NoEscape", "internal/bytealg.MakeNoZero", "internal/bytealg.IndexByteString"], recurses := true, named := ["drayman/args.kinds"], apart := false, laid := [("drayman/args.kinds", laid_drayman_args_kinds)] }
def ArgsKeepsSaid : Prop := argsKeepsRow.holds Tryd.pinned (OpenSpec.ofChange argsKeepsSpec)

/-- ITS FALSE NEIGHBOUR: 'it returns false'. Refute it at one input. -/
def argsKeepsWrong : ChangeSpec := { name := "argsKeeps", fn := fun _ => fun
  | [d] => { results := [.lit (.bool false)], args := [d] }
  | _ => none }
def ArgsKeepsWrongFalsely : Prop := argsKeepsRow.holds Tryd.pinned (OpenSpec.ofChange argsKeepsWrong)

/- THE SECOND FORM. 'bulk': how many values and letters a reading holds, each counted each time it is reached (what is shared counts as often as it is met; a slice's spare places count too). A statement '..UptoSaid' is the law's where the arguments, and the package variables that the reading takes, are together of bulk at most 1048576: NARROWER than '..Said'. Prove '..Said' where nothing that the law and all that it calls make is longer than what came in: it says more and counts as full. Else prove '..UptoSaid'. A law counts once. -/
mutual
def uptoBulk {H : Type} : DataW H → Nat
  | .lit (.string bytes) => bytes.length + 1
  | .lit _ => 1
  | .nil => 1
  | .ptr d => uptoBulk d + 1
  | .slice elems spare => uptoBulkAll elems + uptoBulkAll spare + 1
  | .agg parts => uptoBulkAll parts + 1
  | .iface _ d => uptoBulk d + 1
  | .map entries => uptoBulkEntries entries + 1
  | .held _ => 1
def uptoBulkAll {H : Type} : List (DataW H) → Nat
  | [] => 0
  | d :: r => uptoBulk d + uptoBulkAll r
def uptoBulkEntries {H : Type} : List (Lit × DataW H) → Nat
  | [] => 0
  | x :: r => uptoBulkEntry x + uptoBulkEntries r
def uptoBulkEntry {H : Type} : Lit × DataW H → Nat
  | (.string bytes, d) => bytes.length + uptoBulk d + 1
  | (_, d) => uptoBulk d + 1
 end
def uptoSmall : (H : Type) → List (DataW H) → Bool := fun _ ds => decide (uptoBulkAll ds ≤ 1048576)
def OpenSpec.upto (s : _root_.Go.ChangeSpec) : _root_.Go.OpenSpec := { _root_.Go.OpenSpec.ofChange s with cond := some uptoSmall }

/-- 'draymanlaw17.ArgsReads', WHERE WHAT IT READS IS OF BULK AT MOST 1048576: true; the input reads as it did. -/
def argsReadsUptoRow : OpenClaim := { program := "ytphiahlodjblcaadoor", sum := "262a6642af4bee8c4b290e1601e52ecf7bfe60480b4c3c8c01684fb1694a4d40", func := "drayman/draymanlaw17.ArgsReads", spec := "argsReads", inPlace := ["internal/abi.NoEscape", "internal/bytealg.MakeNoZero", "internal/bytealg.IndexByteString"], recurses := true, named := ["drayman/args.kinds"], apart := false, laid := [("drayman/args.kinds", laid_drayman_args_kinds)], narrowed := true }
def ArgsReadsUptoSaid : Prop := argsReadsUptoRow.holds Tryd.pinned (OpenSpec.upto argsReadsSpec)

/-- 'draymanlaw17.ArgsNames', WHERE WHAT IT READS IS OF BULK AT MOST 1048576: true; the input reads as it did. -/
def argsNamesUptoRow : OpenClaim := { program := "ytphiahlodjblcaadoor", sum := "262a6642af4bee8c4b290e1601e52ecf7bfe60480b4c3c8c01684fb1694a4d40", func := "drayman/draymanlaw17.ArgsNames", spec := "argsNames", inPlace := ["internal/abi.NoEscape", "internal/bytealg.MakeNoZero", "internal/bytealg.IndexByteString"], recurses := true, named := ["drayman/args.kinds"], apart := false, laid := [("drayman/args.kinds", laid_drayman_args_kinds)], narrowed := true }
def ArgsNamesUptoSaid : Prop := argsNamesUptoRow.holds Tryd.pinned (OpenSpec.upto argsNamesSpec)

/-- 'draymanlaw17.ArgsOrder', WHERE WHAT IT READS IS OF BULK AT MOST 1048576: true; the input reads as it did. -/
def argsOrderUptoRow : OpenClaim := { program := "ytphiahlodjblcaadoor", sum := "262a6642af4bee8c4b290e1601e52ecf7bfe60480b4c3c8c01684fb1694a4d40", func := "drayman/draymanlaw17.ArgsOrder", spec := "argsOrder", inPlace := ["internal/abi.NoEscape", "internal/bytealg.MakeNoZero", "internal/bytealg.IndexByteString"], recurses := true, named := ["drayman/args.kinds"], apart := false, laid := [("drayman/args.kinds", laid_drayman_args_kinds)], narrowed := true }
def ArgsOrderUptoSaid : Prop := argsOrderUptoRow.holds Tryd.pinned (OpenSpec.upto argsOrderSpec)

/-- 'draymanlaw17.ArgsOperands', WHERE WHAT IT READS IS OF BULK AT MOST 1048576: true; the input reads as it did. -/
def argsOperandsUptoRow : OpenClaim := { program := "ytphiahlodjblcaadoor", sum := "262a6642af4bee8c4b290e1601e52ecf7bfe60480b4c3c8c01684fb1694a4d40", func := "drayman/draymanlaw17.ArgsOperands", spec := "argsOperands", inPlace := ["internal/abi.NoEscape", "internal/bytealg.MakeNoZero", "internal/bytealg.IndexByteString"], recurses := true, named := ["drayman/args.kinds"], apart := false, laid := [("drayman/args.kinds", laid_drayman_args_kinds)], narrowed := true }
def ArgsOperandsUptoSaid : Prop := argsOperandsUptoRow.holds Tryd.pinned (OpenSpec.upto argsOperandsSpec)

/-- 'draymanlaw17.ArgsKeeps', WHERE WHAT IT READS IS OF BULK AT MOST 1048576: true; the input reads as it did. -/
def argsKeepsUptoRow : OpenClaim := { program := "ytphiahlodjblcaadoor", sum := "262a6642af4bee8c4b290e1601e52ecf7bfe60480b4c3c8c01684fb1694a4d40", func := "drayman/draymanlaw17.ArgsKeeps", spec := "argsKeeps", inPlace := ["internal/abi.NoEscape", "internal/bytealg.MakeNoZero", "internal/bytealg.IndexByteString"], recurses := true, named := ["drayman/args.kinds"], apart := false, laid := [("drayman/args.kinds", laid_drayman_args_kinds)], narrowed := true }
def ArgsKeepsUptoSaid : Prop := argsKeepsUptoRow.holds Tryd.pinned (OpenSpec.upto argsKeepsSpec)

end Rows
end Go.Proofs.YtphiahlodjblcaaDoor
