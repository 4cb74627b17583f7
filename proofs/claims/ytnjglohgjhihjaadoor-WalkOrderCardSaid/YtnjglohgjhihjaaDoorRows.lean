/-
  NARROWER THAN 'FOR EVERY INPUT', by the rows' own cells (each row's printed sentence says how): WalkLists: laid · WalkPaths: laid · WalkLeft: laid · WalkOrder: laid · PathReads: laid · PathPuts: laid · PathMay: laid · PathPlain: laid · PathBack: laid · PathUnder: laid.
  DERIVED. THE GIVEN ROWS OF THIS SEAT. 10 by the template 'for every input the law returns true; each argument reads behind the call as it read before'; 0 by the template 'total and deterministic' (their statements: YtnjglohgjhihjaaDoorTotals.lean).
  GIVEN WITH THE SEED: the statements are not yours to turn. If you find one false, say at which input.
  Laid BY PROGRAM, IN A SANDBOX (cutbox-rows.mjs): the forced cells as the released guide's own fill.sh prints them over the translation eaf7b96c22c6304a… (all of the seat's roots in one cut). By AI agents, Wed Nov 11 2026. No macro, syntax, notation, axiom, sorry.
-/
import Derived.Test.YtnjglohgjhihjaaDoorChecked
import GoSem.PinnedTables
import GoSem.Claim
import GoSem.ClaimJoined
import GoSem.ClaimMapViews
import Derived.JoinedTies
import Derived.KernelRfl
namespace Go.Proofs.YtnjglohgjhihjaaDoor
/- THE CELL 'sum', in the pinned program and in every row, IS THE sha256 OF THE DUMP (.gsa) THAT YtnjglohgjhihjaaDoorProg.lean LOADS. Nothing in Lean hashes anything: it is a label: what it is worth is what the hold of that sum in a sandbox is worth. -/
noncomputable def Tryd.pinned : Pinned := { name := "ytnjglohgjhihjaadoor", sum := "eaf7b96c22c6304ac5bc8b4df11d15799e22ba5cb1e3bd489ae7eaf58ab5545e", checked := Tryd.checked }
namespace Rows
def none {H : Type} : Left H := { results := [], args := [] }

/- WHAT THE LISTED PACKAGE-LEVEL VARIABLES READ AS WHEN THE CALL BEGINS. Each datum BY PROGRAM (the guide's laid-datum.mjs) off the statement by which the dump's own 'gosem.cut.vars' lays the variable. In a bare row this is a premise. The card (YtnjglohgjhihjaaDoorCards.lean) ties it to the program's text. -/
def laid_unicode_utf8_acceptRanges {H : Type} : DataW H := .agg [.agg [.lit (.int .u8 128), .lit (.int .u8 191)], .agg [.lit (.int .u8 160), .lit (.int .u8 191)], .agg [.lit (.int .u8 128), .lit (.int .u8 159)], .agg [.lit (.int .u8 144), .lit (.int .u8 191)], .agg [.lit (.int .u8 128), .lit (.int .u8 143)], .agg [.lit (.int .u8 0), .lit (.int .u8 0)], .agg [.lit (.int .u8 0), .lit (.int .u8 0)], .agg [.lit (.int .u8 0), .lit (.int .u8 0)], .agg [.lit (.int .u8 0), .lit (.int .u8 0)], .agg [.lit (.int .u8 0), .lit (.int .u8 0)], .agg [.lit (.int .u8 0), .lit (.int .u8 0)], .agg [.lit (.int .u8 0), .lit (.int .u8 0)], .agg [.lit (.int .u8 0), .lit (.int .u8 0)], .agg [.lit (.int .u8 0), .lit (.int .u8 0)], .agg [.lit (.int .u8 0), .lit (.int .u8 0)], .agg [.lit (.int .u8 0), .lit (.int .u8 0)]]
/-- One of Go's own tables, pinned by name: the form's constant. -/
def laid_unicode_utf8_first : DataW Unit := Go.Pinned.utf8First

/-- 'draymanlaw08.WalkLists': WHATEVER THE INPUT: true; the input reads as it did. -/
def walkListsSpec : ChangeSpec := { name := "walkLists", fn := fun _ => fun
  | [d1, d2, d3] => { results := [.lit (.bool true)], args := [d1, d2, d3] }
  | _ => none }
def walkListsRow : OpenClaim := { program := "ytnjglohgjhihjaadoor", sum := "eaf7b96c22c6304ac5bc8b4df11d15799e22ba5cb1e3bd489ae7eaf58ab5545e", func := "drayman/draymanlaw08.WalkLists", spec := "walkLists", inPlace := ["internal/bytealg.IndexByteString", "internal/bytealg.IndexString", "internal/abi.NoEscape", "internal/bytealg.MakeNoZero"], unfollowed := true, recurses := true, named := ["unicode/utf8.first", "unicode/utf8.acceptRanges", "internal/bytealg.MaxLen"], apart := false, laid := [("unicode/utf8.acceptRanges", laid_unicode_utf8_acceptRanges), ("unicode/utf8.first", laid_unicode_utf8_first)] }
def WalkListsSaid : Prop := walkListsRow.holds Tryd.pinned (OpenSpec.ofChange walkListsSpec)

/-- ITS FALSE NEIGHBOUR: 'it returns false'. Refute it at one input. -/
def walkListsWrong : ChangeSpec := { name := "walkLists", fn := fun _ => fun
  | [d1, d2, d3] => { results := [.lit (.bool false)], args := [d1, d2, d3] }
  | _ => none }
def WalkListsWrongFalsely : Prop := walkListsRow.holds Tryd.pinned (OpenSpec.ofChange walkListsWrong)

/-- 'draymanlaw08.WalkPaths': WHATEVER THE INPUT: true; the input reads as it did. -/
def walkPathsSpec : ChangeSpec := { name := "walkPaths", fn := fun _ => fun
  | [d1, d2] => { results := [.lit (.bool true)], args := [d1, d2] }
  | _ => none }
def walkPathsRow : OpenClaim := { program := "ytnjglohgjhihjaadoor", sum := "eaf7b96c22c6304ac5bc8b4df11d15799e22ba5cb1e3bd489ae7eaf58ab5545e", func := "drayman/draymanlaw08.WalkPaths", spec := "walkPaths", inPlace := ["internal/bytealg.IndexByteString", "internal/bytealg.IndexString", "internal/abi.NoEscape", "internal/bytealg.MakeNoZero"], unfollowed := true, recurses := true, named := ["unicode/utf8.first", "unicode/utf8.acceptRanges", "internal/bytealg.MaxLen"], apart := false, laid := [("unicode/utf8.acceptRanges", laid_unicode_utf8_acceptRanges), ("unicode/utf8.first", laid_unicode_utf8_first)] }
def WalkPathsSaid : Prop := walkPathsRow.holds Tryd.pinned (OpenSpec.ofChange walkPathsSpec)

/-- ITS FALSE NEIGHBOUR: 'it returns false'. Refute it at one input. -/
def walkPathsWrong : ChangeSpec := { name := "walkPaths", fn := fun _ => fun
  | [d1, d2] => { results := [.lit (.bool false)], args := [d1, d2] }
  | _ => none }
def WalkPathsWrongFalsely : Prop := walkPathsRow.holds Tryd.pinned (OpenSpec.ofChange walkPathsWrong)

/-- 'draymanlaw08.WalkLeft': WHATEVER THE INPUT: true; the input reads as it did. -/
def walkLeftSpec : ChangeSpec := { name := "walkLeft", fn := fun _ => fun
  | [d1, d2] => { results := [.lit (.bool true)], args := [d1, d2] }
  | _ => none }
def walkLeftRow : OpenClaim := { program := "ytnjglohgjhihjaadoor", sum := "eaf7b96c22c6304ac5bc8b4df11d15799e22ba5cb1e3bd489ae7eaf58ab5545e", func := "drayman/draymanlaw08.WalkLeft", spec := "walkLeft", inPlace := ["internal/bytealg.IndexByteString", "internal/bytealg.IndexString", "internal/abi.NoEscape", "internal/bytealg.MakeNoZero"], unfollowed := true, recurses := true, named := ["unicode/utf8.first", "unicode/utf8.acceptRanges", "internal/bytealg.MaxLen"], apart := false, laid := [("unicode/utf8.acceptRanges", laid_unicode_utf8_acceptRanges), ("unicode/utf8.first", laid_unicode_utf8_first)] }
def WalkLeftSaid : Prop := walkLeftRow.holds Tryd.pinned (OpenSpec.ofChange walkLeftSpec)

/-- ITS FALSE NEIGHBOUR: 'it returns false'. Refute it at one input. -/
def walkLeftWrong : ChangeSpec := { name := "walkLeft", fn := fun _ => fun
  | [d1, d2] => { results := [.lit (.bool false)], args := [d1, d2] }
  | _ => none }
def WalkLeftWrongFalsely : Prop := walkLeftRow.holds Tryd.pinned (OpenSpec.ofChange walkLeftWrong)

/-- 'draymanlaw08.WalkOrder': WHATEVER THE INPUT: true; the input reads as it did. -/
def walkOrderSpec : ChangeSpec := { name := "walkOrder", fn := fun _ => fun
  | [d] => { results := [.lit (.bool true)], args := [d] }
  | _ => none }
def walkOrderRow : OpenClaim := { program := "ytnjglohgjhihjaadoor", sum := "eaf7b96c22c6304ac5bc8b4df11d15799e22ba5cb1e3bd489ae7eaf58ab5545e", func := "drayman/draymanlaw08.WalkOrder", spec := "walkOrder", inPlace := ["internal/bytealg.IndexByteString", "internal/bytealg.IndexString", "internal/abi.NoEscape", "internal/bytealg.MakeNoZero"], unfollowed := true, recurses := true, named := ["unicode/utf8.first", "unicode/utf8.acceptRanges", "internal/bytealg.MaxLen"], apart := false, laid := [("unicode/utf8.acceptRanges", laid_unicode_utf8_acceptRanges), ("unicode/utf8.first", laid_unicode_utf8_first)] }
def WalkOrderSaid : Prop := walkOrderRow.holds Tryd.pinned (OpenSpec.ofChange walkOrderSpec)

/-- ITS FALSE NEIGHBOUR: 'it returns false'. Refute it at one input. -/
def walkOrderWrong : ChangeSpec := { name := "walkOrder", fn := fun _ => fun
  | [d] => { results := [.lit (.bool false)], args := [d] }
  | _ => none }
def WalkOrderWrongFalsely : Prop := walkOrderRow.holds Tryd.pinned (OpenSpec.ofChange walkOrderWrong)

/-- 'draymanlaw03.PathReads': WHATEVER THE INPUT: true; the input reads as it did. -/
def pathReadsSpec : ChangeSpec := { name := "pathReads", fn := fun _ => fun
  | [d] => { results := [.lit (.bool true)], args := [d] }
  | _ => none }
def pathReadsRow : OpenClaim := { program := "ytnjglohgjhihjaadoor", sum := "eaf7b96c22c6304ac5bc8b4df11d15799e22ba5cb1e3bd489ae7eaf58ab5545e", func := "drayman/draymanlaw03.PathReads", spec := "pathReads", inPlace := ["internal/bytealg.IndexByteString", "internal/bytealg.IndexString", "internal/abi.NoEscape", "internal/bytealg.MakeNoZero"], unfollowed := true, recurses := true, named := ["unicode/utf8.first", "unicode/utf8.acceptRanges", "internal/bytealg.MaxLen"], apart := false, laid := [("unicode/utf8.acceptRanges", laid_unicode_utf8_acceptRanges), ("unicode/utf8.first", laid_unicode_utf8_first)] }
def PathReadsSaid : Prop := pathReadsRow.holds Tryd.pinned (OpenSpec.ofChange pathReadsSpec)

/-- ITS FALSE NEIGHBOUR: 'it returns false'. Refute it at one input. -/
def pathReadsWrong : ChangeSpec := { name := "pathReads", fn := fun _ => fun
  | [d] => { results := [.lit (.bool false)], args := [d] }
  | _ => none }
def PathReadsWrongFalsely : Prop := pathReadsRow.holds Tryd.pinned (OpenSpec.ofChange pathReadsWrong)

/-- 'draymanlaw03.PathPuts': WHATEVER THE INPUT: true; the input reads as it did. -/
def pathPutsSpec : ChangeSpec := { name := "pathPuts", fn := fun _ => fun
  | [d] => { results := [.lit (.bool true)], args := [d] }
  | _ => none }
def pathPutsRow : OpenClaim := { program := "ytnjglohgjhihjaadoor", sum := "eaf7b96c22c6304ac5bc8b4df11d15799e22ba5cb1e3bd489ae7eaf58ab5545e", func := "drayman/draymanlaw03.PathPuts", spec := "pathPuts", inPlace := ["internal/bytealg.IndexByteString", "internal/bytealg.IndexString", "internal/abi.NoEscape", "internal/bytealg.MakeNoZero"], unfollowed := true, recurses := true, named := ["unicode/utf8.first", "unicode/utf8.acceptRanges", "internal/bytealg.MaxLen"], apart := false, laid := [("unicode/utf8.acceptRanges", laid_unicode_utf8_acceptRanges), ("unicode/utf8.first", laid_unicode_utf8_first)] }
def PathPutsSaid : Prop := pathPutsRow.holds Tryd.pinned (OpenSpec.ofChange pathPutsSpec)

/-- ITS FALSE NEIGHBOUR: 'it returns false'. Refute it at one input. -/
def pathPutsWrong : ChangeSpec := { name := "pathPuts", fn := fun _ => fun
  | [d] => { results := [.lit (.bool false)], args := [d] }
  | _ => none }
def PathPutsWrongFalsely : Prop := pathPutsRow.holds Tryd.pinned (OpenSpec.ofChange pathPutsWrong)

/-- 'draymanlaw03.PathMay': WHATEVER THE INPUT: true; the input reads as it did. -/
def pathMaySpec : ChangeSpec := { name := "pathMay", fn := fun _ => fun
  | [d1, d2] => { results := [.lit (.bool true)], args := [d1, d2] }
  | _ => none }
def pathMayRow : OpenClaim := { program := "ytnjglohgjhihjaadoor", sum := "eaf7b96c22c6304ac5bc8b4df11d15799e22ba5cb1e3bd489ae7eaf58ab5545e", func := "drayman/draymanlaw03.PathMay", spec := "pathMay", inPlace := ["internal/bytealg.IndexByteString", "internal/bytealg.IndexString", "internal/abi.NoEscape", "internal/bytealg.MakeNoZero"], unfollowed := true, recurses := true, named := ["unicode/utf8.first", "unicode/utf8.acceptRanges", "internal/bytealg.MaxLen"], apart := false, laid := [("unicode/utf8.acceptRanges", laid_unicode_utf8_acceptRanges), ("unicode/utf8.first", laid_unicode_utf8_first)] }
def PathMaySaid : Prop := pathMayRow.holds Tryd.pinned (OpenSpec.ofChange pathMaySpec)

/-- ITS FALSE NEIGHBOUR: 'it returns false'. Refute it at one input. -/
def pathMayWrong : ChangeSpec := { name := "pathMay", fn := fun _ => fun
  | [d1, d2] => { results := [.lit (.bool false)], args := [d1, d2] }
  | _ => none }
def PathMayWrongFalsely : Prop := pathMayRow.holds Tryd.pinned (OpenSpec.ofChange pathMayWrong)

/-- 'draymanlaw03.PathPlain': WHATEVER THE INPUT: true; the input reads as it did. -/
def pathPlainSpec : ChangeSpec := { name := "pathPlain", fn := fun _ => fun
  | [d1, d2] => { results := [.lit (.bool true)], args := [d1, d2] }
  | _ => none }
def pathPlainRow : OpenClaim := { program := "ytnjglohgjhihjaadoor", sum := "eaf7b96c22c6304ac5bc8b4df11d15799e22ba5cb1e3bd489ae7eaf58ab5545e", func := "drayman/draymanlaw03.PathPlain", spec := "pathPlain", inPlace := ["internal/bytealg.IndexByteString", "internal/bytealg.IndexString", "internal/abi.NoEscape", "internal/bytealg.MakeNoZero"], unfollowed := true, recurses := true, named := ["unicode/utf8.first", "unicode/utf8.acceptRanges", "internal/bytealg.MaxLen"], apart := false, laid := [("unicode/utf8.acceptRanges", laid_unicode_utf8_acceptRanges), ("unicode/utf8.first", laid_unicode_utf8_first)] }
def PathPlainSaid : Prop := pathPlainRow.holds Tryd.pinned (OpenSpec.ofChange pathPlainSpec)

/-- ITS FALSE NEIGHBOUR: 'it returns false'. Refute it at one input. -/
def pathPlainWrong : ChangeSpec := { name := "pathPlain", fn := fun _ => fun
  | [d1, d2] => { results := [.lit (.bool false)], args := [d1, d2] }
  | _ => none }
def PathPlainWrongFalsely : Prop := pathPlainRow.holds Tryd.pinned (OpenSpec.ofChange pathPlainWrong)

/-- 'draymanlaw03.PathBack': WHATEVER THE INPUT: true; the input reads as it did. -/
def pathBackSpec : ChangeSpec := { name := "pathBack", fn := fun _ => fun
  | [d1, d2] => { results := [.lit (.bool true)], args := [d1, d2] }
  | _ => none }
def pathBackRow : OpenClaim := { program := "ytnjglohgjhihjaadoor", sum := "eaf7b96c22c6304ac5bc8b4df11d15799e22ba5cb1e3bd489ae7eaf58ab5545e", func := "drayman/draymanlaw03.PathBack", spec := "pathBack", inPlace := ["internal/bytealg.IndexByteString", "internal/bytealg.IndexString", "internal/abi.NoEscape", "internal/bytealg.MakeNoZero"], unfollowed := true, recurses := true, named := ["unicode/utf8.first", "unicode/utf8.acceptRanges", "internal/bytealg.MaxLen"], apart := false, laid := [("unicode/utf8.acceptRanges", laid_unicode_utf8_acceptRanges), ("unicode/utf8.first", laid_unicode_utf8_first)] }
def PathBackSaid : Prop := pathBackRow.holds Tryd.pinned (OpenSpec.ofChange pathBackSpec)

/-- ITS FALSE NEIGHBOUR: 'it returns false'. Refute it at one input. -/
def pathBackWrong : ChangeSpec := { name := "pathBack", fn := fun _ => fun
  | [d1, d2] => { results := [.lit (.bool false)], args := [d1, d2] }
  | _ => none }
def PathBackWrongFalsely : Prop := pathBackRow.holds Tryd.pinned (OpenSpec.ofChange pathBackWrong)

/-- 'draymanlaw03.PathUnder': WHATEVER THE INPUT: true; the input reads as it did. -/
def pathUnderSpec : ChangeSpec := { name := "pathUnder", fn := fun _ => fun
  | [d1, d2] => { results := [.lit (.bool true)], args := [d1, d2] }
  | _ => none }
def pathUnderRow : OpenClaim := { program := "ytnjglohgjhihjaadoor", sum := "eaf7b96c22c6304ac5bc8b4df11d15799e22ba5cb1e3bd489ae7eaf58ab5545e", func := "drayman/draymanlaw03.PathUnder", spec := "pathUnder", inPlace := ["internal/bytealg.IndexByteString", "internal/bytealg.IndexString", "internal/abi.NoEscape", "internal/bytealg.MakeNoZero"], unfollowed := true, recurses := true, named := ["unicode/utf8.first", "unicode/utf8.acceptRanges", "internal/bytealg.MaxLen"], apart := false, laid := [("unicode/utf8.acceptRanges", laid_unicode_utf8_acceptRanges), ("unicode/utf8.first", laid_unicode_utf8_first)] }
def PathUnderSaid : Prop := pathUnderRow.holds Tryd.pinned (OpenSpec.ofChange pathUnderSpec)

/-- ITS FALSE NEIGHBOUR: 'it returns false'. Refute it at one input. -/
def pathUnderWrong : ChangeSpec := { name := "pathUnder", fn := fun _ => fun
  | [d1, d2] => { results := [.lit (.bool false)], args := [d1, d2] }
  | _ => none }
def PathUnderWrongFalsely : Prop := pathUnderRow.holds Tryd.pinned (OpenSpec.ofChange pathUnderWrong)

/- THE SECOND FORM. 'bulk': how many values and letters a reading holds, each counted each time it is reached (what is shared counts as often as it is met; a slice's spare places count too). A statement '..UptoSaid' is the law's where the arguments, and the package variables that the reading takes, are together of bulk at most 1048576: NARROWER than '..Said'. Prove '..Said' where nothing that the law and all that it calls make is longer than what came in: it says more and counts as full. Else prove '..UptoSaid'. A law counts once. -/
mutual
def uptoBulk {H : Type} : DataW H → Nat
  | .lit (.string bytes) => bytes.length + 1
  | .lit _ => 1
  | .nil => 1
  | .ptr d => uptoBulk d + 1
  | .slice elems spare => uptoBulkAll elems + uptoBulkAll spare + 1
  | .agg parts => uptoBulkAll parts + 1
  | .iface _ d => uptoBulk d + 1
  | .map entries => uptoBulkEntries entries + 1
  | .held _ => 1
def uptoBulkAll {H : Type} : List (DataW H) → Nat
  | [] => 0
  | d :: r => uptoBulk d + uptoBulkAll r
def uptoBulkEntries {H : Type} : List (Lit × DataW H) → Nat
  | [] => 0
  | x :: r => uptoBulkEntry x + uptoBulkEntries r
def uptoBulkEntry {H : Type} : Lit × DataW H → Nat
  | (.string bytes, d) => bytes.length + uptoBulk d + 1
  | (_, d) => uptoBulk d + 1
 end
def uptoSmall : (H : Type) → List (DataW H) → Bool := fun _ ds => decide (uptoBulkAll ds ≤ 1048576)
def OpenSpec.upto (s : _root_.Go.ChangeSpec) : _root_.Go.OpenSpec := { _root_.Go.OpenSpec.ofChange s with cond := some uptoSmall }

/-- 'draymanlaw08.WalkLists', WHERE WHAT IT READS IS OF BULK AT MOST 1048576: true; the input reads as it did. -/
def walkListsUptoRow : OpenClaim := { program := "ytnjglohgjhihjaadoor", sum := "eaf7b96c22c6304ac5bc8b4df11d15799e22ba5cb1e3bd489ae7eaf58ab5545e", func := "drayman/draymanlaw08.WalkLists", spec := "walkLists", inPlace := ["internal/bytealg.IndexByteString", "internal/bytealg.IndexString", "internal/abi.NoEscape", "internal/bytealg.MakeNoZero"], unfollowed := true, recurses := true, named := ["unicode/utf8.first", "unicode/utf8.acceptRanges", "internal/bytealg.MaxLen"], apart := false, laid := [("unicode/utf8.acceptRanges", laid_unicode_utf8_acceptRanges), ("unicode/utf8.first", laid_unicode_utf8_first)], narrowed := true }
def WalkListsUptoSaid : Prop := walkListsUptoRow.holds Tryd.pinned (OpenSpec.upto walkListsSpec)

/-- 'draymanlaw08.WalkPaths', WHERE WHAT IT READS IS OF BULK AT MOST 1048576: true; the input reads as it did. -/
def walkPathsUptoRow : OpenClaim := { program := "ytnjglohgjhihjaadoor", sum := "eaf7b96c22c6304ac5bc8b4df11d15799e22ba5cb1e3bd489ae7eaf58ab5545e", func := "drayman/draymanlaw08.WalkPaths", spec := "walkPaths", inPlace := ["internal/bytealg.IndexByteString", "internal/bytealg.IndexString", "internal/abi.NoEscape", "internal/bytealg.MakeNoZero"], unfollowed := true, recurses := true, named := ["unicode/utf8.first", "unicode/utf8.acceptRanges", "internal/bytealg.MaxLen"], apart := false, laid := [("unicode/utf8.acceptRanges", laid_unicode_utf8_acceptRanges), ("unicode/utf8.first", laid_unicode_utf8_first)], narrowed := true }
def WalkPathsUptoSaid : Prop := walkPathsUptoRow.holds Tryd.pinned (OpenSpec.upto walkPathsSpec)

/-- 'draymanlaw08.WalkLeft', WHERE WHAT IT READS IS OF BULK AT MOST 1048576: true; the input reads as it did. -/
def walkLeftUptoRow : OpenClaim := { program := "ytnjglohgjhihjaadoor", sum := "eaf7b96c22c6304ac5bc8b4df11d15799e22ba5cb1e3bd489ae7eaf58ab5545e", func := "drayman/draymanlaw08.WalkLeft", spec := "walkLeft", inPlace := ["internal/bytealg.IndexByteString", "internal/bytealg.IndexString", "internal/abi.NoEscape", "internal/bytealg.MakeNoZero"], unfollowed := true, recurses := true, named := ["unicode/utf8.first", "unicode/utf8.acceptRanges", "internal/bytealg.MaxLen"], apart := false, laid := [("unicode/utf8.acceptRanges", laid_unicode_utf8_acceptRanges), ("unicode/utf8.first", laid_unicode_utf8_first)], narrowed := true }
def WalkLeftUptoSaid : Prop := walkLeftUptoRow.holds Tryd.pinned (OpenSpec.upto walkLeftSpec)

/-- 'draymanlaw08.WalkOrder', WHERE WHAT IT READS IS OF BULK AT MOST 1048576: true; the input reads as it did. -/
def walkOrderUptoRow : OpenClaim := { program := "ytnjglohgjhihjaadoor", sum := "eaf7b96c22c6304ac5bc8b4df11d15799e22ba5cb1e3bd489ae7eaf58ab5545e", func := "drayman/draymanlaw08.WalkOrder", spec := "walkOrder", inPlace := ["internal/bytealg.IndexByteString", "internal/bytealg.IndexString", "internal/abi.NoEscape", "internal/bytealg.MakeNoZero"], unfollowed := true, recurses := true, named := ["unicode/utf8.first", "unicode/utf8.acceptRanges", "internal/bytealg.MaxLen"], apart := false, laid := [("unicode/utf8.acceptRanges", laid_unicode_utf8_acceptRanges), ("unicode/utf8.first", laid_unicode_utf8_first)], narrowed := true }
def WalkOrderUptoSaid : Prop := walkOrderUptoRow.holds Tryd.pinned (OpenSpec.upto walkOrderSpec)

/-- 'draymanlaw03.PathReads', WHERE WHAT IT READS IS OF BULK AT MOST 1048576: true; the input reads as it did. -/
def pathReadsUptoRow : OpenClaim := { program := "ytnjglohgjhihjaadoor", sum := "eaf7b96c22c6304ac5bc8b4df11d15799e22ba5cb1e3bd489ae7eaf58ab5545e", func := "drayman/draymanlaw03.PathReads", spec := "pathReads", inPlace := ["internal/bytealg.IndexByteString", "internal/bytealg.IndexString", "internal/abi.NoEscape", "internal/bytealg.MakeNoZero"], unfollowed := true, recurses := true, named := ["unicode/utf8.first", "unicode/utf8.acceptRanges", "internal/bytealg.MaxLen"], apart := false, laid := [("unicode/utf8.acceptRanges", laid_unicode_utf8_acceptRanges), ("unicode/utf8.first", laid_unicode_utf8_first)], narrowed := true }
def PathReadsUptoSaid : Prop := pathReadsUptoRow.holds Tryd.pinned (OpenSpec.upto pathReadsSpec)

/-- 'draymanlaw03.PathPuts', WHERE WHAT IT READS IS OF BULK AT MOST 1048576: true; the input reads as it did. -/
def pathPutsUptoRow : OpenClaim := { program := "ytnjglohgjhihjaadoor", sum := "eaf7b96c22c6304ac5bc8b4df11d15799e22ba5cb1e3bd489ae7eaf58ab5545e", func := "drayman/draymanlaw03.PathPuts", spec := "pathPuts", inPlace := ["internal/bytealg.IndexByteString", "internal/bytealg.IndexString", "internal/abi.NoEscape", "internal/bytealg.MakeNoZero"], unfollowed := true, recurses := true, named := ["unicode/utf8.first", "unicode/utf8.acceptRanges", "internal/bytealg.MaxLen"], apart := false, laid := [("unicode/utf8.acceptRanges", laid_unicode_utf8_acceptRanges), ("unicode/utf8.first", laid_unicode_utf8_first)], narrowed := true }
def PathPutsUptoSaid : Prop := pathPutsUptoRow.holds Tryd.pinned (OpenSpec.upto pathPutsSpec)

/-- 'draymanlaw03.PathMay', WHERE WHAT IT READS IS OF BULK AT MOST 1048576: true; the input reads as it did. -/
def pathMayUptoRow : OpenClaim := { program := "ytnjglohgjhihjaadoor", sum := "eaf7b96c22c6304ac5bc8b4df11d15799e22ba5cb1e3bd489ae7eaf58ab5545e", func := "drayman/draymanlaw03.PathMay", spec := "pathMay", inPlace := ["internal/bytealg.IndexByteString", "internal/bytealg.IndexString", "internal/abi.NoEscape", "internal/bytealg.MakeNoZero"], unfollowed := true, recurses := true, named := ["unicode/utf8.first", "unicode/utf8.acceptRanges", "internal/bytealg.MaxLen"], apart := false, laid := [("unicode/utf8.acceptRanges", laid_unicode_utf8_acceptRanges), ("unicode/utf8.first", laid_unicode_utf8_first)], narrowed := true }
def PathMayUptoSaid : Prop := pathMayUptoRow.holds Tryd.pinned (OpenSpec.upto pathMaySpec)

/-- 'draymanlaw03.PathPlain', WHERE WHAT IT READS IS OF BULK AT MOST 1048576: true; the input reads as it did. -/
def pathPlainUptoRow : OpenClaim := { program := "ytnjglohgjhihjaadoor", sum := "eaf7b96c22c6304ac5bc8b4df11d15799e22ba5cb1e3bd489ae7eaf58ab5545e", func := "drayman/draymanlaw03.PathPlain", spec := "pathPlain", inPlace := ["internal/bytealg.IndexByteString", "internal/bytealg.IndexString", "internal/abi.NoEscape", "internal/bytealg.MakeNoZero"], unfollowed := true, recurses := true, named := ["unicode/utf8.first", "unicode/utf8.acceptRanges", "internal/bytealg.MaxLen"], apart := false, laid := [("unicode/utf8.acceptRanges", laid_unicode_utf8_acceptRanges), ("unicode/utf8.first", laid_unicode_utf8_first)], narrowed := true }
def PathPlainUptoSaid : Prop := pathPlainUptoRow.holds Tryd.pinned (OpenSpec.upto pathPlainSpec)

/-- 'draymanlaw03.PathBack', WHERE WHAT IT READS IS OF BULK AT MOST 1048576: true; the input reads as it did. -/
def pathBackUptoRow : OpenClaim := { program := "ytnjglohgjhihjaadoor", sum := "eaf7b96c22c6304ac5bc8b4df11d15799e22ba5cb1e3bd489ae7eaf58ab5545e", func := "drayman/draymanlaw03.PathBack", spec := "pathBack", inPlace := ["internal/bytealg.IndexByteString", "internal/bytealg.IndexString", "internal/abi.NoEscape", "internal/bytealg.MakeNoZero"], unfollowed := true, recurses := true, named := ["unicode/utf8.first", "unicode/utf8.acceptRanges", "internal/bytealg.MaxLen"], apart := false, laid := [("unicode/utf8.acceptRanges", laid_unicode_utf8_acceptRanges), ("unicode/utf8.first", laid_unicode_utf8_first)], narrowed := true }
def PathBackUptoSaid : Prop := pathBackUptoRow.holds Tryd.pinned (OpenSpec.upto pathBackSpec)

/-- 'draymanlaw03.PathUnder', WHERE WHAT IT READS IS OF BULK AT MOST 1048576: true; the input reads as it did. -/
def pathUnderUptoRow : OpenClaim := { program := "ytnjglohgjhihjaadoor", sum := "eaf7b96c22c6304ac5bc8b4df11d15799e22ba5cb1e3bd489ae7eaf58ab5545e", func := "drayman/draymanlaw03.PathUnder", spec := "pathUnder", inPlace := ["internal/bytealg.IndexByteString", "internal/bytealg.IndexString", "internal/abi.NoEscape", "internal/bytealg.MakeNoZero"], unfollowed := true, recurses := true, named := ["unicode/utf8.first", "unicode/utf8.acceptRanges", "internal/bytealg.MaxLen"], apart := false, laid := [("unicode/utf8.acceptRanges", laid_unicode_utf8_acceptRanges), ("unicode/utf8.first", laid_unicode_utf8_first)], narrowed := true }
def PathUnderUptoSaid : Prop := pathUnderUptoRow.holds Tryd.pinned (OpenSpec.upto pathUnderSpec)

end Rows
end Go.Proofs.YtnjglohgjhihjaaDoor
