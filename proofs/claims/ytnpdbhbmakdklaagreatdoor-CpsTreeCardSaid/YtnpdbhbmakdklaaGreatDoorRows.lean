/-
  NARROWER THAN 'FOR EVERY INPUT', by the rows' own cells (each row's printed sentence says how): MvsTrue: laid · MvsLeads: laid · MvsBelow: laid · MvsStays: laid · CpsTree: laid · CpsStays: laid.
  DERIVED. THE GIVEN ROWS OF THIS SEAT. 6 by the template 'for every input the law returns true; each argument reads behind the call as it read before'; 0 by the template 'total and deterministic' (their statements: YtnpdbhbmakdklaaGreatDoorTotals.lean).
  GIVEN WITH THE SEED: the statements are not yours to turn. If you find one false, say at which input.
  Laid BY PROGRAM, IN A SANDBOX (cutbox-rows.mjs): the forced cells as the released guide's own fill.sh prints them over the translation 22b2193ddc39fd00… (all of the seat's roots in one cut). By AI agents, Wed Nov 11 2026. No macro, syntax, notation, axiom, sorry.
-/
import Derived.Test.YtnpdbhbmakdklaaGreatDoorChecked
import GoSem.PinnedTables
import GoSem.Claim
import GoSem.ClaimJoined
import GoSem.ClaimMapViews
import Derived.JoinedTies
import Derived.KernelRfl
namespace Go.Proofs.YtnpdbhbmakdklaaGreatDoor
/- THE CELL 'sum', in the pinned program and in every row, IS THE sha256 OF THE DUMP (.gsa) THAT YtnpdbhbmakdklaaGreatDoorProg.lean LOADS. Nothing in Lean hashes anything: it is a label: what it is worth is what the hold of that sum in a sandbox is worth. -/
noncomputable def Tryz.pinned : Pinned := { name := "ytnpdbhbmakdklaagreatdoor", sum := "22b2193ddc39fd008024b9a32f506b9771e29be67785fadbd757fcc77f1d4dbb", checked := Tryz.checked }
namespace Rows
def none {H : Type} : Left H := { results := [], args := [] }

/- WHAT THE LISTED PACKAGE-LEVEL VARIABLES READ AS WHEN THE CALL BEGINS. Each datum BY PROGRAM (the guide's laid-datum.mjs) off the statement by which the dump's own 'gosem.cut.vars' lays the variable. In a bare row this is a premise. The card (YtnpdbhbmakdklaaGreatDoorCards.lean) ties it to the program's text. -/
def laid_unicode_utf8_acceptRanges {H : Type} : DataW H := .agg [.agg [.lit (.int .u8 128), .lit (.int .u8 191)], .agg [.lit (.int .u8 160), .lit (.int .u8 191)], .agg [.lit (.int .u8 128), .lit (.int .u8 159)], .agg [.lit (.int .u8 144), .lit (.int .u8 191)], .agg [.lit (.int .u8 128), .lit (.int .u8 143)], .agg [.lit (.int .u8 0), .lit (.int .u8 0)], .agg [.lit (.int .u8 0), .lit (.int .u8 0)], .agg [.lit (.int .u8 0), .lit (.int .u8 0)], .agg [.lit (.int .u8 0), .lit (.int .u8 0)], .agg [.lit (.int .u8 0), .lit (.int .u8 0)], .agg [.lit (.int .u8 0), .lit (.int .u8 0)], .agg [.lit (.int .u8 0), .lit (.int .u8 0)], .agg [.lit (.int .u8 0), .lit (.int .u8 0)], .agg [.lit (.int .u8 0), .lit (.int .u8 0)], .agg [.lit (.int .u8 0), .lit (.int .u8 0)], .agg [.lit (.int .u8 0), .lit (.int .u8 0)]]
def laid_drayman_errs_messages {H : Type} : DataW H := .agg [.lit (.string [83, 117, 99, 99, 101, 115, 115]), .lit (.string [78, 111, 32, 115, 117, 99, 104, 32, 102, 105, 108, 101, 32, 111, 114, 32, 100, 105, 114, 101, 99, 116, 111, 114, 121]), .lit (.string [70, 105, 108, 101, 32, 101, 120, 105, 115, 116, 115]), .lit (.string [78, 111, 116, 32, 97, 32, 100, 105, 114, 101, 99, 116, 111, 114, 121]), .lit (.string [73, 115, 32, 97, 32, 100, 105, 114, 101, 99, 116, 111, 114, 121]), .lit (.string [68, 105, 114, 101, 99, 116, 111, 114, 121, 32, 110, 111, 116, 32, 101, 109, 112, 116, 121]), .lit (.string [84, 111, 111, 32, 109, 97, 110, 121, 32, 108, 101, 118, 101, 108, 115, 32, 111, 102, 32, 115, 121, 109, 98, 111, 108, 105, 99, 32, 108, 105, 110, 107, 115]), .lit (.string [70, 105, 108, 101, 32, 110, 97, 109, 101, 32, 116, 111, 111, 32, 108, 111, 110, 103]), .lit (.string [78, 111, 32, 115, 112, 97, 99, 101, 32, 108, 101, 102, 116, 32, 111, 110, 32, 100, 101, 118, 105, 99, 101]), .lit (.string [73, 110, 118, 97, 108, 105, 100, 32, 97, 114, 103, 117, 109, 101, 110, 116]), .lit (.string [68, 101, 118, 105, 99, 101, 32, 111, 114, 32, 114, 101, 115, 111, 117, 114, 99, 101, 32, 98, 117, 115, 121]), .lit (.string [79, 112, 101, 114, 97, 116, 105, 111, 110, 32, 110, 111, 116, 32, 112, 101, 114, 109, 105, 116, 116, 101, 100]), .lit (.string [77, 97, 108, 102, 111, 114, 109, 101, 100, 32, 116, 101, 120, 116]), .lit (.string [78, 111, 116, 32, 105, 110, 32, 116, 104, 101, 32, 115, 116, 97, 115, 104])]
def laid_drayman_op_has {H : Type} : DataW H := .agg [.agg [.lit (.bool false), .lit (.bool false), .lit (.bool false)], .agg [.lit (.bool false), .lit (.bool false), .lit (.bool false)], .agg [.lit (.bool false), .lit (.bool true), .lit (.bool false)], .agg [.lit (.bool true), .lit (.bool true), .lit (.bool false)], .agg [.lit (.bool false), .lit (.bool false), .lit (.bool true)], .agg [.lit (.bool false), .lit (.bool true), .lit (.bool false)], .agg [.lit (.bool false), .lit (.bool true), .lit (.bool false)], .agg [.lit (.bool true), .lit (.bool false), .lit (.bool false)], .agg [.lit (.bool false), .lit (.bool false), .lit (.bool false)], .agg [.lit (.bool true), .lit (.bool false), .lit (.bool false)], .agg [.lit (.bool true), .lit (.bool false), .lit (.bool false)]]
def laid_drayman_args_kinds {H : Type} : DataW H := .agg [.agg [.lit (.string []), .lit (.string []), .lit (.int .i64 0)], .agg [.lit (.string [109, 107, 100, 105, 114]), .lit (.string [112]), .lit (.int .i64 1)], .agg [.lit (.string [114, 109]), .lit (.string [82, 100, 102, 114]), .lit (.int .i64 1)], .agg [.lit (.string [108, 110]), .lit (.string [84, 102, 110, 115]), .lit (.int .i64 1)], .agg [.lit (.string [109, 118]), .lit (.string [84, 102, 110]), .lit (.int .i64 2)], .agg [.lit (.string [99, 112]), .lit (.string [80, 82, 84, 102, 110, 114]), .lit (.int .i64 2)]]
def laid_drayman_diag_phrases {H : Type} : DataW H := .agg [.lit (.string []), .lit (.string [99, 97, 110, 110, 111, 116, 32, 99, 114, 101, 97, 116, 101, 32, 100, 105, 114, 101, 99, 116, 111, 114, 121, 32, 65, 58, 32, 69]), .lit (.string [99, 97, 110, 110, 111, 116, 32, 114, 101, 109, 111, 118, 101, 32, 65, 58, 32, 69]), .lit (.string [114, 101, 102, 117, 115, 105, 110, 103, 32, 116, 111, 32, 114, 101, 109, 111, 118, 101, 32, 34, 46, 34, 32, 111, 114, 32, 34, 46, 46, 34, 32, 100, 105, 114, 101, 99, 116, 111, 114, 121, 58, 32, 115, 107, 105, 112, 112, 105, 110, 103, 32, 65]), .lit (.string [105, 116, 32, 105, 115, 32, 100, 97, 110, 103, 101, 114, 111, 117, 115, 32, 116, 111, 32, 111, 112, 101, 114, 97, 116, 101, 32, 114, 101, 99, 117, 114, 115, 105, 118, 101, 108, 121, 32, 111, 110, 32, 65]), .lit (.string [102, 97, 105, 108, 101, 100, 32, 116, 111, 32, 97, 99, 99, 101, 115, 115, 32, 65, 58, 32, 69]), .lit (.string [65, 58, 32, 104, 97, 114, 100, 32, 108, 105, 110, 107, 32, 110, 111, 116, 32, 97, 108, 108, 111, 119, 101, 100, 32, 102, 111, 114, 32, 100, 105, 114, 101, 99, 116, 111, 114, 121]), .lit (.string [102, 97, 105, 108, 101, 100, 32, 116, 111, 32, 99, 114, 101, 97, 116, 101, 32, 104, 97, 114, 100, 32, 108, 105, 110, 107, 32, 66, 58, 32, 69]), .lit (.string [102, 97, 105, 108, 101, 100, 32, 116, 111, 32, 99, 114, 101, 97, 116, 101, 32, 115, 121, 109, 98, 111, 108, 105, 99, 32, 108, 105, 110, 107, 32, 66, 58, 32, 69]), .lit (.string [65, 32, 97, 110, 100, 32, 66, 32, 97, 114, 101, 32, 116, 104, 101, 32, 115, 97, 109, 101, 32, 102, 105, 108, 101]), .lit (.string [116, 97, 114, 103, 101, 116, 32, 65, 32, 105, 115, 32, 110, 111, 116, 32, 97, 32, 100, 105, 114, 101, 99, 116, 111, 114, 121]), .lit (.string [99, 97, 110, 110, 111, 116, 32, 115, 116, 97, 116, 32, 65, 58, 32, 69]), .lit (.string [99, 97, 110, 110, 111, 116, 32, 111, 118, 101, 114, 119, 114, 105, 116, 101, 32, 110, 111, 110, 45, 100, 105, 114, 101, 99, 116, 111, 114, 121, 32, 66, 32, 119, 105, 116, 104, 32, 100, 105, 114, 101, 99, 116, 111, 114, 121, 32, 65]), .lit (.string [99, 97, 110, 110, 111, 116, 32, 111, 118, 101, 114, 119, 114, 105, 116, 101, 32, 100, 105, 114, 101, 99, 116, 111, 114, 121, 32, 66, 32, 119, 105, 116, 104, 32, 110, 111, 110, 45, 100, 105, 114, 101, 99, 116, 111, 114, 121, 32, 65]), .lit (.string [99, 97, 110, 110, 111, 116, 32, 109, 111, 118, 101, 32, 65, 32, 116, 111, 32, 97, 32, 115, 117, 98, 100, 105, 114, 101, 99, 116, 111, 114, 121, 32, 111, 102, 32, 105, 116, 115, 101, 108, 102, 44, 32, 66]), .lit (.string [99, 97, 110, 110, 111, 116, 32, 109, 111, 118, 101, 32, 65, 32, 116, 111, 32, 66, 58, 32, 69]), .lit (.string [45, 114, 32, 110, 111, 116, 32, 115, 112, 101, 99, 105, 102, 105, 101, 100, 59, 32, 111, 109, 105, 116, 116, 105, 110, 103, 32, 100, 105, 114, 101, 99, 116, 111, 114, 121, 32, 65]), .lit (.string [99, 97, 110, 110, 111, 116, 32, 99, 114, 101, 97, 116, 101, 32, 114, 101, 103, 117, 108, 97, 114, 32, 102, 105, 108, 101, 32, 66, 58, 32, 69]), .lit (.string [99, 97, 110, 110, 111, 116, 32, 99, 114, 101, 97, 116, 101, 32, 115, 121, 109, 98, 111, 108, 105, 99, 32, 108, 105, 110, 107, 32, 66, 58, 32, 69]), .lit (.string [99, 97, 110, 110, 111, 116, 32, 99, 111, 112, 121, 32, 97, 32, 100, 105, 114, 101, 99, 116, 111, 114, 121, 44, 32, 65, 44, 32, 105, 110, 116, 111, 32, 105, 116, 115, 101, 108, 102, 44, 32, 66]), .lit (.string [110, 111, 116, 32, 119, 114, 105, 116, 105, 110, 103, 32, 116, 104, 114, 111, 117, 103, 104, 32, 100, 97, 110, 103, 108, 105, 110, 103, 32, 115, 121, 109, 108, 105, 110, 107, 32, 66]), .lit (.string [101, 114, 114, 111, 114, 32, 119, 114, 105, 116, 105, 110, 103, 32, 66, 58, 32, 69]), .lit (.string [99, 97, 110, 110, 111, 116, 32, 99, 114, 101, 97, 116, 101, 32, 100, 105, 114, 101, 99, 116, 111, 114, 121, 32, 66, 58, 32, 69])]
/-- One of Go's own tables, pinned by name: the form's constant. -/
def laid_unicode_utf8_first : DataW Unit := Go.Pinned.utf8First

/-- 'draymanlaw29.MvsTrue': WHATEVER THE INPUT: true; the input reads as it did. -/
def mvsTrueSpec : ChangeSpec := { name := "mvsTrue", fn := fun _ => fun
  | [d1, d2, d3] => { results := [.lit (.bool true)], args := [d1, d2, d3] }
  | _ => none }
def mvsTrueRow : OpenClaim := { program := "ytnpdbhbmakdklaagreatdoor", sum := "22b2193ddc39fd008024b9a32f506b9771e29be67785fadbd757fcc77f1d4dbb", func := "drayman/draymanlaw29.MvsTrue", spec := "mvsTrue", inPlace := ["internal/bytealg.IndexByteString", "internal/bytealg.IndexString", "internal/abi.NoEscape", "internal/bytealg.MakeNoZero", "internal/bytealg.abigen_runtime_cmpstring", "slices.overlaps[drayman/api.Entry]", "slices.overlaps[drayman/api.Inode]", "slices.overlaps[drayman/api.Kept]"], unfollowed := true, recurses := true, named := ["unicode/utf8.first", "unicode/utf8.acceptRanges", "internal/bytealg.MaxLen", "drayman/args.kinds", "drayman/diag.phrases", "drayman/errs.messages", "drayman/op.has"], apart := false, laid := [("unicode/utf8.acceptRanges", laid_unicode_utf8_acceptRanges), ("drayman/errs.messages", laid_drayman_errs_messages), ("drayman/op.has", laid_drayman_op_has), ("drayman/args.kinds", laid_drayman_args_kinds), ("drayman/diag.phrases", laid_drayman_diag_phrases), ("unicode/utf8.first", laid_unicode_utf8_first)] }
def MvsTrueSaid : Prop := mvsTrueRow.holds Tryz.pinned (OpenSpec.ofChange mvsTrueSpec)

/-- ITS FALSE NEIGHBOUR: 'it returns false'. Refute it at one input. -/
def mvsTrueWrong : ChangeSpec := { name := "mvsTrue", fn := fun _ => fun
  | [d1, d2, d3] => { results := [.lit (.bool false)], args := [d1, d2, d3] }
  | _ => none }
def MvsTrueWrongFalsely : Prop := mvsTrueRow.holds Tryz.pinned (OpenSpec.ofChange mvsTrueWrong)

/-- 'draymanlaw29.MvsLeads': WHATEVER THE INPUT: true; the input reads as it did. -/
def mvsLeadsSpec : ChangeSpec := { name := "mvsLeads", fn := fun _ => fun
  | [d1, d2, d3] => { results := [.lit (.bool true)], args := [d1, d2, d3] }
  | _ => none }
def mvsLeadsRow : OpenClaim := { program := "ytnpdbhbmakdklaagreatdoor", sum := "22b2193ddc39fd008024b9a32f506b9771e29be67785fadbd757fcc77f1d4dbb", func := "drayman/draymanlaw29.MvsLeads", spec := "mvsLeads", inPlace := ["internal/bytealg.IndexByteString", "internal/bytealg.IndexString", "internal/abi.NoEscape", "internal/bytealg.MakeNoZero", "internal/bytealg.abigen_runtime_cmpstring", "slices.overlaps[drayman/api.Entry]", "slices.overlaps[drayman/api.Inode]", "slices.overlaps[drayman/api.Kept]"], unfollowed := true, recurses := true, named := ["unicode/utf8.first", "unicode/utf8.acceptRanges", "internal/bytealg.MaxLen", "drayman/args.kinds", "drayman/diag.phrases", "drayman/errs.messages", "drayman/op.has"], apart := false, laid := [("unicode/utf8.acceptRanges", laid_unicode_utf8_acceptRanges), ("drayman/errs.messages", laid_drayman_errs_messages), ("drayman/op.has", laid_drayman_op_has), ("drayman/args.kinds", laid_drayman_args_kinds), ("drayman/diag.phrases", laid_drayman_diag_phrases), ("unicode/utf8.first", laid_unicode_utf8_first)] }
def MvsLeadsSaid : Prop := mvsLeadsRow.holds Tryz.pinned (OpenSpec.ofChange mvsLeadsSpec)

/-- ITS FALSE NEIGHBOUR: 'it returns false'. Refute it at one input. -/
def mvsLeadsWrong : ChangeSpec := { name := "mvsLeads", fn := fun _ => fun
  | [d1, d2, d3] => { results := [.lit (.bool false)], args := [d1, d2, d3] }
  | _ => none }
def MvsLeadsWrongFalsely : Prop := mvsLeadsRow.holds Tryz.pinned (OpenSpec.ofChange mvsLeadsWrong)

/-- 'draymanlaw29.MvsBelow': WHATEVER THE INPUT: true; the input reads as it did. -/
def mvsBelowSpec : ChangeSpec := { name := "mvsBelow", fn := fun _ => fun
  | [d1, d2, d3] => { results := [.lit (.bool true)], args := [d1, d2, d3] }
  | _ => none }
def mvsBelowRow : OpenClaim := { program := "ytnpdbhbmakdklaagreatdoor", sum := "22b2193ddc39fd008024b9a32f506b9771e29be67785fadbd757fcc77f1d4dbb", func := "drayman/draymanlaw29.MvsBelow", spec := "mvsBelow", inPlace := ["internal/bytealg.IndexByteString", "internal/bytealg.IndexString", "internal/abi.NoEscape", "internal/bytealg.MakeNoZero", "internal/bytealg.abigen_runtime_cmpstring", "slices.overlaps[drayman/api.Entry]", "slices.overlaps[drayman/api.Inode]", "slices.overlaps[drayman/api.Kept]"], unfollowed := true, recurses := true, named := ["unicode/utf8.first", "unicode/utf8.acceptRanges", "internal/bytealg.MaxLen", "drayman/args.kinds", "drayman/diag.phrases", "drayman/errs.messages", "drayman/op.has"], apart := false, laid := [("unicode/utf8.acceptRanges", laid_unicode_utf8_acceptRanges), ("drayman/errs.messages", laid_drayman_errs_messages), ("drayman/op.has", laid_drayman_op_has), ("drayman/args.kinds", laid_drayman_args_kinds), ("drayman/diag.phrases", laid_drayman_diag_phrases), ("unicode/utf8.first", laid_unicode_utf8_first)] }
def MvsBelowSaid : Prop := mvsBelowRow.holds Tryz.pinned (OpenSpec.ofChange mvsBelowSpec)

/-- ITS FALSE NEIGHBOUR: 'it returns false'. Refute it at one input. -/
def mvsBelowWrong : ChangeSpec := { name := "mvsBelow", fn := fun _ => fun
  | [d1, d2, d3] => { results := [.lit (.bool false)], args := [d1, d2, d3] }
  | _ => none }
def MvsBelowWrongFalsely : Prop := mvsBelowRow.holds Tryz.pinned (OpenSpec.ofChange mvsBelowWrong)

/-- 'draymanlaw29.MvsStays': WHATEVER THE INPUT: true; the input reads as it did. -/
def mvsStaysSpec : ChangeSpec := { name := "mvsStays", fn := fun _ => fun
  | [d1, d2, d3] => { results := [.lit (.bool true)], args := [d1, d2, d3] }
  | _ => none }
def mvsStaysRow : OpenClaim := { program := "ytnpdbhbmakdklaagreatdoor", sum := "22b2193ddc39fd008024b9a32f506b9771e29be67785fadbd757fcc77f1d4dbb", func := "drayman/draymanlaw29.MvsStays", spec := "mvsStays", inPlace := ["internal/bytealg.IndexByteString", "internal/bytealg.IndexString", "internal/abi.NoEscape", "internal/bytealg.MakeNoZero", "internal/bytealg.abigen_runtime_cmpstring", "slices.overlaps[drayman/api.Entry]", "slices.overlaps[drayman/api.Inode]", "slices.overlaps[drayman/api.Kept]"], unfollowed := true, recurses := true, named := ["unicode/utf8.first", "unicode/utf8.acceptRanges", "internal/bytealg.MaxLen", "drayman/args.kinds", "drayman/diag.phrases", "drayman/errs.messages", "drayman/op.has"], apart := false, laid := [("unicode/utf8.acceptRanges", laid_unicode_utf8_acceptRanges), ("drayman/errs.messages", laid_drayman_errs_messages), ("drayman/op.has", laid_drayman_op_has), ("drayman/args.kinds", laid_drayman_args_kinds), ("drayman/diag.phrases", laid_drayman_diag_phrases), ("unicode/utf8.first", laid_unicode_utf8_first)] }
def MvsStaysSaid : Prop := mvsStaysRow.holds Tryz.pinned (OpenSpec.ofChange mvsStaysSpec)

/-- ITS FALSE NEIGHBOUR: 'it returns false'. Refute it at one input. -/
def mvsStaysWrong : ChangeSpec := { name := "mvsStays", fn := fun _ => fun
  | [d1, d2, d3] => { results := [.lit (.bool false)], args := [d1, d2, d3] }
  | _ => none }
def MvsStaysWrongFalsely : Prop := mvsStaysRow.holds Tryz.pinned (OpenSpec.ofChange mvsStaysWrong)

/-- 'draymanlaw30.CpsTree': WHATEVER THE INPUT: true; the input reads as it did. -/
def cpsTreeSpec : ChangeSpec := { name := "cpsTree", fn := fun _ => fun
  | [d1, d2, d3] => { results := [.lit (.bool true)], args := [d1, d2, d3] }
  | _ => none }
def cpsTreeRow : OpenClaim := { program := "ytnpdbhbmakdklaagreatdoor", sum := "22b2193ddc39fd008024b9a32f506b9771e29be67785fadbd757fcc77f1d4dbb", func := "drayman/draymanlaw30.CpsTree", spec := "cpsTree", inPlace := ["internal/bytealg.IndexByteString", "internal/bytealg.IndexString", "internal/abi.NoEscape", "internal/bytealg.MakeNoZero", "internal/bytealg.abigen_runtime_cmpstring", "slices.overlaps[drayman/api.Entry]", "slices.overlaps[drayman/api.Inode]", "slices.overlaps[drayman/api.Kept]"], unfollowed := true, recurses := true, named := ["unicode/utf8.first", "unicode/utf8.acceptRanges", "internal/bytealg.MaxLen", "drayman/args.kinds", "drayman/diag.phrases", "drayman/errs.messages", "drayman/op.has"], apart := false, laid := [("unicode/utf8.acceptRanges", laid_unicode_utf8_acceptRanges), ("drayman/errs.messages", laid_drayman_errs_messages), ("drayman/op.has", laid_drayman_op_has), ("drayman/args.kinds", laid_drayman_args_kinds), ("drayman/diag.phrases", laid_drayman_diag_phrases), ("unicode/utf8.first", laid_unicode_utf8_first)] }
def CpsTreeSaid : Prop := cpsTreeRow.holds Tryz.pinned (OpenSpec.ofChange cpsTreeSpec)

/-- ITS FALSE NEIGHBOUR: 'it returns false'. Refute it at one input. -/
def cpsTreeWrong : ChangeSpec := { name := "cpsTree", fn := fun _ => fun
  | [d1, d2, d3] => { results := [.lit (.bool false)], args := [d1, d2, d3] }
  | _ => none }
def CpsTreeWrongFalsely : Prop := cpsTreeRow.holds Tryz.pinned (OpenSpec.ofChange cpsTreeWrong)

/-- 'draymanlaw30.CpsStays': WHATEVER THE INPUT: true; the input reads as it did. -/
def cpsStaysSpec : ChangeSpec := { name := "cpsStays", fn := fun _ => fun
  | [d1, d2, d3] => { results := [.lit (.bool true)], args := [d1, d2, d3] }
  | _ => none }
def cpsStaysRow : OpenClaim := { program := "ytnpdbhbmakdklaagreatdoor", sum := "22b2193ddc39fd008024b9a32f506b9771e29be67785fadbd757fcc77f1d4dbb", func := "drayman/draymanlaw30.CpsStays", spec := "cpsStays", inPlace := ["internal/bytealg.IndexByteString", "internal/bytealg.IndexString", "internal/abi.NoEscape", "internal/bytealg.MakeNoZero", "internal/bytealg.abigen_runtime_cmpstring", "slices.overlaps[drayman/api.Entry]", "slices.overlaps[drayman/api.Inode]", "slices.overlaps[drayman/api.Kept]"], unfollowed := true, recurses := true, named := ["unicode/utf8.first", "unicode/utf8.acceptRanges", "internal/bytealg.MaxLen", "drayman/args.kinds", "drayman/diag.phrases", "drayman/errs.messages", "drayman/op.has"], apart := false, laid := [("unicode/utf8.acceptRanges", laid_unicode_utf8_acceptRanges), ("drayman/errs.messages", laid_drayman_errs_messages), ("drayman/op.has", laid_drayman_op_has), ("drayman/args.kinds", laid_drayman_args_kinds), ("drayman/diag.phrases", laid_drayman_diag_phrases), ("unicode/utf8.first", laid_unicode_utf8_first)] }
def CpsStaysSaid : Prop := cpsStaysRow.holds Tryz.pinned (OpenSpec.ofChange cpsStaysSpec)

/-- ITS FALSE NEIGHBOUR: 'it returns false'. Refute it at one input. -/
def cpsStaysWrong : ChangeSpec := { name := "cpsStays", fn := fun _ => fun
  | [d1, d2, d3] => { results := [.lit (.bool false)], args := [d1, d2, d3] }
  | _ => none }
def CpsStaysWrongFalsely : Prop := cpsStaysRow.holds Tryz.pinned (OpenSpec.ofChange cpsStaysWrong)

/- THE SECOND FORM. 'bulk': how many values and letters a reading holds, each counted each time it is reached (what is shared counts as often as it is met; a slice's spare places count too). A statement '..UptoSaid' is the law's where the arguments, and the package variables that the reading takes, are together of bulk at most 1048576: NARROWER than '..Said'. Prove '..Said' where nothing that the law and all that it calls make is longer than what came in: it says more and counts as full. Else prove '..UptoSaid'. A law counts once. -/
mutual
def uptoBulk {H : Type} : DataW H → Nat
  | .lit (.string bytes) => bytes.length + 1
  | .lit _ => 1
  | .nil => 1
  | .ptr d => uptoBulk d + 1
  | .slice elems spare => uptoBulkAll elems + uptoBulkAll spare + 1
  | .agg parts => uptoBulkAll parts + 1
  | .iface _ d => uptoBulk d + 1
  | .map entries => uptoBulkEntries entries + 1
  | .held _ => 1
def uptoBulkAll {H : Type} : List (DataW H) → Nat
  | [] => 0
  | d :: r => uptoBulk d + uptoBulkAll r
def uptoBulkEntries {H : Type} : List (Lit × DataW H) → Nat
  | [] => 0
  | x :: r => uptoBulkEntry x + uptoBulkEntries r
def uptoBulkEntry {H : Type} : Lit × DataW H → Nat
  | (.string bytes, d) => bytes.length + uptoBulk d + 1
  | (_, d) => uptoBulk d + 1
 end
def uptoSmall : (H : Type) → List (DataW H) → Bool := fun _ ds => decide (uptoBulkAll ds ≤ 1048576)
def OpenSpec.upto (s : _root_.Go.ChangeSpec) : _root_.Go.OpenSpec := { _root_.Go.OpenSpec.ofChange s with cond := some uptoSmall }

/-- 'draymanlaw29.MvsTrue', WHERE WHAT IT READS IS OF BULK AT MOST 1048576: true; the input reads as it did. -/
def mvsTrueUptoRow : OpenClaim := { program := "ytnpdbhbmakdklaagreatdoor", sum := "22b2193ddc39fd008024b9a32f506b9771e29be67785fadbd757fcc77f1d4dbb", func := "drayman/draymanlaw29.MvsTrue", spec := "mvsTrue", inPlace := ["internal/bytealg.IndexByteString", "internal/bytealg.IndexString", "internal/abi.NoEscape", "internal/bytealg.MakeNoZero", "internal/bytealg.abigen_runtime_cmpstring", "slices.overlaps[drayman/api.Entry]", "slices.overlaps[drayman/api.Inode]", "slices.overlaps[drayman/api.Kept]"], unfollowed := true, recurses := true, named := ["unicode/utf8.first", "unicode/utf8.acceptRanges", "internal/bytealg.MaxLen", "drayman/args.kinds", "drayman/diag.phrases", "drayman/errs.messages", "drayman/op.has"], apart := false, laid := [("unicode/utf8.acceptRanges", laid_unicode_utf8_acceptRanges), ("drayman/errs.messages", laid_drayman_errs_messages), ("drayman/op.has", laid_drayman_op_has), ("drayman/args.kinds", laid_drayman_args_kinds), ("drayman/diag.phrases", laid_drayman_diag_phrases), ("unicode/utf8.first", laid_unicode_utf8_first)], narrowed := true }
def MvsTrueUptoSaid : Prop := mvsTrueUptoRow.holds Tryz.pinned (OpenSpec.upto mvsTrueSpec)

/-- 'draymanlaw29.MvsLeads', WHERE WHAT IT READS IS OF BULK AT MOST 1048576: true; the input reads as it did. -/
def mvsLeadsUptoRow : OpenClaim := { program := "ytnpdbhbmakdklaagreatdoor", sum := "22b2193ddc39fd008024b9a32f506b9771e29be67785fadbd757fcc77f1d4dbb", func := "drayman/draymanlaw29.MvsLeads", spec := "mvsLeads", inPlace := ["internal/bytealg.IndexByteString", "internal/bytealg.IndexString", "internal/abi.NoEscape", "internal/bytealg.MakeNoZero", "internal/bytealg.abigen_runtime_cmpstring", "slices.overlaps[drayman/api.Entry]", "slices.overlaps[drayman/api.Inode]", "slices.overlaps[drayman/api.Kept]"], unfollowed := true, recurses := true, named := ["unicode/utf8.first", "unicode/utf8.acceptRanges", "internal/bytealg.MaxLen", "drayman/args.kinds", "drayman/diag.phrases", "drayman/errs.messages", "drayman/op.has"], apart := false, laid := [("unicode/utf8.acceptRanges", laid_unicode_utf8_acceptRanges), ("drayman/errs.messages", laid_drayman_errs_messages), ("drayman/op.has", laid_drayman_op_has), ("drayman/args.kinds", laid_drayman_args_kinds), ("drayman/diag.phrases", laid_drayman_diag_phrases), ("unicode/utf8.first", laid_unicode_utf8_first)], narrowed := true }
def MvsLeadsUptoSaid : Prop := mvsLeadsUptoRow.holds Tryz.pinned (OpenSpec.upto mvsLeadsSpec)

/-- 'draymanlaw29.MvsBelow', WHERE WHAT IT READS IS OF BULK AT MOST 1048576: true; the input reads as it did. -/
def mvsBelowUptoRow : OpenClaim := { program := "ytnpdbhbmakdklaagreatdoor", sum := "22b2193ddc39fd008024b9a32f506b9771e29be67785fadbd757fcc77f1d4dbb", func := "drayman/draymanlaw29.MvsBelow", spec := "mvsBelow", inPlace := ["internal/bytealg.IndexByteString", "internal/bytealg.IndexString", "internal/abi.NoEscape", "internal/bytealg.MakeNoZero", "internal/bytealg.abigen_runtime_cmpstring", "slices.overlaps[drayman/api.Entry]", "slices.overlaps[drayman/api.Inode]", "slices.overlaps[drayman/api.Kept]"], unfollowed := true, recurses := true, named := ["unicode/utf8.first", "unicode/utf8.acceptRanges", "internal/bytealg.MaxLen", "drayman/args.kinds", "drayman/diag.phrases", "drayman/errs.messages", "drayman/op.has"], apart := false, laid := [("unicode/utf8.acceptRanges", laid_unicode_utf8_acceptRanges), ("drayman/errs.messages", laid_drayman_errs_messages), ("drayman/op.has", laid_drayman_op_has), ("drayman/args.kinds", laid_drayman_args_kinds), ("drayman/diag.phrases", laid_drayman_diag_phrases), ("unicode/utf8.first", laid_unicode_utf8_first)], narrowed := true }
def MvsBelowUptoSaid : Prop := mvsBelowUptoRow.holds Tryz.pinned (OpenSpec.upto mvsBelowSpec)

/-- 'draymanlaw29.MvsStays', WHERE WHAT IT READS IS OF BULK AT MOST 1048576: true; the input reads as it did. -/
def mvsStaysUptoRow : OpenClaim := { program := "ytnpdbhbmakdklaagreatdoor", sum := "22b2193ddc39fd008024b9a32f506b9771e29be67785fadbd757fcc77f1d4dbb", func := "drayman/draymanlaw29.MvsStays", spec := "mvsStays", inPlace := ["internal/bytealg.IndexByteString", "internal/bytealg.IndexString", "internal/abi.NoEscape", "internal/bytealg.MakeNoZero", "internal/bytealg.abigen_runtime_cmpstring", "slices.overlaps[drayman/api.Entry]", "slices.overlaps[drayman/api.Inode]", "slices.overlaps[drayman/api.Kept]"], unfollowed := true, recurses := true, named := ["unicode/utf8.first", "unicode/utf8.acceptRanges", "internal/bytealg.MaxLen", "drayman/args.kinds", "drayman/diag.phrases", "drayman/errs.messages", "drayman/op.has"], apart := false, laid := [("unicode/utf8.acceptRanges", laid_unicode_utf8_acceptRanges), ("drayman/errs.messages", laid_drayman_errs_messages), ("drayman/op.has", laid_drayman_op_has), ("drayman/args.kinds", laid_drayman_args_kinds), ("drayman/diag.phrases", laid_drayman_diag_phrases), ("unicode/utf8.first", laid_unicode_utf8_first)], narrowed := true }
def MvsStaysUptoSaid : Prop := mvsStaysUptoRow.holds Tryz.pinned (OpenSpec.upto mvsStaysSpec)

/-- 'draymanlaw30.CpsTree', WHERE WHAT IT READS IS OF BULK AT MOST 1048576: true; the input reads as it did. -/
def cpsTreeUptoRow : OpenClaim := { program := "ytnpdbhbmakdklaagreatdoor", sum := "22b2193ddc39fd008024b9a32f506b9771e29be67785fadbd757fcc77f1d4dbb", func := "drayman/draymanlaw30.CpsTree", spec := "cpsTree", inPlace := ["internal/bytealg.IndexByteString", "internal/bytealg.IndexString", "internal/abi.NoEscape", "internal/bytealg.MakeNoZero", "internal/bytealg.abigen_runtime_cmpstring", "slices.overlaps[drayman/api.Entry]", "slices.overlaps[drayman/api.Inode]", "slices.overlaps[drayman/api.Kept]"], unfollowed := true, recurses := true, named := ["unicode/utf8.first", "unicode/utf8.acceptRanges", "internal/bytealg.MaxLen", "drayman/args.kinds", "drayman/diag.phrases", "drayman/errs.messages", "drayman/op.has"], apart := false, laid := [("unicode/utf8.acceptRanges", laid_unicode_utf8_acceptRanges), ("drayman/errs.messages", laid_drayman_errs_messages), ("drayman/op.has", laid_drayman_op_has), ("drayman/args.kinds", laid_drayman_args_kinds), ("drayman/diag.phrases", laid_drayman_diag_phrases), ("unicode/utf8.first", laid_unicode_utf8_first)], narrowed := true }
def CpsTreeUptoSaid : Prop := cpsTreeUptoRow.holds Tryz.pinned (OpenSpec.upto cpsTreeSpec)

/-- 'draymanlaw30.CpsStays', WHERE WHAT IT READS IS OF BULK AT MOST 1048576: true; the input reads as it did. -/
def cpsStaysUptoRow : OpenClaim := { program := "ytnpdbhbmakdklaagreatdoor", sum := "22b2193ddc39fd008024b9a32f506b9771e29be67785fadbd757fcc77f1d4dbb", func := "drayman/draymanlaw30.CpsStays", spec := "cpsStays", inPlace := ["internal/bytealg.IndexByteString", "internal/bytealg.IndexString", "internal/abi.NoEscape", "internal/bytealg.MakeNoZero", "internal/bytealg.abigen_runtime_cmpstring", "slices.overlaps[drayman/api.Entry]", "slices.overlaps[drayman/api.Inode]", "slices.overlaps[drayman/api.Kept]"], unfollowed := true, recurses := true, named := ["unicode/utf8.first", "unicode/utf8.acceptRanges", "internal/bytealg.MaxLen", "drayman/args.kinds", "drayman/diag.phrases", "drayman/errs.messages", "drayman/op.has"], apart := false, laid := [("unicode/utf8.acceptRanges", laid_unicode_utf8_acceptRanges), ("drayman/errs.messages", laid_drayman_errs_messages), ("drayman/op.has", laid_drayman_op_has), ("drayman/args.kinds", laid_drayman_args_kinds), ("drayman/diag.phrases", laid_drayman_diag_phrases), ("unicode/utf8.first", laid_unicode_utf8_first)], narrowed := true }
def CpsStaysUptoSaid : Prop := cpsStaysUptoRow.holds Tryz.pinned (OpenSpec.upto cpsStaysSpec)

end Rows
end Go.Proofs.YtnpdbhbmakdklaaGreatDoor
