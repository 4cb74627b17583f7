/-
  NARROWER THAN 'FOR EVERY INPUT', by the rows' own cells (each row's printed sentence says how): ErrsMessages: laid · ErrsFinds: laid · ErrsApart: laid · ErrsLines: laid.
  DERIVED. THE GIVEN ROWS OF THIS SEAT. 4 by the template 'for every input the law returns true; each argument reads behind the call as it read before'; 0 by the template 'total and deterministic' (their statements: YtgdkeolmgpimaaaDoorTotals.lean).
  GIVEN WITH THE SEED: the statements are not yours to turn. If you find one false, say at which input.
  Laid BY PROGRAM, IN A SANDBOX (cutbox-rows.mjs): the forced cells as the released guide's own fill.sh prints them over the translation 7daa59d0308979c9… (all of the seat's roots in one cut). By AI agents, Wed Nov 11 2026. No macro, syntax, notation, axiom, sorry.
-/
import Derived.Test.YtgdkeolmgpimaaaDoorChecked
import GoSem.Claim
import GoSem.ClaimJoined
import GoSem.ClaimMapViews
import Derived.JoinedTies
import Derived.KernelRfl
namespace Go.Proofs.YtgdkeolmgpimaaaDoor
/- THE CELL 'sum', in the pinned program and in every row, IS THE sha256 OF THE DUMP (.gsa) THAT YtgdkeolmgpimaaaDoorProg.lean LOADS. Nothing in Lean hashes anything: it is a label: what it is worth is what the hold of that sum in a sandbox is worth. -/
noncomputable def Tryd.pinned : Pinned := { name := "ytgdkeolmgpimaaadoor", sum := "7daa59d0308979c9eb93f9a3c580fcde9bf435ef6125acfa7901b6774ae0699b", checked := Tryd.checked }
namespace Rows
def none {H : Type} : Left H := { results := [], args := [] }

/- WHAT THE LISTED PACKAGE-LEVEL VARIABLES READ AS WHEN THE CALL BEGINS. Each datum BY PROGRAM (the guide's laid-datum.mjs) off the statement by which the dump's own 'gosem.cut.vars' lays the variable. In a bare row this is a premise. The card (YtgdkeolmgpimaaaDoorCards.lean) ties it to the program's text. -/
def laid_drayman_errs_messages {H : Type} : DataW H := .agg [.lit (.string [83, 117, 99, 99, 101, 115, 115]), .lit (.string [78, 111, 32, 115, 117, 99, 104, 32, 102, 105, 108, 101, 32, 111, 114, 32, 100, 105, 114, 101, 99, 116, 111, 114, 121]), .lit (.string [70, 105, 108, 101, 32, 101, 120, 105, 115, 116, 115]), .lit (.string [78, 111, 116, 32, 97, 32, 100, 105, 114, 101, 99, 116, 111, 114, 121]), .lit (.string [73, 115, 32, 97, 32, 100, 105, 114, 101, 99, 116, 111, 114, 121]), .lit (.string [68, 105, 114, 101, 99, 116, 111, 114, 121, 32, 110, 111, 116, 32, 101, 109, 112, 116, 121]), .lit (.string [84, 111, 111, 32, 109, 97, 110, 121, 32, 108, 101, 118, 101, 108, 115, 32, 111, 102, 32, 115, 121, 109, 98, 111, 108, 105, 99, 32, 108, 105, 110, 107, 115]), .lit (.string [70, 105, 108, 101, 32, 110, 97, 109, 101, 32, 116, 111, 111, 32, 108, 111, 110, 103]), .lit (.string [78, 111, 32, 115, 112, 97, 99, 101, 32, 108, 101, 102, 116, 32, 111, 110, 32, 100, 101, 118, 105, 99, 101]), .lit (.string [73, 110, 118, 97, 108, 105, 100, 32, 97, 114, 103, 117, 109, 101, 110, 116]), .lit (.string [68, 101, 118, 105, 99, 101, 32, 111, 114, 32, 114, 101, 115, 111, 117, 114, 99, 101, 32, 98, 117, 115, 121]), .lit (.string [79, 112, 101, 114, 97, 116, 105, 111, 110, 32, 110, 111, 116, 32, 112, 101, 114, 109, 105, 116, 116, 101, 100]), .lit (.string [77, 97, 108, 102, 111, 114, 109, 101, 100, 32, 116, 101, 120, 116]), .lit (.string [78, 111, 116, 32, 105, 110, 32, 116, 104, 101, 32, 115, 116, 97, 115, 104])]

/-- 'draymanlaw02.ErrsMessages': WHATEVER THE INPUT: true; the input reads as it did. -/
def errsMessagesSpec : ChangeSpec := { name := "errsMessages", fn := fun _ => fun
  | [d] => { results := [.lit (.bool true)], args := [d] }
  | _ => none }
def errsMessagesRow : OpenClaim := { program := "ytgdkeolmgpimaaadoor", sum := "7daa59d0308979c9eb93f9a3c580fcde9bf435ef6125acfa7901b6774ae0699b", func := "drayman/draymanlaw02.ErrsMessages", spec := "errsMessages", inPlace := ["internal/abi.NoEscape", "internal/bytealg.MakeNoZero"], named := ["drayman/errs.messages"], apart := false, laid := [("drayman/errs.messages", laid_drayman_errs_messages)] }
def ErrsMessagesSaid : Prop := errsMessagesRow.holds Tryd.pinned (OpenSpec.ofChange errsMessagesSpec)

/-- ITS FALSE NEIGHBOUR: 'it returns false'. Refute it at one input. -/
def errsMessagesWrong : ChangeSpec := { name := "errsMessages", fn := fun _ => fun
  | [d] => { results := [.lit (.bool false)], args := [d] }
  | _ => none }
def ErrsMessagesWrongFalsely : Prop := errsMessagesRow.holds Tryd.pinned (OpenSpec.ofChange errsMessagesWrong)

/-- 'draymanlaw02.ErrsFinds': WHATEVER THE INPUT: true; the input reads as it did. -/
def errsFindsSpec : ChangeSpec := { name := "errsFinds", fn := fun _ => fun
  | [d] => { results := [.lit (.bool true)], args := [d] }
  | _ => none }
def errsFindsRow : OpenClaim := { program := "ytgdkeolmgpimaaadoor", sum := "7daa59d0308979c9eb93f9a3c580fcde9bf435ef6125acfa7901b6774ae0699b", func := "drayman/draymanlaw02.ErrsFinds", spec := "errsFinds", inPlace := ["internal/abi.NoEscape", "internal/bytealg.MakeNoZero"], named := ["drayman/errs.messages"], apart := false, laid := [("drayman/errs.messages", laid_drayman_errs_messages)] }
def ErrsFindsSaid : Prop := errsFindsRow.holds Tryd.pinned (OpenSpec.ofChange errsFindsSpec)

/-- ITS FALSE NEIGHBOUR: 'it returns false'. Refute it at one input. -/
def errsFindsWrong : ChangeSpec := { name := "errsFinds", fn := fun _ => fun
  | [d] => { results := [.lit (.bool false)], args := [d] }
  | _ => none }
def ErrsFindsWrongFalsely : Prop := errsFindsRow.holds Tryd.pinned (OpenSpec.ofChange errsFindsWrong)

/-- 'draymanlaw02.ErrsApart': WHATEVER THE INPUT: true; the input reads as it did. -/
def errsApartSpec : ChangeSpec := { name := "errsApart", fn := fun _ => fun
  | [d1, d2] => { results := [.lit (.bool true)], args := [d1, d2] }
  | _ => none }
def errsApartRow : OpenClaim := { program := "ytgdkeolmgpimaaadoor", sum := "7daa59d0308979c9eb93f9a3c580fcde9bf435ef6125acfa7901b6774ae0699b", func := "drayman/draymanlaw02.ErrsApart", spec := "errsApart", inPlace := ["internal/abi.NoEscape", "internal/bytealg.MakeNoZero"], named := ["drayman/errs.messages"], apart := false, laid := [("drayman/errs.messages", laid_drayman_errs_messages)] }
def ErrsApartSaid : Prop := errsApartRow.holds Tryd.pinned (OpenSpec.ofChange errsApartSpec)

/-- ITS FALSE NEIGHBOUR: 'it returns false'. Refute it at one input. -/
def errsApartWrong : ChangeSpec := { name := "errsApart", fn := fun _ => fun
  | [d1, d2] => { results := [.lit (.bool false)], args := [d1, d2] }
  | _ => none }
def ErrsApartWrongFalsely : Prop := errsApartRow.holds Tryd.pinned (OpenSpec.ofChange errsApartWrong)

/-- 'draymanlaw02.ErrsLines': WHATEVER THE INPUT: true; the input reads as it did. -/
def errsLinesSpec : ChangeSpec := { name := "errsLines", fn := fun _ => fun
  | [d] => { results := [.lit (.bool true)], args := [d] }
  | _ => none }
def errsLinesRow : OpenClaim := { program := "ytgdkeolmgpimaaadoor", sum := "7daa59d0308979c9eb93f9a3c580fcde9bf435ef6125acfa7901b6774ae0699b", func := "drayman/draymanlaw02.ErrsLines", spec := "errsLines", inPlace := ["internal/abi.NoEscape", "internal/bytealg.MakeNoZero"], named := ["drayman/errs.messages"], apart := false, laid := [("drayman/errs.messages", laid_drayman_errs_messages)] }
def ErrsLinesSaid : Prop := errsLinesRow.holds Tryd.pinned (OpenSpec.ofChange errsLinesSpec)

/-- ITS FALSE NEIGHBOUR: 'it returns false'. Refute it at one input. -/
def errsLinesWrong : ChangeSpec := { name := "errsLines", fn := fun _ => fun
  | [d] => { results := [.lit (.bool false)], args := [d] }
  | _ => none }
def ErrsLinesWrongFalsely : Prop := errsLinesRow.holds Tryd.pinned (OpenSpec.ofChange errsLinesWrong)

/- THE SECOND FORM. 'bulk': how many values and letters a reading holds, each counted each time it is reached (what is shared counts as often as it is met; a slice's spare places count too). A statement '..UptoSaid' is the law's where the arguments, and the package variables that the reading takes, are together of bulk at most 1048576: NARROWER than '..Said'. Prove '..Said' where nothing that the law and all that it calls make is longer than what came in: it says more and counts as full. Else prove '..UptoSaid'. A law counts once. -/
mutual
def uptoBulk {H : Type} : DataW H → Nat
  | .lit (.string bytes) => bytes.length + 1
  | .lit _ => 1
  | .nil => 1
  | .ptr d => uptoBulk d + 1
  | .slice elems spare => uptoBulkAll elems + uptoBulkAll spare + 1
  | .agg parts => uptoBulkAll parts + 1
  | .iface _ d => uptoBulk d + 1
  | .map entries => uptoBulkEntries entries + 1
  | .held _ => 1
def uptoBulkAll {H : Type} : List (DataW H) → Nat
  | [] => 0
  | d :: r => uptoBulk d + uptoBulkAll r
def uptoBulkEntries {H : Type} : List (Lit × DataW H) → Nat
  | [] => 0
  | x :: r => uptoBulkEntry x + uptoBulkEntries r
def uptoBulkEntry {H : Type} : Lit × DataW H → Nat
  | (.string bytes, d) => bytes.length + uptoBulk d + 1
  | (_, d) => uptoBulk d + 1
 end
def uptoSmall : (H : Type) → List (DataW H) → Bool := fun _ ds => decide (uptoBulkAll ds ≤ 1048576)
def OpenSpec.upto (s : _root_.Go.ChangeSpec) : _root_.Go.OpenSpec := { _root_.Go.OpenSpec.ofChange s with cond := some uptoSmall }

/-- 'draymanlaw02.ErrsMessages', WHERE WHAT IT READS IS OF BULK AT MOST 1048576: true; the input reads as it did. -/
def errsMessagesUptoRow : OpenClaim := { program := "ytgdkeolmgpimaaadoor", sum := "7daa59d0308979c9eb93f9a3c580fcde9bf435ef6125acfa7901b6774ae0699b", func := "drayman/draymanlaw02.ErrsMessages", spec := "errsMessages", inPlace := ["internal/abi.NoEscape", "internal/bytealg.MakeNoZero"], named := ["drayman/errs.messages"], apart := false, laid := [("drayman/errs.messages", laid_drayman_errs_messages)], narrowed := true }
def ErrsMessagesUptoSaid : Prop := errsMessagesUptoRow.holds Tryd.pinned (OpenSpec.upto errsMessagesSpec)

/-- 'draymanlaw02.ErrsFinds', WHERE WHAT IT READS IS OF BULK AT MOST 1048576: true; the input reads as it did. -/
def errsFindsUptoRow : OpenClaim := { program := "ytgdkeolmgpimaaadoor", sum := "7daa59d0308979c9eb93f9a3c580fcde9bf435ef6125acfa7901b6774ae0699b", func := "drayman/draymanlaw02.ErrsFinds", spec := "errsFinds", inPlace := ["internal/abi.NoEscape", "internal/bytealg.MakeNoZero"], named := ["drayman/errs.messages"], apart := false, laid := [("drayman/errs.messages", laid_drayman_errs_messages)], narrowed := true }
def ErrsFindsUptoSaid : Prop := errsFindsUptoRow.holds Tryd.pinned (OpenSpec.upto errsFindsSpec)

/-- 'draymanlaw02.ErrsApart', WHERE WHAT IT READS IS OF BULK AT MOST 1048576: true; the input reads as it did. -/
def errsApartUptoRow : OpenClaim := { program := "ytgdkeolmgpimaaadoor", sum := "7daa59d0308979c9eb93f9a3c580fcde9bf435ef6125acfa7901b6774ae0699b", func := "drayman/draymanlaw02.ErrsApart", spec := "errsApart", inPlace := ["internal/abi.NoEscape", "internal/bytealg.MakeNoZero"], named := ["drayman/errs.messages"], apart := false, laid := [("drayman/errs.messages", laid_drayman_errs_messages)], narrowed := true }
def ErrsApartUptoSaid : Prop := errsApartUptoRow.holds Tryd.pinned (OpenSpec.upto errsApartSpec)

/-- 'draymanlaw02.ErrsLines', WHERE WHAT IT READS IS OF BULK AT MOST 1048576: true; the input reads as it did. -/
def errsLinesUptoRow : OpenClaim := { program := "ytgdkeolmgpimaaadoor", sum := "7daa59d0308979c9eb93f9a3c580fcde9bf435ef6125acfa7901b6774ae0699b", func := "drayman/draymanlaw02.ErrsLines", spec := "errsLines", inPlace := ["internal/abi.NoEscape", "internal/bytealg.MakeNoZero"], named := ["drayman/errs.messages"], apart := false, laid := [("drayman/errs.messages", laid_drayman_errs_messages)], narrowed := true }
def ErrsLinesUptoSaid : Prop := errsLinesUptoRow.holds Tryd.pinned (OpenSpec.upto errsLinesSpec)

end Rows
end Go.Proofs.YtgdkeolmgpimaaaDoor
