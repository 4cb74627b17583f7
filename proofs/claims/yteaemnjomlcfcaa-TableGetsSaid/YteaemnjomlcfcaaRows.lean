/-
  No cell of these rows narrows 'for every input' (looked for: loops, veiled, ifaces, maps, wideKeys, modest, calm, conditions, laid).
  DERIVED. THE GIVEN ROWS OF THIS SEAT. 6 by the template 'for every input the law returns true; each argument reads behind the call as it read before'; 0 by the template 'total and deterministic' (their statements: YteaemnjomlcfcaaTotals.lean).
  GIVEN WITH THE SEED: the statements are not yours to turn. If you find one false, say at which input.
  Laid BY PROGRAM, IN A SANDBOX (cutbox-rows.mjs): the forced cells as the released guide's own fill.sh prints them over the translation 0c124c3b192ede82… (all of the seat's roots in one cut). By AI agents, Wed Nov 11 2026. No macro, syntax, notation, axiom, sorry.
-/
import Derived.Test.YteaemnjomlcfcaaChecked
import GoSem.Claim
import GoSem.ClaimJoined
import GoSem.ClaimMapViews
import Derived.JoinedTies
import Derived.KernelRfl
namespace Go.Proofs.Yteaemnjomlcfcaa
/- THE CELL 'sum', in the pinned program and in every row, IS THE sha256 OF THE DUMP (.gsa) THAT YteaemnjomlcfcaaProg.lean LOADS. Nothing in Lean hashes anything: it is a label: what it is worth is what the hold of that sum in a sandbox is worth. -/
noncomputable def Try.pinned : Pinned := { name := "yteaemnjomlcfcaa", sum := "0c124c3b192ede826f1867b73efb56fa2cb06bb1a399f3c71fdf4fd0cb1a1a77", checked := Try.checked }
namespace Rows
def none {H : Type} : Left H := { results := [], args := [] }

/-- 'draymanlaw05.TableNews': WHATEVER THE INPUT: true; the input reads as it did. -/
def tableNewsSpec : ChangeSpec := { name := "tableNews", fn := fun _ => fun
  | [d1, d2] => { results := [.lit (.bool true)], args := [d1, d2] }
  | _ => none }
def tableNewsRow : OpenClaim := { program := "yteaemnjomlcfcaa", sum := "0c124c3b192ede826f1867b73efb56fa2cb06bb1a399f3c71fdf4fd0cb1a1a77", func := "drayman/draymanlaw05.TableNews", spec := "tableNews", inPlace := ["slices.overlaps[drayman/api.Inode]"], unfollowed := true, recurses := true, apart := false }
def TableNewsSaid : Prop := tableNewsRow.holds Try.pinned (OpenSpec.ofChange tableNewsSpec)

/-- ITS FALSE NEIGHBOUR: 'it returns false'. Refute it at one input. -/
def tableNewsWrong : ChangeSpec := { name := "tableNews", fn := fun _ => fun
  | [d1, d2] => { results := [.lit (.bool false)], args := [d1, d2] }
  | _ => none }
def TableNewsWrongFalsely : Prop := tableNewsRow.holds Try.pinned (OpenSpec.ofChange tableNewsWrong)

/-- 'draymanlaw05.TableGets': WHATEVER THE INPUT: true; the input reads as it did. -/
def tableGetsSpec : ChangeSpec := { name := "tableGets", fn := fun _ => fun
  | [d1, d2] => { results := [.lit (.bool true)], args := [d1, d2] }
  | _ => none }
def tableGetsRow : OpenClaim := { program := "yteaemnjomlcfcaa", sum := "0c124c3b192ede826f1867b73efb56fa2cb06bb1a399f3c71fdf4fd0cb1a1a77", func := "drayman/draymanlaw05.TableGets", spec := "tableGets", inPlace := ["slices.overlaps[drayman/api.Inode]"], unfollowed := true, recurses := true, apart := false }
def TableGetsSaid : Prop := tableGetsRow.holds Try.pinned (OpenSpec.ofChange tableGetsSpec)

/-- ITS FALSE NEIGHBOUR: 'it returns false'. Refute it at one input. -/
def tableGetsWrong : ChangeSpec := { name := "tableGets", fn := fun _ => fun
  | [d1, d2] => { results := [.lit (.bool false)], args := [d1, d2] }
  | _ => none }
def TableGetsWrongFalsely : Prop := tableGetsRow.holds Try.pinned (OpenSpec.ofChange tableGetsWrong)

/-- 'draymanlaw05.TableSets': WHATEVER THE INPUT: true; the input reads as it did. -/
def tableSetsSpec : ChangeSpec := { name := "tableSets", fn := fun _ => fun
  | [d1, d2] => { results := [.lit (.bool true)], args := [d1, d2] }
  | _ => none }
def tableSetsRow : OpenClaim := { program := "yteaemnjomlcfcaa", sum := "0c124c3b192ede826f1867b73efb56fa2cb06bb1a399f3c71fdf4fd0cb1a1a77", func := "drayman/draymanlaw05.TableSets", spec := "tableSets", inPlace := ["slices.overlaps[drayman/api.Inode]"], unfollowed := true, recurses := true, apart := false }
def TableSetsSaid : Prop := tableSetsRow.holds Try.pinned (OpenSpec.ofChange tableSetsSpec)

/-- ITS FALSE NEIGHBOUR: 'it returns false'. Refute it at one input. -/
def tableSetsWrong : ChangeSpec := { name := "tableSets", fn := fun _ => fun
  | [d1, d2] => { results := [.lit (.bool false)], args := [d1, d2] }
  | _ => none }
def TableSetsWrongFalsely : Prop := tableSetsRow.holds Try.pinned (OpenSpec.ofChange tableSetsWrong)

/-- 'draymanlaw05.TableSames': WHATEVER THE INPUT: true; the input reads as it did. -/
def tableSamesSpec : ChangeSpec := { name := "tableSames", fn := fun _ => fun
  | [d1, d2] => { results := [.lit (.bool true)], args := [d1, d2] }
  | _ => none }
def tableSamesRow : OpenClaim := { program := "yteaemnjomlcfcaa", sum := "0c124c3b192ede826f1867b73efb56fa2cb06bb1a399f3c71fdf4fd0cb1a1a77", func := "drayman/draymanlaw05.TableSames", spec := "tableSames", inPlace := ["slices.overlaps[drayman/api.Inode]"], unfollowed := true, recurses := true, apart := false }
def TableSamesSaid : Prop := tableSamesRow.holds Try.pinned (OpenSpec.ofChange tableSamesSpec)

/-- ITS FALSE NEIGHBOUR: 'it returns false'. Refute it at one input. -/
def tableSamesWrong : ChangeSpec := { name := "tableSames", fn := fun _ => fun
  | [d1, d2] => { results := [.lit (.bool false)], args := [d1, d2] }
  | _ => none }
def TableSamesWrongFalsely : Prop := tableSamesRow.holds Try.pinned (OpenSpec.ofChange tableSamesWrong)

/-- 'draymanlaw05.TableHolds': WHATEVER THE INPUT: true; the input reads as it did. -/
def tableHoldsSpec : ChangeSpec := { name := "tableHolds", fn := fun _ => fun
  | [d1, d2] => { results := [.lit (.bool true)], args := [d1, d2] }
  | _ => none }
def tableHoldsRow : OpenClaim := { program := "yteaemnjomlcfcaa", sum := "0c124c3b192ede826f1867b73efb56fa2cb06bb1a399f3c71fdf4fd0cb1a1a77", func := "drayman/draymanlaw05.TableHolds", spec := "tableHolds", inPlace := ["slices.overlaps[drayman/api.Inode]"], unfollowed := true, recurses := true, apart := false }
def TableHoldsSaid : Prop := tableHoldsRow.holds Try.pinned (OpenSpec.ofChange tableHoldsSpec)

/-- ITS FALSE NEIGHBOUR: 'it returns false'. Refute it at one input. -/
def tableHoldsWrong : ChangeSpec := { name := "tableHolds", fn := fun _ => fun
  | [d1, d2] => { results := [.lit (.bool false)], args := [d1, d2] }
  | _ => none }
def TableHoldsWrongFalsely : Prop := tableHoldsRow.holds Try.pinned (OpenSpec.ofChange tableHoldsWrong)

/-- 'draymanlaw05.TableKeeps': WHATEVER THE INPUT: true; the input reads as it did. -/
def tableKeepsSpec : ChangeSpec := { name := "tableKeeps", fn := fun _ => fun
  | [d1, d2] => { results := [.lit (.bool true)], args := [d1, d2] }
  | _ => none }
def tableKeepsRow : OpenClaim := { program := "yteaemnjomlcfcaa", sum := "0c124c3b192ede826f1867b73efb56fa2cb06bb1a399f3c71fdf4fd0cb1a1a77", func := "drayman/draymanlaw05.TableKeeps", spec := "tableKeeps", inPlace := ["slices.overlaps[drayman/api.Inode]"], unfollowed := true, recurses := true, apart := false }
def TableKeepsSaid : Prop := tableKeepsRow.holds Try.pinned (OpenSpec.ofChange tableKeepsSpec)

/-- ITS FALSE NEIGHBOUR: 'it returns false'. Refute it at one input. -/
def tableKeepsWrong : ChangeSpec := { name := "tableKeeps", fn := fun _ => fun
  | [d1, d2] => { results := [.lit (.bool false)], args := [d1, d2] }
  | _ => none }
def TableKeepsWrongFalsely : Prop := tableKeepsRow.holds Try.pinned (OpenSpec.ofChange tableKeepsWrong)

/- THE SECOND FORM. 'bulk': how many values and letters a reading holds, each counted each time it is reached (what is shared counts as often as it is met; a slice's spare places count too). A statement '..UptoSaid' is the law's where the arguments, and the package variables that the reading takes, are together of bulk at most 1048576: NARROWER than '..Said'. Prove '..Said' where nothing that the law and all that it calls make is longer than what came in: it says more and counts as full. Else prove '..UptoSaid'. A law counts once. -/
mutual
def uptoBulk {H : Type} : DataW H → Nat
  | .lit (.string bytes) => bytes.length + 1
  | .lit _ => 1
  | .nil => 1
  | .ptr d => uptoBulk d + 1
  | .slice elems spare => uptoBulkAll elems + uptoBulkAll spare + 1
  | .agg parts => uptoBulkAll parts + 1
  | .iface _ d => uptoBulk d + 1
  | .map entries => uptoBulkEntries entries + 1
  | .held _ => 1
def uptoBulkAll {H : Type} : List (DataW H) → Nat
  | [] => 0
  | d :: r => uptoBulk d + uptoBulkAll r
def uptoBulkEntries {H : Type} : List (Lit × DataW H) → Nat
  | [] => 0
  | x :: r => uptoBulkEntry x + uptoBulkEntries r
def uptoBulkEntry {H : Type} : Lit × DataW H → Nat
  | (.string bytes, d) => bytes.length + uptoBulk d + 1
  | (_, d) => uptoBulk d + 1
 end
def uptoSmall : (H : Type) → List (DataW H) → Bool := fun _ ds => decide (uptoBulkAll ds ≤ 1048576)
def OpenSpec.upto (s : _root_.Go.ChangeSpec) : _root_.Go.OpenSpec := { _root_.Go.OpenSpec.ofChange s with cond := some uptoSmall }

/-- 'draymanlaw05.TableNews', WHERE WHAT IT READS IS OF BULK AT MOST 1048576: true; the input reads as it did. -/
def tableNewsUptoRow : OpenClaim := { program := "yteaemnjomlcfcaa", sum := "0c124c3b192ede826f1867b73efb56fa2cb06bb1a399f3c71fdf4fd0cb1a1a77", func := "drayman/draymanlaw05.TableNews", spec := "tableNews", inPlace := ["slices.overlaps[drayman/api.Inode]"], unfollowed := true, recurses := true, apart := false, narrowed := true }
def TableNewsUptoSaid : Prop := tableNewsUptoRow.holds Try.pinned (OpenSpec.upto tableNewsSpec)

/-- 'draymanlaw05.TableGets', WHERE WHAT IT READS IS OF BULK AT MOST 1048576: true; the input reads as it did. -/
def tableGetsUptoRow : OpenClaim := { program := "yteaemnjomlcfcaa", sum := "0c124c3b192ede826f1867b73efb56fa2cb06bb1a399f3c71fdf4fd0cb1a1a77", func := "drayman/draymanlaw05.TableGets", spec := "tableGets", inPlace := ["slices.overlaps[drayman/api.Inode]"], unfollowed := true, recurses := true, apart := false, narrowed := true }
def TableGetsUptoSaid : Prop := tableGetsUptoRow.holds Try.pinned (OpenSpec.upto tableGetsSpec)

/-- 'draymanlaw05.TableSets', WHERE WHAT IT READS IS OF BULK AT MOST 1048576: true; the input reads as it did. -/
def tableSetsUptoRow : OpenClaim := { program := "yteaemnjomlcfcaa", sum := "0c124c3b192ede826f1867b73efb56fa2cb06bb1a399f3c71fdf4fd0cb1a1a77", func := "drayman/draymanlaw05.TableSets", spec := "tableSets", inPlace := ["slices.overlaps[drayman/api.Inode]"], unfollowed := true, recurses := true, apart := false, narrowed := true }
def TableSetsUptoSaid : Prop := tableSetsUptoRow.holds Try.pinned (OpenSpec.upto tableSetsSpec)

/-- 'draymanlaw05.TableSames', WHERE WHAT IT READS IS OF BULK AT MOST 1048576: true; the input reads as it did. -/
def tableSamesUptoRow : OpenClaim := { program := "yteaemnjomlcfcaa", sum := "0c124c3b192ede826f1867b73efb56fa2cb06bb1a399f3c71fdf4fd0cb1a1a77", func := "drayman/draymanlaw05.TableSames", spec := "tableSames", inPlace := ["slices.overlaps[drayman/api.Inode]"], unfollowed := true, recurses := true, apart := false, narrowed := true }
def TableSamesUptoSaid : Prop := tableSamesUptoRow.holds Try.pinned (OpenSpec.upto tableSamesSpec)

/-- 'draymanlaw05.TableHolds', WHERE WHAT IT READS IS OF BULK AT MOST 1048576: true; the input reads as it did. -/
def tableHoldsUptoRow : OpenClaim := { program := "yteaemnjomlcfcaa", sum := "0c124c3b192ede826f1867b73efb56fa2cb06bb1a399f3c71fdf4fd0cb1a1a77", func := "drayman/draymanlaw05.TableHolds", spec := "tableHolds", inPlace := ["slices.overlaps[drayman/api.Inode]"], unfollowed := true, recurses := true, apart := false, narrowed := true }
def TableHoldsUptoSaid : Prop := tableHoldsUptoRow.holds Try.pinned (OpenSpec.upto tableHoldsSpec)

/-- 'draymanlaw05.TableKeeps', WHERE WHAT IT READS IS OF BULK AT MOST 1048576: true; the input reads as it did. -/
def tableKeepsUptoRow : OpenClaim := { program := "yteaemnjomlcfcaa", sum := "0c124c3b192ede826f1867b73efb56fa2cb06bb1a399f3c71fdf4fd0cb1a1a77", func := "drayman/draymanlaw05.TableKeeps", spec := "tableKeeps", inPlace := ["slices.overlaps[drayman/api.Inode]"], unfollowed := true, recurses := true, apart := false, narrowed := true }
def TableKeepsUptoSaid : Prop := tableKeepsUptoRow.holds Try.pinned (OpenSpec.upto tableKeepsSpec)

end Rows
end Go.Proofs.Yteaemnjomlcfcaa
