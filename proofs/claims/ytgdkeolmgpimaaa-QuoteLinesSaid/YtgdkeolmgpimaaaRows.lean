/-
  No cell of these rows narrows 'for every input' (looked for: loops, veiled, ifaces, maps, wideKeys, modest, calm, conditions, laid).
  DERIVED. THE GIVEN ROWS OF THIS SEAT. 6 by the template 'for every input the law returns true; each argument reads behind the call as it read before'; 0 by the template 'total and deterministic' (their statements: YtgdkeolmgpimaaaTotals.lean).
  GIVEN WITH THE SEED: the statements are not yours to turn. If you find one false, say at which input.
  Laid BY PROGRAM, IN A SANDBOX (cutbox-rows.mjs): the forced cells as the released guide's own fill.sh prints them over the translation a771491eeddb1bb7… (all of the seat's roots in one cut). By AI agents, Wed Nov 11 2026. No macro, syntax, notation, axiom, sorry.
-/
import Derived.Test.YtgdkeolmgpimaaaChecked
import GoSem.Claim
import GoSem.ClaimJoined
import GoSem.ClaimMapViews
import Derived.JoinedTies
import Derived.KernelRfl
namespace Go.Proofs.Ytgdkeolmgpimaaa
/- THE CELL 'sum', in the pinned program and in every row, IS THE sha256 OF THE DUMP (.gsa) THAT YtgdkeolmgpimaaaProg.lean LOADS. Nothing in Lean hashes anything: it is a label: what it is worth is what the hold of that sum in a sandbox is worth. -/
noncomputable def Try.pinned : Pinned := { name := "ytgdkeolmgpimaaa", sum := "a771491eeddb1bb7a829ebe2d2f8e56da055e34b462d6e02b9fdf89dcc117e76", checked := Try.checked }
namespace Rows
def none {H : Type} : Left H := { results := [], args := [] }

/-- 'draymanlaw01.QuotePuts': WHATEVER THE INPUT: true; the input reads as it did. -/
def quotePutsSpec : ChangeSpec := { name := "quotePuts", fn := fun _ => fun
  | [d] => { results := [.lit (.bool true)], args := [d] }
  | _ => none }
def quotePutsRow : OpenClaim := { program := "ytgdkeolmgpimaaa", sum := "a771491eeddb1bb7a829ebe2d2f8e56da055e34b462d6e02b9fdf89dcc117e76", func := "drayman/draymanlaw01.QuotePuts", spec := "quotePuts", inPlace := ["internal/bytealg.IndexByteString", "internal/abi.NoEscape", "internal/bytealg.MakeNoZero"], apart := false }
def QuotePutsSaid : Prop := quotePutsRow.holds Try.pinned (OpenSpec.ofChange quotePutsSpec)

/-- ITS FALSE NEIGHBOUR: 'it returns false'. Refute it at one input. -/
def quotePutsWrong : ChangeSpec := { name := "quotePuts", fn := fun _ => fun
  | [d] => { results := [.lit (.bool false)], args := [d] }
  | _ => none }
def QuotePutsWrongFalsely : Prop := quotePutsRow.holds Try.pinned (OpenSpec.ofChange quotePutsWrong)

/-- 'draymanlaw01.QuoteReads': WHATEVER THE INPUT: true; the input reads as it did. -/
def quoteReadsSpec : ChangeSpec := { name := "quoteReads", fn := fun _ => fun
  | [d] => { results := [.lit (.bool true)], args := [d] }
  | _ => none }
def quoteReadsRow : OpenClaim := { program := "ytgdkeolmgpimaaa", sum := "a771491eeddb1bb7a829ebe2d2f8e56da055e34b462d6e02b9fdf89dcc117e76", func := "drayman/draymanlaw01.QuoteReads", spec := "quoteReads", inPlace := ["internal/bytealg.IndexByteString", "internal/abi.NoEscape", "internal/bytealg.MakeNoZero"], apart := false }
def QuoteReadsSaid : Prop := quoteReadsRow.holds Try.pinned (OpenSpec.ofChange quoteReadsSpec)

/-- ITS FALSE NEIGHBOUR: 'it returns false'. Refute it at one input. -/
def quoteReadsWrong : ChangeSpec := { name := "quoteReads", fn := fun _ => fun
  | [d] => { results := [.lit (.bool false)], args := [d] }
  | _ => none }
def QuoteReadsWrongFalsely : Prop := quoteReadsRow.holds Try.pinned (OpenSpec.ofChange quoteReadsWrong)

/-- 'draymanlaw01.QuoteSplits': WHATEVER THE INPUT: true; the input reads as it did. -/
def quoteSplitsSpec : ChangeSpec := { name := "quoteSplits", fn := fun _ => fun
  | [d] => { results := [.lit (.bool true)], args := [d] }
  | _ => none }
def quoteSplitsRow : OpenClaim := { program := "ytgdkeolmgpimaaa", sum := "a771491eeddb1bb7a829ebe2d2f8e56da055e34b462d6e02b9fdf89dcc117e76", func := "drayman/draymanlaw01.QuoteSplits", spec := "quoteSplits", inPlace := ["internal/bytealg.IndexByteString", "internal/abi.NoEscape", "internal/bytealg.MakeNoZero"], apart := false }
def QuoteSplitsSaid : Prop := quoteSplitsRow.holds Try.pinned (OpenSpec.ofChange quoteSplitsSpec)

/-- ITS FALSE NEIGHBOUR: 'it returns false'. Refute it at one input. -/
def quoteSplitsWrong : ChangeSpec := { name := "quoteSplits", fn := fun _ => fun
  | [d] => { results := [.lit (.bool false)], args := [d] }
  | _ => none }
def QuoteSplitsWrongFalsely : Prop := quoteSplitsRow.holds Try.pinned (OpenSpec.ofChange quoteSplitsWrong)

/-- 'draymanlaw01.QuoteBack': WHATEVER THE INPUT: true; the input reads as it did. -/
def quoteBackSpec : ChangeSpec := { name := "quoteBack", fn := fun _ => fun
  | [d1, d2] => { results := [.lit (.bool true)], args := [d1, d2] }
  | _ => none }
def quoteBackRow : OpenClaim := { program := "ytgdkeolmgpimaaa", sum := "a771491eeddb1bb7a829ebe2d2f8e56da055e34b462d6e02b9fdf89dcc117e76", func := "drayman/draymanlaw01.QuoteBack", spec := "quoteBack", inPlace := ["internal/bytealg.IndexByteString", "internal/abi.NoEscape", "internal/bytealg.MakeNoZero"], apart := false }
def QuoteBackSaid : Prop := quoteBackRow.holds Try.pinned (OpenSpec.ofChange quoteBackSpec)

/-- ITS FALSE NEIGHBOUR: 'it returns false'. Refute it at one input. -/
def quoteBackWrong : ChangeSpec := { name := "quoteBack", fn := fun _ => fun
  | [d1, d2] => { results := [.lit (.bool false)], args := [d1, d2] }
  | _ => none }
def QuoteBackWrongFalsely : Prop := quoteBackRow.holds Try.pinned (OpenSpec.ofChange quoteBackWrong)

/-- 'draymanlaw01.QuoteLines': WHATEVER THE INPUT: true; the input reads as it did. -/
def quoteLinesSpec : ChangeSpec := { name := "quoteLines", fn := fun _ => fun
  | [d1, d2] => { results := [.lit (.bool true)], args := [d1, d2] }
  | _ => none }
def quoteLinesRow : OpenClaim := { program := "ytgdkeolmgpimaaa", sum := "a771491eeddb1bb7a829ebe2d2f8e56da055e34b462d6e02b9fdf89dcc117e76", func := "drayman/draymanlaw01.QuoteLines", spec := "quoteLines", inPlace := ["internal/bytealg.IndexByteString", "internal/abi.NoEscape", "internal/bytealg.MakeNoZero"], apart := false }
def QuoteLinesSaid : Prop := quoteLinesRow.holds Try.pinned (OpenSpec.ofChange quoteLinesSpec)

/-- ITS FALSE NEIGHBOUR: 'it returns false'. Refute it at one input. -/
def quoteLinesWrong : ChangeSpec := { name := "quoteLines", fn := fun _ => fun
  | [d1, d2] => { results := [.lit (.bool false)], args := [d1, d2] }
  | _ => none }
def QuoteLinesWrongFalsely : Prop := quoteLinesRow.holds Try.pinned (OpenSpec.ofChange quoteLinesWrong)

/-- 'draymanlaw01.QuoteBlank': WHATEVER THE INPUT: true; the input reads as it did. -/
def quoteBlankSpec : ChangeSpec := { name := "quoteBlank", fn := fun _ => fun
  | [d1, d2] => { results := [.lit (.bool true)], args := [d1, d2] }
  | _ => none }
def quoteBlankRow : OpenClaim := { program := "ytgdkeolmgpimaaa", sum := "a771491eeddb1bb7a829ebe2d2f8e56da055e34b462d6e02b9fdf89dcc117e76", func := "drayman/draymanlaw01.QuoteBlank", spec := "quoteBlank", inPlace := ["internal/bytealg.IndexByteString", "internal/abi.NoEscape", "internal/bytealg.MakeNoZero"], apart := false }
def QuoteBlankSaid : Prop := quoteBlankRow.holds Try.pinned (OpenSpec.ofChange quoteBlankSpec)

/-- ITS FALSE NEIGHBOUR: 'it returns false'. Refute it at one input. -/
def quoteBlankWrong : ChangeSpec := { name := "quoteBlank", fn := fun _ => fun
  | [d1, d2] => { results := [.lit (.bool false)], args := [d1, d2] }
  | _ => none }
def QuoteBlankWrongFalsely : Prop := quoteBlankRow.holds Try.pinned (OpenSpec.ofChange quoteBlankWrong)

/- THE SECOND FORM. 'bulk': how many values and letters a reading holds, each counted each time it is reached (what is shared counts as often as it is met; a slice's spare places count too). A statement '..UptoSaid' is the law's where the arguments, and the package variables that the reading takes, are together of bulk at most 1048576: NARROWER than '..Said'. Prove '..Said' where nothing that the law and all that it calls make is longer than what came in: it says more and counts as full. Else prove '..UptoSaid'. A law counts once. -/
mutual
def uptoBulk {H : Type} : DataW H → Nat
  | .lit (.string bytes) => bytes.length + 1
  | .lit _ => 1
  | .nil => 1
  | .ptr d => uptoBulk d + 1
  | .slice elems spare => uptoBulkAll elems + uptoBulkAll spare + 1
  | .agg parts => uptoBulkAll parts + 1
  | .iface _ d => uptoBulk d + 1
  | .map entries => uptoBulkEntries entries + 1
  | .held _ => 1
def uptoBulkAll {H : Type} : List (DataW H) → Nat
  | [] => 0
  | d :: r => uptoBulk d + uptoBulkAll r
def uptoBulkEntries {H : Type} : List (Lit × DataW H) → Nat
  | [] => 0
  | x :: r => uptoBulkEntry x + uptoBulkEntries r
def uptoBulkEntry {H : Type} : Lit × DataW H → Nat
  | (.string bytes, d) => bytes.length + uptoBulk d + 1
  | (_, d) => uptoBulk d + 1
 end
def uptoSmall : (H : Type) → List (DataW H) → Bool := fun _ ds => decide (uptoBulkAll ds ≤ 1048576)
def OpenSpec.upto (s : _root_.Go.ChangeSpec) : _root_.Go.OpenSpec := { _root_.Go.OpenSpec.ofChange s with cond := some uptoSmall }

/-- 'draymanlaw01.QuotePuts', WHERE WHAT IT READS IS OF BULK AT MOST 1048576: true; the input reads as it did. -/
def quotePutsUptoRow : OpenClaim := { program := "ytgdkeolmgpimaaa", sum := "a771491eeddb1bb7a829ebe2d2f8e56da055e34b462d6e02b9fdf89dcc117e76", func := "drayman/draymanlaw01.QuotePuts", spec := "quotePuts", inPlace := ["internal/bytealg.IndexByteString", "internal/abi.NoEscape", "internal/bytealg.MakeNoZero"], apart := false, narrowed := true }
def QuotePutsUptoSaid : Prop := quotePutsUptoRow.holds Try.pinned (OpenSpec.upto quotePutsSpec)

/-- 'draymanlaw01.QuoteReads', WHERE WHAT IT READS IS OF BULK AT MOST 1048576: true; the input reads as it did. -/
def quoteReadsUptoRow : OpenClaim := { program := "ytgdkeolmgpimaaa", sum := "a771491eeddb1bb7a829ebe2d2f8e56da055e34b462d6e02b9fdf89dcc117e76", func := "drayman/draymanlaw01.QuoteReads", spec := "quoteReads", inPlace := ["internal/bytealg.IndexByteString", "internal/abi.NoEscape", "internal/bytealg.MakeNoZero"], apart := false, narrowed := true }
def QuoteReadsUptoSaid : Prop := quoteReadsUptoRow.holds Try.pinned (OpenSpec.upto quoteReadsSpec)

/-- 'draymanlaw01.QuoteSplits', WHERE WHAT IT READS IS OF BULK AT MOST 1048576: true; the input reads as it did. -/
def quoteSplitsUptoRow : OpenClaim := { program := "ytgdkeolmgpimaaa", sum := "a771491eeddb1bb7a829ebe2d2f8e56da055e34b462d6e02b9fdf89dcc117e76", func := "drayman/draymanlaw01.QuoteSplits", spec := "quoteSplits", inPlace := ["internal/bytealg.IndexByteString", "internal/abi.NoEscape", "internal/bytealg.MakeNoZero"], apart := false, narrowed := true }
def QuoteSplitsUptoSaid : Prop := quoteSplitsUptoRow.holds Try.pinned (OpenSpec.upto quoteSplitsSpec)

/-- 'draymanlaw01.QuoteBack', WHERE WHAT IT READS IS OF BULK AT MOST 1048576: true; the input reads as it did. -/
def quoteBackUptoRow : OpenClaim := { program := "ytgdkeolmgpimaaa", sum := "a771491eeddb1bb7a829ebe2d2f8e56da055e34b462d6e02b9fdf89dcc117e76", func := "drayman/draymanlaw01.QuoteBack", spec := "quoteBack", inPlace := ["internal/bytealg.IndexByteString", "internal/abi.NoEscape", "internal/bytealg.MakeNoZero"], apart := false, narrowed := true }
def QuoteBackUptoSaid : Prop := quoteBackUptoRow.holds Try.pinned (OpenSpec.upto quoteBackSpec)

/-- 'draymanlaw01.QuoteLines', WHERE WHAT IT READS IS OF BULK AT MOST 1048576: true; the input reads as it did. -/
def quoteLinesUptoRow : OpenClaim := { program := "ytgdkeolmgpimaaa", sum := "a771491eeddb1bb7a829ebe2d2f8e56da055e34b462d6e02b9fdf89dcc117e76", func := "drayman/draymanlaw01.QuoteLines", spec := "quoteLines", inPlace := ["internal/bytealg.IndexByteString", "internal/abi.NoEscape", "internal/bytealg.MakeNoZero"], apart := false, narrowed := true }
def QuoteLinesUptoSaid : Prop := quoteLinesUptoRow.holds Try.pinned (OpenSpec.upto quoteLinesSpec)

/-- 'draymanlaw01.QuoteBlank', WHERE WHAT IT READS IS OF BULK AT MOST 1048576: true; the input reads as it did. -/
def quoteBlankUptoRow : OpenClaim := { program := "ytgdkeolmgpimaaa", sum := "a771491eeddb1bb7a829ebe2d2f8e56da055e34b462d6e02b9fdf89dcc117e76", func := "drayman/draymanlaw01.QuoteBlank", spec := "quoteBlank", inPlace := ["internal/bytealg.IndexByteString", "internal/abi.NoEscape", "internal/bytealg.MakeNoZero"], apart := false, narrowed := true }
def QuoteBlankUptoSaid : Prop := quoteBlankUptoRow.holds Try.pinned (OpenSpec.upto quoteBlankSpec)

end Rows
end Go.Proofs.Ytgdkeolmgpimaaa
