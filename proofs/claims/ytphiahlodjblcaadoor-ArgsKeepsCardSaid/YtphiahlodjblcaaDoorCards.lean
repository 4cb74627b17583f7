/-
  DERIVED. GIVEN WITH THE SEED: THE CARDS: each row of YtphiahlodjblcaaDoorRows.lean that lists a variable, with what it lists TIED to the program's text (the seventh form; the later family's looks); each row that meets fmt, with fmt's text TOLD by the authors' own Lean function (tested against real Go, not proved from fmt's source: count such statements apart). THE CARD IS WHAT COUNTS. Prove the row's statement (the work); the ties are given (YtphiahlodjblcaaDoorTie.lean); close each card by the builder's one call (the guide's Derived/Test/ToyasCard.lean, 'card_holds'). Laid BY PROGRAM, IN A SANDBOX (cutbox-door.mjs). By AI agents, Wed Nov 11 2026. No macro, syntax, notation, axiom, sorry.
-/
import Derived.Test.YtphiahlodjblcaaDoorRows
import GoSem.ClaimSeven
namespace Go.Proofs.YtphiahlodjblcaaDoor
namespace Rows

/-- THE TIED CARD OF 'draymanlaw17.ArgsReads'. -/
def argsReadsCard : Claim7 := { stood := { row := argsReadsRow, standIns := [], harness := (true, "d33b951a88abd4cabc2acad34cb6f36c2925327db8322d633cdf2ebf402fb412"), looks := false }, kinds := [], alts := [], laidByText := true, laidKinds := [.data], laidTests := true, laidLooks := .later }
def ArgsReadsCardSaid : Prop := Claim7.holds Tryd.pinned (.plain (OpenSpec.ofChange argsReadsSpec)) argsReadsCard

/-- THE TIED CARD OF 'draymanlaw17.ArgsNames'. -/
def argsNamesCard : Claim7 := { stood := { row := argsNamesRow, standIns := [], harness := (true, "d33b951a88abd4cabc2acad34cb6f36c2925327db8322d633cdf2ebf402fb412"), looks := false }, kinds := [], alts := [], laidByText := true, laidKinds := [.data], laidTests := true, laidLooks := .later }
def ArgsNamesCardSaid : Prop := Claim7.holds Tryd.pinned (.plain (OpenSpec.ofChange argsNamesSpec)) argsNamesCard

/-- THE TIED CARD OF 'draymanlaw17.ArgsOrder'. -/
def argsOrderCard : Claim7 := { stood := { row := argsOrderRow, standIns := [], harness := (true, "d33b951a88abd4cabc2acad34cb6f36c2925327db8322d633cdf2ebf402fb412"), looks := false }, kinds := [], alts := [], laidByText := true, laidKinds := [.data], laidTests := true, laidLooks := .later }
def ArgsOrderCardSaid : Prop := Claim7.holds Tryd.pinned (.plain (OpenSpec.ofChange argsOrderSpec)) argsOrderCard

/-- THE TIED CARD OF 'draymanlaw17.ArgsOperands'. -/
def argsOperandsCard : Claim7 := { stood := { row := argsOperandsRow, standIns := [], harness := (true, "d33b951a88abd4cabc2acad34cb6f36c2925327db8322d633cdf2ebf402fb412"), looks := false }, kinds := [], alts := [], laidByText := true, laidKinds := [.data], laidTests := true, laidLooks := .later }
def ArgsOperandsCardSaid : Prop := Claim7.holds Tryd.pinned (.plain (OpenSpec.ofChange argsOperandsSpec)) argsOperandsCard

/-- THE TIED CARD OF 'draymanlaw17.ArgsKeeps'. -/
def argsKeepsCard : Claim7 := { stood := { row := argsKeepsRow, standIns := [], harness := (true, "d33b951a88abd4cabc2acad34cb6f36c2925327db8322d633cdf2ebf402fb412"), looks := false }, kinds := [], alts := [], laidByText := true, laidKinds := [.data], laidTests := true, laidLooks := .later }
def ArgsKeepsCardSaid : Prop := Claim7.holds Tryd.pinned (.plain (OpenSpec.ofChange argsKeepsSpec)) argsKeepsCard

/-- THE SECOND FORM's CARD OF 'draymanlaw17.ArgsReads'. -/
def argsReadsUptoCard : Claim7 := { stood := { row := argsReadsUptoRow, standIns := [], harness := (true, "d33b951a88abd4cabc2acad34cb6f36c2925327db8322d633cdf2ebf402fb412"), looks := false }, kinds := [], alts := [], laidByText := true, laidKinds := [.data], laidTests := true, laidLooks := .later }
def ArgsReadsUptoCardSaid : Prop := Claim7.holds Tryd.pinned (.plain (OpenSpec.upto argsReadsSpec)) argsReadsUptoCard

/-- THE SECOND FORM's CARD OF 'draymanlaw17.ArgsNames'. -/
def argsNamesUptoCard : Claim7 := { stood := { row := argsNamesUptoRow, standIns := [], harness := (true, "d33b951a88abd4cabc2acad34cb6f36c2925327db8322d633cdf2ebf402fb412"), looks := false }, kinds := [], alts := [], laidByText := true, laidKinds := [.data], laidTests := true, laidLooks := .later }
def ArgsNamesUptoCardSaid : Prop := Claim7.holds Tryd.pinned (.plain (OpenSpec.upto argsNamesSpec)) argsNamesUptoCard

/-- THE SECOND FORM's CARD OF 'draymanlaw17.ArgsOrder'. -/
def argsOrderUptoCard : Claim7 := { stood := { row := argsOrderUptoRow, standIns := [], harness := (true, "d33b951a88abd4cabc2acad34cb6f36c2925327db8322d633cdf2ebf402fb412"), looks := false }, kinds := [], alts := [], laidByText := true, laidKinds := [.data], laidTests := true, laidLooks := .later }
def ArgsOrderUptoCardSaid : Prop := Claim7.holds Tryd.pinned (.plain (OpenSpec.upto argsOrderSpec)) argsOrderUptoCard

/-- THE SECOND FORM's CARD OF 'draymanlaw17.ArgsOperands'. -/
def argsOperandsUptoCard : Claim7 := { stood := { row := argsOperandsUptoRow, standIns := [], harness := (true, "d33b951a88abd4cabc2acad34cb6f36c2925327db8322d633cdf2ebf402fb412"), looks := false }, kinds := [], alts := [], laidByText := true, laidKinds := [.data], laidTests := true, laidLooks := .later }
def ArgsOperandsUptoCardSaid : Prop := Claim7.holds Tryd.pinned (.plain (OpenSpec.upto argsOperandsSpec)) argsOperandsUptoCard

/-- THE SECOND FORM's CARD OF 'draymanlaw17.ArgsKeeps'. -/
def argsKeepsUptoCard : Claim7 := { stood := { row := argsKeepsUptoRow, standIns := [], harness := (true, "d33b951a88abd4cabc2acad34cb6f36c2925327db8322d633cdf2ebf402fb412"), looks := false }, kinds := [], alts := [], laidByText := true, laidKinds := [.data], laidTests := true, laidLooks := .later }
def ArgsKeepsUptoCardSaid : Prop := Claim7.holds Tryd.pinned (.plain (OpenSpec.upto argsKeepsSpec)) argsKeepsUptoCard
end Rows
end Go.Proofs.YtphiahlodjblcaaDoor
