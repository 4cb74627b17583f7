/-
  DERIVED. GIVEN WITH THE SEED: THE CARDS: each row of YtbphobmohdclaaaGreatDoorRows.lean that lists a variable, with what it lists TIED to the program's text (the seventh form; the later family's looks); each row that meets fmt, with fmt's text TOLD by the authors' own Lean function (tested against real Go, not proved from fmt's source: count such statements apart). THE CARD IS WHAT COUNTS. Prove the row's statement (the work); the ties are given (YtbphobmohdclaaaGreatDoorTie.lean); close each card by the builder's one call (the guide's Derived/Test/ToyasCard.lean, 'card_holds'). Laid BY PROGRAM, IN A SANDBOX (cutbox-door.mjs). By AI agents, Wed Nov 11 2026. No macro, syntax, notation, axiom, sorry.
-/
import Derived.Test.YtbphobmohdclaaaGreatDoorRows
import GoSem.ClaimSeven
namespace Go.Proofs.YtbphobmohdclaaaGreatDoor
namespace Rows

/-- THE TIED CARD OF 'draymanlaw20.LangLines'. -/
def langLinesCard : Claim7 := { stood := { row := langLinesRow, standIns := [], harness := (true, "ff47b1dc6b804c5902e8bf20fd4085009fd670db2c233b76c37cf92bebe2f3f8"), looks := false }, kinds := [], alts := [], laidByText := true, laidKinds := [.data, .data, .data, .data, .data, .data, .pinned], laidTests := true, laidLooks := .later }
def LangLinesCardSaid : Prop := Claim7.holds Tryz.pinned (.plain (OpenSpec.ofChange langLinesSpec)) langLinesCard

/-- THE TIED CARD OF 'draymanlaw20.LangPuts'. -/
def langPutsCard : Claim7 := { stood := { row := langPutsRow, standIns := [], harness := (true, "ff47b1dc6b804c5902e8bf20fd4085009fd670db2c233b76c37cf92bebe2f3f8"), looks := false }, kinds := [], alts := [], laidByText := true, laidKinds := [.data, .data, .data, .data, .data, .data, .pinned], laidTests := true, laidLooks := .later }
def LangPutsCardSaid : Prop := Claim7.holds Tryz.pinned (.plain (OpenSpec.ofChange langPutsSpec)) langPutsCard

/-- THE TIED CARD OF 'draymanlaw20.LangGets'. -/
def langGetsCard : Claim7 := { stood := { row := langGetsRow, standIns := [], harness := (true, "ff47b1dc6b804c5902e8bf20fd4085009fd670db2c233b76c37cf92bebe2f3f8"), looks := false }, kinds := [], alts := [], laidByText := true, laidKinds := [.data, .data, .data, .data, .data, .data, .pinned], laidTests := true, laidLooks := .later }
def LangGetsCardSaid : Prop := Claim7.holds Tryz.pinned (.plain (OpenSpec.ofChange langGetsSpec)) langGetsCard

/-- THE TIED CARD OF 'draymanlaw20.LangBack'. -/
def langBackCard : Claim7 := { stood := { row := langBackRow, standIns := [], harness := (true, "ff47b1dc6b804c5902e8bf20fd4085009fd670db2c233b76c37cf92bebe2f3f8"), looks := false }, kinds := [], alts := [], laidByText := true, laidKinds := [.data, .data, .data, .data, .data, .data, .pinned], laidTests := true, laidLooks := .later }
def LangBackCardSaid : Prop := Claim7.holds Tryz.pinned (.plain (OpenSpec.ofChange langBackSpec)) langBackCard

/-- THE SECOND FORM's CARD OF 'draymanlaw20.LangLines'. -/
def langLinesUptoCard : Claim7 := { stood := { row := langLinesUptoRow, standIns := [], harness := (true, "ff47b1dc6b804c5902e8bf20fd4085009fd670db2c233b76c37cf92bebe2f3f8"), looks := false }, kinds := [], alts := [], laidByText := true, laidKinds := [.data, .data, .data, .data, .data, .data, .pinned], laidTests := true, laidLooks := .later }
def LangLinesUptoCardSaid : Prop := Claim7.holds Tryz.pinned (.plain (OpenSpec.upto langLinesSpec)) langLinesUptoCard

/-- THE SECOND FORM's CARD OF 'draymanlaw20.LangPuts'. -/
def langPutsUptoCard : Claim7 := { stood := { row := langPutsUptoRow, standIns := [], harness := (true, "ff47b1dc6b804c5902e8bf20fd4085009fd670db2c233b76c37cf92bebe2f3f8"), looks := false }, kinds := [], alts := [], laidByText := true, laidKinds := [.data, .data, .data, .data, .data, .data, .pinned], laidTests := true, laidLooks := .later }
def LangPutsUptoCardSaid : Prop := Claim7.holds Tryz.pinned (.plain (OpenSpec.upto langPutsSpec)) langPutsUptoCard

/-- THE SECOND FORM's CARD OF 'draymanlaw20.LangGets'. -/
def langGetsUptoCard : Claim7 := { stood := { row := langGetsUptoRow, standIns := [], harness := (true, "ff47b1dc6b804c5902e8bf20fd4085009fd670db2c233b76c37cf92bebe2f3f8"), looks := false }, kinds := [], alts := [], laidByText := true, laidKinds := [.data, .data, .data, .data, .data, .data, .pinned], laidTests := true, laidLooks := .later }
def LangGetsUptoCardSaid : Prop := Claim7.holds Tryz.pinned (.plain (OpenSpec.upto langGetsSpec)) langGetsUptoCard

/-- THE SECOND FORM's CARD OF 'draymanlaw20.LangBack'. -/
def langBackUptoCard : Claim7 := { stood := { row := langBackUptoRow, standIns := [], harness := (true, "ff47b1dc6b804c5902e8bf20fd4085009fd670db2c233b76c37cf92bebe2f3f8"), looks := false }, kinds := [], alts := [], laidByText := true, laidKinds := [.data, .data, .data, .data, .data, .data, .pinned], laidTests := true, laidLooks := .later }
def LangBackUptoCardSaid : Prop := Claim7.holds Tryz.pinned (.plain (OpenSpec.upto langBackSpec)) langBackUptoCard
end Rows
end Go.Proofs.YtbphobmohdclaaaGreatDoor
