/-
  DERIVED. GIVEN WITH THE SEED: THE CARDS: each row of YtnpdbhbmakdklaaGreatDoorRows.lean that lists a variable, with what it lists TIED to the program's text (the seventh form; the later family's looks); each row that meets fmt, with fmt's text TOLD by the authors' own Lean function (tested against real Go, not proved from fmt's source: count such statements apart). THE CARD IS WHAT COUNTS. Prove the row's statement (the work); the ties are given (YtnpdbhbmakdklaaGreatDoorTie.lean); close each card by the builder's one call (the guide's Derived/Test/ToyasCard.lean, 'card_holds'). Laid BY PROGRAM, IN A SANDBOX (cutbox-door.mjs). By AI agents, Wed Nov 11 2026. No macro, syntax, notation, axiom, sorry.
-/
import Derived.Test.YtnpdbhbmakdklaaGreatDoorRows
import GoSem.ClaimSeven
namespace Go.Proofs.YtnpdbhbmakdklaaGreatDoor
namespace Rows

/-- THE TIED CARD OF 'draymanlaw29.MvsTrue'. -/
def mvsTrueCard : Claim7 := { stood := { row := mvsTrueRow, standIns := [], harness := (true, "585d81828ea42e1ac901328d1fa994a3f00598d5a26b3a80b2efdf7293b37c40"), looks := false }, kinds := [], alts := [], laidByText := true, laidKinds := [.data, .data, .data, .data, .data, .pinned], laidTests := true, laidLooks := .later }
def MvsTrueCardSaid : Prop := Claim7.holds Tryz.pinned (.plain (OpenSpec.ofChange mvsTrueSpec)) mvsTrueCard

/-- THE TIED CARD OF 'draymanlaw29.MvsLeads'. -/
def mvsLeadsCard : Claim7 := { stood := { row := mvsLeadsRow, standIns := [], harness := (true, "585d81828ea42e1ac901328d1fa994a3f00598d5a26b3a80b2efdf7293b37c40"), looks := false }, kinds := [], alts := [], laidByText := true, laidKinds := [.data, .data, .data, .data, .data, .pinned], laidTests := true, laidLooks := .later }
def MvsLeadsCardSaid : Prop := Claim7.holds Tryz.pinned (.plain (OpenSpec.ofChange mvsLeadsSpec)) mvsLeadsCard

/-- THE TIED CARD OF 'draymanlaw29.MvsBelow'. -/
def mvsBelowCard : Claim7 := { stood := { row := mvsBelowRow, standIns := [], harness := (true, "585d81828ea42e1ac901328d1fa994a3f00598d5a26b3a80b2efdf7293b37c40"), looks := false }, kinds := [], alts := [], laidByText := true, laidKinds := [.data, .data, .data, .data, .data, .pinned], laidTests := true, laidLooks := .later }
def MvsBelowCardSaid : Prop := Claim7.holds Tryz.pinned (.plain (OpenSpec.ofChange mvsBelowSpec)) mvsBelowCard

/-- THE TIED CARD OF 'draymanlaw29.MvsStays'. -/
def mvsStaysCard : Claim7 := { stood := { row := mvsStaysRow, standIns := [], harness := (true, "585d81828ea42e1ac901328d1fa994a3f00598d5a26b3a80b2efdf7293b37c40"), looks := false }, kinds := [], alts := [], laidByText := true, laidKinds := [.data, .data, .data, .data, .data, .pinned], laidTests := true, laidLooks := .later }
def MvsStaysCardSaid : Prop := Claim7.holds Tryz.pinned (.plain (OpenSpec.ofChange mvsStaysSpec)) mvsStaysCard

/-- THE TIED CARD OF 'draymanlaw30.CpsTree'. -/
def cpsTreeCard : Claim7 := { stood := { row := cpsTreeRow, standIns := [], harness := (true, "585d81828ea42e1ac901328d1fa994a3f00598d5a26b3a80b2efdf7293b37c40"), looks := false }, kinds := [], alts := [], laidByText := true, laidKinds := [.data, .data, .data, .data, .data, .pinned], laidTests := true, laidLooks := .later }
def CpsTreeCardSaid : Prop := Claim7.holds Tryz.pinned (.plain (OpenSpec.ofChange cpsTreeSpec)) cpsTreeCard

/-- THE TIED CARD OF 'draymanlaw30.CpsStays'. -/
def cpsStaysCard : Claim7 := { stood := { row := cpsStaysRow, standIns := [], harness := (true, "585d81828ea42e1ac901328d1fa994a3f00598d5a26b3a80b2efdf7293b37c40"), looks := false }, kinds := [], alts := [], laidByText := true, laidKinds := [.data, .data, .data, .data, .data, .pinned], laidTests := true, laidLooks := .later }
def CpsStaysCardSaid : Prop := Claim7.holds Tryz.pinned (.plain (OpenSpec.ofChange cpsStaysSpec)) cpsStaysCard

/-- THE SECOND FORM's CARD OF 'draymanlaw29.MvsTrue'. -/
def mvsTrueUptoCard : Claim7 := { stood := { row := mvsTrueUptoRow, standIns := [], harness := (true, "585d81828ea42e1ac901328d1fa994a3f00598d5a26b3a80b2efdf7293b37c40"), looks := false }, kinds := [], alts := [], laidByText := true, laidKinds := [.data, .data, .data, .data, .data, .pinned], laidTests := true, laidLooks := .later }
def MvsTrueUptoCardSaid : Prop := Claim7.holds Tryz.pinned (.plain (OpenSpec.upto mvsTrueSpec)) mvsTrueUptoCard

/-- THE SECOND FORM's CARD OF 'draymanlaw29.MvsLeads'. -/
def mvsLeadsUptoCard : Claim7 := { stood := { row := mvsLeadsUptoRow, standIns := [], harness := (true, "585d81828ea42e1ac901328d1fa994a3f00598d5a26b3a80b2efdf7293b37c40"), looks := false }, kinds := [], alts := [], laidByText := true, laidKinds := [.data, .data, .data, .data, .data, .pinned], laidTests := true, laidLooks := .later }
def MvsLeadsUptoCardSaid : Prop := Claim7.holds Tryz.pinned (.plain (OpenSpec.upto mvsLeadsSpec)) mvsLeadsUptoCard

/-- THE SECOND FORM's CARD OF 'draymanlaw29.MvsBelow'. -/
def mvsBelowUptoCard : Claim7 := { stood := { row := mvsBelowUptoRow, standIns := [], harness := (true, "585d81828ea42e1ac901328d1fa994a3f00598d5a26b3a80b2efdf7293b37c40"), looks := false }, kinds := [], alts := [], laidByText := true, laidKinds := [.data, .data, .data, .data, .data, .pinned], laidTests := true, laidLooks := .later }
def MvsBelowUptoCardSaid : Prop := Claim7.holds Tryz.pinned (.plain (OpenSpec.upto mvsBelowSpec)) mvsBelowUptoCard

/-- THE SECOND FORM's CARD OF 'draymanlaw29.MvsStays'. -/
def mvsStaysUptoCard : Claim7 := { stood := { row := mvsStaysUptoRow, standIns := [], harness := (true, "585d81828ea42e1ac901328d1fa994a3f00598d5a26b3a80b2efdf7293b37c40"), looks := false }, kinds := [], alts := [], laidByText := true, laidKinds := [.data, .data, .data, .data, .data, .pinned], laidTests := true, laidLooks := .later }
def MvsStaysUptoCardSaid : Prop := Claim7.holds Tryz.pinned (.plain (OpenSpec.upto mvsStaysSpec)) mvsStaysUptoCard

/-- THE SECOND FORM's CARD OF 'draymanlaw30.CpsTree'. -/
def cpsTreeUptoCard : Claim7 := { stood := { row := cpsTreeUptoRow, standIns := [], harness := (true, "585d81828ea42e1ac901328d1fa994a3f00598d5a26b3a80b2efdf7293b37c40"), looks := false }, kinds := [], alts := [], laidByText := true, laidKinds := [.data, .data, .data, .data, .data, .pinned], laidTests := true, laidLooks := .later }
def CpsTreeUptoCardSaid : Prop := Claim7.holds Tryz.pinned (.plain (OpenSpec.upto cpsTreeSpec)) cpsTreeUptoCard

/-- THE SECOND FORM's CARD OF 'draymanlaw30.CpsStays'. -/
def cpsStaysUptoCard : Claim7 := { stood := { row := cpsStaysUptoRow, standIns := [], harness := (true, "585d81828ea42e1ac901328d1fa994a3f00598d5a26b3a80b2efdf7293b37c40"), looks := false }, kinds := [], alts := [], laidByText := true, laidKinds := [.data, .data, .data, .data, .data, .pinned], laidTests := true, laidLooks := .later }
def CpsStaysUptoCardSaid : Prop := Claim7.holds Tryz.pinned (.plain (OpenSpec.upto cpsStaysSpec)) cpsStaysUptoCard
end Rows
end Go.Proofs.YtnpdbhbmakdklaaGreatDoor
