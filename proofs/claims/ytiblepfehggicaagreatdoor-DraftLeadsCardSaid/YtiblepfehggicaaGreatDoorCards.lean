/-
  DERIVED. GIVEN WITH THE SEED: THE CARDS: each row of YtiblepfehggicaaGreatDoorRows.lean that lists a variable, with what it lists TIED to the program's text (the seventh form; the later family's looks); each row that meets fmt, with fmt's text TOLD by the authors' own Lean function (tested against real Go, not proved from fmt's source: count such statements apart). THE CARD IS WHAT COUNTS. Prove the row's statement (the work); the ties are given (YtiblepfehggicaaGreatDoorTie.lean); close each card by the builder's one call (the guide's Derived/Test/ToyasCard.lean, 'card_holds'). Laid BY PROGRAM, IN A SANDBOX (cutbox-door.mjs). By AI agents, Wed Nov 11 2026. No macro, syntax, notation, axiom, sorry.
-/
import Derived.Test.YtiblepfehggicaaGreatDoorRows
import GoSem.ClaimSeven
namespace Go.Proofs.YtiblepfehggicaaGreatDoor
namespace Rows

/-- THE TIED CARD OF 'draymanlaw25.DraftMakes'. -/
def draftMakesCard : Claim7 := { stood := { row := draftMakesRow, standIns := [], harness := (true, "fac0304ee7fbebd5af8f4374e8afc987c2a20af11cc7115fa1660f82645f82fb"), looks := false }, kinds := [], alts := [], laidByText := true, laidKinds := [.data, .data, .data, .data, .data, .pinned], laidTests := true, laidLooks := .later }
def DraftMakesCardSaid : Prop := Claim7.holds Tryz.pinned (.plain (OpenSpec.ofChange draftMakesSpec)) draftMakesCard

/-- THE TIED CARD OF 'draymanlaw25.DraftPaths'. -/
def draftPathsCard : Claim7 := { stood := { row := draftPathsRow, standIns := [], harness := (true, "fac0304ee7fbebd5af8f4374e8afc987c2a20af11cc7115fa1660f82645f82fb"), looks := false }, kinds := [], alts := [], laidByText := true, laidKinds := [.data, .data, .data, .data, .data, .pinned], laidTests := true, laidLooks := .later }
def DraftPathsCardSaid : Prop := Claim7.holds Tryz.pinned (.plain (OpenSpec.ofChange draftPathsSpec)) draftPathsCard

/-- THE TIED CARD OF 'draymanlaw25.DraftLeads'. -/
def draftLeadsCard : Claim7 := { stood := { row := draftLeadsRow, standIns := [], harness := (true, "fac0304ee7fbebd5af8f4374e8afc987c2a20af11cc7115fa1660f82645f82fb"), looks := false }, kinds := [], alts := [], laidByText := true, laidKinds := [.data, .data, .data, .data, .data, .pinned], laidTests := true, laidLooks := .later }
def DraftLeadsCardSaid : Prop := Claim7.holds Tryz.pinned (.plain (OpenSpec.ofChange draftLeadsSpec)) draftLeadsCard

/-- THE TIED CARD OF 'draymanlaw25.DraftStays'. -/
def draftStaysCard : Claim7 := { stood := { row := draftStaysRow, standIns := [], harness := (true, "fac0304ee7fbebd5af8f4374e8afc987c2a20af11cc7115fa1660f82645f82fb"), looks := false }, kinds := [], alts := [], laidByText := true, laidKinds := [.data, .data, .data, .data, .data, .pinned], laidTests := true, laidLooks := .later }
def DraftStaysCardSaid : Prop := Claim7.holds Tryz.pinned (.plain (OpenSpec.ofChange draftStaysSpec)) draftStaysCard

/-- THE SECOND FORM's CARD OF 'draymanlaw25.DraftMakes'. -/
def draftMakesUptoCard : Claim7 := { stood := { row := draftMakesUptoRow, standIns := [], harness := (true, "fac0304ee7fbebd5af8f4374e8afc987c2a20af11cc7115fa1660f82645f82fb"), looks := false }, kinds := [], alts := [], laidByText := true, laidKinds := [.data, .data, .data, .data, .data, .pinned], laidTests := true, laidLooks := .later }
def DraftMakesUptoCardSaid : Prop := Claim7.holds Tryz.pinned (.plain (OpenSpec.upto draftMakesSpec)) draftMakesUptoCard

/-- THE SECOND FORM's CARD OF 'draymanlaw25.DraftPaths'. -/
def draftPathsUptoCard : Claim7 := { stood := { row := draftPathsUptoRow, standIns := [], harness := (true, "fac0304ee7fbebd5af8f4374e8afc987c2a20af11cc7115fa1660f82645f82fb"), looks := false }, kinds := [], alts := [], laidByText := true, laidKinds := [.data, .data, .data, .data, .data, .pinned], laidTests := true, laidLooks := .later }
def DraftPathsUptoCardSaid : Prop := Claim7.holds Tryz.pinned (.plain (OpenSpec.upto draftPathsSpec)) draftPathsUptoCard

/-- THE SECOND FORM's CARD OF 'draymanlaw25.DraftLeads'. -/
def draftLeadsUptoCard : Claim7 := { stood := { row := draftLeadsUptoRow, standIns := [], harness := (true, "fac0304ee7fbebd5af8f4374e8afc987c2a20af11cc7115fa1660f82645f82fb"), looks := false }, kinds := [], alts := [], laidByText := true, laidKinds := [.data, .data, .data, .data, .data, .pinned], laidTests := true, laidLooks := .later }
def DraftLeadsUptoCardSaid : Prop := Claim7.holds Tryz.pinned (.plain (OpenSpec.upto draftLeadsSpec)) draftLeadsUptoCard

/-- THE SECOND FORM's CARD OF 'draymanlaw25.DraftStays'. -/
def draftStaysUptoCard : Claim7 := { stood := { row := draftStaysUptoRow, standIns := [], harness := (true, "fac0304ee7fbebd5af8f4374e8afc987c2a20af11cc7115fa1660f82645f82fb"), looks := false }, kinds := [], alts := [], laidByText := true, laidKinds := [.data, .data, .data, .data, .data, .pinned], laidTests := true, laidLooks := .later }
def DraftStaysUptoCardSaid : Prop := Claim7.holds Tryz.pinned (.plain (OpenSpec.upto draftStaysSpec)) draftStaysUptoCard
end Rows
end Go.Proofs.YtiblepfehggicaaGreatDoor
