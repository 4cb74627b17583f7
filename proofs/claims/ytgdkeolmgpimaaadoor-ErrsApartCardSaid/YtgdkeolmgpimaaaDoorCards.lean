/-
  DERIVED. GIVEN WITH THE SEED: THE CARDS: each row of YtgdkeolmgpimaaaDoorRows.lean that lists a variable, with what it lists TIED to the program's text (the seventh form; the later family's looks); each row that meets fmt, with fmt's text TOLD by the authors' own Lean function (tested against real Go, not proved from fmt's source: count such statements apart). THE CARD IS WHAT COUNTS. Prove the row's statement (the work); the ties are given (YtgdkeolmgpimaaaDoorTie.lean); close each card by the builder's one call (the guide's Derived/Test/ToyasCard.lean, 'card_holds'). Laid BY PROGRAM, IN A SANDBOX (cutbox-door.mjs). By AI agents, Wed Nov 11 2026. No macro, syntax, notation, axiom, sorry.
-/
import Derived.Test.YtgdkeolmgpimaaaDoorRows
import GoSem.ClaimSeven
namespace Go.Proofs.YtgdkeolmgpimaaaDoor
namespace Rows

/-- THE TIED CARD OF 'draymanlaw02.ErrsMessages'. -/
def errsMessagesCard : Claim7 := { stood := { row := errsMessagesRow, standIns := [], harness := (true, "29ebc1705877050de76bf8db169cc7b5860916c38a4395ba28a9d2bbb01ab9f3"), looks := false }, kinds := [], alts := [], laidByText := true, laidKinds := [.data], laidTests := true, laidLooks := .later }
def ErrsMessagesCardSaid : Prop := Claim7.holds Tryd.pinned (.plain (OpenSpec.ofChange errsMessagesSpec)) errsMessagesCard

/-- THE TIED CARD OF 'draymanlaw02.ErrsFinds'. -/
def errsFindsCard : Claim7 := { stood := { row := errsFindsRow, standIns := [], harness := (true, "29ebc1705877050de76bf8db169cc7b5860916c38a4395ba28a9d2bbb01ab9f3"), looks := false }, kinds := [], alts := [], laidByText := true, laidKinds := [.data], laidTests := true, laidLooks := .later }
def ErrsFindsCardSaid : Prop := Claim7.holds Tryd.pinned (.plain (OpenSpec.ofChange errsFindsSpec)) errsFindsCard

/-- THE TIED CARD OF 'draymanlaw02.ErrsApart'. -/
def errsApartCard : Claim7 := { stood := { row := errsApartRow, standIns := [], harness := (true, "29ebc1705877050de76bf8db169cc7b5860916c38a4395ba28a9d2bbb01ab9f3"), looks := false }, kinds := [], alts := [], laidByText := true, laidKinds := [.data], laidTests := true, laidLooks := .later }
def ErrsApartCardSaid : Prop := Claim7.holds Tryd.pinned (.plain (OpenSpec.ofChange errsApartSpec)) errsApartCard

/-- THE TIED CARD OF 'draymanlaw02.ErrsLines'. -/
def errsLinesCard : Claim7 := { stood := { row := errsLinesRow, standIns := [], harness := (true, "29ebc1705877050de76bf8db169cc7b5860916c38a4395ba28a9d2bbb01ab9f3"), looks := false }, kinds := [], alts := [], laidByText := true, laidKinds := [.data], laidTests := true, laidLooks := .later }
def ErrsLinesCardSaid : Prop := Claim7.holds Tryd.pinned (.plain (OpenSpec.ofChange errsLinesSpec)) errsLinesCard

/-- THE SECOND FORM's CARD OF 'draymanlaw02.ErrsMessages'. -/
def errsMessagesUptoCard : Claim7 := { stood := { row := errsMessagesUptoRow, standIns := [], harness := (true, "29ebc1705877050de76bf8db169cc7b5860916c38a4395ba28a9d2bbb01ab9f3"), looks := false }, kinds := [], alts := [], laidByText := true, laidKinds := [.data], laidTests := true, laidLooks := .later }
def ErrsMessagesUptoCardSaid : Prop := Claim7.holds Tryd.pinned (.plain (OpenSpec.upto errsMessagesSpec)) errsMessagesUptoCard

/-- THE SECOND FORM's CARD OF 'draymanlaw02.ErrsFinds'. -/
def errsFindsUptoCard : Claim7 := { stood := { row := errsFindsUptoRow, standIns := [], harness := (true, "29ebc1705877050de76bf8db169cc7b5860916c38a4395ba28a9d2bbb01ab9f3"), looks := false }, kinds := [], alts := [], laidByText := true, laidKinds := [.data], laidTests := true, laidLooks := .later }
def ErrsFindsUptoCardSaid : Prop := Claim7.holds Tryd.pinned (.plain (OpenSpec.upto errsFindsSpec)) errsFindsUptoCard

/-- THE SECOND FORM's CARD OF 'draymanlaw02.ErrsApart'. -/
def errsApartUptoCard : Claim7 := { stood := { row := errsApartUptoRow, standIns := [], harness := (true, "29ebc1705877050de76bf8db169cc7b5860916c38a4395ba28a9d2bbb01ab9f3"), looks := false }, kinds := [], alts := [], laidByText := true, laidKinds := [.data], laidTests := true, laidLooks := .later }
def ErrsApartUptoCardSaid : Prop := Claim7.holds Tryd.pinned (.plain (OpenSpec.upto errsApartSpec)) errsApartUptoCard

/-- THE SECOND FORM's CARD OF 'draymanlaw02.ErrsLines'. -/
def errsLinesUptoCard : Claim7 := { stood := { row := errsLinesUptoRow, standIns := [], harness := (true, "29ebc1705877050de76bf8db169cc7b5860916c38a4395ba28a9d2bbb01ab9f3"), looks := false }, kinds := [], alts := [], laidByText := true, laidKinds := [.data], laidTests := true, laidLooks := .later }
def ErrsLinesUptoCardSaid : Prop := Claim7.holds Tryd.pinned (.plain (OpenSpec.upto errsLinesSpec)) errsLinesUptoCard
end Rows
end Go.Proofs.YtgdkeolmgpimaaaDoor
