/-
  DERIVED. GIVEN WITH THE SEED: THE CARDS: each row of YtbphobmohdclaaaDoorRows.lean that lists a variable, with what it lists TIED to the program's text (the seventh form; the later family's looks); each row that meets fmt, with fmt's text TOLD by the authors' own Lean function (tested against real Go, not proved from fmt's source: count such statements apart). THE CARD IS WHAT COUNTS. Prove the row's statement (the work); the ties are given (YtbphobmohdclaaaDoorTie.lean); close each card by the builder's one call (the guide's Derived/Test/ToyasCard.lean, 'card_holds'). Laid BY PROGRAM, IN A SANDBOX (cutbox-door.mjs). By AI agents, Wed Nov 11 2026. No macro, syntax, notation, axiom, sorry.
-/
import Derived.Test.YtbphobmohdclaaaDoorRows
import GoSem.ClaimSeven
namespace Go.Proofs.YtbphobmohdclaaaDoor
namespace Rows

/-- THE TIED CARD OF 'draymanlaw20.LangCuts'. -/
def langCutsCard : Claim7 := { stood := { row := langCutsRow, standIns := [], harness := (true, "8d0e20a0e0982ef0a4d8581912aa15f7bca6019ed1576c64e1d1c18ff28a38f9"), looks := false }, kinds := [], alts := [], laidByText := true, laidKinds := [.data, .data, .data, .data, .data, .data, .pinned], laidTests := true, laidLooks := .later }
def LangCutsCardSaid : Prop := Claim7.holds Tryd.pinned (.plain (OpenSpec.ofChange langCutsSpec)) langCutsCard

/-- THE SECOND FORM's CARD OF 'draymanlaw20.LangCuts'. -/
def langCutsUptoCard : Claim7 := { stood := { row := langCutsUptoRow, standIns := [], harness := (true, "8d0e20a0e0982ef0a4d8581912aa15f7bca6019ed1576c64e1d1c18ff28a38f9"), looks := false }, kinds := [], alts := [], laidByText := true, laidKinds := [.data, .data, .data, .data, .data, .data, .pinned], laidTests := true, laidLooks := .later }
def LangCutsUptoCardSaid : Prop := Claim7.holds Tryd.pinned (.plain (OpenSpec.upto langCutsSpec)) langCutsUptoCard
end Rows
end Go.Proofs.YtbphobmohdclaaaDoor
