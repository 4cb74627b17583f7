/-
  DERIVED. GIVEN WITH THE SEED: THE CARDS: each row of YtlkjpfiancahiaaGreatDoorRows.lean that lists a variable, with what it lists TIED to the program's text (the seventh form; the later family's looks); each row that meets fmt, with fmt's text TOLD by the authors' own Lean function (tested against real Go, not proved from fmt's source: count such statements apart). THE CARD IS WHAT COUNTS. Prove the row's statement (the work); the ties are given (YtlkjpfiancahiaaGreatDoorTie.lean); close each card by the builder's one call (the guide's Derived/Test/ToyasCard.lean, 'card_holds'). Laid BY PROGRAM, IN A SANDBOX (cutbox-door.mjs). By AI agents, Wed Nov 11 2026. No macro, syntax, notation, axiom, sorry.
-/
import Derived.Test.YtlkjpfiancahiaaGreatDoorRows
import GoSem.ClaimSeven
namespace Go.Proofs.YtlkjpfiancahiaaGreatDoor
namespace Rows

/-- THE TIED CARD OF 'draymanlaw27.RmsTrue'. -/
def rmsTrueCard : Claim7 := { stood := { row := rmsTrueRow, standIns := [], harness := (true, "ed3ebbd21fb3e654dc049a6f6d557852e98bb9878cb202f7983b5b6a970cdb82"), looks := false }, kinds := [], alts := [], laidByText := true, laidKinds := [.data, .data, .data, .data, .data, .pinned], laidTests := true, laidLooks := .later }
def RmsTrueCardSaid : Prop := Claim7.holds Tryz.pinned (.plain (OpenSpec.ofChange rmsTrueSpec)) rmsTrueCard

/-- THE TIED CARD OF 'draymanlaw27.RmsLeads'. -/
def rmsLeadsCard : Claim7 := { stood := { row := rmsLeadsRow, standIns := [], harness := (true, "ed3ebbd21fb3e654dc049a6f6d557852e98bb9878cb202f7983b5b6a970cdb82"), looks := false }, kinds := [], alts := [], laidByText := true, laidKinds := [.data, .data, .data, .data, .data, .pinned], laidTests := true, laidLooks := .later }
def RmsLeadsCardSaid : Prop := Claim7.holds Tryz.pinned (.plain (OpenSpec.ofChange rmsLeadsSpec)) rmsLeadsCard

/-- THE TIED CARD OF 'draymanlaw27.RmsStays'. -/
def rmsStaysCard : Claim7 := { stood := { row := rmsStaysRow, standIns := [], harness := (true, "ed3ebbd21fb3e654dc049a6f6d557852e98bb9878cb202f7983b5b6a970cdb82"), looks := false }, kinds := [], alts := [], laidByText := true, laidKinds := [.data, .data, .data, .data, .data, .pinned], laidTests := true, laidLooks := .later }
def RmsStaysCardSaid : Prop := Claim7.holds Tryz.pinned (.plain (OpenSpec.ofChange rmsStaysSpec)) rmsStaysCard

/-- THE SECOND FORM's CARD OF 'draymanlaw27.RmsTrue'. -/
def rmsTrueUptoCard : Claim7 := { stood := { row := rmsTrueUptoRow, standIns := [], harness := (true, "ed3ebbd21fb3e654dc049a6f6d557852e98bb9878cb202f7983b5b6a970cdb82"), looks := false }, kinds := [], alts := [], laidByText := true, laidKinds := [.data, .data, .data, .data, .data, .pinned], laidTests := true, laidLooks := .later }
def RmsTrueUptoCardSaid : Prop := Claim7.holds Tryz.pinned (.plain (OpenSpec.upto rmsTrueSpec)) rmsTrueUptoCard

/-- THE SECOND FORM's CARD OF 'draymanlaw27.RmsLeads'. -/
def rmsLeadsUptoCard : Claim7 := { stood := { row := rmsLeadsUptoRow, standIns := [], harness := (true, "ed3ebbd21fb3e654dc049a6f6d557852e98bb9878cb202f7983b5b6a970cdb82"), looks := false }, kinds := [], alts := [], laidByText := true, laidKinds := [.data, .data, .data, .data, .data, .pinned], laidTests := true, laidLooks := .later }
def RmsLeadsUptoCardSaid : Prop := Claim7.holds Tryz.pinned (.plain (OpenSpec.upto rmsLeadsSpec)) rmsLeadsUptoCard

/-- THE SECOND FORM's CARD OF 'draymanlaw27.RmsStays'. -/
def rmsStaysUptoCard : Claim7 := { stood := { row := rmsStaysUptoRow, standIns := [], harness := (true, "ed3ebbd21fb3e654dc049a6f6d557852e98bb9878cb202f7983b5b6a970cdb82"), looks := false }, kinds := [], alts := [], laidByText := true, laidKinds := [.data, .data, .data, .data, .data, .pinned], laidTests := true, laidLooks := .later }
def RmsStaysUptoCardSaid : Prop := Claim7.holds Tryz.pinned (.plain (OpenSpec.upto rmsStaysSpec)) rmsStaysUptoCard
end Rows
end Go.Proofs.YtlkjpfiancahiaaGreatDoor
