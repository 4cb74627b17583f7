/-
  DERIVED. GIVEN WITH THE SEED: THE CARDS: each row of YtaipngaejfndgaaGreatDoorRows.lean that lists a variable, with what it lists TIED to the program's text (the seventh form; the later family's looks); each row that meets fmt, with fmt's text TOLD by the authors' own Lean function (tested against real Go, not proved from fmt's source: count such statements apart). THE CARD IS WHAT COUNTS. Prove the row's statement (the work); the ties are given (YtaipngaejfndgaaGreatDoorTie.lean); close each card by the builder's one call (the guide's Derived/Test/ToyasCard.lean, 'card_holds'). Laid BY PROGRAM, IN A SANDBOX (cutbox-door.mjs). By AI agents, Wed Nov 11 2026. No macro, syntax, notation, axiom, sorry.
-/
import Derived.Test.YtaipngaejfndgaaGreatDoorRows
import GoSem.ClaimSeven
namespace Go.Proofs.YtaipngaejfndgaaGreatDoor
namespace Rows

/-- THE TIED CARD OF 'draymanlaw26.MkdirsTrue'. -/
def mkdirsTrueCard : Claim7 := { stood := { row := mkdirsTrueRow, standIns := [], harness := (true, "627a28c847cd6d8245b214a54f3fdbab6994a130ec997914df55943f1e474802"), looks := false }, kinds := [], alts := [], laidByText := true, laidKinds := [.data, .data, .data, .data, .data, .pinned], laidTests := true, laidLooks := .later }
def MkdirsTrueCardSaid : Prop := Claim7.holds Tryz.pinned (.plain (OpenSpec.ofChange mkdirsTrueSpec)) mkdirsTrueCard

/-- THE TIED CARD OF 'draymanlaw26.MkdirsLeads'. -/
def mkdirsLeadsCard : Claim7 := { stood := { row := mkdirsLeadsRow, standIns := [], harness := (true, "627a28c847cd6d8245b214a54f3fdbab6994a130ec997914df55943f1e474802"), looks := false }, kinds := [], alts := [], laidByText := true, laidKinds := [.data, .data, .data, .data, .data, .pinned], laidTests := true, laidLooks := .later }
def MkdirsLeadsCardSaid : Prop := Claim7.holds Tryz.pinned (.plain (OpenSpec.ofChange mkdirsLeadsSpec)) mkdirsLeadsCard

/-- THE TIED CARD OF 'draymanlaw26.MkdirsStays'. -/
def mkdirsStaysCard : Claim7 := { stood := { row := mkdirsStaysRow, standIns := [], harness := (true, "627a28c847cd6d8245b214a54f3fdbab6994a130ec997914df55943f1e474802"), looks := false }, kinds := [], alts := [], laidByText := true, laidKinds := [.data, .data, .data, .data, .data, .pinned], laidTests := true, laidLooks := .later }
def MkdirsStaysCardSaid : Prop := Claim7.holds Tryz.pinned (.plain (OpenSpec.ofChange mkdirsStaysSpec)) mkdirsStaysCard

/-- THE TIED CARD OF 'draymanlaw28.LnsPlaces'. -/
def lnsPlacesCard : Claim7 := { stood := { row := lnsPlacesRow, standIns := [], harness := (true, "627a28c847cd6d8245b214a54f3fdbab6994a130ec997914df55943f1e474802"), looks := false }, kinds := [], alts := [], laidByText := true, laidKinds := [.data, .data, .data, .data, .data, .pinned], laidTests := true, laidLooks := .later }
def LnsPlacesCardSaid : Prop := Claim7.holds Tryz.pinned (.plain (OpenSpec.ofChange lnsPlacesSpec)) lnsPlacesCard

/-- THE TIED CARD OF 'draymanlaw28.LnsStays'. -/
def lnsStaysCard : Claim7 := { stood := { row := lnsStaysRow, standIns := [], harness := (true, "627a28c847cd6d8245b214a54f3fdbab6994a130ec997914df55943f1e474802"), looks := false }, kinds := [], alts := [], laidByText := true, laidKinds := [.data, .data, .data, .data, .data, .pinned], laidTests := true, laidLooks := .later }
def LnsStaysCardSaid : Prop := Claim7.holds Tryz.pinned (.plain (OpenSpec.ofChange lnsStaysSpec)) lnsStaysCard

/-- THE SECOND FORM's CARD OF 'draymanlaw26.MkdirsTrue'. -/
def mkdirsTrueUptoCard : Claim7 := { stood := { row := mkdirsTrueUptoRow, standIns := [], harness := (true, "627a28c847cd6d8245b214a54f3fdbab6994a130ec997914df55943f1e474802"), looks := false }, kinds := [], alts := [], laidByText := true, laidKinds := [.data, .data, .data, .data, .data, .pinned], laidTests := true, laidLooks := .later }
def MkdirsTrueUptoCardSaid : Prop := Claim7.holds Tryz.pinned (.plain (OpenSpec.upto mkdirsTrueSpec)) mkdirsTrueUptoCard

/-- THE SECOND FORM's CARD OF 'draymanlaw26.MkdirsLeads'. -/
def mkdirsLeadsUptoCard : Claim7 := { stood := { row := mkdirsLeadsUptoRow, standIns := [], harness := (true, "627a28c847cd6d8245b214a54f3fdbab6994a130ec997914df55943f1e474802"), looks := false }, kinds := [], alts := [], laidByText := true, laidKinds := [.data, .data, .data, .data, .data, .pinned], laidTests := true, laidLooks := .later }
def MkdirsLeadsUptoCardSaid : Prop := Claim7.holds Tryz.pinned (.plain (OpenSpec.upto mkdirsLeadsSpec)) mkdirsLeadsUptoCard

/-- THE SECOND FORM's CARD OF 'draymanlaw26.MkdirsStays'. -/
def mkdirsStaysUptoCard : Claim7 := { stood := { row := mkdirsStaysUptoRow, standIns := [], harness := (true, "627a28c847cd6d8245b214a54f3fdbab6994a130ec997914df55943f1e474802"), looks := false }, kinds := [], alts := [], laidByText := true, laidKinds := [.data, .data, .data, .data, .data, .pinned], laidTests := true, laidLooks := .later }
def MkdirsStaysUptoCardSaid : Prop := Claim7.holds Tryz.pinned (.plain (OpenSpec.upto mkdirsStaysSpec)) mkdirsStaysUptoCard

/-- THE SECOND FORM's CARD OF 'draymanlaw28.LnsPlaces'. -/
def lnsPlacesUptoCard : Claim7 := { stood := { row := lnsPlacesUptoRow, standIns := [], harness := (true, "627a28c847cd6d8245b214a54f3fdbab6994a130ec997914df55943f1e474802"), looks := false }, kinds := [], alts := [], laidByText := true, laidKinds := [.data, .data, .data, .data, .data, .pinned], laidTests := true, laidLooks := .later }
def LnsPlacesUptoCardSaid : Prop := Claim7.holds Tryz.pinned (.plain (OpenSpec.upto lnsPlacesSpec)) lnsPlacesUptoCard

/-- THE SECOND FORM's CARD OF 'draymanlaw28.LnsStays'. -/
def lnsStaysUptoCard : Claim7 := { stood := { row := lnsStaysUptoRow, standIns := [], harness := (true, "627a28c847cd6d8245b214a54f3fdbab6994a130ec997914df55943f1e474802"), looks := false }, kinds := [], alts := [], laidByText := true, laidKinds := [.data, .data, .data, .data, .data, .pinned], laidTests := true, laidLooks := .later }
def LnsStaysUptoCardSaid : Prop := Claim7.holds Tryz.pinned (.plain (OpenSpec.upto lnsStaysSpec)) lnsStaysUptoCard
end Rows
end Go.Proofs.YtaipngaejfndgaaGreatDoor
