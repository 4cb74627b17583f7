/-
  DERIVED. GIVEN WITH THE SEED: THE CARDS: each row of YtbkdmegjgakjpaaDoorRows.lean that lists a variable, with what it lists TIED to the program's text (the seventh form; the later family's looks); each row that meets fmt, with fmt's text TOLD by the authors' own Lean function (tested against real Go, not proved from fmt's source: count such statements apart). THE CARD IS WHAT COUNTS. Prove the row's statement (the work); the ties are given (YtbkdmegjgakjpaaDoorTie.lean); close each card by the builder's one call (the guide's Derived/Test/ToyasCard.lean, 'card_holds'). Laid BY PROGRAM, IN A SANDBOX (cutbox-door.mjs). By AI agents, Wed Nov 11 2026. No macro, syntax, notation, axiom, sorry.
-/
import Derived.Test.YtbkdmegjgakjpaaDoorRows
import GoSem.ClaimSeven
namespace Go.Proofs.YtbkdmegjgakjpaaDoor
namespace Rows

/-- THE TIED CARD OF 'draymanlaw18.DiagTells'. -/
def diagTellsCard : Claim7 := { stood := { row := diagTellsRow, standIns := [], harness := (true, "aa0fee367a694eb3c86fce65b78ed9eb8ec71059af1c4ccfcdb7ea469604071f"), looks := false }, kinds := [], alts := [], laidByText := true, laidKinds := [.data, .data, .data, .data, .pinned], laidTests := true, laidLooks := .later }
def DiagTellsCardSaid : Prop := Claim7.holds Tryd.pinned (.plain (OpenSpec.ofChange diagTellsSpec)) diagTellsCard

/-- THE TIED CARD OF 'draymanlaw18.DiagSigns'. -/
def diagSignsCard : Claim7 := { stood := { row := diagSignsRow, standIns := [], harness := (true, "aa0fee367a694eb3c86fce65b78ed9eb8ec71059af1c4ccfcdb7ea469604071f"), looks := false }, kinds := [], alts := [], laidByText := true, laidKinds := [.data, .data, .data, .data, .pinned], laidTests := true, laidLooks := .later }
def DiagSignsCardSaid : Prop := Claim7.holds Tryd.pinned (.plain (OpenSpec.ofChange diagSignsSpec)) diagSignsCard

/-- THE TIED CARD OF 'draymanlaw18.DiagWhole'. -/
def diagWholeCard : Claim7 := { stood := { row := diagWholeRow, standIns := [], harness := (true, "aa0fee367a694eb3c86fce65b78ed9eb8ec71059af1c4ccfcdb7ea469604071f"), looks := false }, kinds := [], alts := [], laidByText := true, laidKinds := [.data, .data, .data, .data, .pinned], laidTests := true, laidLooks := .later }
def DiagWholeCardSaid : Prop := Claim7.holds Tryd.pinned (.plain (OpenSpec.ofChange diagWholeSpec)) diagWholeCard

/-- THE TIED CARD OF 'draymanlaw19.OpMay'. -/
def opMayCard : Claim7 := { stood := { row := opMayRow, standIns := [], harness := (true, "aa0fee367a694eb3c86fce65b78ed9eb8ec71059af1c4ccfcdb7ea469604071f"), looks := false }, kinds := [], alts := [], laidByText := true, laidKinds := [.data, .data, .pinned], laidTests := true, laidLooks := .later }
def OpMayCardSaid : Prop := Claim7.holds Tryd.pinned (.plain (OpenSpec.ofChange opMaySpec)) opMayCard

/-- THE TIED CARD OF 'draymanlaw19.OpPlans'. -/
def opPlansCard : Claim7 := { stood := { row := opPlansRow, standIns := [], harness := (true, "aa0fee367a694eb3c86fce65b78ed9eb8ec71059af1c4ccfcdb7ea469604071f"), looks := false }, kinds := [], alts := [], laidByText := true, laidKinds := [.data, .data, .pinned], laidTests := true, laidLooks := .later }
def OpPlansCardSaid : Prop := Claim7.holds Tryd.pinned (.plain (OpenSpec.ofChange opPlansSpec)) opPlansCard

/-- THE TIED CARD OF 'draymanlaw19.OpSames'. -/
def opSamesCard : Claim7 := { stood := { row := opSamesRow, standIns := [], harness := (true, "aa0fee367a694eb3c86fce65b78ed9eb8ec71059af1c4ccfcdb7ea469604071f"), looks := false }, kinds := [], alts := [], laidByText := true, laidKinds := [.data, .data, .pinned], laidTests := true, laidLooks := .later }
def OpSamesCardSaid : Prop := Claim7.holds Tryd.pinned (.plain (OpenSpec.ofChange opSamesSpec)) opSamesCard

/-- THE TIED CARD OF 'draymanlaw19.OpInverse'. -/
def opInverseCard : Claim7 := { stood := { row := opInverseRow, standIns := [], harness := (true, "aa0fee367a694eb3c86fce65b78ed9eb8ec71059af1c4ccfcdb7ea469604071f"), looks := false }, kinds := [], alts := [], laidByText := true, laidKinds := [.data, .data, .pinned], laidTests := true, laidLooks := .later }
def OpInverseCardSaid : Prop := Claim7.holds Tryd.pinned (.plain (OpenSpec.ofChange opInverseSpec)) opInverseCard

/-- THE SECOND FORM's CARD OF 'draymanlaw18.DiagTells'. -/
def diagTellsUptoCard : Claim7 := { stood := { row := diagTellsUptoRow, standIns := [], harness := (true, "aa0fee367a694eb3c86fce65b78ed9eb8ec71059af1c4ccfcdb7ea469604071f"), looks := false }, kinds := [], alts := [], laidByText := true, laidKinds := [.data, .data, .data, .data, .pinned], laidTests := true, laidLooks := .later }
def DiagTellsUptoCardSaid : Prop := Claim7.holds Tryd.pinned (.plain (OpenSpec.upto diagTellsSpec)) diagTellsUptoCard

/-- THE SECOND FORM's CARD OF 'draymanlaw18.DiagSigns'. -/
def diagSignsUptoCard : Claim7 := { stood := { row := diagSignsUptoRow, standIns := [], harness := (true, "aa0fee367a694eb3c86fce65b78ed9eb8ec71059af1c4ccfcdb7ea469604071f"), looks := false }, kinds := [], alts := [], laidByText := true, laidKinds := [.data, .data, .data, .data, .pinned], laidTests := true, laidLooks := .later }
def DiagSignsUptoCardSaid : Prop := Claim7.holds Tryd.pinned (.plain (OpenSpec.upto diagSignsSpec)) diagSignsUptoCard

/-- THE SECOND FORM's CARD OF 'draymanlaw18.DiagWhole'. -/
def diagWholeUptoCard : Claim7 := { stood := { row := diagWholeUptoRow, standIns := [], harness := (true, "aa0fee367a694eb3c86fce65b78ed9eb8ec71059af1c4ccfcdb7ea469604071f"), looks := false }, kinds := [], alts := [], laidByText := true, laidKinds := [.data, .data, .data, .data, .pinned], laidTests := true, laidLooks := .later }
def DiagWholeUptoCardSaid : Prop := Claim7.holds Tryd.pinned (.plain (OpenSpec.upto diagWholeSpec)) diagWholeUptoCard

/-- THE SECOND FORM's CARD OF 'draymanlaw19.OpMay'. -/
def opMayUptoCard : Claim7 := { stood := { row := opMayUptoRow, standIns := [], harness := (true, "aa0fee367a694eb3c86fce65b78ed9eb8ec71059af1c4ccfcdb7ea469604071f"), looks := false }, kinds := [], alts := [], laidByText := true, laidKinds := [.data, .data, .pinned], laidTests := true, laidLooks := .later }
def OpMayUptoCardSaid : Prop := Claim7.holds Tryd.pinned (.plain (OpenSpec.upto opMaySpec)) opMayUptoCard

/-- THE SECOND FORM's CARD OF 'draymanlaw19.OpPlans'. -/
def opPlansUptoCard : Claim7 := { stood := { row := opPlansUptoRow, standIns := [], harness := (true, "aa0fee367a694eb3c86fce65b78ed9eb8ec71059af1c4ccfcdb7ea469604071f"), looks := false }, kinds := [], alts := [], laidByText := true, laidKinds := [.data, .data, .pinned], laidTests := true, laidLooks := .later }
def OpPlansUptoCardSaid : Prop := Claim7.holds Tryd.pinned (.plain (OpenSpec.upto opPlansSpec)) opPlansUptoCard

/-- THE SECOND FORM's CARD OF 'draymanlaw19.OpSames'. -/
def opSamesUptoCard : Claim7 := { stood := { row := opSamesUptoRow, standIns := [], harness := (true, "aa0fee367a694eb3c86fce65b78ed9eb8ec71059af1c4ccfcdb7ea469604071f"), looks := false }, kinds := [], alts := [], laidByText := true, laidKinds := [.data, .data, .pinned], laidTests := true, laidLooks := .later }
def OpSamesUptoCardSaid : Prop := Claim7.holds Tryd.pinned (.plain (OpenSpec.upto opSamesSpec)) opSamesUptoCard

/-- THE SECOND FORM's CARD OF 'draymanlaw19.OpInverse'. -/
def opInverseUptoCard : Claim7 := { stood := { row := opInverseUptoRow, standIns := [], harness := (true, "aa0fee367a694eb3c86fce65b78ed9eb8ec71059af1c4ccfcdb7ea469604071f"), looks := false }, kinds := [], alts := [], laidByText := true, laidKinds := [.data, .data, .pinned], laidTests := true, laidLooks := .later }
def OpInverseUptoCardSaid : Prop := Claim7.holds Tryd.pinned (.plain (OpenSpec.upto opInverseSpec)) opInverseUptoCard
end Rows
end Go.Proofs.YtbkdmegjgakjpaaDoor
