/-
  DERIVED. GIVEN WITH THE SEED: THE CARDS: each row of YtnjglohgjhihjaaDoorRows.lean that lists a variable, with what it lists TIED to the program's text (the seventh form; the later family's looks); each row that meets fmt, with fmt's text TOLD by the authors' own Lean function (tested against real Go, not proved from fmt's source: count such statements apart). THE CARD IS WHAT COUNTS. Prove the row's statement (the work); the ties are given (YtnjglohgjhihjaaDoorTie.lean); close each card by the builder's one call (the guide's Derived/Test/ToyasCard.lean, 'card_holds'). Laid BY PROGRAM, IN A SANDBOX (cutbox-door.mjs). By AI agents, Wed Nov 11 2026. No macro, syntax, notation, axiom, sorry.
-/
import Derived.Test.YtnjglohgjhihjaaDoorRows
import GoSem.ClaimSeven
namespace Go.Proofs.YtnjglohgjhihjaaDoor
namespace Rows

/-- THE TIED CARD OF 'draymanlaw08.WalkLists'. -/
def walkListsCard : Claim7 := { stood := { row := walkListsRow, standIns := [], harness := (true, "3e1b25e1a7150d5dcff419dce486908b9113a27cbd258acaf78dcdccb909043c"), looks := false }, kinds := [], alts := [], laidByText := true, laidKinds := [.data, .pinned], laidTests := true, laidLooks := .later }
def WalkListsCardSaid : Prop := Claim7.holds Tryd.pinned (.plain (OpenSpec.ofChange walkListsSpec)) walkListsCard

/-- THE TIED CARD OF 'draymanlaw08.WalkPaths'. -/
def walkPathsCard : Claim7 := { stood := { row := walkPathsRow, standIns := [], harness := (true, "3e1b25e1a7150d5dcff419dce486908b9113a27cbd258acaf78dcdccb909043c"), looks := false }, kinds := [], alts := [], laidByText := true, laidKinds := [.data, .pinned], laidTests := true, laidLooks := .later }
def WalkPathsCardSaid : Prop := Claim7.holds Tryd.pinned (.plain (OpenSpec.ofChange walkPathsSpec)) walkPathsCard

/-- THE TIED CARD OF 'draymanlaw08.WalkLeft'. -/
def walkLeftCard : Claim7 := { stood := { row := walkLeftRow, standIns := [], harness := (true, "3e1b25e1a7150d5dcff419dce486908b9113a27cbd258acaf78dcdccb909043c"), looks := false }, kinds := [], alts := [], laidByText := true, laidKinds := [.data, .pinned], laidTests := true, laidLooks := .later }
def WalkLeftCardSaid : Prop := Claim7.holds Tryd.pinned (.plain (OpenSpec.ofChange walkLeftSpec)) walkLeftCard

/-- THE TIED CARD OF 'draymanlaw08.WalkOrder'. -/
def walkOrderCard : Claim7 := { stood := { row := walkOrderRow, standIns := [], harness := (true, "3e1b25e1a7150d5dcff419dce486908b9113a27cbd258acaf78dcdccb909043c"), looks := false }, kinds := [], alts := [], laidByText := true, laidKinds := [.data, .pinned], laidTests := true, laidLooks := .later }
def WalkOrderCardSaid : Prop := Claim7.holds Tryd.pinned (.plain (OpenSpec.ofChange walkOrderSpec)) walkOrderCard

/-- THE TIED CARD OF 'draymanlaw03.PathReads'. -/
def pathReadsCard : Claim7 := { stood := { row := pathReadsRow, standIns := [], harness := (true, "3e1b25e1a7150d5dcff419dce486908b9113a27cbd258acaf78dcdccb909043c"), looks := false }, kinds := [], alts := [], laidByText := true, laidKinds := [.data, .pinned], laidTests := true, laidLooks := .later }
def PathReadsCardSaid : Prop := Claim7.holds Tryd.pinned (.plain (OpenSpec.ofChange pathReadsSpec)) pathReadsCard

/-- THE TIED CARD OF 'draymanlaw03.PathPuts'. -/
def pathPutsCard : Claim7 := { stood := { row := pathPutsRow, standIns := [], harness := (true, "3e1b25e1a7150d5dcff419dce486908b9113a27cbd258acaf78dcdccb909043c"), looks := false }, kinds := [], alts := [], laidByText := true, laidKinds := [.data, .pinned], laidTests := true, laidLooks := .later }
def PathPutsCardSaid : Prop := Claim7.holds Tryd.pinned (.plain (OpenSpec.ofChange pathPutsSpec)) pathPutsCard

/-- THE TIED CARD OF 'draymanlaw03.PathMay'. -/
def pathMayCard : Claim7 := { stood := { row := pathMayRow, standIns := [], harness := (true, "3e1b25e1a7150d5dcff419dce486908b9113a27cbd258acaf78dcdccb909043c"), looks := false }, kinds := [], alts := [], laidByText := true, laidKinds := [.data, .pinned], laidTests := true, laidLooks := .later }
def PathMayCardSaid : Prop := Claim7.holds Tryd.pinned (.plain (OpenSpec.ofChange pathMaySpec)) pathMayCard

/-- THE TIED CARD OF 'draymanlaw03.PathPlain'. -/
def pathPlainCard : Claim7 := { stood := { row := pathPlainRow, standIns := [], harness := (true, "3e1b25e1a7150d5dcff419dce486908b9113a27cbd258acaf78dcdccb909043c"), looks := false }, kinds := [], alts := [], laidByText := true, laidKinds := [.data, .pinned], laidTests := true, laidLooks := .later }
def PathPlainCardSaid : Prop := Claim7.holds Tryd.pinned (.plain (OpenSpec.ofChange pathPlainSpec)) pathPlainCard

/-- THE TIED CARD OF 'draymanlaw03.PathBack'. -/
def pathBackCard : Claim7 := { stood := { row := pathBackRow, standIns := [], harness := (true, "3e1b25e1a7150d5dcff419dce486908b9113a27cbd258acaf78dcdccb909043c"), looks := false }, kinds := [], alts := [], laidByText := true, laidKinds := [.data, .pinned], laidTests := true, laidLooks := .later }
def PathBackCardSaid : Prop := Claim7.holds Tryd.pinned (.plain (OpenSpec.ofChange pathBackSpec)) pathBackCard

/-- THE TIED CARD OF 'draymanlaw03.PathUnder'. -/
def pathUnderCard : Claim7 := { stood := { row := pathUnderRow, standIns := [], harness := (true, "3e1b25e1a7150d5dcff419dce486908b9113a27cbd258acaf78dcdccb909043c"), looks := false }, kinds := [], alts := [], laidByText := true, laidKinds := [.data, .pinned], laidTests := true, laidLooks := .later }
def PathUnderCardSaid : Prop := Claim7.holds Tryd.pinned (.plain (OpenSpec.ofChange pathUnderSpec)) pathUnderCard

/-- THE SECOND FORM's CARD OF 'draymanlaw08.WalkLists'. -/
def walkListsUptoCard : Claim7 := { stood := { row := walkListsUptoRow, standIns := [], harness := (true, "3e1b25e1a7150d5dcff419dce486908b9113a27cbd258acaf78dcdccb909043c"), looks := false }, kinds := [], alts := [], laidByText := true, laidKinds := [.data, .pinned], laidTests := true, laidLooks := .later }
def WalkListsUptoCardSaid : Prop := Claim7.holds Tryd.pinned (.plain (OpenSpec.upto walkListsSpec)) walkListsUptoCard

/-- THE SECOND FORM's CARD OF 'draymanlaw08.WalkPaths'. -/
def walkPathsUptoCard : Claim7 := { stood := { row := walkPathsUptoRow, standIns := [], harness := (true, "3e1b25e1a7150d5dcff419dce486908b9113a27cbd258acaf78dcdccb909043c"), looks := false }, kinds := [], alts := [], laidByText := true, laidKinds := [.data, .pinned], laidTests := true, laidLooks := .later }
def WalkPathsUptoCardSaid : Prop := Claim7.holds Tryd.pinned (.plain (OpenSpec.upto walkPathsSpec)) walkPathsUptoCard

/-- THE SECOND FORM's CARD OF 'draymanlaw08.WalkLeft'. -/
def walkLeftUptoCard : Claim7 := { stood := { row := walkLeftUptoRow, standIns := [], harness := (true, "3e1b25e1a7150d5dcff419dce486908b9113a27cbd258acaf78dcdccb909043c"), looks := false }, kinds := [], alts := [], laidByText := true, laidKinds := [.data, .pinned], laidTests := true, laidLooks := .later }
def WalkLeftUptoCardSaid : Prop := Claim7.holds Tryd.pinned (.plain (OpenSpec.upto walkLeftSpec)) walkLeftUptoCard

/-- THE SECOND FORM's CARD OF 'draymanlaw08.WalkOrder'. -/
def walkOrderUptoCard : Claim7 := { stood := { row := walkOrderUptoRow, standIns := [], harness := (true, "3e1b25e1a7150d5dcff419dce486908b9113a27cbd258acaf78dcdccb909043c"), looks := false }, kinds := [], alts := [], laidByText := true, laidKinds := [.data, .pinned], laidTests := true, laidLooks := .later }
def WalkOrderUptoCardSaid : Prop := Claim7.holds Tryd.pinned (.plain (OpenSpec.upto walkOrderSpec)) walkOrderUptoCard

/-- THE SECOND FORM's CARD OF 'draymanlaw03.PathReads'. -/
def pathReadsUptoCard : Claim7 := { stood := { row := pathReadsUptoRow, standIns := [], harness := (true, "3e1b25e1a7150d5dcff419dce486908b9113a27cbd258acaf78dcdccb909043c"), looks := false }, kinds := [], alts := [], laidByText := true, laidKinds := [.data, .pinned], laidTests := true, laidLooks := .later }
def PathReadsUptoCardSaid : Prop := Claim7.holds Tryd.pinned (.plain (OpenSpec.upto pathReadsSpec)) pathReadsUptoCard

/-- THE SECOND FORM's CARD OF 'draymanlaw03.PathPuts'. -/
def pathPutsUptoCard : Claim7 := { stood := { row := pathPutsUptoRow, standIns := [], harness := (true, "3e1b25e1a7150d5dcff419dce486908b9113a27cbd258acaf78dcdccb909043c"), looks := false }, kinds := [], alts := [], laidByText := true, laidKinds := [.data, .pinned], laidTests := true, laidLooks := .later }
def PathPutsUptoCardSaid : Prop := Claim7.holds Tryd.pinned (.plain (OpenSpec.upto pathPutsSpec)) pathPutsUptoCard

/-- THE SECOND FORM's CARD OF 'draymanlaw03.PathMay'. -/
def pathMayUptoCard : Claim7 := { stood := { row := pathMayUptoRow, standIns := [], harness := (true, "3e1b25e1a7150d5dcff419dce486908b9113a27cbd258acaf78dcdccb909043c"), looks := false }, kinds := [], alts := [], laidByText := true, laidKinds := [.data, .pinned], laidTests := true, laidLooks := .later }
def PathMayUptoCardSaid : Prop := Claim7.holds Tryd.pinned (.plain (OpenSpec.upto pathMaySpec)) pathMayUptoCard

/-- THE SECOND FORM's CARD OF 'draymanlaw03.PathPlain'. -/
def pathPlainUptoCard : Claim7 := { stood := { row := pathPlainUptoRow, standIns := [], harness := (true, "3e1b25e1a7150d5dcff419dce486908b9113a27cbd258acaf78dcdccb909043c"), looks := false }, kinds := [], alts := [], laidByText := true, laidKinds := [.data, .pinned], laidTests := true, laidLooks := .later }
def PathPlainUptoCardSaid : Prop := Claim7.holds Tryd.pinned (.plain (OpenSpec.upto pathPlainSpec)) pathPlainUptoCard

/-- THE SECOND FORM's CARD OF 'draymanlaw03.PathBack'. -/
def pathBackUptoCard : Claim7 := { stood := { row := pathBackUptoRow, standIns := [], harness := (true, "3e1b25e1a7150d5dcff419dce486908b9113a27cbd258acaf78dcdccb909043c"), looks := false }, kinds := [], alts := [], laidByText := true, laidKinds := [.data, .pinned], laidTests := true, laidLooks := .later }
def PathBackUptoCardSaid : Prop := Claim7.holds Tryd.pinned (.plain (OpenSpec.upto pathBackSpec)) pathBackUptoCard

/-- THE SECOND FORM's CARD OF 'draymanlaw03.PathUnder'. -/
def pathUnderUptoCard : Claim7 := { stood := { row := pathUnderUptoRow, standIns := [], harness := (true, "3e1b25e1a7150d5dcff419dce486908b9113a27cbd258acaf78dcdccb909043c"), looks := false }, kinds := [], alts := [], laidByText := true, laidKinds := [.data, .pinned], laidTests := true, laidLooks := .later }
def PathUnderUptoCardSaid : Prop := Claim7.holds Tryd.pinned (.plain (OpenSpec.upto pathUnderSpec)) pathUnderUptoCard
end Rows
end Go.Proofs.YtnjglohgjhihjaaDoor
