/-
  DERIVED. GIVEN WITH THE SEED: THE CARDS: each row of YtdmfififkcnecaaDoorRows.lean that lists a variable, with what it lists TIED to the program's text (the seventh form; the later family's looks); each row that meets fmt, with fmt's text TOLD by the authors' own Lean function (tested against real Go, not proved from fmt's source: count such statements apart). THE CARD IS WHAT COUNTS. Prove the row's statement (the work); the ties are given (YtdmfififkcnecaaDoorTie.lean); close each card by the builder's one call (the guide's Derived/Test/ToyasCard.lean, 'card_holds'). Laid BY PROGRAM, IN A SANDBOX (cutbox-door.mjs). By AI agents, Wed Nov 11 2026. No macro, syntax, notation, axiom, sorry.
-/
import Derived.Test.YtdmfififkcnecaaDoorRows
import GoSem.ClaimSeven
namespace Go.Proofs.YtdmfififkcnecaaDoor
namespace Rows

/-- THE TIED CARD OF 'draymanlaw16.ShapeOf'. -/
def shapeOfCard : Claim7 := { stood := { row := shapeOfRow, standIns := [], harness := (true, "49cae9e255b5d9367fa9b1d1339b9d7239847100ec39c58d95ba2750dbebfaae"), looks := false }, kinds := [], alts := [], laidByText := true, laidKinds := [.data, .pinned], laidTests := true, laidLooks := .later }
def ShapeOfCardSaid : Prop := Claim7.holds Tryd.pinned (.plain (OpenSpec.ofChange shapeOfSpec)) shapeOfCard

/-- THE TIED CARD OF 'draymanlaw16.ShapeSames'. -/
def shapeSamesCard : Claim7 := { stood := { row := shapeSamesRow, standIns := [], harness := (true, "49cae9e255b5d9367fa9b1d1339b9d7239847100ec39c58d95ba2750dbebfaae"), looks := false }, kinds := [], alts := [], laidByText := true, laidKinds := [.data, .pinned], laidTests := true, laidLooks := .later }
def ShapeSamesCardSaid : Prop := Claim7.holds Tryd.pinned (.plain (OpenSpec.ofChange shapeSamesSpec)) shapeSamesCard

/-- THE TIED CARD OF 'draymanlaw16.ShapeHas'. -/
def shapeHasCard : Claim7 := { stood := { row := shapeHasRow, standIns := [], harness := (true, "49cae9e255b5d9367fa9b1d1339b9d7239847100ec39c58d95ba2750dbebfaae"), looks := false }, kinds := [], alts := [], laidByText := true, laidKinds := [.data, .pinned], laidTests := true, laidLooks := .later }
def ShapeHasCardSaid : Prop := Claim7.holds Tryd.pinned (.plain (OpenSpec.ofChange shapeHasSpec)) shapeHasCard

/-- THE SECOND FORM's CARD OF 'draymanlaw16.ShapeOf'. -/
def shapeOfUptoCard : Claim7 := { stood := { row := shapeOfUptoRow, standIns := [], harness := (true, "49cae9e255b5d9367fa9b1d1339b9d7239847100ec39c58d95ba2750dbebfaae"), looks := false }, kinds := [], alts := [], laidByText := true, laidKinds := [.data, .pinned], laidTests := true, laidLooks := .later }
def ShapeOfUptoCardSaid : Prop := Claim7.holds Tryd.pinned (.plain (OpenSpec.upto shapeOfSpec)) shapeOfUptoCard

/-- THE SECOND FORM's CARD OF 'draymanlaw16.ShapeSames'. -/
def shapeSamesUptoCard : Claim7 := { stood := { row := shapeSamesUptoRow, standIns := [], harness := (true, "49cae9e255b5d9367fa9b1d1339b9d7239847100ec39c58d95ba2750dbebfaae"), looks := false }, kinds := [], alts := [], laidByText := true, laidKinds := [.data, .pinned], laidTests := true, laidLooks := .later }
def ShapeSamesUptoCardSaid : Prop := Claim7.holds Tryd.pinned (.plain (OpenSpec.upto shapeSamesSpec)) shapeSamesUptoCard

/-- THE SECOND FORM's CARD OF 'draymanlaw16.ShapeHas'. -/
def shapeHasUptoCard : Claim7 := { stood := { row := shapeHasUptoRow, standIns := [], harness := (true, "49cae9e255b5d9367fa9b1d1339b9d7239847100ec39c58d95ba2750dbebfaae"), looks := false }, kinds := [], alts := [], laidByText := true, laidKinds := [.data, .pinned], laidTests := true, laidLooks := .later }
def ShapeHasUptoCardSaid : Prop := Claim7.holds Tryd.pinned (.plain (OpenSpec.upto shapeHasSpec)) shapeHasUptoCard
end Rows
end Go.Proofs.YtdmfififkcnecaaDoor
