/- What the proof of CpsTree leans on, part 9. No condition beyond what each theorem states. -/
import Derived.Test.YtnpdbhbmakdklaaGreatDoorCpsTreeKh
import Derived.Test.YtnpdbhbmakdklaaGreatDoorCards
import Derived.Test.YtnpdbhbmakdklaaGreatDoorTie
import Derived.WalkKit
import Derived.ProofKit
import Derived.OpenShut
import Derived.ShutString
import Derived.ChangeOld
import Derived.Below
import Derived.LaidMore
import Derived.Lay
import Derived.SevenTiedAt
import Derived.Stop.Joined
set_option linter.unusedVariables false
set_option linter.unusedSimpArgs false
set_option linter.unusedSectionVars false
set_option maxRecDepth 100000
set_option maxHeartbeats 4000000
section
namespace Go.Proofs.YtnpdbhbmakdklaaGreatDoor.PCpsTree
open Go.ChangeShapes Go.WideShapes Go.ChangeAt Go.RowKit
theorem zqS:joinedFacts Tryz.pinned.checked.prog 7 Tryz.f7 Rows.cpsTreeSpec Rows.cpsTreeRow=true:=by kernel_rfl
end Go.Proofs.YtnpdbhbmakdklaaGreatDoor.PCpsTree
end
