/- What the proof of MvsBelow leans on, part 9: PMvsBelowZ. No condition beyond what each theorem states. -/
import Derived.Test.YtnpdbhbmakdklaaGreatDoorMvsBelowKh
import Derived.Test.YtnpdbhbmakdklaaGreatDoorCards
import Derived.Test.YtnpdbhbmakdklaaGreatDoorTie
import Derived.WalkKit
import Derived.ProofKit
import Derived.OpenShut
import Derived.ShutString
import Derived.ChangeOld
import Derived.Below
import Derived.LaidMore
import Derived.Lay
import Derived.SevenTiedAt
import Derived.Stop.Joined
set_option linter.unusedVariables false
set_option linter.unusedSimpArgs false
set_option linter.unusedSectionVars false
set_option maxRecDepth 100000
set_option maxHeartbeats 4000000
section
namespace Go.Proofs.YtnpdbhbmakdklaaGreatDoor.PMvsBelow
open Go.ChangeShapes Go.WideShapes Go.ChangeAt Go.RowKit
theorem zov:joinedFacts Tryz.pinned.checked.prog 5 Tryz.f5 Rows.mvsBelowSpec Rows.mvsBelowRow=true:=by kernel_rfl
end Go.Proofs.YtnpdbhbmakdklaaGreatDoor.PMvsBelow
end
