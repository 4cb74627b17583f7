/- What the proof of MvsTrue leans on, part 9: PMvsTrueZ. No condition beyond what each theorem states. -/
import Derived.Test.YtnpdbhbmakdklaaGreatDoorMvsTrueKh
import Derived.Test.YtnpdbhbmakdklaaGreatDoorCards
import Derived.Test.YtnpdbhbmakdklaaGreatDoorTie
import Derived.WalkKit
import Derived.ProofKit
import Derived.OpenShut
import Derived.ShutString
import Derived.ChangeOld
import Derived.Below
import Derived.LaidMore
import Derived.Lay
import Derived.SevenTiedAt
import Derived.Stop.Joined
import Derived.Deep.DeepHandedRow
set_option linter.unusedVariables false
set_option linter.unusedSimpArgs false
set_option linter.unusedSectionVars false
set_option maxRecDepth 100000
set_option maxHeartbeats 4000000
section
namespace Go.Proofs.YtnpdbhbmakdklaaGreatDoor.PMvsTrue
open Go.ChangeMaps Go.ChangeShapes Go.WideShapes Go.ChangeAt Go.RowKit
theorem zqE:joinedFacts Tryz.pinned.checked.prog 3 Tryz.f3 (Rows.OpenSpec.upto Rows.mvsTrueSpec).bare Rows.mvsTrueUptoRow=true:=by kernel_rfl
end Go.Proofs.YtnpdbhbmakdklaaGreatDoor.PMvsTrue
end
