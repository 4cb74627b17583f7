/- What the proof of LnsPlaces leans on, part 9: PLnsPlacesZ. No condition beyond what each theorem states. -/
import Derived.Test.YtaipngaejfndgaaGreatDoorLnsPlacesKh
import Derived.Test.YtaipngaejfndgaaGreatDoorCards
import Derived.Test.YtaipngaejfndgaaGreatDoorTie
import Derived.WalkKit
import Derived.ProofKit
import Derived.OpenShut
import Derived.ShutString
import Derived.ChangeOld
import Derived.Below
import Derived.LaidMore
import Derived.Lay
import Derived.SevenTiedAt
import Derived.Stop.Joined
import Derived.Deep.DeepHandedRow
set_option linter.unusedVariables false
set_option linter.unusedSimpArgs false
set_option linter.unusedSectionVars false
set_option maxRecDepth 100000
set_option maxHeartbeats 4000000
section
namespace Go.Proofs.YtaipngaejfndgaaGreatDoor.PLnsPlaces
open Go.ChangeMaps Go.ChangeShapes Go.WideShapes Go.ChangeAt Go.RowKit
theorem zpN:joinedFacts Tryz.pinned.checked.prog 6 Tryz.f6 (Rows.OpenSpec.upto Rows.lnsPlacesSpec).bare Rows.lnsPlacesUptoRow=true:=by kernel_rfl
end Go.Proofs.YtaipngaejfndgaaGreatDoor.PLnsPlaces
end
