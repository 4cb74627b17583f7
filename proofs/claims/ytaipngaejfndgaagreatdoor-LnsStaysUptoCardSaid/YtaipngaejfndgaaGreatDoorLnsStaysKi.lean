/- What the proof of LnsStays leans on, part 9: PLnsStaysZ. No condition beyond what each theorem states. -/
import Derived.Test.YtaipngaejfndgaaGreatDoorLnsStaysKh
import Derived.Test.YtaipngaejfndgaaGreatDoorCards
import Derived.Test.YtaipngaejfndgaaGreatDoorTie
import Derived.WalkKit
import Derived.ProofKit
import Derived.OpenShut
import Derived.ShutString
import Derived.ChangeOld
import Derived.Below
import Derived.LaidMore
import Derived.Lay
import Derived.SevenTiedAt
import Derived.Stop.Joined
import Derived.Deep.DeepHandedRow
set_option linter.unusedVariables false
set_option linter.unusedSimpArgs false
set_option linter.unusedSectionVars false
set_option maxRecDepth 100000
set_option maxHeartbeats 4000000
section
namespace Go.Proofs.YtaipngaejfndgaaGreatDoor.PLnsStays
open Go.ChangeMaps Go.ChangeShapes Go.WideShapes Go.ChangeAt Go.RowKit
theorem zpf:joinedFacts Tryz.pinned.checked.prog 7 Tryz.f7 (Rows.OpenSpec.upto Rows.lnsStaysSpec).bare Rows.lnsStaysUptoRow=true:=by kernel_rfl
end Go.Proofs.YtaipngaejfndgaaGreatDoor.PLnsStays
end
