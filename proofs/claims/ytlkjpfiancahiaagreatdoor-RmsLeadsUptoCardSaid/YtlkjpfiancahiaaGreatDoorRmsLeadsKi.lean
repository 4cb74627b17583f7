/- What the proof of RmsLeads leans on, part 9: PRmsLeadsZ. No condition beyond what each theorem states. -/
import Derived.Test.YtlkjpfiancahiaaGreatDoorRmsLeadsKh
import Derived.Test.YtlkjpfiancahiaaGreatDoorCards
import Derived.Test.YtlkjpfiancahiaaGreatDoorTie
import Derived.WalkKit
import Derived.ProofKit
import Derived.OpenShut
import Derived.ShutString
import Derived.ChangeOld
import Derived.Below
import Derived.LaidMore
import Derived.Lay
import Derived.SevenTiedAt
import Derived.Stop.Joined
import Derived.Deep.DeepHandedRow
set_option linter.unusedVariables false
set_option linter.unusedSimpArgs false
set_option linter.unusedSectionVars false
set_option maxRecDepth 100000
set_option maxHeartbeats 4000000
section
namespace Go.Proofs.YtlkjpfiancahiaaGreatDoor.PRmsLeads
open Go.ChangeMaps Go.ChangeShapes Go.WideShapes Go.ChangeAt Go.RowKit
theorem zqh:joinedFacts Tryz.pinned.checked.prog 4 Tryz.f4 (Rows.OpenSpec.upto Rows.rmsLeadsSpec).bare Rows.rmsLeadsUptoRow=true:=by kernel_rfl
end Go.Proofs.YtlkjpfiancahiaaGreatDoor.PRmsLeads
end
