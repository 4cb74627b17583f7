/- TableKeeps at whatever argument. No condition but what it states. -/
import Derived.Test.YtheokoehnmlafaaLaw5k
import Derived.Test.YtheokoehnmlafaaOpen5
set_option linter.unusedVariables false
namespace Go.Proofs.Ytheokoehnmlafaa.Vcg
open Go.RowKit
theorem tableKeeps_any (f : FsV) (x : NodV) (h : nodOk x) : Fun Try.prog G5 4 [.agg (fsC f), .agg (nodC x)] (.sc (.bool true)) 0 := keeps5 f x h.2.1
end Go.Proofs.Ytheokoehnmlafaa.Vcg
