/- The statement of MvsBelow is proved: for every input the law answers true, and each argument reads behind the call as it read before. Condition: none but what the row itself prints. -/
import Derived.Test.YtnpdbhbmakdklaaGreatDoorMvsBelowKj
import Derived.WalkKit
import Derived.ProofKit
import Derived.OpenShut
import Derived.ShutString
import Derived.ChangeOld
import Derived.Below
import Derived.LaidMore
import Derived.Lay
import Derived.SevenTiedAt
import Derived.Stop.Joined
set_option linter.unusedVariables false
set_option linter.unusedSimpArgs false
set_option linter.unusedSectionVars false
set_option maxRecDepth 100000
set_option maxHeartbeats 4000000
section
namespace Go.Proofs.YtnpdbhbmakdklaaGreatDoor.PMvsBelow
open Go.ChangeShapes Go.WideShapes Go.ChangeAt Go.RowKit Vcg
theorem jE (f:FuncId) (fn:Func) (hf:Tryz.pinned.checked.prog.funcNamed "drayman/draymanlaw29.MvsBelow"=some f) (hfn:Tryz.pinned.checked.prog.funcs[f]?=some fn) :
  false=Tryz.pinned.checked.prog.looks []/\∀ (j:Nat) t,fn.params[j]?=some t->Tryz.pinned.checked.prog.wantsStandIn t=false:=by
 obtain rfl:f=5:=Option.some.inj ((show Tryz.prog.funcNamed "drayman/draymanlaw29.MvsBelow"=some 5 by kernel_rfl).symm.trans hf) |>.symm
 obtain rfl:fn=Tryz.f5:=(Option.some.inj (Tryz.func5.symm.trans hfn)).symm
 exact ⟨by kernel_rfl,fun j t ht=>by
  rw[Tryz.params5]at ht
  have hm:t∈[29,9,9]:=by simpa using O9 ht
  have hall:([29,9,9].all fun u=>!Tryz.prog.wantsStandIn u)=true:=by kernel_rfl
  exact (show Tryz.prog.wantsStandIn t=false by simpa using Wt.1 hall t hm)⟩
theorem card:Rows.MvsBelowCardSaid:=
 Claim7.holds_tied_plain_at .later [] _ _ _ _ zsH (fun _ h=>by cases h) (by kernel_rfl) (fun _ h=>by cases h) mvsBelow_row_tie rfl ⟨rfl,rfl⟩ (by kernel_rfl) rfl jE (by kernel_rfl)
theorem proved:Rows.MvsBelowCardSaid:=card
end Go.Proofs.YtnpdbhbmakdklaaGreatDoor.PMvsBelow
end
