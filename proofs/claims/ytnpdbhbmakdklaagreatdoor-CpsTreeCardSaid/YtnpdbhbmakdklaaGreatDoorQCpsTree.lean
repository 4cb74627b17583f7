/- The statement of CpsTree is proved: for every input the law answers true, and each argument reads behind the call as it read before. Condition: none but what the row itself prints. -/
import Derived.Test.YtnpdbhbmakdklaaGreatDoorCpsTreeKj
import Derived.WalkKit
import Derived.ProofKit
import Derived.OpenShut
import Derived.ShutString
import Derived.ChangeOld
import Derived.Below
import Derived.LaidMore
import Derived.Lay
import Derived.SevenTiedAt
import Derived.Stop.Joined
set_option linter.unusedVariables false
set_option linter.unusedSimpArgs false
set_option linter.unusedSectionVars false
set_option maxRecDepth 100000
set_option maxHeartbeats 4000000
section
namespace Go.Proofs.YtnpdbhbmakdklaaGreatDoor.PCpsTree
open Go.ChangeShapes Go.WideShapes Go.ChangeAt Go.RowKit Vcg
theorem jK (f:FuncId) (fn:Func) (hf:Tryz.pinned.checked.prog.funcNamed "drayman/draymanlaw30.CpsTree"=some f) (hfn:Tryz.pinned.checked.prog.funcs[f]?=some fn) :
  false=Tryz.pinned.checked.prog.looks []/\∀ (j:Nat) t,fn.params[j]?=some t->Tryz.pinned.checked.prog.wantsStandIn t=false:=by
 obtain rfl:f=7:=Option.some.inj ((show Tryz.prog.funcNamed "drayman/draymanlaw30.CpsTree"=some 7 by kernel_rfl).symm.trans hf) |>.symm
 obtain rfl:fn=Tryz.f7:=(Option.some.inj (Tryz.func7.symm.trans hfn)).symm
 exact ⟨by kernel_rfl,fun j t ht=>by
  rw[Tryz.params7]at ht
  have hm:t∈[29,9,9]:=by simpa using OT ht
  have hall:([29,9,9].all fun u=>!Tryz.prog.wantsStandIn u)=true:=by kernel_rfl
  exact (show Tryz.prog.wantsStandIn t=false by simpa using Ws.1 hall t hm)⟩
theorem card:Rows.CpsTreeCardSaid:=
 Claim7.holds_tied_plain_at .later [] _ _ _ _ ztQ (fun _ h=>by cases h) (by kernel_rfl) (fun _ h=>by cases h) cpsTree_row_tie rfl ⟨rfl,rfl⟩ (by kernel_rfl) rfl jK (by kernel_rfl)
theorem proved:Rows.CpsTreeCardSaid:=card
end Go.Proofs.YtnpdbhbmakdklaaGreatDoor.PCpsTree
end
