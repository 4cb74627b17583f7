/- The second form of the statement of MvsLeads is proved: for every input within the bound the law answers true, and each argument reads behind the call as it read before. Condition: the bound on what is handed in, which the row itself prints. -/
import Derived.Test.YtnpdbhbmakdklaaGreatDoorMvsLeadsKj
import Derived.WalkKit
import Derived.ProofKit
import Derived.OpenShut
import Derived.ShutString
import Derived.ChangeOld
import Derived.Below
import Derived.LaidMore
import Derived.Lay
import Derived.SevenTiedAt
import Derived.Stop.Joined
import Derived.Deep.DeepHandedRow
set_option linter.unusedVariables false
set_option linter.unusedSimpArgs false
set_option linter.unusedSectionVars false
set_option maxRecDepth 100000
set_option maxHeartbeats 4000000
section
namespace Go.Proofs.YtnpdbhbmakdklaaGreatDoor.PMvsLeads
open Go.ChangeMaps Go.ChangeShapes Go.WideShapes Go.ChangeAt Go.RowKit Vcg
theorem Jc (f:FuncId) (fn:Func) (hf:Tryz.pinned.checked.prog.funcNamed "drayman/draymanlaw29.MvsLeads"=some f) (hfn:Tryz.pinned.checked.prog.funcs[f]?=some fn) :
  false=Tryz.pinned.checked.prog.looks []/\∀ (j:Nat) t,fn.params[j]?=some t->Tryz.pinned.checked.prog.wantsStandIn t=false:=by
 obtain rfl:f=4:=Option.some.inj ((show Tryz.prog.funcNamed "drayman/draymanlaw29.MvsLeads"=some 4 by kernel_rfl).symm.trans hf) |>.symm
 obtain rfl:fn=Tryz.f4:=(Option.some.inj (Tryz.func4.symm.trans hfn)).symm
 exact ⟨by kernel_rfl,fun j t ht=>by
  rw[Tryz.params4]at ht
  have hm:t∈[29,9,30]:=by simpa using Ad ht
  have hall:([29,9,30].all fun u=>!Tryz.prog.wantsStandIn u)=true:=by kernel_rfl
  exact (show Tryz.prog.wantsStandIn t=false by simpa using Wz.1 hall t hm)⟩
theorem card:Rows.MvsLeadsUptoCardSaid:=
 Claim7.holds_tied_plain_at .later [] _ _ _ _ zu8 (fun _ h=>by cases h) (by kernel_rfl) (fun _ h=>by cases h) mvsLeadsUpto_row_tie rfl ⟨rfl,rfl⟩ (by kernel_rfl) rfl Jc (by kernel_rfl)
theorem proved:Rows.MvsLeadsUptoCardSaid:=card
end Go.Proofs.YtnpdbhbmakdklaaGreatDoor.PMvsLeads
end
