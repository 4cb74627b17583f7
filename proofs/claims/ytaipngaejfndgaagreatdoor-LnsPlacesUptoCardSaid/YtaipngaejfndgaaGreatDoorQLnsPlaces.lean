/- The second form of the statement of LnsPlaces is proved: for every input within the bound the law answers true, and each argument reads behind the call as it read before. Condition: the bound on what is handed in, which the row itself prints. -/
import Derived.Test.YtaipngaejfndgaaGreatDoorLnsPlacesKj
import Derived.WalkKit
import Derived.ProofKit
import Derived.OpenShut
import Derived.ShutString
import Derived.ChangeOld
import Derived.Below
import Derived.LaidMore
import Derived.Lay
import Derived.SevenTiedAt
import Derived.Stop.Joined
import Derived.Deep.DeepHandedRow
set_option linter.unusedVariables false
set_option linter.unusedSimpArgs false
set_option linter.unusedSectionVars false
set_option maxRecDepth 100000
set_option maxHeartbeats 4000000
section
namespace Go.Proofs.YtaipngaejfndgaaGreatDoor.PLnsPlaces
open Go.ChangeMaps Go.ChangeShapes Go.WideShapes Go.ChangeAt Go.RowKit Vcg
theorem Yh (f:FuncId) (fn:Func) (hf:Tryz.pinned.checked.prog.funcNamed "drayman/draymanlaw28.LnsPlaces"=some f) (hfn:Tryz.pinned.checked.prog.funcs[f]?=some fn) :
  false=Tryz.pinned.checked.prog.looks []/\∀ (j:Nat) t,fn.params[j]?=some t->Tryz.pinned.checked.prog.wantsStandIn t=false:=by
 obtain rfl:f=6:=Option.some.inj ((show Tryz.prog.funcNamed "drayman/draymanlaw28.LnsPlaces"=some 6 by kernel_rfl).symm.trans hf) |>.symm
 obtain rfl:fn=Tryz.f6:=(Option.some.inj (Tryz.func6.symm.trans hfn)).symm
 exact ⟨by kernel_rfl,fun j t ht=>by
  rw[Tryz.params6]at ht
  have hm:t∈[29,9,30,5]:=by simpa using OZ ht
  have hall:([29,9,30,5].all fun u=>!Tryz.prog.wantsStandIn u)=true:=by kernel_rfl
  exact (show Tryz.prog.wantsStandIn t=false by simpa using WC.1 hall t hm)⟩
theorem card:Rows.LnsPlacesUptoCardSaid:=
 Claim7.holds_tied_plain_at .later [] _ _ _ _ zt2 (fun _ h=>by cases h) (by kernel_rfl) (fun _ h=>by cases h) lnsPlacesUpto_row_tie rfl ⟨rfl,rfl⟩ (by kernel_rfl) rfl Yh (by kernel_rfl)
theorem proved:Rows.LnsPlacesUptoCardSaid:=card
end Go.Proofs.YtaipngaejfndgaaGreatDoor.PLnsPlaces
end
