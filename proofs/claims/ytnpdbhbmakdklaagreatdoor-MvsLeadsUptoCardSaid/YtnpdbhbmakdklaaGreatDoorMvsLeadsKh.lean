/- What the proof of MvsLeads leans on, part 8. No condition beyond what each theorem states. -/
import Derived.Test.YtnpdbhbmakdklaaGreatDoorMvsLeadsKg
import Derived.WalkKit
import Derived.ProofKit
import Derived.OpenShut
import Derived.ShutString
import Derived.ChangeOld
import Derived.Below
import Derived.LaidMore
import Derived.Lay
import Derived.SevenTiedAt
import Derived.Stop.Joined
import Derived.Deep.DeepHandedRow
set_option linter.unusedVariables false
set_option linter.unusedSimpArgs false
set_option linter.unusedSectionVars false
set_option maxRecDepth 100000
set_option maxHeartbeats 4000000
section
namespace Go.Proofs.YtnpdbhbmakdklaaGreatDoor.PMvsLeads
open Go.ChangeMaps Go.ChangeShapes Go.WideShapes Go.ChangeAt Go.RowKit Vcg
theorem reads (os:Os) {H:Type} (enc:TypeId×Value->H):∃ places,DataW.whole enc Tryz.prog ((World.laidAll Tryz.prog os Rows.mvsLeadsUptoRow.laid).forCall (fun _ _=>0) ⟨#[],#[.agg #[.int .i64 0,.int .i64 0,.int .i64 0,.slice none 0 0,.slice none 0 0,.slice none 0 0],.string ⟨#[]⟩,.slice none 0 0],[]⟩).memory Tryz.f4.params.toList Rows.mvsLeadsSpec.vars false #[.agg #[.int .i64 0,.int .i64 0,.int .i64 0,.slice none 0 0,.slice none 0 0,.slice none 0 0],.string ⟨#[]⟩,.slice none 0 0].toList 8=some ([.agg [.agg [.lit (.int .i64 0),.lit (.int .i64 0),.lit (.int .i64 0),.nil],.agg [.nil,.nil]],.lit (.string []),.nil],[],places):=⟨[],by kernel_rfl⟩
theorem zrF (os:Os) (started:os.Started) (H:Type) (enc:TypeId×Value->H) (F:Stop.Interp) :
  ReturnsInHanded {} Tryz.checked os 4 .any ((Rows.OpenSpec.upto Rows.mvsLeadsSpec).preRow enc Tryz.prog Tryz.f4 Rows.mvsLeadsUptoRow.domain false Rows.mvsLeadsUptoRow.laid) (((Rows.OpenSpec.upto Rows.mvsLeadsSpec).at F).post enc Tryz.prog Tryz.f4 false true false false):=by
 obtain ⟨places,hx⟩:=reads os enc
 refine returnsInHanded_of_row (C:=Tryz.checked) (s:=Rows.OpenSpec.upto Rows.mvsLeadsSpec) own started (by kernel_rfl) Tryz.func4
  (yY (enc:=enc) (C:=Tryz.checked) (World.laidAll Tryz.prog os Rows.mvsLeadsUptoRow.laid) #[.agg #[.int .i64 0,.int .i64 0,.int .i64 0,.slice none 0 0,.slice none 0 0,.slice none 0 0],.string ⟨#[]⟩,.slice none 0 0] (World.laidAll_os _ _ _) (World.shaped_of_ZipB (by kernel_rfl) (by kernel_rfl)) (by kernel_rfl)
   (OpenSpec.preRow_of_cond 8 hx (by kernel_rfl) (fun k hk=>by cases hk;kernel_rfl) (by kernel_rfl) (by rw[MakeChecks.laidMetH_plain _ _ _ (by kernel_rfl)];exact laidMet_laidAll _ (by kernel_rfl) (by kernel_rfl)))) ?_
 intro W base args ds gs before hval hW _ hcond _ hL _ _
 exact zkh H enc W base args ds gs before hval hW hL (WP (hcond _ rfl))
end Go.Proofs.YtnpdbhbmakdklaaGreatDoor.PMvsLeads
end
