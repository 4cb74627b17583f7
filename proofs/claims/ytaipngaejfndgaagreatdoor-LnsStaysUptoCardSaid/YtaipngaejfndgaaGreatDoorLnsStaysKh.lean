/- What the proof of LnsStays leans on, part 8: PLnsStaysB. No condition beyond what each theorem states. -/
import Derived.Test.YtaipngaejfndgaaGreatDoorLnsStaysKg
import Derived.WalkKit
import Derived.ProofKit
import Derived.OpenShut
import Derived.ShutString
import Derived.ChangeOld
import Derived.Below
import Derived.LaidMore
import Derived.Lay
import Derived.SevenTiedAt
import Derived.Stop.Joined
import Derived.Deep.DeepHandedRow
set_option linter.unusedVariables false
set_option linter.unusedSimpArgs false
set_option linter.unusedSectionVars false
set_option maxRecDepth 100000
set_option maxHeartbeats 4000000
section
namespace Go.Proofs.YtaipngaejfndgaaGreatDoor.PLnsStays
open Go.ChangeMaps Go.ChangeShapes Go.WideShapes Go.ChangeAt Go.RowKit Vcg
theorem reads (os:Os) {H:Type} (enc:TypeId×Value->H):∃ places,DataW.whole enc Tryz.prog ((World.laidAll Tryz.prog os Rows.lnsStaysUptoRow.laid).forCall (fun _ _=>0) ⟨#[],#[.agg #[.int .i64 0,.int .i64 0,.int .i64 0,.slice none 0 0,.slice none 0 0,.slice none 0 0],.string ⟨#[]⟩,.slice none 0 0],[]⟩).memory Tryz.f7.params.toList Rows.lnsStaysSpec.vars false #[.agg #[.int .i64 0,.int .i64 0,.int .i64 0,.slice none 0 0,.slice none 0 0,.slice none 0 0],.string ⟨#[]⟩,.slice none 0 0].toList 8=some ([.agg [.agg [.lit (.int .i64 0),.lit (.int .i64 0),.lit (.int .i64 0),.nil],.agg [.nil,.nil]],.lit (.string []),.nil],[],places):=⟨[],by kernel_rfl⟩
theorem zo4 (os:Os) (started:os.Started) (H:Type) (enc:TypeId×Value->H) (F:Stop.Interp) :
  ReturnsInHanded {} Tryz.checked os 7 .any ((Rows.OpenSpec.upto Rows.lnsStaysSpec).preRow enc Tryz.prog Tryz.f7 Rows.lnsStaysUptoRow.domain false Rows.lnsStaysUptoRow.laid) (((Rows.OpenSpec.upto Rows.lnsStaysSpec).at F).post enc Tryz.prog Tryz.f7 false true false false):=by
 obtain ⟨places,hx⟩:=reads os enc
 refine returnsInHanded_of_row (C:=Tryz.checked) (s:=Rows.OpenSpec.upto Rows.lnsStaysSpec) own started (by kernel_rfl) Tryz.func7
  (va (enc:=enc) (C:=Tryz.checked) (World.laidAll Tryz.prog os Rows.lnsStaysUptoRow.laid) #[.agg #[.int .i64 0,.int .i64 0,.int .i64 0,.slice none 0 0,.slice none 0 0,.slice none 0 0],.string ⟨#[]⟩,.slice none 0 0] (World.laidAll_os _ _ _) (World.shaped_of_ZipB (by kernel_rfl) (by kernel_rfl)) (by kernel_rfl)
   (OpenSpec.preRow_of_cond 8 hx (by kernel_rfl) (fun k hk=>by cases hk;kernel_rfl) (by kernel_rfl) (by rw[MakeChecks.laidMetH_plain _ _ _ (by kernel_rfl)];exact laidMet_laidAll _ (by kernel_rfl) (by kernel_rfl)))) ?_
 intro W base args ds gs before hval hW _ hcond _ hL _ _
 exact zjY H enc W base args ds gs before hval hW hL (WN (hcond _ rfl))
end Go.Proofs.YtaipngaejfndgaaGreatDoor.PLnsStays
end
