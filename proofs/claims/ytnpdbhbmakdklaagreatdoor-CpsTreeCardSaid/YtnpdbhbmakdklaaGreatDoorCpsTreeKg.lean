/- What the proof of CpsTree leans on, part 7. No condition beyond what each theorem states. -/
import Derived.Test.YtnpdbhbmakdklaaGreatDoorCpsTreeKf
import Derived.Test.YtnpdbhbmakdklaaGreatDoorCards
import Derived.Test.YtnpdbhbmakdklaaGreatDoorTie
import Derived.WalkKit
import Derived.ProofKit
import Derived.OpenShut
import Derived.ShutString
import Derived.ChangeOld
import Derived.Below
import Derived.LaidMore
import Derived.Lay
import Derived.SevenTiedAt
import Derived.Stop.Joined
set_option linter.unusedVariables false
set_option linter.unusedSimpArgs false
set_option linter.unusedSectionVars false
set_option maxRecDepth 100000
set_option maxHeartbeats 4000000
section
namespace Go.Proofs.YtnpdbhbmakdklaaGreatDoor.PCpsTree
open Go.ChangeShapes Go.WideShapes Go.ChangeAt Go.RowKit Vcg
theorem own:ownKnob Tryz.prog.godebug=none:=by kernel_rfl
theorem vd:laidOutB Tryz.prog=true:=by kernel_rfl
theorem zic (H:Type) (enc:TypeId×Value->H) (W:World) (base:Nat) (args:Array Value) (ds gs:List (DataW H)) (before:List MemPlace)
  (hval:∀ (j:Nat) t v,Tryz.f7.params[j]?=some t->args[j]?=some v->Value.okWide Tryz.prog W .any base t v)
  (hW:DataW.Whole enc Tryz.prog Tryz.f7.params.toList Rows.cpsTreeSpec.vars false W args.toList ds gs before) (hL:laidMetH Tryz.prog Rows.cpsTreeRow.laid W) :
  Calls Tryz.prog 7 args W fun e W'=>∃ v,e = .returned v/\Rows.cpsTreeSpec.post enc Tryz.prog Tryz.f7 false true false false W args v W':=by
 have hW':=hW
 obtain ⟨p,q,hA0,hV,rfl,hfz,hnd⟩:=hW
 have hA:DataW.TrodAll enc Tryz.prog W 0 (fun _=>true) true Tryz.f7.params.toList args.toList ds p:=hA0
 rw[Tryz.params7]at hA hval
 obtain ⟨v0,vs0,d0,ds0,p0,q0,hargs,rfl,rfl,h0,r0⟩:=trodAll_cons hA
 obtain ⟨v1,vs1,d1,ds1,p1,q1,rfl,rfl,rfl,h1,r1⟩:=trodAll_cons r0
 obtain ⟨v2,vs2,d2,ds2,p2,q2,rfl,rfl,rfl,h2,r2⟩:=trodAll_cons r1
 obtain ⟨rfl,rfl,rfl⟩:=trodAll_nil r2
 obtain rfl:args = #[v0,v1,v2]:=by cases args;simp_all
 obtain ⟨rfl,rfl⟩:=trodVars_none hV
 have lt0:∀ x∈p0,x.block<W.heap.size:=by obtain ⟨m,hm⟩:=h0;exact DataW.trod_lt m _ _ _ hm
 have lt1:∀ x∈p1,x.block<W.heap.size:=by obtain ⟨m,hm⟩:=h1;exact DataW.trod_lt m _ _ _ hm
 have lt2:∀ x∈p2,x.block<W.heap.size:=by obtain ⟨m,hm⟩:=h2;exact DataW.trod_lt m _ _ _ hm
 obtain ⟨row0,⟨a0,rfl,w0⟩,rep0⟩:=Jc.arg zhs Tryz.underlying29 (hval 0 29 v0 rfl rfl) h0
 obtain ⟨n1,hn1⟩:=okWide_string Tryz.underlying9 (hval 1 9 v1 rfl rfl)
 obtain ⟨_,⟨a1,rfl,w1⟩,rep1⟩:=Opn.arg (r:=.any) (b0:=base) (Opn.str Tryz.underlying9) (by rw[hn1];rfl) h1
 obtain ⟨n2,hn2⟩:=okWide_string Tryz.underlying9 (hval 2 9 v2 rfl rfl)
 obtain ⟨_,⟨a2,rfl,w2⟩,rep2⟩:=Opn.arg (r:=.any) (b0:=base) (Opn.str Tryz.underlying9) (by rw[hn2];rfl) h2
 clear hA0
 refine (Fun.answers (yR a0 a1 a2) (zsU hL (by kernel_rfl) (by repeat (first | exact Wj | refine Wk _ ?_)) (by repeat (first | exact Wj | refine Wk _ ?_)) (by repeat (first | exact Wj | refine Wk _ ?_)) (by repeat (first | exact Wj | refine Wk _ ?_))) (zg.2 ⟨_,_,rfl,rep0,zg.2 ⟨_,_,rfl,rep1,zg.2 ⟨_,_,rfl,rep2,zm.2 rfl⟩⟩⟩)).mono fun e W' ⟨he,bel⟩=>?_
 subst he
 exact ⟨_,rfl,_,_,_,[],_,[],hW',trodAll_mk1 (shut_bool Tryz.underlying4 _),(trodAll_cons_mk (Below.trod vd (by kernel_rfl) (WP (by kernel_rfl)) h0 bel lt0) (trodAll_cons_mk (Below.trod vd (by kernel_rfl) (WP (by kernel_rfl)) h1 bel lt1) (trodAll_cons_mk (Below.trod vd (by kernel_rfl) (WP (by kernel_rfl)) h2 bel lt2) trodAll_mk0))),rfl,bel.frame _,fun h=>by cases h⟩
end Go.Proofs.YtnpdbhbmakdklaaGreatDoor.PCpsTree
end
