/- What the proof of DraftLeads leans on, part 4: Path5 Ref3 PathLaw Open Laid Op1 QuotePlain QuotePlain2 QuotePlain3 OpV Op2 Wld0 Ent1 Ent2 EntW TabW Wld1 Wld2 Wld3 Wld4 Wld5 Room Plc Crt Drp Mov SlcK Sts OpenW StW Sts2 StX Kep Stp Stp2 Stp3 Stp4 Deed Doo Dra1 Dra2 Rf4 Rf5 Rf6 Rf7 Op3 Op4 Op5 Ref19 Rf8 Snd2. No condition beyond what each theorem states. -/
import Derived.Test.YtiblepfehggicaaGreatDoorDraftLeadsKc
import Derived.ProofKit
import Derived.Deep.Slices
import Derived.Deep.Fields
import Derived.ChangeSame
import Derived.ChangeOld
import Derived.Lib.SmallJoins
import Derived.Lib.LaidU8
import Derived.OpenShut
import Derived.FnData
import Derived.Lib.Bytealg
set_option linter.unusedVariables false
set_option linter.unusedSimpArgs false
set_option linter.unusedSectionVars false
set_option maxRecDepth 100000
set_option maxHeartbeats 4000000
namespace Go.Proofs.YtiblepfehggicaaGreatDoor.Vcg
section
open Go.RowKit
def zes (xs:List (List UInt8)):Int:=match xs.findIdx? (fun x=>!may x) with | some i=>(i:Int) | none=>-1
theorem ziV (xs:List (List UInt8)):decide (0<=zes xs) = !xs.all may:=by
 unfold zes
 cases h:xs.findIdx? (fun x=>!may x) with
 | none =>
  have:=List.findIdx?_eq_none_iff.1 h
  have h2:xs.all may=true:=List.all_eq_true.2 fun x hx=>by simpa using this x hx
  rw[h2];rfl
 | some i =>
  have h1:=List.findIdx?_eq_some_iff_getElem.1 h
  obtain ⟨hi,hp,_⟩:=h1
  have h2:xs.all may=false:=List.all_eq_false.2 ⟨xs[i],List.getElem_mem hi,by simpa using hp⟩
  rw[h2];simp
theorem Gc (xs:List (List UInt8)) (hx:xs.length<=1000001) (hl:∀ x∈xs,x.length<=1000000):Fun Tryz.prog G0 226 [.sl 1 (jq xs),.clo (.func 197) [] []] (.sc (.int .i64 (zes xs))) 0:=by
 refine fon Tryz.func226 ?_;dsimp only[Tryz.f226]
 push_cast -dsimp
 refine loop (fun k:Nat=>⟨[(0,.sl 1 (jq xs)),(1,.clo (.func 197) [] []),(7,.sc (.int .i64 (xs.length:Int))),(8,.sc (.int .i64 k))],[],0,0⟩) (fun k=>k<=xs.length/\∀ j (hj:j<xs.length),j<k->may (xs[j]'hj)=true) (fun k=>xs.length-k) 0 ⟨Nat.zero_le _,fun j _ hj=>by omega⟩ ?_ ?_
 ·exact wk
 ·intro k hk
  have hk1:=hk.1
  have hk2:=hk.2
  by_cases h:k<xs.length
  ·have hg:(jq xs)[k]?=some [.str (xs[k]'h)]:=by rw[strs_get?,List.getElem?_eq_getElem h];rfl
   push_cast -dsimp [h,hg]
   refine ⟨by omega,?_⟩
   refine call (zaP (xs[k]'h) (hl _ (List.getElem_mem h))) ?_
   push_cast -dsimp
   cases hm:may (xs[k]'h) with
   | true =>
    push_cast -dsimp
    refine ⟨by omega,k+1,⟨by omega,fun j hj hjk=>?_⟩,by omega,wk⟩
    rcases Nat.lt_or_ge j k with g | g
    ·exact hk2 j hj g
    ·have:j=k:=by omega
     subst this;exact hm
   | false =>
    push_cast -dsimp
    refine ⟨[],rfl,rfl,?_⟩
    push_cast -dsimp [ze,zd,CLe,zg]
    have:xs.findIdx? (fun x=>!may x)=some k:=List.findIdx?_eq_some_iff_getElem.2 ⟨h,by simp[hm],fun j hj=>by simp[hk2 j (by omega) hj]⟩
    simp[zes,this]
  ·push_cast -dsimp [h]
   refine ⟨[],rfl,rfl,?_⟩
   push_cast -dsimp [ze,zd,CLe,zg]
   have:xs.findIdx? (fun x=>!may x)=none:=List.findIdx?_eq_none_iff.2 fun x hx=>by
    obtain ⟨j,hj,rfl⟩:=List.getElem_of_mem hx
    simp[hk2 j hj (by omega)]
   simp[zes,this]
theorem VU (xs:List (List UInt8)) (hx:xs.length<=1000001) (hl:∀ x∈xs,x.length<=1000000):Fun Tryz.prog G0 196 [.sl 1 (jq xs),.clo (.func 197) [] []] (qO (!xs.all may)) 0:=by
 have h:=ziV xs
 refine fon Tryz.func196 ?_;dsimp only[Tryz.f196]
 push_cast -dsimp
 refine call (Gc xs hx hl) ?_
 push_cast -dsimp
 exact dn (by push_cast -dsimp [ze,zd,CLe,zg,h])
def Yk (p:List UInt8):Bool:=decide (jh (zI p)=p)&&(zI p).all may
def YB (p:List UInt8):C:=.tup [.own 0 9 1 (jq (if Yk p then zI p else [])),qO (Yk p)]
theorem Jd (x y:List UInt8) (r:List (List UInt8)) (sep:List UInt8):Lib.join (x :: y :: r) sep=x++sep++Lib.join (y :: r) sep:=by
 simp[Lib.join,List.intercalate,List.intersperse]
theorem Qh:∀ xs:List (List UInt8),xs≠[]->(Lib.join xs [47]).length+1=(xs.map fun x=>x.length+1).sum
 | [],h=>absurd rfl h
 | [x],_=>by simp[Lib.join]
 | x :: y :: r,_=>by
  have ih:=Qh (y :: r) (by simp)
  rw[Jd]
  simp only[List.length_append,List.length_cons,List.length_nil,List.map_cons,List.sum_cons]at ih ⊢
  omega
theorem zcH:∀ l:List UInt8,((Jj l).map fun x=>x.length+1).sum=l.length+1
 | []=>rfl
 | b :: l=>by
  have ih:=zcH l
  unfold Jj
  split
  ·simp only[List.map_cons,List.sum_cons,List.length_nil,List.length_cons,ih];omega
  ·cases h:Jj l with
   | nil=>exact absurd h (MQ l)
   | cons x r =>
    rw[h]at ih
    simp only[List.map_cons,List.sum_cons,List.length_cons]at ih ⊢
    omega
theorem HJ (f:List UInt8->Bool):∀ xs:List (List UInt8),((xs.filter f).map fun x=>x.length+1).sum<=(xs.map fun x=>x.length+1).sum
 | []=>by simp
 | x :: r=>by
  have ih:=HJ f r
  rw[List.filter_cons]
  split
  ·simp only[List.map_cons,List.sum_cons];omega
  ·simp only[List.map_cons,List.sum_cons];omega
theorem zdJ:∀ (xs:List (List UInt8)) (x:List UInt8),x∈xs->x.length+1<=(xs.map fun x=>x.length+1).sum
 | y :: r,x,h=>by
  simp only[List.map_cons,List.sum_cons]
  rcases List.mem_cons.1 h with rfl | h
  ·omega
  ·have:=zdJ r x h;omega
theorem My (l:List UInt8):(Lib.join (zI l) [47]).length<=l.length/\∀ x∈zI l,x.length<=l.length:=by
 have h1:=zcH l
 have h2:=HJ (fun x=>!decide (x = [])) (Jj l)
 rw[←Yh]at h2
 refine ⟨?_,fun x hx=>?_⟩
 ·by_cases h:zI l = []
  ·rw[h];simp[Lib.join]
  ·have:=Qh (zI l) h;omega
 ·have:=zdJ (zI l) x hx;omega
theorem NE (p:List UInt8) (hp:p.length<=1000000):Fun Tryz.prog G0 163 [.str p] (YB p) 1:=by
 have hz:=Jc p
 have hj:=My p
 by_cases h1:jh (zI p)=p
 ·have h1':(p=jh (zI p)):=h1.symm
  refine fon Tryz.func163 ?_;dsimp only[Tryz.f163]
  push_cast -dsimp
  refine call (ZT p) ?_
  push_cast -dsimp
  refine call (XV p hp) ?_
  push_cast -dsimp
  refine call (Qc (zI p) (by omega) (by omega)) ?_
  push_cast -dsimp [h1]
  refine call (VU (zI p) (by omega) fun x hx=>by have:=hj.2 x hx;omega) ?_
  push_cast -dsimp
  cases hm:(zI p).all may with
  | true =>
   push_cast -dsimp
   exact ⟨[.inl 0],rfl,rfl,by simp only[YB,Yk,h1,hm];push_cast -dsimp [ze,zd,CLe,zg]<;>simp⟩
  | false =>
   push_cast -dsimp
   exact ⟨[.inr (9,1)],rfl,rfl,by simp only[YB,Yk,h1,hm];push_cast -dsimp [ze,zd,CLe,zg]<;>simp⟩
 ·refine fon Tryz.func163 ?_;dsimp only[Tryz.f163]
  push_cast -dsimp
  refine call (ZT p) ?_
  push_cast -dsimp
  refine call (XV p hp) ?_
  push_cast -dsimp
  refine call (Qc (zI p) (by omega) (by omega)) ?_
  push_cast -dsimp [h1]
  exact ⟨[.inr (9,1)],rfl,rfl,by simp only[YB,Yk,h1];push_cast -dsimp [ze,zd,CLe,zg]<;>simp⟩
end
section
open Go.RowKit
theorem xj (xs:List (List UInt8)) (k:Nat) (x:List UInt8) (h:xs[k]?=some x):Lib.join (xs.take (k+1)) [47]=(if k=0 then x else Lib.join (xs.take k) [47]++[47]++x):=by
 cases xs with
 | nil=>simp at h
 | cons y r =>
  cases k with
  | zero=>simp at h;subst h;simp[Lib.join_one]
  | succ k =>
   simp only[List.take_succ_cons,Nat.succ_ne_zero,if_false]
   rw[Lib.join_cons,Lib.join_cons,Lib.joinTail_take_succ _ _ _ x (by simpa using h)]
   simp[List.append_assoc]
theorem zkI (xs:List (List UInt8)) (k:Nat):(Lib.join (xs.take k) [47]).length<=(Lib.join xs [47]).length:=by
 by_cases h:xs.take k = []
 ·rw[h];simp[Lib.join]
 ·have h1:=Qh (xs.take k) h
  have hx:xs≠[]:=fun e=>h (by rw[e];simp)
  have h2:=Qh xs hx
  have h3:((xs.take k).map fun x=>x.length+1).sum<=(xs.map fun x=>x.length+1).sum:=by
   conv=>rhs;rw[←List.take_append_drop k xs,List.map_append,List.sum_append]
   omega
  omega
theorem zbK (xs:List (List UInt8)) (k:Nat) (x:List UInt8) (h:xs[k]?=some x):(if xs.take (k+1) = [] then [] else jh (xs.take (k+1)))=(if xs.take k = [] then [] else jh (xs.take k))++[47]++x:=by
 have hk:k<xs.length:=(List.getElem?_eq_some_iff.1 h).1
 have h1:xs.take (k+1)≠[]:=fun e=>by have:=congrArg List.length e;rw[List.length_take]at this;simp only[List.length_nil]at this;omega
 rw[if_neg h1]
 unfold jh
 rw[if_neg h1,xj xs k x h]
 by_cases hk0:k=0
 ·subst hk0;simp
 ·have h2:xs.take k≠[]:=fun e=>by have:=congrArg List.length e;rw[List.length_take]at this;simp only[List.length_nil]at this;omega
  simp[h2,hk0]
def jst (xs:List (List UInt8)) (k:Nat):List UInt8:=if xs.take k = [] then [] else jh (xs.take k)
theorem zfj (xs:List (List UInt8)) (k:Nat):(jst xs k).length<=(Lib.join xs [47]).length+1:=by
 unfold jst
 split
 ·simp
 ·rename_i h
  have:=zkI xs k
  unfold jh
  rw[if_neg h]
  simp;omega
theorem xV (xs:List (List UInt8)) (hx:xs.length<=1000001) (hl:(Lib.join xs [47]).length<=100000000):Fun Tryz.prog G0 162 [.sl 1 (jq xs)] (.str (jh xs)) 0:=by
 by_cases h0:xs = []
 ·subst h0
  refine fon Tryz.func162 ?_;dsimp only[Tryz.f162]
  push_cast -dsimp
  exact ⟨[],rfl,rfl,by push_cast -dsimp [ze,zd,CLe,zg]<;>simp[jh]⟩
 ·have h0':¬((xs.length:Int)=0):=by have:=List.length_pos_iff.2 h0;omega
  refine fon Tryz.func162 ?_;dsimp only[Tryz.f162]
  push_cast -dsimp [h0']
  refine loop (fun k:Nat=>⟨[(0,.sl 1 (jq xs)),(3,.str (jst xs k)),(4,.sc (.int .i64 k))],[],0,0⟩) (fun k=>k<=xs.length) (fun k=>xs.length-k) 0 (Nat.zero_le _) ?_ ?_
  ·exact JP.mk [] rfl rfl (Nat.zero_le _) rfl (by push_cast -dsimp [ze,zd,CLe,zg]<;>simp[jst]) (by push_cast -dsimp [ze,zd,CLe,zg])
  ·intro k hk
   by_cases h:k<xs.length
   ·have hg:=H3 xs k h
    have hst:jst xs (k+1)=jst xs k++[47]++xs[k]'h:=zbK xs k (xs[k]'h) (List.getElem?_eq_getElem h)
    have hjk:=zfj xs k
    have hjl:=zfj xs (k+1)
    rw[hst]at hjl
    simp only[List.length_append,List.length_cons,List.length_nil]at hjl
    push_cast -dsimp [h,hg]
    repeat refine an ?_
    refine ⟨k+1,by omega,by omega,JP.mk [] rfl rfl (Nat.zero_le _) rfl ?_ (by push_cast -dsimp [ze,zd,CLe,zg])⟩
    push_cast -dsimp [ze,zd,CLe,zg]
    simp[hst]
   ·have hkl:k=xs.length:=by omega
    push_cast -dsimp [h]
    exact ⟨[],rfl,rfl,by push_cast -dsimp [ze,zd,CLe,zg]<;>simp[jst,hkl,h0]⟩
theorem Z1 (l:List UInt8) (hl:l.length<=1000000):Fun Tryz.prog G0 16 [.str l] (qO (may l)) 0:=by
 refine fon Tryz.func16 ?_;dsimp only[Tryz.f16]
 push_cast -dsimp
 refine loop (fun k:Nat=>⟨[(0,.str l),(3,.sc (.int .i64 k))],[],0,0⟩) (fun k=>k<=l.length/\∀ j (hj:j<l.length),j<k->bad (l[j]'hj)=false) (fun k=>l.length-k) 0 ⟨Nat.zero_le _,fun j _ hj=>by omega⟩ ?_ ?_
 ·exact wk
 ·intro k hk
  have hk1:=hk.1
  have hk2:=hk.2
  by_cases h:k<l.length
  ·have hb:l[k]?=some (l[k]'h):=List.getElem?_eq_getElem h
   have hbad:bad (l[k]'h)=true->may l=false:=fun hb=>by
    have:l.any bad=true:=List.any_eq_true.2 ⟨l[k]'h,List.getElem_mem h,hb⟩
    simp[may,this]
   by_cases h47:l[k]'h=47
   ·have h1:(((l[k]'h).toNat:Int)=47):=by rw[h47];rfl
    push_cast -dsimp [h,hb,h1]
    refine ⟨by omega,[],rfl,rfl,?_⟩
    push_cast -dsimp [ze,zd,CLe,zg]
    rw[hbad (by simp[bad,h47])]
   ·have h1:¬(((l[k]'h).toNat:Int)=47):=zjf h47
    by_cases h00:l[k]'h=0
    ·have h2:(((l[k]'h).toNat:Int)=0):=by rw[h00];rfl
     push_cast -dsimp [h,hb,h1,h2]
     refine ⟨by omega,by omega,[],rfl,rfl,?_⟩
     push_cast -dsimp [ze,zd,CLe,zg]
     rw[hbad (by simp[bad,h00])]
    ·have h2:¬(((l[k]'h).toNat:Int)=0):=zjf h00
     push_cast -dsimp [h,hb,h1,h2]
     repeat refine an ?_
     refine ⟨k+1,⟨by omega,fun j hj hjk=>?_⟩,by omega,wk⟩
     rcases Nat.lt_or_ge j k with g | g
     ·exact hk2 j hj g
     ·have:j=k:=by omega
      subst this
      simp[bad,h47,h00]
  ·have hany:l.any bad=false:=List.any_eq_false.2 fun x hx=>by
    obtain ⟨j,hj,rfl⟩:=List.getElem_of_mem hx
    simp[hk2 j hj (by omega)]
   obtain rfl:k=l.length:=by omega
   by_cases h0:l = []
   ·subst h0
    push_cast -dsimp
    exact ⟨[],rfl,rfl,by push_cast -dsimp [ze,zd,CLe,zg]<;>simp[may]⟩
   ·have h1:(1:Int)<=(l.length:Int):=by have:=List.length_pos_iff.2 h0;omega
    by_cases h2:(l.length:Int)<=255
    ·have h2':l.length<=255:=by omega
     by_cases h4:l = [46]
     ·subst h4
      push_cast -dsimp
      exact ⟨[],rfl,rfl,by push_cast -dsimp [ze,zd,CLe,zg]<;>simp[may]⟩
     ·by_cases h5:l = [46,46]
      ·subst h5
       push_cast -dsimp [h4]
       exact ⟨[],rfl,rfl,by push_cast -dsimp [ze,zd,CLe,zg]<;>simp[may]⟩
      ·push_cast -dsimp [h,h1,h2,h4,h5]
       exact ⟨[],rfl,rfl,by push_cast -dsimp [ze,zd,CLe,zg]<;>simp[may,h0,h2',hany,h4,h5]⟩
    ·have h2':¬l.length<=255:=by omega
     push_cast -dsimp [h,h1,h2]
     exact ⟨[],rfl,rfl,by push_cast -dsimp [ze,zd,CLe,zg]<;>simp[may,h2']⟩
def YC (p q:List UInt8):Bool:=decide ((zI p).take (zI q).length=zI q)
theorem Vv (p q:List UInt8) (hp:p.length<=100000) (hq:q.length<=100000):Fun Tryz.prog G0 85 [.str p,.str q] (qO (YC p q)) 0:=by
 have hn:=ky p hp
 have hm:=ky q hq
 have hs:=Jc p
 have ht:=Jc q
 by_cases h:(zI p).length<(zI q).length
 ·refine fon Tryz.func85 ?_;dsimp only[Tryz.f85]
  push_cast -dsimp
  refine call hn ?_
  push_cast -dsimp
  refine call hm ?_
  push_cast -dsimp [h]
  refine ⟨[],rfl,rfl,?_⟩
  push_cast -dsimp [ze,zd,CLe,zg]
  have:¬(zI p).take (zI q).length=zI q:=fun e=>by have:=congrArg List.length e;rw[List.length_take]at this;omega
  simp[YC,this]
 ·refine fon Tryz.func85 ?_;dsimp only[Tryz.f85]
  push_cast -dsimp
  refine call hn ?_
  push_cast -dsimp
  refine call hm ?_
  push_cast -dsimp [h]
  refine loop (fun k:Nat=>⟨[(5,.own 0 9 1 (jq (zI p))),(6,.own 1 9 1 (jq (zI q))),(7,.sc (.int .i64 k))],[],2,0⟩) (fun k=>k<=(zI q).length/\(zI p).take k=(zI q).take k) (fun k=>(zI q).length-k) 0 ⟨Nat.zero_le _,rfl⟩ ?_ ?_
  ·exact wks [.inl 0,.inl 1]
  ·intro k hk
   have hk1:=hk.1
   have hk2:=hk.2
   by_cases h3:k<(zI q).length
   ·have hg1:=H3 (zI p) k (by omega)
    have hg2:=H3 (zI q) k h3
    by_cases he:(zI p)[k]'(by omega)=(zI q)[k]'h3
    ·push_cast -dsimp [h3,hg1,hg2,he]
     repeat refine an ?_
     refine ⟨k+1,⟨by omega,?_⟩,by omega,wks [.inl 0,.inl 1]⟩
     rw[List.take_add_one,List.take_add_one,hk2,List.getElem?_eq_getElem h3,List.getElem?_eq_getElem (by omega:k<(zI p).length),he]
    ·push_cast -dsimp [h3,hg1,hg2,he]
     repeat refine an ?_
     refine ⟨[],rfl,rfl,?_⟩
     push_cast -dsimp [ze,zd,CLe,zg]
     have:¬(zI p).take (zI q).length=zI q:=fun e=>he (by
      have:=congrArg (·[k]?) e
      simp only[List.getElem?_take,if_pos h3]at this
      rw[List.getElem?_eq_getElem (by omega),List.getElem?_eq_getElem h3]at this
      exact Option.some.inj this)
     simp[YC,this]
   ·have hkl:k=(zI q).length:=by omega
    push_cast -dsimp [h3]
    refine ⟨[],rfl,rfl,?_⟩
    push_cast -dsimp [ze,zd,CLe,zg]
    rw[hkl,List.take_length]at hk2
    simp[YC,hk2]
theorem VK (p:List UInt8) (hp:p.length<=100000):Fun Tryz.prog G0 124 [.str p] (YB p) 1:=by
 have hn:=ky p hp
 have hs:=Jc p
 have hj:=My p
 refine fon Tryz.func124 ?_;dsimp only[Tryz.f124]
 push_cast -dsimp
 refine call hn ?_
 push_cast -dsimp
 refine loop (fun k:Nat=>⟨[(0,.str p),(4,.own 0 9 1 (jq (zI p))),(5,.sc (.int .i64 k))],[],1,0⟩) (fun k=>k<=(zI p).length/\∀ j (hj:j<(zI p).length),j<k->may ((zI p)[j]'hj)=true) (fun k=>(zI p).length-k) 0 ⟨Nat.zero_le _,fun j _ hj=>by omega⟩ ?_ ?_
 ·exact wks [.inl 0]
 ·intro k hk
  have hk1:=hk.1
  have hk2:=hk.2
  by_cases h:k<(zI p).length
  ·have hg:=H3 (zI p) k h
   have hlen:=hj.2 ((zI p)[k]'h) (List.getElem_mem h)
   push_cast -dsimp [h,hg]
   refine ⟨by omega,?_⟩
   refine call (Z1 ((zI p)[k]'h) (by omega)) ?_
   push_cast -dsimp
   cases hm:may ((zI p)[k]'h) with
   | true =>
    push_cast -dsimp
    repeat refine an ?_
    refine ⟨k+1,⟨by omega,fun j hj hjk=>?_⟩,by omega,wks [.inl 0]⟩
    rcases Nat.lt_or_ge j k with g | g
    ·exact hk2 j hj g
    ·have:j=k:=by omega
     subst this;exact hm
   | false =>
    have hall:(zI p).all may=false:=List.all_eq_false.2 ⟨(zI p)[k]'h,List.getElem_mem h,by simp[hm]⟩
    push_cast -dsimp
    exact ⟨[.inr (9,1)],rfl,rfl,by simp only[YB,Yk,hall];push_cast -dsimp [ze,zd,CLe,zg]<;>simp⟩
  ·have hall:(zI p).all may=true:=List.all_eq_true.2 fun x hx=>by
    obtain ⟨j,hj,rfl⟩:=List.getElem_of_mem hx
    exact hk2 j hj (by omega)
   push_cast -dsimp [h]
   refine call (xV (zI p) (by omega) (by omega)) ?_
   push_cast -dsimp
   by_cases h1:jh (zI p)=p
   ·push_cast -dsimp [h1]
    exact ⟨[.inl 0],rfl,rfl,by simp only[YB,Yk,h1,hall];push_cast -dsimp [ze,zd,CLe,zg]<;>simp⟩
   ·push_cast -dsimp [h1]
    exact ⟨[.inr (9,1)],rfl,rfl,by simp only[YB,Yk,h1];push_cast -dsimp [ze,zd,CLe,zg]<;>simp⟩
end
section
open Go.RowKit
def UX (x:List UInt8):Prop:=x≠[]/\(47:UInt8)∉x
theorem zd9:∀ a t:List UInt8,Jj (a++47 :: t)=Jj a++Jj t
 | [],t=>by
  have:Jj (47 :: t) = [] :: Jj t:=rfl
  exact this
 | b :: a,t=>by
  have ih:=zd9 a t
  have e1:Jj (b :: (a++47 :: t))=if b=47 then [] :: Jj (a++47 :: t) else match Jj (a++47 :: t) with
   | []=>[[b]]
   | x :: r=>(b :: x) :: r:=rfl
  have e2:Jj (b :: a)=if b=47 then [] :: Jj a else match Jj a with
   | []=>[[b]]
   | x :: r=>(b :: x) :: r:=rfl
  rw[List.cons_append,e1,e2,ih]
  by_cases hb:b=47
  ·simp[hb]
  ·rw[if_neg hb,if_neg hb]
   have hne:=MQ a
   cases hs:Jj a with
   | nil=>exact absurd hs hne
   | cons x r=>simp
theorem ze3:∀ x:List UInt8,(47:UInt8)∉x->Jj x = [x]
 | [],_=>rfl
 | b :: x,h=>by
  have hb:¬(b=47):=fun e=>h (by rw[e];exact List.mem_cons_self)
  have ih:=ze3 x (fun hx=>h (List.mem_cons_of_mem _ hx))
  unfold Jj
  rw[if_neg hb,ih]
theorem zgg:∀ (l x:List UInt8),x∈Jj l->(47:UInt8)∉x
 | [],x,h=>by simp[Jj]at h;subst h;simp
 | b :: l,x,h=>by
  have ih:=zgg l
  unfold Jj at h
  by_cases hb:b=47
  ·rw[if_pos hb]at h
   rcases List.mem_cons.1 h with rfl | h
   ·simp
   ·exact ih x h
  ·rw[if_neg hb]at h
   have hne:=MQ l
   cases hs:Jj l with
   | nil=>exact absurd hs hne
   | cons y r =>
    rw[hs]at h ih
    simp only at h
    rcases List.mem_cons.1 h with rfl | h
    ·intro hm
     rcases List.mem_cons.1 hm with e | hm
     ·exact hb e.symm
     ·exact ih y List.mem_cons_self hm
    ·exact ih x (List.mem_cons_of_mem _ h)
theorem Q7 {l x:List UInt8} (h:x∈zI l):UX x:=by
 rw[Yh,List.mem_filter]at h
 exact ⟨by simpa using h.2,zgg l x h.1⟩
theorem kr (a t:List UInt8):zI (a++47 :: t)=zI a++zI t:=by
 rw[Yh,Yh,Yh,zd9,List.filter_append]
theorem Mu {x:List UInt8} (h:UX x):zI x = [x]:=by
 rw[Yh,ze3 x h.2]
 simp[h.1]
theorem x0 (l:List UInt8):zI (47 :: l)=zI l:=kr [] l
theorem HG:∀ xs:List (List UInt8),(∀ x∈xs,UX x)->zI (Lib.join xs [47])=xs
 | [],_=>rfl
 | [x],h=>by rw[Lib.join_one];exact Mu (h x List.mem_cons_self)
 | x :: y :: r,h=>by
  have ih:=HG (y :: r) fun z hz=>h z (List.mem_cons_of_mem _ hz)
  rw[Jd,List.append_assoc]
  show zI (x++47 :: Lib.join (y :: r) [47])=_
  rw[kr,ih,Mu (h x List.mem_cons_self)]
  rfl
theorem QO (xs:List (List UInt8)) (h:∀ x∈xs,UX x):zI (jh xs)=xs:=by
 unfold jh
 by_cases hx:xs = []
 ·rw[if_pos hx,hx];rfl
 ·rw[if_neg hx,x0,HG xs h]
theorem vT {x:List UInt8} (h:may x=true):UX x:=by
 simp only[may,Bool.and_eq_true,Bool.not_eq_true',decide_eq_false_iff_not]at h
 refine ⟨h.1.1.1.1,fun hm=>?_⟩
 have:=List.any_eq_false.1 h.1.1.2 47 hm
 exact this (by decide)
theorem zcN (xs zs:List (List UInt8)) (hx:xs≠[]) (hz:zs≠[]):jh (xs++zs)=jh xs++47 :: Lib.join zs [47]:=by
 unfold jh
 rw[if_neg hx,if_neg (by simp[hx])]
 simp only[List.cons_append,List.cons.injEq,true_and]
 induction xs with
 | nil=>exact absurd rfl hx
 | cons x r ih =>
  cases r with
  | nil =>
   cases zs with
   | nil=>exact absurd rfl hz
   | cons z zs=>simp only[List.cons_append,List.nil_append];rw[Jd,Lib.join_one];simp
  | cons y r =>
   have:=ih (by simp)
   simp only[List.cons_append]at this ⊢
   rw[Jd,Jd,this]
   simp
theorem U1 (xs ys:List (List UInt8)) (hx:∀ x∈xs,UX x) (hy:∀ y∈ys,UX y):Yy (jh xs) (jh ys)=decide (xs.take ys.length=ys):=by
 have nx:=QO xs hx
 have ny:=QO ys hy
 rw[Bool.eq_iff_iff]
 simp only[decide_eq_true_eq,Yy,Bool.or_eq_true]
 constructor
 ·rintro ((h | h) | h)
  ·have:xs=ys:=by rw[←nx,←ny,h]
   rw[this,List.take_length]
  ·have:ys = []:=by rw[←ny,h];rfl
   rw[this];rfl
  ·unfold Lib.hasPrefix at h
   obtain ⟨t,ht⟩:=List.isPrefixOf_iff_prefix.1 h
   have:xs=ys++zI t:=by
    rw[←nx,←ht,List.append_assoc]
    show zI (jh ys++47 :: t)=_
    rw[kr,ny]
   rw[this,List.take_left]
 ·intro h
  have e:xs=ys++xs.drop ys.length:=by
   conv=>lhs;rw[←List.take_append_drop ys.length xs,h]
  by_cases hys:ys = []
  ·exact .inl (.inr (by rw[hys];rfl))
  ·by_cases hd:xs.drop ys.length = []
   ·refine .inl (.inl ?_)
    rw[hd,List.append_nil]at e
    rw[e]
   ·refine .inr ?_
    rw[e,zcN _ _ hys hd]
    unfold Lib.hasPrefix
    refine List.isPrefixOf_iff_prefix.2 ⟨Lib.join (xs.drop ys.length) [47],?_⟩
    simp
theorem Xu {p:List UInt8} (h:Yk p=true):jh (zI p)=p:=by
 unfold Yk at h
 simp only[Bool.and_eq_true,decide_eq_true_eq]at h
 exact h.1
theorem yw (p q:List UInt8) (hp:Yk p=true) (hq:Yk q=true):Yy p q=YC p q:=by
 have h:=U1 (zI p) (zI q) (fun x hx=>Q7 hx) (fun x hx=>Q7 hx)
 rw[Xu hp,Xu hq]at h
 exact h
end
section
open Go.RowKit Go.ChangeMaps Go.ChangeShapes Go.WideShapes Go.Deep Go.Joins
theorem yY (R:Env):Xz G0 R:=fun g cs h=>by cases h
section
variable {H:Type} {enc:TypeId×Value->H} {W:World}
end
end
section
open Go.RowKit
mutual
/-- the cells that read as a datum of Yk data -/
def ZW:DataW Unit->Option (List Value)
 | .lit (.int k n)=>some [.int k n]
 | .lit (.bool b)=>some [.bool b]
 | .lit (.string l)=>some [.string ⟨l.toArray⟩]
 | .agg ds=>Uu ds
 | _=>none
def Uu:List (DataW Unit)->Option (List Value)
 | []=>some []
 | d :: ds=>match ZW d,Uu ds with
  | some a,some b=>some (a++b)
  | _,_=>none
end
def MI (P:Program):Nat->List Field->Nat->Bool
 | j,[],n=>j==n
 | j,f :: fs,n=>f.offset==j&&MI P (j+P.cellsOf f.type) fs n
def kp (P:Program):Nat->TypeId->Bool
 | 0,_=>false
 | m+1,t=>match P.underlying t with
  | some .bool=>true
  | some (.int _)=>true
  | some .string=>true
  | some (.struct fs)=>MI P 0 fs.toList (P.cellsOf t)&&fs.toList.all fun f=>kp P m f.type
  | some (.array n e)=>kp P m e&&P.cellsOf t==n*P.cellsOf e
  | _=>false
section
variable {enc:TypeId×Value->Unit} {P:Program} {w:World} {base:Nat} {spare:Nat->Bool} {held:Bool}
theorem U6 {d:DataW Unit} {ds:List (DataW Unit)} {a b:List Value} (h1:ZW d=some a) (h2:Uu ds=some b):Uu (d :: ds)=some (a++b):=by
 rw[Uu,h1,h2]
theorem Q8 {n:Nat} {cs:List Value} (ih:∀ t cs d p,kp P n t=true->DataW.trod enc P w base spare held n t cs=some (d,p)->ZW d=some cs) {m:Nat} (hm:∀ t cs d p,kp P m t=true->DataW.trod enc P w base spare held n t cs=some (d,p)->ZW d=some cs) :
  ∀ (fs:List Field) (j N:Nat) (xs:List (DataW Unit×List MemPlace)),MI P j fs N=true->(fs.all fun f=>kp P m f.type)=true->cs.length=N->xs.length=fs.length ->
   (∀ (i:Nat) (f:Field),fs[i]?=some f->DataW.trod enc P w base spare held n f.type ((cs.drop f.offset).take (P.cellsOf f.type))=xs[i]?)->Uu (xs.map (·.1))=some (cs.drop j)
 | [],j,N,xs,hc,_,hl,hx,_=>by
  simp only[MI,beq_iff_eq]at hc
  match xs,hx with
  | [],_=>rw[List.drop_of_length_le (by omega)];rfl
 | f :: fs,j,N,xs,hc,ha,hl,hx,hf=>by
  simp only[MI,Bool.and_eq_true,beq_iff_eq]at hc
  simp only[List.all_cons,Bool.and_eq_true]at ha
  match xs,hx with
  | x :: xs,hx =>
   have h0:=hf 0 f rfl
   have e0:ZW x.1=some ((cs.drop f.offset).take (P.cellsOf f.type)):=hm _ _ _ x.2 ha.1 h0
   have e1:=Q8 ih hm fs _ N xs hc.2 ha.2 hl (by simpa using hx) fun i g hg=>hf (i+1) g hg
   rw[List.map_cons,U6 e0 e1,hc.1,←List.drop_drop,List.take_append_drop]
theorem VG {n:Nat} {e:TypeId} {cs:List Value}:∀ (N j:Nat) (xs:List (DataW Unit×List MemPlace)),(∀ cs d p,DataW.trod enc P w base spare held n e cs=some (d,p)->ZW d=some cs)->cs.length=(j+N)*P.cellsOf e->xs.length=N ->
   (∀ (i:Nat),i<N->DataW.trod enc P w base spare held n e ((cs.drop ((j+i)*P.cellsOf e)).take (P.cellsOf e))=xs[i]?)->Uu (xs.map (·.1))=some (cs.drop (j*P.cellsOf e))
 | 0,j,xs,_,hl,hx,_=>by
  match xs,hx with
  | [],_=>rw[List.drop_of_length_le (by simp at hl;omega)];rfl
 | N+1,j,xs,hm,hl,hx,hf=>by
  match xs,hx with
  | x :: xs,hx =>
   have e0:=hm _ _ x.2 (hf 0 (Nat.zero_lt_succ _))
   have e1:=VG N (j+1) xs hm (by rw[hl];congr 1;omega) (by simpa using hx) fun i hi=>by
    have:=hf (i+1) (by omega)
    rw[show j+(i+1)=j+1+i by omega]at this
    exact this
   rw[List.map_cons,U6 e0 e1,Nat.add_zero,show (j+1)*P.cellsOf e=j*P.cellsOf e+P.cellsOf e by rw[Nat.add_mul];omega,←List.drop_drop,List.take_append_drop]
theorem X5:∀ (n m:Nat) (t:TypeId) (cs:List Value) (d:DataW Unit) (p:List MemPlace),kp P m t=true->DataW.trod enc P w base spare held n t cs=some (d,p)->ZW d=some cs
 | 0,m,t,cs,d,p,_,h=>by simp[DataW.trod]at h
 | n+1,0,t,cs,d,p,hf,h=>by simp[kp]at hf
 | n+1,m+1,t,cs,d,p,hf,h=>by
  unfold kp at hf
  split at hf
  ·rename_i hu
   obtain ⟨b,rfl,e⟩:=DataW.trod_bool hu h
   cases e;rfl
  ·rename_i k hu
   obtain ⟨b,rfl,e,_⟩:=DataW.trod_int hu h
   cases e;rfl
  ·rename_i hu
   obtain ⟨s,rfl,e,_⟩:=DataW.trod_string hu h
   cases e
   rw[ZW]
  ·rename_i fs hu
   simp only[Bool.and_eq_true]at hf
   obtain ⟨xs,n',hn,e,hl,hx,hg⟩:=DataW.trod_struct hu h
   cases hn;cases e
   have hrec:∀ t cs d p,kp P m t=true->DataW.trod enc P w base spare held n t cs=some (d,p)->ZW d=some cs:=fun t cs d p=>X5 n m t cs d p
   have:=Q8 (n:=n) (fun t cs d p=>X5 n n t cs d p) hrec fs.toList 0 _ xs hf.1 hf.2 hl (by rw[hx];rfl) fun i f hif=>hg i f (by simpa using hif)
   rw[List.drop_zero]at this
   rw[ZW,this]
  ·rename_i N e hu
   simp only[Bool.and_eq_true,beq_iff_eq]at hf
   obtain ⟨xs,n',hn,e',hl,hx,hg⟩:=DataW.trod_array hu h
   cases hn;cases e'
   have:=VG (n:=n) (e:=e) (cs:=cs) N 0 xs (fun cs d p=>X5 n m e cs d p hf.1) (by rw[hl,hf.2,Nat.zero_add]) hx fun i hi=>by rw[Nat.zero_add];exact hg i hi
   rw[Nat.zero_mul,List.drop_zero]at this
   rw[ZW,this]
  ·cases hf
end
theorem H4 {W:World} {g:Nat}:∀ (vs:List Value) (o:Nat),(∀ (i:Nat) v,vs[i]?=some v->W.cell? ⟨g,o+i,none⟩=some v)->(vs.all fun v=>v.oneCell')=true->zQ (MN W) (vs.map zE) g o:=fun vs o h ho=>by
 refine qh fun i c hc=>?_
 rw[List.getElem?_map,Option.map_eq_some_iff]at hc
 obtain ⟨v,hv,rfl⟩:=hc
 exact ⟨v,h i v hv,fun hf=>hf,jO _ _ v,List.all_eq_true.1 ho v (List.mem_of_getElem? hv)⟩
theorem Gn {P:Program} {W:World} {l:List (String×DataW Unit)} (h:laidMetH P l W) (hp:(l.filter fun x=>x.2.handleName?.isSome) = []) {n:String} {d:DataW Unit} (hm:(n,d)∈l) {g:Nat} {t:TypeId} {m:Nat} {vs:List Value}
  (hg:P.globalNamed n=some g) (ht:(P.globals[g]?).map (·.type)=some t) (hf:kp P m t=true) (hd:ZW d=some vs) (ho:(vs.all fun v=>v.oneCell')=true):zQ (MN W) (vs.map zE) g 0:=by
 unfold laidMetH at h
 rw[hp]at h
 obtain ⟨g',t',cs,fuel,p,hg',ht',hvar,htr⟩:=Lib.laidMet.reads h hm
 rw[hg]at hg';cases hg'
 rw[ht]at ht';cases ht'
 have e:=X5 _ _ _ _ _ _ hf htr
 have e':vs=cs.toList:=Option.some.inj (hd.symm.trans e)
 subst e'
 refine H4 _ 0 (fun i v hv=>?_) ho
 rw[World.var?_cell hg hvar,Nat.zero_add]
 simpa using hv
theorem JF {P:Program} {W:World} {l:List (String×DataW Unit)} (h:laidMetH P l W) (hp:(l.filter fun x=>x.2.handleName?.isSome) = []) {n:String} {d:DataW Unit} (hm:(n,d)∈l) {g:Nat} {t:TypeId} {m:Nat} {vs:List Value}
  (hg:P.globalNamed n=some g) (ht:(P.globals[g]?).map (·.type)=some t) (hf:kp P m t=true) (hd:ZW d=some vs) (ho:(vs.all fun v=>v.oneCell')=true) :
  zQ (MN W) (vs.map zE) g 0/\(∃ us ty fl,(MN W).w.heap[g]?=some (.cells us ty fl)/\us.size=(vs.map zE).length)/\∀ o,¬(MN W).M g o:=by
 refine ⟨Gn h hp hm hg ht hf hd ho,?_,fun o h=>h⟩
 unfold laidMetH at h
 rw[hp]at h
 obtain ⟨g',t',cs,fuel,p,hg',ht',hvar,htr⟩:=Lib.laidMet.reads h hm
 rw[hg]at hg';cases hg'
 rw[ht]at ht';cases ht'
 have e:=X5 _ _ _ _ _ _ hf htr
 have e':vs=cs.toList:=Option.some.inj (hd.symm.trans e)
 subst e'
 unfold World.var? at hvar
 rw[hg]at hvar
 simp only[Option.bind_some]at hvar
 split at hvar
 ·rename_i cs' ty fl hh
  cases hvar
  exact ⟨_,_,_,hh,by simp⟩
 ·cases hvar
theorem Fun.glob {P:Program} {G G':zr} {f:FuncId} {args:List C} {r:C} {n:Nat} (h:Fun P G f args r n) (hG:∀ g cs,G g=some cs->G' g=some cs):Fun P G' f args r n:=
 ⟨h.1,fun R vs hg ha=>h.2 R vs (fun g cs e=>hg g cs (hG g cs e)) ha⟩
theorem Fun.glob0 {P:Program} {G':zr} {f:FuncId} {args:List C} {r:C} {n:Nat} (h:Fun P G0 f args r n):Fun P G' f args r n:=h.glob fun g cs e=>by cases e
end
section
open CA CB
open Go.RowKit
def znk:List Value:=[.bool false,.bool false,.bool false,.bool false,.bool false,.bool false,.bool false,.bool true,.bool false,.bool true,.bool true,.bool false,.bool false,.bool false,.bool true,.bool false,.bool true,.bool false,.bool false,.bool true,.bool false,.bool true,.bool false,.bool false,.bool false,.bool false,.bool false,.bool true,.bool false,.bool false,.bool true,.bool false,.bool false]
def G1:zr:=fun g=>if g=0 then some (znk.map zE) else none
theorem znq:G1 0=some [.sc (.bool false),.sc (.bool false),.sc (.bool false),.sc (.bool false),.sc (.bool false),.sc (.bool false),.sc (.bool false),.sc (.bool true),.sc (.bool false),.sc (.bool true),.sc (.bool true),.sc (.bool false),.sc (.bool false),.sc (.bool false),.sc (.bool true),.sc (.bool false),.sc (.bool true),.sc (.bool false),.sc (.bool false),.sc (.bool true),.sc (.bool false),.sc (.bool true),.sc (.bool false),.sc (.bool false),.sc (.bool false),.sc (.bool false),.sc (.bool false),.sc (.bool true),.sc (.bool false),.sc (.bool false),.sc (.bool true),.sc (.bool false),.sc (.bool false)]:=rfl
attribute [push_cast] znq
def zM (p:List UInt8):Bool:=Yk p&&!decide (zI p = [])
theorem Mz (p:List UInt8) (hp:p.length<=1000000):Fun Tryz.prog G0 133 [.str p] (qO (zM p)) 0:=by
 have h:=NE p hp
 unfold YB at h
 cases hb:Yk p with
 | false =>
  rw[hb]at h
  refine fon Tryz.func133 ?_;dsimp only[Tryz.f133]
  push_cast -dsimp
  refine cl (h) ?_;push_cast -dsimp
  exact ⟨[],rfl,rfl,by push_cast -dsimp [ze,zd,CLe,zg];simp[zM,hb]⟩
 | true =>
  rw[hb,if_pos rfl]at h
  refine fon Tryz.func133 ?_;dsimp only[Tryz.f133]
  push_cast -dsimp
  refine cl (h) ?_;push_cast -dsimp
  refine ⟨[],rfl,rfl,?_⟩
  push_cast -dsimp [ze,zd,CLe,zg]
  by_cases hn:zI p = []
  ·simp[zM,hb,hn]
  ·have:=List.length_pos_iff.2 hn
   simp[zM,hb,hn,this]
theorem zbn (l:List UInt8):Fun Tryz.prog G0 186 [.str l,.str [0]] (.sc (.int .i64 (Lib.indexByte l 0))) 0:=by
 refine Fun.wrap (by kernel_rfl) fun R vs h=>?_
 obtain ⟨v1,us1,rfl,h1,h⟩:=zf.1 h
 obtain ⟨v2,us2,rfl,h2,h⟩:=zf.1 h
 rw[zl]at h
 subst h
 rw[z8]at h1 h2
 subst h1 h2
 refine (Tryz.strings_Index_one ⟨l.toArray⟩ 0 R.w).mono ?_
 rintro e w' ⟨rfl,rfl⟩
 exact ⟨_,rfl,Below.refl _ _,fun R' _=>zq.2 (by simp)⟩
theorem HV:∀ l:List UInt8,decide (0<=Lib.indexByte l 0)=l.any (fun b=>decide (b=0))/\-1<=Lib.indexByte l 0
 | []=>⟨rfl,by decide⟩
 | b :: l=>by
  obtain ⟨h1,h2⟩:=HV l
  unfold Lib.indexByte
  by_cases hb:b=0
  ·subst hb;simp
  ·have hb':(b==0)=false:=by simpa using hb
   rw[hb']
   simp only[Bool.false_eq_true,if_false,List.any_cons,hb,decide_false,Bool.false_or,←h1]
   split
   ·rename_i hm
    have:=beq_iff_eq.1 hm
    rw[this];simp
   ·rename_i hm
    have:¬Lib.indexByte l 0 = -1:=fun e=>hm (by rw[e];rfl)
    constructor
    ·rw[decide_eq_decide];omega
    ·omega
theorem GE (l:List UInt8) (hl:l.length<=1000000):Fun Tryz.prog G0 164 [.str l,.str [0]] (qO (l.any fun b=>decide (b=0))) 0:=by
 have h:=(HV l).1
 refine fon Tryz.func164 ?_;dsimp only[Tryz.f164]
 push_cast -dsimp
 refine cl (zbn l) ?_;push_cast -dsimp
 exact dn (by push_cast -dsimp [ze,zd,CLe,zg,h])
def JR (s:List UInt8):Bool:=!decide (s = [])&&decide (s.length<=4095)&&!(s.any fun b=>decide (b=0))
theorem zaI (s:List UInt8) (hs:s.length<=1000000):Fun Tryz.prog G0 134 [.str s] (qO (JR s)) 0:=by
 have h:=GE s hs
 by_cases h1:s = []
 ·refine fon Tryz.func134 ?_;dsimp only[Tryz.f134]
  push_cast -dsimp [h1]
  exact ⟨[],rfl,rfl,by push_cast -dsimp [ze,zd,CLe,zg];simp[JR,h1]⟩
 ·by_cases h2:s.length<=4095
  ·have h2':(s.length:Int)<=4095:=by omega
   refine fon Tryz.func134 ?_;dsimp only[Tryz.f134]
   push_cast -dsimp [h1,h2']
   refine cl (h) ?_;push_cast -dsimp
   exact ⟨[],rfl,rfl,by push_cast -dsimp [ze,zd,CLe,zg];simp[JR,h1,h2]⟩
  ·have h2':¬(s.length:Int)<=4095:=by omega
   refine fon Tryz.func134 ?_;dsimp only[Tryz.f134]
   push_cast -dsimp [h1,h2']
   exact ⟨[],rfl,rfl,by push_cast -dsimp [ze,zd,CLe,zg];simp[JR,h1,h2]⟩
end
end Go.Proofs.YtiblepfehggicaaGreatDoor.Vcg
section
namespace Go.Proofs.YtiblepfehggicaaGreatDoor.QuotePlain
abbrev Bs:=List UInt8
def good (c:UInt8):Bool:=decide (32<=c.toNat/\c.toNat<=126/\c.toNat≠34/\c.toNat≠92)
def zke:Bs:=[48,49,50,51,52,53,54,55,56,57,97,98,99,100,101,102]
def Nh (n:Nat):UInt8:=zke.getD n 0
def qb (c:UInt8):Bs:=if good c then [c] else [92,120,Nh (c.toNat / 16),Nh (c.toNat % 16)]
def mid (l:Bs):Bs:=l.flatMap qb
def qF (l:Bs):Bs:=34 :: (mid l++[34])
def zon (l:Bs):Bool:=decide (l≠[])&&l.all fun c=>decide (33<=c.toNat/\c.toNat<=126/\c.toNat≠34)
def znb (c:UInt8):Nat:=(zke.findIdx? (·==c)).getD 16
def zgN:Bs->UInt8×Nat
 | []=>(0,0)
 | c :: r =>
  if c≠92 then (if good c then (c,1) else (0,0))
  else match r with
   | x :: a :: b :: _=>if x=120/\znb a<16/\znb b<16/\good (UInt8.ofNat (znb a*16+znb b))=false then (UInt8.ofNat (znb a*16+znb b),4) else (0,0)
   | _=>(0,0)
theorem zcZ {p:UInt8->Bool} (h:(List.range 256).all (fun n=>p (UInt8.ofNat n))=true) (c:UInt8):p c=true:=by
 have h1:=List.all_eq_true.1 h c.toNat (List.mem_range.2 c.toNat_lt)
 simpa using h1
def zpN:Nat->Bs->Option (Bs×Nat)
 | 0,_=>none
 | _+1,[]=>none
 | f+1,c :: r=>if c=34 then some ([],1) else if (zgN (c :: r)).2=0 then none else (zpN f ((c :: r).drop (zgN (c :: r)).2)).map fun x=>((zgN (c :: r)).1 :: x.1,(zgN (c :: r)).2+x.2)
def body (l:Bs):Option (Bs×Nat):=zpN (l.length+1) l
def qtd:Bs->Option (Bs×Nat)
 | []=>none
 | c :: r=>if c=34 then (body r).map fun x=>(x.1,x.2+1) else none
def unq (l:Bs):Option Bs:=match qtd l with | some (t,n)=>if n=l.length then some t else none | none=>none
end Go.Proofs.YtiblepfehggicaaGreatDoor.QuotePlain
end
section
namespace Go.Proofs.YtiblepfehggicaaGreatDoor.QuotePlain
def okw (w:Bs):Bool:=(unq w).isSome||zon w
def cut:Bs->Bs->Bool->Option (List Bs)
 | [],w,_=>if okw w then some [w] else none
 | c :: r,w,i=>if c=32/\i=false then (if okw w then (cut r [] i).map (w :: ·) else none) else cut r (w++[c]) (if c=34 then !i else i)
end Go.Proofs.YtiblepfehggicaaGreatDoor.QuotePlain
end
section
namespace Go.Proofs.YtiblepfehggicaaGreatDoor.QuotePlain
def F (q:List Bs):Bs:=q.flatMap (·++[32])
end Go.Proofs.YtiblepfehggicaaGreatDoor.QuotePlain
end
namespace Go.Proofs.YtiblepfehggicaaGreatDoor.Vcg
section
structure OpV where
 kind:Int
 slot:Int
 a:List UInt8
 b:List UInt8
 d:List UInt8
deriving DecidableEq,Inhabited
def qX (k:Int):Bool:=decide (k=3)||decide (k=7)||decide (k=9)||decide (k=10)
def zeh (k:Int):Bool:=decide (k=2)||decide (k=3)||decide (k=5)||decide (k=6)
end
section
open CA CB
open Go.RowKit
def opL (o:OpV):List C:=[.sc (.int .i64 o.kind),.sc (.int .i64 o.slot),.str o.a,.str o.b,.str o.d]
def XH (o:OpV):Bool:=decide (1<=o.kind)&&decide (o.kind<=10)&&zM o.a&&(if qX o.kind then decide (1<=o.slot)&&decide (o.slot<=1073741824) else decide (o.slot=0))&&(if zeh o.kind then zM o.b else decide (o.b = []))
 && (if o.kind=4 then JR o.d else decide (o.d = []))&&(!decide (o.kind=6)||(!Yy o.a o.b&&!Yy o.b o.a))
def short (o:OpV):Prop:=o.a.length<=100000/\o.b.length<=100000/\o.d.length<=100000
theorem JN (k s:Int) (a b d:List UInt8) (hs:short ⟨k,s,a,b,d⟩):Fun Tryz.prog G1 98 [.agg (opL ⟨k,s,a,b,d⟩)] (qO (XH ⟨k,s,a,b,d⟩)) 0:=by
 have hs1:a.length<=100000:=hs.1
 have hs2:b.length<=100000:=hs.2.1
 have hs3:d.length<=100000:=hs.2.2
 have h1:=(Mz a (by omega)).glob0 (G':=G1)
 have h2:=(Mz b (by omega)).glob0 (G':=G1)
 have h3:=(zaI d (by omega)).glob0 (G':=G1)
 have h4:=(HK a b (by omega)).glob0 (G':=G1)
 have h5:=(HK b a (by omega)).glob0 (G':=G1)
 unfold opL
 by_cases hk1:k<1
 ·have:¬1<=k:=by omega
  refine fon Tryz.func98 ?_;dsimp only[Tryz.f98]
  push_cast -dsimp [hk1]
  exact ⟨[],rfl,rfl,by push_cast -dsimp [ze,zd,CLe,zg];simp[XH,this]⟩
 by_cases hk2:10<k
 ·have:¬k<=10:=by omega
  refine fon Tryz.func98 ?_;dsimp only[Tryz.f98]
  push_cast -dsimp [hk1,hk2]
  exact ⟨[],rfl,rfl,by push_cast -dsimp [ze,zd,CLe,zg];simp[XH,this]⟩
 cases hp:zM a with
 | false =>
  rw[hp]at h1
  refine fon Tryz.func98 ?_;dsimp only[Tryz.f98]
  push_cast -dsimp [hk1,hk2]
  refine cl (h1) ?_;push_cast -dsimp
  exact ⟨[],rfl,rfl,by push_cast -dsimp [ze,zd,CLe,zg];simp[XH,hp]⟩
 | true =>
  rw[hp]at h1
  have hk:k=1∨k=2∨k=3∨k=4∨k=5∨k=6∨k=7∨k=8∨k=9∨k=10:=by omega
  clear hk1 hk2 hs hs1 hs2 hs3
  rcases hk with rfl | rfl | rfl | rfl | rfl | rfl | rfl | rfl | rfl | rfl
  all_goals
   refine fon Tryz.func98 ?_;dsimp only[Tryz.f98]
   push_cast -dsimp
   refine cl (h1) ?_;push_cast -dsimp
   repeat' (first
    | (refine call h2 ?_;push_cast -dsimp)
    | (refine kU h2 ?_;push_cast -dsimp)
    | (refine call h3 ?_;push_cast -dsimp)
    | (refine kU h3 ?_;push_cast -dsimp)
    | (refine call h4 ?_;push_cast -dsimp)
    | (refine kU h4 ?_;push_cast -dsimp)
    | (refine call h5 ?_;push_cast -dsimp)
    | (refine kU h5 ?_;push_cast -dsimp)
    | (refine br (fun h=>?_) (fun h=>?_)<;>push_cast -dsimp [h])
    | (refine ⟨[],rfl,rfl,?_⟩;push_cast -dsimp [ze,zd,CLe,zg];clear h1 h2 h3 h4 h5;simp_all [XH,qX,zeh]<;>omega))
end
section
structure qy where
 dir:Int
 name:List UInt8
 ino:Int
deriving DecidableEq,Inhabited
structure zP where
 slot:Int
 ino:Int
 content:Bool
 data:List UInt8
deriving DecidableEq,Inhabited
structure qg where
 fs:FsV
 kept:List zP
 pool:List zp
deriving DecidableEq,Inhabited
def QL:qy:=⟨0,[],0⟩
def zc6:zP:=⟨0,0,false,[]⟩
abbrev Jy (es:List zZ):Prop:=qI jC zZ.name es
def VJ (n:List UInt8) (es:List zZ):Bool:=J3 zZ.name n es
def jG (n:List UInt8) (es:List zZ):Int:=match j7 zZ.name n es with | some e=>e.ino | none=>0
def zj (n:List UInt8) (es:List zZ):List zZ:=JS zZ.name n es
def zN (n:List UInt8) (i:Int) (es:List zZ):List zZ:=Xr jC zZ.name ⟨n,i⟩ (JS zZ.name n es)
def atW (xs:List zp):List (List UInt8)->qy->qy×Int
 | [],s=>(s,0)
 | n :: r,s=>if s.ino=0 then (QL,1) else if (zh s.ino xs).kind≠2 then (QL,3) else atW xs r ⟨(zh s.ino xs).ino,n,jG n (zh s.ino xs).es⟩
def atV (f:FsV) (p:List UInt8):qy×Int:=if Yk p then atW f.xs (zI p) ⟨0,[],1⟩ else (QL,9)
def jS (f:FsV) (n b:Int):Bool:=decide (f.xs.length+n<=f.maxI)&&decide (qd f.xs+b<=f.maxB)
def qk (d:Int) (es:List zZ->List zZ) (xs:List zp):List zp:=qm { zh d xs with es:=es (zh d xs).es } xs
def ko (f:FsV) (s:qy) (k:Int) (t:List UInt8):FsV:={ f with next:=f.next+1,xs:=qm ⟨f.next,k,1,t,if k=2 then s.dir else 0,[]⟩ (qk s.dir (zN s.name f.next) f.xs) }
def Q3 (f:FsV) (s:qy) (k:Int) (t:List UInt8):FsV×Int:=
 if may s.name then (if jS f 1 (if k=1 then (t.length:Int) else 0) then (ko f s k t,0) else (f,8)) else (f,9)
def zD (f:FsV) (s:qy):FsV:=
 if (zh s.ino f.xs).links-1=0 then { f with xs:=qj s.ino (qk s.dir (zj s.name) f.xs) }
 else { f with xs:=qm { zh s.ino f.xs with links:=(zh s.ino f.xs).links-1 } (qk s.dir (zj s.name) f.xs) }
def X3 (f:FsV) (s:qy) (i:Int):FsV:={ f with xs:=qm { zh i f.xs with links:=(zh i f.xs).links+1 } (qk s.dir (zN s.name i) f.xs) }
def Yp (f:FsV) (a b:qy):FsV:=
 let g:=qk b.dir (zN b.name a.ino) (qk a.dir (zj a.name) f.xs)
 if (zh a.ino g).kind=2 then { f with xs:=qm { zh a.ino g with parent:=b.dir } g } else { f with xs:=g }
def YS (f:FsV) (i:Int) (t:List UInt8):FsV:={ f with xs:=qm { zh i f.xs with data:=t } f.xs }
def Js (f:FsV) (i:Int) (t:List UInt8):FsV×Int:=
 if jS f 0 ((t.length:Int)-(zh i f.xs).data.length) then (YS f i t,0) else (f,8)
def U0 (n:Int) (ks:List zP):Bool:=J3 zP.slot n ks
def qv (k:zP) (ks:List zP):List zP:=Xr jP zP.slot k ks
def JA (w:qg) (n:Int) (s:qy):qg×Int:=
 if U0 n w.kept then (w,13)
 else (⟨zD w.fs s,qv ⟨n,s.ino,false,[]⟩ w.kept,if (zh s.ino w.fs.xs).links=1 then qm { zh s.ino w.fs.xs with links:=0,parent:=0 } w.pool else w.pool⟩,0)
def zV (w:qg) (n i:Int):qg×Int:=
 if U0 n w.kept then (w,13) else ({ w with kept:=qv ⟨n,i,true,(zh i w.fs.xs).data⟩ w.kept },0)
def isV (f:FsV) (p:List UInt8) (want:Bool):qy×zp×Int:=
 let a:=atV f p
 (a.1,zh a.1.ino f.xs,if a.2≠0 then a.2 else if want&&!zn a.1.ino f.xs then 1 else if !want&&zn a.1.ino f.xs then 2 else 0)
def zL (f:FsV) (p:List UInt8):zp×Int:=
 let a:=isV f p true
 (a.2.1,if a.2.2≠0 then a.2.2 else if a.2.1.kind=2 then 4 else if a.2.1.kind=3 then 9 else 0)
def j0 (w:qg) (p:List UInt8) (k:Int) (t:List UInt8):qg×Int:=
 if (isV w.fs p false).2.2≠0 then (w,(isV w.fs p false).2.2) else ({ w with fs:=(Q3 w.fs (isV w.fs p false).1 k t).1 },(Q3 w.fs (isV w.fs p false).1 k t).2)
def jM (w:qg) (o:OpV):qg×Int:=
 if (zL w.fs o.a).2≠0 then (w,(zL w.fs o.a).2) else j0 w o.b 1 (zL w.fs o.a).1.data
def zS (w:qg) (o:OpV):qg×Int:=
 if (zL w.fs o.a).2≠0 then (w,(zL w.fs o.a).2)
 else if (zL w.fs o.b).2≠0 then (w,(zL w.fs o.b).2)
 else if (zL w.fs o.a).1.ino=(zL w.fs o.b).1.ino then (w,9)
 else if (zV w o.slot (zL w.fs o.b).1.ino).2≠0 then (w,(zV w o.slot (zL w.fs o.b).1.ino).2)
 else if (Js w.fs (zL w.fs o.b).1.ino (zL w.fs o.a).1.data).2≠0 then (w,(Js w.fs (zL w.fs o.b).1.ino (zL w.fs o.a).1.data).2)
 else ({ (zV w o.slot (zL w.fs o.b).1.ino).1 with fs:=(Js w.fs (zL w.fs o.b).1.ino (zL w.fs o.a).1.data).1 },0)
def qD (w:qg) (o:OpV):qg×Int:=
 let a:=isV w.fs o.a true
 if a.2.2≠0 then (w,a.2.2) else if a.2.1.kind=2 then (w,11)
 else if (isV w.fs o.b false).2.2≠0 then (w,(isV w.fs o.b false).2.2)
 else ({ w with fs:=X3 w.fs (isV w.fs o.b false).1 a.2.1.ino },0)
def j8 (w:qg) (o:OpV):qg×Int:=
 if (isV w.fs o.a true).2.2≠0 then (w,(isV w.fs o.a true).2.2)
 else if (isV w.fs o.b false).2.2≠0 then (w,(isV w.fs o.b false).2.2)
 else ({ w with fs:=Yp w.fs (isV w.fs o.a true).1 (isV w.fs o.b false).1 },0)
def qr (w:qg) (o:OpV):qg×Int:=
 let a:=isV w.fs o.a true
 if a.2.2≠0 then (w,a.2.2) else if a.2.1.es≠[] then (w,5) else JA w o.slot a.1
def doV (w:qg) (o:OpV):qg×Int:=
 if !XH o then (w,12)
 else if o.kind=1 then j0 w o.a 2 []
 else if o.kind=2 then jM w o
 else if o.kind=3 then zS w o
 else if o.kind=4 then j0 w o.a 3 o.d
 else if o.kind=5 then qD w o
 else if o.kind=6 then j8 w o
 else qr w o
def jy (ks:List zP):Int:=match ks.getLast? with | some k=>k.slot | none=>0
structure qM where
 w:qg
 ops:List OpV
 diags:List (List UInt8)
 status:Int
 slot:Int
deriving DecidableEq,Inhabited
def zcu (w:qg):qM:=⟨w,[],[],0,jy w.kept⟩
def jv (d:qM) (o:OpV):OpV:={ o with slot:=if o.kind=3∨o.kind=7 then d.slot+1 else 0 }
def Jt (d:qM) (o:OpV):qM×Int:=
 if 7<o.kind then (d,12)
 else if (doV d.w (jv d o)).2≠0 then (d,(doV d.w (jv d o)).2)
 else (⟨(doV d.w (jv d o)).1,d.ops++[jv d o],d.diags,d.status,if 0<(jv d o).slot then (jv d o).slot else d.slot⟩,0)
end
section
open CA CB
open Go.RowKit
theorem zb2 (a b:List UInt8):Fun Tryz.prog G0 253 [.str a,.str b] (.sc (.int .i64 (Lib.compareBytes a b))) 0:=by
 refine Fun.wrap (by kernel_rfl) fun R vs h=>?_
 obtain ⟨v1,us1,rfl,h1,h⟩:=zf.1 h
 obtain ⟨v2,us2,rfl,h2,h⟩:=zf.1 h
 rw[zl]at h
 subst h
 rw[z8]at h1 h2
 subst h1 h2
 refine (Tryz.strings_Compare ⟨a.toArray⟩ ⟨b.toArray⟩ R.w).mono ?_
 rintro e w' ⟨rfl,rfl⟩
 exact ⟨_,rfl,Below.refl _ _,fun R' _=>zq.2 (by simp)⟩
section
variable {G:zr}
theorem uQ (e:zZ) (n:List UInt8):Fun Tryz.prog G 252 [.agg (Na e),.str n] (.sc (.int .i64 (Lib.compareBytes e.name n))) 0:=by
 have h:=(zb2 e.name n).glob0 (G':=G)
 refine fon Tryz.func252 ?_;dsimp only[Tryz.f252]
 push_cast -dsimp
 refine cl (h) ?_;push_cast -dsimp
 exact dn
theorem NK (es:List zZ) (n:List UInt8) (hl:es.length<=100000) (hR:qI jC zZ.name es) :
  Fun Tryz.prog G 251 [.sl 2 (zJ es),.str n,.clo (.func 252) [] []] (.tup [.sc (.int .i64 (qq jC zZ.name n es:Nat)),.sc (.bool (J3 zZ.name n es))]) 0:=by
 refine fon Tryz.func251 ?_;dsimp only[Tryz.f251]
 push_cast -dsimp
 refine loop (fun p:Nat×Nat=>⟨[(0,.sl 2 (zJ es)),(1,.str n),(2,.clo (.func 252) [] []),(8,.sc (.int .i64 (es.length:Nat))),(9,.sc (.int .i64 p.1)),(10,.sc (.int .i64 p.2))],[],0,0⟩)
  (fun p=>p.1<=p.2/\p.2<=es.length/\(∀ t (h:t<es.length),t<p.1->(jC).lt (zZ.name es[t]) n=true)/\∀ t (h:t<es.length),p.2<=t->(jC).lt (zZ.name es[t]) n=false) (fun p=>p.2-p.1) (0,es.length) ⟨Nat.zero_le _,Nat.le_refl _,fun t _ h=>by (simp at h),fun t h h'=>by (dsimp only at h';omega)⟩ ?_ ?_
 ·exact wk (by push_cast -dsimp [ze,zd,CLe,zg,List.length_map])
 ·rintro ⟨i,j⟩ ⟨h1,h2,h3,h4⟩
  dsimp only at h1 h2 h3 h4 ⊢
  by_cases h:i<j
  ·obtain ⟨m,hm⟩:∃ m,m=(i+j) / 2:=⟨_,rfl⟩
   have hmi:((i:Int)+(j:Int)) / 2=(m:Int):=by omega
   have hml:m<es.length:=by omega
   have hat:=Ja es m hml
   have hlt:=(zcL es[m].name n).to_iff
   push_cast -dsimp [h,hmi,hat]
   repeat refine an ?_
   refine cl ((uQ es[m] n)) ?_;push_cast -dsimp
   cases hc:(jC).lt (zZ.name es[m]) n with
   | true =>
    have hcv:(Lib.compareBytes es[m].name n<0)=True:=eq_true (hlt.mpr hc)
    push_cast -dsimp [hcv]
    repeat refine an ?_
    refine ⟨(m+1,j),⟨by omega,h2,fun t ht hlt2=>?_,h4⟩,by dsimp only;omega,wk⟩
    dsimp only at hlt2
    rcases Nat.lt_or_ge t m with q | q
    ·exact (jC).tr ((List.pairwise_iff_getElem.1 hR) t m ht hml q) hc
    ·have:t=m:=by omega
     subst this;exact hc
   | false =>
    have hcv:(Lib.compareBytes es[m].name n<0)=False:=eq_false (fun e=>by have h7:(jC).lt (zZ.name es[m]) n=true:=hlt.mp e;rw[hc]at h7;cases h7)
    push_cast -dsimp [hcv]
    repeat refine an ?_
    refine ⟨(i,m),⟨by omega,by omega,h3,fun t ht hge=>?_⟩,by dsimp only;omega,wk⟩
    dsimp only at hge
    rcases Nat.lt_or_ge m t with q | q
    ·cases h9:(jC).lt (zZ.name es[t]) n with
     | false=>rfl
     | true=>have:=(jC).tr ((List.pairwise_iff_getElem.1 hR) m t hml ht q) h9;rw[hc]at this;cases this
    ·have:t=m:=by omega
     subst this;exact hc
  ·have hij:i=j:=by omega
   subst hij
   have hrk:=Zs (o:=jC) (key:=zZ.name) n es i h2 h3 h4
   push_cast -dsimp [h]
   refine br (fun hx=>?_) (fun hx=>?_)
   ·have hx:i<es.length:=by simpa using hx
    have hat:=Ja es i hx
    have hh:=vn n hR hrk hx
    push_cast -dsimp [hx,hat]
    repeat refine an ?_
    refine cl ((uQ es[i] n)) ?_;push_cast -dsimp
    have hcv:decide (Lib.compareBytes es[i].name n=0)=J3 zZ.name n es:=by
     rw[hh]
     exact decide_eq_decide.2 (zeC es[i].name n).to_iff
    push_cast -dsimp [hcv]
    exact dn (by push_cast -dsimp [ze,zd,CLe,zg,hrk])
   ·have hx:¬i<es.length:=by simpa using hx
    have hh:=GL n hR (by omega)
    push_cast -dsimp [hx]
    exact dn (by push_cast -dsimp [ze,zd,CLe,zg,hrk,hh])
theorem yh (es:List zZ) (n:List UInt8) (hl:es.length<=100000) (hR:Jy es):Fun Tryz.prog G 231 [.sl 2 (zJ es),.str n] (.tup [.sc (.int .i64 (qq jC zZ.name n es:Nat)),.sc (.bool (J3 zZ.name n es))]) 0:=by
 refine fon Tryz.func231 ?_;dsimp only[Tryz.f231]
 push_cast -dsimp
 refine cl (NK es n hl hR) ?_;push_cast -dsimp
 exact dn
theorem zc9 (es:List zZ) (n:List UInt8) (hl:es.length<=100000) (hR:Jy es):Fun Tryz.prog G 228 [.sl 2 (zJ es),.str n] (.tup [.sc (.int .i64 (jG n es)),.sc (.bool (VJ n es))]) 0:=by
 obtain ⟨_,_,h3,h4⟩:=VX n hR
 have h:=yh (G:=G) es n hl hR
 cases hh:J3 zZ.name n es with
 | false =>
  have hf:jG n es=0:=by unfold jG;rw[(h4 hh).1]
  have he:VJ n es=false:=hh
  rw[hh]at h
  refine fon Tryz.func228 ?_;dsimp only[Tryz.f228]
  push_cast -dsimp
  refine cl (h) ?_;push_cast -dsimp
  exact dn (by push_cast -dsimp [ze,zd,CLe,zg,hf,he])
 | true =>
  obtain ⟨hlt,_,g2,_⟩:=h3 hh
  have hf:jG n es=es[qq jC zZ.name n es].ino:=by unfold jG;rw[g2]
  have he:VJ n es=true:=hh
  have hat:=Ja es _ hlt
  rw[hh]at h
  refine fon Tryz.func228 ?_;dsimp only[Tryz.f228]
  push_cast -dsimp
  refine cl (h) ?_;push_cast -dsimp [hat]
  repeat refine an ?_
  exact dn (by push_cast -dsimp [ze,zd,CLe,zg,hf,he])
end
end
section
open CA CB
open Go.RowKit
section
variable {G:zr}
theorem jd {es:List zZ}:∀ r∈zJ es,r.length=2:=fun r hr=>by
 obtain ⟨x,_,rfl⟩:=List.mem_map.1 hr;rfl
theorem jf {es:List zZ}:jA (zJ es):=fun r hr=>by
 obtain ⟨x,_,rfl⟩:=List.mem_map.1 hr;rfl
theorem vZ {k c i:Nat} {rows:List (List C)} (hk:∀ r∈rows,r.length=k) (hi:i<=rows.length):(qw k rows c).take (i*k)=(rows.take i).flatten:=by
 have hf:=qt hk
 have h1:i*k<=rows.length*k:=Nat.mul_le_mul_right _ hi
 unfold qw
 rw[List.take_append_of_le_length (by omega),ZJ hk]
theorem zjt {es:List zZ} {c r:Nat} {i:Int} (hr:r<es.length) :
  (qw 2 (zJ es) c).take (r*2+1)++[C.sc (.int .i64 i)]++(qw 2 (zJ es) c).drop (r*2+1+1)=qw 2 (zJ (es.set r ⟨es[r].name,i⟩)) c:=by
 have hll:(zJ es).length=es.length:=List.length_map ..
 have h:=uz (c:=c) (row:=Na ⟨es[r].name,i⟩) (i:=r) jd rfl (show r<(zJ es).length by omega)
 have e1:(zJ es).set r (Na ⟨es[r].name,i⟩)=zJ (es.set r ⟨es[r].name,i⟩):=by simp[List.map_set]
 rw[e1]at h
 rw[←h]
 have t0:=vZ (c:=c) (i:=r) (jd (es:=es)) (by omega)
 have t1:=vZ (c:=c) (i:=r+1) (jd (es:=es)) (by omega)
 have e2:((zJ es).take (r+1)).flatten=((zJ es).take r).flatten++Na es[r]:=by
  rw[List.take_add_one,Ja es r hr];simp
 have e3:(qw 2 (zJ es) c).take (r*2+1)=(qw 2 (zJ es) c).take (r*2)++[C.str es[r].name]:=by
  have e4:(qw 2 (zJ es) c).take (r*2+1)=((qw 2 (zJ es) c).take ((r+1)*2)).take (r*2+1):=by rw[List.take_take,Nat.min_eq_left (by omega)]
  have hl0:((zJ es).take r).flatten.length=r*2:=by
   rw[qt (k:=2) fun x hx=>jd x (List.mem_of_mem_take hx),List.length_take,hll,Nat.min_eq_left (by omega)]
  rw[e4,t1,e2,t0,List.take_append,hl0,List.take_of_length_le (by omega),show r*2+1-r*2=1 by omega]
  rfl
 rw[e3]
 simp
theorem UK (es:List zZ) (n:List UInt8) (i:Int) (hl:es.length<=90000) (hR:Jy es) :
  Fun Tryz.prog G 202 [.sl 2 (zJ es),.str n,.sc (.int .i64 i)] (.own 0 108 2 (zJ (zN n i es))) 1:=by
 obtain ⟨_,_,h3,h4⟩:=VX n hR
 have hll:(zJ es).length=es.length:=List.length_map ..
 have hat:=yh (G:=G) es n (by omega) hR
 have hrl:=Zp (o:=jC) (key:=zZ.name) n es
 refine foF (fun _=>[]) Tryz.func202 ?_;dsimp only[Tryz.f202]
 push_cast -dsimp
 refine cl (hat) ?_;push_cast -dsimp
 refine Jl [] [] (zaT (zJ es) jd jf (by omega)) rfl (by decide) (by decide) (by simp) (by push_cast -dsimp) (by push_cast -dsimp) (fun r bx' m hp=>?_)
 obtain ⟨rfl,⟨hne,c,h1,h2,rfl,rfl⟩ | ⟨he,⟨rfl,rfl⟩ | ⟨rfl,rfl⟩⟩⟩:=hp
 ·have hbl:=JI jd h1
  have hre:∀ fp fo,C.reL fp fo (qw 2 (zJ es) c)=qw 2 (zJ es) c:=fun fp fo=>zB (zF jf)
  have hpos:=List.length_pos_iff.2 hne
  cases hh:J3 zZ.name n es with
  | true =>
   obtain ⟨hlt,g1,g2,g3,g4⟩:=h3 hh
   have hset:zN n i es=es.set (qq jC zZ.name n es) ⟨n,i⟩:=g4 ⟨n,i⟩ rfl
   have hbs:=zjt (c:=c) (i:=i) hlt
   rw[g1,←hset]at hbs
   have hwl:(zN n i es).length=es.length:=by rw[hset,List.length_set]
   push_cast -dsimp [hh,hre]
   rw[hbs]
   refine ⟨by omega,by omega,by rw[hbl];omega,[(1,108,2,zJ (zN n i es),c)],[.inl 0],zA rfl (by omega) (by rw[List.length_map,hwl];omega) h2 jd jf,rfl,rfl,?_⟩
   rw[hll,←hwl]
   push_cast -dsimp [ze,zd,CLe,zg,show (zJ (zN n i es)).length=(zN n i es).length from List.length_map ..]
  | false =>
   have hw:zN n i es=es.take (qq jC zZ.name n es)++⟨n,i⟩ :: es.drop (qq jC zZ.name n es):=by
    unfold zN
    rw[(h4 hh).2.1]
    exact (h4 hh).2.2 ⟨n,i⟩ rfl
   have hset:zJ (zN n i es)=(zJ es).take (qq jC zZ.name n es)++Na ⟨n,i⟩ :: (zJ es).drop (qq jC zZ.name n es):=by rw[hw];simp
   have hsl:(zJ (zN n i es)).length=(zJ es).length+1:=by rw[hset];simp;omega
   push_cast -dsimp [hh,hre]
   refine Jl [1] [0] (uo (e:=108) (zJ es) (Na ⟨n,i⟩) (qq jC zZ.name n es) c jd rfl jf rfl (by omega) (by omega) h1 h2) rfl (by decide) (by decide) (by simp) (by push_cast -dsimp) (by push_cast -dsimp [hre]) (fun r bx' m hp=>?_)
   rw[←hset]at hp
   have hre2:∀ fp fo c,C.reL fp fo (qw 2 (zJ (zN n i es)) c)=qw 2 (zJ (zN n i es)) c:=fun fp fo c=>zB (zF jf)
   obtain ⟨rfl,c',g1,g2,⟨rfl,rfl⟩ | ⟨rfl,rfl⟩⟩:=hp
   ·push_cast -dsimp [hre2,hre]
    exact ⟨[(1,108,2,zJ (zN n i es),c')],[.inl 1],zA rfl (by omega) g1 g2 jd jf,rfl,rfl,by push_cast -dsimp [ze,zd,CLe,zg]⟩
   ·have hra:∀ fp fo,C.reL fp fo (List.replicate (c*2) .any)=List.replicate (c*2) .any:=fun fp fo=>zB (by simp[List.all_replicate,C.stayB])
    push_cast -dsimp [hre2,hre,hra]
    exact ⟨[(2,108,2,zJ (zN n i es),c')],[.inl 1],zA rfl (by omega) g1 g2 jd jf,rfl,rfl,by push_cast -dsimp [ze,zd,CLe,zg]⟩
 ·have he:es = []:=by simpa using he
  have hh:J3 zZ.name n es=false:=by rw[he];rfl
  have hr0:qq jC zZ.name n es=0:=by rw[he];rfl
  have hset:zN n i es = [⟨n,i⟩]:=by rw[he];rfl
  push_cast -dsimp [hh,hr0]
  refine Jl [] [0] (zhB (e:=108) (Na ⟨n,i⟩) rfl rfl) rfl (by decide) (by decide) (by simp) (by push_cast -dsimp) (by push_cast -dsimp) (fun r bx' m hp=>?_)
  obtain ⟨rfl,c,g1,g2,rfl,rfl⟩:=hp
  have hre:∀ fp fo,C.reL fp fo (qw 2 [Na ⟨n,i⟩] c)=qw 2 [Na ⟨n,i⟩] c:=fun fp fo=>zB (zF (jf (es:=[⟨n,i⟩])))
  push_cast -dsimp [hre]
  exact ⟨[(0,108,2,zJ [⟨n,i⟩],c)],[.inl 1],zA rfl (by omega) g1 g2 jd jf,rfl,rfl,by push_cast -dsimp [ze,zd,CLe,zg,hset]⟩
 ·have he:es = []:=by simpa using he
  have hh:J3 zZ.name n es=false:=by rw[he];rfl
  have hr0:qq jC zZ.name n es=0:=by rw[he];rfl
  have hset:zN n i es = [⟨n,i⟩]:=by rw[he];rfl
  push_cast -dsimp [hh,hr0]
  refine Jl [0] [0] (uo (e:=108) [] (Na ⟨n,i⟩) 0 0 (fun r hr=>by cases hr) rfl (fun r hr=>by cases hr) rfl (by simp) (by simp) (by simp) (by simp)) rfl (by decide) (by decide) (by simp) (by push_cast -dsimp) (by push_cast -dsimp [qw]) (fun r bx' m hp=>?_)
  obtain ⟨rfl,c,g1,g2,hp⟩:=hp
  have hre:∀ fp fo,C.reL fp fo (qw 2 [Na ⟨n,i⟩] c)=qw 2 [Na ⟨n,i⟩] c:=fun fp fo=>zB (zF (jf (es:=[⟨n,i⟩])))
  rcases hp with ⟨rfl,rfl⟩ | ⟨rfl,rfl⟩
  ·push_cast -dsimp [hre]
   exact ⟨[(0,108,2,zJ [⟨n,i⟩],c)],[.inl 1],zA rfl (Nat.lt_of_lt_of_le (Nat.zero_lt_succ _) g1) g1 g2 jd jf,rfl,rfl,by push_cast -dsimp [ze,zd,CLe,zg,hset]⟩
  ·push_cast -dsimp [hre]
   exact ⟨[(1,108,2,zJ [⟨n,i⟩],c)],[.inl 1],zA rfl (Nat.lt_of_lt_of_le (Nat.zero_lt_succ _) g1) g1 g2 jd jf,rfl,rfl,by push_cast -dsimp [ze,zd,CLe,zg,hset]⟩
end
end
section
open CA CB
open Go.RowKit
section
variable {G:zr}
theorem zmG {A B Z:List C} {r k:Nat} (hA:A.length=r*2) (hB:B.length=(k-r)*2) (hZ:Z.length=k*2) (hr:r<=k):spl (A++Z.drop (r*2)) (r*2) (B.take ((k-r)*2))=A++B:=by
 unfold spl
 rw[List.take_of_length_le (l:=B) (by omega),List.take_append_of_le_length (by omega),List.take_of_length_le (l:=A) (by omega),List.drop_of_length_le (l:=A++Z.drop (r*2)) (by rw[List.length_append,List.length_drop];omega),List.append_nil]
theorem VC (es:List zZ) (n:List UInt8) (hl:es.length<=90000) (hR:Jy es) (hh:J3 zZ.name n es=true) :
  Fun Tryz.prog G 204 [.sl 2 (zJ es),.str n] (.own 0 108 2 (zJ (zj n es))) 1:=by
 obtain ⟨_,_,h3,h4⟩:=VX n hR
 have hll:(zJ es).length=es.length:=List.length_map ..
 have hat:=yh (G:=G) es n (by omega) hR
 have hrl:=Zp (o:=jC) (key:=zZ.name) n es
 rw[hh]at hat
 obtain ⟨hlt,g1,g2,g3,g4⟩:=h3 hh
 have hw:zj n es=es.take (qq jC zZ.name n es)++es.drop (qq jC zZ.name n es+1):=g3
 obtain ⟨k,hk⟩:∃ k,es.length=k+1:=⟨es.length-1,by omega⟩
 have hkc:(zJ es).length=k+1:=by omega
 have hn:((zJ es).length:Int)-1=(k:Int):=by omega
 have hwl:(zj n es).length=k:=by rw[hw];simp;omega
 generalize qq jC zZ.name n es=r at *
 have hm:min r k=r:=by omega
 rcases Nat.eq_zero_or_pos k with h1 | h1
 ·subst h1
  obtain rfl:r=0:=by omega
  have hn:((zJ es).length:Int)-1=0:=hn
  have hwe:zj n es = []:=List.length_eq_zero_iff.1 hwl
  refine fof (fun i=>if i=5 then VQ [(0,.pure),(1,.pure),(2,.pure),(3,.pure),(4,.pure),(7,.pure),(8,.pure),(9,.pure),(10,.pure),(5,.flt [0,5,6,7,8]),(6,.pure),(11,.bar)] else []) Tryz.func204 ?_;dsimp only[Tryz.f204]
  push_cast -dsimp
  refine cl (hat) ?_;push_cast -dsimp [hn,Int.toNat_zero]
  refine ⟨by omega,by omega,zpw (m:=0) (xs:=[]) QJ Ym rfl rfl (fun _ _ _ _ _ h=>by cases h) rfl ?_⟩
  push_cast -dsimp
  have hd:(zJ es).drop 1 = []:=List.drop_of_length_le (by omega)
  rw[hd]
  refine ⟨⟨by split<;>first | omega | trivial,by split<;>first | omega | trivial⟩,zpw (m:=0) (xs:=[]) QJ Ym rfl rfl (fun _ _ _ _ _ h=>by cases h) rfl ?_⟩
  push_cast -dsimp
  exact ⟨[.inl 0],rfl,rfl,by push_cast -dsimp [ze,zd,CLe,zg,hwe]⟩
 ·refine foF (fun i=>if i=5 then VQ [(0,.pure),(1,.pure),(2,.pure),(3,.pure),(4,.pure),(7,.pure),(8,.pure),(9,.pure),(10,.pure),(5,.flt [0,5,6,7,8]),(6,.pure),(11,.bar)] else if i=1000000+73 then [true,true] else []) Tryz.func204 ?_;dsimp only[Tryz.f204]
  push_cast -dsimp
  refine cl (hat) ?_;push_cast -dsimp [hn,Int.toNat_natCast]
  have hA:((zJ es).take r).flatten.length=r*2:=by
   rw[qt (k:=2) fun x hx=>jd x (List.mem_of_mem_take hx),List.length_take,hkc,Nat.min_eq_left (by omega)]
  have hB:((zJ es).drop (r+1)).flatten.length=(k-r)*2:=by
   rw[qt (k:=2) fun x hx=>jd x (List.mem_of_mem_drop hx),List.length_drop,hkc];omega
  have hZ:((List.replicate k [C.str [],C.sc (.int .i64 0)]).flatten).length=k*2:=by simp
  refine ⟨⟨by omega,by omega⟩,by omega,by omega,by omega,by omega,⟨by omega,by omega⟩,⟨by omega,by omega⟩,⟨by omega,by omega⟩,zkZ (m:=r) (xs:=((zJ es).take r).flatten) QJ Ym (by simp[C.xs?,C.rows?,hkc];omega) rfl hA (by rw[hZ];omega) ?_⟩
  rw[hm]
  push_cast -dsimp
  have hS:spl (List.replicate k [C.str [],C.sc (.int .i64 0)]).flatten 0 (((zJ es).take r).flatten.take (r*2))=((zJ es).take r).flatten++((List.replicate k [C.str [],C.sc (.int .i64 0)]).flatten).drop (r*2):=by
   unfold spl
   rw[List.take_zero,List.nil_append,Nat.zero_add,List.take_of_length_le (by omega),hA]
  have hm2:min (k-r) (k-r)=k-r:=Nat.min_self _
  rw[hS]
  refine ⟨⟨by split<;>first | exact ⟨by omega,by omega⟩ | trivial,by split<;>first | exact ⟨by omega,by omega⟩ | trivial,by split<;>first | exact ⟨by omega,by omega⟩ | trivial⟩,Nat.le_refl _,⟨by omega,by omega⟩,zkZ (m:=k-r) (xs:=((zJ es).drop (r+1)).flatten) QJ Ym (by simp[C.xs?,C.rows?,hkc]) rfl hB (by rw[List.length_append,List.length_drop,hA,hZ];omega) ?_⟩
  rw[hm2]
  push_cast -dsimp
  have hwc:(zJ (zj n es)).length=k:=(List.length_map ..).trans hwl
  have hF:spl (((zJ es).take r).flatten++((List.replicate k [C.str [],C.sc (.int .i64 0)]).flatten).drop (r*2)) (r*2) (((zJ es).drop (r+1)).flatten.take ((k-r)*2))=qw 2 (zJ (zj n es)) k:=by
   rw[zmG hA hB hZ (by omega)]
   unfold qw
   rw[hwc,Nat.sub_self,Nat.zero_mul,hw]
   simp
  rw[hF]
  refine ⟨[(0,108,2,zJ (zj n es),k)],[.inl 0],zA rfl h1 (by omega) (by omega) jd jf,rfl,rfl,?_⟩
  push_cast -dsimp [ze,zd,CLe,zg,hwc]
end
end
section
theorem Za (n:Int) (xs:List zp):zn n xs=(Xb n xs).isSome:=by
 unfold zn Xb
 induction xs with
 | nil=>rfl
 | cons y r ih =>
  rw[List.any_cons,List.find?_cons]
  cases h:(y.ino==n) with
  | true=>rfl
  | false=>rw[Bool.false_or,ih]
theorem Gy {n:Int} {xs:List zp} {x:zp} (h:Xb n xs=some x):x.ino=n/\x∈xs:=by
 unfold Xb at h
 have h1:=List.find?_some h
 exact ⟨by simpa using h1,List.mem_of_find?_eq_some h⟩
theorem ut (n:Int) (x:zp):∀ xs:List zp,(∀ z∈xs,z.ino≠x.ino)->Xb n (ZL x xs)=if x.ino=n then some x else Xb n xs
 | [],_=>by
  unfold ZL Xb
  by_cases h:x.ino=n<;>simp[h]
 | y :: r,hn=>by
  have hy:=hn y List.mem_cons_self
  have ih:=ut n x r fun z hz=>hn z (List.mem_cons_of_mem _ hz)
  unfold Xb at ih ⊢
  unfold ZL
  split
  ·by_cases h:x.ino=n
   ·simp[h]
   ·simp[h,List.find?_cons]
  ·by_cases h:x.ino=n
   ·rw[if_pos h]at ih ⊢
    have hyn:(y.ino==n)=false:=by simp;omega
    rw[List.find?_cons,hyn];exact ih
   ·rw[if_neg h]at ih ⊢
    rw[List.find?_cons,List.find?_cons,ih]
theorem ZG (n m:Int):∀ xs:List zp,Xb n (qj m xs)=if n=m then none else Xb n xs
 | []=>by unfold Xb qj;simp
 | y :: r=>by
  have ih:=ZG n m r
  by_cases hy:y.ino=m
  ·rw[Ji hy,ih]
   by_cases h:n=m
   ·rw[if_pos h,if_pos h]
   ·rw[if_neg h,if_neg h]
    have hyn:(y.ino==n)=false:=by simp;omega
    unfold Xb
    rw[List.find?_cons,hyn]
  ·rw[JM hy]
   unfold Xb at ih ⊢
   rw[List.find?_cons,List.find?_cons,ih]
   by_cases h:n=m
   ·have hyn:(y.ino==n)=false:=by simp;omega
    simp only[hyn,if_pos h]
   ·simp only[if_neg h]
theorem zkY {n:Int} {xs:List zp}:∀ z∈qj n xs,z.ino≠n:=fun z hz=>by
 unfold qj at hz
 simpa using (List.mem_filter.1 hz).2
theorem zac (n:Int) (x:zp) (xs:List zp):Xb n (qm x xs)=if x.ino=n then some x else Xb n xs:=by
 unfold qm
 rw[ut n x _ zkY,ZG]
 by_cases h:x.ino=n
 ·rw[if_pos h,if_pos h]
 ·rw[if_neg h,if_neg h,if_neg (fun e=>h e.symm)]
theorem qV (n:Int) (x:zp) (xs:List zp):zn n (qm x xs)=(decide (x.ino=n)||zn n xs):=by
 rw[Za,zac,Za]
 by_cases h:x.ino=n<;>simp[h]
theorem XX (n m:Int) (xs:List zp):zn n (qj m xs)=(!decide (n=m)&&zn n xs):=by
 rw[Za,ZG,Za]
 by_cases h:n=m<;>simp[h]
theorem MY {x:zp}:∀ {xs:List zp},z7 xs->Xb x.ino xs=some x->qm x xs=xs
 | [],_,h=>by unfold Xb at h;simp at h
 | y :: r,hR,h=>by
  obtain ⟨h1,h2⟩:=jW.1 hR
  by_cases hy:y.ino=x.ino
  ·have e:y=x:=by
    unfold Xb at h
    rw[List.find?_cons_of_pos (by simpa using hy)]at h
    simpa using h
   subst e
   have hb:zn y.ino r=false:=Vg h1
   unfold qm
   rw[Ji rfl,Qq hb,zdV h1]
  ·have hx:Xb x.ino r=some x:=by
    unfold Xb at h ⊢
    rwa [List.find?_cons_of_neg (by simpa using hy)]at h
   have hlt:=h1 x (Gy hx).2
   rw[QS hlt,MY h2 hx]
theorem zmY {xs:List zp}:∀ {x:zp},z7 xs->(x∈xs↔Xb x.ino xs=some x):=by
 induction xs with
 | nil=>intro x _;simp[Xb]
 | cons y r ih =>
  intro x hR
  obtain ⟨h1,h2⟩:=jW.1 hR
  constructor
  ·intro hx
   rcases List.mem_cons.1 hx with rfl | hx
   ·unfold Xb;rw[List.find?_cons_of_pos (by simp)]
   ·have:=h1 x hx
    unfold Xb
    rw[List.find?_cons_of_neg (by simp;omega)]
    exact (ih h2).1 hx
  ·intro h;exact (Gy h).2
def Nv (g:zp->Nat) (xs:List zp):Nat:=(xs.map g).sum
theorem Zg (g:zp->Nat) {n:Int}:∀ {xs:List zp},z7 xs->Nv g xs=Nv g (qj n xs)+(match Xb n xs with | some x=>g x | none=>0)
 | [],_=>rfl
 | y :: r,hR=>by
  obtain ⟨h1,h2⟩:=jW.1 hR
  have ih:=Zg g (n:=n) h2
  unfold Nv at ih ⊢
  by_cases hy:y.ino=n
  ·have hb:zn n r=false:=Vg fun z hz=>by have:=h1 z hz;omega
   have hg:Xb n (y :: r)=some y:=by unfold Xb;rw[List.find?_cons_of_pos (by simpa using hy)]
   rw[hg,Ji hy,Qq hb]
   simp;omega
  ·have hg:Xb n (y :: r)=Xb n r:=by unfold Xb;rw[List.find?_cons_of_neg (by simpa using hy)]
   rw[hg,JM hy]
   simp only[List.map_cons,List.sum_cons]
   omega
theorem uw (g:zp->Nat) (x:zp):∀ xs:List zp,Nv g (ZL x xs)=Nv g xs+g x
 | []=>by unfold ZL Nv;simp
 | y :: r=>by
  have ih:=uw g x r
  unfold Nv at ih ⊢
  unfold ZL
  split
  ·simp;omega
  ·simp only[List.map_cons,List.sum_cons];omega
theorem VZ (g:zp->Nat) {x:zp} {xs:List zp} (hR:z7 xs):Nv g (qm x xs)+(match Xb x.ino xs with | some y=>g y | none=>0)=Nv g xs+g x:=by
 unfold qm
 rw[uw,Zg g (n:=x.ino) hR]
 omega
end
section
def JV (n:Int) (x:zp):Nat:=(x.es.filter fun e=>decide (e.ino=n)).length
def JU (n:Int) (xs:List zp):Nat:=Nv (JV n) xs
structure FsI (f:FsV):Prop where
 rises:z7 f.xs
 ino:∀ x∈f.xs,1<=x.ino/\x.ino<f.next
 kind:∀ x∈f.xs,x.kind=1∨x.kind=2∨x.kind=3
 es:∀ x∈f.xs,Jy x.es
 file:∀ x∈f.xs,x.kind≠2->x.es = []
 led:∀ x∈f.xs,∀ e∈x.es,zn e.ino f.xs=true
 links:∀ x∈f.xs,x.links=(JU x.ino f.xs:Int)
 root:zn 1 f.xs=true
 base:(zh 1 f.xs).kind=2
 bare:JU 1 f.xs=0
theorem zk {n:Int} {xs:List zp} (h:zn n xs=true):Xb n xs=some (zh n xs)/\zh n xs∈xs/\(zh n xs).ino=n:=by
 rw[Za]at h
 obtain ⟨x,hx⟩:=Option.isSome_iff_exists.1 h
 have e:zh n xs=x:=by unfold zh;rw[hx];rfl
 obtain ⟨h1,h2⟩:=Gy hx
 rw[e]
 exact ⟨hx,h2,h1⟩
theorem xf {n:Int} {xs:List zp} (h:zn n xs=false):Xb n xs=none/\zh n xs=zmy:=by
 have h1:=Gl h
 exact ⟨h1,by unfold zh;rw[h1];rfl⟩
theorem qN (n:Int) (x:zp) (xs:List zp):zh n (qm x xs)=if x.ino=n then x else zh n xs:=by
 unfold zh
 rw[zac]
 split<;>rfl
theorem U4 (n m:Int) (xs:List zp):zh n (qj m xs)=if n=m then zmy else zh n xs:=by
 unfold zh
 rw[ZG]
 split<;>rfl
theorem qx {x z:zp} {xs:List zp}:z∈qm x xs↔z=x∨(z∈xs/\z.ino≠x.ino):=by
 unfold qm
 rw[xR]
 unfold qj
 simp
theorem XN {n:Int} {z:zp} {xs:List zp}:z∈qj n xs↔z∈xs/\z.ino≠n:=by
 unfold qj
 simp
theorem YD {x:zp} {xs:List zp} (h:x∈xs):zn x.ino xs=true:=by
 unfold zn
 exact List.any_eq_true.2 ⟨x,h,by simp⟩
theorem v8 {α κ:Type} [DecidableEq κ] {o:zjS κ} {key:α->κ} (p:α->Bool) (x:α):∀ xs:List α,((Xr o key x xs).filter p).length=(xs.filter p).length+if p x then 1 else 0
 | []=>by unfold Xr;cases h:p x<;>simp[h]
 | y :: r=>by
  have ih:=v8 (o:=o) (key:=key) p x r
  unfold Xr
  split
  ·cases h:p x<;>simp[h,List.filter_cons]
  ·rw[List.filter_cons,List.filter_cons]
   cases h:p y
   ·simpa using ih
   ·simp[ih];omega
theorem ze6 {α κ:Type} [DecidableEq κ] {o:zjS κ} {key:α->κ} (p:α->Bool) {n:κ} {xs:List α} (hR:qI o key xs) {e:α} (h:j7 key n xs=some e):(xs.filter p).length=((JS key n xs).filter p).length+if p e then 1 else 0:=by
 obtain ⟨_,_,h3,h4⟩:=VX n hR
 cases hh:J3 key n xs with
 | false=>rw[(h4 hh).1]at h;cases h
 | true =>
  obtain ⟨g,_,g2,g3,_⟩:=h3 hh
  rw[g2]at h
  simp only[Option.some.injEq]at h
  have e0:xs=xs.take (qq o key n xs)++e :: xs.drop (qq o key n xs+1):=by
   rw[←h,←List.drop_eq_getElem_cons g,List.take_append_drop]
  rw[g3]
  conv=>lhs;rw[e0]
  rw[List.filter_append,List.filter_append,List.filter_cons]
  cases hp:p e<;>simp<;>omega
theorem qJ {α κ:Type} [DecidableEq κ] {key:α->κ} {n:κ} {xs:List α} {e:α} (h:j7 key n xs=some e):key e=n/\e∈xs:=by
 unfold j7 at h
 exact ⟨by have:=List.find?_some h;simpa using this,List.mem_of_find?_eq_some h⟩
theorem jz {α κ:Type} [DecidableEq κ] {key:α->κ} {n:κ} {xs:List α}:J3 key n xs=(j7 key n xs).isSome:=by
 unfold J3 j7
 induction xs with
 | nil=>rfl
 | cons y r ih =>
  rw[List.any_cons,List.find?_cons]
  cases h:decide (key y=n) with
  | true=>rfl
  | false=>rw[Bool.false_or,ih]
theorem km {n m:Int} {x:zp} {xs:List zp} (hR:z7 xs) (hh:zn n xs=true) (hx:x.ino=n):JU m (qm x xs)+JV m (zh n xs)=JU m xs+JV m x:=by
 have h:=VZ (JV m) (x:=x) hR
 rw[hx,(zk hh).1]at h
 exact h
theorem zfV {m:Int} {x:zp} {xs:List zp} (hR:z7 xs) (hh:zn x.ino xs=false):JU m (qm x xs)=JU m xs+JV m x:=by
 have h:=VZ (JV m) (x:=x) hR
 rw[(xf hh).1]at h
 exact h
theorem zib {n m:Int} {xs:List zp} (hR:z7 xs) (hh:zn n xs=true):JU m xs=JU m (qj n xs)+JV m (zh n xs):=by
 have h:=Zg (JV m) (n:=n) hR
 rw[(zk hh).1]at h
 exact h
theorem zhz {n:Int} {xs:List zp} (h:∀ x∈xs,∀ e∈x.es,e.ino≠n):JU n xs=0:=by
 unfold JU Nv
 rw[List.sum_eq_zero_iff_forall_eq_nat]
 intro k hk
 obtain ⟨x,hx,rfl⟩:=List.mem_map.1 hk
 unfold JV
 rw[List.length_eq_zero_iff,List.filter_eq_nil_iff]
 intro e he
 simpa using h x hx e he
theorem Ze {n:Int} {xs:List zp} (h:JU n xs=0):∀ x∈xs,∀ e∈x.es,e.ino≠n:=fun x hx e he hn=>by
 unfold JU Nv at h
 rw[List.sum_eq_zero_iff_forall_eq_nat]at h
 have:=h _ (List.mem_map_of_mem hx)
 unfold JV at this
 rw[List.length_eq_zero_iff,List.filter_eq_nil_iff]at this
 exact this e he (by simpa using hn)
theorem Zm {m i:Int} {n:List UInt8} {es:List zZ} {x:zp} (hR:Jy es) (h:VJ n es=false):JV m { x with es:=zN n i es }=JV m { x with es:=es }+if i=m then 1 else 0:=by
 obtain ⟨_,_,_,h4⟩:=VX n hR
 unfold zN JV
 rw[(h4 h).2.1]
 show ((Xr jC zZ.name ⟨n,i⟩ es).filter _).length=_
 rw[v8]
 by_cases hi:i=m<;>simp[hi]
theorem Qb {m i:Int} {n:List UInt8} {es:List zZ} {x:zp} (hR:Jy es) (h:j7 zZ.name n es=some ⟨n,i⟩):JV m { x with es:=es }=JV m { x with es:=zj n es }+if i=m then 1 else 0:=by
 unfold zj JV
 have:=ze6 (fun e:zZ=>decide (e.ino=m)) hR h
 simp only at this ⊢
 rw[this]
 by_cases hi:i=m<;>simp[hi]
theorem Qi {n:List UInt8} {es:List zZ} (h:VJ n es=true):j7 zZ.name n es=some ⟨n,jG n es⟩:=by
 unfold VJ at h
 rw[jz]at h
 obtain ⟨e,he⟩:=Option.isSome_iff_exists.1 h
 have h1:=(qJ he).1
 unfold jG
 rw[he]
 cases e with
 | mk a b=>simp at h1 ⊢;exact h1
theorem Vt {n:List UInt8} {i:Int} {es:List zZ} (h:Jy es):Jy (zN n i es):=Uk (x:=(⟨n,i⟩:zZ)) h
theorem J2 {n:List UInt8} {es:List zZ} (h:Jy es):Jy (zj n es):=UA n h
theorem J0 {n:List UInt8} {i:Int} {es:List zZ} {e:zZ} (h:e∈zN n i es):e=⟨n,i⟩∨e∈es:=by
 unfold zN at h
 rcases Qm.1 h with h | h
 ·exact .inl h
 ·exact .inr (ZA.1 h).1
theorem ja {n:List UInt8} {es:List zZ} {e:zZ} (h:e∈zj n es):e∈es/\e.name≠n:=ZA.1 h
end
section
structure Jw (f:FsV) (s:qy):Prop where
 has:zn s.dir f.xs=true
 kind:(zh s.dir f.xs).kind=2
 free:VJ s.name (zh s.dir f.xs).es=false
structure zR (f:FsV) (s:qy):Prop where
 has:zn s.dir f.xs=true
 kind:(zh s.dir f.xs).kind=2
 there:j7 zZ.name s.name (zh s.dir f.xs).es=some ⟨s.name,s.ino⟩
theorem zR.ino {f:FsV} {s:qy} (hf:FsI f) (h:zR f s):zn s.ino f.xs=true:=by
 have:=hf.led _ (zk h.has).2.1 ⟨s.name,s.ino⟩ (qJ h.there).2
 exact this
abbrev qi (d:zp) (es:List zZ):zp:={ d with es:=es }
theorem qA {xs:List zp} {n:Int} {F:List zZ->List zZ} (hh:zn n xs=true) {z:zp}:z∈qk n F xs↔z=qi (zh n xs) (F (zh n xs).es)∨(z∈xs/\z.ino≠n):=by
 unfold qk
 rw[qx]
 show z=qi _ _∨(z∈xs/\z.ino≠(zh n xs).ino)↔_
 rw[(zk hh).2.2]
theorem zU {xs:List zp} {n m:Int} {F:List zZ->List zZ} (hh:zn n xs=true):zn m (qk n F xs)=zn m xs:=by
 unfold qk
 rw[qV]
 show (decide ((zh n xs).ino=m)||zn m xs)=_
 rw[(zk hh).2.2]
 by_cases h:n=m
 ·subst h;rw[hh];simp
 ·simp[h]
theorem Jm {xs:List zp} {n m:Int} {F:List zZ->List zZ} (hh:zn n xs=true):zh m (qk n F xs)=if n=m then qi (zh n xs) (F (zh n xs).es) else zh m xs:=by
 unfold qk
 rw[qN]
 show (if (zh n xs).ino=m then _ else _)=_
 rw[(zk hh).2.2]
theorem QK {xs:List zp} {n m:Int} {F:List zZ->List zZ} (hR:z7 xs) (hh:zn n xs=true):JU m (qk n F xs)+JV m (zh n xs)=JU m xs+JV m (qi (zh n xs) (F (zh n xs).es)):=
 km hR hh (zk hh).2.2
theorem GC {f:FsV} (hf:FsI f):zn f.next f.xs=false/\∀ x∈f.xs,∀ e∈x.es,e.ino≠f.next:=by
 have h1:zn f.next f.xs=false:=by
  rw[Bool.eq_false_iff]
  intro h
  have:=(hf.ino _ (zk h).2.1).2
  rw[(zk h).2.2]at this
  omega
 refine ⟨h1,fun x hx e he hn=>?_⟩
 have:=hf.led x hx e he
 rw[hn,h1]at this
 cases this
theorem xQ {f:FsV} (hf:FsI f):1<f.next:=by
 have:=(hf.ino _ (zk hf.root).2.1).2
 rw[(zk hf.root).2.2]at this
 exact this
theorem zlD {f:FsV} (hf:FsI f) {s:qy} (hs:Jw f s) (k:Int) (hk:k=1∨k=2∨k=3) (t:List UInt8):FsI (ko f s k t):=by
 obtain ⟨n1,n2⟩:=GC hf
 have hd:=(zk hs.has).2.1
 have hR1:z7 (qk s.dir (zN s.name f.next) f.xs):=z6 hf.rises
 have hn1:zn f.next (qk s.dir (zN s.name f.next) f.xs)=false:=by rw[zU hs.has];exact n1
 have hlt:=xQ hf
 have hdn:s.dir≠f.next:=fun e=>by have:=hs.has;rw[e,n1]at this;cases this
 refine ⟨z6 hR1,fun x hx=>?_,fun x hx=>?_,fun x hx=>?_,fun x hx hk2=>?_,fun x hx e he=>?_,fun x hx=>?_,?_,?_,?_⟩
 ·rcases qx.1 hx with rfl | ⟨hx,_⟩
  ·exact ⟨by show 1<=f.next;omega,by show f.next<f.next+1;omega⟩
  ·rcases (qA hs.has).1 hx with rfl | ⟨hx,_⟩
   ·have:=hf.ino _ hd
    exact ⟨this.1,by show (zh s.dir f.xs).ino<f.next+1;omega⟩
   ·have:=hf.ino _ hx
    exact ⟨this.1,by show x.ino<f.next+1;omega⟩
 ·rcases qx.1 hx with rfl | ⟨hx,_⟩
  ·exact hk
  ·rcases (qA hs.has).1 hx with rfl | ⟨hx,_⟩
   ·exact .inr (.inl hs.kind)
   ·exact hf.kind _ hx
 ·rcases qx.1 hx with rfl | ⟨hx,_⟩
  ·exact List.Pairwise.nil
  ·rcases (qA hs.has).1 hx with rfl | ⟨hx,_⟩
   ·exact Vt (hf.es _ hd)
   ·exact hf.es _ hx
 ·rcases qx.1 hx with rfl | ⟨hx,_⟩
  ·rfl
  ·rcases (qA hs.has).1 hx with rfl | ⟨hx,_⟩
   ·exact absurd hs.kind hk2
   ·exact hf.file _ hx hk2
 ·show zn e.ino (qm _ _)=true
  rw[qV,zU hs.has]
  show (decide (f.next=e.ino)||zn e.ino f.xs)=true
  rcases qx.1 hx with rfl | ⟨hx,_⟩
  ·cases he
  ·rcases (qA hs.has).1 hx with rfl | ⟨hx,_⟩
   ·rcases J0 he with rfl | he
    ·simp
    ·rw[hf.led _ hd e he,Bool.or_true]
   ·rw[hf.led _ hx e he,Bool.or_true]
 ·show x.links=(JU x.ino (qm _ _):Int)
  rw[zfV hR1 hn1]
  have hc:=QK (m:=x.ino) (F:=zN s.name f.next) hf.rises hs.has
  have hw:=Zm (m:=x.ino) (i:=f.next) (x:=zh s.dir f.xs) (hf.es _ hd) hs.free
  have hz:JV x.ino (⟨f.next,k,1,t,if k=2 then s.dir else 0,[]⟩:zp)=0:=rfl
  have hw:JV x.ino (qi (zh s.dir f.xs) (zN s.name f.next (zh s.dir f.xs).es))=JV x.ino (zh s.dir f.xs)+if f.next=x.ino then 1 else 0:=hw
  rw[hz]
  rcases qx.1 hx with rfl | ⟨hx,hxn⟩
  ·have h0:JU f.next f.xs=0:=zhz n2
   have hw:JV f.next (qi (zh s.dir f.xs) (zN s.name f.next (zh s.dir f.xs).es))=JV f.next (zh s.dir f.xs)+if f.next=f.next then 1 else 0:=hw
   rw[if_pos rfl]at hw
   show (1:Int)=((JU f.next (qk s.dir (zN s.name f.next) f.xs)+0:Nat):Int)
   have hc:JU f.next (qk s.dir (zN s.name f.next) f.xs)+JV f.next (zh s.dir f.xs)=JU f.next f.xs+JV f.next (qi (zh s.dir f.xs) (zN s.name f.next (zh s.dir f.xs).es)):=hc
   omega
  ·have hxn:x.ino≠f.next:=hxn
   rw[if_neg fun e=>hxn e.symm]at hw
   have hl:x.links=(JU x.ino f.xs:Int):=by
    rcases (qA hs.has).1 hx with rfl | ⟨hx,_⟩
    ·exact hf.links (zh s.dir f.xs) hd
    ·exact hf.links _ hx
   omega
 ·show zn 1 (qm _ _)=true
  rw[qV,zU hs.has,hf.root,Bool.or_true]
 ·show (zh 1 (qm _ _)).kind=2
  rw[qN]
  rw[if_neg (show ¬f.next=1 by omega),Jm hs.has]
  split
  ·exact hs.kind
  ·exact hf.base
 ·show JU 1 (qm _ _)=0
  rw[zfV hR1 hn1]
  have hc:=QK (m:=1) (F:=zN s.name f.next) hf.rises hs.has
  have hw:JV 1 (qi (zh s.dir f.xs) (zN s.name f.next (zh s.dir f.xs).es))=JV 1 (zh s.dir f.xs)+if f.next=1 then 1 else 0:=Zm (m:=1) (i:=f.next) (x:=zh s.dir f.xs) (hf.es (zh s.dir f.xs) hd) hs.free
  have hz:JV 1 (⟨f.next,k,1,t,if k=2 then s.dir else 0,[]⟩:zp)=0:=rfl
  have:=hf.bare
  rw[if_neg (show ¬f.next=1 by omega)]at hw
  omega
theorem znQ {f:FsV} (hf:FsI f) {s:qy} (hs:Jw f s) (k:Int) (hk:k=1∨k=2∨k=3) (t:List UInt8):FsI (Q3 f s k t).1:=by
 unfold Q3
 by_cases h1:may s.name=true
 ·rw[if_pos h1]
  by_cases h2:jS f 1 (if k=1 then (t.length:Int) else 0)=true
  ·rw[if_pos h2];exact zlD hf hs k hk t
  ·rw[if_neg h2];exact hf
 ·rw[if_neg h1];exact hf
theorem zmp {f:FsV} (hf:FsI f) {i:Int} (hh:zn i f.xs=true) (t:List UInt8):FsI (YS f i t):=by
 have hg:=zk hh
 have hmem:∀ {z:zp},z∈(YS f i t).xs->∃ y∈f.xs,z.ino=y.ino/\z.kind=y.kind/\z.es=y.es/\z.links=y.links:=fun {z} hz=>by
  rcases qx.1 hz with rfl | ⟨hz,_⟩
  ·exact ⟨_,hg.2.1,rfl,rfl,rfl,rfl⟩
  ·exact ⟨_,hz,rfl,rfl,rfl,rfl⟩
 have hhas:∀ m,zn m (YS f i t).xs=zn m f.xs:=fun m=>by
  show zn m (qm _ _)=_
  rw[qV]
  show (decide ((zh i f.xs).ino=m)||_)=_
  rw[hg.2.2]
  by_cases h:i=m
  ·subst h;rw[hh];simp
  ·simp[h]
 have hcnt:∀ m,JU m (YS f i t).xs=JU m f.xs:=fun m=>by
  have h:=km (m:=m) (x:={ zh i f.xs with data:=t }) hf.rises hh hg.2.2
  have e:JV m { zh i f.xs with data:=t }=JV m (zh i f.xs):=rfl
  show JU m (qm _ _)=_
  omega
 refine ⟨z6 hf.rises,fun x hx=>?_,fun x hx=>?_,fun x hx=>?_,fun x hx hk2=>?_,fun x hx e he=>?_,fun x hx=>?_,by rw[hhas];exact hf.root,?_,?_⟩
 ·obtain ⟨y,hy,e1,_⟩:=hmem hx;rw[e1];exact hf.ino y hy
 ·obtain ⟨y,hy,_,e2,_⟩:=hmem hx;rw[e2];exact hf.kind y hy
 ·obtain ⟨y,hy,_,_,e3,_⟩:=hmem hx;rw[e3];exact hf.es y hy
 ·obtain ⟨y,hy,_,e2,e3,_⟩:=hmem hx;rw[e3];exact hf.file y hy (by rw[←e2];exact hk2)
 ·obtain ⟨y,hy,_,_,e3,_⟩:=hmem hx;rw[hhas];exact hf.led y hy e (by rw[←e3];exact he)
 ·obtain ⟨y,hy,e1,_,_,e4⟩:=hmem hx;rw[hcnt,e4,e1];exact hf.links y hy
 ·show (zh 1 (qm _ _)).kind=2
  rw[qN]
  split
  ·rename_i h
   have h:(zh i f.xs).ino=1:=h
   rw[hg.2.2]at h
   subst h
   exact hf.base
  ·exact hf.base
 ·rw[hcnt];exact hf.bare
theorem zmT {f:FsV} (hf:FsI f) {s:qy} (hs:Jw f s) {i:Int} (hi:zn i f.xs=true) (hk:(zh i f.xs).kind≠2):FsI (X3 f s i):=by
 have hd:=zk hs.has
 have hx:=zk hi
 have hne:s.dir≠i:=fun e=>hk (by rw[←e];exact hs.kind)
 have hR1:z7 (qk s.dir (zN s.name i) f.xs):=z6 hf.rises
 have hi1:zn i (qk s.dir (zN s.name i) f.xs)=true:=by rw[zU hs.has];exact hi
 have hg1:zh i (qk s.dir (zN s.name i) f.xs)=zh i f.xs:=by rw[Jm hs.has,if_neg hne]
 have hmem:∀ {z:zp},z∈(X3 f s i).xs->z = { zh i f.xs with links:=(zh i f.xs).links+1 }∨z=qi (zh s.dir f.xs) (zN s.name i (zh s.dir f.xs).es)∨(z∈f.xs/\z.ino≠s.dir/\z.ino≠i):=fun {z} hz=>by
  rcases qx.1 hz with rfl | ⟨hz,hzi⟩
  ·exact .inl rfl
  ·have hzi:z.ino≠(zh i f.xs).ino:=hzi
   rw[hx.2.2]at hzi
   rcases (qA hs.has).1 hz with rfl | ⟨hz,hzd⟩
   ·exact .inr (.inl rfl)
   ·exact .inr (.inr ⟨hz,hzd,hzi⟩)
 have hhas:∀ m,zn m (X3 f s i).xs=zn m f.xs:=fun m=>by
  show zn m (qm _ _)=_
  rw[qV,zU hs.has]
  show (decide ((zh i f.xs).ino=m)||_)=_
  rw[hx.2.2]
  by_cases h:i=m
  ·subst h;rw[hi];simp
  ·simp[h]
 have hcnt:∀ m,JU m (X3 f s i).xs=JU m f.xs+if i=m then 1 else 0:=fun m=>by
  have h:=km (m:=m) (x:={ zh i f.xs with links:=(zh i f.xs).links+1 }) hR1 hi1 hx.2.2
  rw[hg1]at h
  have e:JV m { zh i f.xs with links:=(zh i f.xs).links+1 }=JV m (zh i f.xs):=rfl
  have hc:=QK (m:=m) (F:=zN s.name i) hf.rises hs.has
  have hw:JV m (qi (zh s.dir f.xs) (zN s.name i (zh s.dir f.xs).es))=JV m (zh s.dir f.xs)+if i=m then 1 else 0:=Zm (m:=m) (i:=i) (x:=zh s.dir f.xs) (hf.es (zh s.dir f.xs) hd.2.1) hs.free
  show JU m (qm _ _)=_
  omega
 refine ⟨z6 hR1,fun x hx'=>?_,fun x hx'=>?_,fun x hx'=>?_,fun x hx' hk2=>?_,fun x hx' e he=>?_,fun x hx'=>?_,by rw[hhas];exact hf.root,?_,?_⟩
 ·rcases hmem hx' with rfl | rfl | ⟨h,_⟩
  ·exact hf.ino (zh i f.xs) hx.2.1
  ·exact hf.ino (zh s.dir f.xs) hd.2.1
  ·exact hf.ino _ h
 ·rcases hmem hx' with rfl | rfl | ⟨h,_⟩
  ·exact hf.kind (zh i f.xs) hx.2.1
  ·exact hf.kind (zh s.dir f.xs) hd.2.1
  ·exact hf.kind _ h
 ·rcases hmem hx' with rfl | rfl | ⟨h,_⟩
  ·exact hf.es (zh i f.xs) hx.2.1
  ·exact Vt (hf.es (zh s.dir f.xs) hd.2.1)
  ·exact hf.es _ h
 ·rcases hmem hx' with rfl | rfl | ⟨h,_⟩
  ·exact hf.file (zh i f.xs) hx.2.1 hk2
  ·exact absurd hs.kind hk2
  ·exact hf.file _ h hk2
 ·rw[hhas]
  rcases hmem hx' with rfl | rfl | ⟨h,_⟩
  ·exact hf.led (zh i f.xs) hx.2.1 e he
  ·rcases J0 he with rfl | he
   ·exact hi
   ·exact hf.led (zh s.dir f.xs) hd.2.1 e he
  ·exact hf.led _ h e he
 ·rw[hcnt]
  rcases hmem hx' with rfl | rfl | ⟨h,_,hzi⟩
  ·have:=hf.links (zh i f.xs) hx.2.1
   show (zh i f.xs).links+1=((JU (zh i f.xs).ino f.xs+if i=(zh i f.xs).ino then 1 else 0:Nat):Int)
   rw[if_pos hx.2.2.symm,this];rfl
  ·have:=hf.links (zh s.dir f.xs) hd.2.1
   show (zh s.dir f.xs).links=((JU (zh s.dir f.xs).ino f.xs+if i=(zh s.dir f.xs).ino then 1 else 0:Nat):Int)
   rw[if_neg (by rw[hd.2.2];exact fun e=>hne e.symm),this];rfl
  ·rw[if_neg fun e=>hzi e.symm]
   exact hf.links _ h
 ·show (zh 1 (qm _ _)).kind=2
  rw[qN]
  split
  ·rename_i h
   have h:(zh i f.xs).ino=1:=h
   rw[hx.2.2]at h
   subst h
   exact hf.base
  ·rw[Jm hs.has]
   split
   ·exact hs.kind
   ·exact hf.base
 ·rw[hcnt,hf.bare,if_neg fun e=>hk (by rw[e];exact hf.base)]
theorem Qg {f:FsV} (hf:FsI f) {s:qy} (hs:zR f s):s.ino≠1:=fun e =>
 Ze hf.bare _ (zk hs.has).2.1 _ (qJ hs.there).2 e
theorem U2 {f:FsV} (hf:FsI f) {s:qy} (hs:zR f s) (he:(zh s.ino f.xs).es = []):FsI (zD f s):=by
 have hi:=zR.ino hf hs
 have hd:=zk hs.has
 have hx:=zk hi
 have hr:=Qg hf hs
 have hne:s.dir≠s.ino:=fun e=>by
  have:=(qJ hs.there).2
  rw[e,he]at this
  cases this
 have hR1:z7 (qk s.dir (zj s.name) f.xs):=z6 hf.rises
 have hi1:zn s.ino (qk s.dir (zj s.name) f.xs)=true:=by rw[zU hs.has];exact hi
 have hg1:zh s.ino (qk s.dir (zj s.name) f.xs)=zh s.ino f.xs:=by rw[Jm hs.has,if_neg hne]
 have hc1:∀ m,JU m (qk s.dir (zj s.name) f.xs)+(if s.ino=m then 1 else 0)=JU m f.xs:=fun m=>by
  have hc:=QK (m:=m) (F:=zj s.name) hf.rises hs.has
  have hw:JV m (zh s.dir f.xs)=JV m (qi (zh s.dir f.xs) (zj s.name (zh s.dir f.xs).es))+if s.ino=m then 1 else 0:=Qb (m:=m) (i:=s.ino) (x:=zh s.dir f.xs) (hf.es (zh s.dir f.xs) hd.2.1) hs.there
  omega
 have hlk:=hf.links (zh s.ino f.xs) hx.2.1
 rw[hx.2.2]at hlk
 have hci:=hc1 s.ino
 rw[if_pos rfl]at hci
 have hz:∀ m,JV m (zh s.ino f.xs)=0:=fun m=>by unfold JV;rw[he];rfl
 unfold zD
 by_cases hl:(zh s.ino f.xs).links-1=0
 ·rw[if_pos hl]
  have hc0:JU s.ino (qk s.dir (zj s.name) f.xs)=0:=by omega
  have hcnt:∀ m,JU m (qj s.ino (qk s.dir (zj s.name) f.xs))=JU m (qk s.dir (zj s.name) f.xs):=fun m=>by
   have:=zib (m:=m) hR1 hi1
   rw[hg1,hz]at this
   omega
  have hmem:∀ {z:zp},z∈qj s.ino (qk s.dir (zj s.name) f.xs)->(z=qi (zh s.dir f.xs) (zj s.name (zh s.dir f.xs).es)∨(z∈f.xs/\z.ino≠s.dir))/\z.ino≠s.ino:=fun {z} hz=>by
   obtain ⟨hz,hzi⟩:=XN.1 hz
   exact ⟨(qA hs.has).1 hz,hzi⟩
  have hin:∀ {z:zp},z∈qj s.ino (qk s.dir (zj s.name) f.xs)->z∈qk s.dir (zj s.name) f.xs:=fun {z} hz=>(XN.1 hz).1
  refine ⟨Ha hR1,fun x hx'=>?_,fun x hx'=>?_,fun x hx'=>?_,fun x hx' hk2=>?_,fun x hx' e hee=>?_,fun x hx'=>?_,?_,?_,?_⟩
  ·rcases hmem hx' with ⟨rfl | ⟨h,_⟩,_⟩
   ·exact hf.ino (zh s.dir f.xs) hd.2.1
   ·exact hf.ino _ h
  ·rcases hmem hx' with ⟨rfl | ⟨h,_⟩,_⟩
   ·exact hf.kind (zh s.dir f.xs) hd.2.1
   ·exact hf.kind _ h
  ·rcases hmem hx' with ⟨rfl | ⟨h,_⟩,_⟩
   ·exact J2 (hf.es (zh s.dir f.xs) hd.2.1)
   ·exact hf.es _ h
  ·rcases hmem hx' with ⟨rfl | ⟨h,_⟩,_⟩
   ·exact absurd hs.kind hk2
   ·exact hf.file _ h hk2
  ·show zn e.ino (qj _ _)=true
   rw[XX,zU hs.has]
   have h1:e.ino≠s.ino:=Ze hc0 x (hin hx') e hee
   rw[decide_eq_false h1]
   show zn e.ino f.xs=true
   rcases hmem hx' with ⟨rfl | ⟨h,_⟩,_⟩
   ·exact hf.led (zh s.dir f.xs) hd.2.1 e (ja hee).1
   ·exact hf.led _ h e hee
  ·show x.links=((JU x.ino (qj _ _):Nat):Int)
   rw[hcnt]
   obtain ⟨h1,h2⟩:=hmem hx'
   have h3:=hc1 x.ino
   rw[if_neg fun e=>h2 e.symm]at h3
   have h4:x.links=(JU x.ino f.xs:Int):=by
    rcases h1 with rfl | ⟨h,_⟩
    ·exact hf.links (zh s.dir f.xs) hd.2.1
    ·exact hf.links _ h
   omega
  ·show zn 1 (qj _ _)=true
   rw[XX,zU hs.has,hf.root,decide_eq_false fun e=>hr e.symm];rfl
  ·show (zh 1 (qj _ _)).kind=2
   rw[U4,if_neg fun e=>hr e.symm,Jm hs.has]
   split
   ·exact hs.kind
   ·exact hf.base
  ·show JU 1 (qj _ _)=0
   rw[hcnt]
   have:=hc1 1
   have:=hf.bare
   omega
 ·rw[if_neg hl]
  have hmem:∀ {z:zp},z∈qm { zh s.ino f.xs with links:=(zh s.ino f.xs).links-1 } (qk s.dir (zj s.name) f.xs)->z = { zh s.ino f.xs with links:=(zh s.ino f.xs).links-1 }∨z=qi (zh s.dir f.xs) (zj s.name (zh s.dir f.xs).es)∨(z∈f.xs/\z.ino≠s.dir/\z.ino≠s.ino):=fun {z} hz=>by
   rcases qx.1 hz with rfl | ⟨hz,hzi⟩
   ·exact .inl rfl
   ·have hzi:z.ino≠(zh s.ino f.xs).ino:=hzi
    rw[hx.2.2]at hzi
    rcases (qA hs.has).1 hz with rfl | ⟨hz,hzd⟩
    ·exact .inr (.inl rfl)
    ·exact .inr (.inr ⟨hz,hzd,hzi⟩)
  have hhas:∀ m,zn m (qm { zh s.ino f.xs with links:=(zh s.ino f.xs).links-1 } (qk s.dir (zj s.name) f.xs))=zn m f.xs:=fun m=>by
   rw[qV,zU hs.has]
   show (decide ((zh s.ino f.xs).ino=m)||_)=_
   rw[hx.2.2]
   by_cases h:s.ino=m
   ·rw[←h,hi];simp
   ·simp[h]
  have hcnt:∀ m,JU m (qm { zh s.ino f.xs with links:=(zh s.ino f.xs).links-1 } (qk s.dir (zj s.name) f.xs))=JU m (qk s.dir (zj s.name) f.xs):=fun m=>by
   have h:=km (m:=m) (x:={ zh s.ino f.xs with links:=(zh s.ino f.xs).links-1 }) hR1 hi1 hx.2.2
   rw[hg1]at h
   have e:JV m { zh s.ino f.xs with links:=(zh s.ino f.xs).links-1 }=JV m (zh s.ino f.xs):=rfl
   omega
  refine ⟨z6 hR1,fun x hx'=>?_,fun x hx'=>?_,fun x hx'=>?_,fun x hx' hk2=>?_,fun x hx' e hee=>?_,fun x hx'=>?_,by rw[hhas];exact hf.root,?_,?_⟩
  ·rcases hmem hx' with rfl | rfl | ⟨h,_⟩
   ·exact hf.ino (zh s.ino f.xs) hx.2.1
   ·exact hf.ino (zh s.dir f.xs) hd.2.1
   ·exact hf.ino _ h
  ·rcases hmem hx' with rfl | rfl | ⟨h,_⟩
   ·exact hf.kind (zh s.ino f.xs) hx.2.1
   ·exact hf.kind (zh s.dir f.xs) hd.2.1
   ·exact hf.kind _ h
  ·rcases hmem hx' with rfl | rfl | ⟨h,_⟩
   ·exact hf.es (zh s.ino f.xs) hx.2.1
   ·exact J2 (hf.es (zh s.dir f.xs) hd.2.1)
   ·exact hf.es _ h
  ·rcases hmem hx' with rfl | rfl | ⟨h,_⟩
   ·exact he
   ·exact absurd hs.kind hk2
   ·exact hf.file _ h hk2
  ·rw[hhas]
   rcases hmem hx' with rfl | rfl | ⟨h,_⟩
   ·exact hf.led (zh s.ino f.xs) hx.2.1 e hee
   ·exact hf.led (zh s.dir f.xs) hd.2.1 e (ja hee).1
   ·exact hf.led _ h e hee
  ·rw[hcnt]
   rcases hmem hx' with rfl | rfl | ⟨h,_,hzi⟩
   ·show (zh s.ino f.xs).links-1=((JU (zh s.ino f.xs).ino (qk s.dir (zj s.name) f.xs):Nat):Int)
    rw[hx.2.2];omega
   ·have h3:=hc1 (zh s.dir f.xs).ino
    have h4:=hf.links (zh s.dir f.xs) hd.2.1
    rw[if_neg (by rw[hd.2.2];exact fun e=>hne e.symm)]at h3
    show (zh s.dir f.xs).links=((JU (zh s.dir f.xs).ino (qk s.dir (zj s.name) f.xs):Nat):Int)
    omega
   ·have h3:=hc1 x.ino
    rw[if_neg fun e=>hzi e.symm]at h3
    have h4:=hf.links _ h
    omega
  ·show (zh 1 (qm _ _)).kind=2
   rw[qN,if_neg (show ¬(zh s.ino f.xs).ino=1 by rw[hx.2.2];exact hr),Jm hs.has]
   split
   ·exact hs.kind
   ·exact hf.base
  ·rw[hcnt]
   have:=hc1 1
   have:=hf.bare
   omega
end
section
theorem uS {f:FsV} (hf:FsI f) {ys:List zp} (hR:z7 ys) (hall:∀ z∈ys,∃ y∈f.xs,z.ino=y.ino/\z.kind=y.kind/\z.links=y.links/\Jy z.es/\(z.kind≠2->z.es = [])/\∀ e∈z.es,zn e.ino f.xs=true)
  (hhas:∀ m,zn m ys=zn m f.xs) (hcnt:∀ m,JU m ys=JU m f.xs):FsI { f with xs:=ys }:=by
 refine ⟨hR,fun x hx=>?_,fun x hx=>?_,fun x hx=>?_,fun x hx hk=>?_,fun x hx e he=>?_,fun x hx=>?_,by rw[hhas];exact hf.root,?_,by rw[hcnt];exact hf.bare⟩
 ·obtain ⟨y,hy,e1,_⟩:=hall x hx;rw[e1];exact hf.ino y hy
 ·obtain ⟨y,hy,_,e2,_⟩:=hall x hx;rw[e2];exact hf.kind y hy
 ·obtain ⟨y,hy,_,_,_,e4,_⟩:=hall x hx;exact e4
 ·obtain ⟨y,hy,_,_,_,_,e5,_⟩:=hall x hx;exact e5 hk
 ·obtain ⟨y,hy,_,_,_,_,_,e6⟩:=hall x hx;rw[hhas];exact e6 e he
 ·obtain ⟨y,hy,e1,_,e3,_⟩:=hall x hx;rw[hcnt,e3,e1];exact hf.links y hy
 ·have h1:zn 1 ys=true:=by rw[hhas];exact hf.root
  obtain ⟨y,hy,e1,e2,_⟩:=hall _ (zk h1).2.1
  rw[(zk h1).2.2]at e1
  have e7:=(zmY hf.rises).1 hy
  rw[←e1,(zk hf.root).1]at e7
  simp only[Option.some.injEq]at e7
  show (zh 1 ys).kind=2
  rw[e2,←e7]
  exact hf.base
theorem zmH {f:FsV} (hf:FsI f) {a b:qy} (ha:zR f a) (hb:Jw f b):FsI (Yp f a b):=by
 have hda:=zk ha.has
 have hdb:=zk hb.has
 have hai:=zR.ino hf ha
 obtain ⟨g1,hg1⟩:∃ g1,qk a.dir (zj a.name) f.xs=g1:=⟨_,rfl⟩
 obtain ⟨g2,hg2⟩:∃ g2,qk b.dir (zN b.name a.ino) g1=g2:=⟨_,rfl⟩
 have hR1:z7 g1:=by rw[←hg1];exact z6 hf.rises
 have hR2:z7 g2:=by rw[←hg2];exact z6 hR1
 have hh1:∀ m,zn m g1=zn m f.xs:=fun m=>by rw[←hg1];exact zU ha.has
 have hb1:zn b.dir g1=true:=by rw[hh1];exact hb.has
 have hh2:∀ m,zn m g2=zn m f.xs:=fun m=>by rw[←hg2,zU hb1];exact hh1 m
 have hgb:zh b.dir g1=if a.dir=b.dir then qi (zh a.dir f.xs) (zj a.name (zh a.dir f.xs).es) else zh b.dir f.xs:=by rw[←hg1,Jm ha.has]
 have hmem1:∀ {z:zp},z∈g1->z=qi (zh a.dir f.xs) (zj a.name (zh a.dir f.xs).es)∨(z∈f.xs/\z.ino≠a.dir):=fun {z} hz=>by rw[←hg1]at hz;exact (qA ha.has).1 hz
 have hmem2:∀ {z:zp},z∈g2->z=qi (zh b.dir g1) (zN b.name a.ino (zh b.dir g1).es)∨(z∈g1/\z.ino≠b.dir):=fun {z} hz=>by rw[←hg2]at hz;exact (qA hb1).1 hz
 have hal1:∀ z∈g1,∃ y∈f.xs,z.ino=y.ino/\z.kind=y.kind/\z.links=y.links/\Jy z.es/\(z.kind≠2->z.es = [])/\∀ e∈z.es,zn e.ino f.xs=true:=fun z hz=>by
  rcases hmem1 hz with rfl | ⟨h,_⟩
  ·exact ⟨_,hda.2.1,rfl,rfl,rfl,J2 (hf.es _ hda.2.1),fun hk=>absurd ha.kind hk,fun e he=>hf.led _ hda.2.1 e (ja he).1⟩
  ·exact ⟨_,h,rfl,rfl,rfl,hf.es _ h,hf.file _ h,hf.led _ h⟩
 have hal2:∀ z∈g2,∃ y∈f.xs,z.ino=y.ino/\z.kind=y.kind/\z.links=y.links/\Jy z.es/\(z.kind≠2->z.es = [])/\∀ e∈z.es,zn e.ino f.xs=true:=fun z hz=>by
  rcases hmem2 hz with rfl | ⟨h,_⟩
  ·obtain ⟨y,hy,e1,e2,e3,e4,e5,e6⟩:=hal1 _ (zk hb1).2.1
   refine ⟨y,hy,e1,e2,e3,Vt e4,fun hk=>?_,fun e he=>?_⟩
   ·have hk':(zh b.dir g1).kind≠2:=hk
    have:(zh b.dir g1).kind=2:=by
     rw[hgb]
     split
     ·exact ha.kind
     ·exact hb.kind
    exact absurd this hk'
   ·rcases J0 he with rfl | he
    ·exact hai
    ·exact e6 e he
  ·exact hal1 z h
 have hfree:VJ b.name (zh b.dir g1).es=false:=by
  rw[hgb]
  split
  ·rename_i hab
   show VJ b.name (zj a.name (zh a.dir f.xs).es)=false
   rw[Bool.eq_false_iff]
   intro h
   have h1:=Qi h
   have h2:=(ja (qJ h1).2).1
   have h3:VJ b.name (zh a.dir f.xs).es=true:=by
    unfold VJ J3
    exact List.any_eq_true.2 ⟨_,h2,by simp⟩
   have:=hb.free
   rw[←hab,h3]at this
   cases this
  ·exact hb.free
 have hc1:∀ m,JU m g1+(if a.ino=m then 1 else 0)=JU m f.xs:=fun m=>by
  have hc:=QK (m:=m) (F:=zj a.name) hf.rises ha.has
  have hw:JV m (zh a.dir f.xs)=JV m (qi (zh a.dir f.xs) (zj a.name (zh a.dir f.xs).es))+if a.ino=m then 1 else 0:=Qb (m:=m) (i:=a.ino) (x:=zh a.dir f.xs) (hf.es _ hda.2.1) ha.there
  rw[hg1]at hc
  omega
 have hc2:∀ m,JU m g2=JU m f.xs:=fun m=>by
  have hc:=QK (m:=m) (F:=zN b.name a.ino) hR1 hb1
  obtain ⟨_,_,_,_,_,e4,_⟩:=hal1 _ (zk hb1).2.1
  have hw:JV m (qi (zh b.dir g1) (zN b.name a.ino (zh b.dir g1).es))=JV m (zh b.dir g1)+if a.ino=m then 1 else 0:=Zm (m:=m) (i:=a.ino) (x:=zh b.dir g1) e4 hfree
  have:=hc1 m
  rw[hg2]at hc
  omega
 have key:FsI { f with xs:=g2 }:=uS hf hR2 hal2 hh2 hc2
 unfold Yp
 rw[hg1,hg2]
 show FsI (if (zh a.ino g2).kind=2 then _ else _)
 split
 ·have hia:zn a.ino g2=true:=by rw[hh2];exact hai
  have hx:=zk hia
  refine uS hf (z6 hR2) (fun z hz=>?_) (fun m=>?_) (fun m=>?_)
  ·rcases qx.1 hz with rfl | ⟨hz,_⟩
   ·exact hal2 (zh a.ino g2) hx.2.1
   ·exact hal2 z hz
  ·rw[qV]
   show (decide ((zh a.ino g2).ino=m)||_)=_
   rw[hx.2.2,hh2]
   by_cases h:a.ino=m
   ·rw[←h,hai];simp
   ·simp[h]
  ·have h:=km (m:=m) (x:={ zh a.ino g2 with parent:=b.dir }) hR2 hia hx.2.2
   have e:JV m { zh a.ino g2 with parent:=b.dir }=JV m (zh a.ino g2):=rfl
   have:=hc2 m
   omega
 ·exact key
theorem zjX {f:FsV} (hf:FsI f):∀ (ns:List (List UInt8)) (s:qy),(s.ino≠0->zn s.ino f.xs=true)->(atW f.xs ns s).2=0->ns≠[] ->
  zn (atW f.xs ns s).1.dir f.xs=true/\(zh (atW f.xs ns s).1.dir f.xs).kind=2/\(atW f.xs ns s).1.ino=jG (atW f.xs ns s).1.name (zh (atW f.xs ns s).1.dir f.xs).es/\(atW f.xs ns s).1.name∈ns
 | [],s,_,_,h=>absurd rfl h
 | n :: r,s,hs,h0,_=>by
  unfold atW at h0 ⊢
  by_cases h1:s.ino=0
  ·rw[if_pos h1]at h0;cases h0
  rw[if_neg h1]at h0 ⊢
  by_cases h2:(zh s.ino f.xs).kind≠2
  ·rw[if_pos h2]at h0;cases h0
  rw[if_neg h2]at h0 ⊢
  have h2:(zh s.ino f.xs).kind=2:=Classical.not_not.1 h2
  have hg:=zk (hs h1)
  have hnx:jG n (zh s.ino f.xs).es≠0->zn (jG n (zh s.ino f.xs).es) f.xs=true:=fun hne=>by
   have hh:VJ n (zh s.ino f.xs).es=true:=by
    unfold VJ
    rw[jz]
    cases hq:j7 zZ.name n (zh s.ino f.xs).es with
    | some e=>rfl
    | none=>unfold jG at hne;rw[hq]at hne;exact absurd rfl hne
   exact hf.led _ hg.2.1 _ (qJ (Qi hh)).2
  cases r with
  | nil =>
   unfold atW
   rw[hg.2.2]
   exact ⟨hs h1,h2,rfl,List.mem_cons_self⟩
  | cons m r =>
   obtain ⟨i1,i2,i3,i4⟩:=zjX hf (m :: r) ⟨(zh s.ino f.xs).ino,n,jG n (zh s.ino f.xs).es⟩ hnx h0 (by simp)
   exact ⟨i1,i2,i3,List.mem_cons_of_mem _ i4⟩
theorem ze8 {f:FsV} (hf:FsI f):∀ (ns:List (List UInt8)) (s:qy),(s.ino≠0->zn s.ino f.xs=true)->(atW f.xs ns s).1.ino≠0->zn (atW f.xs ns s).1.ino f.xs=true
 | [],s,hs,h=>hs h
 | n :: r,s,hs,h=>by
  unfold atW at h ⊢
  by_cases h1:s.ino=0
  ·rw[if_pos h1]at h;exact absurd rfl h
  rw[if_neg h1]at h ⊢
  by_cases h2:(zh s.ino f.xs).kind≠2
  ·rw[if_pos h2]at h;exact absurd rfl h
  rw[if_neg h2]at h ⊢
  have hg:=zk (hs h1)
  refine ze8 hf r _ (fun hne=>?_) h
  have hne:jG n (zh s.ino f.xs).es≠0:=hne
  have hh:VJ n (zh s.ino f.xs).es=true:=by
   unfold VJ
   rw[jz]
   cases hq:j7 zZ.name n (zh s.ino f.xs).es with
   | some e=>rfl
   | none=>unfold jG at hne;rw[hq]at hne;exact absurd rfl hne
  exact hf.led _ hg.2.1 _ (qJ (Qi hh)).2
end
section
structure J9 (w:qg):Prop where
 fs:FsI w.fs
 kept:qI jP zP.slot w.kept
 pool:z7 w.pool
 apart:∀ x∈w.pool,zn x.ino w.fs.xs=false/\x.ino<w.fs.next
theorem zdo {f:FsV} (hf:FsI f) {n:Int} (h:zn n f.xs=true):n≠0:=fun e=>by
 have:=(hf.ino _ (zk h).2.1).1
 rw[(zk h).2.2]at this
 omega
theorem GX {f:FsV} (hf:FsI f) {d:Int} (hd:zn d f.xs=true) {n:List UInt8} (h:VJ n (zh d f.xs).es=true):zn (jG n (zh d f.xs).es) f.xs=true:=
 hf.led _ (zk hd).2.1 _ (qJ (Qi h)).2
theorem zhq {f:FsV} (hf:FsI f) {p:List UInt8} (hp:zM p=true) (h:(atV f p).2=0) :
  zn (atV f p).1.dir f.xs=true/\(zh (atV f p).1.dir f.xs).kind=2/\(atV f p).1.ino=jG (atV f p).1.name (zh (atV f p).1.dir f.xs).es/\(atV f p).1.name∈zI p:=by
 unfold zM at hp
 simp only[Bool.and_eq_true,Bool.not_eq_true',decide_eq_false_iff_not]at hp
 unfold atV at h ⊢
 rw[if_pos hp.1]at h ⊢
 exact zjX hf (zI p) ⟨0,[],1⟩ (fun _=>hf.root) h hp.2
theorem qT {f:FsV} (hf:FsI f) {p:List UInt8} (hp:zM p=true) (h:(isV f p true).2.2=0):zR f (isV f p true).1/\(isV f p true).2.1=zh (isV f p true).1.ino f.xs:=by
 unfold isV at h ⊢
 simp only at h ⊢
 by_cases h0:(atV f p).2≠0
 ·rw[if_pos h0]at h;exact absurd h h0
 rw[if_neg h0]at h
 have h0:(atV f p).2=0:=Classical.not_not.1 h0
 obtain ⟨a1,a2,a3,_⟩:=zhq hf hp h0
 refine ⟨⟨a1,a2,?_⟩,trivial⟩
 have hh:zn (atV f p).1.ino f.xs=true:=by
  cases hq:zn (atV f p).1.ino f.xs with
  | true=>rfl
  | false=>rw[hq]at h;simp at h
 have he:VJ (atV f p).1.name (zh (atV f p).1.dir f.xs).es=true:=by
  unfold VJ
  rw[jz]
  cases hq:j7 zZ.name (atV f p).1.name (zh (atV f p).1.dir f.xs).es with
  | some e=>rfl
  | none =>
   unfold jG at a3
   rw[hq]at a3
   exact absurd a3 (zdo hf hh)
 rw[Qi he,←a3]
theorem jX {f:FsV} (hf:FsI f) {p:List UInt8} (hp:zM p=true) (h:(isV f p false).2.2=0):Jw f (isV f p false).1:=by
 unfold isV at h ⊢
 simp only at h ⊢
 by_cases h0:(atV f p).2≠0
 ·rw[if_pos h0]at h;exact absurd h h0
 rw[if_neg h0]at h
 have h0:(atV f p).2=0:=Classical.not_not.1 h0
 obtain ⟨a1,a2,a3,_⟩:=zhq hf hp h0
 refine ⟨a1,a2,?_⟩
 have hh:zn (atV f p).1.ino f.xs=false:=by
  cases hq:zn (atV f p).1.ino f.xs with
  | false=>rfl
  | true=>rw[hq]at h;simp at h
 rw[Bool.eq_false_iff]
 intro he
 have:=GX hf a1 he
 rw[←a3,hh]at this
 cases this
theorem Y6 {o:OpV} (h:XH o=true):zM o.a=true/\(zeh o.kind=true->zM o.b=true)/\1<=o.kind/\o.kind<=10:=by
 unfold XH at h
 simp only[Bool.and_eq_true,decide_eq_true_eq]at h
 obtain ⟨⟨⟨⟨⟨⟨h1,h2⟩,h3⟩,h4⟩,h5⟩,h6⟩,h7⟩:=h
 exact ⟨h3,fun hb=>by rw[if_pos hb]at h5;exact h5,h1,h2⟩
theorem zl4 {w:qg} (hw:J9 w) {g:FsV} (hg:FsI g) (hn:w.fs.next<=g.next) (hh:∀ x∈w.pool,zn x.ino g.xs=false):J9 { w with fs:=g }:=
 ⟨hg,hw.kept,hw.pool,fun x hx=>⟨hh x hx,by have:=(hw.apart x hx).2;show x.ino<g.next;omega⟩⟩
theorem Z8 (f:FsV) (s:qy) (k:Int) (t:List UInt8):(Q3 f s k t).1=f∨(Q3 f s k t).1=ko f s k t:=by
 unfold Q3
 by_cases h1:may s.name=true
 ·rw[if_pos h1]
  by_cases h2:jS f 1 (if k=1 then (t.length:Int) else 0)=true
  ·rw[if_pos h2];exact .inr rfl
  ·rw[if_neg h2];exact .inl rfl
 ·rw[if_neg h1];exact .inl rfl
theorem vq {w:qg} (hw:J9 w) {p:List UInt8} (hp:zM p=true) {k:Int} (hk:k=1∨k=2∨k=3) (t:List UInt8):J9 (j0 w p k t).1:=by
 unfold j0
 by_cases h:(isV w.fs p false).2.2≠0
 ·rw[if_pos h];exact hw
 rw[if_neg h]
 have hs:=jX hw.fs hp (Classical.not_not.1 h)
 refine zl4 hw (znQ hw.fs hs k hk t) ?_ ?_
 ·rcases Z8 w.fs (isV w.fs p false).1 k t with e | e
  ·rw[e];exact Int.le_refl _
  ·rw[e];show w.fs.next<=w.fs.next+1;omega
 ·intro x hx
  obtain ⟨a1,a2⟩:=hw.apart x hx
  rcases Z8 w.fs (isV w.fs p false).1 k t with e | e
  ·rw[e];exact a1
  ·rw[e]
   show zn x.ino (qm _ _)=false
   rw[qV,zU hs.has,a1]
   show (decide (w.fs.next=x.ino)||false)=false
   rw[decide_eq_false (by omega)];rfl
theorem X4 {f:FsV} (hf:FsI f) {p:List UInt8} (hp:zM p=true) (h:(zL f p).2=0):zn (zL f p).1.ino f.xs=true/\(zL f p).1.kind=1/\(zL f p).1=zh (zL f p).1.ino f.xs:=by
 unfold zL at h ⊢
 simp only at h ⊢
 by_cases h0:(isV f p true).2.2≠0
 ·rw[if_pos h0]at h;exact absurd h h0
 rw[if_neg h0]at h
 obtain ⟨h1,h2⟩:=qT hf hp (Classical.not_not.1 h0)
 have hi:=zR.ino hf h1
 have hg:=zk hi
 rw[h2]at h ⊢
 rw[hg.2.2]
 refine ⟨hi,?_,rfl⟩
 have hk:=hf.kind _ hg.2.1
 by_cases h3:(zh (isV f p true).1.ino f.xs).kind=2
 ·rw[if_pos h3]at h;cases h
 rw[if_neg h3]at h
 by_cases h4:(zh (isV f p true).1.ino f.xs).kind=3
 ·rw[if_pos h4]at h;cases h
 omega
theorem zeg {k:zP} {ks:List zP} (h:qI jP zP.slot ks) (hn:U0 k.slot ks=false):qI jP zP.slot (qv k ks):=
 Z6 h fun y hy e=>by
  unfold U0 J3 at hn
  rw[List.any_eq_false]at hn
  exact hn y hy (by simpa using e)
theorem Z5 {f:FsV} {s:qy} (h:zn s.dir f.xs=true) (hi:zn s.ino f.xs=true) (m:Int):zn m (zD f s).xs=if (zh s.ino f.xs).links-1=0 then (!decide (m=s.ino)&&zn m f.xs) else zn m f.xs:=by
 unfold zD
 split
 ·show zn m (qj _ _)=_
  rw[XX,zU h]
 ·show zn m (qm _ _)=_
  rw[qV,zU h]
  show (decide ((zh s.ino f.xs).ino=m)||_)=_
  rw[(zk hi).2.2]
  by_cases e:s.ino=m
  ·rw[←e,hi];simp
  ·simp[e]
theorem J8 (f:FsV) (s:qy):(zD f s).next=f.next:=by unfold zD;split<;>rfl
theorem zdA {w:qg} (hw:J9 w) {n:Int} {s:qy} (hs:zR w.fs s) (he:(zh s.ino w.fs.xs).es = []):J9 (JA w n s).1:=by
 unfold JA
 cases hn:U0 n w.kept with
 | true=>rw[if_pos rfl];exact hw
 | false =>
  rw[if_neg (by simp)]
  have hi:=zR.ino hw.fs hs
  have hg:=zk hi
  have hf:=U2 hw.fs hs he
  refine ⟨hf,zeg hw.kept hn,?_,fun x hx=>?_⟩
  ·show z7 (if _ then _ else _)
   split
   ·exact z6 hw.pool
   ·exact hw.pool
  ·show zn x.ino (zD w.fs s).xs=false/\x.ino<(zD w.fs s).next
   rw[Z5 hs.has hi,J8]
   have hx:x∈(if (zh s.ino w.fs.xs).links=1 then qm { zh s.ino w.fs.xs with links:=0,parent:=0 } w.pool else w.pool):=hx
   by_cases h1:(zh s.ino w.fs.xs).links=1
   ·rw[if_pos h1]at hx
    rw[if_pos (by omega)]
    rcases qx.1 hx with rfl | ⟨hx,_⟩
    ·refine ⟨?_,?_⟩
     ·show (!decide ((zh s.ino w.fs.xs).ino=s.ino)&&_)=false
      rw[hg.2.2];simp
     ·exact (hw.fs.ino _ hg.2.1).2
    ·obtain ⟨a1,a2⟩:=hw.apart x hx
     rw[a1,Bool.and_false]
     exact ⟨rfl,a2⟩
   ·rw[if_neg h1]at hx
    rw[if_neg (by omega)]
    exact hw.apart x hx
theorem zpO {w:qg} (hw:J9 w) (o:OpV) (hk:o.kind<=7):J9 (doV w o).1:=by
 unfold doV
 cases hm:XH o with
 | false=>exact hw
 | true =>
  obtain ⟨p1,p2,k1,_⟩:=Y6 hm
  rw[if_neg (by simp)]
  by_cases h1:o.kind=1
  ·rw[if_pos h1];exact vq hw p1 (.inr (.inl rfl)) []
  rw[if_neg h1]
  by_cases h2:o.kind=2
  ·rw[if_pos h2]
   unfold jM
   split
   ·exact hw
   ·exact vq hw (p2 (by rw[h2];rfl)) (.inl rfl) _
  rw[if_neg h2]
  by_cases h3:o.kind=3
  ·rw[if_pos h3]
   have pb:=p2 (by rw[h3];rfl)
   unfold zS
   split
   ·exact hw
   ·split
    ·exact hw
    ·rename_i hfb
     have hfb:=X4 hw.fs pb (Classical.not_not.1 hfb)
     split
     ·exact hw
     ·split
      ·exact hw
      ·rename_i hkd
       split
       ·exact hw
       ·rename_i hda
        have hkd:=Classical.not_not.1 hkd
        have hda:=Classical.not_not.1 hda
        unfold zV at hkd ⊢
        cases hn:U0 o.slot w.kept with
        | true=>rw[hn]at hkd;simp at hkd
        | false =>
         rw[if_neg (by simp)]
         unfold Js at hda ⊢
         by_cases hr:jS w.fs 0 (((zL w.fs o.a).1.data.length:Int)-(zh (zL w.fs o.b).1.ino w.fs.xs).data.length)=true
         ·rw[if_pos hr]
          have hfi:=zmp hw.fs hfb.1 (zL w.fs o.a).1.data
          refine ⟨hfi,zeg hw.kept hn,hw.pool,fun x hx=>⟨?_,(hw.apart x hx).2⟩⟩
          show zn x.ino (qm _ _)=false
          rw[qV,(hw.apart x hx).1]
          show (decide ((zh (zL w.fs o.b).1.ino w.fs.xs).ino=x.ino)||false)=false
          rw[(zk hfb.1).2.2,Bool.or_false,decide_eq_false_iff_not]
          intro e
          have:=(hw.apart x hx).1
          rw[←e,hfb.1]at this
          cases this
         ·rw[if_neg hr]at hda;cases hda
  rw[if_neg h3]
  by_cases h4:o.kind=4
  ·rw[if_pos h4];exact vq hw p1 (.inr (.inr rfl)) _
  rw[if_neg h4]
  by_cases h5:o.kind=5
  ·rw[if_pos h5]
   have pb:=p2 (by rw[h5];rfl)
   unfold qD
   simp only
   split
   ·exact hw
   ·rename_i ha
    obtain ⟨t1,t2⟩:=qT hw.fs p1 (Classical.not_not.1 ha)
    split
    ·exact hw
    ·rename_i hkd
     split
     ·exact hw
     ·rename_i hb
      have hfree:=jX hw.fs pb (Classical.not_not.1 hb)
      have hi:=zR.ino hw.fs t1
      rw[t2]at hkd
      have e:(isV w.fs o.a true).2.1.ino=(isV w.fs o.a true).1.ino:=by rw[t2,(zk hi).2.2]
      rw[e]
      have hfi:=zmT hw.fs hfree hi hkd
      refine zl4 hw hfi (Int.le_refl _) fun x hx=>?_
      show zn x.ino (qm _ _)=false
      rw[qV,zU hfree.has,(hw.apart x hx).1]
      show (decide ((zh (isV w.fs o.a true).1.ino w.fs.xs).ino=x.ino)||false)=false
      rw[(zk hi).2.2,Bool.or_false,decide_eq_false_iff_not]
      intro e2
      have:=(hw.apart x hx).1
      rw[←e2,hi]at this
      cases this
  rw[if_neg h5]
  by_cases h6:o.kind=6
  ·rw[if_pos h6]
   have pb:=p2 (by rw[h6];rfl)
   unfold j8
   split
   ·exact hw
   ·rename_i ha
    split
    ·exact hw
    ·rename_i hb
     obtain ⟨t1,t2⟩:=qT hw.fs p1 (Classical.not_not.1 ha)
     have hfree:=jX hw.fs pb (Classical.not_not.1 hb)
     have hmv:=zmH hw.fs t1 hfree
     refine zl4 hw hmv ?_ fun x hx=>?_
     ·unfold Yp;simp only;split<;>exact Int.le_refl _
     ·have hi:=zR.ino hw.fs t1
      have hb1:zn (isV w.fs o.b false).1.dir (qk (isV w.fs o.a true).1.dir (zj (isV w.fs o.a true).1.name) w.fs.xs)=true:=by rw[zU t1.has];exact hfree.has
      have h2:∀ m,zn m (qk (isV w.fs o.b false).1.dir (zN (isV w.fs o.b false).1.name (isV w.fs o.a true).1.ino) (qk (isV w.fs o.a true).1.dir (zj (isV w.fs o.a true).1.name) w.fs.xs))=zn m w.fs.xs:=fun m=>by rw[zU hb1,zU t1.has]
      unfold Yp
      simp only
      split
      ·show zn x.ino (qm _ _)=false
       have hi2:=h2 (isV w.fs o.a true).1.ino
       rw[hi]at hi2
       rw[qV,h2,(hw.apart x hx).1]
       show (decide ((zh (isV w.fs o.a true).1.ino _).ino=x.ino)||false)=false
       rw[(zk hi2).2.2,Bool.or_false,decide_eq_false_iff_not]
       intro e2
       have:=(hw.apart x hx).1
       rw[←e2,hi]at this
       cases this
      ·show zn x.ino (qk _ _ _)=false
       rw[h2];exact (hw.apart x hx).1
  rw[if_neg h6]
  unfold qr
  simp only
  split
  ·exact hw
  ·rename_i ha
   split
   ·exact hw
   ·rename_i hes
    obtain ⟨t1,t2⟩:=qT hw.fs p1 (Classical.not_not.1 ha)
    rw[t2]at hes
    exact zdA hw t1 (Classical.not_not.1 hes)
end
section
def kQ (N:Nat) (x:zp):Prop:=x.es.length<=N/\x.data.length<=5000/\∀ e∈x.es,e.name.length<=300
structure xx (N:Nat) (w:qg):Prop where
 len:w.fs.xs.length<=N
 node:∀ x∈w.fs.xs,kQ N x
 klen:w.kept.length<=N
 kdata:∀ k∈w.kept,k.data.length<=5000
 plen:w.pool.length<=N
 pnode:∀ x∈w.pool,kQ N x
 next:w.fs.next<=1099511627776+N
 room:w.fs.maxI<=1073741824/\w.fs.maxB<=1073741824/\-1073741824<=w.fs.maxI/\-1073741824<=w.fs.maxB
theorem kQ.up {N:Nat} {x:zp} (h:kQ N x):kQ (N+1) x:=⟨Nat.le_succ_of_le h.1,h.2⟩
theorem xx.up {N:Nat} {w:qg} (h:xx N w):xx (N+1) w:=
 ⟨Nat.le_succ_of_le h.len,fun x hx=>(h.node x hx).up,Nat.le_succ_of_le h.klen,h.kdata,Nat.le_succ_of_le h.plen,fun x hx=>(h.pnode x hx).up,by have:=h.next;omega,h.room⟩
theorem yJ {n:List UInt8} (h:may n=true):n.length<=255:=by
 unfold may at h
 simp only[Bool.and_eq_true,decide_eq_true_eq]at h
 exact h.1.1.1.2
theorem zdX (n:List UInt8) (i:Int) (es:List zZ):(zN n i es).length<=es.length+1:=by
 unfold zN
 rw[V0]
 have:=Y9 (key:=zZ.name) n es
 omega
theorem kF {N:Nat} {x:zp} (h:kQ N x) {n:List UInt8} (hn:n.length<=300) (i:Int):kQ (N+1) (qi x (zN n i x.es)):=by
 refine ⟨?_,h.2.1,fun e he=>?_⟩
 ·have:=zdX n i x.es
  have:=h.1
  show (zN n i x.es).length<=N+1
  omega
 ·rcases J0 he with rfl | he
  ·exact hn
  ·exact h.2.2 e he
theorem VM {N:Nat} {x:zp} (h:kQ N x) (n:List UInt8):kQ N (qi x (zj n x.es)):=by
 refine ⟨?_,h.2.1,fun e he=>h.2.2 e (ja he).1⟩
 have:=Y9 (key:=zZ.name) n x.es
 have:=h.1
 show (JS zZ.name n x.es).length<=N
 omega
theorem jV {N:Nat} {xs:List zp} (h:∀ x∈xs,kQ N x) {n:Int} (hh:zn n xs=true):kQ N (zh n xs):=h _ (zk hh).2.1
theorem Z0 {N:Nat} {xs:List zp} {x:zp} (h:∀ x∈xs,kQ N x) (hx:kQ N x):∀ z∈qm x xs,kQ N z:=fun z hz=>by
 rcases qx.1 hz with rfl | ⟨hz,_⟩
 ·exact hx
 ·exact h z hz
theorem JH {x:zp} {xs:List zp} (hR:z7 xs) (hh:zn x.ino xs=true):(qm x xs).length=xs.length:=by rw[←ym hR hh];simp
theorem qP {xs:List zp} {n:Int} {F:List zZ->List zZ} (hR:z7 xs) (hh:zn n xs=true):(qk n F xs).length=xs.length:=by
 unfold qk
 refine JH hR ?_
 show zn (zh n xs).ino xs=true
 rw[(zk hh).2.2];exact hh
theorem ub {f:FsV} (hf:FsI f) {p:List UInt8} (hp:zM p=true) (h:(atV f p).2=0):(atV f p).1.name.length<=300:=by
 have h1:=(zhq hf hp h).2.2.2
 unfold zM Yk at hp
 simp only[Bool.and_eq_true]at hp
 have:=yJ (List.all_eq_true.1 hp.1.2 _ h1)
 omega
theorem Xs {f:FsV} {p:List UInt8} {b:Bool} (h:(isV f p b).2.2=0):(atV f p).2=0:=by
 unfold isV at h
 simp only at h
 by_cases h0:(atV f p).2≠0
 ·rw[if_pos h0]at h;exact h
 ·exact Classical.not_not.1 h0
theorem zl2 {N:Nat} {w:qg} (hw:J9 w) (hb:xx N w) {p:List UInt8} (hp:zM p=true) {k:Int} {t:List UInt8} (ht:t.length<=5000):xx (N+1) (j0 w p k t).1:=by
 unfold j0
 by_cases h:(isV w.fs p false).2.2≠0
 ·rw[if_pos h];exact hb.up
 rw[if_neg h]
 have h:=Classical.not_not.1 h
 have hs:=jX hw.fs hp h
 unfold Q3
 by_cases h1:may (isV w.fs p false).1.name=true
 ·rw[if_pos h1]
  by_cases h2:jS w.fs 1 (if k=1 then (t.length:Int) else 0)=true
  ·rw[if_pos h2]
   have hl:=yJ h1
   refine ⟨?_,?_,by have:=hb.klen;show w.kept.length<=N+1;omega,hb.kdata,by have:=hb.plen;show w.pool.length<=N+1;omega,fun x hx=>(hb.pnode x hx).up,?_,hb.room⟩
   ·show (qm _ _).length<=N+1
    refine Nat.le_trans zge ?_
    rw[qP hw.fs.rises hs.has]
    have:=hb.len;omega
   ·refine Z0 (fun z hz=>?_) ⟨Nat.zero_le _,ht,fun e he=>by cases he⟩
    rcases (qA hs.has).1 hz with rfl | ⟨hz,_⟩
    ·exact kF (jV hb.node hs.has) (by omega) _
    ·exact (hb.node z hz).up
   ·show w.fs.next+1<=_
    have:=hb.next;omega
  ·rw[if_neg h2];exact hb.up
 ·rw[if_neg h1];exact hb.up
theorem fsB {N:Nat} {w:qg} (hb:xx N w) {g:FsV} (h1:g.xs.length<=N+1) (h2:∀ x∈g.xs,kQ (N+1) x) (h3:g.next=w.fs.next) (h4:g.maxI=w.fs.maxI/\g.maxB=w.fs.maxB):xx (N+1) { w with fs:=g }:=
 ⟨h1,h2,Nat.le_succ_of_le hb.klen,hb.kdata,Nat.le_succ_of_le hb.plen,fun x hx=>(hb.pnode x hx).up,by show g.next<=_;rw[h3];have:=hb.next;omega,by show g.maxI<=_/\g.maxB<=_/\_<=g.maxI/\_<=g.maxB;rw[h4.1,h4.2];exact hb.room⟩
theorem MB (k:zP) (ks:List zP):(qv k ks).length=ks.length+1:=V0 k ks
theorem zk2 {N:Nat} {f:FsV} (hf:FsI f) (h1:f.xs.length<=N) (h2:∀ x∈f.xs,kQ N x) {s:qy} (hs:zR f s):(zD f s).xs.length<=N/\(∀ x∈(zD f s).xs,kQ N x)/\(zD f s).next=f.next/\(zD f s).maxI=f.maxI/\(zD f s).maxB=f.maxB:=by
 have hi:=zR.ino hf hs
 have hd:∀ z∈qk s.dir (zj s.name) f.xs,kQ N z:=fun z hz=>by
  rcases (qA hs.has).1 hz with rfl | ⟨hz,_⟩
  ·exact VM (jV h2 hs.has) _
  ·exact h2 z hz
 have hl:=qP (F:=zj s.name) hf.rises hs.has
 unfold zD
 split
 ·refine ⟨?_,fun x hx=>hd x (XN.1 hx).1,rfl,rfl,rfl⟩
  show (qj _ _).length<=N
  exact Nat.le_trans Zb (by rw[hl];exact h1)
 ·refine ⟨?_,Z0 hd (jV h2 hi),rfl,rfl,rfl⟩
  show (qm _ _).length<=N
  rw[JH (show z7 (qk s.dir (zj s.name) f.xs) from z6 hf.rises) ?_,hl]
  ·exact h1
  ·show zn (zh s.ino f.xs).ino (qk _ _ _)=true
   rw[(zk hi).2.2,zU hs.has];exact hi
theorem doB {N:Nat} {w:qg} (hw:J9 w) (hb:xx N w) (o:OpV) (hd:o.d.length<=5000) (hk:o.kind<=7):xx (N+1) (doV w o).1:=by
 unfold doV
 cases hm:XH o with
 | false=>exact hb.up
 | true =>
  obtain ⟨p1,p2,k1,_⟩:=Y6 hm
  rw[if_neg (by simp)]
  by_cases h1:o.kind=1
  ·rw[if_pos h1];exact zl2 hw hb p1 (by simp)
  rw[if_neg h1]
  by_cases h2:o.kind=2
  ·rw[if_pos h2]
   unfold jM
   split
   ·exact hb.up
   ·rename_i hfa
    have hfa:=X4 hw.fs p1 (Classical.not_not.1 hfa)
    refine zl2 hw hb (p2 (by rw[h2];rfl)) ?_
    rw[hfa.2.2]
    exact (jV hb.node hfa.1).2.1
  rw[if_neg h2]
  by_cases h3:o.kind=3
  ·rw[if_pos h3]
   have pb:=p2 (by rw[h3];rfl)
   unfold zS
   split
   ·exact hb.up
   ·rename_i hfa
    have hfa:=X4 hw.fs p1 (Classical.not_not.1 hfa)
    split
    ·exact hb.up
    ·rename_i hfb
     have hfb:=X4 hw.fs pb (Classical.not_not.1 hfb)
     split
     ·exact hb.up
     ·split
      ·exact hb.up
      ·rename_i hkd
       split
       ·exact hb.up
       ·rename_i hda
        have hkd:=Classical.not_not.1 hkd
        have hda:=Classical.not_not.1 hda
        unfold zV at hkd ⊢
        cases hn:U0 o.slot w.kept with
        | true=>rw[hn]at hkd;simp at hkd
        | false =>
         rw[if_neg (by simp)]
         unfold Js at hda ⊢
         by_cases hr:jS w.fs 0 (((zL w.fs o.a).1.data.length:Int)-(zh (zL w.fs o.b).1.ino w.fs.xs).data.length)=true
         ·rw[if_pos hr]
          have hg:=zk hfb.1
          refine ⟨?_,?_,?_,fun k hk=>?_,Nat.le_succ_of_le hb.plen,fun x hx=>(hb.pnode x hx).up,by have:=hb.next;show w.fs.next<=_;omega,hb.room⟩
          ·show (qm _ _).length<=N+1
           rw[JH hw.fs.rises (by show zn (zh _ _).ino _=true;rw[hg.2.2];exact hfb.1)]
           exact Nat.le_succ_of_le hb.len
          ·refine Z0 (fun z hz=>(hb.node z hz).up) ?_
           have h7:=(jV hb.node hfb.1).up
           refine ⟨h7.1,?_,h7.2.2⟩
           show (zL w.fs o.a).1.data.length<=5000
           rw[hfa.2.2]
           exact (jV hb.node hfa.1).2.1
          ·show (qv _ _).length<=N+1
           rw[MB]
           have:=hb.klen;omega
          ·rcases Qm.1 hk with rfl | hk
           ·exact (jV hb.node hfb.1).2.1
           ·exact hb.kdata k hk
         ·rw[if_neg hr]at hda;cases hda
  rw[if_neg h3]
  by_cases h4:o.kind=4
  ·rw[if_pos h4];exact zl2 hw hb p1 hd
  rw[if_neg h4]
  by_cases h5:o.kind=5
  ·rw[if_pos h5]
   have pb:=p2 (by rw[h5];rfl)
   unfold qD
   simp only
   split
   ·exact hb.up
   ·rename_i ha
    obtain ⟨t1,t2⟩:=qT hw.fs p1 (Classical.not_not.1 ha)
    split
    ·exact hb.up
    ·split
     ·exact hb.up
     ·rename_i hb2
      have hb2:=Classical.not_not.1 hb2
      have hfree:=jX hw.fs pb hb2
      have hi:=zR.ino hw.fs t1
      have e:(isV w.fs o.a true).2.1.ino=(isV w.fs o.a true).1.ino:=by rw[t2,(zk hi).2.2]
      rw[e]
      have hln:=ub hw.fs pb (Xs hb2)
      refine fsB hb ?_ ?_ rfl ⟨rfl,rfl⟩
      ·show (qm _ _).length<=N+1
       rw[JH (show z7 (qk (isV w.fs o.b false).1.dir (zN (isV w.fs o.b false).1.name (isV w.fs o.a true).1.ino) w.fs.xs) from z6 hw.fs.rises) (by show zn (zh _ _).ino _=true;rw[(zk hi).2.2,zU hfree.has];exact hi),qP hw.fs.rises hfree.has]
       exact Nat.le_succ_of_le hb.len
      ·refine Z0 (fun z hz=>?_) (jV hb.node hi).up
       rcases (qA hfree.has).1 hz with rfl | ⟨hz,_⟩
       ·exact kF (jV hb.node hfree.has) hln _
       ·exact (hb.node z hz).up
  rw[if_neg h5]
  by_cases h6:o.kind=6
  ·rw[if_pos h6]
   have pb:=p2 (by rw[h6];rfl)
   unfold j8
   split
   ·exact hb.up
   ·rename_i ha
    split
    ·exact hb.up
    ·rename_i hb2
     have hb2:=Classical.not_not.1 hb2
     obtain ⟨t1,t2⟩:=qT hw.fs p1 (Classical.not_not.1 ha)
     have hfree:=jX hw.fs pb hb2
     have hi:=zR.ino hw.fs t1
     have hln:=ub hw.fs pb (Xs hb2)
     obtain ⟨g1,hg1⟩:∃ g1,qk (isV w.fs o.a true).1.dir (zj (isV w.fs o.a true).1.name) w.fs.xs=g1:=⟨_,rfl⟩
     obtain ⟨g2,hg2⟩:∃ g2,qk (isV w.fs o.b false).1.dir (zN (isV w.fs o.b false).1.name (isV w.fs o.a true).1.ino) g1=g2:=⟨_,rfl⟩
     have hR1:z7 g1:=by rw[←hg1];exact z6 hw.fs.rises
     have hb1:zn (isV w.fs o.b false).1.dir g1=true:=by rw[←hg1,zU t1.has];exact hfree.has
     have hn1:∀ z∈g1,kQ N z:=fun z hz=>by
      rw[←hg1]at hz
      rcases (qA t1.has).1 hz with rfl | ⟨hz,_⟩
      ·exact VM (jV hb.node t1.has) _
      ·exact hb.node z hz
     have hn2:∀ z∈g2,kQ (N+1) z:=fun z hz=>by
      rw[←hg2]at hz
      rcases (qA hb1).1 hz with rfl | ⟨hz,_⟩
      ·exact kF (jV hn1 hb1) hln _
      ·exact (hn1 z hz).up
     have hl2:g2.length=w.fs.xs.length:=by rw[←hg2,qP hR1 hb1,←hg1,qP hw.fs.rises t1.has]
     have hi2:zn (isV w.fs o.a true).1.ino g2=true:=by rw[←hg2,zU hb1,←hg1,zU t1.has];exact hi
     have hR2:z7 g2:=by rw[←hg2];exact z6 hR1
     unfold Yp
     rw[hg1,hg2]
     simp only
     split
     ·refine fsB hb ?_ (Z0 hn2 (jV hn2 hi2)) rfl ⟨rfl,rfl⟩
      show (qm _ _).length<=N+1
      rw[JH hR2 (by show zn (zh _ _).ino _=true;rw[(zk hi2).2.2];exact hi2),hl2]
      exact Nat.le_succ_of_le hb.len
     ·refine fsB hb ?_ hn2 rfl ⟨rfl,rfl⟩
      show g2.length<=N+1
      rw[hl2];exact Nat.le_succ_of_le hb.len
  rw[if_neg h6]
  unfold qr
  simp only
  split
  ·exact hb.up
  ·rename_i ha
   split
   ·exact hb.up
   ·obtain ⟨t1,t2⟩:=qT hw.fs p1 (Classical.not_not.1 ha)
    have hi:=zR.ino hw.fs t1
    unfold JA
    split
    ·exact hb.up
    ·obtain ⟨u1,u2,u3,u4,u5⟩:=zk2 hw.fs hb.len hb.node t1
     refine ⟨Nat.le_succ_of_le u1,fun x hx=>(u2 x hx).up,?_,fun k hk=>?_,?_,fun x hx=>?_,?_,?_⟩
     ·show (qv _ _).length<=N+1
      rw[MB]
      have:=hb.klen;omega
     ·rcases Qm.1 hk with rfl | hk
      ·exact Nat.zero_le _
      ·exact hb.kdata k hk
     ·show (if _ then _ else _:List zp).length<=N+1
      split
      ·exact Nat.le_trans zge (by have:=hb.plen;omega)
      ·exact Nat.le_succ_of_le hb.plen
     ·have hx:x∈(if (zh (isV w.fs o.a true).1.ino w.fs.xs).links=1 then qm { zh (isV w.fs o.a true).1.ino w.fs.xs with links:=0,parent:=0 } w.pool else w.pool):=hx
      split at hx
      ·exact Z0 (x:={ zh (isV w.fs o.a true).1.ino w.fs.xs with links:=0,parent:=0 }) (fun z hz=>(hb.pnode z hz).up) (show kQ (N+1) _ from (jV hb.node hi).up) x hx
      ·exact (hb.pnode x hx).up
     ·show (zD _ _).next<=_
      rw[u3];have:=hb.next;omega
     ·show (zD _ _).maxI<=_/\(zD _ _).maxB<=_/\_<=(zD _ _).maxI/\_<=(zD _ _).maxB
      rw[u4,u5];exact hb.room
end
section
open CA CB
open Go.RowKit
section
variable {G:zr}
theorem y7 (f:FsV):Fun Tryz.prog G 229 [.agg (fsC f)] (.sc (.int .i64 (f.xs.length:Nat))) 0:=by
 refine fon Tryz.func229 ?_;dsimp only[Tryz.f229]
 push_cast -dsimp
 exact dn (by push_cast -dsimp [ze,zd,CLe,zg,show (zt f.xs).length=f.xs.length from List.length_map ..])
theorem zbq (f:FsV) (hf:FsS f):Fun Tryz.prog G 230 [.agg (fsC f)] (.sc (.int .i64 (qd f.xs:Nat))) 0:=by
 have hll:(zt f.xs).length=f.xs.length:=List.length_map ..
 have hb:=hf.bytes
 have h4:=hf.len
 have hb0:qd []=0:=rfl
 have hmono:∀ i,qd (f.xs.take i)<=100000000:=fun i=>by
  have h1:=kD (xs:=f.xs.take i) (n:=10000) fun x hx=>(hf.node x (List.mem_of_mem_take hx)).2.1
  have h2:(f.xs.take i).length<=10000:=by rw[List.length_take];have:=hf.len;omega
  have:(f.xs.take i).length*10000<=10000*10000:=Nat.mul_le_mul_right _ h2
  omega
 refine fon Tryz.func230 ?_;dsimp only[Tryz.f230]
 push_cast -dsimp
 refine loop (fun i:Nat=>⟨[(1,.ptr 0 0),(3,.sc (.int .i64 (qd (f.xs.take i):Nat))),(7,.sc (.int .i64 (f.xs.length:Nat))),(8,.sc (.int .i64 i))],[fsC f],0,0⟩) (fun i=>i<=f.xs.length) (fun i=>f.xs.length-i) 0 (Nat.zero_le _) ?_ ?_
 ·exact wk (by push_cast -dsimp [ze,zd,CLe,zg,hb0,hll,List.take_zero])
 ·intro i h1
  by_cases h:i<f.xs.length
  ·have g1:=jb f.xs i h
   have ht:=HC h
   have hm:=hmono (i+1)
   have hm0:=hmono i
   rw[ht]at hm
   by_cases hk:f.xs[i].kind=1
   ·rw[if_pos hk]at ht hm
    push_cast -dsimp [hll,h,g1,hk]
    repeat refine an ?_
    exact ⟨i+1,h,by omega,wk (by push_cast -dsimp [ze,zd,CLe,zg,ht])⟩
   ·rw[if_neg hk]at ht hm
    push_cast -dsimp [hll,h,g1,hk]
    repeat refine an ?_
    exact ⟨i+1,h,by omega,wk (by push_cast -dsimp [ze,zd,CLe,zg,ht,Nat.add_zero])⟩
  ·rw[List.take_of_length_le (by omega)]
   push_cast -dsimp [hll,h]
   exact dn
theorem kG (f:FsV) (hf:FsS f) (n b:Int) (hn:-1000000000<=n/\n<=1000000000) (hb:-1000000000<=b/\b<=1000000000):Fun Tryz.prog G 200 [.agg (fsC f),.sc (.int .i64 n),.sc (.int .i64 b)] (.sc (.bool (jS f n b))) 0:=by
 have h1:=y7 (G:=G) f
 have h2:=zbq (G:=G) f hf
 have h3:=hf.bytes
 have h4:=hf.len
 by_cases c1:(f.xs.length:Int)+n<=f.maxI
 ·have e:jS f n b=decide ((qd f.xs:Int)+b<=f.maxB):=by unfold jS;rw[decide_eq_true c1,Bool.true_and]
  refine fon Tryz.func200 ?_;dsimp only[Tryz.f200]
  push_cast -dsimp
  refine cl (h1) ?_;push_cast -dsimp [c1]
  repeat refine an ?_
  refine cl (h2) ?_;push_cast -dsimp
  repeat refine an ?_
  exact dn (by push_cast -dsimp [ze,zd,CLe,zg,e])
 ·have e:jS f n b=false:=by unfold jS;rw[decide_eq_false c1,Bool.false_and]
  refine fon Tryz.func200 ?_;dsimp only[Tryz.f200]
  push_cast -dsimp
  refine cl (h1) ?_;push_cast -dsimp [c1]
  repeat refine an ?_
  exact dn (by push_cast -dsimp [ze,zd,CLe,zg,e])
end
end
section
open CA CB
open Go.RowKit
abbrev YJ (s:qy):List C:=[.sc (.int .i64 s.dir),.str s.name,.sc (.int .i64 s.ino)]
theorem FsS.es {f:FsV} (h:FsS f) {n:Int} (hh:zn n f.xs=true):(zh n f.xs).es.length<=10000:=(h.node _ (zk hh).2.1).1
theorem MJ {xs:List (List UInt8)} {k:Nat} (h:k<xs.length):(jq xs)[k]?=some [.str xs[k]]:=by simp[List.getElem?_map,List.getElem?_eq_getElem h]
theorem uW (f:FsV) (hf:FsI f) (hs:FsS f) (p:List UInt8) (hp:p.length<=100000):Fun Tryz.prog G0 199 [.agg (fsC f),.str p] (.tup [.agg (YJ (atV f p).1),.sc (.int .i64 (atV f p).2)]) 0:=by
 have hpl:=NE p (by omega)
 have hlen:=hs.len
 have hnl:(zI p).length<=100000:=by have:=Jc p;omega
 cases hpp:Yk p with
 | false =>
  have e:atV f p=(QL,9):=by unfold atV;rw[hpp];rfl
  unfold YB at hpl
  rw[hpp]at hpl
  refine fon Tryz.func199 ?_;dsimp only[Tryz.f199]
  push_cast -dsimp
  refine cl (hpl) ?_;push_cast -dsimp
  exact dn (by push_cast -dsimp [ze,zd,CLe,zg,e,QL])
 | true =>
  have e:atV f p=atW f.xs (zI p) ⟨0,[],1⟩:=by unfold atV;rw[hpp];rfl
  unfold YB at hpl
  rw[hpp,if_pos rfl]at hpl
  generalize zI p=ns at hpl hnl e
  have hsl:(jq ns).length=ns.length:=List.length_map ..
  refine fon Tryz.func199 ?_;dsimp only[Tryz.f199]
  push_cast -dsimp
  refine cl (hpl) ?_;push_cast -dsimp
  refine loop (fun x:Nat×qy=>⟨[(1,.str p),(2,.ptr 0 0),(4,.ptr 1 0),(8,.ptr 2 0),(24,.own 0 9 1 (jq ns)),(25,.sc (.int .i64 (ns.length:Nat))),(26,.sc (.int .i64 x.1))],[fsC f,[.sc (.int .i64 0),.str [],.sc (.int .i64 0)],YJ x.2],1,0⟩)
   (fun x=>x.1<=ns.length/\atW f.xs ns ⟨0,[],1⟩=atW f.xs (ns.drop x.1) x.2/\(x.2.ino≠0->zn x.2.ino f.xs=true)) (fun x=>ns.length-x.1) (0,⟨0,[],1⟩) ⟨Nat.zero_le _,rfl,fun _=>hf.root⟩ ?_ ?_
  ·exact wks [.inl 0] (by push_cast -dsimp [ze,zd,CLe,zg,hsl])
  rintro ⟨k,s⟩ ⟨hk,hat,hin⟩
  simp only at hk hat hin ⊢
  by_cases hlt:k<ns.length
  ·have gs:=MJ hlt
   have hdr:ns.drop k=ns[k] :: ns.drop (k+1):=List.drop_eq_getElem_cons hlt
   obtain ⟨nm,hnm⟩:∃ nm,ns[k]=nm:=⟨_,rfl⟩
   rw[hnm]at gs hdr
   have hg:=jY (G:=G0) f s.ino (by omega) hf.rises
   cases hh:zn s.ino f.xs with
   | false =>
    have h0:s.ino=0:=Classical.byContradiction fun hne=>by rw[hin hne]at hh;cases hh
    have hr:atV f p=(QL,1):=by rw[e,hat,hdr];unfold atW;rw[if_pos h0]
    rw[hh]at hg
    push_cast -dsimp [hlt,gs]
    repeat refine an ?_
    refine cl (hg) ?_;push_cast -dsimp
    exact dn (by push_cast -dsimp [ze,zd,CLe,zg,hr,QL])
   | true =>
    have hn0:s.ino≠0:=zdo hf hh
    have hgg:=zk hh
    rw[hh]at hg
    by_cases hk2:(zh s.ino f.xs).kind=2
    ·have hfd:=zc9 (G:=G0) (zh s.ino f.xs).es nm (by have:=hs.es hh;omega) (hf.es _ hgg.2.1)
     have hnx:atW f.xs ns ⟨0,[],1⟩=atW f.xs (ns.drop (k+1)) ⟨(zh s.ino f.xs).ino,nm,jG nm (zh s.ino f.xs).es⟩:=by
      rw[hat,hdr]
      conv=>lhs;unfold atW
      rw[if_neg hn0,if_neg (by simp[hk2])]
     have hin2:jG nm (zh s.ino f.xs).es≠0->zn (jG nm (zh s.ino f.xs).es) f.xs=true:=fun hne=>by
      refine GX hf hh ?_
      unfold VJ
      rw[jz]
      cases hq:j7 zZ.name nm (zh s.ino f.xs).es with
      | some e=>rfl
      | none=>unfold jG at hne;rw[hq]at hne;exact absurd rfl hne
     push_cast -dsimp [hlt,gs]
     repeat refine an ?_
     refine cl (hg) ?_;push_cast -dsimp [hk2]
     refine cl (hfd) ?_;push_cast -dsimp
     repeat refine an ?_
     exact ⟨(k+1,⟨(zh s.ino f.xs).ino,nm,jG nm (zh s.ino f.xs).es⟩),⟨hlt,hnx,hin2⟩,by simp only;omega,wks [.inl 0]⟩
    ·have hr:atV f p=(QL,3):=by rw[e,hat,hdr];unfold atW;rw[if_neg hn0,if_pos hk2]
     push_cast -dsimp [hlt,gs]
     repeat refine an ?_
     refine cl (hg) ?_;push_cast -dsimp [hk2]
     exact dn (by push_cast -dsimp [ze,zd,CLe,zg,hr,QL])
  ·have hr:atV f p=(s,0):=by rw[e,hat,List.drop_of_length_le (by omega)];unfold atW;rfl
   push_cast -dsimp [hlt]
   exact dn (by push_cast -dsimp [ze,zd,CLe,zg,hr])
end
section
open CA CB
open Go.RowKit
abbrev zk0 (f:FsV):Prop:=0<=f.next/\f.next<=4000000000000000000
theorem U9 {f:FsV} (hf:FsI f):f.xs≠[]:=fun h=>by have:=hf.root;rw[h]at this;cases this
theorem Y8 {f:FsV} (hf:FsI f) {n:Int} (hh:zn n f.xs=true):Jy (zh n f.xs).es:=hf.es _ (zk hh).2.1
theorem Fun.argsLe {P:Program} {G:zr} {f:FuncId} {args args':List C} {r:C} {n:Nat} (h:Fun P G f args r n) (ha:∀ R vs,zy R zK args' vs->zy R zK args vs):Fun P G f args' r n:=
 ⟨h.1,fun R vs hg hv=>h.2 R vs hg (ha R vs hv)⟩
theorem u6 {R:Env} {L:Loc} {k:Nat} {v:Value} (h:Rep R L (.sc (.slice none 0 0)) v):Rep R L (.sl k []) v:=by
 rw[zq]at h
 subst h
 unfold Rep
 exact ⟨none,0,rfl,Nat.le_refl _,Nat.zero_le _,.inl rfl⟩
theorem zme {G:zr} (f:FsV) (x:zp) (hx:x.es = []) (hl:f.xs.length<=90000) (hR:z7 f.xs) :
  Fun Tryz.prog G 203 [.agg (fsC f),.agg [.sc (.int .i64 x.ino),.sc (.int .i64 x.kind),.sc (.int .i64 x.links),.str x.data,.sc (.int .i64 x.parent),.sc (.slice none 0 0)]] (.agg [.sc (.int .i64 f.maxI),.sc (.int .i64 f.maxB),.sc (.int .i64 f.next),.own 0 75 6 (zt (qm x f.xs))]) 1:=by
 refine (YP f x hl hR).argsLe fun R vs h=>?_
 obtain ⟨v1,us1,rfl,h1,h⟩:=zf.1 h
 obtain ⟨v2,us2,rfl,h2,h⟩:=zf.1 h
 refine zf.2 ⟨_,_,rfl,h1,zf.2 ⟨_,_,rfl,?_,h⟩⟩
 obtain ⟨ws,rfl,hw⟩:=jZ.1 h2
 obtain ⟨w1,t1,e1,g1,hw⟩:=zf.1 hw
 obtain ⟨w2,t2,e2,g2,hw⟩:=zf.1 hw
 obtain ⟨w3,t3,e3,g3,hw⟩:=zf.1 hw
 obtain ⟨w4,t4,e4,g4,hw⟩:=zf.1 hw
 obtain ⟨w5,t5,e5,g5,hw⟩:=zf.1 hw
 obtain ⟨w6,t6,e6,g6,hw⟩:=zf.1 hw
 refine jZ.2 ⟨ws,rfl,?_⟩
 have g6':Rep R zK (.sl 2 (zJ x.es)) w6:=by rw[hx];exact u6 g6
 rw[e1,e2,e3,e4,e5,e6]
 exact zf.2 ⟨_,_,rfl,g1,zf.2 ⟨_,_,rfl,g2,zf.2 ⟨_,_,rfl,g3,zf.2 ⟨_,_,rfl,g4,zf.2 ⟨_,_,rfl,g5,zf.2 ⟨_,_,rfl,g6',hw⟩⟩⟩⟩⟩⟩
theorem zbP (f:FsV) (hf:FsI f) (hs:FsS f) (hn:zk0 f) (s:qy) (hsp:Jw f s) (hnl:s.name.length<=100000) (k:Int) (t:List UInt8) (ht:t.length<=100000) :
  Fun Tryz.prog G0 166 [.agg (fsC f),.agg (YJ s),.sc (.int .i64 k),.str t] (.tup [.agg (fsC (Q3 f s k t).1),.sc (.int .i64 (Q3 f s k t).2)]) 0:=by
 have hm:=zet s.name (by omega)
 have hlen:=hs.len
 cases hmay:may s.name with
 | false =>
  have e:Q3 f s k t=(f,9):=by unfold Q3;rw[hmay];rfl
  rw[hmay]at hm
  by_cases hk:k=1
  ·have hk':=eq_true hk
   refine fof (fun j=>if j=14 then [false,false,false,false,false,true] else []) Tryz.func166 ?_;dsimp only[Tryz.f166]
   push_cast -dsimp [hk']
   refine cl (hm) ?_;push_cast -dsimp
   exact dn (by push_cast -dsimp [ze,zd,CLe,zg,e])
  ·have hk':=eq_false hk
   refine fof (fun j=>if j=14 then [false,false,false,false,false,true] else []) Tryz.func166 ?_;dsimp only[Tryz.f166]
   push_cast -dsimp [hk']
   refine cl (hm) ?_;push_cast -dsimp
   exact dn (by push_cast -dsimp [ze,zd,CLe,zg,e])
 | true =>
  rw[hmay]at hm
  have key:∀ b:Int,(if k=1 then (t.length:Int) else 0)=b->jS f 1 b=false->Q3 f s k t=(f,8):=fun b hb hr=>by unfold Q3;rw[hmay,if_pos rfl,hb,hr];rfl
  have key2:∀ b:Int,(if k=1 then (t.length:Int) else 0)=b->jS f 1 b=true->Q3 f s k t=(ko f s k t,0):=fun b hb hr=>by unfold Q3;rw[hmay,if_pos rfl,hb,hr];rfl
  have hg:=jY (G:=G0) f s.dir (by omega) hf.rises
  rw[hsp.has]at hg
  have htk:=zhK (G:=G0) f (by omega) (U9 hf) (by have:=hn.1;omega) (by have:=hn.2;omega)
  have hes:=hs.es hsp.has
  have hw:=UK (G:=G0) (zh s.dir f.xs).es s.name f.next (by omega) (Y8 hf hsp.has)
  have hd1:=YP (G:=G0) ⟨f.maxI,f.maxB,f.next+1,f.xs⟩ (qi (zh s.dir f.xs) (zN s.name f.next (zh s.dir f.xs).es)) (by simp only;omega) hf.rises
  have hdl:(qk s.dir (zN s.name f.next) f.xs).length=f.xs.length:=qP hf.rises hsp.has
  have hd2:=fun pr:Int=>zme (G:=G0) ⟨f.maxI,f.maxB,f.next+1,qk s.dir (zN s.name f.next) f.xs⟩ ⟨f.next,k,1,t,pr,[]⟩ rfl (by simp only;omega) (z6 hf.rises)
  have hx0:k=2->ko f s k t=⟨f.maxI,f.maxB,f.next+1,qm ⟨f.next,k,1,t,s.dir,[]⟩ (qk s.dir (zN s.name f.next) f.xs)⟩:=fun h=>by unfold ko;rw[if_pos h]
  have hx1:k≠2->ko f s k t=⟨f.maxI,f.maxB,f.next+1,qm ⟨f.next,k,1,t,0,[]⟩ (qk s.dir (zN s.name f.next) f.xs)⟩:=fun h=>by unfold ko;rw[if_neg h]
  unfold qk at hd2 hx0 hx1
  by_cases hk:k=1
  ·have hk':=eq_true hk
   have hk2:(k=2)=False:=eq_false (by omega)
   have hr:=kG (G:=G0) f hs 1 t.length (by omega) (by omega)
   cases hrm:jS f 1 t.length with
   | false =>
    have e:=key _ (if_pos hk) hrm
    rw[hrm]at hr
    refine fof (fun j=>if j=14 then [false,false,false,false,false,true] else []) Tryz.func166 ?_;dsimp only[Tryz.f166]
    push_cast -dsimp [hk']
    refine cl (hm) ?_;push_cast -dsimp
    refine cl (hr) ?_;push_cast -dsimp
    exact dn (by push_cast -dsimp [ze,zd,CLe,zg,e])
   | true =>
    have e:=key2 _ (if_pos hk) hrm
    have ex:=hx1 (by omega)
    rw[hrm]at hr
    refine fof (fun j=>if j=14 then [false,false,false,false,false,true] else []) Tryz.func166 ?_;dsimp only[Tryz.f166]
    push_cast -dsimp [hk']
    refine cl (hm) ?_;push_cast -dsimp
    refine cl (hr) ?_;push_cast -dsimp
    refine cl (hg) ?_;push_cast -dsimp
    refine cl (htk) ?_;push_cast -dsimp [hk2]
    refine cl (hw) ?_;push_cast -dsimp
    refine cl (hd1) ?_;push_cast -dsimp
    refine cl (hd2 0) ?_;push_cast -dsimp
    exact dn (by push_cast -dsimp [ze,zd,CLe,zg,e,ex])
  ·have hk':=eq_false hk
   have hr:=kG (G:=G0) f hs 1 0 (by omega) (by omega)
   cases hrm:jS f 1 0 with
   | false =>
    have e:=key _ (if_neg hk) hrm
    rw[hrm]at hr
    refine fof (fun j=>if j=14 then [false,false,false,false,false,true] else []) Tryz.func166 ?_;dsimp only[Tryz.f166]
    push_cast -dsimp [hk']
    refine cl (hm) ?_;push_cast -dsimp
    refine cl (hr) ?_;push_cast -dsimp
    exact dn (by push_cast -dsimp [ze,zd,CLe,zg,e])
   | true =>
    have e:=key2 _ (if_neg hk) hrm
    rw[hrm]at hr
    by_cases hk2:k=2
    ·have ex:=hx0 hk2
     have hk2':=eq_true hk2
     refine fof (fun j=>if j=14 then [false,false,false,false,false,true] else []) Tryz.func166 ?_;dsimp only[Tryz.f166]
     push_cast -dsimp [hk']
     refine cl (hm) ?_;push_cast -dsimp
     refine cl (hr) ?_;push_cast -dsimp
     refine cl (hg) ?_;push_cast -dsimp
     refine cl (htk) ?_;push_cast -dsimp [hk2']
     refine cl (hw) ?_;push_cast -dsimp
     refine cl (hd1) ?_;push_cast -dsimp
     refine cl (hd2 s.dir) ?_;push_cast -dsimp
     exact dn (by push_cast -dsimp [ze,zd,CLe,zg,e,ex])
    ·have ex:=hx1 hk2
     have hk2':=eq_false hk2
     refine fof (fun j=>if j=14 then [false,false,false,false,false,true] else []) Tryz.func166 ?_;dsimp only[Tryz.f166]
     push_cast -dsimp [hk']
     refine cl (hm) ?_;push_cast -dsimp
     refine cl (hr) ?_;push_cast -dsimp
     refine cl (hg) ?_;push_cast -dsimp
     refine cl (htk) ?_;push_cast -dsimp [hk2']
     refine cl (hw) ?_;push_cast -dsimp
     refine cl (hd1) ?_;push_cast -dsimp
     refine cl (hd2 0) ?_;push_cast -dsimp
     exact dn (by push_cast -dsimp [ze,zd,CLe,zg,e,ex])
end
section
open CA CB
open Go.RowKit
theorem zdT {g:zp->Nat} {n:Nat}:∀ {xs:List zp},(∀ x∈xs,g x<=n)->Nv g xs<=xs.length*n
 | [],_=>by simp[Nv]
 | x :: r,h=>by
  have ih:=zdT (g:=g) (n:=n) (xs:=r) fun y hy=>h y (List.mem_cons_of_mem _ hy)
  have hx:=h x List.mem_cons_self
  unfold Nv at ih ⊢
  simp only[List.map_cons,List.sum_cons,List.length_cons]
  rw[Nat.succ_mul];omega
theorem VY {f:FsV} (hf:FsI f) (hs:FsS f) {n:Int} (hh:zn n f.xs=true):0<=(zh n f.xs).links/\(zh n f.xs).links<=100000000:=by
 have h1:=hf.links _ (zk hh).2.1
 have h2:=zdT (g:=JV (zh n f.xs).ino) (n:=10000) (xs:=f.xs) fun x hx=>Nat.le_trans (List.length_filter_le _ _) (hs.node x hx).1
 have h3:=hs.len
 have h4:f.xs.length*10000<=10000*10000:=Nat.mul_le_mul_right _ h3
 unfold JU at h1
 omega
theorem ziY (f:FsV) (hf:FsI f) (hs:FsS f) (s:qy) (hsp:Jw f s) (i:Int) (hi:zn i f.xs=true) (hne:s.dir≠i):Fun Tryz.prog G0 171 [.agg (fsC f),.agg (YJ s),.sc (.int .i64 i)] (.agg (fsC (X3 f s i))) 0:=by
 have hlen:=hs.len
 have hg:=jY (G:=G0) f s.dir (by omega) hf.rises
 rw[hsp.has]at hg
 have hes:=hs.es hsp.has
 have hw:=UK (G:=G0) (zh s.dir f.xs).es s.name i (by omega) (Y8 hf hsp.has)
 have hd1:=YP (G:=G0) f (qi (zh s.dir f.xs) (zN s.name i (zh s.dir f.xs).es)) (by omega) hf.rises
 have hdl:(qk s.dir (zN s.name i) f.xs).length=f.xs.length:=qP hf.rises hsp.has
 have hR1:z7 (qk s.dir (zN s.name i) f.xs):=z6 hf.rises
 have hg2:=jY (G:=G0) ⟨f.maxI,f.maxB,f.next,qk s.dir (zN s.name i) f.xs⟩ i (by simp only;omega) hR1
 simp only at hg2
 rw[zU hsp.has,hi,Jm hsp.has,if_neg hne]at hg2
 have hl:=VY hf hs hi
 have hd2:=YP (G:=G0) ⟨f.maxI,f.maxB,f.next,qk s.dir (zN s.name i) f.xs⟩ { zh i f.xs with links:=(zh i f.xs).links+1 } (by simp only;omega) hR1
 have e:X3 f s i=⟨f.maxI,f.maxB,f.next,qm { zh i f.xs with links:=(zh i f.xs).links+1 } (qk s.dir (zN s.name i) f.xs)⟩:=rfl
 unfold qk at hg2 hd2 e
 refine fon Tryz.func171 ?_;dsimp only[Tryz.f171]
 push_cast -dsimp
 refine cl (hg) ?_;push_cast -dsimp
 refine cl (hw) ?_;push_cast -dsimp
 refine cl (hd1) ?_;push_cast -dsimp
 refine cl (hg2) ?_;push_cast -dsimp
 repeat refine an ?_
 refine cl (hd2) ?_;push_cast -dsimp
 exact dn (by push_cast -dsimp [ze,zd,CLe,zg,e])
theorem zbE (f:FsV) (hf:FsI f) (hs:FsS f) (s:qy) (hsp:zR f s) (hne:s.dir≠s.ino):Fun Tryz.prog G0 174 [.agg (fsC f),.agg (YJ s)] (.agg (fsC (zD f s))) 0:=by
 have hi:=zR.ino hf hsp
 have hlen:=hs.len
 have hg:=jY (G:=G0) f s.dir (by omega) hf.rises
 rw[hsp.has]at hg
 have hes:=hs.es hsp.has
 have hhe:J3 zZ.name s.name (zh s.dir f.xs).es=true:=by rw[jz,hsp.there];rfl
 have hw:=VC (G:=G0) (zh s.dir f.xs).es s.name (by omega) (Y8 hf hsp.has) hhe
 have hd1:=YP (G:=G0) f (qi (zh s.dir f.xs) (zj s.name (zh s.dir f.xs).es)) (by omega) hf.rises
 have hdl:(qk s.dir (zj s.name) f.xs).length=f.xs.length:=qP hf.rises hsp.has
 have hR1:z7 (qk s.dir (zj s.name) f.xs):=z6 hf.rises
 have hg2:=jY (G:=G0) ⟨f.maxI,f.maxB,f.next,qk s.dir (zj s.name) f.xs⟩ s.ino (by simp only;omega) hR1
 simp only at hg2
 rw[zU hsp.has,hi,Jm hsp.has,if_neg hne]at hg2
 have hl:=VY hf hs hi
 have hxi:=(zk hi).2.2
 have hd2:=YP (G:=G0) ⟨f.maxI,f.maxB,f.next,qk s.dir (zj s.name) f.xs⟩ { zh s.ino f.xs with links:=(zh s.ino f.xs).links-1 } (by simp only;omega) hR1
 have hd3:=zjo (G:=G0) ⟨f.maxI,f.maxB,f.next,qk s.dir (zj s.name) f.xs⟩ s.ino (by simp only;omega) hR1 (by intro h;have h0:f.xs = []:=List.length_eq_zero_iff.1 (by rw[←hdl];exact congrArg List.length h);exact U9 hf h0)
 have e0:zD f s=if (zh s.ino f.xs).links-1=0 then ⟨f.maxI,f.maxB,f.next,qj s.ino (qk s.dir (zj s.name) f.xs)⟩ else ⟨f.maxI,f.maxB,f.next,qm { zh s.ino f.xs with links:=(zh s.ino f.xs).links-1 } (qk s.dir (zj s.name) f.xs)⟩:=rfl
 unfold qk at hg2 hd2 hd3 e0
 by_cases hz:(zh s.ino f.xs).links-1=0
 ·rw[if_pos hz]at e0
  have hz':=eq_true hz
  rw[←hxi]at hd3
  refine fon Tryz.func174 ?_;dsimp only[Tryz.f174]
  push_cast -dsimp
  refine cl (hg) ?_;push_cast -dsimp
  refine cl (hw) ?_;push_cast -dsimp
  refine cl (hd1) ?_;push_cast -dsimp
  refine cl (hg2) ?_;push_cast -dsimp [hz']
  repeat refine an ?_
  refine cl (hd3) ?_;push_cast -dsimp
  exact dn (by push_cast -dsimp [ze,zd,CLe,zg,e0,hxi])
 ·rw[if_neg hz]at e0
  have hz':=eq_false hz
  refine fon Tryz.func174 ?_;dsimp only[Tryz.f174]
  push_cast -dsimp
  refine cl (hg) ?_;push_cast -dsimp
  refine cl (hw) ?_;push_cast -dsimp
  refine cl (hd1) ?_;push_cast -dsimp
  refine cl (hg2) ?_;push_cast -dsimp [hz']
  repeat refine an ?_
  refine cl (hd2) ?_;push_cast -dsimp
  exact dn (by push_cast -dsimp [ze,zd,CLe,zg,e0])
theorem yP (f:FsV) (hf:FsI f) (hs:FsS f) (i:Int) (hi:zn i f.xs=true) (t:List UInt8) (ht:t.length<=10000):Fun Tryz.prog G0 169 [.agg (fsC f),.sc (.int .i64 i),.str t] (.tup [.agg (fsC (Js f i t).1),.sc (.int .i64 (Js f i t).2)]) 0:=by
 have hlen:=hs.len
 have hg:=jY (G:=G0) f i (by omega) hf.rises
 rw[hi]at hg
 have hdat:=(hs.node _ (zk hi).2.1).2.1
 have hr:=kG (G:=G0) f hs 0 ((t.length:Int)-((zh i f.xs).data.length:Int)) (by omega) (by omega)
 have hd:=YP (G:=G0) f { zh i f.xs with data:=t } (by omega) hf.rises
 cases hrm:jS f 0 ((t.length:Int)-((zh i f.xs).data.length:Int)) with
 | false =>
  have e:Js f i t=(f,8):=by unfold Js;rw[hrm];rfl
  rw[hrm]at hr
  refine fon Tryz.func169 ?_;dsimp only[Tryz.f169]
  push_cast -dsimp
  refine cl (hg) ?_;push_cast -dsimp
  repeat refine an ?_
  refine cl (hr) ?_;push_cast -dsimp
  exact dn (by push_cast -dsimp [ze,zd,CLe,zg,e])
 | true =>
  have e:Js f i t=(⟨f.maxI,f.maxB,f.next,qm { zh i f.xs with data:=t } f.xs⟩,0):=by unfold Js;rw[hrm];rfl
  rw[hrm]at hr
  refine fon Tryz.func169 ?_;dsimp only[Tryz.f169]
  push_cast -dsimp
  refine cl (hg) ?_;push_cast -dsimp
  repeat refine an ?_
  refine cl (hr) ?_;push_cast -dsimp
  refine cl (hd) ?_;push_cast -dsimp
  exact dn (by push_cast -dsimp [ze,zd,CLe,zg,e])
end
section
open CA CB
open Go.RowKit
theorem zjH (f:FsV) (hf:FsI f) (hs:FsS f) (a b:qy) (ha:zR f a) (hb:Jw f b) (hb0:b.ino=0):Fun Tryz.prog G0 172 [.agg (fsC f),.agg (YJ a),.agg (YJ b)] (.agg (fsC (Yp f a b))) 0:=by
 have hai:=zR.ino hf ha
 have hlen:=hs.len
 have hhe:J3 zZ.name a.name (zh a.dir f.xs).es=true:=by rw[jz,ha.there];rfl
 have hga:=jY (G:=G0) f a.dir (by omega) hf.rises
 rw[ha.has]at hga
 have hwa:=VC (G:=G0) (zh a.dir f.xs).es a.name (by have:=hs.es ha.has;omega) (Y8 hf ha.has) hhe
 have hda:=YP (G:=G0) f (qi (zh a.dir f.xs) (zj a.name (zh a.dir f.xs).es)) (by omega) hf.rises
 obtain ⟨g1,hg1⟩:∃ g1,qk a.dir (zj a.name) f.xs=g1:=⟨_,rfl⟩
 obtain ⟨g2,hg2⟩:∃ g2,qk b.dir (zN b.name a.ino) g1=g2:=⟨_,rfl⟩
 have hR1:z7 g1:=by rw[←hg1];exact z6 hf.rises
 have hR2:z7 g2:=by rw[←hg2];exact z6 hR1
 have hl1:g1.length=f.xs.length:=by rw[←hg1];exact qP hf.rises ha.has
 have hb1:zn b.dir g1=true:=by rw[←hg1,zU ha.has];exact hb.has
 have hl2:g2.length=f.xs.length:=by rw[←hg2,qP hR1 hb1,hl1]
 have hi2:zn a.ino g2=true:=by rw[←hg2,zU hb1,←hg1,zU ha.has];exact hai
 have hgb:=jY (G:=G0) ⟨f.maxI,f.maxB,f.next,g1⟩ b.dir (by simp only;omega) hR1
 simp only at hgb
 rw[hb1]at hgb
 have hres:Jy (zh b.dir g1).es/\(zh b.dir g1).es.length<=10000:=by
  rw[←hg1,Jm ha.has]
  split
  ·refine ⟨J2 (Y8 hf ha.has),?_⟩
   show (JS zZ.name _ _).length<=10000
   have:=Y9 (key:=zZ.name) a.name (zh a.dir f.xs).es
   have:=hs.es ha.has
   omega
  ·exact ⟨Y8 hf hb.has,hs.es hb.has⟩
 have hwb:=UK (G:=G0) (zh b.dir g1).es b.name a.ino (by have:=hres.2;omega) hres.1
 have hdb:=YP (G:=G0) ⟨f.maxI,f.maxB,f.next,g1⟩ (qi (zh b.dir g1) (zN b.name a.ino (zh b.dir g1).es)) (by simp only;omega) hR1
 have hgx:=jY (G:=G0) ⟨f.maxI,f.maxB,f.next,g2⟩ a.ino (by simp only;omega) hR2
 simp only at hgx
 rw[hi2]at hgx
 have hxi:=(zk hi2).2.2
 have e0:Yp f a b=if (zh a.ino g2).kind=2 then ⟨f.maxI,f.maxB,f.next,qm { zh a.ino g2 with parent:=b.dir } g2⟩ else ⟨f.maxI,f.maxB,f.next,g2⟩:=by unfold Yp;rw[hg1,hg2]
 have hdx:=fun x:zp=>YP (G:=G0) ⟨f.maxI,f.maxB,f.next,g2⟩ x (by simp only;omega) hR2
 have hda':Fun Tryz.prog G0 203 [.agg (fsC f),.agg (J4 (qi (zh a.dir f.xs) (zj a.name (zh a.dir f.xs).es)))] (.agg [.sc (.int .i64 f.maxI),.sc (.int .i64 f.maxB),.sc (.int .i64 f.next),.own 0 75 6 (zt g1)]) 1:=by rw[←hg1];exact hda
 have hdb':Fun Tryz.prog G0 203 [.agg (fsC ⟨f.maxI,f.maxB,f.next,g1⟩),.agg (J4 (qi (zh b.dir g1) (zN b.name a.ino (zh b.dir g1).es)))] (.agg [.sc (.int .i64 f.maxI),.sc (.int .i64 f.maxB),.sc (.int .i64 f.next),.own 0 75 6 (zt g2)]) 1:=by rw[←hg2];exact hdb
 have hb0':=eq_true hb0
 by_cases hk:(zh a.ino g2).kind=2
 ·rw[if_pos hk]at e0
  have hk':=eq_true hk
  have hd:=hdx { zh a.ino g2 with parent:=b.dir }
  refine fon Tryz.func172 ?_;dsimp only[Tryz.f172]
  push_cast -dsimp [hb0']
  refine cl (hga) ?_;push_cast -dsimp
  refine cl (hwa) ?_;push_cast -dsimp
  refine cl (hda') ?_;push_cast -dsimp
  refine cl (hgb) ?_;push_cast -dsimp
  refine cl (hwb) ?_;push_cast -dsimp
  refine cl (hdb') ?_;push_cast -dsimp
  refine cl (hgx) ?_;push_cast -dsimp [hk']
  refine cl (hd) ?_;push_cast -dsimp
  exact dn (by push_cast -dsimp [ze,zd,CLe,zg,e0])
 ·rw[if_neg hk]at e0
  have hk':=eq_false hk
  have hsm:qm (zh a.ino g2) g2=g2:=MY hR2 (by rw[hxi];exact (zk hi2).1)
  have hd:=hdx (zh a.ino g2)
  rw[hsm]at hd
  refine fon Tryz.func172 ?_;dsimp only[Tryz.f172]
  push_cast -dsimp [hb0']
  refine cl (hga) ?_;push_cast -dsimp
  refine cl (hwa) ?_;push_cast -dsimp
  refine cl (hda') ?_;push_cast -dsimp
  refine cl (hgb) ?_;push_cast -dsimp
  refine cl (hwb) ?_;push_cast -dsimp
  refine cl (hdb') ?_;push_cast -dsimp
  refine cl (hgx) ?_;push_cast -dsimp [hk']
  refine cl (hd) ?_;push_cast -dsimp
  exact dn (by push_cast -dsimp [ze,zd,CLe,zg,e0])
end
section
open Go.RowKit
section
variable {G:zr}
theorem Hn (rows:List (List C)) (hk:∀ r∈rows,r.length=4) (hs:jA rows) (hl:rows.length<=100000) :
  XG Tryz.prog G 214 [.sl 4 rows] [] 0 (zeU 4 rows):=by
 refine XG.bySlice (fun h=>?_) (fun h a cap hr=>?_)
 ·refine foX (fun i=>if i=1000000+25 then [true,true] else []) Tryz.func214 ?_;dsimp only[Tryz.f214]
  push_cast -dsimp
  refine ⟨h,Q6 UZ kj rfl rfl (by decide) rfl (qt hk) rfl (Nat.le_refl _) (Nat.le_refl _) (by omega) (by omega) (fun hc=>absurd hc ?_) (fun _ c hc hm=>?_)⟩
  ·have:=List.length_pos_iff.2 h;omega
  ·push_cast -dsimp
   rw[Nat.zero_add]at hc
   refine ⟨_,_,_,⟨⟨rfl,.inl ⟨h,c,hc,hm,rfl,rfl⟩⟩,Nat.zero_le _⟩,[],rfl,rfl,?_,by push_cast -dsimp [ze,zd,CLe,zg]⟩
   push_cast -dsimp [ze,zd,CLe,zg]
   exact zT (zF hs)
 ·cases a with
  | none =>
   refine foX (fun i=>if i=1000000+25 then [true,true] else []) Tryz.func214 ?_;dsimp only[Tryz.f214]
   push_cast -dsimp [hr,Option.isNone_none]
   exact ⟨_,_,_,⟨⟨rfl,.inr ⟨h,.inl ⟨rfl,rfl⟩⟩⟩,Nat.zero_le _⟩,[],rfl,rfl,by push_cast -dsimp [ze,zd,CLe,zg],by push_cast -dsimp [ze,zd,CLe,zg]⟩
  | some a =>
   refine foX (fun i=>if i=1000000+25 then [true,true] else []) Tryz.func214 ?_;dsimp only[Tryz.f214]
   push_cast -dsimp [hr,Option.isNone_some]
   have hx:C.xs? 4 [[]] (C.sc (.slice (some a) 0 cap))=some (0,[]):=by simp[C.xs?,hr]
   refine Q6 UZ kj hx rfl (by decide) rfl rfl rfl (Nat.le_refl _) (Nat.le_refl _) (by omega) (by omega) (fun _=>?_) (fun hc=>absurd hc (by omega))
   push_cast -dsimp
   exact ⟨_,_,_,⟨⟨rfl,.inr ⟨h,.inr ⟨rfl,rfl⟩⟩⟩,Nat.zero_le _⟩,[],rfl,rfl,by (push_cast -dsimp [ze,zd,CLe,zg];simp[spl,zg]),by push_cast -dsimp [ze,zd,CLe,zg]⟩
theorem Uc (rows:List (List C)) (x:List C) (i c e:Nat) (hk:∀ r∈rows,r.length=4) (hx:x.length=4) (hs:jA rows) (hsx:(x.all C.stayB)=true) (hl:rows.length<=100000) (hi:i<=rows.length) (hc:rows.length<=c) (hcm:c<=9223372036854775807) :
  XG Tryz.prog G 213 [.bs 0 0 4 rows.length c,.sc (.int .i64 i),.own 0 e 4 [x]] [qw 4 rows c] 1 (zpW 4 (c*4) (rows.take i++x :: rows.drop i)):=by
 refine foX (fun j=>if j=1000000+25 then [true,true] else if j=11 then [false,false,false,false,false,false,false,false,true] else if j=15 then [false,false,false,false,false,false,false,false,true] else []) Tryz.func213 ?_;dsimp only[Tryz.f213]
 push_cast -dsimp
 have hlen:(rows.take i++x :: rows.drop i).length=rows.length+1:=by simp;omega
 have hki:∀ r∈rows.take i++x :: rows.drop i,r.length=4:=fun r hr=>by
  rcases List.mem_append.1 hr with hr | hr
  ·exact hk r (List.mem_of_mem_take hr)
  ·rcases List.mem_cons.1 hr with rfl | hr
   ·exact hx
   ·exact hk r (List.mem_of_mem_drop hr)
 have hsi:jA (rows.take i++x :: rows.drop i):=fun r hr=>by
  rcases List.mem_append.1 hr with hr | hr
  ·exact hs r (List.mem_of_mem_take hr)
  ·rcases List.mem_cons.1 hr with rfl | hr
   ·exact hsx
   ·exact hs r (List.mem_of_mem_drop hr)
 have hbl:=JI hk hc
 have hfl:=qt hk
 have hxl:[x].flatten.length=1*4:=by simp[hx]
 have hpre:(qw 4 rows c).take rows.flatten.length=rows.flatten:=by unfold qw;rw[List.take_left]
 refine ⟨hc,⟨by omega,hi⟩,br (fun h=>?_) (fun h=>?_)⟩
 ·push_cast -dsimp
  refine Q6 UZ kj rfl rfl (by decide) rfl hxl rfl (by rw[hbl];omega) hc (by simp;omega) (by simp;omega) (fun h1=>?_) (fun h1 c' h2 h3=>?_)
  ·push_cast -dsimp
   have hi':i=rows.length:=of_decide_eq_true h
   refine ⟨_,_,_,⟨⟨rfl,c,by rw[hlen];exact h1,hcm,.inl ⟨rfl,rfl⟩⟩,Nat.le_refl _⟩,[],rfl,rfl,?_,by push_cast -dsimp [ze,zd,CLe,zg,hlen]⟩
   push_cast -dsimp [ze,zd,CLe,zg]
   have h6:rows.length*4+4<=c*4:=by have:rows.length+1<=c:=h1;omega
   refine Jz hki hsi (by rw[hlen];exact h1) (by rw[QW (by rw[hbl,hx];exact h6),hbl]) ?_
   rw[hlen,hi',List.take_length,List.drop_length]
   unfold spl
   rw[←hfl,hpre,List.take_left' (by simp[hx,hfl];omega)]
   simp
  ·push_cast -dsimp
   have hi':i=rows.length:=of_decide_eq_true h
   have h2':rows.length+1<=c':=h2
   refine ⟨_,_,_,⟨⟨rfl,c',by rw[hlen];exact h2,h3,.inr ⟨rfl,rfl⟩⟩,Nat.le_of_ble_eq_true rfl⟩,[],rfl,rfl,?_,by push_cast -dsimp [ze,zd,CLe,zg,hlen]⟩
   push_cast -dsimp [ze,zd,CLe,zg]
   refine ⟨Xv hbl,Jz hki hsi (by rw[hlen];exact h2) (by simp[hx,hbl];omega) ?_⟩
   rw[hlen,hi',List.take_length,List.drop_length,←hfl,hpre,List.take_left' (by simp[hx,hfl];omega)]
   simp
 ·have hne:i≠rows.length:=of_decide_eq_false h
  push_cast -dsimp
  refine ⟨⟨by omega,by omega⟩,br (fun h1=>?_) (fun h1=>?_)⟩
  ·have h1':(c:Int)<(rows.length:Int)+1:=of_decide_eq_true h1
   push_cast -dsimp
   repeat refine an ?_
   refine zkP UZ znd kj rfl (by decide) rfl rfl (by rw[hbl];omega) (by omega) (by omega) (by omega) (by omega) (by omega) (fun c' B h2 h3 hBl hBt=>?_)
   have e1:((rows.length:Int)+1-(i:Int)).toNat=rows.length+1-i:=by omega
   rw[e1]at h2 ⊢
   have e2:i+(rows.length+1-i)=rows.length+1:=by omega
   rw[e2]at h2 ⊢
   push_cast -dsimp
   repeat refine an ?_
   refine Xy UZ kj rfl rfl hxl (by rw[hBl];omega) (fun B1 hB1 hl1=>?_)
   rw[hBl]at hl1
   push_cast -dsimp
   repeat refine an ?_
   have hbp:=Xj (c:=c) hk hi
   refine Xy UZ kj (ku rfl (by rw[hbl];omega)) rfl (by rw[hbp,List.length_drop,hfl];omega) (by rw[hl1];omega) (fun B2 hB2 hl2=>?_)
   rw[hl1]at hl2
   have hX:[x].flatten.take (min [x].length (rows.length+1-i)*4)=x:=by
    rw[List.length_singleton,Nat.min_eq_left (by omega),List.take_of_length_le (by omega)];simp
   rw[hX]at hB1
   rw[hbp,show min (rows.length-i) (rows.length-i)*4=(rows.length-i)*4 by omega,List.take_of_length_le (by rw[List.length_drop,hfl];omega),hB1]at hB2
   push_cast -dsimp
   refine ⟨_,_,_,⟨⟨rfl,c',by rw[hlen];exact h2,h3,.inr ⟨rfl,rfl⟩⟩,Nat.le_of_ble_eq_true rfl⟩,[],rfl,rfl,?_,by push_cast -dsimp [ze,zd,CLe,zg,hlen]⟩
   push_cast -dsimp [ze,zd,CLe,zg]
   refine ⟨Xv hbl,Jz hki hsi (by rw[hlen];exact h2) hl2 ?_⟩
   rw[hlen,←Qt hk,hB2]
   have hg:=Gd (cs:=B) (L:=rows.flatten) (X:=x) (p:=i*4) (q:=(i+1)*4) (by omega) (by omega) (by
    rw[hBt,List.drop_zero];unfold qw;rw[List.take_append_of_le_length (by omega)]) (by omega)
   rw[hfl,hx]at hg
   rw[←hg]
   congr 1;omega
  ·have h1':¬(c:Int)<(rows.length:Int)+1:=of_decide_eq_false h1
   push_cast -dsimp
   repeat refine an ?_
   refine zlf (yi (P:=Tryz.prog) (tR:=4) Tryz.func239 (by kernel_rfl) (by kernel_rfl) (by kernel_rfl) (by kernel_rfl) UZ kj rfl (List.ne_nil_of_length_pos (by rw[hbl];omega)) (by simp) (by omega)) ?_
   push_cast -dsimp
   repeat refine an ?_
   have hbp:=Xj (c:=c) hk hi
   refine Xy UZ kj (ku rfl (by rw[hbl];omega)) rfl (by simp[hbl];omega) (by rw[hbl];omega) (fun B1 hB1 hl1=>?_)
   rw[hbl]at hl1
   rw[List.take_take,Nat.min_eq_left (by omega),show min (rows.length+1-i) (rows.length-i)*4=(rows.length-i)*4 by omega,hbp]at hB1
   push_cast -dsimp
   repeat refine an ?_
   refine Xy UZ kj rfl rfl hxl (by rw[hl1];omega) (fun B2 hB2 hl2=>?_)
   rw[hl1]at hl2
   have hX:[x].flatten.take (min [x].length (rows.length+1-i)*4)=x:=by
    rw[List.length_singleton,Nat.min_eq_left (by omega),List.take_of_length_le (by omega)];simp
   rw[hX,hB1]at hB2
   push_cast -dsimp
   have hcc:rows.length+1<=c:=by omega
   refine ⟨_,_,_,⟨⟨rfl,c,by rw[hlen];exact hcc,hcm,.inl ⟨rfl,rfl⟩⟩,Nat.le_of_ble_eq_true rfl⟩,[],rfl,rfl,?_,by push_cast -dsimp [ze,zd,CLe,zg,hlen]⟩
   push_cast -dsimp [ze,zd,CLe,zg]
   refine Jz hki hsi (by rw[hlen];exact hcc) hl2 ?_
   rw[hlen,←Qt hk,hB2]
   have hg:=UE (cs:=qw 4 rows c) (L:=rows.flatten) (X:=x) (p:=i*4) (q:=(i+1)*4) (by omega) (by omega) hpre (by omega)
   rw[hfl,hx]at hg
   rw[←hg]
   congr 1;omega
theorem uI {e:Nat} (x:List C) (hx:x.length=4) (hsx:(x.all C.stayB)=true) :
  XG Tryz.prog G 213 [.sc (.slice none 0 0),.sc (.int .i64 0),.own 0 e 4 [x]] [] 1 (fun r bx' n=>n=0/\∃ c,1<=c/\c<=9223372036854775807/\r = .bs 0 0 4 1 c/\bx' = [qw 4 [x] c]):=by
 refine foX (fun j=>if j=1000000+25 then [true,true] else if j=11 then [false,false,false,false,false,false,false,false,true] else if j=15 then [false,false,false,false,false,false,false,false,true] else []) Tryz.func213 ?_;dsimp only[Tryz.f213]
 push_cast -dsimp
 refine Nq UZ kj rfl rfl (by decide) rfl (by simp[hx]) (by simp) (by simp) (by simp) (fun c h1 h2=>?_)
 push_cast -dsimp
 refine ⟨_,_,_,⟨⟨rfl,c,h1,h2,rfl,rfl⟩,Nat.zero_le _⟩,[],rfl,rfl,?_,by push_cast -dsimp [ze,zd,CLe,zg]⟩
 push_cast -dsimp [ze,zd,CLe,zg]
 have:=zT (src:=[]) (n:=1) (zF (k:=4) (c:=c) (rows:=[x]) fun r hr=>by
  rw[List.mem_singleton.1 hr];exact hsx)
 unfold qw at this ⊢
 simpa using this
end
end
section
open CA CB
open Go.RowKit
abbrev j6 (k:zP):List C:=[.sc (.int .i64 k.slot),.sc (.int .i64 k.ino),.sc (.bool k.content),.str k.data]
abbrev zH (ks:List zP):List (List C):=ks.map j6
theorem jr (ks:List zP) (i:Nat) (h:i<ks.length):(zH ks)[i]?=some (j6 ks[i]):=by simp[List.getElem?_map,List.getElem?_eq_getElem h]
abbrev kI (w:qg):List C:=[.sc (.int .i64 w.fs.maxI),.sc (.int .i64 w.fs.maxB),.sc (.int .i64 w.fs.next),.sl 6 (zt w.fs.xs),.sl 4 (zH w.kept),.sl 6 (zt w.pool)]
abbrev jB (w:qg):C:=.agg (kI w)
theorem zds (a b:Int):V8 a b<0↔jP.lt a b=true:=by
 show V8 a b<0↔decide (a<b)=true
 unfold V8
 rw[decide_eq_true_eq]
 split
 ·simp;assumption
 ·split<;>omega
theorem zek (a b:Int):V8 a b=0↔a=b:=by
 unfold V8
 split
 ·constructor
  ·intro h;cases h
  ·intro h;omega
 ·split
  ·constructor
   ·intro h;cases h
   ·intro h;omega
  ·constructor
   ·intro _;omega
   ·intro _;rfl
section
variable {G:zr}
theorem zhp (k:zP):Fun Tryz.prog G 206 [.agg (j6 k)] (.sc (.int .i64 k.slot)) 0:=by
 refine fon Tryz.func206 ?_;dsimp only[Tryz.f206]
 push_cast -dsimp
 exact dn
theorem vM (k:zP) (n:Int):Fun Tryz.prog G 235 [.agg (j6 k),.sc (.int .i64 n),.row [.clo (.func 206) [] []]] (.sc (.int .i64 (V8 k.slot n))) 0:=by
 refine fon Tryz.func235 ?_;dsimp only[Tryz.f235]
 push_cast -dsimp
 refine cl (zhp k) ?_;push_cast -dsimp
 refine cl (yq k.slot n) ?_;push_cast -dsimp
 exact dn
theorem Mo (ks:List zP) (n:Int) (hl:ks.length<=100000) (hR:qI jP zP.slot ks) :
  Fun Tryz.prog G 234 [.sl 4 (zH ks),.sc (.int .i64 n),.clo (.func 235) [] [.row [.clo (.func 206) [] []]]] (.tup [.sc (.int .i64 (qq jP zP.slot n ks:Nat)),.sc (.bool (J3 zP.slot n ks))]) 0:=by
 refine fon Tryz.func234 ?_;dsimp only[Tryz.f234]
 push_cast -dsimp
 refine loop (fun p:Nat×Nat=>⟨[(0,.sl 4 (zH ks)),(1,.sc (.int .i64 n)),(2,.clo (.func 235) [] [.row [.clo (.func 206) [] []]]),(8,.sc (.int .i64 (ks.length:Nat))),(9,.sc (.int .i64 p.1)),(10,.sc (.int .i64 p.2))],[],0,0⟩)
  (fun p=>p.1<=p.2/\p.2<=ks.length/\(∀ t (h:t<ks.length),t<p.1->(jP).lt (zP.slot ks[t]) n=true)/\∀ t (h:t<ks.length),p.2<=t->(jP).lt (zP.slot ks[t]) n=false) (fun p=>p.2-p.1) (0,ks.length) ⟨Nat.zero_le _,Nat.le_refl _,fun t _ h=>by (simp at h),fun t h h'=>by (dsimp only at h';omega)⟩ ?_ ?_
 ·exact wk (by push_cast -dsimp [ze,zd,CLe,zg,List.length_map])
 ·rintro ⟨i,j⟩ ⟨h1,h2,h3,h4⟩
  dsimp only at h1 h2 h3 h4 ⊢
  by_cases h:i<j
  ·obtain ⟨m,hm⟩:∃ m,m=(i+j) / 2:=⟨_,rfl⟩
   have hmi:((i:Int)+(j:Int)) / 2=(m:Int):=by omega
   have hml:m<ks.length:=by omega
   have hat:=jr ks m hml
   have hlt:=(zds ks[m].slot n)
   push_cast -dsimp [h,hmi,hat]
   repeat refine an ?_
   refine cl ((vM ks[m] n)) ?_;push_cast -dsimp
   cases hc:(jP).lt (zP.slot ks[m]) n with
   | true =>
    have hcv:(V8 ks[m].slot n<0)=True:=eq_true (hlt.mpr hc)
    push_cast -dsimp [hcv]
    repeat refine an ?_
    refine ⟨(m+1,j),⟨by omega,h2,fun t ht hlt2=>?_,h4⟩,by dsimp only;omega,wk⟩
    dsimp only at hlt2
    rcases Nat.lt_or_ge t m with q | q
    ·exact (jP).tr ((List.pairwise_iff_getElem.1 hR) t m ht hml q) hc
    ·have:t=m:=by omega
     subst this;exact hc
   | false =>
    have hcv:(V8 ks[m].slot n<0)=False:=eq_false (fun e=>by have h7:(jP).lt (zP.slot ks[m]) n=true:=hlt.mp e;rw[hc]at h7;cases h7)
    push_cast -dsimp [hcv]
    repeat refine an ?_
    refine ⟨(i,m),⟨by omega,by omega,h3,fun t ht hge=>?_⟩,by dsimp only;omega,wk⟩
    dsimp only at hge
    rcases Nat.lt_or_ge m t with q | q
    ·cases h9:(jP).lt (zP.slot ks[t]) n with
     | false=>rfl
     | true=>have:=(jP).tr ((List.pairwise_iff_getElem.1 hR) m t hml ht q) h9;rw[hc]at this;cases this
    ·have:t=m:=by omega
     subst this;exact hc
  ·have hij:i=j:=by omega
   subst hij
   have hrk:=Zs (o:=jP) (key:=zP.slot) n ks i h2 h3 h4
   push_cast -dsimp [h]
   refine br (fun hx=>?_) (fun hx=>?_)
   ·have hx:i<ks.length:=by simpa using hx
    have hat:=jr ks i hx
    have hh:=vn n hR hrk hx
    push_cast -dsimp [hx,hat]
    repeat refine an ?_
    refine cl ((vM ks[i] n)) ?_;push_cast -dsimp
    have hcv:decide (V8 ks[i].slot n=0)=J3 zP.slot n ks:=by
     rw[hh]
     exact decide_eq_decide.2 (zek ks[i].slot n)
    push_cast -dsimp [hcv]
    exact dn (by push_cast -dsimp [ze,zd,CLe,zg,hrk])
   ·have hx:¬i<ks.length:=by simpa using hx
    have hh:=GL n hR (by omega)
    push_cast -dsimp [hx]
    exact dn (by push_cast -dsimp [ze,zd,CLe,zg,hrk,hh])
theorem yU (ks:List zP) (n:Int) (hl:ks.length<=100000) (hR:qI jP zP.slot ks):Fun Tryz.prog G 205 [.sl 4 (zH ks),.sc (.int .i64 n),.clo (.func 206) [] []] (.tup [.sc (.int .i64 (qq jP zP.slot n ks:Nat)),.sc (.bool (J3 zP.slot n ks))]) 0:=by
 refine fon Tryz.func205 ?_;dsimp only[Tryz.f205]
 push_cast -dsimp
 refine zov [.sl 4 (zH ks),.sc (.int .i64 n),.clo (.func 235) [] [.row [.clo (.func 206) [] []]]] (Mo ks n hl hR) rfl ?_ ?_
 ·simp[XB,XK,C.frz,C.frzL]
 push_cast -dsimp
 exact dn
def UQ (n:Int) (ks:List zP):zP:=(j7 zP.slot n ks).getD zc6
theorem N6 (w:qg) (n:Int) (hl:w.kept.length<=100000) (hR:qI jP zP.slot w.kept):Fun Tryz.prog G 173 [jB w,.sc (.int .i64 n)] (.tup [.agg (j6 (UQ n w.kept)),.sc (.bool (U0 n w.kept))]) 0:=by
 obtain ⟨_,_,h3,h4⟩:=VX n hR
 have h:=yU (G:=G) w.kept n hl hR
 cases hh:J3 zP.slot n w.kept with
 | false =>
  have hf:UQ n w.kept=zc6:=by unfold UQ;rw[(h4 hh).1];rfl
  have he:U0 n w.kept=false:=hh
  rw[hh]at h
  refine fon Tryz.func173 ?_;dsimp only[Tryz.f173]
  push_cast -dsimp
  refine cl (h) ?_;push_cast -dsimp
  exact dn (by push_cast -dsimp [ze,zd,CLe,zg,hf,he,zc6])
 | true =>
  obtain ⟨hlt,_,g2,_⟩:=h3 hh
  have hf:UQ n w.kept=w.kept[qq jP zP.slot n w.kept]:=by unfold UQ;rw[g2];rfl
  have he:U0 n w.kept=true:=hh
  have hat:=jr w.kept _ hlt
  rw[hh]at h
  refine fon Tryz.func173 ?_;dsimp only[Tryz.f173]
  push_cast -dsimp
  refine cl (h) ?_;push_cast -dsimp [hat]
  repeat refine an ?_
  exact dn (by push_cast -dsimp [ze,zd,CLe,zg,hf,he])
end
end
section
open Go.RowKit Go.ChangeMaps Go.ChangeShapes Go.WideShapes Go.Deep Go.Joins
section
variable {H:Type} {enc:TypeId×Value->H} {P:Program} {W:World}
theorem jl.two {t:TypeId} {f1 f2:Field} {k1 k2:Nat} {Q1 Q2:List C->Prop} (hs:P.underlying t=some (.struct #[f1,f2])) (h1:jl enc P W f1.type k1 Q1) (h2:jl enc P W f2.type k2 Q2)
  (e1:f1.offset=0) (e2:P.cellsOf f1.type=k1) (e3:f2.offset=k1) (e4:P.cellsOf f2.type=k2) (e5:P.cellsOf t=k1+k2):jl enc P W t (k1+k2) fun row=>∃ a b,row=a++b/\Q1 a/\Q2 b:=fun fuel cs x hx=>by
 obtain ⟨ys,n',hn',hy,hlen,hyl,hf⟩:=DataW.trod_struct hs hx
 rw[e5]at hlen
 have g1:=hf 0 f1 rfl
 have g2:=hf 1 f2 rfl
 have hy2:ys.length=2:=by simpa using hyl
 rw[e1,e2,List.drop_zero,List.getElem?_eq_getElem (by omega)]at g1
 rw[e3,e4,List.getElem?_eq_getElem (by omega)]at g2
 obtain ⟨a,qa,la,la',ra⟩:=h1 _ _ _ g1
 obtain ⟨b,qb,lb,lb',rb⟩:=h2 _ _ _ g2
 refine ⟨a++b,⟨a,b,rfl,qa,qb⟩,by rw[List.length_append,la,lb],hlen,fun j c v h3 h4=>?_⟩
 rcases Nat.lt_or_ge j k1 with hj | hj
 ·rw[List.getElem?_append_left (by omega)]at h3
  exact ra j c v h3 (by rw[List.getElem?_take_of_lt hj];exact h4)
 ·rw[List.getElem?_append_right (by omega),la]at h3
  have hjl:=(List.getElem?_eq_some_iff.1 h3).1
  refine rb (j-k1) c v h3 ?_
  rw[List.getElem?_take_of_lt (by omega),List.getElem?_drop,show k1+(j-k1)=j by omega];exact h4
theorem zha:jl enc Tryz.prog W 92 4 fun row=>∃ o:zP,row=j6 o/\o.data.length<=maxLen:=fun fuel cs x hx=>by
 obtain ⟨row,⟨hl,hq⟩,h1,h2,h3⟩:=jl.struct (W:=W) (enc:=enc) (Qs:=fun j c=>match j with | 0=>∃ n,c = .sc (.int .i64 n)/\(Lit.int .i64 n).wf=true | 1=>∃ n,c = .sc (.int .i64 n)/\(Lit.int .i64 n).wf=true | 2=>∃ b,c = .sc (.bool b) | 3=>∃ l:List UInt8,c = .str l/\l.length<=maxLen | _=>True) Tryz.underlying92 (by kernel_rfl) (by kernel_rfl) (fun j f hj=>by
  match j,hj with
  | 0,hj=>cases hj;exact Opn.int Tryz.underlying3
  | 1,hj=>cases hj;exact Opn.int Tryz.underlying3
  | 2,hj=>cases hj;exact Opn.bool Tryz.underlying4
  | 3,hj=>cases hj;exact Opn.str Tryz.underlying9
  | j+4,hj=>simp at hj) fuel cs x hx
 match row,h1,hq,h3 with
 | [c0,c1,c2,c3],_,hq,h3 =>
  obtain ⟨a,rfl,_⟩:=hq 0 c0 rfl
  obtain ⟨b,rfl,_⟩:=hq 1 c1 rfl
  obtain ⟨c,rfl⟩:=hq 2 c2 rfl
  obtain ⟨d,rfl,hd⟩:=hq 3 c3 rfl
  exact ⟨_,⟨⟨a,b,c,d⟩,rfl,hd⟩,rfl,h2,h3⟩
theorem zdB:Opn enc Tryz.prog W 25 fun c=>∃ xs:List zP,c = .sl 4 (zH xs)/\xs.length<=maxLen/\∀ x∈xs,x.data.length<=maxLen:=fun fuel cs x hx=>by
 obtain ⟨v,c,rfl,⟨rows,rfl,hl,hr⟩,h1,h2⟩:=Opn.slice (W:=W) (enc:=enc) Tryz.underlying25 (show Tryz.prog.cellsOf 92=4 by kernel_rfl) (by decide) zha fuel cs x hx
 obtain ⟨xs,rfl,hq⟩:=G5 hr
 exact ⟨v,_,rfl,⟨xs,rfl,by simpa using hl,hq⟩,h1,h2⟩
theorem zfT:jl enc Tryz.prog W 27 2 fun row=>∃ (ks:List zP) (pool:List zp),row = [.sl 4 (zH ks),.sl 6 (zt pool)]/\ks.length<=maxLen/\pool.length<=maxLen:=fun fuel cs x hx=>by
 obtain ⟨row,⟨hl,hq⟩,h1,h2,h3⟩:=jl.struct (W:=W) (enc:=enc) (Qs:=fun j c=>match j with | 0=>∃ xs:List zP,c = .sl 4 (zH xs)/\xs.length<=maxLen/\∀ x∈xs,x.data.length<=maxLen | 1=>∃ xs:List zp,c = .sl 6 (zt xs)/\xs.length<=maxLen/\∀ x∈xs,zfQ x | _=>True) Tryz.underlying27 (by kernel_rfl) (by kernel_rfl) (fun j f hj=>by
  match j,hj with
  | 0,hj=>cases hj;exact zdB
  | 1,hj=>cases hj;exact uJ
  | j+2,hj=>simp at hj) fuel cs x hx
 match row,h1,hq,h3 with
 | [c0,c1],_,hq,h3 =>
  obtain ⟨a,rfl,ha,_⟩:=hq 0 c0 rfl
  obtain ⟨b,rfl,hb,_⟩:=hq 1 c1 rfl
  exact ⟨_,⟨a,b,rfl,ha,hb⟩,rfl,h2,h3⟩
theorem zgr:jl enc Tryz.prog W 29 6 fun row=>∃ w:qg,row=kI w/\w.fs.xs.length<=maxLen:=fun fuel cs x hx=>by
 obtain ⟨row,⟨a,b,rfl,⟨f,rfl,hf,_⟩,⟨ks,pool,rfl,_⟩⟩,h1,h2,h3⟩:=jl.two (W:=W) (enc:=enc) Tryz.underlying29 zpo zfT rfl (by kernel_rfl) rfl (by kernel_rfl) (by kernel_rfl) fuel cs x hx
 exact ⟨_,⟨⟨f,ks,pool⟩,rfl,hf⟩,h1,h2,h3⟩
end
end
section
open CA CB
open Go.RowKit
section
variable {G:zr}
theorem qc {ks:List zP}:∀ r∈zH ks,r.length=4:=fun r hr=>by
 obtain ⟨x,_,rfl⟩:=List.mem_map.1 hr;rfl
theorem zw {ks:List zP}:jA (zH ks):=fun r hr=>by
 obtain ⟨x,_,rfl⟩:=List.mem_map.1 hr;rfl
theorem N2 (w:qg) (k:zP) (hl:w.kept.length<=90000) (hR:qI jP zP.slot w.kept) (hn:U0 k.slot w.kept=false):Fun Tryz.prog G 179 [jB w,.agg (j6 k)] (jB { w with kept:=qv k w.kept }) 0:=by
 obtain ⟨_,_,h3,h4⟩:=VX (o:=jP) k.slot hR
 have hll:(zH w.kept).length=w.kept.length:=List.length_map ..
 have hat:=yU (G:=G) w.kept k.slot (by omega) hR
 have hrl:=Zp (o:=jP) (key:=zP.slot) k.slot w.kept
 have hn':J3 zP.slot k.slot w.kept=false:=hn
 rw[hn']at hat
 have hw:qv k w.kept=w.kept.take (qq jP zP.slot k.slot w.kept)++k :: w.kept.drop (qq jP zP.slot k.slot w.kept):=(h4 hn').2.2 k rfl
 have hset:zH (qv k w.kept)=(zH w.kept).take (qq jP zP.slot k.slot w.kept)++j6 k :: (zH w.kept).drop (qq jP zP.slot k.slot w.kept):=by rw[hw];simp
 have hsl:(zH (qv k w.kept)).length=(zH w.kept).length+1:=by rw[hset];simp;omega
 refine foF (fun i=>if i=2 then VQ [(0,.pure),(1,.pure),(2,.pure),(4,.pure),(5,.pure),(6,.pure),(3,.flt [3,4,5]),(7,.bar),(8,.pure),(9,.pure),(10,.bar)] else []) Tryz.func179 ?_;dsimp only[Tryz.f179]
 push_cast -dsimp
 refine cl (hat) ?_;push_cast -dsimp
 refine zmk [] (Hn (zH w.kept) qc zw (by omega)) (by decide) (by simp) (by push_cast -dsimp) (by push_cast -dsimp) (fun r bx' m hp=>?_)
 obtain ⟨rfl,⟨hne,c,h1,h2,rfl,rfl⟩ | ⟨he,⟨rfl,rfl⟩ | ⟨rfl,rfl⟩⟩⟩:=hp
 ·have hbl:=JI qc h1
  have hre:∀ fp fo,C.reL fp fo (qw 4 (zH w.kept) c)=qw 4 (zH w.kept) c:=fun fp fo=>zB (zF zw)
  have hpos:=List.length_pos_iff.2 hne
  have hre2:∀ fp fo c,C.reL fp fo (qw 4 (zH (qv k w.kept)) c)=qw 4 (zH (qv k w.kept)) c:=fun fp fo c=>zB (zF zw)
  push_cast -dsimp [hre]
  refine Jl [4] [0] (Uc (e:=92) (zH w.kept) (j6 k) (qq jP zP.slot k.slot w.kept) c qc rfl zw rfl (by omega) (by omega) h1 h2) rfl (by decide) (by decide) (by simp) (by push_cast -dsimp) (by push_cast -dsimp [hre]) (fun r bx' m hp=>?_)
  rw[←hset]at hp
  obtain ⟨rfl,c',g1,g2,⟨rfl,rfl⟩ | ⟨rfl,rfl⟩⟩:=hp
  ·push_cast -dsimp [hre2,hre]
   exact ⟨[(4,92,4,zH (qv k w.kept),c')],[],zA rfl (by omega) g1 g2 qc zw,rfl,rfl,by push_cast -dsimp [ze,zd,CLe,zg]⟩
  ·have hra:∀ fp fo,C.reL fp fo (List.replicate (c*4) .any)=List.replicate (c*4) .any:=fun fp fo=>zB (by simp[List.all_replicate,C.stayB])
   push_cast -dsimp [hre2,hre,hra]
   exact ⟨[(5,92,4,zH (qv k w.kept),c')],[],zA rfl (by omega) g1 g2 qc zw,rfl,rfl,by push_cast -dsimp [ze,zd,CLe,zg]⟩
 ·have he:w.kept = []:=by simpa using he
  have hr0:qq jP zP.slot k.slot w.kept=0:=by rw[he];rfl
  have hs1:qv k w.kept = [k]:=by rw[he];rfl
  push_cast -dsimp [hr0]
  refine Jl [] [0] (uI (e:=92) (j6 k) rfl rfl) rfl (by decide) (by decide) (by simp) (by push_cast -dsimp) (by push_cast -dsimp) (fun r bx' m hp=>?_)
  obtain ⟨rfl,c,g1,g2,rfl,rfl⟩:=hp
  have hre:∀ fp fo,C.reL fp fo (qw 4 [j6 k] c)=qw 4 [j6 k] c:=fun fp fo=>zB (zF (zw (ks:=[k])))
  push_cast -dsimp [hre]
  exact ⟨[(3,92,4,zH [k],c)],[],zA rfl (by omega) g1 g2 qc zw,rfl,rfl,by push_cast -dsimp [ze,zd,CLe,zg,hs1]⟩
 ·have he:w.kept = []:=by simpa using he
  have hr0:qq jP zP.slot k.slot w.kept=0:=by rw[he];rfl
  have hs1:qv k w.kept = [k]:=by rw[he];rfl
  push_cast -dsimp [hr0]
  refine Jl [3] [0] (Uc (e:=92) [] (j6 k) 0 0 (fun r hr=>by cases hr) rfl (fun r hr=>by cases hr) rfl (by simp) (by simp) (by simp) (by simp)) rfl (by decide) (by decide) (by simp) (by push_cast -dsimp) (by push_cast -dsimp [qw]) (fun r bx' m hp=>?_)
  obtain ⟨rfl,c,g1,g2,hp⟩:=hp
  have hre:∀ fp fo,C.reL fp fo (qw 4 [j6 k] c)=qw 4 [j6 k] c:=fun fp fo=>zB (zF (zw (ks:=[k])))
  rcases hp with ⟨rfl,rfl⟩ | ⟨rfl,rfl⟩
  ·push_cast -dsimp [hre]
   exact ⟨[(3,92,4,zH [k],c)],[],zA rfl (Nat.lt_of_lt_of_le (Nat.zero_lt_succ _) g1) g1 g2 qc zw,rfl,rfl,by push_cast -dsimp [ze,zd,CLe,zg,hs1]⟩
  ·push_cast -dsimp [hre]
   exact ⟨[(4,92,4,zH [k],c)],[],zA rfl (Nat.lt_of_lt_of_le (Nat.zero_lt_succ _) g1) g1 g2 qc zw,rfl,rfl,by push_cast -dsimp [ze,zd,CLe,zg,hs1]⟩
theorem ZI (f:FsV) (hf:FsI f) (hs:FsS f) (p:List UInt8) (hp:p.length<=100000):Fun Tryz.prog G0 170 [.agg (fsC f),.str p] (.tup [.agg (YJ (isV f p true).1),.agg (J4 (isV f p true).2.1),.sc (.int .i64 (isV f p true).2.2)]) 0:=by
 have h1:=uW f hf hs p hp
 have h2:=jY (G:=G0) f (atV f p).1.ino (by have:=hs.len;omega) hf.rises
 have e1:(isV f p true).1=(atV f p).1:=rfl
 have e2:(isV f p true).2.1=zh (atV f p).1.ino f.xs:=rfl
 by_cases h0:(atV f p).2=0
 ·have h0':=eq_true h0
  cases hz:zn (atV f p).1.ino f.xs with
  | true =>
   have e3:(isV f p true).2.2=0:=by unfold isV;simp[h0,hz]
   rw[hz]at h2
   refine fof (fun i=>if i=4 then VQ [(0,.pure),(1,.pure),(2,.pure),(3,.flt [1,2]),(4,.flt [2]),(5,.pure)] else if i=6 then VQ [(0,.pure),(1,.pure),(2,.flt [1]),(3,.flt []),(4,.pure)] else if i=7 then VQ [(0,.pure),(1,.pure),(2,.flt [1]),(3,.flt []),(4,.pure)] else []) Tryz.func170 ?_;dsimp only[Tryz.f170]
   push_cast -dsimp
   refine cl (h1) ?_;push_cast -dsimp
   refine cl (h2) ?_;push_cast -dsimp [h0']
   exact dn (by push_cast -dsimp [ze,zd,CLe,zg,e1,e2,e3])
  | false =>
   have e3:(isV f p true).2.2=1:=by unfold isV;simp[h0,hz]
   rw[hz]at h2
   refine fof (fun i=>if i=4 then VQ [(0,.pure),(1,.pure),(2,.pure),(3,.flt [1,2]),(4,.flt [2]),(5,.pure)] else if i=6 then VQ [(0,.pure),(1,.pure),(2,.flt [1]),(3,.flt []),(4,.pure)] else if i=7 then VQ [(0,.pure),(1,.pure),(2,.flt [1]),(3,.flt []),(4,.pure)] else []) Tryz.func170 ?_;dsimp only[Tryz.f170]
   push_cast -dsimp
   refine cl (h1) ?_;push_cast -dsimp
   refine cl (h2) ?_;push_cast -dsimp [h0']
   exact dn (by push_cast -dsimp [ze,zd,CLe,zg,e1,e2,e3])
 ·have h0':=eq_false h0
  have e3:(isV f p true).2.2=(atV f p).2:=by unfold isV;simp[h0]
  refine fof (fun i=>if i=4 then VQ [(0,.pure),(1,.pure),(2,.pure),(3,.flt [1,2]),(4,.flt [2]),(5,.pure)] else if i=6 then VQ [(0,.pure),(1,.pure),(2,.flt [1]),(3,.flt []),(4,.pure)] else if i=7 then VQ [(0,.pure),(1,.pure),(2,.flt [1]),(3,.flt []),(4,.pure)] else []) Tryz.func170 ?_;dsimp only[Tryz.f170]
  push_cast -dsimp
  refine cl (h1) ?_;push_cast -dsimp
  refine cl (h2) ?_;push_cast -dsimp [h0',ite_self]
  exact dn (by push_cast -dsimp [ze,zd,CLe,zg,e1,e2,e3])
end
end
section
open CA CB
open Go.RowKit
section
variable {G:zr}
theorem ziO (k:zp):Fun Tryz.prog G 176 [.agg (J4 k)] (.sc (.int .i64 k.ino)) 0:=by
 refine fon Tryz.func176 ?_;dsimp only[Tryz.f176]
 push_cast -dsimp
 exact dn
theorem ul (k:zp) (n:Int):Fun Tryz.prog G 209 [.agg (J4 k),.sc (.int .i64 n),.row [.clo (.func 176) [] []]] (.sc (.int .i64 (V8 k.ino n))) 0:=by
 refine fon Tryz.func209 ?_;dsimp only[Tryz.f209]
 push_cast -dsimp
 refine cl (ziO k) ?_;push_cast -dsimp
 refine cl (yq k.ino n) ?_;push_cast -dsimp
 exact dn
theorem MV (ks:List zp) (n:Int) (hl:ks.length<=100000) (hR:qI jP zp.ino ks) :
  Fun Tryz.prog G 208 [.sl 6 (zt ks),.sc (.int .i64 n),.clo (.func 209) [] [.row [.clo (.func 176) [] []]]] (.tup [.sc (.int .i64 (qq jP zp.ino n ks:Nat)),.sc (.bool (J3 zp.ino n ks))]) 0:=by
 refine fon Tryz.func208 ?_;dsimp only[Tryz.f208]
 push_cast -dsimp
 refine loop (fun p:Nat×Nat=>⟨[(0,.sl 6 (zt ks)),(1,.sc (.int .i64 n)),(2,.clo (.func 209) [] [.row [.clo (.func 176) [] []]]),(8,.sc (.int .i64 (ks.length:Nat))),(9,.sc (.int .i64 p.1)),(10,.sc (.int .i64 p.2))],[],0,0⟩)
  (fun p=>p.1<=p.2/\p.2<=ks.length/\(∀ t (h:t<ks.length),t<p.1->(jP).lt (zp.ino ks[t]) n=true)/\∀ t (h:t<ks.length),p.2<=t->(jP).lt (zp.ino ks[t]) n=false) (fun p=>p.2-p.1) (0,ks.length) ⟨Nat.zero_le _,Nat.le_refl _,fun t _ h=>by (simp at h),fun t h h'=>by (dsimp only at h';omega)⟩ ?_ ?_
 ·exact wk (by push_cast -dsimp [ze,zd,CLe,zg,List.length_map])
 ·rintro ⟨i,j⟩ ⟨h1,h2,h3,h4⟩
  dsimp only at h1 h2 h3 h4 ⊢
  by_cases h:i<j
  ·obtain ⟨m,hm⟩:∃ m,m=(i+j) / 2:=⟨_,rfl⟩
   have hmi:((i:Int)+(j:Int)) / 2=(m:Int):=by omega
   have hml:m<ks.length:=by omega
   have hat:=jb ks m hml
   have hlt:=(zds ks[m].ino n)
   push_cast -dsimp [h,hmi,hat]
   repeat refine an ?_
   refine cl ((ul ks[m] n)) ?_;push_cast -dsimp
   cases hc:(jP).lt (zp.ino ks[m]) n with
   | true =>
    have hcv:(V8 ks[m].ino n<0)=True:=eq_true (hlt.mpr hc)
    push_cast -dsimp [hcv]
    repeat refine an ?_
    refine ⟨(m+1,j),⟨by omega,h2,fun t ht hlt2=>?_,h4⟩,by dsimp only;omega,wk⟩
    dsimp only at hlt2
    rcases Nat.lt_or_ge t m with q | q
    ·exact (jP).tr ((List.pairwise_iff_getElem.1 hR) t m ht hml q) hc
    ·have:t=m:=by omega
     subst this;exact hc
   | false =>
    have hcv:(V8 ks[m].ino n<0)=False:=eq_false (fun e=>by have h7:(jP).lt (zp.ino ks[m]) n=true:=hlt.mp e;rw[hc]at h7;cases h7)
    push_cast -dsimp [hcv]
    repeat refine an ?_
    refine ⟨(i,m),⟨by omega,by omega,h3,fun t ht hge=>?_⟩,by dsimp only;omega,wk⟩
    dsimp only at hge
    rcases Nat.lt_or_ge m t with q | q
    ·cases h9:(jP).lt (zp.ino ks[t]) n with
     | false=>rfl
     | true=>have:=(jP).tr ((List.pairwise_iff_getElem.1 hR) m t hml ht q) h9;rw[hc]at this;cases this
    ·have:t=m:=by omega
     subst this;exact hc
  ·have hij:i=j:=by omega
   subst hij
   have hrk:=Zs (o:=jP) (key:=zp.ino) n ks i h2 h3 h4
   push_cast -dsimp [h]
   refine br (fun hx=>?_) (fun hx=>?_)
   ·have hx:i<ks.length:=by simpa using hx
    have hat:=jb ks i hx
    have hh:=vn n hR hrk hx
    push_cast -dsimp [hx,hat]
    repeat refine an ?_
    refine cl ((ul ks[i] n)) ?_;push_cast -dsimp
    have hcv:decide (V8 ks[i].ino n=0)=J3 zp.ino n ks:=by
     rw[hh]
     exact decide_eq_decide.2 (zek ks[i].ino n)
    push_cast -dsimp [hcv]
    exact dn (by push_cast -dsimp [ze,zd,CLe,zg,hrk])
   ·have hx:¬i<ks.length:=by simpa using hx
    have hh:=GL n hR (by omega)
    push_cast -dsimp [hx]
    exact dn (by push_cast -dsimp [ze,zd,CLe,zg,hrk,hh])
theorem zlU (ks:List zp) (n:Int) (hl:ks.length<=100000) (hR:qI jP zp.ino ks):Fun Tryz.prog G 175 [.sl 6 (zt ks),.sc (.int .i64 n),.clo (.func 176) [] []] (.tup [.sc (.int .i64 (qq jP zp.ino n ks:Nat)),.sc (.bool (J3 zp.ino n ks))]) 0:=by
 refine fon Tryz.func175 ?_;dsimp only[Tryz.f175]
 push_cast -dsimp
 refine zov [.sl 6 (zt ks),.sc (.int .i64 n),.clo (.func 209) [] [.row [.clo (.func 176) [] []]]] (MV ks n hl hR) rfl ?_ ?_
 ·simp[XB,XK,C.frz,C.frzL]
 push_cast -dsimp
 exact dn
end
end
section
open CA CB
open Go.RowKit
section
variable {G:zr}
abbrev zpu (w:qg) (kc pc:C):C:=.agg [.sc (.int .i64 w.fs.maxI),.sc (.int .i64 w.fs.maxB),.sc (.int .i64 w.fs.next),.sl 6 (zt w.fs.xs),kc,pc]
def zqr (w:qg) (k:zP) (B:List C) (pn pc:Nat) (r:C) (bx':List (List C)) (m:Nat):Prop:=
 m=0/\∃ (c':Nat) (Ls:List (List C)),(Ls = []∨(∃ X,Ls = [X]/\(X.all C.stayB)=true)∨∃ X Y,Ls = [X,Y]/\(X.all C.stayB)=true/\(Y.all C.stayB)=true)/\(zH (qv k w.kept)).length<=c'/\c'<=9223372036854775807/\r=zpu w (.bs (4+Ls.length) 0 4 (zH (qv k w.kept)).length c') (.bs 0 0 6 pn pc) /\
  bx'=B :: [.any,.any,.any,.any,.any,.any] :: [.any,.any,.any,.any] :: [.any,.any,.any,.any,.any,.any] :: (Ls++[qw 4 (zH (qv k w.kept)) c'])
theorem Uq (w:qg) (k:zP) (B:List C) (pn pc:Nat) (hB:(B.all C.stayB)=true) (hl:w.kept.length<=90000) (hR:qI jP zP.slot w.kept) (hn:U0 k.slot w.kept=false):XG Tryz.prog G 179 [zpu w (.sl 4 (zH w.kept)) (.bs 0 0 6 pn pc),.agg (j6 k)] [B] 0 (zqr w k B pn pc):=by
 obtain ⟨_,_,h3,h4⟩:=VX (o:=jP) k.slot hR
 have hll:(zH w.kept).length=w.kept.length:=List.length_map ..
 have hat:=yU (G:=G) w.kept k.slot (by omega) hR
 have hrl:=Zp (o:=jP) (key:=zP.slot) k.slot w.kept
 have hn':J3 zP.slot k.slot w.kept=false:=hn
 rw[hn']at hat
 have hw:qv k w.kept=w.kept.take (qq jP zP.slot k.slot w.kept)++k :: w.kept.drop (qq jP zP.slot k.slot w.kept):=(h4 hn').2.2 k rfl
 have hset:zH (qv k w.kept)=(zH w.kept).take (qq jP zP.slot k.slot w.kept)++j6 k :: (zH w.kept).drop (qq jP zP.slot k.slot w.kept):=by rw[hw];simp
 have hsl:(zH (qv k w.kept)).length=(zH w.kept).length+1:=by rw[hset];simp;omega
 refine foX (fun i=>if i=2 then VQ [(0,.pure),(1,.pure),(2,.pure),(4,.pure),(5,.pure),(6,.pure),(3,.flt [3,4,5]),(7,.bar),(8,.pure),(9,.pure),(10,.bar)] else []) Tryz.func179 ?_;dsimp only[Tryz.f179]
 have hBr:∀ fp fo,C.reL fp fo B=B:=fun fp fo=>zB hB
 push_cast -dsimp
 refine cl (hat) ?_;push_cast -dsimp
 refine zmk [] (Hn (zH w.kept) qc zw (by omega)) (by decide) (by simp) (by push_cast -dsimp) (by push_cast -dsimp) (fun r bx' m hp=>?_)
 obtain ⟨rfl,⟨hne,c,h1,h2,rfl,rfl⟩ | ⟨he,⟨rfl,rfl⟩ | ⟨rfl,rfl⟩⟩⟩:=hp
 ·have hbl:=JI qc h1
  have hre:∀ fp fo,C.reL fp fo (qw 4 (zH w.kept) c)=qw 4 (zH w.kept) c:=fun fp fo=>zB (zF zw)
  have hpos:=List.length_pos_iff.2 hne
  have hre2:∀ fp fo c,C.reL fp fo (qw 4 (zH (qv k w.kept)) c)=qw 4 (zH (qv k w.kept)) c:=fun fp fo c=>zB (zF zw)
  push_cast -dsimp [hre,hBr]
  refine Jl [5] [0] (Uc (e:=92) (zH w.kept) (j6 k) (qq jP zP.slot k.slot w.kept) c qc rfl zw rfl (by omega) (by omega) h1 h2) rfl (by decide) (by decide) (by simp) (by push_cast -dsimp [hBr]) (by push_cast -dsimp [hre,hBr]) (fun r bx' m hp=>?_)
  rw[←hset]at hp
  obtain ⟨rfl,c',g1,g2,⟨rfl,rfl⟩ | ⟨rfl,rfl⟩⟩:=hp
  ·push_cast -dsimp [hre2,hre,hBr]
   refine ⟨_,_,0,⟨⟨rfl,c',[[]],.inr (.inl ⟨[],rfl,rfl⟩),g1,g2,rfl,rfl⟩,by simp⟩,[],rfl,rfl,?_,by push_cast -dsimp [ze,zd,CLe,zg]⟩
   push_cast -dsimp [ze,zd,CLe,zg]
   exact ⟨zT hB,zT (zF zw)⟩
  ·have hra:∀ fp fo,C.reL fp fo (List.replicate (c*4) .any)=List.replicate (c*4) .any:=fun fp fo=>zB (by simp[List.all_replicate,C.stayB])
   push_cast -dsimp [hre2,hre,hra,hBr]
   refine ⟨_,_,0,⟨⟨rfl,c',[[],List.replicate (c*4) .any],.inr (.inr ⟨[],_,rfl,rfl,by simp[List.all_replicate,C.stayB]⟩),g1,g2,rfl,rfl⟩,by simp⟩,[],rfl,rfl,?_,by push_cast -dsimp [ze,zd,CLe,zg]⟩
   push_cast -dsimp [ze,zd,CLe,zg]
   exact ⟨zT hB,zT (by simp[List.all_replicate,C.stayB]),zT (zF zw)⟩
 ·have he:w.kept = []:=by simpa using he
  have hr0:qq jP zP.slot k.slot w.kept=0:=by rw[he];rfl
  have hs1:qv k w.kept = [k]:=by rw[he];rfl
  push_cast -dsimp [hr0]
  refine Jl [] [0] (uI (e:=92) (j6 k) rfl rfl) rfl (by decide) (by decide) (by simp) (by push_cast -dsimp) (by push_cast -dsimp) (fun r bx' m hp=>?_)
  obtain ⟨rfl,c,g1,g2,rfl,rfl⟩:=hp
  have hre:∀ fp fo,C.reL fp fo (qw 4 [j6 k] c)=qw 4 [j6 k] c:=fun fp fo=>zB (zF (zw (ks:=[k])))
  push_cast -dsimp [hre,hBr]
  refine ⟨zpu w (.bs 4 0 4 1 c) (.bs 0 0 6 pn pc),B :: [.any,.any,.any,.any,.any,.any] :: [.any,.any,.any,.any] :: [.any,.any,.any,.any,.any,.any] :: ([]++[qw 4 [j6 k] c]),0,⟨⟨rfl,c,[],.inl rfl,by rw[hs1];exact g1,g2,by rw[hs1];rfl,by rw[hs1];rfl⟩,by simp⟩,[],rfl,rfl,?_,by push_cast -dsimp [ze,zd,CLe,zg]⟩
  push_cast -dsimp [ze,zd,CLe,zg]
  exact ⟨zT hB,zT (zF (zw (ks:=[k])))⟩
 ·have he:w.kept = []:=by simpa using he
  have hr0:qq jP zP.slot k.slot w.kept=0:=by rw[he];rfl
  have hs1:qv k w.kept = [k]:=by rw[he];rfl
  push_cast -dsimp [hr0]
  refine Jl [4] [0] (Uc (e:=92) [] (j6 k) 0 0 (fun r hr=>by cases hr) rfl (fun r hr=>by cases hr) rfl (by simp) (by simp) (by simp) (by simp)) rfl (by decide) (by decide) (by simp) (by push_cast -dsimp) (by push_cast -dsimp [qw]) (fun r bx' m hp=>?_)
  obtain ⟨rfl,c,g1,g2,hp⟩:=hp
  have hre:∀ fp fo,C.reL fp fo (qw 4 [j6 k] c)=qw 4 [j6 k] c:=fun fp fo=>zB (zF (zw (ks:=[k])))
  rcases hp with ⟨rfl,rfl⟩ | ⟨rfl,rfl⟩
  ·push_cast -dsimp [hre,hBr]
   refine ⟨zpu w (.bs 4 0 4 1 c) (.bs 0 0 6 pn pc),B :: [.any,.any,.any,.any,.any,.any] :: [.any,.any,.any,.any] :: [.any,.any,.any,.any,.any,.any] :: ([]++[qw 4 [j6 k] c]),0,⟨⟨rfl,c,[],.inl rfl,by rw[hs1];exact g1,g2,by rw[hs1];rfl,by rw[hs1];rfl⟩,by simp⟩,[],rfl,rfl,?_,by push_cast -dsimp [ze,zd,CLe,zg]⟩
   push_cast -dsimp [ze,zd,CLe,zg]
   exact ⟨zT hB,zT (zF (zw (ks:=[k])))⟩
  ·push_cast -dsimp [hre,hBr]
   refine ⟨zpu w (.bs 5 0 4 1 c) (.bs 0 0 6 pn pc),B :: [.any,.any,.any,.any,.any,.any] :: [.any,.any,.any,.any] :: [.any,.any,.any,.any,.any,.any] :: ([[]]++[qw 4 [j6 k] c]),0,⟨⟨rfl,c,[[]],.inr (.inl ⟨[],rfl,rfl⟩),by rw[hs1];exact g1,g2,by rw[hs1];rfl,by rw[hs1];rfl⟩,by simp⟩,[],rfl,rfl,?_,by push_cast -dsimp [ze,zd,CLe,zg]⟩
   push_cast -dsimp [ze,zd,CLe,zg]
   exact ⟨zT hB,zT (zF (zw (ks:=[k])))⟩
end
end
section
open CA CB
open Go.RowKit
theorem jo {bx:List (List C)} {a b:Nat×TypeId×Nat×List (List C)×Nat} (h1:zaq [a] bx) (h2:zaq [b] bx) (hne:a.1≠b.1):zaq [a,b] bx:=⟨by simp[hne],fun x hx=>by
 rcases List.mem_cons.1 hx with rfl | hx
 ·exact h1.2 _ List.mem_cons_self
 ·exact h2.2 _ hx⟩
theorem zbc {f:FsV} (hf:FsI f) {s:qy} (hs:zR f s):(zD f s).xs.length<=f.xs.length:=by
 have hi:=zR.ino hf hs
 have hl:=qP (F:=zj s.name) hf.rises hs.has
 unfold zD
 split
 ·show (qj _ _).length<=_
  exact Nat.le_trans Zb (by rw[hl];exact Nat.le_refl _)
 ·show (qm _ _).length<=_
  rw[JH (show z7 (qk s.dir (zj s.name) f.xs) from z6 hf.rises) ?_,hl]
  ·exact Nat.le_refl _
  ·show zn (zh s.ino f.xs).ino (qk _ _ _)=true
   rw[(zk hi).2.2,zU hs.has];exact hi
theorem zj9 {xs:List zp} (h:z7 xs):qI jP zp.ino xs:=List.Pairwise.imp (fun {a b} h=>by show decide (a.ino<b.ino)=true;exact decide_eq_true h) h
theorem zj0 (x:zp):∀ xs:List zp,ZL x xs=Xr jP zp.ino x xs
 | []=>rfl
 | y :: r=>by
  unfold ZL Xr
  rw[zj0 x r]
  have e:jP.lt x.ino y.ino=decide (x.ino<y.ino):=rfl
  rw[e]
  by_cases h:x.ino<y.ino
  ·rw[if_pos h,if_pos (decide_eq_true h)]
  ·rw[if_neg h,if_neg (by simpa using h)]
theorem zlL {x:zp} {xs:List zp} (hR:z7 xs) (h:∀ y∈xs,y.ino≠x.ino):qm x xs=xs.take (qq jP zp.ino x.ino xs)++x :: xs.drop (qq jP zp.ino x.ino xs):=by
 have h1:qj x.ino xs=xs:=List.filter_eq_self.2 fun y hy=>by simpa using h y hy
 have h2:J3 zp.ino x.ino xs=false:=by
  unfold J3
  rw[List.any_eq_false]
  intro y hy
  simpa using h y hy
 obtain ⟨_,_,_,h4⟩:=VX (o:=jP) x.ino (zj9 hR)
 unfold qm
 rw[h1,zj0]
 exact (h4 h2).2.2 x rfl
theorem zhy (w:qg) (hw:J9 w) (hs:FsS w.fs) (hk:w.kept.length<=90000) (hp:w.pool.length<=90000) (n:Int) (s:qy) (hsp:zR w.fs s) (he:(zh s.ino w.fs.xs).es = []):Fun Tryz.prog G0 146 [jB w,.sc (.int .i64 n),.agg (YJ s)] (.tup [jB (JA w n s).1,.sc (.int .i64 (JA w n s).2)]) 0:=by
 have hf:=hw.fs
 have hlen:=hs.len
 have hino:=hsp.ino hf
 have h1:=N6 (G:=G0) w n (by omega) hw.kept
 cases hh:U0 n w.kept with
 | true =>
  have e:JA w n s=(w,13):=by unfold JA;rw[hh];rfl
  rw[hh]at h1
  refine fof (fun i=>if i=10 then VQ [(0,.pure),(1,.pure),(2,.pure),(4,.pure),(5,.pure),(6,.pure),(3,.flt [3,4,5]),(7,.bar),(8,.pure),(9,.pure),(10,.bar)] else []) Tryz.func146 ?_;dsimp only[Tryz.f146]
  push_cast -dsimp
  refine cl (h1) ?_;push_cast -dsimp
  exact dn (by push_cast -dsimp [ze,zd,CLe,zg,e])
 | false =>
  rw[hh]at h1
  have hg:=jY (G:=G0) w.fs s.ino (by omega) hf.rises
  rw[hino]at hg
  have hne:s.dir≠s.ino:=fun e=>by
   have:=hsp.there
   rw[e,he]at this;cases this
  have hu:=zbE w.fs hf hs s hsp hne
  have hul:=zbc hf hsp
  have hg2:=jY (G:=G0) (zD w.fs s) s.ino (by omega) (U2 hf hsp he).rises
  rw[Z5 hsp.has hino]at hg2
  by_cases hz:(zh s.ino w.fs.xs).links=1
  ·rw[if_pos (show (zh s.ino w.fs.xs).links-1=0 by omega)]at hg2
   simp only[decide_true,Bool.not_true,Bool.false_and]at hg2
   have hxi:=(zk hino).2.2
   have hno:∀ y∈w.pool,y.ino≠s.ino:=fun y hy e=>by
    have:=(hw.apart y hy).1
    rw[e,hino]at this;cases this
   have hnk:J3 zp.ino s.ino w.pool=false:=by
    unfold J3
    rw[List.any_eq_false]
    intro y hy
    simpa using hno y hy
   have e:JA w n s=(⟨zD w.fs s,qv ⟨n,s.ino,false,[]⟩ w.kept,qm { zh s.ino w.fs.xs with links:=0,parent:=0 } w.pool⟩,0):=by unfold JA;rw[hh,if_pos hz];rfl
   have hset:=zlL (x:={ zh s.ino w.fs.xs with links:=0,parent:=0 }) hw.pool (fun y hy=>by rw[show ({ zh s.ino w.fs.xs with links:=0,parent:=0 }:zp).ino=(zh s.ino w.fs.xs).ino from rfl,hxi];exact hno y hy)
   rw[show ({ zh s.ino w.fs.xs with links:=0,parent:=0 }:zp).ino=s.ino from hxi]at hset
   have hat:=zlU (G:=G0) w.pool s.ino (by omega) (zj9 hw.pool)
   rw[hnk]at hat
   have hll:(zt w.pool).length=w.pool.length:=List.length_map ..
   have hrl:=Zp (o:=jP) (key:=zp.ino) s.ino w.pool
   generalize qq jP zp.ino s.ino w.pool=r at *
   generalize hpl:qm { zh s.ino w.fs.xs with links:=0,parent:=0 } w.pool=pl at *
   have hpc:zt pl=(zt w.pool).take r++[.sc (.int .i64 s.ino),.sc (.int .i64 (zh s.ino w.fs.xs).kind),.sc (.int .i64 0),.str (zh s.ino w.fs.xs).data,.sc (.int .i64 0),.sl 2 (zJ (zh s.ino w.fs.xs).es)] :: (zt w.pool).drop r:=by rw[hset];simp[hxi]
   have hpl1:(zt pl).length=(zt w.pool).length+1:=by rw[hpc];simp;omega
   have hre2:∀ fp fo c,C.reL fp fo (qw 6 (zt pl) c)=qw 6 (zt pl) c:=fun fp fo c=>zB (zF zu)
   have hre4:∀ fp fo c,C.reL fp fo (qw 4 (zH (qv ⟨n,s.ino,false,[]⟩ w.kept)) c)=qw 4 (zH (qv ⟨n,s.ino,false,[]⟩ w.kept)) c:=fun fp fo c=>zB (zF zw)
   have hkp:0<(zH (qv ⟨n,s.ino,false,[]⟩ w.kept)).length:=by rw[List.length_map,qv,V0];omega
   refine foF (fun i=>if i=10 then VQ [(0,.pure),(1,.pure),(2,.pure),(4,.pure),(5,.pure),(6,.pure),(3,.flt [3,4,5]),(7,.bar),(8,.pure),(9,.pure),(10,.bar)] else []) Tryz.func146 ?_;dsimp only[Tryz.f146]
   push_cast -dsimp
   refine cl (h1) ?_;push_cast -dsimp
   refine cl (hg) ?_;push_cast -dsimp
   refine cl (hu) ?_;push_cast -dsimp
   refine cl (hg2) ?_;push_cast -dsimp
   rw[hxi]
   refine cl (hat) ?_;push_cast -dsimp
   refine zmk [] (Qo (zt w.pool) zY zu (by omega)) (by decide) (by simp) (by push_cast -dsimp) (by push_cast -dsimp) (fun r0 bx' m hp=>?_)
   obtain ⟨rfl,⟨hne',c,c1,c2,rfl,rfl⟩ | ⟨hnil,⟨rfl,rfl⟩ | ⟨rfl,rfl⟩⟩⟩:=hp
   ·have hbl:=JI zY c1
    have hre:∀ fp fo,C.reL fp fo (qw 6 (zt w.pool) c)=qw 6 (zt w.pool) c:=fun fp fo=>zB (zF zu)
    push_cast -dsimp [hre]
    refine Jl [7] [0] (V3 (e:=75) (zt w.pool) [.sc (.int .i64 s.ino),.sc (.int .i64 (zh s.ino w.fs.xs).kind),.sc (.int .i64 0),.str (zh s.ino w.fs.xs).data,.sc (.int .i64 0),.sl 2 (zJ (zh s.ino w.fs.xs).es)] r c zY rfl zu rfl (by omega) (by omega) c1 c2) rfl (by decide) (by decide) (by simp) (by push_cast -dsimp) (by push_cast -dsimp [hre]) (fun r1 bx' m hp=>?_)
    rw[←hpc]at hp
    obtain ⟨rfl,c',g1,g2,⟨rfl,rfl⟩ | ⟨rfl,rfl⟩⟩:=hp
    ·push_cast -dsimp [hre2,hre]
     refine Jl [7] [] (Uq (G:=G0) { w with fs:=zD w.fs s } ⟨n,s.ino,false,[]⟩ (qw 6 (zt pl) c') (zt pl).length c' (zF zu) hk hw.kept hh) rfl (by decide) (by decide) (by simp) (by push_cast -dsimp) (by push_cast -dsimp [hre2]) (fun r2 bx' m hp=>?_)
     obtain ⟨rfl,c3,Ls,hLs,k1,k2,rfl,rfl⟩:=hp
     rcases hLs with rfl | ⟨X,rfl,hX⟩ | ⟨X,Y,rfl,hX,hY⟩
     ·push_cast -dsimp [hre2,hre4]
      exact ⟨[(11,92,4,zH (qv ⟨n,s.ino,false,[]⟩ w.kept),c3),(7,75,6,zt pl,c')],[],jo (zA rfl (Nat.lt_of_lt_of_le hkp k1) k1 k2 qc zw) (zA rfl (by omega) g1 g2 zY zu) (show (11:Nat)≠7 by decide),rfl,rfl,by push_cast -dsimp [ze,zd,CLe,zg,e,false_and,if_false]⟩
     ·have hXr:∀ fp fo,C.reL fp fo X=X:=fun fp fo=>zB hX
      push_cast -dsimp [hre2,hre4,hXr]
      exact ⟨[(12,92,4,zH (qv ⟨n,s.ino,false,[]⟩ w.kept),c3),(7,75,6,zt pl,c')],[],jo (zA rfl (Nat.lt_of_lt_of_le hkp k1) k1 k2 qc zw) (zA rfl (by omega) g1 g2 zY zu) (show (12:Nat)≠7 by decide),rfl,rfl,by push_cast -dsimp [ze,zd,CLe,zg,e,false_and,if_false]⟩
     ·have hXr:∀ fp fo,C.reL fp fo X=X:=fun fp fo=>zB hX
      have hYr:∀ fp fo,C.reL fp fo Y=Y:=fun fp fo=>zB hY
      push_cast -dsimp [hre2,hre4,hXr,hYr]
      exact ⟨[(13,92,4,zH (qv ⟨n,s.ino,false,[]⟩ w.kept),c3),(7,75,6,zt pl,c')],[],jo (zA rfl (Nat.lt_of_lt_of_le hkp k1) k1 k2 qc zw) (zA rfl (by omega) g1 g2 zY zu) (show (13:Nat)≠7 by decide),rfl,rfl,by push_cast -dsimp [ze,zd,CLe,zg,e,false_and,if_false]⟩
    ·have hra:∀ fp fo,C.reL fp fo (List.replicate (c*6) .any)=List.replicate (c*6) .any:=fun fp fo=>zB (by simp[List.all_replicate,C.stayB])
     push_cast -dsimp [hre2,hre,hra]
     refine Jl [8] [] (Uq (G:=G0) { w with fs:=zD w.fs s } ⟨n,s.ino,false,[]⟩ (qw 6 (zt pl) c') (zt pl).length c' (zF zu) hk hw.kept hh) rfl (by decide) (by decide) (by simp) (by push_cast -dsimp) (by push_cast -dsimp [hre2,hra]) (fun r2 bx' m hp=>?_)
     obtain ⟨rfl,c3,Ls,hLs,k1,k2,rfl,rfl⟩:=hp
     rcases hLs with rfl | ⟨X,rfl,hX⟩ | ⟨X,Y,rfl,hX,hY⟩
     ·push_cast -dsimp [hre2,hre4,hra]
      exact ⟨[(12,92,4,zH (qv ⟨n,s.ino,false,[]⟩ w.kept),c3),(8,75,6,zt pl,c')],[],jo (zA rfl (Nat.lt_of_lt_of_le hkp k1) k1 k2 qc zw) (zA rfl (by omega) g1 g2 zY zu) (show (12:Nat)≠8 by decide),rfl,rfl,by push_cast -dsimp [ze,zd,CLe,zg,e,false_and,if_false]⟩
     ·have hXr:∀ fp fo,C.reL fp fo X=X:=fun fp fo=>zB hX
      push_cast -dsimp [hre2,hre4,hra,hXr]
      exact ⟨[(13,92,4,zH (qv ⟨n,s.ino,false,[]⟩ w.kept),c3),(8,75,6,zt pl,c')],[],jo (zA rfl (Nat.lt_of_lt_of_le hkp k1) k1 k2 qc zw) (zA rfl (by omega) g1 g2 zY zu) (show (13:Nat)≠8 by decide),rfl,rfl,by push_cast -dsimp [ze,zd,CLe,zg,e,false_and,if_false]⟩
     ·have hXr:∀ fp fo,C.reL fp fo X=X:=fun fp fo=>zB hX
      have hYr:∀ fp fo,C.reL fp fo Y=Y:=fun fp fo=>zB hY
      push_cast -dsimp [hre2,hre4,hra,hXr,hYr]
      exact ⟨[(14,92,4,zH (qv ⟨n,s.ino,false,[]⟩ w.kept),c3),(8,75,6,zt pl,c')],[],jo (zA rfl (Nat.lt_of_lt_of_le hkp k1) k1 k2 qc zw) (zA rfl (by omega) g1 g2 zY zu) (show (14:Nat)≠8 by decide),rfl,rfl,by push_cast -dsimp [ze,zd,CLe,zg,e,false_and,if_false]⟩
   ·have hpe:w.pool = []:=by simpa using hnil
    have hr0:r=0:=by rw[hpe]at hrl;exact Nat.le_zero.1 hrl
    subst hr0
    have hq:zt pl = [[.sc (.int .i64 s.ino),.sc (.int .i64 (zh s.ino w.fs.xs).kind),.sc (.int .i64 0),.str (zh s.ino w.fs.xs).data,.sc (.int .i64 0),.sl 2 (zJ (zh s.ino w.fs.xs).es)]]:=by rw[hpc,hpe];rfl
    push_cast -dsimp
    refine Jl [] [0] (zad (e:=75) [.sc (.int .i64 s.ino),.sc (.int .i64 (zh s.ino w.fs.xs).kind),.sc (.int .i64 0),.str (zh s.ino w.fs.xs).data,.sc (.int .i64 0),.sl 2 (zJ (zh s.ino w.fs.xs).es)] rfl rfl) rfl (by decide) (by decide) (by simp) (by push_cast -dsimp) (by push_cast -dsimp) (fun r1 bx' m hp=>?_)
    have hp:m=0/\∃ c,(zt pl).length<=c/\c<=9223372036854775807/\r1 = .bs 0 0 6 (zt pl).length c/\bx' = [qw 6 (zt pl) c]:=by rw[hq];exact hp
    obtain ⟨rfl,c',g1,g2,rfl,rfl⟩:=hp
    push_cast -dsimp [hre2]
    refine Jl [6] [] (Uq (G:=G0) { w with fs:=zD w.fs s } ⟨n,s.ino,false,[]⟩ (qw 6 (zt pl) c') (zt pl).length c' (zF zu) hk hw.kept hh) rfl (by decide) (by decide) (by simp) (by push_cast -dsimp) (by push_cast -dsimp [hre2]) (fun r2 bx' m hp=>?_)
    obtain ⟨rfl,c3,Ls,hLs,k1,k2,rfl,rfl⟩:=hp
    rcases hLs with rfl | ⟨X,rfl,hX⟩ | ⟨X,Y,rfl,hX,hY⟩
    ·push_cast -dsimp [hre2,hre4]
     exact ⟨[(10,92,4,zH (qv ⟨n,s.ino,false,[]⟩ w.kept),c3),(6,75,6,zt pl,c')],[],jo (zA rfl (Nat.lt_of_lt_of_le hkp k1) k1 k2 qc zw) (zA rfl (by omega) g1 g2 zY zu) (show (10:Nat)≠6 by decide),rfl,rfl,by push_cast -dsimp [ze,zd,CLe,zg,e,false_and,if_false]⟩
    ·have hXr:∀ fp fo,C.reL fp fo X=X:=fun fp fo=>zB hX
     push_cast -dsimp [hre2,hre4,hXr]
     exact ⟨[(11,92,4,zH (qv ⟨n,s.ino,false,[]⟩ w.kept),c3),(6,75,6,zt pl,c')],[],jo (zA rfl (Nat.lt_of_lt_of_le hkp k1) k1 k2 qc zw) (zA rfl (by omega) g1 g2 zY zu) (show (11:Nat)≠6 by decide),rfl,rfl,by push_cast -dsimp [ze,zd,CLe,zg,e,false_and,if_false]⟩
    ·have hXr:∀ fp fo,C.reL fp fo X=X:=fun fp fo=>zB hX
     have hYr:∀ fp fo,C.reL fp fo Y=Y:=fun fp fo=>zB hY
     push_cast -dsimp [hre2,hre4,hXr,hYr]
     exact ⟨[(12,92,4,zH (qv ⟨n,s.ino,false,[]⟩ w.kept),c3),(6,75,6,zt pl,c')],[],jo (zA rfl (Nat.lt_of_lt_of_le hkp k1) k1 k2 qc zw) (zA rfl (by omega) g1 g2 zY zu) (show (12:Nat)≠6 by decide),rfl,rfl,by push_cast -dsimp [ze,zd,CLe,zg,e,false_and,if_false]⟩
   ·have hpe:w.pool = []:=by simpa using hnil
    have hr0:r=0:=by rw[hpe]at hrl;exact Nat.le_zero.1 hrl
    subst hr0
    have hq:zt pl = [[.sc (.int .i64 s.ino),.sc (.int .i64 (zh s.ino w.fs.xs).kind),.sc (.int .i64 0),.str (zh s.ino w.fs.xs).data,.sc (.int .i64 0),.sl 2 (zJ (zh s.ino w.fs.xs).es)]]:=by rw[hpc,hpe];rfl
    push_cast -dsimp
    refine Jl [6] [0] (V3 (e:=75) [] [.sc (.int .i64 s.ino),.sc (.int .i64 (zh s.ino w.fs.xs).kind),.sc (.int .i64 0),.str (zh s.ino w.fs.xs).data,.sc (.int .i64 0),.sl 2 (zJ (zh s.ino w.fs.xs).es)] 0 0 (fun r hr=>by cases hr) rfl (fun r hr=>by cases hr) rfl (by simp) (by simp) (by simp) (by simp)) rfl (by decide) (by decide) (by simp) (by push_cast -dsimp) (by push_cast -dsimp [qw]) (fun r1 bx' m hp=>?_)
    have hp:zpW 6 (0*6) (zt pl) r1 bx' m:=by rw[hq];exact hp
    obtain ⟨rfl,c',g1,g2,⟨rfl,rfl⟩ | ⟨rfl,rfl⟩⟩:=hp
    ·push_cast -dsimp [hre2]
     refine Jl [6] [] (Uq (G:=G0) { w with fs:=zD w.fs s } ⟨n,s.ino,false,[]⟩ (qw 6 (zt pl) c') (zt pl).length c' (zF zu) hk hw.kept hh) rfl (by decide) (by decide) (by simp) (by push_cast -dsimp) (by push_cast -dsimp [hre2]) (fun r2 bx' m hp=>?_)
     obtain ⟨rfl,c3,Ls,hLs,k1,k2,rfl,rfl⟩:=hp
     rcases hLs with rfl | ⟨X,rfl,hX⟩ | ⟨X,Y,rfl,hX,hY⟩
     ·push_cast -dsimp [hre2,hre4]
      exact ⟨[(10,92,4,zH (qv ⟨n,s.ino,false,[]⟩ w.kept),c3),(6,75,6,zt pl,c')],[],jo (zA rfl (Nat.lt_of_lt_of_le hkp k1) k1 k2 qc zw) (zA rfl (by omega) g1 g2 zY zu) (show (10:Nat)≠6 by decide),rfl,rfl,by push_cast -dsimp [ze,zd,CLe,zg,e,false_and,if_false]⟩
     ·have hXr:∀ fp fo,C.reL fp fo X=X:=fun fp fo=>zB hX
      push_cast -dsimp [hre2,hre4,hXr]
      exact ⟨[(11,92,4,zH (qv ⟨n,s.ino,false,[]⟩ w.kept),c3),(6,75,6,zt pl,c')],[],jo (zA rfl (Nat.lt_of_lt_of_le hkp k1) k1 k2 qc zw) (zA rfl (by omega) g1 g2 zY zu) (show (11:Nat)≠6 by decide),rfl,rfl,by push_cast -dsimp [ze,zd,CLe,zg,e,false_and,if_false]⟩
     ·have hXr:∀ fp fo,C.reL fp fo X=X:=fun fp fo=>zB hX
      have hYr:∀ fp fo,C.reL fp fo Y=Y:=fun fp fo=>zB hY
      push_cast -dsimp [hre2,hre4,hXr,hYr]
      exact ⟨[(12,92,4,zH (qv ⟨n,s.ino,false,[]⟩ w.kept),c3),(6,75,6,zt pl,c')],[],jo (zA rfl (Nat.lt_of_lt_of_le hkp k1) k1 k2 qc zw) (zA rfl (by omega) g1 g2 zY zu) (show (12:Nat)≠6 by decide),rfl,rfl,by push_cast -dsimp [ze,zd,CLe,zg,e,false_and,if_false]⟩
    ·push_cast -dsimp [hre2]
     refine Jl [7] [] (Uq (G:=G0) { w with fs:=zD w.fs s } ⟨n,s.ino,false,[]⟩ (qw 6 (zt pl) c') (zt pl).length c' (zF zu) hk hw.kept hh) rfl (by decide) (by decide) (by simp) (by push_cast -dsimp) (by push_cast -dsimp [hre2]) (fun r2 bx' m hp=>?_)
     obtain ⟨rfl,c3,Ls,hLs,k1,k2,rfl,rfl⟩:=hp
     rcases hLs with rfl | ⟨X,rfl,hX⟩ | ⟨X,Y,rfl,hX,hY⟩
     ·push_cast -dsimp [hre2,hre4]
      exact ⟨[(11,92,4,zH (qv ⟨n,s.ino,false,[]⟩ w.kept),c3),(7,75,6,zt pl,c')],[],jo (zA rfl (Nat.lt_of_lt_of_le hkp k1) k1 k2 qc zw) (zA rfl (by omega) g1 g2 zY zu) (show (11:Nat)≠7 by decide),rfl,rfl,by push_cast -dsimp [ze,zd,CLe,zg,e,false_and,if_false]⟩
     ·have hXr:∀ fp fo,C.reL fp fo X=X:=fun fp fo=>zB hX
      push_cast -dsimp [hre2,hre4,hXr]
      exact ⟨[(12,92,4,zH (qv ⟨n,s.ino,false,[]⟩ w.kept),c3),(7,75,6,zt pl,c')],[],jo (zA rfl (Nat.lt_of_lt_of_le hkp k1) k1 k2 qc zw) (zA rfl (by omega) g1 g2 zY zu) (show (12:Nat)≠7 by decide),rfl,rfl,by push_cast -dsimp [ze,zd,CLe,zg,e,false_and,if_false]⟩
     ·have hXr:∀ fp fo,C.reL fp fo X=X:=fun fp fo=>zB hX
      have hYr:∀ fp fo,C.reL fp fo Y=Y:=fun fp fo=>zB hY
      push_cast -dsimp [hre2,hre4,hXr,hYr]
      exact ⟨[(13,92,4,zH (qv ⟨n,s.ino,false,[]⟩ w.kept),c3),(7,75,6,zt pl,c')],[],jo (zA rfl (Nat.lt_of_lt_of_le hkp k1) k1 k2 qc zw) (zA rfl (by omega) g1 g2 zY zu) (show (13:Nat)≠7 by decide),rfl,rfl,by push_cast -dsimp [ze,zd,CLe,zg,e,false_and,if_false]⟩
  ·have hz2:¬(zh s.ino w.fs.xs).links-1=0:=by omega
   rw[if_neg hz2,hino]at hg2
   have e:JA w n s=({ w with fs:=zD w.fs s,kept:=qv ⟨n,s.ino,false,[]⟩ w.kept },0):=by unfold JA;rw[hh,if_neg hz];rfl
   have hwi:=N2 (G:=G0) { w with fs:=zD w.fs s } ⟨n,s.ino,false,[]⟩ hk hw.kept hh
   refine fof (fun i=>if i=10 then VQ [(0,.pure),(1,.pure),(2,.pure),(4,.pure),(5,.pure),(6,.pure),(3,.flt [3,4,5]),(7,.bar),(8,.pure),(9,.pure),(10,.bar)] else []) Tryz.func146 ?_;dsimp only[Tryz.f146]
   push_cast -dsimp
   refine cl (h1) ?_;push_cast -dsimp
   refine cl (hg) ?_;push_cast -dsimp
   refine cl (hu) ?_;push_cast -dsimp
   refine cl (hg2) ?_;push_cast -dsimp
   refine cl (hwi) ?_;push_cast -dsimp
   exact dn (by push_cast -dsimp [ze,zd,CLe,zg,e])
end
section
open CA CB
open Go.RowKit
theorem xn (w:qg) (hf:FsI w.fs) (hs:FsS w.fs) (hk:w.kept.length<=90000) (hR:qI jP zP.slot w.kept) (n i:Int):Fun Tryz.prog G0 168 [jB w,.sc (.int .i64 n),.sc (.int .i64 i)] (.tup [jB (zV w n i).1,.sc (.int .i64 (zV w n i).2)]) 0:=by
 have hlen:=hs.len
 have h1:=N6 (G:=G0) w n (by omega) hR
 have hg:=jY (G:=G0) w.fs i (by omega) hf.rises
 cases hh:U0 n w.kept with
 | true =>
  have e:zV w n i=(w,13):=by unfold zV;rw[hh];rfl
  rw[hh]at h1
  refine fon Tryz.func168 ?_;dsimp only[Tryz.f168]
  push_cast -dsimp
  refine cl (h1) ?_;push_cast -dsimp
  exact dn (by push_cast -dsimp [ze,zd,CLe,zg,e])
 | false =>
  have e:zV w n i=({ w with kept:=qv ⟨n,i,true,(zh i w.fs.xs).data⟩ w.kept },0):=by unfold zV;rw[hh];rfl
  have hw:=N2 (G:=G0) w ⟨n,i,true,(zh i w.fs.xs).data⟩ hk hR hh
  rw[hh]at h1
  refine fon Tryz.func168 ?_;dsimp only[Tryz.f168]
  push_cast -dsimp
  refine cl (h1) ?_;push_cast -dsimp
  refine cl (hg) ?_;push_cast -dsimp
  refine cl (hw) ?_;push_cast -dsimp
  exact dn (by push_cast -dsimp [ze,zd,CLe,zg,e])
end
section
open CA CB
open Go.RowKit
theorem zpd {f:FsV} (hf:FsI f) (p:List UInt8):(atV f p).1.ino≠0->zn (atV f p).1.ino f.xs=true:=by
 unfold atV
 split
 ·exact ze8 hf (zI p) ⟨0,[],1⟩ fun _=>hf.root
 ·intro h;exact absurd rfl h
theorem zgt {f:FsV} (hf:FsI f) (p:List UInt8):zn (atV f p).1.ino f.xs = !decide ((atV f p).1.ino=0):=by
 by_cases h:(atV f p).1.ino=0
 ·rw[decide_eq_true h]
  cases hh:zn (atV f p).1.ino f.xs with
  | false=>rfl
  | true=>exact absurd h (zdo hf hh)
 ·rw[zpd hf p h,decide_eq_false h];rfl
theorem G6 (f:FsV) (hf:FsI f) (hs:FsS f) (p:List UInt8) (hp:p.length<=100000):Fun Tryz.prog G0 165 [.agg (fsC f),.str p] (.tup [.agg (YJ (isV f p false).1),.sc (.int .i64 (isV f p false).2.2)]) 0:=by
 have h1:=uW f hf hs p hp
 have hi:=zgt hf p
 have e1:(isV f p false).1=(atV f p).1:=rfl
 by_cases h0:(atV f p).2=0
 ·have h0':=eq_true h0
  by_cases hz:(atV f p).1.ino=0
  ·have hz':=eq_true hz
   rw[decide_eq_true hz]at hi
   have e3:(isV f p false).2.2=0:=by unfold isV;simp[h0,hi]
   refine fon Tryz.func165 ?_;dsimp only[Tryz.f165]
   push_cast -dsimp
   refine cl (h1) ?_;push_cast -dsimp [h0',hz']
   exact dn (by push_cast -dsimp [ze,zd,CLe,zg,e1,e3])
  ·have hz':=eq_false hz
   rw[decide_eq_false hz]at hi
   have e3:(isV f p false).2.2=2:=by unfold isV;simp[h0,hi]
   refine fon Tryz.func165 ?_;dsimp only[Tryz.f165]
   push_cast -dsimp
   refine cl (h1) ?_;push_cast -dsimp [h0',hz']
   exact dn (by push_cast -dsimp [ze,zd,CLe,zg,e1,e3])
 ·have h0':=eq_false h0
  have e3:(isV f p false).2.2=(atV f p).2:=by unfold isV;simp[h0]
  refine fon Tryz.func165 ?_;dsimp only[Tryz.f165]
  push_cast -dsimp
  refine cl (h1) ?_;push_cast -dsimp [h0']
  exact dn (by push_cast -dsimp [ze,zd,CLe,zg,e1,e3])
theorem zcq {f:FsV} (hf:FsI f) {p:List UInt8} (h:(isV f p true).2.2=0):(isV f p true).2.1.kind=1∨(isV f p true).2.1.kind=2∨(isV f p true).2.1.kind=3:=by
 have hz:=Xs h
 have hh:zn (atV f p).1.ino f.xs=true:=by
  unfold isV at h
  simp only[hz]at h
  cases hq:zn (atV f p).1.ino f.xs with
  | true=>rfl
  | false=>rw[hq]at h;simp at h
 exact hf.kind _ (zk hh).2.1
theorem Nb (f:FsV) (hf:FsI f) (hs:FsS f) (p:List UInt8) (hp:p.length<=100000):Fun Tryz.prog G0 167 [.agg (fsC f),.str p] (.tup [.agg (J4 (zL f p).1),.sc (.int .i64 (zL f p).2)]) 0:=by
 have h1:=ZI f hf hs p hp
 have e1:(zL f p).1=(isV f p true).2.1:=rfl
 have e2:(zL f p).2=if (isV f p true).2.2≠0 then (isV f p true).2.2 else if (isV f p true).2.1.kind=2 then 4 else if (isV f p true).2.1.kind=3 then 9 else 0:=rfl
 have hkt:=fun h=>zcq hf (p:=p) h
 generalize isV f p true=r at h1 e1 e2 hkt
 obtain ⟨s,x,w⟩:=r
 simp only at h1 e1 e2 hkt
 by_cases h0:w=0
 ·have h0':=eq_true h0
  by_cases k2:x.kind=2
  ·have k2':=eq_true k2
   have e3:(zL f p).2=4:=by rw[e2];simp[h0,k2]
   refine fon Tryz.func167 ?_;dsimp only[Tryz.f167]
   push_cast -dsimp
   refine cl (h1) ?_;push_cast -dsimp [h0',k2']
   exact dn (by push_cast -dsimp [ze,zd,CLe,zg,e1,e3])
  ·have k2':=eq_false k2
   by_cases k1:x.kind=1
   ·have k1':=eq_true k1
    have e3:(zL f p).2=0:=by rw[e2];simp[h0,k1]
    refine fon Tryz.func167 ?_;dsimp only[Tryz.f167]
    push_cast -dsimp
    refine cl (h1) ?_;push_cast -dsimp [h0',k2',k1']
    exact dn (by push_cast -dsimp [ze,zd,CLe,zg,e1,e3])
   ·have k1':=eq_false k1
    have k3:x.kind=3:=by rcases hkt h0 with h | h | h;exact absurd h k1;exact absurd h k2;exact h
    have e3:(zL f p).2=9:=by rw[e2];simp[h0,k3]
    refine fon Tryz.func167 ?_;dsimp only[Tryz.f167]
    push_cast -dsimp
    refine cl (h1) ?_;push_cast -dsimp [h0',k2',k1']
    exact dn (by push_cast -dsimp [ze,zd,CLe,zg,e1,e3])
 ·have h0':=eq_false h0
  have e3:(zL f p).2=w:=by rw[e2];simp[h0]
  refine fon Tryz.func167 ?_;dsimp only[Tryz.f167]
  push_cast -dsimp
  refine cl (h1) ?_;push_cast -dsimp [h0']
  exact dn (by push_cast -dsimp [ze,zd,CLe,zg,e1,e3])
structure V1 (w:qg):Prop where
 fs:FsS w.fs
 next:zk0 w.fs
 kept:w.kept.length<=10000
 pool:w.pool.length<=10000
theorem Gz (w:qg) (hw:J9 w) (hs:V1 w) (p:List UInt8) (hp:p.length<=100000) (hpl:zM p=true) (k:Int) (t:List UInt8) (ht:t.length<=10000):Fun Tryz.prog G0 137 [jB w,.str p,.sc (.int .i64 k),.str t] (.tup [jB (j0 w p k t).1,.sc (.int .i64 (j0 w p k t).2)]) 0:=by
 have h1:=G6 w.fs hw.fs hs.fs p hp
 by_cases h0:(isV w.fs p false).2.2=0
 ·have h0':=eq_true h0
  have hfr:=jX hw.fs hpl h0
  have hln:=ub hw.fs hpl (Xs h0)
  have hln:(isV w.fs p false).1.name.length<=300:=hln
  have hc:=zbP w.fs hw.fs hs.fs hs.next (isV w.fs p false).1 hfr (by omega) k t (by omega)
  have e:j0 w p k t=({ w with fs:=(Q3 w.fs (isV w.fs p false).1 k t).1 },(Q3 w.fs (isV w.fs p false).1 k t).2):=by unfold j0;rw[if_neg (by simp[h0])]
  refine fon Tryz.func137 ?_;dsimp only[Tryz.f137]
  push_cast -dsimp
  refine cl (h1) ?_;push_cast -dsimp [h0']
  refine cl (hc) ?_;push_cast -dsimp
  exact dn (by push_cast -dsimp [ze,zd,CLe,zg,e])
 ·have h0':=eq_false h0
  have e:j0 w p k t=(w,(isV w.fs p false).2.2):=by unfold j0;rw[if_pos h0]
  refine fon Tryz.func137 ?_;dsimp only[Tryz.f137]
  push_cast -dsimp
  refine cl (h1) ?_;push_cast -dsimp [h0']
  exact dn (by push_cast -dsimp [ze,zd,CLe,zg,e])
end
section
open CA CB
open Go.RowKit
theorem Zz {w:qg} (hw:J9 w) (hs:V1 w) {p:List UInt8} (hp:zM p=true) (h:(zL w.fs p).2=0):(zL w.fs p).1.data.length<=10000:=by
 obtain ⟨h1,_,h3⟩:=X4 hw.fs hp h
 rw[h3]
 exact (hs.fs.node _ (zk h1).2.1).2.1
theorem zal (w:qg) (hw:J9 w) (hs:V1 w) (o:OpV) (ho:short o) (pa:zM o.a=true) (pb:zM o.b=true):Fun Tryz.prog G0 138 [jB w,.agg (opL o)] (.tup [jB (jM w o).1,.sc (.int .i64 (jM w o).2)]) 0:=by
 have h1:=Nb w.fs hw.fs hs.fs o.a ho.1
 unfold opL
 by_cases h0:(zL w.fs o.a).2=0
 ·have h0':=eq_true h0
  have hm:=Gz w hw hs o.b ho.2.1 pb 1 (zL w.fs o.a).1.data (Zz hw hs pa h0)
  have e:jM w o=j0 w o.b 1 (zL w.fs o.a).1.data:=by unfold jM;rw[if_neg (by simp[h0])]
  refine fon Tryz.func138 ?_;dsimp only[Tryz.f138]
  push_cast -dsimp
  refine cl (h1) ?_;push_cast -dsimp [h0']
  refine cl (hm) ?_;push_cast -dsimp
  exact dn (by push_cast -dsimp [ze,zd,CLe,zg,e])
 ·have h0':=eq_false h0
  have e:jM w o=(w,(zL w.fs o.a).2):=by unfold jM;rw[if_pos h0]
  refine fon Tryz.func138 ?_;dsimp only[Tryz.f138]
  push_cast -dsimp
  refine cl (h1) ?_;push_cast -dsimp [h0']
  exact dn (by push_cast -dsimp [ze,zd,CLe,zg,e])
theorem zaN (w:qg) (hw:J9 w) (hs:V1 w) (o:OpV) (ho:short o) (pa:zM o.a=true) (pb:zM o.b=true):Fun Tryz.prog G0 141 [jB w,.agg (opL o)] (.tup [jB (qD w o).1,.sc (.int .i64 (qD w o).2)]) 0:=by
 have h1:=ZI w.fs hw.fs hs.fs o.a ho.1
 have h2:=G6 w.fs hw.fs hs.fs o.b ho.2.1
 unfold opL
 by_cases h0:(isV w.fs o.a true).2.2=0
 ·have h0':=eq_true h0
  obtain ⟨t1,t2⟩:=qT hw.fs pa h0
  have hi:=zR.ino hw.fs t1
  have hino:(isV w.fs o.a true).2.1.ino=(isV w.fs o.a true).1.ino:=by rw[t2,(zk hi).2.2]
  by_cases hk:(isV w.fs o.a true).2.1.kind=2
  ·have hk':=eq_true hk
   have e:qD w o=(w,11):=by unfold qD;simp[h0,hk]
   refine fon Tryz.func141 ?_;dsimp only[Tryz.f141]
   push_cast -dsimp
   refine cl (h1) ?_;push_cast -dsimp [h0',hk']
   exact dn (by push_cast -dsimp [ze,zd,CLe,zg,e])
  ·have hk':=eq_false hk
   by_cases hb:(isV w.fs o.b false).2.2=0
   ·have hb':=eq_true hb
    have hfree:=jX hw.fs pb hb
    have hne:(isV w.fs o.b false).1.dir≠(isV w.fs o.a true).2.1.ino:=fun e=>by
     rw[hino]at e
     have:=hfree.kind
     rw[e,←t2]at this
     exact hk this
    have hn:=ziY w.fs hw.fs hs.fs (isV w.fs o.b false).1 hfree (isV w.fs o.a true).2.1.ino (by rw[hino];exact hi) hne
    have e:qD w o=({ w with fs:=X3 w.fs (isV w.fs o.b false).1 (isV w.fs o.a true).2.1.ino },0):=by unfold qD;simp[h0,hk,hb]
    refine fon Tryz.func141 ?_;dsimp only[Tryz.f141]
    push_cast -dsimp
    refine cl (h1) ?_;push_cast -dsimp [h0',hk']
    refine cl (h2) ?_;push_cast -dsimp [hb']
    refine cl (hn) ?_;push_cast -dsimp
    exact dn (by push_cast -dsimp [ze,zd,CLe,zg,e,hb])
   ·have hb':=eq_false hb
    have e:qD w o=(w,(isV w.fs o.b false).2.2):=by unfold qD;simp[h0,hk,hb]
    refine fon Tryz.func141 ?_;dsimp only[Tryz.f141]
    push_cast -dsimp
    refine cl (h1) ?_;push_cast -dsimp [h0',hk']
    refine cl (h2) ?_;push_cast -dsimp [hb']
    exact dn (by push_cast -dsimp [ze,zd,CLe,zg,e])
 ·have h0':=eq_false h0
  have e:qD w o=(w,(isV w.fs o.a true).2.2):=by unfold qD;simp[h0]
  refine fon Tryz.func141 ?_;dsimp only[Tryz.f141]
  push_cast -dsimp
  refine cl (h1) ?_;push_cast -dsimp [h0']
  exact dn (by push_cast -dsimp [ze,zd,CLe,zg,e])
theorem MG {f:FsV} (hf:FsI f) {p:List UInt8} (h:(isV f p false).2.2=0):(isV f p false).1.ino=0:=by
 have hz:=Xs h
 have hi:=zgt hf p
 unfold isV at h ⊢
 simp only[hz]at h ⊢
 by_cases h0:(atV f p).1.ino=0
 ·exact h0
 ·rw[decide_eq_false h0]at hi
  rw[hi]at h
  simp at h
theorem zfx (w:qg) (hw:J9 w) (hs:V1 w) (o:OpV) (ho:short o) (pa:zM o.a=true) (pb:zM o.b=true):Fun Tryz.prog G0 142 [jB w,.agg (opL o)] (.tup [jB (j8 w o).1,.sc (.int .i64 (j8 w o).2)]) 0:=by
 have h1:=ZI w.fs hw.fs hs.fs o.a ho.1
 have h2:=G6 w.fs hw.fs hs.fs o.b ho.2.1
 unfold opL
 by_cases h0:(isV w.fs o.a true).2.2=0
 ·have h0':=eq_true h0
  obtain ⟨t1,t2⟩:=qT hw.fs pa h0
  by_cases hb:(isV w.fs o.b false).2.2=0
  ·have hb':=eq_true hb
   have hfree:=jX hw.fs pb hb
   have hn:=zjH w.fs hw.fs hs.fs (isV w.fs o.a true).1 (isV w.fs o.b false).1 t1 hfree (MG hw.fs hb)
   have e:j8 w o=({ w with fs:=Yp w.fs (isV w.fs o.a true).1 (isV w.fs o.b false).1 },0):=by unfold j8;simp[h0,hb]
   refine fon Tryz.func142 ?_;dsimp only[Tryz.f142]
   push_cast -dsimp
   refine cl (h1) ?_;push_cast -dsimp [h0']
   refine cl (h2) ?_;push_cast -dsimp [hb']
   refine cl (hn) ?_;push_cast -dsimp
   exact dn (by push_cast -dsimp [ze,zd,CLe,zg,e,hb])
  ·have hb':=eq_false hb
   have e:j8 w o=(w,(isV w.fs o.b false).2.2):=by unfold j8;simp[h0,hb]
   refine fon Tryz.func142 ?_;dsimp only[Tryz.f142]
   push_cast -dsimp
   refine cl (h1) ?_;push_cast -dsimp [h0']
   refine cl (h2) ?_;push_cast -dsimp [hb']
   exact dn (by push_cast -dsimp [ze,zd,CLe,zg,e])
 ·have h0':=eq_false h0
  have e:j8 w o=(w,(isV w.fs o.a true).2.2):=by unfold j8;simp[h0]
  refine fon Tryz.func142 ?_;dsimp only[Tryz.f142]
  push_cast -dsimp
  refine cl (h1) ?_;push_cast -dsimp [h0']
  exact dn (by push_cast -dsimp [ze,zd,CLe,zg,e])
end
section
open CA CB
open Go.RowKit
theorem vi (w:qg) (hw:J9 w) (hs:V1 w) (o:OpV) (ho:short o) (pa:zM o.a=true) (pb:zM o.b=true):Fun Tryz.prog G0 139 [jB w,.agg (opL o)] (.tup [jB (zS w o).1,.sc (.int .i64 (zS w o).2)]) 0:=by
 have h1:=Nb w.fs hw.fs hs.fs o.a ho.1
 have h2:=Nb w.fs hw.fs hs.fs o.b ho.2.1
 have h3:=xn w hw.fs hs.fs (by have:=hs.kept;omega) hw.kept o.slot (zL w.fs o.b).1.ino
 unfold opL
 by_cases a0:(zL w.fs o.a).2=0
 rotate_left
 ·have a0':=eq_false a0
  have e:zS w o=(w,(zL w.fs o.a).2):=by unfold zS;rw[if_pos a0]
  refine fon Tryz.func139 ?_;dsimp only[Tryz.f139]
  push_cast -dsimp
  refine cl (h1) ?_;push_cast -dsimp [a0']
  exact dn (by push_cast -dsimp [ze,zd,CLe,zg,e])
 have a0':=eq_true a0
 have hfa:=Zz hw hs pa a0
 by_cases b0:(zL w.fs o.b).2=0
 rotate_left
 ·have b0':=eq_false b0
  have e:zS w o=(w,(zL w.fs o.b).2):=by unfold zS;rw[if_neg (by simp[a0]),if_pos b0]
  refine fon Tryz.func139 ?_;dsimp only[Tryz.f139]
  push_cast -dsimp
  refine cl (h1) ?_;push_cast -dsimp [a0']
  refine cl (h2) ?_;push_cast -dsimp [b0']
  exact dn (by push_cast -dsimp [ze,zd,CLe,zg,e])
 have b0':=eq_true b0
 obtain ⟨fb1,fb2,fb3⟩:=X4 hw.fs pb b0
 by_cases i0:(zL w.fs o.a).1.ino=(zL w.fs o.b).1.ino
 ·have i0':=eq_true i0
  have e:zS w o=(w,9):=by unfold zS;rw[if_neg (by simp[a0]),if_neg (by simp[b0]),if_pos i0]
  refine fon Tryz.func139 ?_;dsimp only[Tryz.f139]
  push_cast -dsimp
  refine cl (h1) ?_;push_cast -dsimp [a0']
  refine cl (h2) ?_;push_cast -dsimp [b0',i0']
  exact dn (by push_cast -dsimp [ze,zd,CLe,zg,e])
 have i0':=eq_false i0
 cases hh:U0 o.slot w.kept with
 | true =>
  have ek:zV w o.slot (zL w.fs o.b).1.ino=(w,13):=by unfold zV;rw[hh];rfl
  have e:zS w o=(w,13):=by unfold zS;rw[if_neg (by simp[a0]),if_neg (by simp[b0]),if_neg i0,ek];rfl
  rw[ek]at h3
  refine fon Tryz.func139 ?_;dsimp only[Tryz.f139]
  push_cast -dsimp
  refine cl (h1) ?_;push_cast -dsimp [a0']
  refine cl (h2) ?_;push_cast -dsimp [b0',i0']
  refine cl (h3) ?_;push_cast -dsimp
  exact dn (by push_cast -dsimp [ze,zd,CLe,zg,e])
 | false =>
  have ek:zV w o.slot (zL w.fs o.b).1.ino=({ w with kept:=qv ⟨o.slot,(zL w.fs o.b).1.ino,true,(zh (zL w.fs o.b).1.ino w.fs.xs).data⟩ w.kept },0):=by unfold zV;rw[hh];rfl
  have h4:=yP w.fs hw.fs hs.fs (zL w.fs o.b).1.ino fb1 (zL w.fs o.a).1.data hfa
  rw[ek]at h3
  by_cases d0:(Js w.fs (zL w.fs o.b).1.ino (zL w.fs o.a).1.data).2=0
  ·have d0':=eq_true d0
   have e:zS w o=(⟨(Js w.fs (zL w.fs o.b).1.ino (zL w.fs o.a).1.data).1,qv ⟨o.slot,(zL w.fs o.b).1.ino,true,(zh (zL w.fs o.b).1.ino w.fs.xs).data⟩ w.kept,w.pool⟩,0):=by unfold zS;rw[if_neg (by simp[a0]),if_neg (by simp[b0]),if_neg i0,ek,if_neg (by simp),if_neg (by simp[d0])]
   refine fon Tryz.func139 ?_;dsimp only[Tryz.f139]
   push_cast -dsimp
   refine cl (h1) ?_;push_cast -dsimp [a0']
   refine cl (h2) ?_;push_cast -dsimp [b0',i0']
   refine cl (h3) ?_;push_cast -dsimp
   refine cl (h4) ?_;push_cast -dsimp [d0']
   exact dn (by push_cast -dsimp [ze,zd,CLe,zg,e])
  ·have d0':=eq_false d0
   have e:zS w o=(w,(Js w.fs (zL w.fs o.b).1.ino (zL w.fs o.a).1.data).2):=by unfold zS;rw[if_neg (by simp[a0]),if_neg (by simp[b0]),if_neg i0,ek,if_neg (by simp),if_pos d0]
   refine fon Tryz.func139 ?_;dsimp only[Tryz.f139]
   push_cast -dsimp
   refine cl (h1) ?_;push_cast -dsimp [a0']
   refine cl (h2) ?_;push_cast -dsimp [b0',i0']
   refine cl (h3) ?_;push_cast -dsimp
   refine cl (h4) ?_;push_cast -dsimp [d0']
   exact dn (by push_cast -dsimp [ze,zd,CLe,zg,e])
theorem zbU (w:qg) (hw:J9 w) (hs:V1 w) (o:OpV) (s:qy) (hsp:zR w.fs s) (he:(zh s.ino w.fs.xs).es = []):xA Tryz.prog G0 145 [.agg (YJ s),.ptr 0 0,.ptr 1 0] [kI w,opL o] 0 (.tup [jB (JA w o.slot s).1,.sc (.int .i64 (JA w o.slot s).2)]) [kI w,opL o] 0:=by
 have h:=zhy w hw hs.fs (by have:=hs.kept;omega) (by have:=hs.pool;omega) o.slot s hsp he
 unfold opL
 refine foB (fun _=>[]) Tryz.func145 ?_;dsimp only[Tryz.f145]
 push_cast -dsimp
 refine cl (h) ?_;push_cast -dsimp
 exact ⟨[],rfl,rfl,by push_cast -dsimp [ze,zd,CLe,zg],by push_cast -dsimp [ze,zd,CLe,zg]⟩
theorem zjj (w:qg) (hw:J9 w) (hs:V1 w) (o:OpV) (ho:short o) (pa:zM o.a=true):xA Tryz.prog G0 144 [jB w,.str o.a,.clo (.func 145) [] [.ptr 0 0,.ptr 1 0]] [kI w,opL o] 0 (.tup [jB (qr w o).1,.sc (.int .i64 (qr w o).2)]) [kI w,opL o] 0:=by
 have h1:=ZI w.fs hw.fs hs.fs o.a ho.1
 by_cases h0:(isV w.fs o.a true).2.2=0
 ·have h0':=eq_true h0
  obtain ⟨t1,t2⟩:=qT hw.fs pa h0
  by_cases hes:(isV w.fs o.a true).2.1.es = []
  ·have hel:(0<(zJ (isV w.fs o.a true).2.1.es).length)=False:=eq_false (by rw[hes];simp)
   have he:(zh (isV w.fs o.a true).1.ino w.fs.xs).es = []:=by rw[←t2];exact hes
   have hd:=zbU w hw hs o (isV w.fs o.a true).1 t1 he
   have e:qr w o=JA w o.slot (isV w.fs o.a true).1:=by unfold qr;simp[h0,hes]
   unfold opL at hd ⊢
   refine foB (fun _=>[]) Tryz.func144 ?_;dsimp only[Tryz.f144]
   push_cast -dsimp
   refine cl (h1) ?_;push_cast -dsimp [h0',hel]
   refine yB [0,1] [] hd rfl (by decide) (by decide) (by simp) (by push_cast -dsimp) (by push_cast -dsimp) ?_
   push_cast -dsimp
   exact ⟨[],rfl,rfl,by push_cast -dsimp [ze,zd,CLe,zg],by push_cast -dsimp [ze,zd,CLe,zg,e]⟩
  ·have hel:(0<(zJ (isV w.fs o.a true).2.1.es).length)=True:=eq_true (by rw[List.length_map];exact List.length_pos_iff.2 hes)
   have e:qr w o=(w,5):=by unfold qr;simp[h0,hes]
   unfold opL
   refine foB (fun _=>[]) Tryz.func144 ?_;dsimp only[Tryz.f144]
   push_cast -dsimp
   refine cl (h1) ?_;push_cast -dsimp [h0',hel]
   exact ⟨[],rfl,rfl,by push_cast -dsimp [ze,zd,CLe,zg],by push_cast -dsimp [ze,zd,CLe,zg,e]⟩
 ·have h0':=eq_false h0
  have e:qr w o=(w,(isV w.fs o.a true).2.2):=by unfold qr;simp[h0]
  unfold opL
  refine foB (fun _=>[]) Tryz.func144 ?_;dsimp only[Tryz.f144]
  push_cast -dsimp
  refine cl (h1) ?_;push_cast -dsimp [h0']
  exact ⟨[],rfl,rfl,by push_cast -dsimp [ze,zd,CLe,zg],by push_cast -dsimp [ze,zd,CLe,zg,e]⟩
theorem zgb (w:qg) (hw:J9 w) (hs:V1 w) (o:OpV) (ho:short o) (pa:zM o.a=true):Fun Tryz.prog G0 136 [jB w,.agg (opL o)] (.tup [jB (j0 w o.a 2 []).1,.sc (.int .i64 (j0 w o.a 2 []).2)]) 0:=by
 have h:=Gz w hw hs o.a ho.1 pa 2 [] (by simp)
 unfold opL
 refine fon Tryz.func136 ?_;dsimp only[Tryz.f136]
 push_cast -dsimp
 refine cl (h) ?_;push_cast -dsimp
 exact dn
theorem zeq (w:qg) (hw:J9 w) (hs:V1 w) (o:OpV) (ho:short o) (pa:zM o.a=true) (hd:o.d.length<=10000):Fun Tryz.prog G0 140 [jB w,.agg (opL o)] (.tup [jB (j0 w o.a 3 o.d).1,.sc (.int .i64 (j0 w o.a 3 o.d).2)]) 0:=by
 have h:=Gz w hw hs o.a ho.1 pa 3 o.d hd
 unfold opL
 refine fon Tryz.func140 ?_;dsimp only[Tryz.f140]
 push_cast -dsimp
 refine cl (h) ?_;push_cast -dsimp
 exact dn
theorem zfz (w:qg) (hw:J9 w) (hs:V1 w) (o:OpV) (ho:short o) (pa:zM o.a=true):Fun Tryz.prog G0 143 [jB w,.agg (opL o)] (.tup [jB (qr w o).1,.sc (.int .i64 (qr w o).2)]) 0:=by
 have h:=zjj w hw hs o ho pa
 unfold opL at h ⊢
 refine fon Tryz.func143 ?_;dsimp only[Tryz.f143]
 push_cast -dsimp
 refine yB [0,1] [] h rfl (by decide) (by decide) (by simp) (by push_cast -dsimp) (by push_cast -dsimp) ?_
 push_cast -dsimp
 exact dn
end
section
open Go.RowKit
section
variable {G:zr}
abbrev zpM:List C:=[.clo (.func 136) [] [],.clo (.func 138) [] [],.clo (.func 139) [] [],.clo (.func 140) [] [],.clo (.func 141) [] [],.clo (.func 142) [] [],.clo (.func 143) [] [],.clo (.func 147) [] [],.clo (.func 150) [] [],.clo (.func 151) [] []]
theorem Yl:Fun Tryz.prog G 99 [] (.mo 0 140 (.int .i64 [1,2,3,4,5,6,7,8,9,10]) zpM) 1:=by
 refine fon Tryz.func99 ?_;dsimp only[Tryz.f99]
 push_cast -dsimp [kR,ZQ,Option.map_none,List.nil_append,List.cons_append,reduceIte,Int.reduceEq]
 exact ⟨[.inl 0],rfl,rfl,by push_cast -dsimp [ze,zd,CLe,zg]⟩
end
end
section
open CA CB
open Go.RowKit
theorem Fun.g0 {P:Program} {G':zr} {f:FuncId} {args:List C} {r:C} {n:Nat} (h:Fun P G0 f args r n):Fun P G' f args r n:=⟨h.1,fun R vs hg hv=>h.2 R vs (yY R) hv⟩
theorem uR (w:qg) (hw:J9 w) (hs:V1 w) (o:OpV) (ho:short o) (hd:o.d.length<=10000) (hk:o.kind<=7):Fun Tryz.prog G1 57 [jB w,.agg (opL o)] (.tup [jB (doV w o).1,.sc (.int .i64 (doV w o).2)]) 0:=by
 obtain ⟨k,s,a,b,d⟩:=o
 cases hm:XH ⟨k,s,a,b,d⟩ with
 | false =>
  have e:doV w ⟨k,s,a,b,d⟩=(w,12):=by unfold doV;rw[hm];rfl
  have hop:=JN k s a b d ho
  rw[hm]at hop
  rw[e]
  unfold opL qO at hop
  unfold opL
  refine fof (fun i=>if i=3 then [false,false,false,false,false,false,false,false,false,true] else []) Tryz.func57 ?_;dsimp only[Tryz.f57]
  push_cast -dsimp
  refine cl (hop) ?_;push_cast -dsimp
  exact dn
 | true =>
 have hk1:1<=k:=by
  unfold XH at hm
  simp only[Bool.and_eq_true,decide_eq_true_eq]at hm
  exact hm.1.1.1.1.1.1
 obtain ⟨p1,p2,_⟩:=Y6 hm
 have hk7:k<=7:=hk
 obtain rfl | rfl | rfl | rfl | rfl | rfl | rfl:k=1∨k=2∨k=3∨k=4∨k=5∨k=6∨k=7:=by omega
 ·have e:doV w ⟨1,s,a,b,d⟩=j0 w a 2 []:=by unfold doV;rw[hm];rfl
  have hq:=(zgb w hw hs ⟨1,s,a,b,d⟩ ho p1).g0 (G':=G1)
  have hop:=JN 1 s a b d ho
  rw[hm]at hop
  rw[e]
  unfold opL qO at hop
  unfold opL at hq ⊢
  refine fof (fun i=>if i=3 then [false,false,false,false,false,false,false,false,false,true] else []) Tryz.func57 ?_;dsimp only[Tryz.f57]
  push_cast -dsimp
  refine cl (hop) ?_;push_cast -dsimp
  refine cl (Yl (G:=G1)) ?_;push_cast -dsimp [u9,ZQ,reduceIte,Int.reduceEq,Option.map_some,Option.map_none]
  refine cl (hq) ?_;push_cast -dsimp
  exact dn
 ·have e:doV w ⟨2,s,a,b,d⟩=jM w ⟨2,s,a,b,d⟩:=by unfold doV;rw[hm];rfl
  have hq:=(zal w hw hs ⟨2,s,a,b,d⟩ ho p1 (p2 rfl)).g0 (G':=G1)
  have hop:=JN 2 s a b d ho
  rw[hm]at hop
  rw[e]
  unfold opL qO at hop
  unfold opL at hq ⊢
  refine fof (fun i=>if i=3 then [false,false,false,false,false,false,false,false,false,true] else []) Tryz.func57 ?_;dsimp only[Tryz.f57]
  push_cast -dsimp
  refine cl (hop) ?_;push_cast -dsimp
  refine cl (Yl (G:=G1)) ?_;push_cast -dsimp [u9,ZQ,reduceIte,Int.reduceEq,Option.map_some,Option.map_none]
  refine cl (hq) ?_;push_cast -dsimp
  exact dn
 ·have e:doV w ⟨3,s,a,b,d⟩=zS w ⟨3,s,a,b,d⟩:=by unfold doV;rw[hm];rfl
  have hq:=(vi w hw hs ⟨3,s,a,b,d⟩ ho p1 (p2 rfl)).g0 (G':=G1)
  have hop:=JN 3 s a b d ho
  rw[hm]at hop
  rw[e]
  unfold opL qO at hop
  unfold opL at hq ⊢
  refine fof (fun i=>if i=3 then [false,false,false,false,false,false,false,false,false,true] else []) Tryz.func57 ?_;dsimp only[Tryz.f57]
  push_cast -dsimp
  refine cl (hop) ?_;push_cast -dsimp
  refine cl (Yl (G:=G1)) ?_;push_cast -dsimp [u9,ZQ,reduceIte,Int.reduceEq,Option.map_some,Option.map_none]
  refine cl (hq) ?_;push_cast -dsimp
  exact dn
 ·have e:doV w ⟨4,s,a,b,d⟩=j0 w a 3 d:=by unfold doV;rw[hm];rfl
  have hq:=(zeq w hw hs ⟨4,s,a,b,d⟩ ho p1 hd).g0 (G':=G1)
  have hop:=JN 4 s a b d ho
  rw[hm]at hop
  rw[e]
  unfold opL qO at hop
  unfold opL at hq ⊢
  refine fof (fun i=>if i=3 then [false,false,false,false,false,false,false,false,false,true] else []) Tryz.func57 ?_;dsimp only[Tryz.f57]
  push_cast -dsimp
  refine cl (hop) ?_;push_cast -dsimp
  refine cl (Yl (G:=G1)) ?_;push_cast -dsimp [u9,ZQ,reduceIte,Int.reduceEq,Option.map_some,Option.map_none]
  refine cl (hq) ?_;push_cast -dsimp
  exact dn
 ·have e:doV w ⟨5,s,a,b,d⟩=qD w ⟨5,s,a,b,d⟩:=by unfold doV;rw[hm];rfl
  have hq:=(zaN w hw hs ⟨5,s,a,b,d⟩ ho p1 (p2 rfl)).g0 (G':=G1)
  have hop:=JN 5 s a b d ho
  rw[hm]at hop
  rw[e]
  unfold opL qO at hop
  unfold opL at hq ⊢
  refine fof (fun i=>if i=3 then [false,false,false,false,false,false,false,false,false,true] else []) Tryz.func57 ?_;dsimp only[Tryz.f57]
  push_cast -dsimp
  refine cl (hop) ?_;push_cast -dsimp
  refine cl (Yl (G:=G1)) ?_;push_cast -dsimp [u9,ZQ,reduceIte,Int.reduceEq,Option.map_some,Option.map_none]
  refine cl (hq) ?_;push_cast -dsimp
  exact dn
 ·have e:doV w ⟨6,s,a,b,d⟩=j8 w ⟨6,s,a,b,d⟩:=by unfold doV;rw[hm];rfl
  have hq:=(zfx w hw hs ⟨6,s,a,b,d⟩ ho p1 (p2 rfl)).g0 (G':=G1)
  have hop:=JN 6 s a b d ho
  rw[hm]at hop
  rw[e]
  unfold opL qO at hop
  unfold opL at hq ⊢
  refine fof (fun i=>if i=3 then [false,false,false,false,false,false,false,false,false,true] else []) Tryz.func57 ?_;dsimp only[Tryz.f57]
  push_cast -dsimp
  refine cl (hop) ?_;push_cast -dsimp
  refine cl (Yl (G:=G1)) ?_;push_cast -dsimp [u9,ZQ,reduceIte,Int.reduceEq,Option.map_some,Option.map_none]
  refine cl (hq) ?_;push_cast -dsimp
  exact dn
 ·have e:doV w ⟨7,s,a,b,d⟩=qr w ⟨7,s,a,b,d⟩:=by unfold doV;rw[hm];rfl
  have hq:=(zfz w hw hs ⟨7,s,a,b,d⟩ ho p1).g0 (G':=G1)
  have hop:=JN 7 s a b d ho
  rw[hm]at hop
  rw[e]
  unfold opL qO at hop
  unfold opL at hq ⊢
  refine fof (fun i=>if i=3 then [false,false,false,false,false,false,false,false,false,true] else []) Tryz.func57 ?_;dsimp only[Tryz.f57]
  push_cast -dsimp
  refine cl (hop) ?_;push_cast -dsimp
  refine cl (Yl (G:=G1)) ?_;push_cast -dsimp [u9,ZQ,reduceIte,Int.reduceEq,Option.map_some,Option.map_none]
  refine cl (hq) ?_;push_cast -dsimp
  exact dn
end
section
open Go.RowKit
section
variable {G:zr}
theorem zjG (w:qg) (hk:w.kept.length<=100000):Fun Tryz.prog G 64 [jB w] (.sc (.int .i64 (jy w.kept))) 0:=by
 obtain ⟨f,ks,pool⟩:=w
 have hk:ks.length<=100000:=hk
 have hll:(zH ks).length=ks.length:=List.length_map ..
 rcases Nat.eq_zero_or_pos ks.length with h0 | h0
 ·have e:ks = []:=List.length_eq_zero_iff.1 h0
  subst e
  refine fon Tryz.func64 ?_;dsimp only[Tryz.f64]
  push_cast -dsimp [List.map_nil,List.length_nil]
  exact dn (by push_cast -dsimp [ze,zd,CLe,zg,show jy []=0 from rfl])
 ·obtain ⟨m,hm⟩:∃ m,ks.length=m+1:=⟨ks.length-1,by omega⟩
  have hz:(((zH ks).length:Int)=0)=False:=eq_false (by omega)
  have hn:((zH ks).length:Int)-1=(m:Int):=by omega
  have hat:=jr ks m (by omega)
  have hls:jy ks=(ks[m]'(by omega)).slot:=by
   unfold jy
   rw[List.getLast?_eq_getElem?,show ks.length-1=m by omega,List.getElem?_eq_getElem (by omega)]
  refine fon Tryz.func64 ?_;dsimp only[Tryz.f64]
  push_cast -dsimp [hz,hn,hat,Int.toNat_natCast]
  refine ⟨by omega,by omega,?_⟩
  exact dn (by push_cast -dsimp [ze,zd,CLe,zg,hls])
theorem VT (o:OpV):Fun Tryz.prog G 56 [.agg (opL o)] (.sc (.bool (decide (o.kind=3∨o.kind=7)))) 0:=by
 unfold opL
 by_cases h:o.kind=3
 ·have h':=eq_true h
  refine fon Tryz.func56 ?_;dsimp only[Tryz.f56]
  push_cast -dsimp [h']
  exact dn (by push_cast -dsimp [ze,zd,CLe,zg,h',true_or,decide_true])
 ·have h':=eq_false h
  refine fon Tryz.func56 ?_;dsimp only[Tryz.f56]
  push_cast -dsimp [h']
  exact dn (by push_cast -dsimp [ze,zd,CLe,zg,h',false_or])
end
end
section
open CA CB
open Go.RowKit
abbrev zpT (d:qM):List C:=[.sc (.int .i64 d.w.fs.maxI),.sc (.int .i64 d.w.fs.maxB),.sc (.int .i64 d.w.fs.next),.sl 6 (zt d.w.fs.xs),.sl 4 (zH d.w.kept),.sl 6 (zt d.w.pool),.sl 5 (d.ops.map opL),.sl 1 (jq d.diags),.sc (.int .i64 d.status),.sc (.int .i64 d.slot)]
abbrev zbS (d:qM):C:=.agg (zpT d)
section
variable {G:zr}
theorem vI (w:qg) (hk:w.kept.length<=100000):Fun Tryz.prog G 30 [jB w] (zbS (zcu w)) 0:=by
 have h:=zjG (G:=G) w hk
 refine fof (fun i=>if i=1 then [false,false,false,false,true] else []) Tryz.func30 ?_;dsimp only[Tryz.f30]
 push_cast -dsimp
 refine cl (h) ?_;push_cast -dsimp
 exact dn (by push_cast -dsimp [ze,zd,CLe,zg,zcu])
end
end
section
open CA CB
open Go.RowKit
theorem Hp {α κ:Type} [DecidableEq κ] {key:α->κ} {n:κ} {xs:List α} {i:Nat} (h:i<xs.length) (h0:J3 key n (xs.take i)=false) :
  (key xs[i]=n->j7 key n xs=some xs[i])/\(key xs[i]≠n->J3 key n (xs.take (i+1))=false):=by
 have e:xs=xs.take i++xs[i] :: xs.drop (i+1):=by rw[←List.drop_eq_getElem_cons h,List.take_append_drop]
 refine ⟨fun hk=>?_,fun hk=>?_⟩
 ·have q:j7 key n xs=j7 key n (xs.take i++xs[i] :: xs.drop (i+1)):=congrArg _ e
  rw[q]
  unfold j7
  unfold J3 at h0
  rw[List.any_eq_false]at h0
  rw[List.find?_append,List.find?_eq_none.2 fun x hx=>h0 x hx,Option.none_or,List.find?_cons,decide_eq_true hk]
 ·unfold J3 at h0 ⊢
  rw[List.take_add_one,List.getElem?_eq_getElem h,List.any_append,h0]
  simp[hk]
theorem uA {α κ:Type} [DecidableEq κ] {key:α->κ} {n:κ} {xs:List α} (h0:J3 key n xs=false):j7 key n xs=none:=by
 rw[jz]at h0
 cases h:j7 key n xs with
 | none=>rfl
 | some x=>rw[h]at h0;cases h0
theorem zaX {α κ:Type} [DecidableEq κ] {key:α->κ} {n:κ} {xs:List α} {i:Nat} (h:i<xs.length) :
  JS key n (xs.take (i+1))=if key xs[i]=n then JS key n (xs.take i) else JS key n (xs.take i)++[xs[i]]:=by
 unfold JS
 rw[List.take_add_one,List.getElem?_eq_getElem h,List.filter_append]
 by_cases hk:key xs[i]=n<;>simp[hk]
theorem zij (a b:List UInt8):(Op.bytesLess a b||decide (a=b)) = !Op.bytesLess b a:=by
 cases h:Op.bytesLess b a with
 | true =>
  have h1:Op.bytesLess a b=false:=jC.asym h
  have h2:a≠b:=fun e=>by rw[e,Up]at h;cases h
  rw[h1,decide_eq_false h2];rfl
 | false =>
  cases h1:Op.bytesLess a b with
  | true=>rfl
  | false=>rw[decide_eq_true (UT h1 h)];rfl
section
variable {G:zr}
theorem zfK (es:List zZ) (n:List UInt8) (hl:es.length<=100000):Fun Tryz.prog G 76 [.sl 2 (zJ es),.str n] (.tup [.sc (.int .i64 (jG n es)),.sc (.bool (VJ n es))]) 0:=by
 have hll:(zJ es).length=es.length:=List.length_map ..
 refine fon Tryz.func76 ?_;dsimp only[Tryz.f76]
 push_cast -dsimp
 refine loop (fun i:Nat=>⟨[(0,.sl 2 (zJ es)),(1,.str n),(6,.sc (.int .i64 i))],[],0,0⟩) (fun i=>i<=es.length/\J3 zZ.name n (es.take i)=false) (fun i=>es.length-i) 0 ⟨Nat.zero_le _,rfl⟩ ?_ ?_
 ·exact wk
 ·rintro i ⟨h1,h2⟩
  by_cases h:i<es.length
  ·have g1:=Ja es i h
   obtain ⟨q1,q2⟩:=Hp h h2
   by_cases he:es[i].name=n
   ·have q:=q1 he
    have e1:VJ n es=true:=by unfold VJ;rw[jz,q];rfl
    have e2:jG n es=es[i].ino:=by unfold jG;rw[q]
    push_cast -dsimp [hll,h,g1,he]
    repeat refine an ?_
    exact dn (by push_cast -dsimp [ze,zd,CLe,zg,e1,e2])
   ·push_cast -dsimp [hll,h,g1,he]
    repeat refine an ?_
    exact ⟨i+1,⟨h,q2 he⟩,by omega,wk⟩
  ·rw[List.take_of_length_le (by omega)]at h2
   have e1:VJ n es=false:=h2
   have e2:jG n es=0:=by unfold jG;rw[uA h2]
   push_cast -dsimp [hll,h]
   exact dn (by push_cast -dsimp [ze,zd,CLe,zg,e1,e2])
theorem XY (es:List zZ) (n:List UInt8) (hl:es.length<=90000):Fun Tryz.prog G 129 [.sl 2 (zJ es),.str n] (.own 0 108 2 (zJ (zj n es))) 1:=by
 have hll:(zJ es).length=es.length:=List.length_map ..
 refine fon Tryz.func129 ?_;dsimp only[Tryz.f129]
 push_cast -dsimp
 refine loop (fun i:Nat=>⟨[(0,.sl 2 (zJ es)),(1,.str n),(5,.own 0 108 2 (zJ (zj n (es.take i)))),(6,.sc (.int .i64 i))],[],1,0⟩) (fun i=>i<=es.length) (fun i=>es.length-i) 0 (Nat.zero_le _) ?_ ?_
 ·exact wks [.inr (108,2)] (by push_cast -dsimp [ze,zd,CLe,zg,zj,JS,List.filter_nil])
 ·intro i h1
  by_cases h:i<es.length
  ·have g1:=Ja es i h
   have ht:zj n (es.take (i+1))=if es[i].name=n then zj n (es.take i) else zj n (es.take i)++[es[i]]:=zaX h
   have hle:(zj n (es.take i)).length<=i:=Nat.le_trans (Y9 n _) (by simp;omega)
   by_cases hc:es[i].name=n
   ·rw[if_pos hc]at ht
    push_cast -dsimp [hll,h,g1,hc]
    repeat refine an ?_
    exact ⟨i+1,h,by omega,wks [.inl 0] (by push_cast -dsimp [ze,zd,CLe,zg,ht])⟩
   ·rw[if_neg hc]at ht
    push_cast -dsimp [hll,h,g1,hc]
    repeat refine an ?_
    exact ⟨i+1,h,by omega,wks [.inl 0] (by push_cast -dsimp [ze,zd,CLe,zg,ht,List.map_append])⟩
  ·rw[List.take_of_length_le (by omega)]
   push_cast -dsimp [hll,h]
   exact ⟨[.inl 0],rfl,rfl,by push_cast -dsimp [ze,zd,CLe,zg]⟩
theorem Ui (es:List zZ) (n:List UInt8) (j:Int) (hl:es.length<=90000):Fun Tryz.prog G 128 [.sl 2 (zJ es),.str n,.sc (.int .i64 j)] (.own 0 108 2 (zJ (zN n j es))) 1:=by
 have hdl:(zj n es).length<=90000:=Nat.le_trans (Y9 n _) hl
 have hl2:(zJ (zj n es)).length=(zj n es).length:=List.length_map ..
 refine fon Tryz.func128 ?_;dsimp only[Tryz.f128]
 push_cast -dsimp
 refine cl (XY es n hl) ?_;push_cast -dsimp
 show zeL _ _ _ _ _ _
 have hw:zN n j es=Xr jC zZ.name ⟨n,j⟩ (zj n es):=rfl
 rw[hw]
 generalize zj n es=rest at hdl hl2
 refine loop (fun p:Nat×List zZ×Bool=>⟨[(1,.str n),(2,.sc (.int .i64 j)),(7,.sl 2 (zJ rest)),(8,.own 0 108 2 (zJ p.2.1)),(9,.sc (.bool p.2.2)),(10,.sc (.int .i64 p.1))],[],1,0⟩)
  (fun p=>p.1<=rest.length/\p.2.1.length<=p.1+p.2.2.toNat/\Xr jC zZ.name ⟨n,j⟩ rest=p.2.1++(if p.2.2 then rest.drop p.1 else Xr jC zZ.name ⟨n,j⟩ (rest.drop p.1))) (fun p=>rest.length-p.1) (0,[],false) ⟨Nat.zero_le _,Nat.zero_le _,by simp⟩ ?_ ?_
 ·exact wks [.inr (108,2)]
 ·rintro ⟨i,out,d⟩ ⟨h1,h2,h3⟩
  dsimp only at h1 h2 h3 ⊢
  have hlo:(zJ out).length=out.length:=List.length_map ..
  by_cases h:i<rest.length
  ·have g1:=Ja rest i h
   rw[List.drop_eq_getElem_cons h]at h3
   cases d with
   | true =>
    simp only[Bool.toNat_true]at h2
    push_cast -dsimp [hl2,h,g1]
    repeat refine an ?_
    exact ⟨(i+1,out++[rest[i]],true),⟨h,by simp;omega,by rw[h3];simp⟩,by dsimp only;omega,wks [.inl 0] (by push_cast -dsimp [ze,zd,CLe,zg,List.map_append])⟩
   | false =>
    simp only[Bool.false_eq_true,if_false,Xr]at h3
    simp only[Bool.toNat_false]at h2
    have hgl:=zij rest[i].name n
    cases hc:Op.bytesLess n rest[i].name with
    | true =>
     rw[if_pos (show jC.lt n rest[i].name=true from hc)]at h3
     rw[hc]at hgl
     push_cast -dsimp [hl2,h,g1,hgl]
     repeat refine an ?_
     exact ⟨(i+1,out++[(⟨n,j⟩:zZ)]++[rest[i]],true),⟨h,by simp;omega,by rw[h3];simp⟩,by dsimp only;omega,wks [.inl 0] (by push_cast -dsimp [ze,zd,CLe,zg,List.map_append])⟩
    | false =>
     rw[if_neg (show ¬jC.lt n rest[i].name=true by rw[show jC.lt n rest[i].name=false from hc];decide)]at h3
     rw[hc]at hgl
     push_cast -dsimp [hl2,h,g1,hgl]
     repeat refine an ?_
     exact ⟨(i+1,out++[rest[i]],false),⟨h,by simp;omega,by rw[h3];simp⟩,by dsimp only;omega,wks [.inl 0] (by push_cast -dsimp [ze,zd,CLe,zg,List.map_append])⟩
  ·rw[List.drop_of_length_le (by omega)]at h3
   cases d with
   | true =>
    simp only[Bool.toNat_true]at h2
    have h3:Xr jC zZ.name ⟨n,j⟩ rest=out:=by rw[h3];simp
    push_cast -dsimp [hl2,h]
    exact ⟨[.inl 0],rfl,rfl,by push_cast -dsimp [ze,zd,CLe,zg,h3]⟩
   | false =>
    simp only[Bool.toNat_false]at h2
    have h3:Xr jC zZ.name ⟨n,j⟩ rest=out++[⟨n,j⟩]:=by rw[h3];simp[Xr]
    push_cast -dsimp [hl2,h]
    repeat refine an ?_
    exact ⟨[.inl 0],rfl,rfl,by push_cast -dsimp [ze,zd,CLe,zg,h3,List.map_append]⟩
theorem U8 (f:FsV) (hf:FsS f) (n b:Int) (hn:-1000000000<=n/\n<=1000000000) (hb:-1000000000<=b/\b<=1000000000):Fun Tryz.prog G 72 [.agg (fsC f),.sc (.int .i64 n),.sc (.int .i64 b)] (.sc (.bool (jS f n b))) 0:=by
 have hll:(zt f.xs).length=f.xs.length:=List.length_map ..
 have h40:=hf.len
 have hbb:=hf.bytes
 have hbf:=Ms (G:=G) f hf
 by_cases h:(f.xs.length:Int)+n<=f.maxI
 ·have e:jS f n b=decide ((qd f.xs:Int)+b<=f.maxB):=by unfold jS;rw[decide_eq_true h,Bool.true_and]
  have h':(f.maxI<(f.xs.length:Int)+n)=False:=eq_false (by omega)
  refine fon Tryz.func72 ?_;dsimp only[Tryz.f72]
  push_cast -dsimp [hll,h']
  repeat refine an ?_
  refine cl (hbf) ?_;push_cast -dsimp
  repeat refine an ?_
  exact dn (by push_cast -dsimp [ze,zd,CLe,zg,e])
 ·have e:jS f n b=false:=by unfold jS;rw[decide_eq_false h,Bool.false_and]
  have h':(f.maxI<(f.xs.length:Int)+n)=True:=eq_true (by omega)
  refine fon Tryz.func72 ?_;dsimp only[Tryz.f72]
  push_cast -dsimp [hll,h']
  repeat refine an ?_
  exact dn (by push_cast -dsimp [ze,zd,CLe,zg,e])
end
theorem zmE (f:FsV) (hf:FsI f) (hs:FsS f) (p:List UInt8) (hp:p.length<=100000):Fun Tryz.prog G0 115 [.agg (fsC f),.str p] (.tup [.agg (YJ (atV f p).1),.sc (.int .i64 (atV f p).2)]) 0:=by
 have hpl:=VK p (by omega)
 have hlen:=hs.len
 have hnl:(zI p).length<=100000:=by have:=Jc p;omega
 cases hpp:Yk p with
 | false =>
  have e:atV f p=(QL,9):=by unfold atV;rw[hpp];rfl
  unfold YB at hpl
  rw[hpp]at hpl
  refine fof (fun i=>if i=14 then [false,false,false,false,false,false,false,false,true] else []) Tryz.func115 ?_;dsimp only[Tryz.f115]
  push_cast -dsimp
  refine cl (hpl) ?_;push_cast -dsimp
  exact dn (by push_cast -dsimp [ze,zd,CLe,zg,e,QL])
 | true =>
  have e:atV f p=atW f.xs (zI p) ⟨0,[],1⟩:=by unfold atV;rw[hpp];rfl
  unfold YB at hpl
  rw[hpp,if_pos rfl]at hpl
  generalize zI p=ns at hpl hnl e
  have hsl:(jq ns).length=ns.length:=List.length_map ..
  refine fof (fun i=>if i=14 then [false,false,false,false,false,false,false,false,true] else []) Tryz.func115 ?_;dsimp only[Tryz.f115]
  push_cast -dsimp
  refine cl (hpl) ?_;push_cast -dsimp
  refine loop (fun x:Nat×qy=>⟨[(1,.str p),(2,.ptr 0 0),(4,.ptr 1 0),(6,.own 0 9 1 (jq ns)),(8,.ptr 2 0),(9,.sc (.int .i64 x.1))],[fsC f,[.sc (.int .i64 0),.str [],.sc (.int .i64 0)],YJ x.2],1,0⟩)
   (fun x=>x.1<=ns.length/\atW f.xs ns ⟨0,[],1⟩=atW f.xs (ns.drop x.1) x.2/\(x.2.ino≠0->zn x.2.ino f.xs=true)) (fun x=>ns.length-x.1) (0,⟨0,[],1⟩) ⟨Nat.zero_le _,rfl,fun _=>hf.root⟩ ?_ ?_
  ·exact wks [.inl 0] (by push_cast -dsimp [ze,zd,CLe,zg,hsl])
  rintro ⟨k,s⟩ ⟨hk,hat,hin⟩
  simp only at hk hat hin ⊢
  by_cases hlt:k<ns.length
  ·have gs:=MJ hlt
   have hdr:ns.drop k=ns[k] :: ns.drop (k+1):=List.drop_eq_getElem_cons hlt
   obtain ⟨nm,hnm⟩:∃ nm,ns[k]=nm:=⟨_,rfl⟩
   rw[hnm]at gs hdr
   by_cases h0:s.ino=0
   ·have hr:atV f p=(QL,1):=by rw[e,hat,hdr];unfold atW;rw[if_pos h0]
    push_cast -dsimp [hsl,hlt,h0]
    exact dn (by push_cast -dsimp [ze,zd,CLe,zg,hr,QL])
   ·have hh:=hin h0
    have hg:=qG (G:=G0) f s.ino (by omega)
    have hgg:=zk hh
    rw[hh]at hg
    by_cases hk2:(zh s.ino f.xs).kind=2
    ·have hfd:=zfK (G:=G0) (zh s.ino f.xs).es nm (by have:=hs.es hh;omega)
     have hnx:atW f.xs ns ⟨0,[],1⟩=atW f.xs (ns.drop (k+1)) ⟨(zh s.ino f.xs).ino,nm,jG nm (zh s.ino f.xs).es⟩:=by
      rw[hat,hdr]
      conv=>lhs;unfold atW
      rw[if_neg h0,if_neg (by simp[hk2])]
     have hin2:jG nm (zh s.ino f.xs).es≠0->zn (jG nm (zh s.ino f.xs).es) f.xs=true:=fun hne=>by
      refine GX hf hh ?_
      unfold VJ
      rw[jz]
      cases hq:j7 zZ.name nm (zh s.ino f.xs).es with
      | some e=>rfl
      | none=>unfold jG at hne;rw[hq]at hne;exact absurd rfl hne
     push_cast -dsimp [hsl,hlt,h0]
     refine cl (hg) ?_;push_cast -dsimp [hk2,gs]
     repeat refine an ?_
     refine cl (hfd) ?_;push_cast -dsimp [gs]
     repeat refine an ?_
     exact ⟨(k+1,⟨(zh s.ino f.xs).ino,nm,jG nm (zh s.ino f.xs).es⟩),⟨hlt,hnx,hin2⟩,by simp only;omega,wks [.inl 0]⟩
    ·have hr:atV f p=(QL,3):=by rw[e,hat,hdr];unfold atW;rw[if_neg h0,if_pos hk2]
     push_cast -dsimp [hsl,hlt,h0]
     refine cl (hg) ?_;push_cast -dsimp [hk2]
     exact dn (by push_cast -dsimp [ze,zd,CLe,zg,hr,QL])
  ·have hd0:ns.drop k = []:=List.drop_of_length_le (by omega)
   have hr:atV f p=(s,0):=by rw[e,hat,hd0];rfl
   push_cast -dsimp [hsl,hlt]
   exact dn (by push_cast -dsimp [ze,zd,CLe,zg,hr])
end
section
open CA CB
open Go.RowKit
theorem zhw {f:C} {x:zp} (hx:x.es = []) (R:Env) (vs:List Value) (h:zy R zK [f,.agg [.sc (.int .i64 x.ino),.sc (.int .i64 x.kind),.sc (.int .i64 x.links),.str x.data,.sc (.int .i64 x.parent),.sc (.slice none 0 0)]] vs):zy R zK [f,.agg (J4 x)] vs:=by
 obtain ⟨v1,us1,rfl,h1,h⟩:=zf.1 h
 obtain ⟨v2,us2,rfl,h2,h⟩:=zf.1 h
 refine zf.2 ⟨_,_,rfl,h1,zf.2 ⟨_,_,rfl,?_,h⟩⟩
 obtain ⟨ws,rfl,hw⟩:=jZ.1 h2
 obtain ⟨w1,t1,e1,g1,hw⟩:=zf.1 hw
 obtain ⟨w2,t2,e2,g2,hw⟩:=zf.1 hw
 obtain ⟨w3,t3,e3,g3,hw⟩:=zf.1 hw
 obtain ⟨w4,t4,e4,g4,hw⟩:=zf.1 hw
 obtain ⟨w5,t5,e5,g5,hw⟩:=zf.1 hw
 obtain ⟨w6,t6,e6,g6,hw⟩:=zf.1 hw
 refine jZ.2 ⟨ws,rfl,?_⟩
 have g6':Rep R zK (.sl 2 (zJ x.es)) w6:=by rw[hx];exact u6 g6
 rw[e1,e2,e3,e4,e5,e6]
 exact zf.2 ⟨_,_,rfl,g1,zf.2 ⟨_,_,rfl,g2,zf.2 ⟨_,_,rfl,g3,zf.2 ⟨_,_,rfl,g4,zf.2 ⟨_,_,rfl,g5,zf.2 ⟨_,_,rfl,g6',hw⟩⟩⟩⟩⟩⟩
theorem Gr {G:zr} (f:FsV) (x:zp) (hx:x.es = []) (hl:f.xs.length<=90000) :
  Fun Tryz.prog G 63 [.agg (fsC f),.agg [.sc (.int .i64 x.ino),.sc (.int .i64 x.kind),.sc (.int .i64 x.links),.str x.data,.sc (.int .i64 x.parent),.sc (.slice none 0 0)]] (.agg [.sc (.int .i64 f.maxI),.sc (.int .i64 f.maxB),.sc (.int .i64 f.next),.own 0 75 6 (zt (qm x f.xs))]) 1:=
 (j9 f x hl).argsLe (zhw hx)
theorem yH (f:FsV) (hf:FsI f) (hs:FsS f) (hn:zk0 f) (s:qy) (hsp:Jw f s) (hnl:s.name.length<=100000) (k:Int) (t:List UInt8) (ht:t.length<=100000) :
  Fun Tryz.prog G0 125 [.agg (fsC f),.agg (YJ s),.sc (.int .i64 k),.str t] (.tup [.agg (fsC (Q3 f s k t).1),.sc (.int .i64 (Q3 f s k t).2)]) 0:=by
 have hm:=Z1 s.name (by omega)
 have hlen:=hs.len
 cases hmay:may s.name with
 | false =>
  have e:Q3 f s k t=(f,9):=by unfold Q3;rw[hmay];rfl
  rw[hmay]at hm
  refine fof (fun j=>if j=13 then [false,false,false,false,false,true] else []) Tryz.func125 ?_;dsimp only[Tryz.f125]
  push_cast -dsimp
  refine cl (hm) ?_;push_cast -dsimp
  exact dn (by push_cast -dsimp [ze,zd,CLe,zg,e])
 | true =>
  rw[hmay]at hm
  have key:∀ b:Int,(if k=1 then (t.length:Int) else 0)=b->jS f 1 b=false->Q3 f s k t=(f,8):=fun b hb hr=>by unfold Q3;rw[hmay,if_pos rfl,hb,hr];rfl
  have key2:∀ b:Int,(if k=1 then (t.length:Int) else 0)=b->jS f 1 b=true->Q3 f s k t=(ko f s k t,0):=fun b hb hr=>by unfold Q3;rw[hmay,if_pos rfl,hb,hr];rfl
  have hg:=qG (G:=G0) f s.dir (by omega)
  rw[hsp.has]at hg
  have hes:=hs.es hsp.has
  have hw:=Ui (G:=G0) (zh s.dir f.xs).es s.name f.next (by omega)
  have hd1:=j9 (G:=G0) f (qi (zh s.dir f.xs) (zN s.name f.next (zh s.dir f.xs).es)) (by omega)
  have hdl:(qk s.dir (zN s.name f.next) f.xs).length=f.xs.length:=qP hf.rises hsp.has
  have hd2:=fun pr:Int=>Gr (G:=G0) ⟨f.maxI,f.maxB,f.next,qk s.dir (zN s.name f.next) f.xs⟩ ⟨f.next,k,1,t,pr,[]⟩ rfl (by simp only;omega)
  have hn1:=hn.1
  have hn2:=hn.2
  have hx0:k=2->ko f s k t=⟨f.maxI,f.maxB,f.next+1,qm ⟨f.next,k,1,t,s.dir,[]⟩ (qk s.dir (zN s.name f.next) f.xs)⟩:=fun h=>by unfold ko;rw[if_pos h]
  have hx1:k≠2->ko f s k t=⟨f.maxI,f.maxB,f.next+1,qm ⟨f.next,k,1,t,0,[]⟩ (qk s.dir (zN s.name f.next) f.xs)⟩:=fun h=>by unfold ko;rw[if_neg h]
  unfold qk at hd2 hx0 hx1
  by_cases hk:k=1
  ·have hk':=eq_true hk
   have hk2:(k=2)=False:=eq_false (by omega)
   have hr:=U8 (G:=G0) f hs 1 t.length (by omega) (by omega)
   cases hrm:jS f 1 t.length with
   | false =>
    have e:=key _ (if_pos hk) hrm
    rw[hrm]at hr
    refine fof (fun j=>if j=13 then [false,false,false,false,false,true] else []) Tryz.func125 ?_;dsimp only[Tryz.f125]
    push_cast -dsimp
    refine cl (hm) ?_;push_cast -dsimp [hk']
    refine cl (hr) ?_;push_cast -dsimp
    exact dn (by push_cast -dsimp [ze,zd,CLe,zg,e])
   | true =>
    have e:=key2 _ (if_pos hk) hrm
    have ex:=hx1 (by omega)
    rw[hrm]at hr
    refine fof (fun j=>if j=13 then [false,false,false,false,false,true] else []) Tryz.func125 ?_;dsimp only[Tryz.f125]
    push_cast -dsimp
    refine cl (hm) ?_;push_cast -dsimp [hk']
    refine cl (hr) ?_;push_cast -dsimp
    refine cl (hg) ?_;push_cast -dsimp
    refine cl (hw) ?_;push_cast -dsimp [hk2]
    refine cl (hd1) ?_;push_cast -dsimp
    refine cl (hd2 0) ?_;push_cast -dsimp
    repeat refine an ?_
    exact dn (by push_cast -dsimp [ze,zd,CLe,zg,e,ex])
  ·have hk':=eq_false hk
   have hr:=U8 (G:=G0) f hs 1 0 (by omega) (by omega)
   cases hrm:jS f 1 0 with
   | false =>
    have e:=key _ (if_neg hk) hrm
    rw[hrm]at hr
    refine fof (fun j=>if j=13 then [false,false,false,false,false,true] else []) Tryz.func125 ?_;dsimp only[Tryz.f125]
    push_cast -dsimp
    refine cl (hm) ?_;push_cast -dsimp [hk']
    refine cl (hr) ?_;push_cast -dsimp
    exact dn (by push_cast -dsimp [ze,zd,CLe,zg,e])
   | true =>
    have e:=key2 _ (if_neg hk) hrm
    rw[hrm]at hr
    by_cases hk2:k=2
    ·have ex:=hx0 hk2
     have hk2':=eq_true hk2
     refine fof (fun j=>if j=13 then [false,false,false,false,false,true] else []) Tryz.func125 ?_;dsimp only[Tryz.f125]
     push_cast -dsimp
     refine cl (hm) ?_;push_cast -dsimp [hk']
     refine cl (hr) ?_;push_cast -dsimp
     refine cl (hg) ?_;push_cast -dsimp
     refine cl (hw) ?_;push_cast -dsimp [hk2']
     refine cl (hd1) ?_;push_cast -dsimp
     refine cl (hd2 s.dir) ?_;push_cast -dsimp
     repeat refine an ?_
     exact dn (by push_cast -dsimp [ze,zd,CLe,zg,e,ex])
    ·have ex:=hx1 hk2
     have hk2':=eq_false hk2
     refine fof (fun j=>if j=13 then [false,false,false,false,false,true] else []) Tryz.func125 ?_;dsimp only[Tryz.f125]
     push_cast -dsimp
     refine cl (hm) ?_;push_cast -dsimp [hk']
     refine cl (hr) ?_;push_cast -dsimp
     refine cl (hg) ?_;push_cast -dsimp
     refine cl (hw) ?_;push_cast -dsimp [hk2']
     refine cl (hd1) ?_;push_cast -dsimp
     refine cl (hd2 0) ?_;push_cast -dsimp
     repeat refine an ?_
     exact dn (by push_cast -dsimp [ze,zd,CLe,zg,e,ex])
theorem zc2 (f:FsV) (hf:FsI f) (hs:FsS f) (s:qy) (hsp:Jw f s) (i:Int) (hi:zn i f.xs=true) (hne:s.dir≠i):Fun Tryz.prog G0 90 [.agg (fsC f),.agg (YJ s),.sc (.int .i64 i)] (.agg (fsC (X3 f s i))) 0:=by
 have hlen:=hs.len
 have hdl:(qk s.dir (zN s.name i) f.xs).length=f.xs.length:=qP hf.rises hsp.has
 have hg:=qG (G:=G0) f s.dir (by omega)
 have hg2:=qG (G:=G0) f i (by omega)
 rw[hsp.has]at hg
 rw[hi]at hg2
 have hes:=hs.es hsp.has
 have hw:=Ui (G:=G0) (zh s.dir f.xs).es s.name i (by omega)
 have hd1:=j9 (G:=G0) f (qi (zh s.dir f.xs) (zN s.name i (zh s.dir f.xs).es)) (by omega)
 have hd2:=j9 (G:=G0) ⟨f.maxI,f.maxB,f.next,qk s.dir (zN s.name i) f.xs⟩ { zh i f.xs with links:=(zh i f.xs).links+1 } (by simp only;omega)
 have hll:=VY hf hs hi
 have e:X3 f s i=⟨f.maxI,f.maxB,f.next,qm { zh i f.xs with links:=(zh i f.xs).links+1 } (qk s.dir (zN s.name i) f.xs)⟩:=rfl
 unfold qk at hd2 e
 refine fof (fun j=>if j=5 then [false,false,false,false,false,true] else []) Tryz.func90 ?_;dsimp only[Tryz.f90]
 push_cast -dsimp
 refine cl (hg) ?_;push_cast -dsimp
 refine cl (hg2) ?_;push_cast -dsimp
 refine cl (hw) ?_;push_cast -dsimp
 repeat refine an ?_
 refine cl (hd1) ?_;push_cast -dsimp
 refine cl (hd2) ?_;push_cast -dsimp
 exact dn (by push_cast -dsimp [ze,zd,CLe,zg,e])
theorem x4 (f:FsV) (hf:FsI f) (hs:FsS f) (s:qy) (hsp:zR f s):Fun Tryz.prog G0 93 [.agg (fsC f),.agg (YJ s)] (.agg (fsC (zD f s))) 0:=by
 have hlen:=hs.len
 have hi:=hsp.ino hf
 have hdl:(qk s.dir (zj s.name) f.xs).length=f.xs.length:=qP hf.rises hsp.has
 have hg:=qG (G:=G0) f s.dir (by omega)
 have hg2:=qG (G:=G0) f s.ino (by omega)
 rw[hsp.has]at hg
 rw[hi]at hg2
 have hes:=hs.es hsp.has
 have hw:=XY (G:=G0) (zh s.dir f.xs).es s.name (by omega)
 have hd1:=j9 (G:=G0) f (qi (zh s.dir f.xs) (zj s.name (zh s.dir f.xs).es)) (by omega)
 have hd2:=j9 (G:=G0) ⟨f.maxI,f.maxB,f.next,qk s.dir (zj s.name) f.xs⟩ { zh s.ino f.xs with links:=(zh s.ino f.xs).links-1 } (by simp only;omega)
 have hd3:=Ma (G:=G0) ⟨f.maxI,f.maxB,f.next,qk s.dir (zj s.name) f.xs⟩ s.ino (by simp only;omega)
 have hll:=VY hf hs hi
 by_cases hz:(zh s.ino f.xs).links-1=0
 ·have e:zD f s=⟨f.maxI,f.maxB,f.next,qj s.ino (qk s.dir (zj s.name) f.xs)⟩:=by unfold zD;rw[if_pos hz]
  unfold qk at hd3 e
  have hz':=eq_true hz
  refine fon Tryz.func93 ?_;dsimp only[Tryz.f93]
  push_cast -dsimp
  refine cl (hg) ?_;push_cast -dsimp
  refine cl (hg2) ?_;push_cast -dsimp
  refine cl (hw) ?_;push_cast -dsimp
  repeat refine an ?_
  refine cl (hd1) ?_;push_cast -dsimp [hz']
  refine cl (hd3) ?_;push_cast -dsimp
  exact dn (by push_cast -dsimp [ze,zd,CLe,zg,e])
 ·have e:zD f s=⟨f.maxI,f.maxB,f.next,qm { zh s.ino f.xs with links:=(zh s.ino f.xs).links-1 } (qk s.dir (zj s.name) f.xs)⟩:=by unfold zD;rw[if_neg hz]
  unfold qk at hd2 e
  have hz':=eq_false hz
  refine fon Tryz.func93 ?_;dsimp only[Tryz.f93]
  push_cast -dsimp
  refine cl (hg) ?_;push_cast -dsimp
  refine cl (hg2) ?_;push_cast -dsimp
  refine cl (hw) ?_;push_cast -dsimp
  repeat refine an ?_
  refine cl (hd1) ?_;push_cast -dsimp [hz']
  refine cl (hd2) ?_;push_cast -dsimp
  exact dn (by push_cast -dsimp [ze,zd,CLe,zg,e])
theorem zcW (f:FsV) (hf:FsI f) (hs:FsS f) (i:Int) (hi:zn i f.xs=true) (t:List UInt8) (ht:t.length<=10000):Fun Tryz.prog G0 127 [.agg (fsC f),.sc (.int .i64 i),.str t] (.tup [.agg (fsC (Js f i t).1),.sc (.int .i64 (Js f i t).2)]) 0:=by
 have hlen:=hs.len
 have hg:=qG (G:=G0) f i (by omega)
 rw[hi]at hg
 have hdl:=(hs.node _ (zk hi).2.1).2.1
 have hr:=U8 (G:=G0) f hs 0 ((t.length:Int)-(zh i f.xs).data.length) (by omega) (by omega)
 have hst:=j9 (G:=G0) f { zh i f.xs with data:=t } (by omega)
 cases hrm:jS f 0 ((t.length:Int)-(zh i f.xs).data.length) with
 | false =>
  have e:Js f i t=(f,8):=by unfold Js;rw[hrm];rfl
  rw[hrm]at hr
  refine fon Tryz.func127 ?_;dsimp only[Tryz.f127]
  push_cast -dsimp
  refine cl (hg) ?_;push_cast -dsimp
  repeat refine an ?_
  refine cl (hr) ?_;push_cast -dsimp
  exact dn (by push_cast -dsimp [ze,zd,CLe,zg,e])
 | true =>
  have e:Js f i t=(YS f i t,0):=by unfold Js;rw[hrm];rfl
  have e2:YS f i t=⟨f.maxI,f.maxB,f.next,qm { zh i f.xs with data:=t } f.xs⟩:=rfl
  rw[hrm]at hr
  refine fon Tryz.func127 ?_;dsimp only[Tryz.f127]
  push_cast -dsimp
  refine cl (hg) ?_;push_cast -dsimp
  repeat refine an ?_
  refine cl (hr) ?_;push_cast -dsimp
  refine cl (hst) ?_;push_cast -dsimp
  exact dn (by push_cast -dsimp [ze,zd,CLe,zg,e,e2])
end
section
open CA CB
open Go.RowKit
theorem zfy (f:FsV) (hf:FsI f) (hs:FsS f) (a b:qy) (ha:zR f a) (hb:Jw f b) (hb0:b.ino=0):Fun Tryz.prog G0 91 [.agg (fsC f),.agg (YJ a),.agg (YJ b)] (.agg (fsC (Yp f a b))) 0:=by
 have hai:=zR.ino hf ha
 have hlen:=hs.len
 have hga:=qG (G:=G0) f a.dir (by omega)
 rw[ha.has]at hga
 have hwa:=XY (G:=G0) (zh a.dir f.xs).es a.name (by have:=hs.es ha.has;omega)
 have hda:=j9 (G:=G0) f (qi (zh a.dir f.xs) (zj a.name (zh a.dir f.xs).es)) (by omega)
 obtain ⟨g1,hg1⟩:∃ g1,qk a.dir (zj a.name) f.xs=g1:=⟨_,rfl⟩
 obtain ⟨g2,hg2⟩:∃ g2,qk b.dir (zN b.name a.ino) g1=g2:=⟨_,rfl⟩
 have hR1:z7 g1:=by rw[←hg1];exact z6 hf.rises
 have hl1:g1.length=f.xs.length:=by rw[←hg1];exact qP hf.rises ha.has
 have hb1:zn b.dir g1=true:=by rw[←hg1,zU ha.has];exact hb.has
 have hl2:g2.length=f.xs.length:=by rw[←hg2,qP hR1 hb1,hl1]
 have hi2:zn a.ino g2=true:=by rw[←hg2,zU hb1,←hg1,zU ha.has];exact hai
 have hgb:=qG (G:=G0) ⟨f.maxI,f.maxB,f.next,g1⟩ b.dir (by simp only;omega)
 simp only at hgb
 rw[hb1]at hgb
 have hres:(zh b.dir g1).es.length<=10000:=by
  rw[←hg1,Jm ha.has]
  split
  ·show (JS zZ.name _ _).length<=10000
   have:=Y9 (key:=zZ.name) a.name (zh a.dir f.xs).es
   have:=hs.es ha.has
   omega
  ·exact hs.es hb.has
 have hwb:=Ui (G:=G0) (zh b.dir g1).es b.name a.ino (by omega)
 have hdb:=j9 (G:=G0) ⟨f.maxI,f.maxB,f.next,g1⟩ (qi (zh b.dir g1) (zN b.name a.ino (zh b.dir g1).es)) (by simp only;omega)
 have hgx:=qG (G:=G0) ⟨f.maxI,f.maxB,f.next,g2⟩ a.ino (by simp only;omega)
 simp only at hgx
 rw[hi2]at hgx
 have e0:Yp f a b=if (zh a.ino g2).kind=2 then ⟨f.maxI,f.maxB,f.next,qm { zh a.ino g2 with parent:=b.dir } g2⟩ else ⟨f.maxI,f.maxB,f.next,g2⟩:=by unfold Yp;rw[hg1,hg2]
 have hda':Fun Tryz.prog G0 63 [.agg (fsC f),.agg (J4 (qi (zh a.dir f.xs) (zj a.name (zh a.dir f.xs).es)))] (.agg [.sc (.int .i64 f.maxI),.sc (.int .i64 f.maxB),.sc (.int .i64 f.next),.own 0 75 6 (zt g1)]) 1:=by rw[←hg1];exact hda
 have hdb':Fun Tryz.prog G0 63 [.agg (fsC ⟨f.maxI,f.maxB,f.next,g1⟩),.agg (J4 (qi (zh b.dir g1) (zN b.name a.ino (zh b.dir g1).es)))] (.agg [.sc (.int .i64 f.maxI),.sc (.int .i64 f.maxB),.sc (.int .i64 f.next),.own 0 75 6 (zt g2)]) 1:=by rw[←hg2];exact hdb
 have hb0':=eq_true hb0
 by_cases hk:(zh a.ino g2).kind=2
 ·rw[if_pos hk]at e0
  have hk':=eq_true hk
  have hd:=j9 (G:=G0) ⟨f.maxI,f.maxB,f.next,g2⟩ { zh a.ino g2 with parent:=b.dir } (by simp only;omega)
  refine fon Tryz.func91 ?_;dsimp only[Tryz.f91]
  push_cast -dsimp [hb0']
  refine cl (hga) ?_;push_cast -dsimp
  refine cl (hwa) ?_;push_cast -dsimp
  refine cl (hda') ?_;push_cast -dsimp
  refine cl (hgb) ?_;push_cast -dsimp
  refine cl (hwb) ?_;push_cast -dsimp
  refine cl (hdb') ?_;push_cast -dsimp
  refine cl (hgx) ?_;push_cast -dsimp [hk']
  refine cl (hd) ?_;push_cast -dsimp
  exact dn (by push_cast -dsimp [ze,zd,CLe,zg,e0])
 ·rw[if_neg hk]at e0
  have hk':=eq_false hk
  refine fon Tryz.func91 ?_;dsimp only[Tryz.f91]
  push_cast -dsimp [hb0']
  refine cl (hga) ?_;push_cast -dsimp
  refine cl (hwa) ?_;push_cast -dsimp
  refine cl (hda') ?_;push_cast -dsimp
  refine cl (hgb) ?_;push_cast -dsimp
  refine cl (hwb) ?_;push_cast -dsimp
  refine cl (hdb') ?_;push_cast -dsimp
  refine cl (hgx) ?_;push_cast -dsimp [hk']
  exact dn (by push_cast -dsimp [ze,zd,CLe,zg,e0])
theorem kw {ks:List zP} {i:Nat} (h:i<ks.length):jy (ks.take (i+1))=ks[i].slot:=by
 have q:(ks.take (i+1)).getLast?=some ks[i]:=by
  rw[List.getLast?_eq_getElem?,show (ks.take (i+1)).length-1=i by rw[List.length_take];omega,List.getElem?_take_of_lt (by omega),List.getElem?_eq_getElem h]
 unfold jy
 rw[q]
section
variable {G:zr}
theorem Hm (w:qg) (n:Int) (hl:w.kept.length<=100000):Fun Tryz.prog G 95 [jB w,.sc (.int .i64 n)] (.tup [.agg (j6 (UQ n w.kept)),.sc (.bool (U0 n w.kept))]) 0:=by
 obtain ⟨f,ks,pool⟩:=w
 have hl:ks.length<=100000:=hl
 have hll:(zH ks).length=ks.length:=List.length_map ..
 show Fun Tryz.prog G 95 [jB ⟨f,ks,pool⟩,.sc (.int .i64 n)] (.tup [.agg (j6 (UQ n ks)),.sc (.bool (U0 n ks))]) 0
 refine fon Tryz.func95 ?_;dsimp only[Tryz.f95]
 push_cast -dsimp
 refine loop (fun i:Nat=>⟨[(1,.sc (.int .i64 n)),(2,.ptr 0 0),(4,.ptr 1 0),(6,.sc (.int .i64 i))],[kI ⟨f,ks,pool⟩,[.sc (.int .i64 0),.sc (.int .i64 0),.sc (.bool false),.str []]],0,0⟩) (fun i=>i<=ks.length/\J3 zP.slot n (ks.take i)=false) (fun i=>ks.length-i) 0 ⟨Nat.zero_le _,rfl⟩ ?_ ?_
 ·exact wk
 ·rintro i ⟨h1,h2⟩
  by_cases h:i<ks.length
  ·have g1:=jr ks i h
   obtain ⟨q1,q2⟩:=Hp h h2
   by_cases he:ks[i].slot=n
   ·have q:=q1 he
    have e1:U0 n ks=true:=by unfold U0;rw[jz,q];rfl
    have e2:UQ n ks=ks[i]:=by unfold UQ;rw[q];rfl
    push_cast -dsimp [hll,h,g1,he]
    repeat refine an ?_
    exact dn (by push_cast -dsimp [ze,zd,CLe,zg,e1,e2,he])
   ·push_cast -dsimp [hll,h,g1,he]
    repeat refine an ?_
    exact ⟨i+1,⟨h,q2 he⟩,by omega,wk⟩
  ·rw[List.take_of_length_le (by omega)]at h2
   have e1:U0 n ks=false:=h2
   have e2:UQ n ks=zc6:=by unfold UQ;rw[uA h2];rfl
   push_cast -dsimp [hll,h]
   exact dn (by push_cast -dsimp [ze,zd,CLe,zg,e1,e2,zc6])
theorem Ve (w:qg) (k:zP) (hl:w.kept.length<=90000):Fun Tryz.prog G 130 [jB w,.agg (j6 k)] (jB { w with kept:=qv k w.kept }) 0:=by
 obtain ⟨f,ks,pool⟩:=w
 have hl:ks.length<=90000:=hl
 have hll:(zH ks).length=ks.length:=List.length_map ..
 show Fun Tryz.prog G 130 [jB ⟨f,ks,pool⟩,.agg (j6 k)] (jB ⟨f,Xr jP zP.slot k ks,pool⟩) 0
 refine fon Tryz.func130 ?_;dsimp only[Tryz.f130]
 push_cast -dsimp
 refine loop (fun p:Nat×List zP×Bool=>⟨[(2,.ptr 0 0),(3,.ptr 1 0),(4,.ptr 2 0),(5,.own 0 92 4 (zH p.2.1)),(6,.sc (.bool p.2.2)),(7,.sc (.int .i64 p.1))],[kI ⟨f,ks,pool⟩,j6 k,[.sc (.int .i64 0),.sc (.int .i64 0),.sc (.int .i64 0),.sc (.slice none 0 0),.sc (.slice none 0 0),.sc (.slice none 0 0)]],1,0⟩)
  (fun p=>p.1<=ks.length/\p.2.1.length<=p.1+p.2.2.toNat/\Xr jP zP.slot k ks=p.2.1++(if p.2.2 then ks.drop p.1 else Xr jP zP.slot k (ks.drop p.1))) (fun p=>ks.length-p.1) (0,[],false) ⟨Nat.zero_le _,Nat.zero_le _,by simp⟩ ?_ ?_
 ·exact wks [.inr (92,4)]
 ·rintro ⟨i,out,d⟩ ⟨h1,h2,h3⟩
  dsimp only at h1 h2 h3 ⊢
  have hlo:(zH out).length=out.length:=List.length_map ..
  by_cases h:i<ks.length
  ·have g1:=jr ks i h
   rw[List.drop_eq_getElem_cons h]at h3
   cases d with
   | true =>
    simp only[Bool.toNat_true]at h2
    push_cast -dsimp [hll,h,g1]
    repeat refine an ?_
    exact ⟨(i+1,out++[ks[i]],true),⟨h,by simp;omega,by rw[h3];simp⟩,by dsimp only;omega,wks [.inl 0] (by push_cast -dsimp [ze,zd,CLe,zg,List.map_append])⟩
   | false =>
    simp only[Bool.false_eq_true,if_false,Xr]at h3
    simp only[Bool.toNat_false]at h2
    by_cases hc:k.slot<ks[i].slot
    ·rw[if_pos (show jP.lt k.slot ks[i].slot=true from decide_eq_true hc)]at h3
     push_cast -dsimp [hll,h,g1,hc]
     repeat refine an ?_
     exact ⟨(i+1,out++[k]++[ks[i]],true),⟨h,by simp;omega,by rw[h3];simp⟩,by dsimp only;omega,wks [.inl 0] (by push_cast -dsimp [ze,zd,CLe,zg,List.map_append])⟩
    ·rw[if_neg (show ¬jP.lt k.slot ks[i].slot=true by rw[show jP.lt k.slot ks[i].slot=false from decide_eq_false hc];decide)]at h3
     push_cast -dsimp [hll,h,g1,hc]
     repeat refine an ?_
     exact ⟨(i+1,out++[ks[i]],false),⟨h,by simp;omega,by rw[h3];simp⟩,by dsimp only;omega,wks [.inl 0] (by push_cast -dsimp [ze,zd,CLe,zg,List.map_append])⟩
  ·rw[List.drop_of_length_le (by omega)]at h3
   cases d with
   | true =>
    simp only[Bool.toNat_true]at h2
    have h3:Xr jP zP.slot k ks=out:=by rw[h3];simp
    push_cast -dsimp [hll,h]
    exact dn (by push_cast -dsimp [ze,zd,CLe,zg,h3])
   | false =>
    simp only[Bool.toNat_false]at h2
    have h3:Xr jP zP.slot k ks=out++[k]:=by rw[h3];simp[Xr]
    push_cast -dsimp [hll,h]
    repeat refine an ?_
    exact dn (by push_cast -dsimp [ze,zd,CLe,zg,h3,List.map_append])
theorem Zh (w:qg):Fun Tryz.prog G 50 [jB w] (.agg [.sc (.int .i64 0),.sc (.int .i64 0),.sc (.int .i64 0),.sl 6 (zt w.pool)]) 0:=by
 refine fon Tryz.func50 ?_;dsimp only[Tryz.f50]
 push_cast -dsimp
 exact dn
theorem kA (w:qg) (hk:w.kept.length<=100000) (hR:qI jP zP.slot w.kept) (hp:∀ k∈w.kept,1<=k.slot):Fun Tryz.prog G 22 [jB w] (.sc (.int .i64 (jy w.kept))) 0:=by
 obtain ⟨f,ks,pool⟩:=w
 have hk:ks.length<=100000:=hk
 have hll:(zH ks).length=ks.length:=List.length_map ..
 show Fun Tryz.prog G 22 [jB ⟨f,ks,pool⟩] (.sc (.int .i64 (jy ks))) 0
 have h0:jy []=0:=rfl
 refine fon Tryz.func22 ?_;dsimp only[Tryz.f22]
 push_cast -dsimp
 refine loop (fun i:Nat=>⟨[(1,.ptr 0 0),(3,.sc (.int .i64 (jy (ks.take i)))),(4,.sc (.int .i64 i))],[kI ⟨f,ks,pool⟩],0,0⟩) (fun i=>i<=ks.length) (fun i=>ks.length-i) 0 (Nat.zero_le _) ?_ ?_
 ·exact wk (by push_cast -dsimp [ze,zd,CLe,zg,List.take_zero,h0])
 ·intro i hi
  by_cases h:i<ks.length
  ·have g1:=jr ks i h
   have e1:jy (ks.take (i+1))=ks[i].slot:=kw h
   have e2:(if ks[i].slot>jy (ks.take i) then ks[i].slot else jy (ks.take i))=ks[i].slot:=by
    suffices hle:jy (ks.take i)<=ks[i].slot by split<;>omega
    rcases Nat.eq_zero_or_pos i with rfl | hpos
    ·have:=hp _ (List.getElem_mem h)
     show (0:Int)<=_
     omega
    ·obtain ⟨j,rfl⟩:∃ j,i=j+1:=⟨i-1,by omega⟩
     have hj:j<ks.length:=by omega
     rw[kw hj]
     have:=(List.pairwise_iff_getElem.1 hR) j (j+1) hj h (by omega)
     have:ks[j].slot<ks[j+1].slot:=of_decide_eq_true this
     omega
   push_cast -dsimp [hll,h,g1]
   repeat refine an ?_
   exact ⟨i+1,h,by omega,wk (by push_cast -dsimp [ze,zd,CLe,zg,e1,e2])⟩
  ·rw[List.take_of_length_le (by omega)]
   push_cast -dsimp [hll,h]
   exact dn
end
end
section
open CA CB
open Go.RowKit
theorem G4 (w:qg) (hs:FsS w.fs) (hk:w.kept.length<=90000) (n i:Int):Fun Tryz.prog G0 126 [jB w,.sc (.int .i64 n),.sc (.int .i64 i)] (.tup [jB (zV w n i).1,.sc (.int .i64 (zV w n i).2)]) 0:=by
 have hlen:=hs.len
 have h1:=Hm (G:=G0) w n (by omega)
 cases hh:U0 n w.kept with
 | true =>
  have e:zV w n i=(w,13):=by unfold zV;rw[hh];rfl
  rw[hh]at h1
  refine fon Tryz.func126 ?_;dsimp only[Tryz.f126]
  push_cast -dsimp
  refine cl (h1) ?_;push_cast -dsimp
  exact dn (by push_cast -dsimp [ze,zd,CLe,zg,e])
 | false =>
  have e:zV w n i=({ w with kept:=qv ⟨n,i,true,(zh i w.fs.xs).data⟩ w.kept },0):=by unfold zV;rw[hh];rfl
  rw[hh]at h1
  have hg:=qG (G:=G0) w.fs i (by omega)
  have hw:=Ve (G:=G0) w ⟨n,i,true,(zh i w.fs.xs).data⟩ hk
  refine fon Tryz.func126 ?_;dsimp only[Tryz.f126]
  push_cast -dsimp
  refine cl (h1) ?_;push_cast -dsimp
  refine cl (hg) ?_;push_cast -dsimp
  refine cl (hw) ?_;push_cast -dsimp
  exact dn (by push_cast -dsimp [ze,zd,CLe,zg,e])
theorem zdd (w:qg) (hw:J9 w) (hs:FsS w.fs) (hk:w.kept.length<=90000) (hp:w.pool.length<=90000) (n:Int) (s:qy) (hsp:zR w.fs s):Fun Tryz.prog G0 92 [jB w,.sc (.int .i64 n),.agg (YJ s)] (.tup [jB (JA w n s).1,.sc (.int .i64 (JA w n s).2)]) 0:=by
 have hf:=hw.fs
 have hlen:=hs.len
 have hino:=hsp.ino hf
 have h1:=Hm (G:=G0) w n (by omega)
 cases hh:U0 n w.kept with
 | true =>
  have e:JA w n s=(w,13):=by unfold JA;rw[hh];rfl
  rw[hh]at h1
  refine fof (fun j=>if j=9 then [false,false,false,false,false,false,false,true] else []) Tryz.func92 ?_;dsimp only[Tryz.f92]
  push_cast -dsimp
  refine cl (h1) ?_;push_cast -dsimp
  exact dn (by push_cast -dsimp [ze,zd,CLe,zg,e])
 | false =>
  rw[hh]at h1
  have hg:=qG (G:=G0) w.fs s.ino (by omega)
  rw[hino]at hg
  have hu:=x4 w.fs hf hs s hsp
  by_cases hz:(zh s.ino w.fs.xs).links=1
  ·have e:JA w n s=(⟨zD w.fs s,qv ⟨n,s.ino,false,[]⟩ w.kept,qm { zh s.ino w.fs.xs with links:=0,parent:=0 } w.pool⟩,0):=by unfold JA;rw[hh,if_pos hz];rfl
   have hz':=eq_true hz
   have hpo:=Zh (G:=G0) ⟨zD w.fs s,w.kept,w.pool⟩
   have hst:=j9 (G:=G0) ⟨0,0,0,w.pool⟩ { zh s.ino w.fs.xs with links:=0,parent:=0 } hp
   have hwi:=Ve (G:=G0) ⟨zD w.fs s,w.kept,qm { zh s.ino w.fs.xs with links:=0,parent:=0 } w.pool⟩ ⟨n,s.ino,false,[]⟩ hk
   refine fof (fun j=>if j=9 then [false,false,false,false,false,false,false,true] else []) Tryz.func92 ?_;dsimp only[Tryz.f92]
   push_cast -dsimp
   refine cl (h1) ?_;push_cast -dsimp
   refine cl (hg) ?_;push_cast -dsimp
   refine cl (hu) ?_;push_cast -dsimp [hz']
   refine cl (hpo) ?_;push_cast -dsimp
   refine cl (hst) ?_;push_cast -dsimp
   refine cl (hwi) ?_;push_cast -dsimp
   exact dn (by push_cast -dsimp [ze,zd,CLe,zg,e])
  ·have e:JA w n s=(⟨zD w.fs s,qv ⟨n,s.ino,false,[]⟩ w.kept,w.pool⟩,0):=by unfold JA;rw[hh,if_neg hz];rfl
   have hz':=eq_false hz
   have hwi:=Ve (G:=G0) ⟨zD w.fs s,w.kept,w.pool⟩ ⟨n,s.ino,false,[]⟩ hk
   refine fof (fun j=>if j=9 then [false,false,false,false,false,false,false,true] else []) Tryz.func92 ?_;dsimp only[Tryz.f92]
   push_cast -dsimp
   refine cl (h1) ?_;push_cast -dsimp
   refine cl (hg) ?_;push_cast -dsimp
   refine cl (hu) ?_;push_cast -dsimp [hz']
   refine cl (hwi) ?_;push_cast -dsimp
   exact dn (by push_cast -dsimp [ze,zd,CLe,zg,e])
theorem QU (f:FsV) (hf:FsI f) (hs:FsS f) (p:List UInt8) (hp:p.length<=100000) (b:Bool):Fun Tryz.prog G0 89 [.agg (fsC f),.str p,.sc (.int .i64 (if b then 1 else 0))] (.tup [.agg (YJ (isV f p b).1),.agg (J4 (isV f p b).2.1),.sc (.int .i64 (isV f p b).2.2)]) 0:=by
 have hlen:=hs.len
 have h1:=zmE f hf hs p hp
 have h2:=qG (G:=G0) f (atV f p).1.ino (by omega)
 have e1:(isV f p b).1=(atV f p).1:=rfl
 have e2:(isV f p b).2.1=zh (atV f p).1.ino f.xs:=rfl
 have e3:(isV f p b).2.2=if (atV f p).2≠0 then (atV f p).2 else if b&&!zn (atV f p).1.ino f.xs then 1 else if !b&&zn (atV f p).1.ino f.xs then 2 else 0:=rfl
 by_cases h0:(atV f p).2=0
 ·rw[if_neg (fun h=>h h0)]at e3
  have h0':=eq_true h0
  rw[h0]at h1
  cases hb:b with
  | true =>
   subst hb
   cases hh:zn (atV f p).1.ino f.xs with
   | true =>
    rw[hh]at h2 e3
    simp only[Bool.true_and,Bool.not_true,Bool.false_and,if_false,Bool.false_eq_true]at e3
    refine fof (fun i=>if i=7 then VQ [(0,.pure),(1,.pure),(2,.pure),(3,.flt [1,2]),(4,.flt [2]),(5,.pure)] else []) Tryz.func89 ?_;dsimp only[Tryz.f89]
    push_cast -dsimp [if_true]
    refine cl (h1) ?_;push_cast -dsimp
    refine cl (h2) ?_;push_cast -dsimp
    exact dn (by push_cast -dsimp [ze,zd,CLe,zg,e1,e2,e3])
   | false =>
    rw[hh]at h2 e3
    simp only[Bool.true_and,Bool.not_false,if_true]at e3
    refine fof (fun i=>if i=7 then VQ [(0,.pure),(1,.pure),(2,.pure),(3,.flt [1,2]),(4,.flt [2]),(5,.pure)] else []) Tryz.func89 ?_;dsimp only[Tryz.f89]
    push_cast -dsimp [if_true]
    refine cl (h1) ?_;push_cast -dsimp
    refine cl (h2) ?_;push_cast -dsimp
    exact dn (by push_cast -dsimp [ze,zd,CLe,zg,e1,e2,e3])
  | false =>
   subst hb
   cases hh:zn (atV f p).1.ino f.xs with
   | true =>
    rw[hh]at h2 e3
    simp only[Bool.false_and,Bool.not_false,Bool.true_and,if_true,if_false,Bool.false_eq_true]at e3
    refine fof (fun i=>if i=7 then VQ [(0,.pure),(1,.pure),(2,.pure),(3,.flt [1,2]),(4,.flt [2]),(5,.pure)] else []) Tryz.func89 ?_;dsimp only[Tryz.f89]
    push_cast -dsimp [Bool.false_eq_true,if_false]
    refine cl (h1) ?_;push_cast -dsimp
    refine cl (h2) ?_;push_cast -dsimp
    exact dn (by push_cast -dsimp [ze,zd,CLe,zg,e1,e2,e3])
   | false =>
    rw[hh]at h2 e3
    simp only[Bool.false_and,Bool.not_false,Bool.true_and,if_false,Bool.false_eq_true]at e3
    refine fof (fun i=>if i=7 then VQ [(0,.pure),(1,.pure),(2,.pure),(3,.flt [1,2]),(4,.flt [2]),(5,.pure)] else []) Tryz.func89 ?_;dsimp only[Tryz.f89]
    push_cast -dsimp [Bool.false_eq_true,if_false]
    refine cl (h1) ?_;push_cast -dsimp
    refine cl (h2) ?_;push_cast -dsimp
    exact dn (by push_cast -dsimp [ze,zd,CLe,zg,e1,e2,e3])
 ·rw[if_pos h0]at e3
  have h0':=eq_false h0
  refine fof (fun i=>if i=7 then VQ [(0,.pure),(1,.pure),(2,.pure),(3,.flt [1,2]),(4,.flt [2]),(5,.pure)] else []) Tryz.func89 ?_;dsimp only[Tryz.f89]
  push_cast -dsimp
  refine cl (h1) ?_;push_cast -dsimp
  refine cl (h2) ?_;push_cast -dsimp [h0']
  exact dn (by push_cast -dsimp [ze,zd,CLe,zg,e1,e2,e3])
theorem kB (f:FsV) (hf:FsI f) (hs:FsS f) (p:List UInt8) (hp:p.length<=100000):Fun Tryz.prog G0 87 [.agg (fsC f),.str p] (.tup [.agg (J4 (zL f p).1),.sc (.int .i64 (zL f p).2)]) 0:=by
 have h1:=QU f hf hs p hp true
 rw[if_pos rfl]at h1
 have e1:(zL f p).1=(isV f p true).2.1:=rfl
 have e2:(zL f p).2=if (isV f p true).2.2≠0 then (isV f p true).2.2 else if (isV f p true).2.1.kind=2 then 4 else if (isV f p true).2.1.kind=3 then 9 else 0:=rfl
 by_cases h0:(isV f p true).2.2=0
 ·rw[if_neg (fun h=>h h0)]at e2
  have h0':=eq_true h0
  rw[h0]at h1
  by_cases hk:(isV f p true).2.1.kind=2
  ·rw[if_pos hk]at e2
   have hk':=eq_true hk
   refine fon Tryz.func87 ?_;dsimp only[Tryz.f87]
   push_cast -dsimp
   refine cl (h1) ?_;push_cast -dsimp [hk']
   exact dn (by push_cast -dsimp [ze,zd,CLe,zg,e1,e2])
  ·rw[if_neg hk]at e2
   have hk':=eq_false hk
   by_cases hk3:(isV f p true).2.1.kind=3
   ·rw[if_pos hk3]at e2
    have hk3':=eq_true hk3
    refine fon Tryz.func87 ?_;dsimp only[Tryz.f87]
    push_cast -dsimp
    refine cl (h1) ?_;push_cast -dsimp [hk',hk3']
    exact dn (by push_cast -dsimp [ze,zd,CLe,zg,e1,e2])
   ·rw[if_neg hk3]at e2
    have hk3':=eq_false hk3
    refine fon Tryz.func87 ?_;dsimp only[Tryz.f87]
    push_cast -dsimp
    refine cl (h1) ?_;push_cast -dsimp [hk',hk3']
    exact dn (by push_cast -dsimp [ze,zd,CLe,zg,e1,e2])
 ·rw[if_pos h0]at e2
  have h0':=eq_false h0
  refine fon Tryz.func87 ?_;dsimp only[Tryz.f87]
  push_cast -dsimp
  refine cl (h1) ?_;push_cast -dsimp [h0']
  exact dn (by push_cast -dsimp [ze,zd,CLe,zg,e1,e2])
theorem Ug (w:qg) (hw:J9 w) (hs:V1 w) (p:List UInt8) (hp:p.length<=100000) (hpl:zM p=true) (k:Int) (t:List UInt8) (ht:t.length<=10000):Fun Tryz.prog G0 86 [jB w,.str p,.sc (.int .i64 k),.str t] (.tup [jB (j0 w p k t).1,.sc (.int .i64 (j0 w p k t).2)]) 0:=by
 have h1:=QU w.fs hw.fs hs.fs p hp false
 rw[if_neg (by decide)]at h1
 by_cases h0:(isV w.fs p false).2.2=0
 ·have h0':=eq_true h0
  have hfr:=jX hw.fs hpl h0
  have hln:=ub hw.fs hpl (Xs h0)
  have hln:(isV w.fs p false).1.name.length<=300:=hln
  have hc:=yH w.fs hw.fs hs.fs hs.next (isV w.fs p false).1 hfr (by omega) k t (by omega)
  have e:j0 w p k t=({ w with fs:=(Q3 w.fs (isV w.fs p false).1 k t).1 },(Q3 w.fs (isV w.fs p false).1 k t).2):=by unfold j0;rw[if_neg (fun h=>h h0)]
  rw[h0]at h1
  refine fon Tryz.func86 ?_;dsimp only[Tryz.f86]
  push_cast -dsimp
  refine cl (h1) ?_;push_cast -dsimp
  refine cl (hc) ?_;push_cast -dsimp
  exact dn (by push_cast -dsimp [ze,zd,CLe,zg,e])
 ·have h0':=eq_false h0
  have e:j0 w p k t=(w,(isV w.fs p false).2.2):=by unfold j0;rw[if_pos h0]
  refine fon Tryz.func86 ?_;dsimp only[Tryz.f86]
  push_cast -dsimp
  refine cl (h1) ?_;push_cast -dsimp [h0']
  exact dn (by push_cast -dsimp [ze,zd,CLe,zg,e])
theorem MW (w:qg) (hw:J9 w) (hs:V1 w) (o:OpV) (ho:short o) (pa:zM o.a=true) (pb:zM o.b=true):Fun Tryz.prog G0 88 [jB w,.agg (opL o)] (.tup [jB (zS w o).1,.sc (.int .i64 (zS w o).2)]) 0:=by
 obtain ⟨k,s,a,b,d⟩:=o
 obtain ⟨la,lb,_⟩:=ho
 have la:a.length<=100000:=la
 have lb:b.length<=100000:=lb
 have h1:=kB w.fs hw.fs hs.fs a la
 have h2:=kB w.fs hw.fs hs.fs b lb
 by_cases c1:(zL w.fs a).2=0
 case neg =>
  have c1':=eq_false c1
  have e:zS w ⟨k,s,a,b,d⟩=(w,(zL w.fs a).2):=by unfold zS;rw[if_pos c1]
  unfold opL
  refine fon Tryz.func88 ?_;dsimp only[Tryz.f88]
  push_cast -dsimp
  refine cl (h1) ?_;push_cast -dsimp [c1']
  exact dn (by push_cast -dsimp [ze,zd,CLe,zg,e])
 have f1:=Zz hw hs pa c1
 rw[c1]at h1
 by_cases c2:(zL w.fs b).2=0
 case neg =>
  have c2':=eq_false c2
  have e:zS w ⟨k,s,a,b,d⟩=(w,(zL w.fs b).2):=by unfold zS;rw[if_neg (fun h=>h c1),if_pos c2]
  unfold opL
  refine fon Tryz.func88 ?_;dsimp only[Tryz.f88]
  push_cast -dsimp
  refine cl (h1) ?_;push_cast -dsimp
  refine cl (h2) ?_;push_cast -dsimp [c2']
  exact dn (by push_cast -dsimp [ze,zd,CLe,zg,e])
 rw[c2]at h2
 have f2:=(X4 hw.fs pb c2).1
 by_cases c3:(zL w.fs a).1.ino=(zL w.fs b).1.ino
 ·have c3':=eq_true c3
  have e:zS w ⟨k,s,a,b,d⟩=(w,9):=by unfold zS;rw[if_neg (fun h=>h c1),if_neg (fun h=>h c2),if_pos c3]
  unfold opL
  refine fon Tryz.func88 ?_;dsimp only[Tryz.f88]
  push_cast -dsimp
  refine cl (h1) ?_;push_cast -dsimp
  refine cl (h2) ?_;push_cast -dsimp [c3']
  exact dn (by push_cast -dsimp [ze,zd,CLe,zg,e])
 have c3':=eq_false c3
 have h3:=G4 w hs.fs (by have:=hs.kept;omega) s (zL w.fs b).1.ino
 by_cases c4:(zV w s (zL w.fs b).1.ino).2=0
 case neg =>
  have c4':=eq_false c4
  have e:zS w ⟨k,s,a,b,d⟩=(w,(zV w s (zL w.fs b).1.ino).2):=by unfold zS;rw[if_neg (fun h=>h c1),if_neg (fun h=>h c2),if_neg c3,if_pos c4]
  unfold opL
  refine fon Tryz.func88 ?_;dsimp only[Tryz.f88]
  push_cast -dsimp
  refine cl (h1) ?_;push_cast -dsimp
  refine cl (h2) ?_;push_cast -dsimp [c3']
  refine cl (h3) ?_;push_cast -dsimp [c4']
  exact dn (by push_cast -dsimp [ze,zd,CLe,zg,e])
 rw[c4]at h3
 have efs:(zV w s (zL w.fs b).1.ino).1.fs=w.fs:=by unfold zV;split<;>rfl
 have h4:=zcW w.fs hw.fs hs.fs (zL w.fs b).1.ino f2 (zL w.fs a).1.data f1
 by_cases c5:(Js w.fs (zL w.fs b).1.ino (zL w.fs a).1.data).2=0
 case neg =>
  have c5':=eq_false c5
  have e:zS w ⟨k,s,a,b,d⟩=(w,(Js w.fs (zL w.fs b).1.ino (zL w.fs a).1.data).2):=by unfold zS;rw[if_neg (fun h=>h c1),if_neg (fun h=>h c2),if_neg c3,if_neg (fun h=>h c4),if_pos c5]
  unfold opL
  refine fon Tryz.func88 ?_;dsimp only[Tryz.f88]
  push_cast -dsimp
  refine cl (h1) ?_;push_cast -dsimp
  refine cl (h2) ?_;push_cast -dsimp [c3']
  refine cl (h3) ?_;push_cast -dsimp [efs]
  refine cl (h4) ?_;push_cast -dsimp [c5']
  exact dn (by push_cast -dsimp [ze,zd,CLe,zg,e])
 rw[c5]at h4
 have e:zS w ⟨k,s,a,b,d⟩=({ (zV w s (zL w.fs b).1.ino).1 with fs:=(Js w.fs (zL w.fs b).1.ino (zL w.fs a).1.data).1 },0):=by unfold zS;rw[if_neg (fun h=>h c1),if_neg (fun h=>h c2),if_neg c3,if_neg (fun h=>h c4),if_neg (fun h=>h c5)]
 unfold opL
 refine fon Tryz.func88 ?_;dsimp only[Tryz.f88]
 push_cast -dsimp
 refine cl (h1) ?_;push_cast -dsimp
 refine cl (h2) ?_;push_cast -dsimp [c3']
 refine cl (h3) ?_;push_cast -dsimp [efs]
 refine cl (h4) ?_;push_cast -dsimp
 exact dn (by push_cast -dsimp [ze,zd,CLe,zg,e])
end
section
open CA CB
open Go.RowKit
def zqB (n:Int):List C:=[.sc (.int .i64 n)]
abbrev zoz (l:List Int):List (List C):=l.map zqB
theorem xZ (l:List Int):(zoz l).length=l.length:=List.length_map _
theorem zcE (l:List Int) (n:Int):zoz l++[[.sc (.int .i64 n)]]=zoz (l++[n]):=by simp[zqB]
attribute [push_cast] xZ zcE
abbrev Hk (l:List OpV):List (List C):=l.map opL
theorem Xf (l:List OpV):(Hk l).length=l.length:=List.length_map _
theorem Uf (l:List OpV) (k:Nat) (h:k<l.length):(Hk l)[k]?=some (opL (l[k]'h)):=by rw[List.getElem?_map,List.getElem?_eq_getElem h];rfl
theorem zeA (l:List OpV) (k:Nat):(Hk l).take k=Hk (l.take k):=List.map_take.symm
theorem zdv (l:List OpV) (k:Nat):(Hk l).drop k=Hk (l.drop k):=List.map_drop.symm
attribute [push_cast] Xf zeA zdv
def zm2 (a b:Int):Int:=if a<b then -1 else if b<a then 1 else 0
def v7 (w:Int):List Int->Bool
 | a :: b :: r=>decide (zm2 b a=w)&&v7 w (b :: r)
 | _=>true
theorem uO (w:Int):∀ l:List Int,v7 w l=true↔∀ (j:Nat) (h:j+1<l.length),zm2 (l[j+1]'h) (l[j]'(by omega))=w
 | []=>by simp[v7]
 | [a]=>by simp[v7]
 | a :: b :: r=>by
  have ih:=uO w (b :: r)
  simp only[v7,Bool.and_eq_true,decide_eq_true_eq,ih]
  constructor
  ·rintro ⟨h1,h2⟩ j h
   cases j with
   | zero=>exact h1
   | succ j=>exact h2 j (by simpa using h)
  ·exact fun h=>⟨h 0 (by simp),fun j hj=>h (j+1) (by simpa using hj)⟩
end
section
open Go.RowKit
def qL (l:List OpV):List Int:=(l.filter fun o=>qX o.kind).map (·.slot)
theorem QX (l:List OpV) (k:Nat) (h:k<l.length):qL (l.take (k+1))=if qX (l[k]'h).kind then qL (l.take k)++[(l[k]'h).slot] else qL (l.take k):=by
 unfold qL
 rw[List.take_add_one,List.getElem?_eq_getElem h,List.filter_append]
 cases hf:qX (l[k]'h).kind<;>simp[hf]
theorem za3 (l:List OpV) (k:Nat):(qL (l.take k)).length<=k:=by
 unfold qL
 rw[List.length_map]
 have:=List.length_filter_le (fun o:OpV=>qX o.kind) (l.take k)
 have:(l.take k).length<=k:=by rw[List.length_take];omega
 omega
end
section
open Go.RowKit
def X2 (o:OpV):Bool:=!XH o||decide (7<o.kind)
def znP (l:List OpV):Prop:=∀ o∈l,short o
def XU (l:List OpV):Bool:=!l.any X2&&v7 1 (qL l)
end
section
open CA CB
open Go.RowKit
theorem HQ (p:List UInt8) (hp:p.length<=100000):Fun Tryz.prog G0 83 [.str p] (qO (zM p)) 0:=by
 have h:=VK p hp
 unfold YB at h
 cases hb:Yk p with
 | false =>
  rw[hb]at h
  refine fon Tryz.func83 ?_;dsimp only[Tryz.f83]
  push_cast -dsimp
  refine cl (h) ?_;push_cast -dsimp
  exact ⟨[],rfl,rfl,by push_cast -dsimp [ze,zd,CLe,zg];simp[zM,hb]⟩
 | true =>
  rw[hb,if_pos rfl]at h
  refine fon Tryz.func83 ?_;dsimp only[Tryz.f83]
  push_cast -dsimp
  refine cl (h) ?_;push_cast -dsimp
  refine ⟨[],rfl,rfl,?_⟩
  push_cast -dsimp [ze,zd,CLe,zg]
  by_cases hn:zI p = []
  ·simp[zM,hb,hn]
  ·have:=List.length_pos_iff.2 hn
   simp[zM,hb,hn,this]
theorem xI (s:List UInt8) (hs:s.length<=1000000):Fun Tryz.prog G0 84 [.str s] (qO (JR s)) 0:=by
 refine fon Tryz.func84 ?_;dsimp only[Tryz.f84]
 push_cast -dsimp
 refine loop (fun k:Nat=>⟨[(0,.str s),(3,.sc (.int .i64 k))],[],0,0⟩) (fun k=>k<=s.length/\∀ j (hj:j<s.length),j<k->decide (s[j]'hj=0)=false) (fun k=>s.length-k) 0 ⟨Nat.zero_le _,fun j _ hj=>by omega⟩ ?_ ?_
 ·exact wk
 ·intro k hk
  have hk1:=hk.1
  have hk2:=hk.2
  by_cases h:k<s.length
  ·have hb:s[k]?=some (s[k]'h):=List.getElem?_eq_getElem h
   by_cases h0:s[k]'h=0
   ·have h1:((s[k]'h).toNat:Int)=0:=by rw[h0];rfl
    push_cast -dsimp [h,hb,h1]
    refine ⟨by omega,[],rfl,rfl,?_⟩
    push_cast -dsimp [ze,zd,CLe,zg]
    have:s.any (fun b=>decide (b=0))=true:=List.any_eq_true.2 ⟨s[k]'h,List.getElem_mem h,by simpa using h0⟩
    simp[JR,this]
   ·have h1:¬((s[k]'h).toNat:Int)=0:=zjf h0
    push_cast -dsimp [h,hb,h1]
    repeat refine an ?_
    refine ⟨k+1,⟨by omega,fun j hj hjk=>?_⟩,by omega,wk⟩
    rcases Nat.lt_or_ge j k with g | g
    ·exact hk2 j hj g
    ·have:j=k:=by omega
     subst this;simpa using h0
  ·have hall:s.any (fun b=>decide (b=0))=false:=List.any_eq_false.2 fun x hx=>by
    obtain ⟨j,hj,rfl⟩:=List.getElem_of_mem hx
    have:=hk2 j hj (by omega)
    simp[this]
   by_cases h1:s = []
   ·have hn:¬(1:Int)<=(s.length:Int):=by rw[h1];simp
    push_cast -dsimp [h,hn]
    exact ⟨[],rfl,rfl,by push_cast -dsimp [ze,zd,CLe,zg]<;>simp[JR,h1]⟩
   ·have hpos:1<=s.length:=List.length_pos_iff.2 h1
    have hpos':(1:Int)<=(s.length:Int):=by omega
    push_cast -dsimp [h,hpos,hpos']
    refine ⟨[],rfl,rfl,?_⟩
    push_cast -dsimp [ze,zd,CLe,zg]
    have:decide ((s.length:Int)<=4095)=decide (s.length<=4095):=by rw[decide_eq_decide];omega
    simp[JR,h1,hall,this]
theorem QH (k:Int):Fun Tryz.prog G0 48 [.sc (.int .i64 k)] (qO (qX k)) 0:=by
 refine fon Tryz.func48 ?_;dsimp only[Tryz.f48]
 push_cast -dsimp
 repeat' (first
  | (refine br (fun h=>?_) (fun h=>?_)<;>push_cast -dsimp [h])
  | (refine ⟨[],rfl,rfl,?_⟩;push_cast -dsimp [ze,zd,CLe,zg];simp_all [qX]))
theorem Uz {a b:List UInt8} (ha:zM a=true) (hb:zM b=true):Yy a b=YC a b:=by
 simp only[zM,Bool.and_eq_true]at ha hb
 exact yw a b ha.1 hb.1
theorem JY (k s:Int) (a b d:List UInt8) (hs:short ⟨k,s,a,b,d⟩):Fun Tryz.prog G0 47 [.agg (opL ⟨k,s,a,b,d⟩)] (qO (XH ⟨k,s,a,b,d⟩)) 0:=by
 have hs1:a.length<=100000:=hs.1
 have hs2:b.length<=100000:=hs.2.1
 have hs3:d.length<=100000:=hs.2.2
 have h1:=(HQ a (by omega))
 have h2:=(HQ b (by omega))
 have h3:=(xI d (by omega))
 have h4:=(Vv a b (by omega) (by omega))
 have h5:=(Vv b a (by omega) (by omega))
 have h6:=QH k
 unfold opL
 by_cases hk1:k<1
 ·have:¬1<=k:=by omega
  refine fon Tryz.func47 ?_;dsimp only[Tryz.f47]
  push_cast -dsimp [hk1]
  exact ⟨[],rfl,rfl,by push_cast -dsimp [ze,zd,CLe,zg];simp[XH,this]⟩
 by_cases hk2:10<k
 ·have:¬k<=10:=by omega
  refine fon Tryz.func47 ?_;dsimp only[Tryz.f47]
  push_cast -dsimp [hk1,hk2]
  exact ⟨[],rfl,rfl,by push_cast -dsimp [ze,zd,CLe,zg];simp[XH,this]⟩
 cases hp:zM a with
 | false =>
  rw[hp]at h1
  refine fon Tryz.func47 ?_;dsimp only[Tryz.f47]
  push_cast -dsimp [hk1,hk2]
  refine cl (h1) ?_;push_cast -dsimp
  exact ⟨[],rfl,rfl,by push_cast -dsimp [ze,zd,CLe,zg];simp[XH,hp]⟩
 | true =>
  rw[hp]at h1
  have hu:zM b=true->Yy a b=YC a b:=fun hb=>Uz hp hb
  have hu2:zM b=true->Yy b a=YC b a:=fun hb=>Uz hb hp
  have hk:k=1∨k=2∨k=3∨k=4∨k=5∨k=6∨k=7∨k=8∨k=9∨k=10:=by omega
  clear hk1 hk2 hs hs1 hs2 hs3
  rcases hk with rfl | rfl | rfl | rfl | rfl | rfl | rfl | rfl | rfl | rfl
  all_goals
   simp[qX]at h6
   refine fon Tryz.func47 ?_;dsimp only[Tryz.f47]
   push_cast -dsimp
   refine cl (h1) ?_;push_cast -dsimp
   refine cl (h6) ?_;push_cast -dsimp
   repeat' (first
    | (refine call h2 ?_;push_cast -dsimp)
    | (refine kU h2 ?_;push_cast -dsimp)
    | (refine call h3 ?_;push_cast -dsimp)
    | (refine kU h3 ?_;push_cast -dsimp)
    | (refine call h4 ?_;push_cast -dsimp)
    | (refine kU h4 ?_;push_cast -dsimp)
    | (refine call h5 ?_;push_cast -dsimp)
    | (refine kU h5 ?_;push_cast -dsimp)
    | (refine br (fun h=>?_) (fun h=>?_)<;>push_cast -dsimp [h])
    | (refine ⟨[],rfl,rfl,?_⟩;push_cast -dsimp [ze,zd,CLe,zg];clear h1 h2 h3 h4 h5 h6;simp_all [XH,qX,zeh]<;>omega))
end
section
open CA CB
open Go.RowKit
theorem zjb (w:qg) (hw:J9 w) (hs:V1 w) (s:Int) (a b d:List UInt8) (ho:short ⟨1,s,a,b,d⟩) (hd:d.length<=10000) (hm:XH ⟨1,s,a,b,d⟩=true) (p1:zM a=true) (p2:zeh 1=true->zM b=true):Fun Tryz.prog G0 53 [jB w,.agg (opL ⟨1,s,a,b,d⟩)] (.tup [jB (doV w ⟨1,s,a,b,d⟩).1,.sc (.int .i64 (doV w ⟨1,s,a,b,d⟩).2)]) 0:=by
 have e0:doV w ⟨1,s,a,b,d⟩=j0 w a 2 []:=by unfold doV;rw[hm];rfl
 have hop:=JY 1 s a b d ho
 rw[hm]at hop
 rw[e0]
 unfold qO opL at hop
 unfold opL
 have h1:=Ug w hw hs a ho.1 p1 2 [] (by simp)
 refine fon Tryz.func53 ?_;dsimp only[Tryz.f53]
 push_cast -dsimp
 refine cl (hop) ?_;push_cast -dsimp
 refine cl (h1) ?_;push_cast -dsimp
 exact dn
theorem zgL (w:qg) (hw:J9 w) (hs:V1 w) (s:Int) (a b d:List UInt8) (ho:short ⟨2,s,a,b,d⟩) (hd:d.length<=10000) (hm:XH ⟨2,s,a,b,d⟩=true) (p1:zM a=true) (p2:zeh 2=true->zM b=true):Fun Tryz.prog G0 53 [jB w,.agg (opL ⟨2,s,a,b,d⟩)] (.tup [jB (doV w ⟨2,s,a,b,d⟩).1,.sc (.int .i64 (doV w ⟨2,s,a,b,d⟩).2)]) 0:=by
 have e0:doV w ⟨2,s,a,b,d⟩=jM w ⟨2,s,a,b,d⟩:=by unfold doV;rw[hm];rfl
 have hop:=JY 2 s a b d ho
 rw[hm]at hop
 rw[e0]
 unfold qO opL at hop
 unfold opL
 have h1:=kB w.fs hw.fs hs.fs a ho.1
 by_cases h0:(zL w.fs a).2=0
 ·have h0':=eq_true h0
  have h2:=Ug w hw hs b ho.2.1 (p2 rfl) 1 (zL w.fs a).1.data (Zz hw hs p1 h0)
  have e:jM w ⟨2,s,a,b,d⟩=j0 w b 1 (zL w.fs a).1.data:=by unfold jM;simp[h0]
  refine fon Tryz.func53 ?_;dsimp only[Tryz.f53]
  push_cast -dsimp
  refine cl (hop) ?_;push_cast -dsimp
  refine cl (h1) ?_;push_cast -dsimp [h0']
  refine cl (h2) ?_;push_cast -dsimp
  exact dn (by push_cast -dsimp [ze,zd,CLe,zg,e])
 ·have h0':=eq_false h0
  have e:jM w ⟨2,s,a,b,d⟩=(w,(zL w.fs a).2):=by unfold jM;simp[h0]
  refine fon Tryz.func53 ?_;dsimp only[Tryz.f53]
  push_cast -dsimp
  refine cl (hop) ?_;push_cast -dsimp
  refine cl (h1) ?_;push_cast -dsimp [h0']
  exact dn (by push_cast -dsimp [ze,zd,CLe,zg,e])
theorem zhv (w:qg) (hw:J9 w) (hs:V1 w) (s:Int) (a b d:List UInt8) (ho:short ⟨3,s,a,b,d⟩) (hd:d.length<=10000) (hm:XH ⟨3,s,a,b,d⟩=true) (p1:zM a=true) (p2:zeh 3=true->zM b=true):Fun Tryz.prog G0 53 [jB w,.agg (opL ⟨3,s,a,b,d⟩)] (.tup [jB (doV w ⟨3,s,a,b,d⟩).1,.sc (.int .i64 (doV w ⟨3,s,a,b,d⟩).2)]) 0:=by
 have e0:doV w ⟨3,s,a,b,d⟩=zS w ⟨3,s,a,b,d⟩:=by unfold doV;rw[hm];rfl
 have hop:=JY 3 s a b d ho
 rw[hm]at hop
 rw[e0]
 unfold qO opL at hop
 unfold opL
 have h1:=MW w hw hs ⟨3,s,a,b,d⟩ ho p1 (p2 rfl)
 unfold opL at h1
 refine fon Tryz.func53 ?_;dsimp only[Tryz.f53]
 push_cast -dsimp
 refine cl (hop) ?_;push_cast -dsimp
 refine cl (h1) ?_;push_cast -dsimp
 exact dn
theorem zhi (w:qg) (hw:J9 w) (hs:V1 w) (s:Int) (a b d:List UInt8) (ho:short ⟨4,s,a,b,d⟩) (hd:d.length<=10000) (hm:XH ⟨4,s,a,b,d⟩=true) (p1:zM a=true) (p2:zeh 4=true->zM b=true):Fun Tryz.prog G0 53 [jB w,.agg (opL ⟨4,s,a,b,d⟩)] (.tup [jB (doV w ⟨4,s,a,b,d⟩).1,.sc (.int .i64 (doV w ⟨4,s,a,b,d⟩).2)]) 0:=by
 have e0:doV w ⟨4,s,a,b,d⟩=j0 w a 3 d:=by unfold doV;rw[hm];rfl
 have hop:=JY 4 s a b d ho
 rw[hm]at hop
 rw[e0]
 unfold qO opL at hop
 unfold opL
 have h1:=Ug w hw hs a ho.1 p1 3 d hd
 refine fon Tryz.func53 ?_;dsimp only[Tryz.f53]
 push_cast -dsimp
 refine cl (hop) ?_;push_cast -dsimp
 refine cl (h1) ?_;push_cast -dsimp
 exact dn
theorem zhx (w:qg) (hw:J9 w) (hs:V1 w) (s:Int) (a b d:List UInt8) (ho:short ⟨5,s,a,b,d⟩) (hd:d.length<=10000) (hm:XH ⟨5,s,a,b,d⟩=true) (p1:zM a=true) (p2:zeh 5=true->zM b=true):Fun Tryz.prog G0 53 [jB w,.agg (opL ⟨5,s,a,b,d⟩)] (.tup [jB (doV w ⟨5,s,a,b,d⟩).1,.sc (.int .i64 (doV w ⟨5,s,a,b,d⟩).2)]) 0:=by
 have e0:doV w ⟨5,s,a,b,d⟩=qD w ⟨5,s,a,b,d⟩:=by unfold doV;rw[hm];rfl
 have hop:=JY 5 s a b d ho
 rw[hm]at hop
 rw[e0]
 unfold qO opL at hop
 unfold opL
 have h1:=QU w.fs hw.fs hs.fs a ho.1 true
 have h2:=QU w.fs hw.fs hs.fs b ho.2.1 false
 rw[if_pos rfl]at h1
 rw[if_neg (by decide)]at h2
 by_cases h0:(isV w.fs a true).2.2=0
 ·have h0':=eq_true h0
  obtain ⟨t1,t2⟩:=qT hw.fs p1 h0
  have hi:=zR.ino hw.fs t1
  have hino:(isV w.fs a true).2.1.ino=(isV w.fs a true).1.ino:=by rw[t2,(zk hi).2.2]
  by_cases hk:(isV w.fs a true).2.1.kind=2
  ·have hk':=eq_true hk
   have e:qD w ⟨5,s,a,b,d⟩=(w,11):=by unfold qD;simp[h0,hk]
   refine fon Tryz.func53 ?_;dsimp only[Tryz.f53]
   push_cast -dsimp
   refine cl (hop) ?_;push_cast -dsimp
   refine cl (h1) ?_;push_cast -dsimp [h0',hk']
   exact dn (by push_cast -dsimp [ze,zd,CLe,zg,e])
  ·have hk':=eq_false hk
   by_cases hb:(isV w.fs b false).2.2=0
   ·have hb':=eq_true hb
    have hfree:=jX hw.fs (p2 rfl) hb
    have hne:(isV w.fs b false).1.dir≠(isV w.fs a true).2.1.ino:=fun e=>by
     rw[hino]at e
     have:=hfree.kind
     rw[e,←t2]at this
     exact hk this
    have hn:=zc2 w.fs hw.fs hs.fs (isV w.fs b false).1 hfree (isV w.fs a true).2.1.ino (by rw[hino];exact hi) hne
    have e:qD w ⟨5,s,a,b,d⟩=({ w with fs:=X3 w.fs (isV w.fs b false).1 (isV w.fs a true).2.1.ino },0):=by unfold qD;simp[h0,hk,hb]
    refine fon Tryz.func53 ?_;dsimp only[Tryz.f53]
    push_cast -dsimp
    refine cl (hop) ?_;push_cast -dsimp
    refine cl (h1) ?_;push_cast -dsimp [h0',hk']
    refine cl (h2) ?_;push_cast -dsimp [hb']
    refine cl (hn) ?_;push_cast -dsimp
    exact dn (by push_cast -dsimp [ze,zd,CLe,zg,e])
   ·have hb':=eq_false hb
    have e:qD w ⟨5,s,a,b,d⟩=(w,(isV w.fs b false).2.2):=by unfold qD;simp[h0,hk,hb]
    refine fon Tryz.func53 ?_;dsimp only[Tryz.f53]
    push_cast -dsimp
    refine cl (hop) ?_;push_cast -dsimp
    refine cl (h1) ?_;push_cast -dsimp [h0',hk']
    refine cl (h2) ?_;push_cast -dsimp [hb']
    exact dn (by push_cast -dsimp [ze,zd,CLe,zg,e])
 ·have h0':=eq_false h0
  have e:qD w ⟨5,s,a,b,d⟩=(w,(isV w.fs a true).2.2):=by unfold qD;simp[h0]
  refine fon Tryz.func53 ?_;dsimp only[Tryz.f53]
  push_cast -dsimp
  refine cl (hop) ?_;push_cast -dsimp
  refine cl (h1) ?_;push_cast -dsimp [h0']
  exact dn (by push_cast -dsimp [ze,zd,CLe,zg,e])
theorem zhV (w:qg) (hw:J9 w) (hs:V1 w) (s:Int) (a b d:List UInt8) (ho:short ⟨6,s,a,b,d⟩) (hd:d.length<=10000) (hm:XH ⟨6,s,a,b,d⟩=true) (p1:zM a=true) (p2:zeh 6=true->zM b=true):Fun Tryz.prog G0 53 [jB w,.agg (opL ⟨6,s,a,b,d⟩)] (.tup [jB (doV w ⟨6,s,a,b,d⟩).1,.sc (.int .i64 (doV w ⟨6,s,a,b,d⟩).2)]) 0:=by
 have e0:doV w ⟨6,s,a,b,d⟩=j8 w ⟨6,s,a,b,d⟩:=by unfold doV;rw[hm];rfl
 have hop:=JY 6 s a b d ho
 rw[hm]at hop
 rw[e0]
 unfold qO opL at hop
 unfold opL
 have h1:=QU w.fs hw.fs hs.fs a ho.1 true
 have h2:=QU w.fs hw.fs hs.fs b ho.2.1 false
 rw[if_pos rfl]at h1
 rw[if_neg (by decide)]at h2
 by_cases h0:(isV w.fs a true).2.2=0
 ·have h0':=eq_true h0
  obtain ⟨t1,t2⟩:=qT hw.fs p1 h0
  by_cases hb:(isV w.fs b false).2.2=0
  ·have hb':=eq_true hb
   have hfree:=jX hw.fs (p2 rfl) hb
   have hn:=zfy w.fs hw.fs hs.fs (isV w.fs a true).1 (isV w.fs b false).1 t1 hfree (MG hw.fs hb)
   have e:j8 w ⟨6,s,a,b,d⟩=({ w with fs:=Yp w.fs (isV w.fs a true).1 (isV w.fs b false).1 },0):=by unfold j8;simp[h0,hb]
   refine fon Tryz.func53 ?_;dsimp only[Tryz.f53]
   push_cast -dsimp
   refine cl (hop) ?_;push_cast -dsimp
   refine cl (h1) ?_;push_cast -dsimp [h0']
   refine cl (h2) ?_;push_cast -dsimp [hb']
   refine cl (hn) ?_;push_cast -dsimp
   exact dn (by push_cast -dsimp [ze,zd,CLe,zg,e])
  ·have hb':=eq_false hb
   have e:j8 w ⟨6,s,a,b,d⟩=(w,(isV w.fs b false).2.2):=by unfold j8;simp[h0,hb]
   refine fon Tryz.func53 ?_;dsimp only[Tryz.f53]
   push_cast -dsimp
   refine cl (hop) ?_;push_cast -dsimp
   refine cl (h1) ?_;push_cast -dsimp [h0']
   refine cl (h2) ?_;push_cast -dsimp [hb']
   exact dn (by push_cast -dsimp [ze,zd,CLe,zg,e])
 ·have h0':=eq_false h0
  have e:j8 w ⟨6,s,a,b,d⟩=(w,(isV w.fs a true).2.2):=by unfold j8;simp[h0]
  refine fon Tryz.func53 ?_;dsimp only[Tryz.f53]
  push_cast -dsimp
  refine cl (hop) ?_;push_cast -dsimp
  refine cl (h1) ?_;push_cast -dsimp [h0']
  exact dn (by push_cast -dsimp [ze,zd,CLe,zg,e])
theorem zhC (w:qg) (hw:J9 w) (hs:V1 w) (s:Int) (a b d:List UInt8) (ho:short ⟨7,s,a,b,d⟩) (hd:d.length<=10000) (hm:XH ⟨7,s,a,b,d⟩=true) (p1:zM a=true) (p2:zeh 7=true->zM b=true):Fun Tryz.prog G0 53 [jB w,.agg (opL ⟨7,s,a,b,d⟩)] (.tup [jB (doV w ⟨7,s,a,b,d⟩).1,.sc (.int .i64 (doV w ⟨7,s,a,b,d⟩).2)]) 0:=by
 have e0:doV w ⟨7,s,a,b,d⟩=qr w ⟨7,s,a,b,d⟩:=by unfold doV;rw[hm];rfl
 have hop:=JY 7 s a b d ho
 rw[hm]at hop
 rw[e0]
 unfold qO opL at hop
 unfold opL
 have h1:=QU w.fs hw.fs hs.fs a ho.1 true
 rw[if_pos rfl]at h1
 by_cases h0:(isV w.fs a true).2.2=0
 ·have h0':=eq_true h0
  obtain ⟨t1,t2⟩:=qT hw.fs p1 h0
  by_cases hes:(isV w.fs a true).2.1.es = []
  ·have hel:(0<(zJ (isV w.fs a true).2.1.es).length)=False:=eq_false (by rw[hes];simp)
   have hd:=zdd w hw hs.fs (by have:=hs.kept;omega) (by have:=hs.pool;omega) s (isV w.fs a true).1 t1
   have e:qr w ⟨7,s,a,b,d⟩=JA w s (isV w.fs a true).1:=by unfold qr;simp[h0,hes]
   refine fon Tryz.func53 ?_;dsimp only[Tryz.f53]
   push_cast -dsimp
   refine cl (hop) ?_;push_cast -dsimp
   refine cl (h1) ?_;push_cast -dsimp [h0',hel]
   refine cl (hd) ?_;push_cast -dsimp
   exact dn (by push_cast -dsimp [ze,zd,CLe,zg,e])
  ·have hel:(0<(zJ (isV w.fs a true).2.1.es).length)=True:=eq_true (by rw[List.length_map];exact List.length_pos_iff.2 hes)
   have e:qr w ⟨7,s,a,b,d⟩=(w,5):=by unfold qr;simp[h0,hes]
   refine fon Tryz.func53 ?_;dsimp only[Tryz.f53]
   push_cast -dsimp
   refine cl (hop) ?_;push_cast -dsimp
   refine cl (h1) ?_;push_cast -dsimp [h0',hel]
   exact dn (by push_cast -dsimp [ze,zd,CLe,zg,e])
 ·have h0':=eq_false h0
  have e:qr w ⟨7,s,a,b,d⟩=(w,(isV w.fs a true).2.2):=by unfold qr;simp[h0]
  refine fon Tryz.func53 ?_;dsimp only[Tryz.f53]
  push_cast -dsimp
  refine cl (hop) ?_;push_cast -dsimp
  refine cl (h1) ?_;push_cast -dsimp [h0']
  exact dn (by push_cast -dsimp [ze,zd,CLe,zg,e])
theorem y6 (w:qg) (hw:J9 w) (hs:V1 w) (o:OpV) (ho:short o) (hd:o.d.length<=10000) (hk:o.kind<=7):Fun Tryz.prog G0 53 [jB w,.agg (opL o)] (.tup [jB (doV w o).1,.sc (.int .i64 (doV w o).2)]) 0:=by
 obtain ⟨k,s,a,b,d⟩:=o
 cases hm:XH ⟨k,s,a,b,d⟩ with
 | false =>
  have e:doV w ⟨k,s,a,b,d⟩=(w,12):=by unfold doV;rw[hm];rfl
  have hop:=JY k s a b d ho
  rw[hm]at hop
  rw[e]
  unfold opL qO at hop
  unfold opL
  refine fon Tryz.func53 ?_;dsimp only[Tryz.f53]
  push_cast -dsimp
  refine cl (hop) ?_;push_cast -dsimp
  exact dn
 | true =>
 have hk1:1<=k:=by
  unfold XH at hm
  simp only[Bool.and_eq_true,decide_eq_true_eq]at hm
  exact hm.1.1.1.1.1.1
 obtain ⟨p1,p2,_⟩:=Y6 hm
 have hk7:k<=7:=hk
 obtain rfl | rfl | rfl | rfl | rfl | rfl | rfl:k=1∨k=2∨k=3∨k=4∨k=5∨k=6∨k=7:=by omega
 ·exact zjb w hw hs s a b d ho hd hm p1 p2
 ·exact zgL w hw hs s a b d ho hd hm p1 p2
 ·exact zhv w hw hs s a b d ho hd hm p1 p2
 ·exact zhi w hw hs s a b d ho hd hm p1 p2
 ·exact zhx w hw hs s a b d ho hd hm p1 p2
 ·exact zhV w hw hs s a b d ho hd hm p1 p2
 ·exact zhC w hw hs s a b d ho hd hm p1 p2
end
section
open CA CB
open Go.RowKit
def Jv (f:FsV):Prop:=1<=f.maxI/\f.maxI<=1073741824/\0<=f.maxB/\f.maxB<=1073741824/\f.next<=1099511627776/\(∀ x∈f.xs,1<=x.ino/\x.ino<f.next)/\z7 f.xs/\zn 1 f.xs=true/\(zh 1 f.xs).kind=2
instance (f:FsV):Decidable (Jv f):=by unfold Jv;infer_instance
def Yt (f:FsV):Prop:=∀ x∈f.xs,∀ e∈x.es,zn e.ino f.xs=true
instance (f:FsV):Decidable (Yt f):=by unfold Yt;infer_instance
def kZ (f:FsV):Prop:=(f.xs.length:Int)<=f.maxI/\(qd f.xs:Int)<=f.maxB
instance (f:FsV):Decidable (kZ f):=by unfold kZ;infer_instance
theorem qo {α:Type} {l:List α} {i:Nat} (h:i<l.length) {P:α->Prop} (h1:∀ x∈l.take i,P x) (h2:P l[i]):∀ x∈l.take (i+1),P x:=fun x hx=>by
 rw[List.take_add_one,List.getElem?_eq_getElem h]at hx
 rcases List.mem_append.1 hx with hx | hx
 ·exact h1 x hx
 ·simp at hx;subst hx;exact h2
section
variable {G:zr}
theorem NJ (f:FsV) (hl:f.xs.length<=100000):Fun Tryz.prog G 67 [.agg (fsC f)] (.sc (.bool (decide (Jv f)))) 0:=by
 have hll:(zt f.xs).length=f.xs.length:=List.length_map ..
 refine fon Tryz.func67 ?_;dsimp only[Tryz.f67]
 by_cases e0:f.maxI<1
 case pos =>
  have hn:¬Jv f:=fun h=>by have:=h.1;omega
  push_cast -dsimp [e0]
  exact dn (by push_cast -dsimp [ze,zd,CLe,zg,hn])
 by_cases e1:1073741824<f.maxI
 case pos =>
  have hn:¬Jv f:=fun h=>by have:=h.2.1;omega
  push_cast -dsimp [e0,e1]
  exact dn (by push_cast -dsimp [ze,zd,CLe,zg,hn])
 by_cases e2:f.maxB<0
 case pos =>
  have hn:¬Jv f:=fun h=>by have:=h.2.2.1;omega
  push_cast -dsimp [e0,e1,e2]
  exact dn (by push_cast -dsimp [ze,zd,CLe,zg,hn])
 by_cases e3:1073741824<f.maxB
 case pos =>
  have hn:¬Jv f:=fun h=>by have:=h.2.2.2.1;omega
  push_cast -dsimp [e0,e1,e2,e3]
  exact dn (by push_cast -dsimp [ze,zd,CLe,zg,hn])
 by_cases e4:1099511627776<f.next
 case pos =>
  have hn:¬Jv f:=fun h=>by have:=h.2.2.2.2.1;omega
  push_cast -dsimp [e0,e1,e2,e3,e4]
  exact dn (by push_cast -dsimp [ze,zd,CLe,zg,hn])
 push_cast -dsimp [e0,e1,e2,e3,e4]
 refine loop (fun i:Nat=>⟨[(1,.ptr 0 0),(3,.sc (.int .i64 i))],[fsC f],0,0⟩) (fun i=>i<=f.xs.length/\∀ x∈f.xs.take i,1<=x.ino/\x.ino<f.next) (fun i=>f.xs.length-i) 0 ⟨Nat.zero_le _,fun x hx=>by simp at hx⟩ ?_ ?_
 ·exact wk
 ·rintro i ⟨h1,h2⟩
  by_cases h:i<f.xs.length
  ·have g1:=jb f.xs i h
   by_cases c1:f.xs[i].ino<1
   ·have hn:¬Jv f:=fun h'=>by have:=h'.2.2.2.2.2.1 _ (List.getElem_mem h);omega
    push_cast -dsimp [hll,h,g1,c1]
    repeat refine an ?_
    exact dn (by push_cast -dsimp [ze,zd,CLe,zg,hn])
   ·by_cases c2:f.next<=f.xs[i].ino
    ·have hn:¬Jv f:=fun h'=>by have:=h'.2.2.2.2.2.1 _ (List.getElem_mem h);omega
     push_cast -dsimp [hll,h,g1,c1,c2]
     repeat refine an ?_
     exact dn (by push_cast -dsimp [ze,zd,CLe,zg,hn])
    ·push_cast -dsimp [hll,h,g1,c1,c2]
     repeat refine an ?_
     exact ⟨i+1,⟨h,qo h h2 (by omega)⟩,by omega,wk⟩
  ·rw[List.take_of_length_le (by omega)]at h2
   have hf:Jv f↔z7 f.xs/\zn 1 f.xs=true/\(zh 1 f.xs).kind=2:=⟨fun h=>h.2.2.2.2.2.2,fun h=>⟨by omega,by omega,by omega,by omega,by omega,h2,h⟩⟩
   push_cast -dsimp [hll,h]
   refine cl (qG f 1 hl) ?_;push_cast -dsimp
   by_cases c1:z7 f.xs
   ·cases c2:zn 1 f.xs with
    | true =>
     refine cl (Ua f hl) ?_;push_cast -dsimp [decide_eq_true c1,c2]
     exact dn (by push_cast -dsimp [ze,zd,CLe,zg,hf,c1,c2])
    | false =>
     have hn:¬Jv f:=fun h=>by have:=(hf.1 h).2.1;rw[c2]at this;cases this
     refine cl (Ua f hl) ?_;push_cast -dsimp [decide_eq_true c1,c2]
     exact dn (by push_cast -dsimp [ze,zd,CLe,zg,hn])
   ·have hn:¬Jv f:=fun h=>c1 (hf.1 h).1
    refine cl (Ua f hl) ?_;push_cast -dsimp [decide_eq_false c1]
    exact dn (by push_cast -dsimp [ze,zd,CLe,zg,hn])
theorem MT (f:FsV) (hf:FsS f):Fun Tryz.prog G 69 [.agg (fsC f)] (.sc (.bool (decide (Yt f)))) 0:=by
 have hll:(zt f.xs).length=f.xs.length:=List.length_map ..
 have h40:=hf.len
 refine fof (fun i=>if i=7 then Ut 15 16 else []) Tryz.func69 ?_;dsimp only[Tryz.f69]
 push_cast -dsimp
 refine loop (fun i:Nat=>⟨[(1,.ptr 0 0),(3,.sc (.int .i64 i))],[fsC f],0,0⟩) (fun i=>i<=f.xs.length/\∀ x∈f.xs.take i,∀ e∈x.es,zn e.ino f.xs=true) (fun i=>f.xs.length-i) 0 ⟨Nat.zero_le _,fun x hx=>by simp at hx⟩ ?_ ?_
 ·exact wk
 ·rintro i ⟨h1,h2⟩
  by_cases h:i<f.xs.length
  ·have g1:=jb f.xs i h
   have he:=(hf.node _ (List.getElem_mem h)).1
   have hle:(zJ f.xs[i].es).length=f.xs[i].es.length:=List.length_map ..
   push_cast -dsimp [hll,h]
   refine loop (fun k:Nat=>⟨[(1,.ptr 0 0),(3,.sc (.int .i64 i)),(4,.sc (.int .i64 k))],[fsC f],0,0⟩) (fun k=>k<=f.xs[i].es.length/\∀ e∈f.xs[i].es.take k,zn e.ino f.xs=true) (fun k=>f.xs[i].es.length-k) 0 ⟨Nat.zero_le _,fun x hx=>by simp at hx⟩ ?_ ?_
   ·exact wk
   ·rintro k ⟨h3,h4⟩
    by_cases hk:k<f.xs[i].es.length
    ·have g2:=Ja f.xs[i].es k hk
     push_cast -dsimp [g1,hle,hk,g2]
     repeat refine an ?_
     refine cl (qG f f.xs[i].es[k].ino (by omega)) ?_;push_cast -dsimp
     cases hh:zn f.xs[i].es[k].ino f.xs with
     | true =>
      push_cast -dsimp [hh]
      repeat refine an ?_
      exact ⟨k+1,⟨hk,qo hk h4 hh⟩,by omega,wk⟩
     | false =>
      have hn:¬Yt f:=fun h'=>by have:=h' _ (List.getElem_mem h) _ (List.getElem_mem hk);rw[hh]at this;cases this
      push_cast -dsimp [hh]
      exact dn (by push_cast -dsimp [ze,zd,CLe,zg,hn])
    ·rw[List.take_of_length_le (by omega)]at h4
     push_cast -dsimp [g1,hle,hk]
     repeat refine an ?_
     exact ⟨i+1,⟨h,qo h h2 h4⟩,by omega,wk⟩
  ·rw[List.take_of_length_le (by omega)]at h2
   have hn:Yt f:=h2
   push_cast -dsimp [hll,h]
   exact dn (by push_cast -dsimp [ze,zd,CLe,zg,hn])
theorem ur (f:FsV) (hf:FsS f) (hb:qd f.xs<=100000000):Fun Tryz.prog G 72 [.agg (fsC f),.sc (.int .i64 0),.sc (.int .i64 0)] (.sc (.bool (decide (kZ f)))) 0:=by
 have hll:(zt f.xs).length=f.xs.length:=List.length_map ..
 have h40:=hf.len
 refine fon Tryz.func72 ?_;dsimp only[Tryz.f72]
 by_cases c1:f.maxI<f.xs.length
 ·have hn:¬kZ f:=fun h=>by have:=h.1;omega
  push_cast -dsimp [hll,c1]
  repeat refine an ?_
  exact dn (by push_cast -dsimp [ze,zd,CLe,zg,hn])
 ·have hn:kZ f↔(qd f.xs:Int)<=f.maxB:=⟨fun h=>h.2,fun h=>⟨by omega,h⟩⟩
  push_cast -dsimp [hll,c1]
  repeat refine an ?_
  refine cl (Ms f hf) ?_;push_cast -dsimp
  repeat refine an ?_
  exact dn (by push_cast -dsimp [ze,zd,CLe,zg,hn])
end
end
end Go.Proofs.YtiblepfehggicaaGreatDoor.Vcg
