/- What the proof of DraftStays leans on, part 4: Path5 Ref3 PathLaw Open Laid Op1 QuotePlain QuotePlain2 QuotePlain3 OpV Op2 Wld0 Ent1 Ent2 EntW TabW Wld1 Wld2 Wld3 Wld4 Wld5 Room Plc Crt Drp Mov SlcK Sts OpenW StW Sts2 StX Kep Stp Stp2 Stp3 Stp4 Deed Doo Dra1 Dra2 Rf4 Rf5 Rf6 Rf7 Op3 Op4 Op5 Ref19 Rf8 Snd2. No condition beyond what each theorem states. -/
import Derived.Test.YtiblepfehggicaaGreatDoorDraftStaysKc
import Derived.ProofKit
import Derived.Deep.Slices
import Derived.Deep.Fields
import Derived.ChangeSame
import Derived.ChangeOld
import Derived.Lib.SmallJoins
import Derived.Lib.LaidU8
import Derived.OpenShut
import Derived.FnData
import Derived.Lib.Bytealg
set_option linter.unusedVariables false
set_option linter.unusedSimpArgs false
set_option linter.unusedSectionVars false
set_option maxRecDepth 100000
set_option maxHeartbeats 4000000
namespace Go.Proofs.YtiblepfehggicaaGreatDoor.Vcg
section
open Go.RowKit
def zch (xs:List (List UInt8)):Int:=match xs.findIdx? (fun x=>!may x) with | some i=>(i:Int) | none=>-1
theorem zgl (xs:List (List UInt8)):decide (0<=zch xs) = !xs.all may:=by
 unfold zch
 cases h:xs.findIdx? (fun x=>!may x) with
 | none =>
  have:=List.findIdx?_eq_none_iff.1 h
  have h2:xs.all may=true:=List.all_eq_true.2 fun x hx=>by simpa using this x hx
  rw[h2];rfl
 | some i =>
  have h1:=List.findIdx?_eq_some_iff_getElem.1 h
  obtain ⟨hi,hp,_⟩:=h1
  have h2:xs.all may=false:=List.all_eq_false.2 ⟨xs[i],List.getElem_mem hi,by simpa using hp⟩
  rw[h2];simp
theorem H1 (xs:List (List UInt8)) (hx:xs.length<=1000001) (hl:∀ x∈xs,x.length<=1000000):Fun Tryz.prog G0 226 [.sl 1 (qv xs),.clo (.func 197) [] []] (.sc (.int .i64 (zch xs))) 0:=by
 refine fon Tryz.func226 ?_;dsimp only[Tryz.f226]
 push_cast -dsimp
 refine loop (fun k:Nat=>⟨[(0,.sl 1 (qv xs)),(1,.clo (.func 197) [] []),(7,.sc (.int .i64 (xs.length:Int))),(8,.sc (.int .i64 k))],[],0,0⟩) (fun k=>k<=xs.length/\∀ j (hj:j<xs.length),j<k->may (xs[j]'hj)=true) (fun k=>xs.length-k) 0 ⟨Nat.zero_le _,fun j _ hj=>by omega⟩ ?_ ?_
 ·exact wk
 ·intro k hk
  have hk1:=hk.1
  have hk2:=hk.2
  by_cases h:k<xs.length
  ·have hg:(qv xs)[k]?=some [.str (xs[k]'h)]:=by rw[strs_get?,List.getElem?_eq_getElem h];rfl
   push_cast -dsimp [h,hg]
   refine ⟨by omega,?_⟩
   refine call (zac (xs[k]'h) (hl _ (List.getElem_mem h))) ?_
   push_cast -dsimp
   cases hm:may (xs[k]'h) with
   | true =>
    push_cast -dsimp
    refine ⟨by omega,k+1,⟨by omega,fun j hj hjk=>?_⟩,by omega,wk⟩
    rcases Nat.lt_or_ge j k with g | g
    ·exact hk2 j hj g
    ·have:j=k:=by omega
     subst this;exact hm
   | false =>
    push_cast -dsimp
    refine ⟨[],rfl,rfl,?_⟩
    push_cast -dsimp [zb,za,CLe,ze]
    have:xs.findIdx? (fun x=>!may x)=some k:=List.findIdx?_eq_some_iff_getElem.2 ⟨h,by simp[hm],fun j hj=>by simp[hk2 j (by omega) hj]⟩
    simp[zch,this]
  ·push_cast -dsimp [h]
   refine ⟨[],rfl,rfl,?_⟩
   push_cast -dsimp [zb,za,CLe,ze]
   have:xs.findIdx? (fun x=>!may x)=none:=List.findIdx?_eq_none_iff.2 fun x hx=>by
    obtain ⟨j,hj,rfl⟩:=List.getElem_of_mem hx
    simp[hk2 j hj (by omega)]
   simp[zch,this]
theorem Vx (xs:List (List UInt8)) (hx:xs.length<=1000001) (hl:∀ x∈xs,x.length<=1000000):Fun Tryz.prog G0 196 [.sl 1 (qv xs),.clo (.func 197) [] []] (qG (!xs.all may)) 0:=by
 have h:=zgl xs
 refine fon Tryz.func196 ?_;dsimp only[Tryz.f196]
 push_cast -dsimp
 refine call (H1 xs hx hl) ?_
 push_cast -dsimp
 exact dn (by push_cast -dsimp [zb,za,CLe,ze,h])
def Yj (p:List UInt8):Bool:=decide (qY (zJ p)=p)&&(zJ p).all may
def Ys (p:List UInt8):C:=.tup [.own 0 9 1 (qv (if Yj p then zJ p else [])),qG (Yj p)]
theorem j9 (x y:List UInt8) (r:List (List UInt8)) (sep:List UInt8):Lib.join (x :: y :: r) sep=x++sep++Lib.join (y :: r) sep:=by
 simp[Lib.join,List.intercalate,List.intersperse]
theorem XW:∀ xs:List (List UInt8),xs≠[]->(Lib.join xs [47]).length+1=(xs.map fun x=>x.length+1).sum
 | [],h=>absurd rfl h
 | [x],_=>by simp[Lib.join]
 | x :: y :: r,_=>by
  have ih:=XW (y :: r) (by simp)
  rw[j9]
  simp only[List.length_append,List.length_cons,List.length_nil,List.map_cons,List.sum_cons]at ih ⊢
  omega
theorem zfc:∀ l:List UInt8,((Jd l).map fun x=>x.length+1).sum=l.length+1
 | []=>rfl
 | b :: l=>by
  have ih:=zfc l
  unfold Jd
  split
  ·simp only[List.map_cons,List.sum_cons,List.length_nil,List.length_cons,ih];omega
  ·cases h:Jd l with
   | nil=>exact absurd h (MG l)
   | cons x r =>
    rw[h]at ih
    simp only[List.map_cons,List.sum_cons,List.length_cons]at ih ⊢
    omega
theorem k9 (f:List UInt8->Bool):∀ xs:List (List UInt8),((xs.filter f).map fun x=>x.length+1).sum<=(xs.map fun x=>x.length+1).sum
 | []=>by simp
 | x :: r=>by
  have ih:=k9 f r
  rw[List.filter_cons]
  split
  ·simp only[List.map_cons,List.sum_cons];omega
  ·simp only[List.map_cons,List.sum_cons];omega
theorem zcM:∀ (xs:List (List UInt8)) (x:List UInt8),x∈xs->x.length+1<=(xs.map fun x=>x.length+1).sum
 | y :: r,x,h=>by
  simp only[List.map_cons,List.sum_cons]
  rcases List.mem_cons.1 h with rfl | h
  ·omega
  ·have:=zcM r x h;omega
theorem G5 (l:List UInt8):(Lib.join (zJ l) [47]).length<=l.length/\∀ x∈zJ l,x.length<=l.length:=by
 have h1:=zfc l
 have h2:=k9 (fun x=>!decide (x = [])) (Jd l)
 rw[←Yg]at h2
 refine ⟨?_,fun x hx=>?_⟩
 ·by_cases h:zJ l = []
  ·rw[h];simp[Lib.join]
  ·have:=XW (zJ l) h;omega
 ·have:=zcM (zJ l) x hx;omega
theorem NG (p:List UInt8) (hp:p.length<=1000000):Fun Tryz.prog G0 163 [.str p] (Ys p) 1:=by
 have hz:=Jc p
 have hj:=G5 p
 by_cases h1:qY (zJ p)=p
 ·have h1':(p=qY (zJ p)):=h1.symm
  refine fon Tryz.func163 ?_;dsimp only[Tryz.f163]
  push_cast -dsimp
  refine call (ZB p) ?_
  push_cast -dsimp
  refine call (Xz p hp) ?_
  push_cast -dsimp
  refine call (XQ (zJ p) (by omega) (by omega)) ?_
  push_cast -dsimp [h1]
  refine call (Vx (zJ p) (by omega) fun x hx=>by have:=hj.2 x hx;omega) ?_
  push_cast -dsimp
  cases hm:(zJ p).all may with
  | true =>
   push_cast -dsimp
   exact ⟨[.inl 0],rfl,rfl,by simp only[Ys,Yj,h1,hm];push_cast -dsimp [zb,za,CLe,ze]<;>simp⟩
  | false =>
   push_cast -dsimp
   exact ⟨[.inr (9,1)],rfl,rfl,by simp only[Ys,Yj,h1,hm];push_cast -dsimp [zb,za,CLe,ze]<;>simp⟩
 ·refine fon Tryz.func163 ?_;dsimp only[Tryz.f163]
  push_cast -dsimp
  refine call (ZB p) ?_
  push_cast -dsimp
  refine call (Xz p hp) ?_
  push_cast -dsimp
  refine call (XQ (zJ p) (by omega) (by omega)) ?_
  push_cast -dsimp [h1]
  exact ⟨[.inr (9,1)],rfl,rfl,by simp only[Ys,Yj,h1];push_cast -dsimp [zb,za,CLe,ze]<;>simp⟩
end
section
open Go.RowKit
theorem Mb (xs:List (List UInt8)) (k:Nat) (x:List UInt8) (h:xs[k]?=some x):Lib.join (xs.take (k+1)) [47]=(if k=0 then x else Lib.join (xs.take k) [47]++[47]++x):=by
 cases xs with
 | nil=>simp at h
 | cons y r =>
  cases k with
  | zero=>simp at h;subst h;simp[Lib.join_one]
  | succ k =>
   simp only[List.take_succ_cons,Nat.succ_ne_zero,if_false]
   rw[Lib.join_cons,Lib.join_cons,Lib.joinTail_take_succ _ _ _ x (by simpa using h)]
   simp[List.append_assoc]
theorem zkd (xs:List (List UInt8)) (k:Nat):(Lib.join (xs.take k) [47]).length<=(Lib.join xs [47]).length:=by
 by_cases h:xs.take k = []
 ·rw[h];simp[Lib.join]
 ·have h1:=XW (xs.take k) h
  have hx:xs≠[]:=fun e=>h (by rw[e];simp)
  have h2:=XW xs hx
  have h3:((xs.take k).map fun x=>x.length+1).sum<=(xs.map fun x=>x.length+1).sum:=by
   conv=>rhs;rw[←List.take_append_drop k xs,List.map_append,List.sum_append]
   omega
  omega
theorem zau (xs:List (List UInt8)) (k:Nat) (x:List UInt8) (h:xs[k]?=some x):(if xs.take (k+1) = [] then [] else qY (xs.take (k+1)))=(if xs.take k = [] then [] else qY (xs.take k))++[47]++x:=by
 have hk:k<xs.length:=(List.getElem?_eq_some_iff.1 h).1
 have h1:xs.take (k+1)≠[]:=fun e=>by have:=congrArg List.length e;rw[List.length_take]at this;simp only[List.length_nil]at this;omega
 rw[if_neg h1]
 unfold qY
 rw[if_neg h1,Mb xs k x h]
 by_cases hk0:k=0
 ·subst hk0;simp
 ·have h2:xs.take k≠[]:=fun e=>by have:=congrArg List.length e;rw[List.length_take]at this;simp only[List.length_nil]at this;omega
  simp[h2,hk0]
def jst (xs:List (List UInt8)) (k:Nat):List UInt8:=if xs.take k = [] then [] else qY (xs.take k)
theorem zcT (xs:List (List UInt8)) (k:Nat):(jst xs k).length<=(Lib.join xs [47]).length+1:=by
 unfold jst
 split
 ·simp
 ·rename_i h
  have:=zkd xs k
  unfold qY
  rw[if_neg h]
  simp;omega
theorem yR (xs:List (List UInt8)) (hx:xs.length<=1000001) (hl:(Lib.join xs [47]).length<=100000000):Fun Tryz.prog G0 162 [.sl 1 (qv xs)] (.str (qY xs)) 0:=by
 by_cases h0:xs = []
 ·subst h0
  refine fon Tryz.func162 ?_;dsimp only[Tryz.f162]
  push_cast -dsimp
  exact ⟨[],rfl,rfl,by push_cast -dsimp [zb,za,CLe,ze]<;>simp[qY]⟩
 ·have h0':¬((xs.length:Int)=0):=by have:=List.length_pos_iff.2 h0;omega
  refine fon Tryz.func162 ?_;dsimp only[Tryz.f162]
  push_cast -dsimp [h0']
  refine loop (fun k:Nat=>⟨[(0,.sl 1 (qv xs)),(3,.str (jst xs k)),(4,.sc (.int .i64 k))],[],0,0⟩) (fun k=>k<=xs.length) (fun k=>xs.length-k) 0 (Nat.zero_le _) ?_ ?_
  ·exact JS.mk [] rfl rfl (Nat.zero_le _) rfl (by push_cast -dsimp [zb,za,CLe,ze]<;>simp[jst]) (by push_cast -dsimp [zb,za,CLe,ze])
  ·intro k hk
   by_cases h:k<xs.length
   ·have hg:=ZL xs k h
    have hst:jst xs (k+1)=jst xs k++[47]++xs[k]'h:=zau xs k (xs[k]'h) (List.getElem?_eq_getElem h)
    have hjk:=zcT xs k
    have hjl:=zcT xs (k+1)
    rw[hst]at hjl
    simp only[List.length_append,List.length_cons,List.length_nil]at hjl
    push_cast -dsimp [h,hg]
    repeat refine an ?_
    refine ⟨k+1,by omega,by omega,JS.mk [] rfl rfl (Nat.zero_le _) rfl ?_ (by push_cast -dsimp [zb,za,CLe,ze])⟩
    push_cast -dsimp [zb,za,CLe,ze]
    simp[hst]
   ·have hkl:k=xs.length:=by omega
    push_cast -dsimp [h]
    exact ⟨[],rfl,rfl,by push_cast -dsimp [zb,za,CLe,ze]<;>simp[jst,hkl,h0]⟩
theorem ZJ (l:List UInt8) (hl:l.length<=1000000):Fun Tryz.prog G0 16 [.str l] (qG (may l)) 0:=by
 refine fon Tryz.func16 ?_;dsimp only[Tryz.f16]
 push_cast -dsimp
 refine loop (fun k:Nat=>⟨[(0,.str l),(3,.sc (.int .i64 k))],[],0,0⟩) (fun k=>k<=l.length/\∀ j (hj:j<l.length),j<k->bad (l[j]'hj)=false) (fun k=>l.length-k) 0 ⟨Nat.zero_le _,fun j _ hj=>by omega⟩ ?_ ?_
 ·exact wk
 ·intro k hk
  have hk1:=hk.1
  have hk2:=hk.2
  by_cases h:k<l.length
  ·have hb:l[k]?=some (l[k]'h):=List.getElem?_eq_getElem h
   have hbad:bad (l[k]'h)=true->may l=false:=fun hb=>by
    have:l.any bad=true:=List.any_eq_true.2 ⟨l[k]'h,List.getElem_mem h,hb⟩
    simp[may,this]
   by_cases h47:l[k]'h=47
   ·have h1:(((l[k]'h).toNat:Int)=47):=by rw[h47];rfl
    push_cast -dsimp [h,hb,h1]
    refine ⟨by omega,[],rfl,rfl,?_⟩
    push_cast -dsimp [zb,za,CLe,ze]
    rw[hbad (by simp[bad,h47])]
   ·have h1:¬(((l[k]'h).toNat:Int)=47):=zgm h47
    by_cases h00:l[k]'h=0
    ·have h2:(((l[k]'h).toNat:Int)=0):=by rw[h00];rfl
     push_cast -dsimp [h,hb,h1,h2]
     refine ⟨by omega,by omega,[],rfl,rfl,?_⟩
     push_cast -dsimp [zb,za,CLe,ze]
     rw[hbad (by simp[bad,h00])]
    ·have h2:¬(((l[k]'h).toNat:Int)=0):=zgm h00
     push_cast -dsimp [h,hb,h1,h2]
     repeat refine an ?_
     refine ⟨k+1,⟨by omega,fun j hj hjk=>?_⟩,by omega,wk⟩
     rcases Nat.lt_or_ge j k with g | g
     ·exact hk2 j hj g
     ·have:j=k:=by omega
      subst this
      simp[bad,h47,h00]
  ·have hany:l.any bad=false:=List.any_eq_false.2 fun x hx=>by
    obtain ⟨j,hj,rfl⟩:=List.getElem_of_mem hx
    simp[hk2 j hj (by omega)]
   obtain rfl:k=l.length:=by omega
   by_cases h0:l = []
   ·subst h0
    push_cast -dsimp
    exact ⟨[],rfl,rfl,by push_cast -dsimp [zb,za,CLe,ze]<;>simp[may]⟩
   ·have h1:(1:Int)<=(l.length:Int):=by have:=List.length_pos_iff.2 h0;omega
    by_cases h2:(l.length:Int)<=255
    ·have h2':l.length<=255:=by omega
     by_cases h4:l = [46]
     ·subst h4
      push_cast -dsimp
      exact ⟨[],rfl,rfl,by push_cast -dsimp [zb,za,CLe,ze]<;>simp[may]⟩
     ·by_cases h5:l = [46,46]
      ·subst h5
       push_cast -dsimp [h4]
       exact ⟨[],rfl,rfl,by push_cast -dsimp [zb,za,CLe,ze]<;>simp[may]⟩
      ·push_cast -dsimp [h,h1,h2,h4,h5]
       exact ⟨[],rfl,rfl,by push_cast -dsimp [zb,za,CLe,ze]<;>simp[may,h0,h2',hany,h4,h5]⟩
    ·have h2':¬l.length<=255:=by omega
     push_cast -dsimp [h,h1,h2]
     exact ⟨[],rfl,rfl,by push_cast -dsimp [zb,za,CLe,ze]<;>simp[may,h2']⟩
def Yy (p q:List UInt8):Bool:=decide ((zJ p).take (zJ q).length=zJ q)
theorem Z6 (p q:List UInt8) (hp:p.length<=100000) (hq:q.length<=100000):Fun Tryz.prog G0 85 [.str p,.str q] (qG (Yy p q)) 0:=by
 have hn:=Ug p hp
 have hm:=Ug q hq
 have hs:=Jc p
 have ht:=Jc q
 by_cases h:(zJ p).length<(zJ q).length
 ·refine fon Tryz.func85 ?_;dsimp only[Tryz.f85]
  push_cast -dsimp
  refine call hn ?_
  push_cast -dsimp
  refine call hm ?_
  push_cast -dsimp [h]
  refine ⟨[],rfl,rfl,?_⟩
  push_cast -dsimp [zb,za,CLe,ze]
  have:¬(zJ p).take (zJ q).length=zJ q:=fun e=>by have:=congrArg List.length e;rw[List.length_take]at this;omega
  simp[Yy,this]
 ·refine fon Tryz.func85 ?_;dsimp only[Tryz.f85]
  push_cast -dsimp
  refine call hn ?_
  push_cast -dsimp
  refine call hm ?_
  push_cast -dsimp [h]
  refine loop (fun k:Nat=>⟨[(5,.own 0 9 1 (qv (zJ p))),(6,.own 1 9 1 (qv (zJ q))),(7,.sc (.int .i64 k))],[],2,0⟩) (fun k=>k<=(zJ q).length/\(zJ p).take k=(zJ q).take k) (fun k=>(zJ q).length-k) 0 ⟨Nat.zero_le _,rfl⟩ ?_ ?_
  ·exact wks [.inl 0,.inl 1]
  ·intro k hk
   have hk1:=hk.1
   have hk2:=hk.2
   by_cases h3:k<(zJ q).length
   ·have hg1:=ZL (zJ p) k (by omega)
    have hg2:=ZL (zJ q) k h3
    by_cases he:(zJ p)[k]'(by omega)=(zJ q)[k]'h3
    ·push_cast -dsimp [h3,hg1,hg2,he]
     repeat refine an ?_
     refine ⟨k+1,⟨by omega,?_⟩,by omega,wks [.inl 0,.inl 1]⟩
     rw[List.take_add_one,List.take_add_one,hk2,List.getElem?_eq_getElem h3,List.getElem?_eq_getElem (by omega:k<(zJ p).length),he]
    ·push_cast -dsimp [h3,hg1,hg2,he]
     repeat refine an ?_
     refine ⟨[],rfl,rfl,?_⟩
     push_cast -dsimp [zb,za,CLe,ze]
     have:¬(zJ p).take (zJ q).length=zJ q:=fun e=>he (by
      have:=congrArg (·[k]?) e
      simp only[List.getElem?_take,if_pos h3]at this
      rw[List.getElem?_eq_getElem (by omega),List.getElem?_eq_getElem h3]at this
      exact Option.some.inj this)
     simp[Yy,this]
   ·have hkl:k=(zJ q).length:=by omega
    push_cast -dsimp [h3]
    refine ⟨[],rfl,rfl,?_⟩
    push_cast -dsimp [zb,za,CLe,ze]
    rw[hkl,List.take_length]at hk2
    simp[Yy,hk2]
theorem Vb (p:List UInt8) (hp:p.length<=100000):Fun Tryz.prog G0 124 [.str p] (Ys p) 1:=by
 have hn:=Ug p hp
 have hs:=Jc p
 have hj:=G5 p
 refine fon Tryz.func124 ?_;dsimp only[Tryz.f124]
 push_cast -dsimp
 refine call hn ?_
 push_cast -dsimp
 refine loop (fun k:Nat=>⟨[(0,.str p),(4,.own 0 9 1 (qv (zJ p))),(5,.sc (.int .i64 k))],[],1,0⟩) (fun k=>k<=(zJ p).length/\∀ j (hj:j<(zJ p).length),j<k->may ((zJ p)[j]'hj)=true) (fun k=>(zJ p).length-k) 0 ⟨Nat.zero_le _,fun j _ hj=>by omega⟩ ?_ ?_
 ·exact wks [.inl 0]
 ·intro k hk
  have hk1:=hk.1
  have hk2:=hk.2
  by_cases h:k<(zJ p).length
  ·have hg:=ZL (zJ p) k h
   have hlen:=hj.2 ((zJ p)[k]'h) (List.getElem_mem h)
   push_cast -dsimp [h,hg]
   refine ⟨by omega,?_⟩
   refine call (ZJ ((zJ p)[k]'h) (by omega)) ?_
   push_cast -dsimp
   cases hm:may ((zJ p)[k]'h) with
   | true =>
    push_cast -dsimp
    repeat refine an ?_
    refine ⟨k+1,⟨by omega,fun j hj hjk=>?_⟩,by omega,wks [.inl 0]⟩
    rcases Nat.lt_or_ge j k with g | g
    ·exact hk2 j hj g
    ·have:j=k:=by omega
     subst this;exact hm
   | false =>
    have hall:(zJ p).all may=false:=List.all_eq_false.2 ⟨(zJ p)[k]'h,List.getElem_mem h,by simp[hm]⟩
    push_cast -dsimp
    exact ⟨[.inr (9,1)],rfl,rfl,by simp only[Ys,Yj,hall];push_cast -dsimp [zb,za,CLe,ze]<;>simp⟩
  ·have hall:(zJ p).all may=true:=List.all_eq_true.2 fun x hx=>by
    obtain ⟨j,hj,rfl⟩:=List.getElem_of_mem hx
    exact hk2 j hj (by omega)
   push_cast -dsimp [h]
   refine call (yR (zJ p) (by omega) (by omega)) ?_
   push_cast -dsimp
   by_cases h1:qY (zJ p)=p
   ·push_cast -dsimp [h1]
    exact ⟨[.inl 0],rfl,rfl,by simp only[Ys,Yj,h1,hall];push_cast -dsimp [zb,za,CLe,ze]<;>simp⟩
   ·push_cast -dsimp [h1]
    exact ⟨[.inr (9,1)],rfl,rfl,by simp only[Ys,Yj,h1];push_cast -dsimp [zb,za,CLe,ze]<;>simp⟩
end
section
open Go.RowKit
def UO (x:List UInt8):Prop:=x≠[]/\(47:UInt8)∉x
theorem zeP:∀ a t:List UInt8,Jd (a++47 :: t)=Jd a++Jd t
 | [],t=>by
  have:Jd (47 :: t) = [] :: Jd t:=rfl
  exact this
 | b :: a,t=>by
  have ih:=zeP a t
  have e1:Jd (b :: (a++47 :: t))=if b=47 then [] :: Jd (a++47 :: t) else match Jd (a++47 :: t) with
   | []=>[[b]]
   | x :: r=>(b :: x) :: r:=rfl
  have e2:Jd (b :: a)=if b=47 then [] :: Jd a else match Jd a with
   | []=>[[b]]
   | x :: r=>(b :: x) :: r:=rfl
  rw[List.cons_append,e1,e2,ih]
  by_cases hb:b=47
  ·simp[hb]
  ·rw[if_neg hb,if_neg hb]
   have hne:=MG a
   cases hs:Jd a with
   | nil=>exact absurd hs hne
   | cons x r=>simp
theorem zcQ:∀ x:List UInt8,(47:UInt8)∉x->Jd x = [x]
 | [],_=>rfl
 | b :: x,h=>by
  have hb:¬(b=47):=fun e=>h (by rw[e];exact List.mem_cons_self)
  have ih:=zcQ x (fun hx=>h (List.mem_cons_of_mem _ hx))
  unfold Jd
  rw[if_neg hb,ih]
theorem zdD:∀ (l x:List UInt8),x∈Jd l->(47:UInt8)∉x
 | [],x,h=>by simp[Jd]at h;subst h;simp
 | b :: l,x,h=>by
  have ih:=zdD l
  unfold Jd at h
  by_cases hb:b=47
  ·rw[if_pos hb]at h
   rcases List.mem_cons.1 h with rfl | h
   ·simp
   ·exact ih x h
  ·rw[if_neg hb]at h
   have hne:=MG l
   cases hs:Jd l with
   | nil=>exact absurd hs hne
   | cons y r =>
    rw[hs]at h ih
    simp only at h
    rcases List.mem_cons.1 h with rfl | h
    ·intro hm
     rcases List.mem_cons.1 hm with e | hm
     ·exact hb e.symm
     ·exact ih y List.mem_cons_self hm
    ·exact ih x (List.mem_cons_of_mem _ h)
theorem NR {l x:List UInt8} (h:x∈zJ l):UO x:=by
 rw[Yg,List.mem_filter]at h
 exact ⟨by simpa using h.2,zdD l x h.1⟩
theorem UF (a t:List UInt8):zJ (a++47 :: t)=zJ a++zJ t:=by
 rw[Yg,Yg,Yg,zeP,List.filter_append]
theorem ML {x:List UInt8} (h:UO x):zJ x = [x]:=by
 rw[Yg,zcQ x h.2]
 simp[h.1]
theorem yP (l:List UInt8):zJ (47 :: l)=zJ l:=UF [] l
theorem kW:∀ xs:List (List UInt8),(∀ x∈xs,UO x)->zJ (Lib.join xs [47])=xs
 | [],_=>rfl
 | [x],h=>by rw[Lib.join_one];exact ML (h x List.mem_cons_self)
 | x :: y :: r,h=>by
  have ih:=kW (y :: r) fun z hz=>h z (List.mem_cons_of_mem _ hz)
  rw[j9,List.append_assoc]
  show zJ (x++47 :: Lib.join (y :: r) [47])=_
  rw[UF,ih,ML (h x List.mem_cons_self)]
  rfl
theorem Qn (xs:List (List UInt8)) (h:∀ x∈xs,UO x):zJ (qY xs)=xs:=by
 unfold qY
 by_cases hx:xs = []
 ·rw[if_pos hx,hx];rfl
 ·rw[if_neg hx,yP,kW xs h]
theorem vF {x:List UInt8} (h:may x=true):UO x:=by
 simp only[may,Bool.and_eq_true,Bool.not_eq_true',decide_eq_false_iff_not]at h
 refine ⟨h.1.1.1.1,fun hm=>?_⟩
 have:=List.any_eq_false.1 h.1.1.2 47 hm
 exact this (by decide)
theorem zfA (xs zs:List (List UInt8)) (hx:xs≠[]) (hz:zs≠[]):qY (xs++zs)=qY xs++47 :: Lib.join zs [47]:=by
 unfold qY
 rw[if_neg hx,if_neg (by simp[hx])]
 simp only[List.cons_append,List.cons.injEq,true_and]
 induction xs with
 | nil=>exact absurd rfl hx
 | cons x r ih =>
  cases r with
  | nil =>
   cases zs with
   | nil=>exact absurd rfl hz
   | cons z zs=>simp only[List.cons_append,List.nil_append];rw[j9,Lib.join_one];simp
  | cons y r =>
   have:=ih (by simp)
   simp only[List.cons_append]at this ⊢
   rw[j9,j9,this]
   simp
theorem y4 (xs ys:List (List UInt8)) (hx:∀ x∈xs,UO x) (hy:∀ y∈ys,UO y):Xo (qY xs) (qY ys)=decide (xs.take ys.length=ys):=by
 have nx:=Qn xs hx
 have ny:=Qn ys hy
 rw[Bool.eq_iff_iff]
 simp only[decide_eq_true_eq,Xo,Bool.or_eq_true]
 constructor
 ·rintro ((h | h) | h)
  ·have:xs=ys:=by rw[←nx,←ny,h]
   rw[this,List.take_length]
  ·have:ys = []:=by rw[←ny,h];rfl
   rw[this];rfl
  ·unfold Lib.hasPrefix at h
   obtain ⟨t,ht⟩:=List.isPrefixOf_iff_prefix.1 h
   have:xs=ys++zJ t:=by
    rw[←nx,←ht,List.append_assoc]
    show zJ (qY ys++47 :: t)=_
    rw[UF,ny]
   rw[this,List.take_left]
 ·intro h
  have e:xs=ys++xs.drop ys.length:=by
   conv=>lhs;rw[←List.take_append_drop ys.length xs,h]
  by_cases hys:ys = []
  ·exact .inl (.inr (by rw[hys];rfl))
  ·by_cases hd:xs.drop ys.length = []
   ·refine .inl (.inl ?_)
    rw[hd,List.append_nil]at e
    rw[e]
   ·refine .inr ?_
    rw[e,zfA _ _ hys hd]
    unfold Lib.hasPrefix
    refine List.isPrefixOf_iff_prefix.2 ⟨Lib.join (xs.drop ys.length) [47],?_⟩
    simp
theorem Uu {p:List UInt8} (h:Yj p=true):qY (zJ p)=p:=by
 unfold Yj at h
 simp only[Bool.and_eq_true,decide_eq_true_eq]at h
 exact h.1
theorem yc (p q:List UInt8) (hp:Yj p=true) (hq:Yj q=true):Xo p q=Yy p q:=by
 have h:=y4 (zJ p) (zJ q) (fun x hx=>NR hx) (fun x hx=>NR hx)
 rw[Uu hp,Uu hq]at h
 exact h
end
section
open Go.RowKit Go.ChangeMaps Go.ChangeShapes Go.WideShapes Go.Deep Go.Joins
theorem yF (R:Env):Xm G0 R:=fun g cs h=>by cases h
section
variable {H:Type} {enc:TypeId×Value->H} {W:World}
end
end
section
open Go.RowKit
mutual
/-- the cells that read as a datum of Yj data -/
def Zv:DataW Unit->Option (List Value)
 | .lit (.int k n)=>some [.int k n]
 | .lit (.bool b)=>some [.bool b]
 | .lit (.string l)=>some [.string ⟨l.toArray⟩]
 | .agg ds=>UH ds
 | _=>none
def UH:List (DataW Unit)->Option (List Value)
 | []=>some []
 | d :: ds=>match Zv d,UH ds with
  | some a,some b=>some (a++b)
  | _,_=>none
end
def Ny (P:Program):Nat->List Field->Nat->Bool
 | j,[],n=>j==n
 | j,f :: fs,n=>f.offset==j&&Ny P (j+P.cellsOf f.type) fs n
def Ua (P:Program):Nat->TypeId->Bool
 | 0,_=>false
 | m+1,t=>match P.underlying t with
  | some .bool=>true
  | some (.int _)=>true
  | some .string=>true
  | some (.struct fs)=>Ny P 0 fs.toList (P.cellsOf t)&&fs.toList.all fun f=>Ua P m f.type
  | some (.array n e)=>Ua P m e&&P.cellsOf t==n*P.cellsOf e
  | _=>false
section
variable {enc:TypeId×Value->Unit} {P:Program} {w:World} {base:Nat} {spare:Nat->Bool} {held:Bool}
theorem V7 {d:DataW Unit} {ds:List (DataW Unit)} {a b:List Value} (h1:Zv d=some a) (h2:UH ds=some b):UH (d :: ds)=some (a++b):=by
 rw[UH,h1,h2]
theorem Q4 {n:Nat} {cs:List Value} (ih:∀ t cs d p,Ua P n t=true->DataW.trod enc P w base spare held n t cs=some (d,p)->Zv d=some cs) {m:Nat} (hm:∀ t cs d p,Ua P m t=true->DataW.trod enc P w base spare held n t cs=some (d,p)->Zv d=some cs) :
  ∀ (fs:List Field) (j N:Nat) (xs:List (DataW Unit×List MemPlace)),Ny P j fs N=true->(fs.all fun f=>Ua P m f.type)=true->cs.length=N->xs.length=fs.length ->
   (∀ (i:Nat) (f:Field),fs[i]?=some f->DataW.trod enc P w base spare held n f.type ((cs.drop f.offset).take (P.cellsOf f.type))=xs[i]?)->UH (xs.map (·.1))=some (cs.drop j)
 | [],j,N,xs,hc,_,hl,hx,_=>by
  simp only[Ny,beq_iff_eq]at hc
  match xs,hx with
  | [],_=>rw[List.drop_of_length_le (by omega)];rfl
 | f :: fs,j,N,xs,hc,ha,hl,hx,hf=>by
  simp only[Ny,Bool.and_eq_true,beq_iff_eq]at hc
  simp only[List.all_cons,Bool.and_eq_true]at ha
  match xs,hx with
  | x :: xs,hx =>
   have h0:=hf 0 f rfl
   have e0:Zv x.1=some ((cs.drop f.offset).take (P.cellsOf f.type)):=hm _ _ _ x.2 ha.1 h0
   have e1:=Q4 ih hm fs _ N xs hc.2 ha.2 hl (by simpa using hx) fun i g hg=>hf (i+1) g hg
   rw[List.map_cons,V7 e0 e1,hc.1,←List.drop_drop,List.take_append_drop]
theorem Vs {n:Nat} {e:TypeId} {cs:List Value}:∀ (N j:Nat) (xs:List (DataW Unit×List MemPlace)),(∀ cs d p,DataW.trod enc P w base spare held n e cs=some (d,p)->Zv d=some cs)->cs.length=(j+N)*P.cellsOf e->xs.length=N ->
   (∀ (i:Nat),i<N->DataW.trod enc P w base spare held n e ((cs.drop ((j+i)*P.cellsOf e)).take (P.cellsOf e))=xs[i]?)->UH (xs.map (·.1))=some (cs.drop (j*P.cellsOf e))
 | 0,j,xs,_,hl,hx,_=>by
  match xs,hx with
  | [],_=>rw[List.drop_of_length_le (by simp at hl;omega)];rfl
 | N+1,j,xs,hm,hl,hx,hf=>by
  match xs,hx with
  | x :: xs,hx =>
   have e0:=hm _ _ x.2 (hf 0 (Nat.zero_lt_succ _))
   have e1:=Vs N (j+1) xs hm (by rw[hl];congr 1;omega) (by simpa using hx) fun i hi=>by
    have:=hf (i+1) (by omega)
    rw[show j+(i+1)=j+1+i by omega]at this
    exact this
   rw[List.map_cons,V7 e0 e1,Nat.add_zero,show (j+1)*P.cellsOf e=j*P.cellsOf e+P.cellsOf e by rw[Nat.add_mul];omega,←List.drop_drop,List.take_append_drop]
theorem XF:∀ (n m:Nat) (t:TypeId) (cs:List Value) (d:DataW Unit) (p:List MemPlace),Ua P m t=true->DataW.trod enc P w base spare held n t cs=some (d,p)->Zv d=some cs
 | 0,m,t,cs,d,p,_,h=>by simp[DataW.trod]at h
 | n+1,0,t,cs,d,p,hf,h=>by simp[Ua]at hf
 | n+1,m+1,t,cs,d,p,hf,h=>by
  unfold Ua at hf
  split at hf
  ·rename_i hu
   obtain ⟨b,rfl,e⟩:=DataW.trod_bool hu h
   cases e;rfl
  ·rename_i k hu
   obtain ⟨b,rfl,e,_⟩:=DataW.trod_int hu h
   cases e;rfl
  ·rename_i hu
   obtain ⟨s,rfl,e,_⟩:=DataW.trod_string hu h
   cases e
   rw[Zv]
  ·rename_i fs hu
   simp only[Bool.and_eq_true]at hf
   obtain ⟨xs,n',hn,e,hl,hx,hg⟩:=DataW.trod_struct hu h
   cases hn;cases e
   have hrec:∀ t cs d p,Ua P m t=true->DataW.trod enc P w base spare held n t cs=some (d,p)->Zv d=some cs:=fun t cs d p=>XF n m t cs d p
   have:=Q4 (n:=n) (fun t cs d p=>XF n n t cs d p) hrec fs.toList 0 _ xs hf.1 hf.2 hl (by rw[hx];rfl) fun i f hif=>hg i f (by simpa using hif)
   rw[List.drop_zero]at this
   rw[Zv,this]
  ·rename_i N e hu
   simp only[Bool.and_eq_true,beq_iff_eq]at hf
   obtain ⟨xs,n',hn,e',hl,hx,hg⟩:=DataW.trod_array hu h
   cases hn;cases e'
   have:=Vs (n:=n) (e:=e) (cs:=cs) N 0 xs (fun cs d p=>XF n m e cs d p hf.1) (by rw[hl,hf.2,Nat.zero_add]) hx fun i hi=>by rw[Nat.zero_add];exact hg i hi
   rw[Nat.zero_mul,List.drop_zero]at this
   rw[Zv,this]
  ·cases hf
end
theorem HE {W:World} {g:Nat}:∀ (vs:List Value) (o:Nat),(∀ (i:Nat) v,vs[i]?=some v->W.cell? ⟨g,o+i,none⟩=some v)->(vs.all fun v=>v.oneCell')=true->zL (Nx W) (vs.map zC) g o:=fun vs o h ho=>by
 refine z8 fun i c hc=>?_
 rw[List.getElem?_map,Option.map_eq_some_iff]at hc
 obtain ⟨v,hv,rfl⟩:=hc
 exact ⟨v,h i v hv,fun hf=>hf,jy _ _ v,List.all_eq_true.1 ho v (List.mem_of_getElem? hv)⟩
theorem GM {P:Program} {W:World} {l:List (String×DataW Unit)} (h:laidMetH P l W) (hp:(l.filter fun x=>x.2.handleName?.isSome) = []) {n:String} {d:DataW Unit} (hm:(n,d)∈l) {g:Nat} {t:TypeId} {m:Nat} {vs:List Value}
  (hg:P.globalNamed n=some g) (ht:(P.globals[g]?).map (·.type)=some t) (hf:Ua P m t=true) (hd:Zv d=some vs) (ho:(vs.all fun v=>v.oneCell')=true):zL (Nx W) (vs.map zC) g 0:=by
 unfold laidMetH at h
 rw[hp]at h
 obtain ⟨g',t',cs,fuel,p,hg',ht',hvar,htr⟩:=Lib.laidMet.reads h hm
 rw[hg]at hg';cases hg'
 rw[ht]at ht';cases ht'
 have e:=XF _ _ _ _ _ _ hf htr
 have e':vs=cs.toList:=Option.some.inj (hd.symm.trans e)
 subst e'
 refine HE _ 0 (fun i v hv=>?_) ho
 rw[World.var?_cell hg hvar,Nat.zero_add]
 simpa using hv
theorem Ju {P:Program} {W:World} {l:List (String×DataW Unit)} (h:laidMetH P l W) (hp:(l.filter fun x=>x.2.handleName?.isSome) = []) {n:String} {d:DataW Unit} (hm:(n,d)∈l) {g:Nat} {t:TypeId} {m:Nat} {vs:List Value}
  (hg:P.globalNamed n=some g) (ht:(P.globals[g]?).map (·.type)=some t) (hf:Ua P m t=true) (hd:Zv d=some vs) (ho:(vs.all fun v=>v.oneCell')=true) :
  zL (Nx W) (vs.map zC) g 0/\(∃ us ty fl,(Nx W).w.heap[g]?=some (.cells us ty fl)/\us.size=(vs.map zC).length)/\∀ o,¬(Nx W).M g o:=by
 refine ⟨GM h hp hm hg ht hf hd ho,?_,fun o h=>h⟩
 unfold laidMetH at h
 rw[hp]at h
 obtain ⟨g',t',cs,fuel,p,hg',ht',hvar,htr⟩:=Lib.laidMet.reads h hm
 rw[hg]at hg';cases hg'
 rw[ht]at ht';cases ht'
 have e:=XF _ _ _ _ _ _ hf htr
 have e':vs=cs.toList:=Option.some.inj (hd.symm.trans e)
 subst e'
 unfold World.var? at hvar
 rw[hg]at hvar
 simp only[Option.bind_some]at hvar
 split at hvar
 ·rename_i cs' ty fl hh
  cases hvar
  exact ⟨_,_,_,hh,by simp⟩
 ·cases hvar
theorem Fun.glob {P:Program} {G G':zq} {f:FuncId} {args:List C} {r:C} {n:Nat} (h:Fun P G f args r n) (hG:∀ g cs,G g=some cs->G' g=some cs):Fun P G' f args r n:=
 ⟨h.1,fun R vs hg ha=>h.2 R vs (fun g cs e=>hg g cs (hG g cs e)) ha⟩
theorem Fun.glob0 {P:Program} {G':zq} {f:FuncId} {args:List C} {r:C} {n:Nat} (h:Fun P G0 f args r n):Fun P G' f args r n:=h.glob fun g cs e=>by cases e
end
section
open CA CB
open Go.RowKit
def zoA:List Value:=[.bool false,.bool false,.bool false,.bool false,.bool false,.bool false,.bool false,.bool true,.bool false,.bool true,.bool true,.bool false,.bool false,.bool false,.bool true,.bool false,.bool true,.bool false,.bool false,.bool true,.bool false,.bool true,.bool false,.bool false,.bool false,.bool false,.bool false,.bool true,.bool false,.bool false,.bool true,.bool false,.bool false]
def G1:zq:=fun g=>if g=0 then some (zoA.map zC) else none
theorem znv:G1 0=some [.sc (.bool false),.sc (.bool false),.sc (.bool false),.sc (.bool false),.sc (.bool false),.sc (.bool false),.sc (.bool false),.sc (.bool true),.sc (.bool false),.sc (.bool true),.sc (.bool true),.sc (.bool false),.sc (.bool false),.sc (.bool false),.sc (.bool true),.sc (.bool false),.sc (.bool true),.sc (.bool false),.sc (.bool false),.sc (.bool true),.sc (.bool false),.sc (.bool true),.sc (.bool false),.sc (.bool false),.sc (.bool false),.sc (.bool false),.sc (.bool false),.sc (.bool true),.sc (.bool false),.sc (.bool false),.sc (.bool true),.sc (.bool false),.sc (.bool false)]:=rfl
attribute [push_cast] znv
def zP (p:List UInt8):Bool:=Yj p&&!decide (zJ p = [])
theorem MT (p:List UInt8) (hp:p.length<=1000000):Fun Tryz.prog G0 133 [.str p] (qG (zP p)) 0:=by
 have h:=NG p hp
 unfold Ys at h
 cases hb:Yj p with
 | false =>
  rw[hb]at h
  refine fon Tryz.func133 ?_;dsimp only[Tryz.f133]
  push_cast -dsimp
  refine cl (h) ?_;push_cast -dsimp
  exact ⟨[],rfl,rfl,by push_cast -dsimp [zb,za,CLe,ze];simp[zP,hb]⟩
 | true =>
  rw[hb,if_pos rfl]at h
  refine fon Tryz.func133 ?_;dsimp only[Tryz.f133]
  push_cast -dsimp
  refine cl (h) ?_;push_cast -dsimp
  refine ⟨[],rfl,rfl,?_⟩
  push_cast -dsimp [zb,za,CLe,ze]
  by_cases hn:zJ p = []
  ·simp[zP,hb,hn]
  ·have:=List.length_pos_iff.2 hn
   simp[zP,hb,hn,this]
theorem zaZ (l:List UInt8):Fun Tryz.prog G0 186 [.str l,.str [0]] (.sc (.int .i64 (Lib.indexByte l 0))) 0:=by
 refine Fun.wrap (by kernel_rfl) fun R vs h=>?_
 obtain ⟨v1,us1,rfl,h1,h⟩:=zd.1 h
 obtain ⟨v2,us2,rfl,h2,h⟩:=zd.1 h
 rw[zj]at h
 subst h
 rw[zV]at h1 h2
 subst h1 h2
 refine (Tryz.strings_Index_one ⟨l.toArray⟩ 0 R.w).mono ?_
 rintro e w' ⟨rfl,rfl⟩
 exact ⟨_,rfl,Below.refl _ _,fun R' _=>zo.2 (by simp)⟩
theorem Hb:∀ l:List UInt8,decide (0<=Lib.indexByte l 0)=l.any (fun b=>decide (b=0))/\-1<=Lib.indexByte l 0
 | []=>⟨rfl,by decide⟩
 | b :: l=>by
  obtain ⟨h1,h2⟩:=Hb l
  unfold Lib.indexByte
  by_cases hb:b=0
  ·subst hb;simp
  ·have hb':(b==0)=false:=by simpa using hb
   rw[hb']
   simp only[Bool.false_eq_true,if_false,List.any_cons,hb,decide_false,Bool.false_or,←h1]
   split
   ·rename_i hm
    have:=beq_iff_eq.1 hm
    rw[this];simp
   ·rename_i hm
    have:¬Lib.indexByte l 0 = -1:=fun e=>hm (by rw[e];rfl)
    constructor
    ·rw[decide_eq_decide];omega
    ·omega
theorem H4 (l:List UInt8) (hl:l.length<=1000000):Fun Tryz.prog G0 164 [.str l,.str [0]] (qG (l.any fun b=>decide (b=0))) 0:=by
 have h:=(Hb l).1
 refine fon Tryz.func164 ?_;dsimp only[Tryz.f164]
 push_cast -dsimp
 refine cl (zaZ l) ?_;push_cast -dsimp
 exact dn (by push_cast -dsimp [zb,za,CLe,ze,h])
def Xd (s:List UInt8):Bool:=!decide (s = [])&&decide (s.length<=4095)&&!(s.any fun b=>decide (b=0))
theorem uN (s:List UInt8) (hs:s.length<=1000000):Fun Tryz.prog G0 134 [.str s] (qG (Xd s)) 0:=by
 have h:=H4 s hs
 by_cases h1:s = []
 ·refine fon Tryz.func134 ?_;dsimp only[Tryz.f134]
  push_cast -dsimp [h1]
  exact ⟨[],rfl,rfl,by push_cast -dsimp [zb,za,CLe,ze];simp[Xd,h1]⟩
 ·by_cases h2:s.length<=4095
  ·have h2':(s.length:Int)<=4095:=by omega
   refine fon Tryz.func134 ?_;dsimp only[Tryz.f134]
   push_cast -dsimp [h1,h2']
   refine cl (h) ?_;push_cast -dsimp
   exact ⟨[],rfl,rfl,by push_cast -dsimp [zb,za,CLe,ze];simp[Xd,h1,h2]⟩
  ·have h2':¬(s.length:Int)<=4095:=by omega
   refine fon Tryz.func134 ?_;dsimp only[Tryz.f134]
   push_cast -dsimp [h1,h2']
   exact ⟨[],rfl,rfl,by push_cast -dsimp [zb,za,CLe,ze];simp[Xd,h1,h2]⟩
end
end Go.Proofs.YtiblepfehggicaaGreatDoor.Vcg
section
namespace Go.Proofs.YtiblepfehggicaaGreatDoor.QuotePlain
abbrev Bs:=List UInt8
def good (c:UInt8):Bool:=decide (32<=c.toNat/\c.toNat<=126/\c.toNat≠34/\c.toNat≠92)
def zjl:Bs:=[48,49,50,51,52,53,54,55,56,57,97,98,99,100,101,102]
def GI (n:Nat):UInt8:=zjl.getD n 0
def qb (c:UInt8):Bs:=if good c then [c] else [92,120,GI (c.toNat / 16),GI (c.toNat % 16)]
def mid (l:Bs):Bs:=l.flatMap qb
def qx (l:Bs):Bs:=34 :: (mid l++[34])
def zoh (l:Bs):Bool:=decide (l≠[])&&l.all fun c=>decide (33<=c.toNat/\c.toNat<=126/\c.toNat≠34)
def zl8 (c:UInt8):Nat:=(zjl.findIdx? (·==c)).getD 16
def zhA:Bs->UInt8×Nat
 | []=>(0,0)
 | c :: r =>
  if c≠92 then (if good c then (c,1) else (0,0))
  else match r with
   | x :: a :: b :: _=>if x=120/\zl8 a<16/\zl8 b<16/\good (UInt8.ofNat (zl8 a*16+zl8 b))=false then (UInt8.ofNat (zl8 a*16+zl8 b),4) else (0,0)
   | _=>(0,0)
theorem zcG {p:UInt8->Bool} (h:(List.range 256).all (fun n=>p (UInt8.ofNat n))=true) (c:UInt8):p c=true:=by
 have h1:=List.all_eq_true.1 h c.toNat (List.mem_range.2 c.toNat_lt)
 simpa using h1
def znQ:Nat->Bs->Option (Bs×Nat)
 | 0,_=>none
 | _+1,[]=>none
 | f+1,c :: r=>if c=34 then some ([],1) else if (zhA (c :: r)).2=0 then none else (znQ f ((c :: r).drop (zhA (c :: r)).2)).map fun x=>((zhA (c :: r)).1 :: x.1,(zhA (c :: r)).2+x.2)
def body (l:Bs):Option (Bs×Nat):=znQ (l.length+1) l
def qtd:Bs->Option (Bs×Nat)
 | []=>none
 | c :: r=>if c=34 then (body r).map fun x=>(x.1,x.2+1) else none
def unq (l:Bs):Option Bs:=match qtd l with | some (t,n)=>if n=l.length then some t else none | none=>none
end Go.Proofs.YtiblepfehggicaaGreatDoor.QuotePlain
end
section
namespace Go.Proofs.YtiblepfehggicaaGreatDoor.QuotePlain
def okw (w:Bs):Bool:=(unq w).isSome||zoh w
def cut:Bs->Bs->Bool->Option (List Bs)
 | [],w,_=>if okw w then some [w] else none
 | c :: r,w,i=>if c=32/\i=false then (if okw w then (cut r [] i).map (w :: ·) else none) else cut r (w++[c]) (if c=34 then !i else i)
end Go.Proofs.YtiblepfehggicaaGreatDoor.QuotePlain
end
section
namespace Go.Proofs.YtiblepfehggicaaGreatDoor.QuotePlain
def F (q:List Bs):Bs:=q.flatMap (·++[32])
end Go.Proofs.YtiblepfehggicaaGreatDoor.QuotePlain
end
namespace Go.Proofs.YtiblepfehggicaaGreatDoor.Vcg
section
structure OpV where
 kind:Int
 slot:Int
 a:List UInt8
 b:List UInt8
 d:List UInt8
deriving DecidableEq,Inhabited
def Z0 (k:Int):Bool:=decide (k=3)||decide (k=7)||decide (k=9)||decide (k=10)
def zes (k:Int):Bool:=decide (k=2)||decide (k=3)||decide (k=5)||decide (k=6)
end
section
open CA CB
open Go.RowKit
def opL (o:OpV):List C:=[.sc (.int .i64 o.kind),.sc (.int .i64 o.slot),.str o.a,.str o.b,.str o.d]
def Z4 (o:OpV):Bool:=decide (1<=o.kind)&&decide (o.kind<=10)&&zP o.a&&(if Z0 o.kind then decide (1<=o.slot)&&decide (o.slot<=1073741824) else decide (o.slot=0))&&(if zes o.kind then zP o.b else decide (o.b = []))
 && (if o.kind=4 then Xd o.d else decide (o.d = []))&&(!decide (o.kind=6)||(!Xo o.a o.b&&!Xo o.b o.a))
def short (o:OpV):Prop:=o.a.length<=100000/\o.b.length<=100000/\o.d.length<=100000
theorem Jz (k s:Int) (a b d:List UInt8) (hs:short ⟨k,s,a,b,d⟩):Fun Tryz.prog G1 98 [.agg (opL ⟨k,s,a,b,d⟩)] (qG (Z4 ⟨k,s,a,b,d⟩)) 0:=by
 have hs1:a.length<=100000:=hs.1
 have hs2:b.length<=100000:=hs.2.1
 have hs3:d.length<=100000:=hs.2.2
 have h1:=(MT a (by omega)).glob0 (G':=G1)
 have h2:=(MT b (by omega)).glob0 (G':=G1)
 have h3:=(uN d (by omega)).glob0 (G':=G1)
 have h4:=(Hi a b (by omega)).glob0 (G':=G1)
 have h5:=(Hi b a (by omega)).glob0 (G':=G1)
 unfold opL
 by_cases hk1:k<1
 ·have:¬1<=k:=by omega
  refine fon Tryz.func98 ?_;dsimp only[Tryz.f98]
  push_cast -dsimp [hk1]
  exact ⟨[],rfl,rfl,by push_cast -dsimp [zb,za,CLe,ze];simp[Z4,this]⟩
 by_cases hk2:10<k
 ·have:¬k<=10:=by omega
  refine fon Tryz.func98 ?_;dsimp only[Tryz.f98]
  push_cast -dsimp [hk1,hk2]
  exact ⟨[],rfl,rfl,by push_cast -dsimp [zb,za,CLe,ze];simp[Z4,this]⟩
 cases hp:zP a with
 | false =>
  rw[hp]at h1
  refine fon Tryz.func98 ?_;dsimp only[Tryz.f98]
  push_cast -dsimp [hk1,hk2]
  refine cl (h1) ?_;push_cast -dsimp
  exact ⟨[],rfl,rfl,by push_cast -dsimp [zb,za,CLe,ze];simp[Z4,hp]⟩
 | true =>
  rw[hp]at h1
  have hk:k=1∨k=2∨k=3∨k=4∨k=5∨k=6∨k=7∨k=8∨k=9∨k=10:=by omega
  clear hk1 hk2 hs hs1 hs2 hs3
  rcases hk with rfl | rfl | rfl | rfl | rfl | rfl | rfl | rfl | rfl | rfl
  all_goals
   refine fon Tryz.func98 ?_;dsimp only[Tryz.f98]
   push_cast -dsimp
   refine cl (h1) ?_;push_cast -dsimp
   repeat' (first
    | (refine call h2 ?_;push_cast -dsimp)
    | (refine kl h2 ?_;push_cast -dsimp)
    | (refine call h3 ?_;push_cast -dsimp)
    | (refine kl h3 ?_;push_cast -dsimp)
    | (refine call h4 ?_;push_cast -dsimp)
    | (refine kl h4 ?_;push_cast -dsimp)
    | (refine call h5 ?_;push_cast -dsimp)
    | (refine kl h5 ?_;push_cast -dsimp)
    | (refine br (fun h=>?_) (fun h=>?_)<;>push_cast -dsimp [h])
    | (refine ⟨[],rfl,rfl,?_⟩;push_cast -dsimp [zb,za,CLe,ze];clear h1 h2 h3 h4 h5;simp_all [Z4,Z0,zes]<;>omega))
end
section
structure qM where
 dir:Int
 name:List UInt8
 ino:Int
deriving DecidableEq,Inhabited
structure zN where
 slot:Int
 ino:Int
 content:Bool
 data:List UInt8
deriving DecidableEq,Inhabited
structure qy where
 fs:FsV
 kept:List zN
 pool:List zA
deriving DecidableEq,Inhabited
def Qj:qM:=⟨0,[],0⟩
def zfq:zN:=⟨0,0,false,[]⟩
abbrev JA (es:List z6):Prop:=qA jp z6.name es
def VH (n:List UInt8) (es:List z6):Bool:=JQ z6.name n es
def jP (n:List UInt8) (es:List z6):Int:=match Jm z6.name n es with | some e=>e.ino | none=>0
def zh (n:List UInt8) (es:List z6):List z6:=JJ z6.name n es
def zY (n:List UInt8) (i:Int) (es:List z6):List z6:=Xc jp z6.name ⟨n,i⟩ (JJ z6.name n es)
def atW (xs:List zA):List (List UInt8)->qM->qM×Int
 | [],s=>(s,0)
 | n :: r,s=>if s.ino=0 then (Qj,1) else if (zg s.ino xs).kind≠2 then (Qj,3) else atW xs r ⟨(zg s.ino xs).ino,n,jP n (zg s.ino xs).es⟩
def atV (f:FsV) (p:List UInt8):qM×Int:=if Yj p then atW f.xs (zJ p) ⟨0,[],1⟩ else (Qj,9)
def Jq (f:FsV) (n b:Int):Bool:=decide (f.xs.length+n<=f.maxI)&&decide (jd f.xs+b<=f.maxB)
def qI (d:Int) (es:List z6->List z6) (xs:List zA):List zA:=qF { zg d xs with es:=es (zg d xs).es } xs
def zaB (f:FsV) (s:qM) (k:Int) (t:List UInt8):FsV:={ f with next:=f.next+1,xs:=qF ⟨f.next,k,1,t,if k=2 then s.dir else 0,[]⟩ (qI s.dir (zY s.name f.next) f.xs) }
def Zq (f:FsV) (s:qM) (k:Int) (t:List UInt8):FsV×Int:=
 if may s.name then (if Jq f 1 (if k=1 then (t.length:Int) else 0) then (zaB f s k t,0) else (f,8)) else (f,9)
def zS (f:FsV) (s:qM):FsV:=
 if (zg s.ino f.xs).links-1=0 then { f with xs:=qk s.ino (qI s.dir (zh s.name) f.xs) }
 else { f with xs:=qF { zg s.ino f.xs with links:=(zg s.ino f.xs).links-1 } (qI s.dir (zh s.name) f.xs) }
def V3 (f:FsV) (s:qM) (i:Int):FsV:={ f with xs:=qF { zg i f.xs with links:=(zg i f.xs).links+1 } (qI s.dir (zY s.name i) f.xs) }
def Q7 (f:FsV) (a b:qM):FsV:=
 let g:=qI b.dir (zY b.name a.ino) (qI a.dir (zh a.name) f.xs)
 if (zg a.ino g).kind=2 then { f with xs:=qF { zg a.ino g with parent:=b.dir } g } else { f with xs:=g }
def yk (f:FsV) (i:Int) (t:List UInt8):FsV:={ f with xs:=qF { zg i f.xs with data:=t } f.xs }
def J7 (f:FsV) (i:Int) (t:List UInt8):FsV×Int:=
 if Jq f 0 ((t.length:Int)-(zg i f.xs).data.length) then (yk f i t,0) else (f,8)
def U3 (n:Int) (ks:List zN):Bool:=JQ zN.slot n ks
def qr (k:zN) (ks:List zN):List zN:=Xc jC zN.slot k ks
def JO (w:qy) (n:Int) (s:qM):qy×Int:=
 if U3 n w.kept then (w,13)
 else (⟨zS w.fs s,qr ⟨n,s.ino,false,[]⟩ w.kept,if (zg s.ino w.fs.xs).links=1 then qF { zg s.ino w.fs.xs with links:=0,parent:=0 } w.pool else w.pool⟩,0)
def zW (w:qy) (n i:Int):qy×Int:=
 if U3 n w.kept then (w,13) else ({ w with kept:=qr ⟨n,i,true,(zg i w.fs.xs).data⟩ w.kept },0)
def isV (f:FsV) (p:List UInt8) (want:Bool):qM×zA×Int:=
 let a:=atV f p
 (a.1,zg a.1.ino f.xs,if a.2≠0 then a.2 else if want&&!zG a.1.ino f.xs then 1 else if !want&&zG a.1.ino f.xs then 2 else 0)
def zM (f:FsV) (p:List UInt8):zA×Int:=
 let a:=isV f p true
 (a.2.1,if a.2.2≠0 then a.2.2 else if a.2.1.kind=2 then 4 else if a.2.1.kind=3 then 9 else 0)
def Jk (w:qy) (p:List UInt8) (k:Int) (t:List UInt8):qy×Int:=
 if (isV w.fs p false).2.2≠0 then (w,(isV w.fs p false).2.2) else ({ w with fs:=(Zq w.fs (isV w.fs p false).1 k t).1 },(Zq w.fs (isV w.fs p false).1 k t).2)
def j0 (w:qy) (o:OpV):qy×Int:=
 if (zM w.fs o.a).2≠0 then (w,(zM w.fs o.a).2) else Jk w o.b 1 (zM w.fs o.a).1.data
def zU (w:qy) (o:OpV):qy×Int:=
 if (zM w.fs o.a).2≠0 then (w,(zM w.fs o.a).2)
 else if (zM w.fs o.b).2≠0 then (w,(zM w.fs o.b).2)
 else if (zM w.fs o.a).1.ino=(zM w.fs o.b).1.ino then (w,9)
 else if (zW w o.slot (zM w.fs o.b).1.ino).2≠0 then (w,(zW w o.slot (zM w.fs o.b).1.ino).2)
 else if (J7 w.fs (zM w.fs o.b).1.ino (zM w.fs o.a).1.data).2≠0 then (w,(J7 w.fs (zM w.fs o.b).1.ino (zM w.fs o.a).1.data).2)
 else ({ (zW w o.slot (zM w.fs o.b).1.ino).1 with fs:=(J7 w.fs (zM w.fs o.b).1.ino (zM w.fs o.a).1.data).1 },0)
def qE (w:qy) (o:OpV):qy×Int:=
 let a:=isV w.fs o.a true
 if a.2.2≠0 then (w,a.2.2) else if a.2.1.kind=2 then (w,11)
 else if (isV w.fs o.b false).2.2≠0 then (w,(isV w.fs o.b false).2.2)
 else ({ w with fs:=V3 w.fs (isV w.fs o.b false).1 a.2.1.ino },0)
def Jf (w:qy) (o:OpV):qy×Int:=
 if (isV w.fs o.a true).2.2≠0 then (w,(isV w.fs o.a true).2.2)
 else if (isV w.fs o.b false).2.2≠0 then (w,(isV w.fs o.b false).2.2)
 else ({ w with fs:=Q7 w.fs (isV w.fs o.a true).1 (isV w.fs o.b false).1 },0)
def qu (w:qy) (o:OpV):qy×Int:=
 let a:=isV w.fs o.a true
 if a.2.2≠0 then (w,a.2.2) else if a.2.1.es≠[] then (w,5) else JO w o.slot a.1
def doV (w:qy) (o:OpV):qy×Int:=
 if !Z4 o then (w,12)
 else if o.kind=1 then Jk w o.a 2 []
 else if o.kind=2 then j0 w o
 else if o.kind=3 then zU w o
 else if o.kind=4 then Jk w o.a 3 o.d
 else if o.kind=5 then qE w o
 else if o.kind=6 then Jf w o
 else qu w o
def jM (ks:List zN):Int:=match ks.getLast? with | some k=>k.slot | none=>0
structure qC where
 w:qy
 ops:List OpV
 diags:List (List UInt8)
 status:Int
 slot:Int
deriving DecidableEq,Inhabited
def zfD (w:qy):qC:=⟨w,[],[],0,jM w.kept⟩
def Yn (d:qC) (o:OpV):OpV:={ o with slot:=if o.kind=3∨o.kind=7 then d.slot+1 else 0 }
def jT (d:qC) (o:OpV):qC×Int:=
 if 7<o.kind then (d,12)
 else if (doV d.w (Yn d o)).2≠0 then (d,(doV d.w (Yn d o)).2)
 else (⟨(doV d.w (Yn d o)).1,d.ops++[Yn d o],d.diags,d.status,if 0<(Yn d o).slot then (Yn d o).slot else d.slot⟩,0)
end
section
open CA CB
open Go.RowKit
theorem zbk (a b:List UInt8):Fun Tryz.prog G0 253 [.str a,.str b] (.sc (.int .i64 (Lib.compareBytes a b))) 0:=by
 refine Fun.wrap (by kernel_rfl) fun R vs h=>?_
 obtain ⟨v1,us1,rfl,h1,h⟩:=zd.1 h
 obtain ⟨v2,us2,rfl,h2,h⟩:=zd.1 h
 rw[zj]at h
 subst h
 rw[zV]at h1 h2
 subst h1 h2
 refine (Tryz.strings_Compare ⟨a.toArray⟩ ⟨b.toArray⟩ R.w).mono ?_
 rintro e w' ⟨rfl,rfl⟩
 exact ⟨_,rfl,Below.refl _ _,fun R' _=>zo.2 (by simp)⟩
section
variable {G:zq}
theorem v6 (e:z6) (n:List UInt8):Fun Tryz.prog G 252 [.agg (GP e),.str n] (.sc (.int .i64 (Lib.compareBytes e.name n))) 0:=by
 have h:=(zbk e.name n).glob0 (G':=G)
 refine fon Tryz.func252 ?_;dsimp only[Tryz.f252]
 push_cast -dsimp
 refine cl (h) ?_;push_cast -dsimp
 exact dn
theorem G3 (es:List z6) (n:List UInt8) (hl:es.length<=100000) (hR:qA jp z6.name es) :
  Fun Tryz.prog G 251 [.sl 2 (zI es),.str n,.clo (.func 252) [] []] (.tup [.sc (.int .i64 (ql jp z6.name n es:Nat)),.sc (.bool (JQ z6.name n es))]) 0:=by
 refine fon Tryz.func251 ?_;dsimp only[Tryz.f251]
 push_cast -dsimp
 refine loop (fun p:Nat×Nat=>⟨[(0,.sl 2 (zI es)),(1,.str n),(2,.clo (.func 252) [] []),(8,.sc (.int .i64 (es.length:Nat))),(9,.sc (.int .i64 p.1)),(10,.sc (.int .i64 p.2))],[],0,0⟩)
  (fun p=>p.1<=p.2/\p.2<=es.length/\(∀ t (h:t<es.length),t<p.1->(jp).lt (z6.name es[t]) n=true)/\∀ t (h:t<es.length),p.2<=t->(jp).lt (z6.name es[t]) n=false) (fun p=>p.2-p.1) (0,es.length) ⟨Nat.zero_le _,Nat.le_refl _,fun t _ h=>by (simp at h),fun t h h'=>by (dsimp only at h';omega)⟩ ?_ ?_
 ·exact wk (by push_cast -dsimp [zb,za,CLe,ze,List.length_map])
 ·rintro ⟨i,j⟩ ⟨h1,h2,h3,h4⟩
  dsimp only at h1 h2 h3 h4 ⊢
  by_cases h:i<j
  ·obtain ⟨m,hm⟩:∃ m,m=(i+j) / 2:=⟨_,rfl⟩
   have hmi:((i:Int)+(j:Int)) / 2=(m:Int):=by omega
   have hml:m<es.length:=by omega
   have hat:=Jt es m hml
   have hlt:=(zcO es[m].name n).to_iff
   push_cast -dsimp [h,hmi,hat]
   repeat refine an ?_
   refine cl ((v6 es[m] n)) ?_;push_cast -dsimp
   cases hc:(jp).lt (z6.name es[m]) n with
   | true =>
    have hcv:(Lib.compareBytes es[m].name n<0)=True:=eq_true (hlt.mpr hc)
    push_cast -dsimp [hcv]
    repeat refine an ?_
    refine ⟨(m+1,j),⟨by omega,h2,fun t ht hlt2=>?_,h4⟩,by dsimp only;omega,wk⟩
    dsimp only at hlt2
    rcases Nat.lt_or_ge t m with q | q
    ·exact (jp).tr ((List.pairwise_iff_getElem.1 hR) t m ht hml q) hc
    ·have:t=m:=by omega
     subst this;exact hc
   | false =>
    have hcv:(Lib.compareBytes es[m].name n<0)=False:=eq_false (fun e=>by have h7:(jp).lt (z6.name es[m]) n=true:=hlt.mp e;rw[hc]at h7;cases h7)
    push_cast -dsimp [hcv]
    repeat refine an ?_
    refine ⟨(i,m),⟨by omega,by omega,h3,fun t ht hge=>?_⟩,by dsimp only;omega,wk⟩
    dsimp only at hge
    rcases Nat.lt_or_ge m t with q | q
    ·cases h9:(jp).lt (z6.name es[t]) n with
     | false=>rfl
     | true=>have:=(jp).tr ((List.pairwise_iff_getElem.1 hR) m t hml ht q) h9;rw[hc]at this;cases this
    ·have:t=m:=by omega
     subst this;exact hc
  ·have hij:i=j:=by omega
   subst hij
   have hrk:=QO (o:=jp) (key:=z6.name) n es i h2 h3 h4
   push_cast -dsimp [h]
   refine br (fun hx=>?_) (fun hx=>?_)
   ·have hx:i<es.length:=by simpa using hx
    have hat:=Jt es i hx
    have hh:=xn n hR hrk hx
    push_cast -dsimp [hx,hat]
    repeat refine an ?_
    refine cl ((v6 es[i] n)) ?_;push_cast -dsimp
    have hcv:decide (Lib.compareBytes es[i].name n=0)=JQ z6.name n es:=by
     rw[hh]
     exact decide_eq_decide.2 (zfG es[i].name n).to_iff
    push_cast -dsimp [hcv]
    exact dn (by push_cast -dsimp [zb,za,CLe,ze,hrk])
   ·have hx:¬i<es.length:=by simpa using hx
    have hh:=GF n hR (by omega)
    push_cast -dsimp [hx]
    exact dn (by push_cast -dsimp [zb,za,CLe,ze,hrk,hh])
theorem yC (es:List z6) (n:List UInt8) (hl:es.length<=100000) (hR:JA es):Fun Tryz.prog G 231 [.sl 2 (zI es),.str n] (.tup [.sc (.int .i64 (ql jp z6.name n es:Nat)),.sc (.bool (JQ z6.name n es))]) 0:=by
 refine fon Tryz.func231 ?_;dsimp only[Tryz.f231]
 push_cast -dsimp
 refine cl (G3 es n hl hR) ?_;push_cast -dsimp
 exact dn
theorem zex (es:List z6) (n:List UInt8) (hl:es.length<=100000) (hR:JA es):Fun Tryz.prog G 228 [.sl 2 (zI es),.str n] (.tup [.sc (.int .i64 (jP n es)),.sc (.bool (VH n es))]) 0:=by
 obtain ⟨_,_,h3,h4⟩:=Vu n hR
 have h:=yC (G:=G) es n hl hR
 cases hh:JQ z6.name n es with
 | false =>
  have hf:jP n es=0:=by unfold jP;rw[(h4 hh).1]
  have he:VH n es=false:=hh
  rw[hh]at h
  refine fon Tryz.func228 ?_;dsimp only[Tryz.f228]
  push_cast -dsimp
  refine cl (h) ?_;push_cast -dsimp
  exact dn (by push_cast -dsimp [zb,za,CLe,ze,hf,he])
 | true =>
  obtain ⟨hlt,_,g2,_⟩:=h3 hh
  have hf:jP n es=es[ql jp z6.name n es].ino:=by unfold jP;rw[g2]
  have he:VH n es=true:=hh
  have hat:=Jt es _ hlt
  rw[hh]at h
  refine fon Tryz.func228 ?_;dsimp only[Tryz.f228]
  push_cast -dsimp
  refine cl (h) ?_;push_cast -dsimp [hat]
  repeat refine an ?_
  exact dn (by push_cast -dsimp [zb,za,CLe,ze,hf,he])
end
end
section
open CA CB
open Go.RowKit
section
variable {G:zq}
theorem qR {es:List z6}:∀ r∈zI es,r.length=2:=fun r hr=>by
 obtain ⟨x,_,rfl⟩:=List.mem_map.1 hr;rfl
theorem qW {es:List z6}:qV (zI es):=fun r hr=>by
 obtain ⟨x,_,rfl⟩:=List.mem_map.1 hr;rfl
theorem uw {k c i:Nat} {rows:List (List C)} (hk:∀ r∈rows,r.length=k) (hi:i<=rows.length):(qn k rows c).take (i*k)=(rows.take i).flatten:=by
 have hf:=qf hk
 have h1:i*k<=rows.length*k:=Nat.mul_le_mul_right _ hi
 unfold qn
 rw[List.take_append_of_le_length (by omega),QZ hk]
theorem zgU {es:List z6} {c r:Nat} {i:Int} (hr:r<es.length) :
  (qn 2 (zI es) c).take (r*2+1)++[C.sc (.int .i64 i)]++(qn 2 (zI es) c).drop (r*2+1+1)=qn 2 (zI (es.set r ⟨es[r].name,i⟩)) c:=by
 have hll:(zI es).length=es.length:=List.length_map ..
 have h:=ug (c:=c) (row:=GP ⟨es[r].name,i⟩) (i:=r) qR rfl (show r<(zI es).length by omega)
 have e1:(zI es).set r (GP ⟨es[r].name,i⟩)=zI (es.set r ⟨es[r].name,i⟩):=by simp[List.map_set]
 rw[e1]at h
 rw[←h]
 have t0:=uw (c:=c) (i:=r) (qR (es:=es)) (by omega)
 have t1:=uw (c:=c) (i:=r+1) (qR (es:=es)) (by omega)
 have e2:((zI es).take (r+1)).flatten=((zI es).take r).flatten++GP es[r]:=by
  rw[List.take_add_one,Jt es r hr];simp
 have e3:(qn 2 (zI es) c).take (r*2+1)=(qn 2 (zI es) c).take (r*2)++[C.str es[r].name]:=by
  have e4:(qn 2 (zI es) c).take (r*2+1)=((qn 2 (zI es) c).take ((r+1)*2)).take (r*2+1):=by rw[List.take_take,Nat.min_eq_left (by omega)]
  have hl0:((zI es).take r).flatten.length=r*2:=by
   rw[qf (k:=2) fun x hx=>qR x (List.mem_of_mem_take hx),List.length_take,hll,Nat.min_eq_left (by omega)]
  rw[e4,t1,e2,t0,List.take_append,hl0,List.take_of_length_le (by omega),show r*2+1-r*2=1 by omega]
  rfl
 rw[e3]
 simp
theorem VT (es:List z6) (n:List UInt8) (i:Int) (hl:es.length<=90000) (hR:JA es) :
  Fun Tryz.prog G 202 [.sl 2 (zI es),.str n,.sc (.int .i64 i)] (.own 0 108 2 (zI (zY n i es))) 1:=by
 obtain ⟨_,_,h3,h4⟩:=Vu n hR
 have hll:(zI es).length=es.length:=List.length_map ..
 have hat:=yC (G:=G) es n (by omega) hR
 have hrl:=QV (o:=jp) (key:=z6.name) n es
 refine foF (fun _=>[]) Tryz.func202 ?_;dsimp only[Tryz.f202]
 push_cast -dsimp
 refine cl (hat) ?_;push_cast -dsimp
 refine jo [] [] (zaR (zI es) qR qW (by omega)) rfl (by decide) (by decide) (by simp) (by push_cast -dsimp) (by push_cast -dsimp) (fun r bx' m hp=>?_)
 obtain ⟨rfl,⟨hne,c,h1,h2,rfl,rfl⟩ | ⟨he,⟨rfl,rfl⟩ | ⟨rfl,rfl⟩⟩⟩:=hp
 ·have hbl:=Jv qR h1
  have hre:∀ fp fo,C.reL fp fo (qn 2 (zI es) c)=qn 2 (zI es) c:=fun fp fo=>zl (zD qW)
  have hpos:=List.length_pos_iff.2 hne
  cases hh:JQ z6.name n es with
  | true =>
   obtain ⟨hlt,g1,g2,g3,g4⟩:=h3 hh
   have hset:zY n i es=es.set (ql jp z6.name n es) ⟨n,i⟩:=g4 ⟨n,i⟩ rfl
   have hbs:=zgU (c:=c) (i:=i) hlt
   rw[g1,←hset]at hbs
   have hwl:(zY n i es).length=es.length:=by rw[hset,List.length_set]
   push_cast -dsimp [hh,hre]
   rw[hbs]
   refine ⟨by omega,by omega,by rw[hbl];omega,[(1,108,2,zI (zY n i es),c)],[.inl 0],zy rfl (by omega) (by rw[List.length_map,hwl];omega) h2 qR qW,rfl,rfl,?_⟩
   rw[hll,←hwl]
   push_cast -dsimp [zb,za,CLe,ze,show (zI (zY n i es)).length=(zY n i es).length from List.length_map ..]
  | false =>
   have hw:zY n i es=es.take (ql jp z6.name n es)++⟨n,i⟩ :: es.drop (ql jp z6.name n es):=by
    unfold zY
    rw[(h4 hh).2.1]
    exact (h4 hh).2.2 ⟨n,i⟩ rfl
   have hset:zI (zY n i es)=(zI es).take (ql jp z6.name n es)++GP ⟨n,i⟩ :: (zI es).drop (ql jp z6.name n es):=by rw[hw];simp
   have hsl:(zI (zY n i es)).length=(zI es).length+1:=by rw[hset];simp;omega
   push_cast -dsimp [hh,hre]
   refine jo [1] [0] (vk (e:=108) (zI es) (GP ⟨n,i⟩) (ql jp z6.name n es) c qR rfl qW rfl (by omega) (by omega) h1 h2) rfl (by decide) (by decide) (by simp) (by push_cast -dsimp) (by push_cast -dsimp [hre]) (fun r bx' m hp=>?_)
   rw[←hset]at hp
   have hre2:∀ fp fo c,C.reL fp fo (qn 2 (zI (zY n i es)) c)=qn 2 (zI (zY n i es)) c:=fun fp fo c=>zl (zD qW)
   obtain ⟨rfl,c',g1,g2,⟨rfl,rfl⟩ | ⟨rfl,rfl⟩⟩:=hp
   ·push_cast -dsimp [hre2,hre]
    exact ⟨[(1,108,2,zI (zY n i es),c')],[.inl 1],zy rfl (by omega) g1 g2 qR qW,rfl,rfl,by push_cast -dsimp [zb,za,CLe,ze]⟩
   ·have hra:∀ fp fo,C.reL fp fo (List.replicate (c*2) .any)=List.replicate (c*2) .any:=fun fp fo=>zl (by simp[List.all_replicate,C.stayB])
    push_cast -dsimp [hre2,hre,hra]
    exact ⟨[(2,108,2,zI (zY n i es),c')],[.inl 1],zy rfl (by omega) g1 g2 qR qW,rfl,rfl,by push_cast -dsimp [zb,za,CLe,ze]⟩
 ·have he:es = []:=by simpa using he
  have hh:JQ z6.name n es=false:=by rw[he];rfl
  have hr0:ql jp z6.name n es=0:=by rw[he];rfl
  have hset:zY n i es = [⟨n,i⟩]:=by rw[he];rfl
  push_cast -dsimp [hh,hr0]
  refine jo [] [0] (zhr (e:=108) (GP ⟨n,i⟩) rfl rfl) rfl (by decide) (by decide) (by simp) (by push_cast -dsimp) (by push_cast -dsimp) (fun r bx' m hp=>?_)
  obtain ⟨rfl,c,g1,g2,rfl,rfl⟩:=hp
  have hre:∀ fp fo,C.reL fp fo (qn 2 [GP ⟨n,i⟩] c)=qn 2 [GP ⟨n,i⟩] c:=fun fp fo=>zl (zD (qW (es:=[⟨n,i⟩])))
  push_cast -dsimp [hre]
  exact ⟨[(0,108,2,zI [⟨n,i⟩],c)],[.inl 1],zy rfl (by omega) g1 g2 qR qW,rfl,rfl,by push_cast -dsimp [zb,za,CLe,ze,hset]⟩
 ·have he:es = []:=by simpa using he
  have hh:JQ z6.name n es=false:=by rw[he];rfl
  have hr0:ql jp z6.name n es=0:=by rw[he];rfl
  have hset:zY n i es = [⟨n,i⟩]:=by rw[he];rfl
  push_cast -dsimp [hh,hr0]
  refine jo [0] [0] (vk (e:=108) [] (GP ⟨n,i⟩) 0 0 (fun r hr=>by cases hr) rfl (fun r hr=>by cases hr) rfl (by simp) (by simp) (by simp) (by simp)) rfl (by decide) (by decide) (by simp) (by push_cast -dsimp) (by push_cast -dsimp [qn]) (fun r bx' m hp=>?_)
  obtain ⟨rfl,c,g1,g2,hp⟩:=hp
  have hre:∀ fp fo,C.reL fp fo (qn 2 [GP ⟨n,i⟩] c)=qn 2 [GP ⟨n,i⟩] c:=fun fp fo=>zl (zD (qW (es:=[⟨n,i⟩])))
  rcases hp with ⟨rfl,rfl⟩ | ⟨rfl,rfl⟩
  ·push_cast -dsimp [hre]
   exact ⟨[(0,108,2,zI [⟨n,i⟩],c)],[.inl 1],zy rfl (Nat.lt_of_lt_of_le (Nat.zero_lt_succ _) g1) g1 g2 qR qW,rfl,rfl,by push_cast -dsimp [zb,za,CLe,ze,hset]⟩
  ·push_cast -dsimp [hre]
   exact ⟨[(1,108,2,zI [⟨n,i⟩],c)],[.inl 1],zy rfl (Nat.lt_of_lt_of_le (Nat.zero_lt_succ _) g1) g1 g2 qR qW,rfl,rfl,by push_cast -dsimp [zb,za,CLe,ze,hset]⟩
end
end
section
open CA CB
open Go.RowKit
section
variable {G:zq}
theorem zkM {A B Z:List C} {r k:Nat} (hA:A.length=r*2) (hB:B.length=(k-r)*2) (hZ:Z.length=k*2) (hr:r<=k):spl (A++Z.drop (r*2)) (r*2) (B.take ((k-r)*2))=A++B:=by
 unfold spl
 rw[List.take_of_length_le (l:=B) (by omega),List.take_append_of_le_length (by omega),List.take_of_length_le (l:=A) (by omega),List.drop_of_length_le (l:=A++Z.drop (r*2)) (by rw[List.length_append,List.length_drop];omega),List.append_nil]
theorem Z7 (es:List z6) (n:List UInt8) (hl:es.length<=90000) (hR:JA es) (hh:JQ z6.name n es=true) :
  Fun Tryz.prog G 204 [.sl 2 (zI es),.str n] (.own 0 108 2 (zI (zh n es))) 1:=by
 obtain ⟨_,_,h3,h4⟩:=Vu n hR
 have hll:(zI es).length=es.length:=List.length_map ..
 have hat:=yC (G:=G) es n (by omega) hR
 have hrl:=QV (o:=jp) (key:=z6.name) n es
 rw[hh]at hat
 obtain ⟨hlt,g1,g2,g3,g4⟩:=h3 hh
 have hw:zh n es=es.take (ql jp z6.name n es)++es.drop (ql jp z6.name n es+1):=g3
 obtain ⟨k,hk⟩:∃ k,es.length=k+1:=⟨es.length-1,by omega⟩
 have hkc:(zI es).length=k+1:=by omega
 have hn:((zI es).length:Int)-1=(k:Int):=by omega
 have hwl:(zh n es).length=k:=by rw[hw];simp;omega
 generalize ql jp z6.name n es=r at *
 have hm:min r k=r:=by omega
 rcases Nat.eq_zero_or_pos k with h1 | h1
 ·subst h1
  obtain rfl:r=0:=by omega
  have hn:((zI es).length:Int)-1=0:=hn
  have hwe:zh n es = []:=List.length_eq_zero_iff.1 hwl
  refine fof (fun i=>if i=5 then Vf [(0,.pure),(1,.pure),(2,.pure),(3,.pure),(4,.pure),(7,.pure),(8,.pure),(9,.pure),(10,.pure),(5,.flt [0,5,6,7,8]),(6,.pure),(11,.bar)] else []) Tryz.func204 ?_;dsimp only[Tryz.f204]
  push_cast -dsimp
  refine cl (hat) ?_;push_cast -dsimp [hn,Int.toNat_zero]
  refine ⟨by omega,by omega,znX (m:=0) (xs:=[]) Qi J9 rfl rfl (fun _ _ _ _ _ h=>by cases h) rfl ?_⟩
  push_cast -dsimp
  have hd:(zI es).drop 1 = []:=List.drop_of_length_le (by omega)
  rw[hd]
  refine ⟨⟨by split<;>first | omega | trivial,by split<;>first | omega | trivial⟩,znX (m:=0) (xs:=[]) Qi J9 rfl rfl (fun _ _ _ _ _ h=>by cases h) rfl ?_⟩
  push_cast -dsimp
  exact ⟨[.inl 0],rfl,rfl,by push_cast -dsimp [zb,za,CLe,ze,hwe]⟩
 ·refine foF (fun i=>if i=5 then Vf [(0,.pure),(1,.pure),(2,.pure),(3,.pure),(4,.pure),(7,.pure),(8,.pure),(9,.pure),(10,.pure),(5,.flt [0,5,6,7,8]),(6,.pure),(11,.bar)] else if i=1000000+73 then [true,true] else []) Tryz.func204 ?_;dsimp only[Tryz.f204]
  push_cast -dsimp
  refine cl (hat) ?_;push_cast -dsimp [hn,Int.toNat_natCast]
  have hA:((zI es).take r).flatten.length=r*2:=by
   rw[qf (k:=2) fun x hx=>qR x (List.mem_of_mem_take hx),List.length_take,hkc,Nat.min_eq_left (by omega)]
  have hB:((zI es).drop (r+1)).flatten.length=(k-r)*2:=by
   rw[qf (k:=2) fun x hx=>qR x (List.mem_of_mem_drop hx),List.length_drop,hkc];omega
  have hZ:((List.replicate k [C.str [],C.sc (.int .i64 0)]).flatten).length=k*2:=by simp
  refine ⟨⟨by omega,by omega⟩,by omega,by omega,by omega,by omega,⟨by omega,by omega⟩,⟨by omega,by omega⟩,⟨by omega,by omega⟩,zb8 (m:=r) (xs:=((zI es).take r).flatten) Qi J9 (by simp[C.xs?,C.rows?,hkc];omega) rfl hA (by rw[hZ];omega) ?_⟩
  rw[hm]
  push_cast -dsimp
  have hS:spl (List.replicate k [C.str [],C.sc (.int .i64 0)]).flatten 0 (((zI es).take r).flatten.take (r*2))=((zI es).take r).flatten++((List.replicate k [C.str [],C.sc (.int .i64 0)]).flatten).drop (r*2):=by
   unfold spl
   rw[List.take_zero,List.nil_append,Nat.zero_add,List.take_of_length_le (by omega),hA]
  have hm2:min (k-r) (k-r)=k-r:=Nat.min_self _
  rw[hS]
  refine ⟨⟨by split<;>first | exact ⟨by omega,by omega⟩ | trivial,by split<;>first | exact ⟨by omega,by omega⟩ | trivial,by split<;>first | exact ⟨by omega,by omega⟩ | trivial⟩,Nat.le_refl _,⟨by omega,by omega⟩,zb8 (m:=k-r) (xs:=((zI es).drop (r+1)).flatten) Qi J9 (by simp[C.xs?,C.rows?,hkc]) rfl hB (by rw[List.length_append,List.length_drop,hA,hZ];omega) ?_⟩
  rw[hm2]
  push_cast -dsimp
  have hwc:(zI (zh n es)).length=k:=(List.length_map ..).trans hwl
  have hF:spl (((zI es).take r).flatten++((List.replicate k [C.str [],C.sc (.int .i64 0)]).flatten).drop (r*2)) (r*2) (((zI es).drop (r+1)).flatten.take ((k-r)*2))=qn 2 (zI (zh n es)) k:=by
   rw[zkM hA hB hZ (by omega)]
   unfold qn
   rw[hwc,Nat.sub_self,Nat.zero_mul,hw]
   simp
  rw[hF]
  refine ⟨[(0,108,2,zI (zh n es),k)],[.inl 0],zy rfl h1 (by omega) (by omega) qR qW,rfl,rfl,?_⟩
  push_cast -dsimp [zb,za,CLe,ze,hwc]
end
end
section
theorem Q0 (n:Int) (xs:List zA):zG n xs=(YX n xs).isSome:=by
 unfold zG YX
 induction xs with
 | nil=>rfl
 | cons y r ih =>
  rw[List.any_cons,List.find?_cons]
  cases h:(y.ino==n) with
  | true=>rfl
  | false=>rw[Bool.false_or,ih]
theorem Gx {n:Int} {xs:List zA} {x:zA} (h:YX n xs=some x):x.ino=n/\x∈xs:=by
 unfold YX at h
 have h1:=List.find?_some h
 exact ⟨by simpa using h1,List.mem_of_find?_eq_some h⟩
theorem ud (n:Int) (x:zA):∀ xs:List zA,(∀ z∈xs,z.ino≠x.ino)->YX n (Zp x xs)=if x.ino=n then some x else YX n xs
 | [],_=>by
  unfold Zp YX
  by_cases h:x.ino=n<;>simp[h]
 | y :: r,hn=>by
  have hy:=hn y List.mem_cons_self
  have ih:=ud n x r fun z hz=>hn z (List.mem_cons_of_mem _ hz)
  unfold YX at ih ⊢
  unfold Zp
  split
  ·by_cases h:x.ino=n
   ·simp[h]
   ·simp[h,List.find?_cons]
  ·by_cases h:x.ino=n
   ·rw[if_pos h]at ih ⊢
    have hyn:(y.ino==n)=false:=by simp;omega
    rw[List.find?_cons,hyn];exact ih
   ·rw[if_neg h]at ih ⊢
    rw[List.find?_cons,List.find?_cons,ih]
theorem Zn (n m:Int):∀ xs:List zA,YX n (qk m xs)=if n=m then none else YX n xs
 | []=>by unfold YX qk;simp
 | y :: r=>by
  have ih:=Zn n m r
  by_cases hy:y.ino=m
  ·rw[Jb hy,ih]
   by_cases h:n=m
   ·rw[if_pos h,if_pos h]
   ·rw[if_neg h,if_neg h]
    have hyn:(y.ino==n)=false:=by simp;omega
    unfold YX
    rw[List.find?_cons,hyn]
  ·rw[JD hy]
   unfold YX at ih ⊢
   rw[List.find?_cons,List.find?_cons,ih]
   by_cases h:n=m
   ·have hyn:(y.ino==n)=false:=by simp;omega
    simp only[hyn,if_pos h]
   ·simp only[if_neg h]
theorem zj5 {n:Int} {xs:List zA}:∀ z∈qk n xs,z.ino≠n:=fun z hz=>by
 unfold qk at hz
 simpa using (List.mem_filter.1 hz).2
theorem uB (n:Int) (x:zA) (xs:List zA):YX n (qF x xs)=if x.ino=n then some x else YX n xs:=by
 unfold qF
 rw[ud n x _ zj5,Zn]
 by_cases h:x.ino=n
 ·rw[if_pos h,if_pos h]
 ·rw[if_neg h,if_neg h,if_neg (fun e=>h e.symm)]
theorem jZ (n:Int) (x:zA) (xs:List zA):zG n (qF x xs)=(decide (x.ino=n)||zG n xs):=by
 rw[Q0,uB,Q0]
 by_cases h:x.ino=n<;>simp[h]
theorem Up (n m:Int) (xs:List zA):zG n (qk m xs)=(!decide (n=m)&&zG n xs):=by
 rw[Q0,Zn,Q0]
 by_cases h:n=m<;>simp[h]
theorem MA {x:zA}:∀ {xs:List zA},qc xs->YX x.ino xs=some x->qF x xs=xs
 | [],_,h=>by unfold YX at h;simp at h
 | y :: r,hR,h=>by
  obtain ⟨h1,h2⟩:=jI.1 hR
  by_cases hy:y.ino=x.ino
  ·have e:y=x:=by
    unfold YX at h
    rw[List.find?_cons_of_pos (by simpa using hy)]at h
    simpa using h
   subst e
   have hb:zG y.ino r=false:=ZQ h1
   unfold qF
   rw[Jb rfl,XZ hb,zc2 h1]
  ·have hx:YX x.ino r=some x:=by
    unfold YX at h ⊢
    rwa [List.find?_cons_of_neg (by simpa using hy)]at h
   have hlt:=h1 x (Gx hx).2
   rw[QA hlt,MA h2 hx]
theorem zjS {xs:List zA}:∀ {x:zA},qc xs->(x∈xs↔YX x.ino xs=some x):=by
 induction xs with
 | nil=>intro x _;simp[YX]
 | cons y r ih =>
  intro x hR
  obtain ⟨h1,h2⟩:=jI.1 hR
  constructor
  ·intro hx
   rcases List.mem_cons.1 hx with rfl | hx
   ·unfold YX;rw[List.find?_cons_of_pos (by simp)]
   ·have:=h1 x hx
    unfold YX
    rw[List.find?_cons_of_neg (by simp;omega)]
    exact (ih h2).1 hx
  ·intro h;exact (Gx h).2
def MY (g:zA->Nat) (xs:List zA):Nat:=(xs.map g).sum
theorem Uy (g:zA->Nat) {n:Int}:∀ {xs:List zA},qc xs->MY g xs=MY g (qk n xs)+(match YX n xs with | some x=>g x | none=>0)
 | [],_=>rfl
 | y :: r,hR=>by
  obtain ⟨h1,h2⟩:=jI.1 hR
  have ih:=Uy g (n:=n) h2
  unfold MY at ih ⊢
  by_cases hy:y.ino=n
  ·have hb:zG n r=false:=ZQ fun z hz=>by have:=h1 z hz;omega
   have hg:YX n (y :: r)=some y:=by unfold YX;rw[List.find?_cons_of_pos (by simpa using hy)]
   rw[hg,Jb hy,XZ hb]
   simp;omega
  ·have hg:YX n (y :: r)=YX n r:=by unfold YX;rw[List.find?_cons_of_neg (by simpa using hy)]
   rw[hg,JD hy]
   simp only[List.map_cons,List.sum_cons]
   omega
theorem vO (g:zA->Nat) (x:zA):∀ xs:List zA,MY g (Zp x xs)=MY g xs+g x
 | []=>by unfold Zp MY;simp
 | y :: r=>by
  have ih:=vO g x r
  unfold MY at ih ⊢
  unfold Zp
  split
  ·simp;omega
  ·simp only[List.map_cons,List.sum_cons];omega
theorem vn (g:zA->Nat) {x:zA} {xs:List zA} (hR:qc xs):MY g (qF x xs)+(match YX x.ino xs with | some y=>g y | none=>0)=MY g xs+g x:=by
 unfold qF
 rw[vO,Uy g (n:=x.ino) hR]
 omega
end
section
def JV (n:Int) (x:zA):Nat:=(x.es.filter fun e=>decide (e.ino=n)).length
def JM (n:Int) (xs:List zA):Nat:=MY (JV n) xs
structure FsI (f:FsV):Prop where
 rises:qc f.xs
 ino:∀ x∈f.xs,1<=x.ino/\x.ino<f.next
 kind:∀ x∈f.xs,x.kind=1∨x.kind=2∨x.kind=3
 es:∀ x∈f.xs,JA x.es
 file:∀ x∈f.xs,x.kind≠2->x.es = []
 led:∀ x∈f.xs,∀ e∈x.es,zG e.ino f.xs=true
 links:∀ x∈f.xs,x.links=(JM x.ino f.xs:Int)
 root:zG 1 f.xs=true
 base:(zg 1 f.xs).kind=2
 bare:JM 1 f.xs=0
theorem zm {n:Int} {xs:List zA} (h:zG n xs=true):YX n xs=some (zg n xs)/\zg n xs∈xs/\(zg n xs).ino=n:=by
 rw[Q0]at h
 obtain ⟨x,hx⟩:=Option.isSome_iff_exists.1 h
 have e:zg n xs=x:=by unfold zg;rw[hx];rfl
 obtain ⟨h1,h2⟩:=Gx hx
 rw[e]
 exact ⟨hx,h2,h1⟩
theorem zcV {n:Int} {xs:List zA} (h:zG n xs=false):YX n xs=none/\zg n xs=zki:=by
 have h1:=Gm h
 exact ⟨h1,by unfold zg;rw[h1];rfl⟩
theorem QH (n:Int) (x:zA) (xs:List zA):zg n (qF x xs)=if x.ino=n then x else zg n xs:=by
 unfold zg
 rw[uB]
 split<;>rfl
theorem zcx (n m:Int) (xs:List zA):zg n (qk m xs)=if n=m then zki else zg n xs:=by
 unfold zg
 rw[Zn]
 split<;>rfl
theorem jJ {x z:zA} {xs:List zA}:z∈qF x xs↔z=x∨(z∈xs/\z.ino≠x.ino):=by
 unfold qF
 rw[yK]
 unfold qk
 simp
theorem Ul {n:Int} {z:zA} {xs:List zA}:z∈qk n xs↔z∈xs/\z.ino≠n:=by
 unfold qk
 simp
theorem vA {α κ:Type} [DecidableEq κ] {o:zju κ} {key:α->κ} (p:α->Bool) (x:α):∀ xs:List α,((Xc o key x xs).filter p).length=(xs.filter p).length+if p x then 1 else 0
 | []=>by unfold Xc;cases h:p x<;>simp[h]
 | y :: r=>by
  have ih:=vA (o:=o) (key:=key) p x r
  unfold Xc
  split
  ·cases h:p x<;>simp[h,List.filter_cons]
  ·rw[List.filter_cons,List.filter_cons]
   cases h:p y
   ·simpa using ih
   ·simp[ih];omega
theorem zb9 {α κ:Type} [DecidableEq κ] {o:zju κ} {key:α->κ} (p:α->Bool) {n:κ} {xs:List α} (hR:qA o key xs) {e:α} (h:Jm key n xs=some e):(xs.filter p).length=((JJ key n xs).filter p).length+if p e then 1 else 0:=by
 obtain ⟨_,_,h3,h4⟩:=Vu n hR
 cases hh:JQ key n xs with
 | false=>rw[(h4 hh).1]at h;cases h
 | true =>
  obtain ⟨g,_,g2,g3,_⟩:=h3 hh
  rw[g2]at h
  simp only[Option.some.injEq]at h
  have e0:xs=xs.take (ql o key n xs)++e :: xs.drop (ql o key n xs+1):=by
   rw[←h,←List.drop_eq_getElem_cons g,List.take_append_drop]
  rw[g3]
  conv=>lhs;rw[e0]
  rw[List.filter_append,List.filter_append,List.filter_cons]
  cases hp:p e<;>simp<;>omega
theorem j8 {α κ:Type} [DecidableEq κ] {key:α->κ} {n:κ} {xs:List α} {e:α} (h:Jm key n xs=some e):key e=n/\e∈xs:=by
 unfold Jm at h
 exact ⟨by have:=List.find?_some h;simpa using this,List.mem_of_find?_eq_some h⟩
theorem jz {α κ:Type} [DecidableEq κ] {key:α->κ} {n:κ} {xs:List α}:JQ key n xs=(Jm key n xs).isSome:=by
 unfold JQ Jm
 induction xs with
 | nil=>rfl
 | cons y r ih =>
  rw[List.any_cons,List.find?_cons]
  cases h:decide (key y=n) with
  | true=>rfl
  | false=>rw[Bool.false_or,ih]
theorem Uq {n m:Int} {x:zA} {xs:List zA} (hR:qc xs) (hh:zG n xs=true) (hx:x.ino=n):JM m (qF x xs)+JV m (zg n xs)=JM m xs+JV m x:=by
 have h:=vn (JV m) (x:=x) hR
 rw[hx,(zm hh).1]at h
 exact h
theorem zde {m:Int} {x:zA} {xs:List zA} (hR:qc xs) (hh:zG x.ino xs=false):JM m (qF x xs)=JM m xs+JV m x:=by
 have h:=vn (JV m) (x:=x) hR
 rw[(zcV hh).1]at h
 exact h
theorem ziU {n m:Int} {xs:List zA} (hR:qc xs) (hh:zG n xs=true):JM m xs=JM m (qk n xs)+JV m (zg n xs):=by
 have h:=Uy (JV m) (n:=n) hR
 rw[(zm hh).1]at h
 exact h
theorem zh9 {n:Int} {xs:List zA} (h:∀ x∈xs,∀ e∈x.es,e.ino≠n):JM n xs=0:=by
 unfold JM MY
 rw[List.sum_eq_zero_iff_forall_eq_nat]
 intro k hk
 obtain ⟨x,hx,rfl⟩:=List.mem_map.1 hk
 unfold JV
 rw[List.length_eq_zero_iff,List.filter_eq_nil_iff]
 intro e he
 simpa using h x hx e he
theorem uy {n:Int} {xs:List zA} (h:JM n xs=0):∀ x∈xs,∀ e∈x.es,e.ino≠n:=fun x hx e he hn=>by
 unfold JM MY at h
 rw[List.sum_eq_zero_iff_forall_eq_nat]at h
 have:=h _ (List.mem_map_of_mem hx)
 unfold JV at this
 rw[List.length_eq_zero_iff,List.filter_eq_nil_iff]at this
 exact this e he (by simpa using hn)
theorem Zo {m i:Int} {n:List UInt8} {es:List z6} {x:zA} (hR:JA es) (h:VH n es=false):JV m { x with es:=zY n i es }=JV m { x with es:=es }+if i=m then 1 else 0:=by
 obtain ⟨_,_,_,h4⟩:=Vu n hR
 unfold zY JV
 rw[(h4 h).2.1]
 show ((Xc jp z6.name ⟨n,i⟩ es).filter _).length=_
 rw[vA]
 by_cases hi:i=m<;>simp[hi]
theorem Vr {m i:Int} {n:List UInt8} {es:List z6} {x:zA} (hR:JA es) (h:Jm z6.name n es=some ⟨n,i⟩):JV m { x with es:=es }=JV m { x with es:=zh n es }+if i=m then 1 else 0:=by
 unfold zh JV
 have:=zb9 (fun e:z6=>decide (e.ino=m)) hR h
 simp only at this ⊢
 rw[this]
 by_cases hi:i=m<;>simp[hi]
theorem Zg {n:List UInt8} {es:List z6} (h:VH n es=true):Jm z6.name n es=some ⟨n,jP n es⟩:=by
 unfold VH at h
 rw[jz]at h
 obtain ⟨e,he⟩:=Option.isSome_iff_exists.1 h
 have h1:=(j8 he).1
 unfold jP
 rw[he]
 cases e with
 | mk a b=>simp at h1 ⊢;exact h1
theorem ZH {n:List UInt8} {i:Int} {es:List z6} (h:JA es):JA (zY n i es):=UW (x:=(⟨n,i⟩:z6)) h
theorem JP {n:List UInt8} {es:List z6} (h:JA es):JA (zh n es):=Un n h
theorem VC {n:List UInt8} {i:Int} {es:List z6} {e:z6} (h:e∈zY n i es):e=⟨n,i⟩∨e∈es:=by
 unfold zY at h
 rcases Zm.1 h with h | h
 ·exact .inl h
 ·exact .inr (UU.1 h).1
theorem J2 {n:List UInt8} {es:List z6} {e:z6} (h:e∈zh n es):e∈es/\e.name≠n:=UU.1 h
end
section
structure XB (f:FsV) (s:qM):Prop where
 has:zG s.dir f.xs=true
 kind:(zg s.dir f.xs).kind=2
 free:VH s.name (zg s.dir f.xs).es=false
structure qh (f:FsV) (s:qM):Prop where
 has:zG s.dir f.xs=true
 kind:(zg s.dir f.xs).kind=2
 there:Jm z6.name s.name (zg s.dir f.xs).es=some ⟨s.name,s.ino⟩
theorem qh.ino {f:FsV} {s:qM} (hf:FsI f) (h:qh f s):zG s.ino f.xs=true:=by
 have:=hf.led _ (zm h.has).2.1 ⟨s.name,s.ino⟩ (j8 h.there).2
 exact this
abbrev qq (d:zA) (es:List z6):zA:={ d with es:=es }
theorem jR {xs:List zA} {n:Int} {F:List z6->List z6} (hh:zG n xs=true) {z:zA}:z∈qI n F xs↔z=qq (zg n xs) (F (zg n xs).es)∨(z∈xs/\z.ino≠n):=by
 unfold qI
 rw[jJ]
 show z=qq _ _∨(z∈xs/\z.ino≠(zg n xs).ino)↔_
 rw[(zm hh).2.2]
theorem qg {xs:List zA} {n m:Int} {F:List z6->List z6} (hh:zG n xs=true):zG m (qI n F xs)=zG m xs:=by
 unfold qI
 rw[jZ]
 show (decide ((zg n xs).ino=m)||zG m xs)=_
 rw[(zm hh).2.2]
 by_cases h:n=m
 ·subst h;rw[hh];simp
 ·simp[h]
theorem J1 {xs:List zA} {n m:Int} {F:List z6->List z6} (hh:zG n xs=true):zg m (qI n F xs)=if n=m then qq (zg n xs) (F (zg n xs).es) else zg m xs:=by
 unfold qI
 rw[QH]
 show (if (zg n xs).ino=m then _ else _)=_
 rw[(zm hh).2.2]
theorem ZV {xs:List zA} {n m:Int} {F:List z6->List z6} (hR:qc xs) (hh:zG n xs=true):JM m (qI n F xs)+JV m (zg n xs)=JM m xs+JV m (qq (zg n xs) (F (zg n xs).es)):=
 Uq hR hh (zm hh).2.2
theorem zhD {f:FsV} (hf:FsI f):zG f.next f.xs=false/\∀ x∈f.xs,∀ e∈x.es,e.ino≠f.next:=by
 have h1:zG f.next f.xs=false:=by
  rw[Bool.eq_false_iff]
  intro h
  have:=(hf.ino _ (zm h).2.1).2
  rw[(zm h).2.2]at this
  omega
 refine ⟨h1,fun x hx e he hn=>?_⟩
 have:=hf.led x hx e he
 rw[hn,h1]at this
 cases this
theorem zbW {f:FsV} (hf:FsI f):1<f.next:=by
 have:=(hf.ino _ (zm hf.root).2.1).2
 rw[(zm hf.root).2.2]at this
 exact this
theorem zkV {f:FsV} (hf:FsI f) {s:qM} (hs:XB f s) (k:Int) (hk:k=1∨k=2∨k=3) (t:List UInt8):FsI (zaB f s k t):=by
 obtain ⟨n1,n2⟩:=zhD hf
 have hd:=(zm hs.has).2.1
 have hR1:qc (qI s.dir (zY s.name f.next) f.xs):=qd hf.rises
 have hn1:zG f.next (qI s.dir (zY s.name f.next) f.xs)=false:=by rw[qg hs.has];exact n1
 have hlt:=zbW hf
 have hdn:s.dir≠f.next:=fun e=>by have:=hs.has;rw[e,n1]at this;cases this
 refine ⟨qd hR1,fun x hx=>?_,fun x hx=>?_,fun x hx=>?_,fun x hx hk2=>?_,fun x hx e he=>?_,fun x hx=>?_,?_,?_,?_⟩
 ·rcases jJ.1 hx with rfl | ⟨hx,_⟩
  ·exact ⟨by show 1<=f.next;omega,by show f.next<f.next+1;omega⟩
  ·rcases (jR hs.has).1 hx with rfl | ⟨hx,_⟩
   ·have:=hf.ino _ hd
    exact ⟨this.1,by show (zg s.dir f.xs).ino<f.next+1;omega⟩
   ·have:=hf.ino _ hx
    exact ⟨this.1,by show x.ino<f.next+1;omega⟩
 ·rcases jJ.1 hx with rfl | ⟨hx,_⟩
  ·exact hk
  ·rcases (jR hs.has).1 hx with rfl | ⟨hx,_⟩
   ·exact .inr (.inl hs.kind)
   ·exact hf.kind _ hx
 ·rcases jJ.1 hx with rfl | ⟨hx,_⟩
  ·exact List.Pairwise.nil
  ·rcases (jR hs.has).1 hx with rfl | ⟨hx,_⟩
   ·exact ZH (hf.es _ hd)
   ·exact hf.es _ hx
 ·rcases jJ.1 hx with rfl | ⟨hx,_⟩
  ·rfl
  ·rcases (jR hs.has).1 hx with rfl | ⟨hx,_⟩
   ·exact absurd hs.kind hk2
   ·exact hf.file _ hx hk2
 ·show zG e.ino (qF _ _)=true
  rw[jZ,qg hs.has]
  show (decide (f.next=e.ino)||zG e.ino f.xs)=true
  rcases jJ.1 hx with rfl | ⟨hx,_⟩
  ·cases he
  ·rcases (jR hs.has).1 hx with rfl | ⟨hx,_⟩
   ·rcases VC he with rfl | he
    ·simp
    ·rw[hf.led _ hd e he,Bool.or_true]
   ·rw[hf.led _ hx e he,Bool.or_true]
 ·show x.links=(JM x.ino (qF _ _):Int)
  rw[zde hR1 hn1]
  have hc:=ZV (m:=x.ino) (F:=zY s.name f.next) hf.rises hs.has
  have hw:=Zo (m:=x.ino) (i:=f.next) (x:=zg s.dir f.xs) (hf.es _ hd) hs.free
  have hz:JV x.ino (⟨f.next,k,1,t,if k=2 then s.dir else 0,[]⟩:zA)=0:=rfl
  have hw:JV x.ino (qq (zg s.dir f.xs) (zY s.name f.next (zg s.dir f.xs).es))=JV x.ino (zg s.dir f.xs)+if f.next=x.ino then 1 else 0:=hw
  rw[hz]
  rcases jJ.1 hx with rfl | ⟨hx,hxn⟩
  ·have h0:JM f.next f.xs=0:=zh9 n2
   have hw:JV f.next (qq (zg s.dir f.xs) (zY s.name f.next (zg s.dir f.xs).es))=JV f.next (zg s.dir f.xs)+if f.next=f.next then 1 else 0:=hw
   rw[if_pos rfl]at hw
   show (1:Int)=((JM f.next (qI s.dir (zY s.name f.next) f.xs)+0:Nat):Int)
   have hc:JM f.next (qI s.dir (zY s.name f.next) f.xs)+JV f.next (zg s.dir f.xs)=JM f.next f.xs+JV f.next (qq (zg s.dir f.xs) (zY s.name f.next (zg s.dir f.xs).es)):=hc
   omega
  ·have hxn:x.ino≠f.next:=hxn
   rw[if_neg fun e=>hxn e.symm]at hw
   have hl:x.links=(JM x.ino f.xs:Int):=by
    rcases (jR hs.has).1 hx with rfl | ⟨hx,_⟩
    ·exact hf.links (zg s.dir f.xs) hd
    ·exact hf.links _ hx
   omega
 ·show zG 1 (qF _ _)=true
  rw[jZ,qg hs.has,hf.root,Bool.or_true]
 ·show (zg 1 (qF _ _)).kind=2
  rw[QH]
  rw[if_neg (show ¬f.next=1 by omega),J1 hs.has]
  split
  ·exact hs.kind
  ·exact hf.base
 ·show JM 1 (qF _ _)=0
  rw[zde hR1 hn1]
  have hc:=ZV (m:=1) (F:=zY s.name f.next) hf.rises hs.has
  have hw:JV 1 (qq (zg s.dir f.xs) (zY s.name f.next (zg s.dir f.xs).es))=JV 1 (zg s.dir f.xs)+if f.next=1 then 1 else 0:=Zo (m:=1) (i:=f.next) (x:=zg s.dir f.xs) (hf.es (zg s.dir f.xs) hd) hs.free
  have hz:JV 1 (⟨f.next,k,1,t,if k=2 then s.dir else 0,[]⟩:zA)=0:=rfl
  have:=hf.bare
  rw[if_neg (show ¬f.next=1 by omega)]at hw
  omega
theorem znr {f:FsV} (hf:FsI f) {s:qM} (hs:XB f s) (k:Int) (hk:k=1∨k=2∨k=3) (t:List UInt8):FsI (Zq f s k t).1:=by
 unfold Zq
 by_cases h1:may s.name=true
 ·rw[if_pos h1]
  by_cases h2:Jq f 1 (if k=1 then (t.length:Int) else 0)=true
  ·rw[if_pos h2];exact zkV hf hs k hk t
  ·rw[if_neg h2];exact hf
 ·rw[if_neg h1];exact hf
theorem zlA {f:FsV} (hf:FsI f) {i:Int} (hh:zG i f.xs=true) (t:List UInt8):FsI (yk f i t):=by
 have hg:=zm hh
 have hmem:∀ {z:zA},z∈(yk f i t).xs->∃ y∈f.xs,z.ino=y.ino/\z.kind=y.kind/\z.es=y.es/\z.links=y.links:=fun {z} hz=>by
  rcases jJ.1 hz with rfl | ⟨hz,_⟩
  ·exact ⟨_,hg.2.1,rfl,rfl,rfl,rfl⟩
  ·exact ⟨_,hz,rfl,rfl,rfl,rfl⟩
 have hhas:∀ m,zG m (yk f i t).xs=zG m f.xs:=fun m=>by
  show zG m (qF _ _)=_
  rw[jZ]
  show (decide ((zg i f.xs).ino=m)||_)=_
  rw[hg.2.2]
  by_cases h:i=m
  ·subst h;rw[hh];simp
  ·simp[h]
 have hcnt:∀ m,JM m (yk f i t).xs=JM m f.xs:=fun m=>by
  have h:=Uq (m:=m) (x:={ zg i f.xs with data:=t }) hf.rises hh hg.2.2
  have e:JV m { zg i f.xs with data:=t }=JV m (zg i f.xs):=rfl
  show JM m (qF _ _)=_
  omega
 refine ⟨qd hf.rises,fun x hx=>?_,fun x hx=>?_,fun x hx=>?_,fun x hx hk2=>?_,fun x hx e he=>?_,fun x hx=>?_,by rw[hhas];exact hf.root,?_,?_⟩
 ·obtain ⟨y,hy,e1,_⟩:=hmem hx;rw[e1];exact hf.ino y hy
 ·obtain ⟨y,hy,_,e2,_⟩:=hmem hx;rw[e2];exact hf.kind y hy
 ·obtain ⟨y,hy,_,_,e3,_⟩:=hmem hx;rw[e3];exact hf.es y hy
 ·obtain ⟨y,hy,_,e2,e3,_⟩:=hmem hx;rw[e3];exact hf.file y hy (by rw[←e2];exact hk2)
 ·obtain ⟨y,hy,_,_,e3,_⟩:=hmem hx;rw[hhas];exact hf.led y hy e (by rw[←e3];exact he)
 ·obtain ⟨y,hy,e1,_,_,e4⟩:=hmem hx;rw[hcnt,e4,e1];exact hf.links y hy
 ·show (zg 1 (qF _ _)).kind=2
  rw[QH]
  split
  ·rename_i h
   have h:(zg i f.xs).ino=1:=h
   rw[hg.2.2]at h
   subst h
   exact hf.base
  ·exact hf.base
 ·rw[hcnt];exact hf.bare
theorem zkc {f:FsV} (hf:FsI f) {s:qM} (hs:XB f s) {i:Int} (hi:zG i f.xs=true) (hk:(zg i f.xs).kind≠2):FsI (V3 f s i):=by
 have hd:=zm hs.has
 have hx:=zm hi
 have hne:s.dir≠i:=fun e=>hk (by rw[←e];exact hs.kind)
 have hR1:qc (qI s.dir (zY s.name i) f.xs):=qd hf.rises
 have hi1:zG i (qI s.dir (zY s.name i) f.xs)=true:=by rw[qg hs.has];exact hi
 have hg1:zg i (qI s.dir (zY s.name i) f.xs)=zg i f.xs:=by rw[J1 hs.has,if_neg hne]
 have hmem:∀ {z:zA},z∈(V3 f s i).xs->z = { zg i f.xs with links:=(zg i f.xs).links+1 }∨z=qq (zg s.dir f.xs) (zY s.name i (zg s.dir f.xs).es)∨(z∈f.xs/\z.ino≠s.dir/\z.ino≠i):=fun {z} hz=>by
  rcases jJ.1 hz with rfl | ⟨hz,hzi⟩
  ·exact .inl rfl
  ·have hzi:z.ino≠(zg i f.xs).ino:=hzi
   rw[hx.2.2]at hzi
   rcases (jR hs.has).1 hz with rfl | ⟨hz,hzd⟩
   ·exact .inr (.inl rfl)
   ·exact .inr (.inr ⟨hz,hzd,hzi⟩)
 have hhas:∀ m,zG m (V3 f s i).xs=zG m f.xs:=fun m=>by
  show zG m (qF _ _)=_
  rw[jZ,qg hs.has]
  show (decide ((zg i f.xs).ino=m)||_)=_
  rw[hx.2.2]
  by_cases h:i=m
  ·subst h;rw[hi];simp
  ·simp[h]
 have hcnt:∀ m,JM m (V3 f s i).xs=JM m f.xs+if i=m then 1 else 0:=fun m=>by
  have h:=Uq (m:=m) (x:={ zg i f.xs with links:=(zg i f.xs).links+1 }) hR1 hi1 hx.2.2
  rw[hg1]at h
  have e:JV m { zg i f.xs with links:=(zg i f.xs).links+1 }=JV m (zg i f.xs):=rfl
  have hc:=ZV (m:=m) (F:=zY s.name i) hf.rises hs.has
  have hw:JV m (qq (zg s.dir f.xs) (zY s.name i (zg s.dir f.xs).es))=JV m (zg s.dir f.xs)+if i=m then 1 else 0:=Zo (m:=m) (i:=i) (x:=zg s.dir f.xs) (hf.es (zg s.dir f.xs) hd.2.1) hs.free
  show JM m (qF _ _)=_
  omega
 refine ⟨qd hR1,fun x hx'=>?_,fun x hx'=>?_,fun x hx'=>?_,fun x hx' hk2=>?_,fun x hx' e he=>?_,fun x hx'=>?_,by rw[hhas];exact hf.root,?_,?_⟩
 ·rcases hmem hx' with rfl | rfl | ⟨h,_⟩
  ·exact hf.ino (zg i f.xs) hx.2.1
  ·exact hf.ino (zg s.dir f.xs) hd.2.1
  ·exact hf.ino _ h
 ·rcases hmem hx' with rfl | rfl | ⟨h,_⟩
  ·exact hf.kind (zg i f.xs) hx.2.1
  ·exact hf.kind (zg s.dir f.xs) hd.2.1
  ·exact hf.kind _ h
 ·rcases hmem hx' with rfl | rfl | ⟨h,_⟩
  ·exact hf.es (zg i f.xs) hx.2.1
  ·exact ZH (hf.es (zg s.dir f.xs) hd.2.1)
  ·exact hf.es _ h
 ·rcases hmem hx' with rfl | rfl | ⟨h,_⟩
  ·exact hf.file (zg i f.xs) hx.2.1 hk2
  ·exact absurd hs.kind hk2
  ·exact hf.file _ h hk2
 ·rw[hhas]
  rcases hmem hx' with rfl | rfl | ⟨h,_⟩
  ·exact hf.led (zg i f.xs) hx.2.1 e he
  ·rcases VC he with rfl | he
   ·exact hi
   ·exact hf.led (zg s.dir f.xs) hd.2.1 e he
  ·exact hf.led _ h e he
 ·rw[hcnt]
  rcases hmem hx' with rfl | rfl | ⟨h,_,hzi⟩
  ·have:=hf.links (zg i f.xs) hx.2.1
   show (zg i f.xs).links+1=((JM (zg i f.xs).ino f.xs+if i=(zg i f.xs).ino then 1 else 0:Nat):Int)
   rw[if_pos hx.2.2.symm,this];rfl
  ·have:=hf.links (zg s.dir f.xs) hd.2.1
   show (zg s.dir f.xs).links=((JM (zg s.dir f.xs).ino f.xs+if i=(zg s.dir f.xs).ino then 1 else 0:Nat):Int)
   rw[if_neg (by rw[hd.2.2];exact fun e=>hne e.symm),this];rfl
  ·rw[if_neg fun e=>hzi e.symm]
   exact hf.links _ h
 ·show (zg 1 (qF _ _)).kind=2
  rw[QH]
  split
  ·rename_i h
   have h:(zg i f.xs).ino=1:=h
   rw[hx.2.2]at h
   subst h
   exact hf.base
  ·rw[J1 hs.has]
   split
   ·exact hs.kind
   ·exact hf.base
 ·rw[hcnt,hf.bare,if_neg fun e=>hk (by rw[e];exact hf.base)]
theorem zbM {f:FsV} (hf:FsI f) {s:qM} (hs:qh f s):s.ino≠1:=fun e =>
 uy hf.bare _ (zm hs.has).2.1 _ (j8 hs.there).2 e
theorem Nd {f:FsV} (hf:FsI f) {s:qM} (hs:qh f s) (he:(zg s.ino f.xs).es = []):FsI (zS f s):=by
 have hi:=qh.ino hf hs
 have hd:=zm hs.has
 have hx:=zm hi
 have hr:=zbM hf hs
 have hne:s.dir≠s.ino:=fun e=>by
  have:=(j8 hs.there).2
  rw[e,he]at this
  cases this
 have hR1:qc (qI s.dir (zh s.name) f.xs):=qd hf.rises
 have hi1:zG s.ino (qI s.dir (zh s.name) f.xs)=true:=by rw[qg hs.has];exact hi
 have hg1:zg s.ino (qI s.dir (zh s.name) f.xs)=zg s.ino f.xs:=by rw[J1 hs.has,if_neg hne]
 have hc1:∀ m,JM m (qI s.dir (zh s.name) f.xs)+(if s.ino=m then 1 else 0)=JM m f.xs:=fun m=>by
  have hc:=ZV (m:=m) (F:=zh s.name) hf.rises hs.has
  have hw:JV m (zg s.dir f.xs)=JV m (qq (zg s.dir f.xs) (zh s.name (zg s.dir f.xs).es))+if s.ino=m then 1 else 0:=Vr (m:=m) (i:=s.ino) (x:=zg s.dir f.xs) (hf.es (zg s.dir f.xs) hd.2.1) hs.there
  omega
 have hlk:=hf.links (zg s.ino f.xs) hx.2.1
 rw[hx.2.2]at hlk
 have hci:=hc1 s.ino
 rw[if_pos rfl]at hci
 have hz:∀ m,JV m (zg s.ino f.xs)=0:=fun m=>by unfold JV;rw[he];rfl
 unfold zS
 by_cases hl:(zg s.ino f.xs).links-1=0
 ·rw[if_pos hl]
  have hc0:JM s.ino (qI s.dir (zh s.name) f.xs)=0:=by omega
  have hcnt:∀ m,JM m (qk s.ino (qI s.dir (zh s.name) f.xs))=JM m (qI s.dir (zh s.name) f.xs):=fun m=>by
   have:=ziU (m:=m) hR1 hi1
   rw[hg1,hz]at this
   omega
  have hmem:∀ {z:zA},z∈qk s.ino (qI s.dir (zh s.name) f.xs)->(z=qq (zg s.dir f.xs) (zh s.name (zg s.dir f.xs).es)∨(z∈f.xs/\z.ino≠s.dir))/\z.ino≠s.ino:=fun {z} hz=>by
   obtain ⟨hz,hzi⟩:=Ul.1 hz
   exact ⟨(jR hs.has).1 hz,hzi⟩
  have hin:∀ {z:zA},z∈qk s.ino (qI s.dir (zh s.name) f.xs)->z∈qI s.dir (zh s.name) f.xs:=fun {z} hz=>(Ul.1 hz).1
  refine ⟨kR hR1,fun x hx'=>?_,fun x hx'=>?_,fun x hx'=>?_,fun x hx' hk2=>?_,fun x hx' e hee=>?_,fun x hx'=>?_,?_,?_,?_⟩
  ·rcases hmem hx' with ⟨rfl | ⟨h,_⟩,_⟩
   ·exact hf.ino (zg s.dir f.xs) hd.2.1
   ·exact hf.ino _ h
  ·rcases hmem hx' with ⟨rfl | ⟨h,_⟩,_⟩
   ·exact hf.kind (zg s.dir f.xs) hd.2.1
   ·exact hf.kind _ h
  ·rcases hmem hx' with ⟨rfl | ⟨h,_⟩,_⟩
   ·exact JP (hf.es (zg s.dir f.xs) hd.2.1)
   ·exact hf.es _ h
  ·rcases hmem hx' with ⟨rfl | ⟨h,_⟩,_⟩
   ·exact absurd hs.kind hk2
   ·exact hf.file _ h hk2
  ·show zG e.ino (qk _ _)=true
   rw[Up,qg hs.has]
   have h1:e.ino≠s.ino:=uy hc0 x (hin hx') e hee
   rw[decide_eq_false h1]
   show zG e.ino f.xs=true
   rcases hmem hx' with ⟨rfl | ⟨h,_⟩,_⟩
   ·exact hf.led (zg s.dir f.xs) hd.2.1 e (J2 hee).1
   ·exact hf.led _ h e hee
  ·show x.links=((JM x.ino (qk _ _):Nat):Int)
   rw[hcnt]
   obtain ⟨h1,h2⟩:=hmem hx'
   have h3:=hc1 x.ino
   rw[if_neg fun e=>h2 e.symm]at h3
   have h4:x.links=(JM x.ino f.xs:Int):=by
    rcases h1 with rfl | ⟨h,_⟩
    ·exact hf.links (zg s.dir f.xs) hd.2.1
    ·exact hf.links _ h
   omega
  ·show zG 1 (qk _ _)=true
   rw[Up,qg hs.has,hf.root,decide_eq_false fun e=>hr e.symm];rfl
  ·show (zg 1 (qk _ _)).kind=2
   rw[zcx,if_neg fun e=>hr e.symm,J1 hs.has]
   split
   ·exact hs.kind
   ·exact hf.base
  ·show JM 1 (qk _ _)=0
   rw[hcnt]
   have:=hc1 1
   have:=hf.bare
   omega
 ·rw[if_neg hl]
  have hmem:∀ {z:zA},z∈qF { zg s.ino f.xs with links:=(zg s.ino f.xs).links-1 } (qI s.dir (zh s.name) f.xs)->z = { zg s.ino f.xs with links:=(zg s.ino f.xs).links-1 }∨z=qq (zg s.dir f.xs) (zh s.name (zg s.dir f.xs).es)∨(z∈f.xs/\z.ino≠s.dir/\z.ino≠s.ino):=fun {z} hz=>by
   rcases jJ.1 hz with rfl | ⟨hz,hzi⟩
   ·exact .inl rfl
   ·have hzi:z.ino≠(zg s.ino f.xs).ino:=hzi
    rw[hx.2.2]at hzi
    rcases (jR hs.has).1 hz with rfl | ⟨hz,hzd⟩
    ·exact .inr (.inl rfl)
    ·exact .inr (.inr ⟨hz,hzd,hzi⟩)
  have hhas:∀ m,zG m (qF { zg s.ino f.xs with links:=(zg s.ino f.xs).links-1 } (qI s.dir (zh s.name) f.xs))=zG m f.xs:=fun m=>by
   rw[jZ,qg hs.has]
   show (decide ((zg s.ino f.xs).ino=m)||_)=_
   rw[hx.2.2]
   by_cases h:s.ino=m
   ·rw[←h,hi];simp
   ·simp[h]
  have hcnt:∀ m,JM m (qF { zg s.ino f.xs with links:=(zg s.ino f.xs).links-1 } (qI s.dir (zh s.name) f.xs))=JM m (qI s.dir (zh s.name) f.xs):=fun m=>by
   have h:=Uq (m:=m) (x:={ zg s.ino f.xs with links:=(zg s.ino f.xs).links-1 }) hR1 hi1 hx.2.2
   rw[hg1]at h
   have e:JV m { zg s.ino f.xs with links:=(zg s.ino f.xs).links-1 }=JV m (zg s.ino f.xs):=rfl
   omega
  refine ⟨qd hR1,fun x hx'=>?_,fun x hx'=>?_,fun x hx'=>?_,fun x hx' hk2=>?_,fun x hx' e hee=>?_,fun x hx'=>?_,by rw[hhas];exact hf.root,?_,?_⟩
  ·rcases hmem hx' with rfl | rfl | ⟨h,_⟩
   ·exact hf.ino (zg s.ino f.xs) hx.2.1
   ·exact hf.ino (zg s.dir f.xs) hd.2.1
   ·exact hf.ino _ h
  ·rcases hmem hx' with rfl | rfl | ⟨h,_⟩
   ·exact hf.kind (zg s.ino f.xs) hx.2.1
   ·exact hf.kind (zg s.dir f.xs) hd.2.1
   ·exact hf.kind _ h
  ·rcases hmem hx' with rfl | rfl | ⟨h,_⟩
   ·exact hf.es (zg s.ino f.xs) hx.2.1
   ·exact JP (hf.es (zg s.dir f.xs) hd.2.1)
   ·exact hf.es _ h
  ·rcases hmem hx' with rfl | rfl | ⟨h,_⟩
   ·exact he
   ·exact absurd hs.kind hk2
   ·exact hf.file _ h hk2
  ·rw[hhas]
   rcases hmem hx' with rfl | rfl | ⟨h,_⟩
   ·exact hf.led (zg s.ino f.xs) hx.2.1 e hee
   ·exact hf.led (zg s.dir f.xs) hd.2.1 e (J2 hee).1
   ·exact hf.led _ h e hee
  ·rw[hcnt]
   rcases hmem hx' with rfl | rfl | ⟨h,_,hzi⟩
   ·show (zg s.ino f.xs).links-1=((JM (zg s.ino f.xs).ino (qI s.dir (zh s.name) f.xs):Nat):Int)
    rw[hx.2.2];omega
   ·have h3:=hc1 (zg s.dir f.xs).ino
    have h4:=hf.links (zg s.dir f.xs) hd.2.1
    rw[if_neg (by rw[hd.2.2];exact fun e=>hne e.symm)]at h3
    show (zg s.dir f.xs).links=((JM (zg s.dir f.xs).ino (qI s.dir (zh s.name) f.xs):Nat):Int)
    omega
   ·have h3:=hc1 x.ino
    rw[if_neg fun e=>hzi e.symm]at h3
    have h4:=hf.links _ h
    omega
  ·show (zg 1 (qF _ _)).kind=2
   rw[QH,if_neg (show ¬(zg s.ino f.xs).ino=1 by rw[hx.2.2];exact hr),J1 hs.has]
   split
   ·exact hs.kind
   ·exact hf.base
  ·rw[hcnt]
   have:=hc1 1
   have:=hf.bare
   omega
end
section
theorem vG {f:FsV} (hf:FsI f) {ys:List zA} (hR:qc ys) (hall:∀ z∈ys,∃ y∈f.xs,z.ino=y.ino/\z.kind=y.kind/\z.links=y.links/\JA z.es/\(z.kind≠2->z.es = [])/\∀ e∈z.es,zG e.ino f.xs=true)
  (hhas:∀ m,zG m ys=zG m f.xs) (hcnt:∀ m,JM m ys=JM m f.xs):FsI { f with xs:=ys }:=by
 refine ⟨hR,fun x hx=>?_,fun x hx=>?_,fun x hx=>?_,fun x hx hk=>?_,fun x hx e he=>?_,fun x hx=>?_,by rw[hhas];exact hf.root,?_,by rw[hcnt];exact hf.bare⟩
 ·obtain ⟨y,hy,e1,_⟩:=hall x hx;rw[e1];exact hf.ino y hy
 ·obtain ⟨y,hy,_,e2,_⟩:=hall x hx;rw[e2];exact hf.kind y hy
 ·obtain ⟨y,hy,_,_,_,e4,_⟩:=hall x hx;exact e4
 ·obtain ⟨y,hy,_,_,_,_,e5,_⟩:=hall x hx;exact e5 hk
 ·obtain ⟨y,hy,_,_,_,_,_,e6⟩:=hall x hx;rw[hhas];exact e6 e he
 ·obtain ⟨y,hy,e1,_,e3,_⟩:=hall x hx;rw[hcnt,e3,e1];exact hf.links y hy
 ·have h1:zG 1 ys=true:=by rw[hhas];exact hf.root
  obtain ⟨y,hy,e1,e2,_⟩:=hall _ (zm h1).2.1
  rw[(zm h1).2.2]at e1
  have e7:=(zjS hf.rises).1 hy
  rw[←e1,(zm hf.root).1]at e7
  simp only[Option.some.injEq]at e7
  show (zg 1 ys).kind=2
  rw[e2,←e7]
  exact hf.base
theorem zkS {f:FsV} (hf:FsI f) {a b:qM} (ha:qh f a) (hb:XB f b):FsI (Q7 f a b):=by
 have hda:=zm ha.has
 have hdb:=zm hb.has
 have hai:=qh.ino hf ha
 obtain ⟨g1,hg1⟩:∃ g1,qI a.dir (zh a.name) f.xs=g1:=⟨_,rfl⟩
 obtain ⟨g2,hg2⟩:∃ g2,qI b.dir (zY b.name a.ino) g1=g2:=⟨_,rfl⟩
 have hR1:qc g1:=by rw[←hg1];exact qd hf.rises
 have hR2:qc g2:=by rw[←hg2];exact qd hR1
 have hh1:∀ m,zG m g1=zG m f.xs:=fun m=>by rw[←hg1];exact qg ha.has
 have hb1:zG b.dir g1=true:=by rw[hh1];exact hb.has
 have hh2:∀ m,zG m g2=zG m f.xs:=fun m=>by rw[←hg2,qg hb1];exact hh1 m
 have hgb:zg b.dir g1=if a.dir=b.dir then qq (zg a.dir f.xs) (zh a.name (zg a.dir f.xs).es) else zg b.dir f.xs:=by rw[←hg1,J1 ha.has]
 have hmem1:∀ {z:zA},z∈g1->z=qq (zg a.dir f.xs) (zh a.name (zg a.dir f.xs).es)∨(z∈f.xs/\z.ino≠a.dir):=fun {z} hz=>by rw[←hg1]at hz;exact (jR ha.has).1 hz
 have hmem2:∀ {z:zA},z∈g2->z=qq (zg b.dir g1) (zY b.name a.ino (zg b.dir g1).es)∨(z∈g1/\z.ino≠b.dir):=fun {z} hz=>by rw[←hg2]at hz;exact (jR hb1).1 hz
 have hal1:∀ z∈g1,∃ y∈f.xs,z.ino=y.ino/\z.kind=y.kind/\z.links=y.links/\JA z.es/\(z.kind≠2->z.es = [])/\∀ e∈z.es,zG e.ino f.xs=true:=fun z hz=>by
  rcases hmem1 hz with rfl | ⟨h,_⟩
  ·exact ⟨_,hda.2.1,rfl,rfl,rfl,JP (hf.es _ hda.2.1),fun hk=>absurd ha.kind hk,fun e he=>hf.led _ hda.2.1 e (J2 he).1⟩
  ·exact ⟨_,h,rfl,rfl,rfl,hf.es _ h,hf.file _ h,hf.led _ h⟩
 have hal2:∀ z∈g2,∃ y∈f.xs,z.ino=y.ino/\z.kind=y.kind/\z.links=y.links/\JA z.es/\(z.kind≠2->z.es = [])/\∀ e∈z.es,zG e.ino f.xs=true:=fun z hz=>by
  rcases hmem2 hz with rfl | ⟨h,_⟩
  ·obtain ⟨y,hy,e1,e2,e3,e4,e5,e6⟩:=hal1 _ (zm hb1).2.1
   refine ⟨y,hy,e1,e2,e3,ZH e4,fun hk=>?_,fun e he=>?_⟩
   ·have hk':(zg b.dir g1).kind≠2:=hk
    have:(zg b.dir g1).kind=2:=by
     rw[hgb]
     split
     ·exact ha.kind
     ·exact hb.kind
    exact absurd this hk'
   ·rcases VC he with rfl | he
    ·exact hai
    ·exact e6 e he
  ·exact hal1 z h
 have hfree:VH b.name (zg b.dir g1).es=false:=by
  rw[hgb]
  split
  ·rename_i hab
   show VH b.name (zh a.name (zg a.dir f.xs).es)=false
   rw[Bool.eq_false_iff]
   intro h
   have h1:=Zg h
   have h2:=(J2 (j8 h1).2).1
   have h3:VH b.name (zg a.dir f.xs).es=true:=by
    unfold VH JQ
    exact List.any_eq_true.2 ⟨_,h2,by simp⟩
   have:=hb.free
   rw[←hab,h3]at this
   cases this
  ·exact hb.free
 have hc1:∀ m,JM m g1+(if a.ino=m then 1 else 0)=JM m f.xs:=fun m=>by
  have hc:=ZV (m:=m) (F:=zh a.name) hf.rises ha.has
  have hw:JV m (zg a.dir f.xs)=JV m (qq (zg a.dir f.xs) (zh a.name (zg a.dir f.xs).es))+if a.ino=m then 1 else 0:=Vr (m:=m) (i:=a.ino) (x:=zg a.dir f.xs) (hf.es _ hda.2.1) ha.there
  rw[hg1]at hc
  omega
 have hc2:∀ m,JM m g2=JM m f.xs:=fun m=>by
  have hc:=ZV (m:=m) (F:=zY b.name a.ino) hR1 hb1
  obtain ⟨_,_,_,_,_,e4,_⟩:=hal1 _ (zm hb1).2.1
  have hw:JV m (qq (zg b.dir g1) (zY b.name a.ino (zg b.dir g1).es))=JV m (zg b.dir g1)+if a.ino=m then 1 else 0:=Zo (m:=m) (i:=a.ino) (x:=zg b.dir g1) e4 hfree
  have:=hc1 m
  rw[hg2]at hc
  omega
 have key:FsI { f with xs:=g2 }:=vG hf hR2 hal2 hh2 hc2
 unfold Q7
 rw[hg1,hg2]
 show FsI (if (zg a.ino g2).kind=2 then _ else _)
 split
 ·have hia:zG a.ino g2=true:=by rw[hh2];exact hai
  have hx:=zm hia
  refine vG hf (qd hR2) (fun z hz=>?_) (fun m=>?_) (fun m=>?_)
  ·rcases jJ.1 hz with rfl | ⟨hz,_⟩
   ·exact hal2 (zg a.ino g2) hx.2.1
   ·exact hal2 z hz
  ·rw[jZ]
   show (decide ((zg a.ino g2).ino=m)||_)=_
   rw[hx.2.2,hh2]
   by_cases h:a.ino=m
   ·rw[←h,hai];simp
   ·simp[h]
  ·have h:=Uq (m:=m) (x:={ zg a.ino g2 with parent:=b.dir }) hR2 hia hx.2.2
   have e:JV m { zg a.ino g2 with parent:=b.dir }=JV m (zg a.ino g2):=rfl
   have:=hc2 m
   omega
 ·exact key
theorem zjh {f:FsV} (hf:FsI f):∀ (ns:List (List UInt8)) (s:qM),(s.ino≠0->zG s.ino f.xs=true)->(atW f.xs ns s).2=0->ns≠[] ->
  zG (atW f.xs ns s).1.dir f.xs=true/\(zg (atW f.xs ns s).1.dir f.xs).kind=2/\(atW f.xs ns s).1.ino=jP (atW f.xs ns s).1.name (zg (atW f.xs ns s).1.dir f.xs).es/\(atW f.xs ns s).1.name∈ns
 | [],s,_,_,h=>absurd rfl h
 | n :: r,s,hs,h0,_=>by
  unfold atW at h0 ⊢
  by_cases h1:s.ino=0
  ·rw[if_pos h1]at h0;cases h0
  rw[if_neg h1]at h0 ⊢
  by_cases h2:(zg s.ino f.xs).kind≠2
  ·rw[if_pos h2]at h0;cases h0
  rw[if_neg h2]at h0 ⊢
  have h2:(zg s.ino f.xs).kind=2:=Classical.not_not.1 h2
  have hg:=zm (hs h1)
  have hnx:jP n (zg s.ino f.xs).es≠0->zG (jP n (zg s.ino f.xs).es) f.xs=true:=fun hne=>by
   have hh:VH n (zg s.ino f.xs).es=true:=by
    unfold VH
    rw[jz]
    cases hq:Jm z6.name n (zg s.ino f.xs).es with
    | some e=>rfl
    | none=>unfold jP at hne;rw[hq]at hne;exact absurd rfl hne
   exact hf.led _ hg.2.1 _ (j8 (Zg hh)).2
  cases r with
  | nil =>
   unfold atW
   rw[hg.2.2]
   exact ⟨hs h1,h2,rfl,List.mem_cons_self⟩
  | cons m r =>
   obtain ⟨i1,i2,i3,i4⟩:=zjh hf (m :: r) ⟨(zg s.ino f.xs).ino,n,jP n (zg s.ino f.xs).es⟩ hnx h0 (by simp)
   exact ⟨i1,i2,i3,List.mem_cons_of_mem _ i4⟩
theorem zc3 {f:FsV} (hf:FsI f):∀ (ns:List (List UInt8)) (s:qM),(s.ino≠0->zG s.ino f.xs=true)->(atW f.xs ns s).1.ino≠0->zG (atW f.xs ns s).1.ino f.xs=true
 | [],s,hs,h=>hs h
 | n :: r,s,hs,h=>by
  unfold atW at h ⊢
  by_cases h1:s.ino=0
  ·rw[if_pos h1]at h;exact absurd rfl h
  rw[if_neg h1]at h ⊢
  by_cases h2:(zg s.ino f.xs).kind≠2
  ·rw[if_pos h2]at h;exact absurd rfl h
  rw[if_neg h2]at h ⊢
  have hg:=zm (hs h1)
  refine zc3 hf r _ (fun hne=>?_) h
  have hne:jP n (zg s.ino f.xs).es≠0:=hne
  have hh:VH n (zg s.ino f.xs).es=true:=by
   unfold VH
   rw[jz]
   cases hq:Jm z6.name n (zg s.ino f.xs).es with
   | some e=>rfl
   | none=>unfold jP at hne;rw[hq]at hne;exact absurd rfl hne
  exact hf.led _ hg.2.1 _ (j8 (Zg hh)).2
end
section
structure Xl (w:qy):Prop where
 fs:FsI w.fs
 kept:qA jC zN.slot w.kept
 pool:qc w.pool
 apart:∀ x∈w.pool,zG x.ino w.fs.xs=false/\x.ino<w.fs.next
theorem zdP {f:FsV} (hf:FsI f) {n:Int} (h:zG n f.xs=true):n≠0:=fun e=>by
 have:=(hf.ino _ (zm h).2.1).1
 rw[(zm h).2.2]at this
 omega
theorem xx {f:FsV} (hf:FsI f) {d:Int} (hd:zG d f.xs=true) {n:List UInt8} (h:VH n (zg d f.xs).es=true):zG (jP n (zg d f.xs).es) f.xs=true:=
 hf.led _ (zm hd).2.1 _ (j8 (Zg h)).2
theorem zlU {f:FsV} (hf:FsI f) {p:List UInt8} (hp:zP p=true) (h:(atV f p).2=0) :
  zG (atV f p).1.dir f.xs=true/\(zg (atV f p).1.dir f.xs).kind=2/\(atV f p).1.ino=jP (atV f p).1.name (zg (atV f p).1.dir f.xs).es/\(atV f p).1.name∈zJ p:=by
 unfold zP at hp
 simp only[Bool.and_eq_true,Bool.not_eq_true',decide_eq_false_iff_not]at hp
 unfold atV at h ⊢
 rw[if_pos hp.1]at h ⊢
 exact zjh hf (zJ p) ⟨0,[],1⟩ (fun _=>hf.root) h hp.2
theorem jF {f:FsV} (hf:FsI f) {p:List UInt8} (hp:zP p=true) (h:(isV f p true).2.2=0):qh f (isV f p true).1/\(isV f p true).2.1=zg (isV f p true).1.ino f.xs:=by
 unfold isV at h ⊢
 simp only at h ⊢
 by_cases h0:(atV f p).2≠0
 ·rw[if_pos h0]at h;exact absurd h h0
 rw[if_neg h0]at h
 have h0:(atV f p).2=0:=Classical.not_not.1 h0
 obtain ⟨a1,a2,a3,_⟩:=zlU hf hp h0
 refine ⟨⟨a1,a2,?_⟩,trivial⟩
 have hh:zG (atV f p).1.ino f.xs=true:=by
  cases hq:zG (atV f p).1.ino f.xs with
  | true=>rfl
  | false=>rw[hq]at h;simp at h
 have he:VH (atV f p).1.name (zg (atV f p).1.dir f.xs).es=true:=by
  unfold VH
  rw[jz]
  cases hq:Jm z6.name (atV f p).1.name (zg (atV f p).1.dir f.xs).es with
  | some e=>rfl
  | none =>
   unfold jP at a3
   rw[hq]at a3
   exact absurd a3 (zdP hf hh)
 rw[Zg he,←a3]
theorem JH {f:FsV} (hf:FsI f) {p:List UInt8} (hp:zP p=true) (h:(isV f p false).2.2=0):XB f (isV f p false).1:=by
 unfold isV at h ⊢
 simp only at h ⊢
 by_cases h0:(atV f p).2≠0
 ·rw[if_pos h0]at h;exact absurd h h0
 rw[if_neg h0]at h
 have h0:(atV f p).2=0:=Classical.not_not.1 h0
 obtain ⟨a1,a2,a3,_⟩:=zlU hf hp h0
 refine ⟨a1,a2,?_⟩
 have hh:zG (atV f p).1.ino f.xs=false:=by
  cases hq:zG (atV f p).1.ino f.xs with
  | false=>rfl
  | true=>rw[hq]at h;simp at h
 rw[Bool.eq_false_iff]
 intro he
 have:=xx hf a1 he
 rw[←a3,hh]at this
 cases this
theorem XT {o:OpV} (h:Z4 o=true):zP o.a=true/\(zes o.kind=true->zP o.b=true)/\1<=o.kind/\o.kind<=10:=by
 unfold Z4 at h
 simp only[Bool.and_eq_true,decide_eq_true_eq]at h
 obtain ⟨⟨⟨⟨⟨⟨h1,h2⟩,h3⟩,h4⟩,h5⟩,h6⟩,h7⟩:=h
 exact ⟨h3,fun hb=>by rw[if_pos hb]at h5;exact h5,h1,h2⟩
theorem zjN {w:qy} (hw:Xl w) {g:FsV} (hg:FsI g) (hn:w.fs.next<=g.next) (hh:∀ x∈w.pool,zG x.ino g.xs=false):Xl { w with fs:=g }:=
 ⟨hg,hw.kept,hw.pool,fun x hx=>⟨hh x hx,by have:=(hw.apart x hx).2;show x.ino<g.next;omega⟩⟩
theorem kU (f:FsV) (s:qM) (k:Int) (t:List UInt8):(Zq f s k t).1=f∨(Zq f s k t).1=zaB f s k t:=by
 unfold Zq
 by_cases h1:may s.name=true
 ·rw[if_pos h1]
  by_cases h2:Jq f 1 (if k=1 then (t.length:Int) else 0)=true
  ·rw[if_pos h2];exact .inr rfl
  ·rw[if_neg h2];exact .inl rfl
 ·rw[if_neg h1];exact .inl rfl
theorem yz {w:qy} (hw:Xl w) {p:List UInt8} (hp:zP p=true) {k:Int} (hk:k=1∨k=2∨k=3) (t:List UInt8):Xl (Jk w p k t).1:=by
 unfold Jk
 by_cases h:(isV w.fs p false).2.2≠0
 ·rw[if_pos h];exact hw
 rw[if_neg h]
 have hs:=JH hw.fs hp (Classical.not_not.1 h)
 refine zjN hw (znr hw.fs hs k hk t) ?_ ?_
 ·rcases kU w.fs (isV w.fs p false).1 k t with e | e
  ·rw[e];exact Int.le_refl _
  ·rw[e];show w.fs.next<=w.fs.next+1;omega
 ·intro x hx
  obtain ⟨a1,a2⟩:=hw.apart x hx
  rcases kU w.fs (isV w.fs p false).1 k t with e | e
  ·rw[e];exact a1
  ·rw[e]
   show zG x.ino (qF _ _)=false
   rw[jZ,qg hs.has,a1]
   show (decide (w.fs.next=x.ino)||false)=false
   rw[decide_eq_false (by omega)];rfl
theorem Qm {f:FsV} (hf:FsI f) {p:List UInt8} (hp:zP p=true) (h:(zM f p).2=0):zG (zM f p).1.ino f.xs=true/\(zM f p).1.kind=1/\(zM f p).1=zg (zM f p).1.ino f.xs:=by
 unfold zM at h ⊢
 simp only at h ⊢
 by_cases h0:(isV f p true).2.2≠0
 ·rw[if_pos h0]at h;exact absurd h h0
 rw[if_neg h0]at h
 obtain ⟨h1,h2⟩:=jF hf hp (Classical.not_not.1 h0)
 have hi:=qh.ino hf h1
 have hg:=zm hi
 rw[h2]at h ⊢
 rw[hg.2.2]
 refine ⟨hi,?_,rfl⟩
 have hk:=hf.kind _ hg.2.1
 by_cases h3:(zg (isV f p true).1.ino f.xs).kind=2
 ·rw[if_pos h3]at h;cases h
 rw[if_neg h3]at h
 by_cases h4:(zg (isV f p true).1.ino f.xs).kind=3
 ·rw[if_pos h4]at h;cases h
 omega
theorem zen {k:zN} {ks:List zN} (h:qA jC zN.slot ks) (hn:U3 k.slot ks=false):qA jC zN.slot (qr k ks):=
 ZY h fun y hy e=>by
  unfold U3 JQ at hn
  rw[List.any_eq_false]at hn
  exact hn y hy (by simpa using e)
theorem Hl {f:FsV} {s:qM} (h:zG s.dir f.xs=true) (hi:zG s.ino f.xs=true) (m:Int):zG m (zS f s).xs=if (zg s.ino f.xs).links-1=0 then (!decide (m=s.ino)&&zG m f.xs) else zG m f.xs:=by
 unfold zS
 split
 ·show zG m (qk _ _)=_
  rw[Up,qg h]
 ·show zG m (qF _ _)=_
  rw[jZ,qg h]
  show (decide ((zg s.ino f.xs).ino=m)||_)=_
  rw[(zm hi).2.2]
  by_cases e:s.ino=m
  ·rw[←e,hi];simp
  ·simp[e]
theorem xu (f:FsV) (s:qM):(zS f s).next=f.next:=by unfold zS;split<;>rfl
theorem zkz {w:qy} (hw:Xl w) {n:Int} {s:qM} (hs:qh w.fs s) (he:(zg s.ino w.fs.xs).es = []):Xl (JO w n s).1:=by
 unfold JO
 cases hn:U3 n w.kept with
 | true=>rw[if_pos rfl];exact hw
 | false =>
  rw[if_neg (by simp)]
  have hi:=qh.ino hw.fs hs
  have hg:=zm hi
  have hf:=Nd hw.fs hs he
  refine ⟨hf,zen hw.kept hn,?_,fun x hx=>?_⟩
  ·show qc (if _ then _ else _)
   split
   ·exact qd hw.pool
   ·exact hw.pool
  ·show zG x.ino (zS w.fs s).xs=false/\x.ino<(zS w.fs s).next
   rw[Hl hs.has hi,xu]
   have hx:x∈(if (zg s.ino w.fs.xs).links=1 then qF { zg s.ino w.fs.xs with links:=0,parent:=0 } w.pool else w.pool):=hx
   by_cases h1:(zg s.ino w.fs.xs).links=1
   ·rw[if_pos h1]at hx
    rw[if_pos (by omega)]
    rcases jJ.1 hx with rfl | ⟨hx,_⟩
    ·refine ⟨?_,?_⟩
     ·show (!decide ((zg s.ino w.fs.xs).ino=s.ino)&&_)=false
      rw[hg.2.2];simp
     ·exact (hw.fs.ino _ hg.2.1).2
    ·obtain ⟨a1,a2⟩:=hw.apart x hx
     rw[a1,Bool.and_false]
     exact ⟨rfl,a2⟩
   ·rw[if_neg h1]at hx
    rw[if_neg (by omega)]
    exact hw.apart x hx
theorem zpY {w:qy} (hw:Xl w) (o:OpV) (hk:o.kind<=7):Xl (doV w o).1:=by
 unfold doV
 cases hm:Z4 o with
 | false=>exact hw
 | true =>
  obtain ⟨p1,p2,k1,_⟩:=XT hm
  rw[if_neg (by simp)]
  by_cases h1:o.kind=1
  ·rw[if_pos h1];exact yz hw p1 (.inr (.inl rfl)) []
  rw[if_neg h1]
  by_cases h2:o.kind=2
  ·rw[if_pos h2]
   unfold j0
   split
   ·exact hw
   ·exact yz hw (p2 (by rw[h2];rfl)) (.inl rfl) _
  rw[if_neg h2]
  by_cases h3:o.kind=3
  ·rw[if_pos h3]
   have pb:=p2 (by rw[h3];rfl)
   unfold zU
   split
   ·exact hw
   ·split
    ·exact hw
    ·rename_i hfb
     have hfb:=Qm hw.fs pb (Classical.not_not.1 hfb)
     split
     ·exact hw
     ·split
      ·exact hw
      ·rename_i hkd
       split
       ·exact hw
       ·rename_i hda
        have hkd:=Classical.not_not.1 hkd
        have hda:=Classical.not_not.1 hda
        unfold zW at hkd ⊢
        cases hn:U3 o.slot w.kept with
        | true=>rw[hn]at hkd;simp at hkd
        | false =>
         rw[if_neg (by simp)]
         unfold J7 at hda ⊢
         by_cases hr:Jq w.fs 0 (((zM w.fs o.a).1.data.length:Int)-(zg (zM w.fs o.b).1.ino w.fs.xs).data.length)=true
         ·rw[if_pos hr]
          have hfi:=zlA hw.fs hfb.1 (zM w.fs o.a).1.data
          refine ⟨hfi,zen hw.kept hn,hw.pool,fun x hx=>⟨?_,(hw.apart x hx).2⟩⟩
          show zG x.ino (qF _ _)=false
          rw[jZ,(hw.apart x hx).1]
          show (decide ((zg (zM w.fs o.b).1.ino w.fs.xs).ino=x.ino)||false)=false
          rw[(zm hfb.1).2.2,Bool.or_false,decide_eq_false_iff_not]
          intro e
          have:=(hw.apart x hx).1
          rw[←e,hfb.1]at this
          cases this
         ·rw[if_neg hr]at hda;cases hda
  rw[if_neg h3]
  by_cases h4:o.kind=4
  ·rw[if_pos h4];exact yz hw p1 (.inr (.inr rfl)) _
  rw[if_neg h4]
  by_cases h5:o.kind=5
  ·rw[if_pos h5]
   have pb:=p2 (by rw[h5];rfl)
   unfold qE
   simp only
   split
   ·exact hw
   ·rename_i ha
    obtain ⟨t1,t2⟩:=jF hw.fs p1 (Classical.not_not.1 ha)
    split
    ·exact hw
    ·rename_i hkd
     split
     ·exact hw
     ·rename_i hb
      have hfree:=JH hw.fs pb (Classical.not_not.1 hb)
      have hi:=qh.ino hw.fs t1
      rw[t2]at hkd
      have e:(isV w.fs o.a true).2.1.ino=(isV w.fs o.a true).1.ino:=by rw[t2,(zm hi).2.2]
      rw[e]
      have hfi:=zkc hw.fs hfree hi hkd
      refine zjN hw hfi (Int.le_refl _) fun x hx=>?_
      show zG x.ino (qF _ _)=false
      rw[jZ,qg hfree.has,(hw.apart x hx).1]
      show (decide ((zg (isV w.fs o.a true).1.ino w.fs.xs).ino=x.ino)||false)=false
      rw[(zm hi).2.2,Bool.or_false,decide_eq_false_iff_not]
      intro e2
      have:=(hw.apart x hx).1
      rw[←e2,hi]at this
      cases this
  rw[if_neg h5]
  by_cases h6:o.kind=6
  ·rw[if_pos h6]
   have pb:=p2 (by rw[h6];rfl)
   unfold Jf
   split
   ·exact hw
   ·rename_i ha
    split
    ·exact hw
    ·rename_i hb
     obtain ⟨t1,t2⟩:=jF hw.fs p1 (Classical.not_not.1 ha)
     have hfree:=JH hw.fs pb (Classical.not_not.1 hb)
     have hmv:=zkS hw.fs t1 hfree
     refine zjN hw hmv ?_ fun x hx=>?_
     ·unfold Q7;simp only;split<;>exact Int.le_refl _
     ·have hi:=qh.ino hw.fs t1
      have hb1:zG (isV w.fs o.b false).1.dir (qI (isV w.fs o.a true).1.dir (zh (isV w.fs o.a true).1.name) w.fs.xs)=true:=by rw[qg t1.has];exact hfree.has
      have h2:∀ m,zG m (qI (isV w.fs o.b false).1.dir (zY (isV w.fs o.b false).1.name (isV w.fs o.a true).1.ino) (qI (isV w.fs o.a true).1.dir (zh (isV w.fs o.a true).1.name) w.fs.xs))=zG m w.fs.xs:=fun m=>by rw[qg hb1,qg t1.has]
      unfold Q7
      simp only
      split
      ·show zG x.ino (qF _ _)=false
       have hi2:=h2 (isV w.fs o.a true).1.ino
       rw[hi]at hi2
       rw[jZ,h2,(hw.apart x hx).1]
       show (decide ((zg (isV w.fs o.a true).1.ino _).ino=x.ino)||false)=false
       rw[(zm hi2).2.2,Bool.or_false,decide_eq_false_iff_not]
       intro e2
       have:=(hw.apart x hx).1
       rw[←e2,hi]at this
       cases this
      ·show zG x.ino (qI _ _ _)=false
       rw[h2];exact (hw.apart x hx).1
  rw[if_neg h6]
  unfold qu
  simp only
  split
  ·exact hw
  ·rename_i ha
   split
   ·exact hw
   ·rename_i hes
    obtain ⟨t1,t2⟩:=jF hw.fs p1 (Classical.not_not.1 ha)
    rw[t2]at hes
    exact zkz hw t1 (Classical.not_not.1 hes)
end
section
def U7 (N:Nat) (x:zA):Prop:=x.es.length<=N/\x.data.length<=5000/\∀ e∈x.es,e.name.length<=300
structure zbi (N:Nat) (w:qy):Prop where
 len:w.fs.xs.length<=N
 node:∀ x∈w.fs.xs,U7 N x
 klen:w.kept.length<=N
 kdata:∀ k∈w.kept,k.data.length<=5000
 plen:w.pool.length<=N
 pnode:∀ x∈w.pool,U7 N x
 next:w.fs.next<=1099511627776+N
 room:w.fs.maxI<=1073741824/\w.fs.maxB<=1073741824/\-1073741824<=w.fs.maxI/\-1073741824<=w.fs.maxB
theorem U7.up {N:Nat} {x:zA} (h:U7 N x):U7 (N+1) x:=⟨Nat.le_succ_of_le h.1,h.2⟩
theorem zbi.up {N:Nat} {w:qy} (h:zbi N w):zbi (N+1) w:=
 ⟨Nat.le_succ_of_le h.len,fun x hx=>(h.node x hx).up,Nat.le_succ_of_le h.klen,h.kdata,Nat.le_succ_of_le h.plen,fun x hx=>(h.pnode x hx).up,by have:=h.next;omega,h.room⟩
theorem yS {n:List UInt8} (h:may n=true):n.length<=255:=by
 unfold may at h
 simp only[Bool.and_eq_true,decide_eq_true_eq]at h
 exact h.1.1.1.2
theorem zei (n:List UInt8) (i:Int) (es:List z6):(zY n i es).length<=es.length+1:=by
 unfold zY
 rw[VA]
 have:=YJ (key:=z6.name) n es
 omega
theorem V2 {N:Nat} {x:zA} (h:U7 N x) {n:List UInt8} (hn:n.length<=300) (i:Int):U7 (N+1) (qq x (zY n i x.es)):=by
 refine ⟨?_,h.2.1,fun e he=>?_⟩
 ·have:=zei n i x.es
  have:=h.1
  show (zY n i x.es).length<=N+1
  omega
 ·rcases VC he with rfl | he
  ·exact hn
  ·exact h.2.2 e he
theorem Vo {N:Nat} {x:zA} (h:U7 N x) (n:List UInt8):U7 N (qq x (zh n x.es)):=by
 refine ⟨?_,h.2.1,fun e he=>h.2.2 e (J2 he).1⟩
 have:=YJ (key:=z6.name) n x.es
 have:=h.1
 show (JJ z6.name n x.es).length<=N
 omega
theorem jK {N:Nat} {xs:List zA} (h:∀ x∈xs,U7 N x) {n:Int} (hh:zG n xs=true):U7 N (zg n xs):=h _ (zm hh).2.1
theorem Zy {N:Nat} {xs:List zA} {x:zA} (h:∀ x∈xs,U7 N x) (hx:U7 N x):∀ z∈qF x xs,U7 N z:=fun z hz=>by
 rcases jJ.1 hz with rfl | ⟨hz,_⟩
 ·exact hx
 ·exact h z hz
theorem XV {x:zA} {xs:List zA} (hR:qc xs) (hh:zG x.ino xs=true):(qF x xs).length=xs.length:=by rw[←xd hR hh];simp
theorem jQ {xs:List zA} {n:Int} {F:List z6->List z6} (hR:qc xs) (hh:zG n xs=true):(qI n F xs).length=xs.length:=by
 unfold qI
 refine XV hR ?_
 show zG (zg n xs).ino xs=true
 rw[(zm hh).2.2];exact hh
theorem vr {f:FsV} (hf:FsI f) {p:List UInt8} (hp:zP p=true) (h:(atV f p).2=0):(atV f p).1.name.length<=300:=by
 have h1:=(zlU hf hp h).2.2.2
 unfold zP Yj at hp
 simp only[Bool.and_eq_true]at hp
 have:=yS (List.all_eq_true.1 hp.1.2 _ h1)
 omega
theorem Zu {f:FsV} {p:List UInt8} {b:Bool} (h:(isV f p b).2.2=0):(atV f p).2=0:=by
 unfold isV at h
 simp only at h
 by_cases h0:(atV f p).2≠0
 ·rw[if_pos h0]at h;exact h
 ·exact Classical.not_not.1 h0
theorem zl0 {N:Nat} {w:qy} (hw:Xl w) (hb:zbi N w) {p:List UInt8} (hp:zP p=true) {k:Int} {t:List UInt8} (ht:t.length<=5000):zbi (N+1) (Jk w p k t).1:=by
 unfold Jk
 by_cases h:(isV w.fs p false).2.2≠0
 ·rw[if_pos h];exact hb.up
 rw[if_neg h]
 have h:=Classical.not_not.1 h
 have hs:=JH hw.fs hp h
 unfold Zq
 by_cases h1:may (isV w.fs p false).1.name=true
 ·rw[if_pos h1]
  by_cases h2:Jq w.fs 1 (if k=1 then (t.length:Int) else 0)=true
  ·rw[if_pos h2]
   have hl:=yS h1
   refine ⟨?_,?_,by have:=hb.klen;show w.kept.length<=N+1;omega,hb.kdata,by have:=hb.plen;show w.pool.length<=N+1;omega,fun x hx=>(hb.pnode x hx).up,?_,hb.room⟩
   ·show (qF _ _).length<=N+1
    refine Nat.le_trans zdN ?_
    rw[jQ hw.fs.rises hs.has]
    have:=hb.len;omega
   ·refine Zy (fun z hz=>?_) ⟨Nat.zero_le _,ht,fun e he=>by cases he⟩
    rcases (jR hs.has).1 hz with rfl | ⟨hz,_⟩
    ·exact V2 (jK hb.node hs.has) (by omega) _
    ·exact (hb.node z hz).up
   ·show w.fs.next+1<=_
    have:=hb.next;omega
  ·rw[if_neg h2];exact hb.up
 ·rw[if_neg h1];exact hb.up
theorem fsB {N:Nat} {w:qy} (hb:zbi N w) {g:FsV} (h1:g.xs.length<=N+1) (h2:∀ x∈g.xs,U7 (N+1) x) (h3:g.next=w.fs.next) (h4:g.maxI=w.fs.maxI/\g.maxB=w.fs.maxB):zbi (N+1) { w with fs:=g }:=
 ⟨h1,h2,Nat.le_succ_of_le hb.klen,hb.kdata,Nat.le_succ_of_le hb.plen,fun x hx=>(hb.pnode x hx).up,by show g.next<=_;rw[h3];have:=hb.next;omega,by show g.maxI<=_/\g.maxB<=_/\_<=g.maxI/\_<=g.maxB;rw[h4.1,h4.2];exact hb.room⟩
theorem Nu (k:zN) (ks:List zN):(qr k ks).length=ks.length+1:=VA k ks
theorem zlg {N:Nat} {f:FsV} (hf:FsI f) (h1:f.xs.length<=N) (h2:∀ x∈f.xs,U7 N x) {s:qM} (hs:qh f s):(zS f s).xs.length<=N/\(∀ x∈(zS f s).xs,U7 N x)/\(zS f s).next=f.next/\(zS f s).maxI=f.maxI/\(zS f s).maxB=f.maxB:=by
 have hi:=qh.ino hf hs
 have hd:∀ z∈qI s.dir (zh s.name) f.xs,U7 N z:=fun z hz=>by
  rcases (jR hs.has).1 hz with rfl | ⟨hz,_⟩
  ·exact Vo (jK h2 hs.has) _
  ·exact h2 z hz
 have hl:=jQ (F:=zh s.name) hf.rises hs.has
 unfold zS
 split
 ·refine ⟨?_,fun x hx=>hd x (Ul.1 hx).1,rfl,rfl,rfl⟩
  show (qk _ _).length<=N
  exact Nat.le_trans Q6 (by rw[hl];exact h1)
 ·refine ⟨?_,Zy hd (jK h2 hi),rfl,rfl,rfl⟩
  show (qF _ _).length<=N
  rw[XV (show qc (qI s.dir (zh s.name) f.xs) from qd hf.rises) ?_,hl]
  ·exact h1
  ·show zG (zg s.ino f.xs).ino (qI _ _ _)=true
   rw[(zm hi).2.2,qg hs.has];exact hi
theorem doB {N:Nat} {w:qy} (hw:Xl w) (hb:zbi N w) (o:OpV) (hd:o.d.length<=5000) (hk:o.kind<=7):zbi (N+1) (doV w o).1:=by
 unfold doV
 cases hm:Z4 o with
 | false=>exact hb.up
 | true =>
  obtain ⟨p1,p2,k1,_⟩:=XT hm
  rw[if_neg (by simp)]
  by_cases h1:o.kind=1
  ·rw[if_pos h1];exact zl0 hw hb p1 (by simp)
  rw[if_neg h1]
  by_cases h2:o.kind=2
  ·rw[if_pos h2]
   unfold j0
   split
   ·exact hb.up
   ·rename_i hfa
    have hfa:=Qm hw.fs p1 (Classical.not_not.1 hfa)
    refine zl0 hw hb (p2 (by rw[h2];rfl)) ?_
    rw[hfa.2.2]
    exact (jK hb.node hfa.1).2.1
  rw[if_neg h2]
  by_cases h3:o.kind=3
  ·rw[if_pos h3]
   have pb:=p2 (by rw[h3];rfl)
   unfold zU
   split
   ·exact hb.up
   ·rename_i hfa
    have hfa:=Qm hw.fs p1 (Classical.not_not.1 hfa)
    split
    ·exact hb.up
    ·rename_i hfb
     have hfb:=Qm hw.fs pb (Classical.not_not.1 hfb)
     split
     ·exact hb.up
     ·split
      ·exact hb.up
      ·rename_i hkd
       split
       ·exact hb.up
       ·rename_i hda
        have hkd:=Classical.not_not.1 hkd
        have hda:=Classical.not_not.1 hda
        unfold zW at hkd ⊢
        cases hn:U3 o.slot w.kept with
        | true=>rw[hn]at hkd;simp at hkd
        | false =>
         rw[if_neg (by simp)]
         unfold J7 at hda ⊢
         by_cases hr:Jq w.fs 0 (((zM w.fs o.a).1.data.length:Int)-(zg (zM w.fs o.b).1.ino w.fs.xs).data.length)=true
         ·rw[if_pos hr]
          have hg:=zm hfb.1
          refine ⟨?_,?_,?_,fun k hk=>?_,Nat.le_succ_of_le hb.plen,fun x hx=>(hb.pnode x hx).up,by have:=hb.next;show w.fs.next<=_;omega,hb.room⟩
          ·show (qF _ _).length<=N+1
           rw[XV hw.fs.rises (by show zG (zg _ _).ino _=true;rw[hg.2.2];exact hfb.1)]
           exact Nat.le_succ_of_le hb.len
          ·refine Zy (fun z hz=>(hb.node z hz).up) ?_
           have h7:=(jK hb.node hfb.1).up
           refine ⟨h7.1,?_,h7.2.2⟩
           show (zM w.fs o.a).1.data.length<=5000
           rw[hfa.2.2]
           exact (jK hb.node hfa.1).2.1
          ·show (qr _ _).length<=N+1
           rw[Nu]
           have:=hb.klen;omega
          ·rcases Zm.1 hk with rfl | hk
           ·exact (jK hb.node hfb.1).2.1
           ·exact hb.kdata k hk
         ·rw[if_neg hr]at hda;cases hda
  rw[if_neg h3]
  by_cases h4:o.kind=4
  ·rw[if_pos h4];exact zl0 hw hb p1 hd
  rw[if_neg h4]
  by_cases h5:o.kind=5
  ·rw[if_pos h5]
   have pb:=p2 (by rw[h5];rfl)
   unfold qE
   simp only
   split
   ·exact hb.up
   ·rename_i ha
    obtain ⟨t1,t2⟩:=jF hw.fs p1 (Classical.not_not.1 ha)
    split
    ·exact hb.up
    ·split
     ·exact hb.up
     ·rename_i hb2
      have hb2:=Classical.not_not.1 hb2
      have hfree:=JH hw.fs pb hb2
      have hi:=qh.ino hw.fs t1
      have e:(isV w.fs o.a true).2.1.ino=(isV w.fs o.a true).1.ino:=by rw[t2,(zm hi).2.2]
      rw[e]
      have hln:=vr hw.fs pb (Zu hb2)
      refine fsB hb ?_ ?_ rfl ⟨rfl,rfl⟩
      ·show (qF _ _).length<=N+1
       rw[XV (show qc (qI (isV w.fs o.b false).1.dir (zY (isV w.fs o.b false).1.name (isV w.fs o.a true).1.ino) w.fs.xs) from qd hw.fs.rises) (by show zG (zg _ _).ino _=true;rw[(zm hi).2.2,qg hfree.has];exact hi),jQ hw.fs.rises hfree.has]
       exact Nat.le_succ_of_le hb.len
      ·refine Zy (fun z hz=>?_) (jK hb.node hi).up
       rcases (jR hfree.has).1 hz with rfl | ⟨hz,_⟩
       ·exact V2 (jK hb.node hfree.has) hln _
       ·exact (hb.node z hz).up
  rw[if_neg h5]
  by_cases h6:o.kind=6
  ·rw[if_pos h6]
   have pb:=p2 (by rw[h6];rfl)
   unfold Jf
   split
   ·exact hb.up
   ·rename_i ha
    split
    ·exact hb.up
    ·rename_i hb2
     have hb2:=Classical.not_not.1 hb2
     obtain ⟨t1,t2⟩:=jF hw.fs p1 (Classical.not_not.1 ha)
     have hfree:=JH hw.fs pb hb2
     have hi:=qh.ino hw.fs t1
     have hln:=vr hw.fs pb (Zu hb2)
     obtain ⟨g1,hg1⟩:∃ g1,qI (isV w.fs o.a true).1.dir (zh (isV w.fs o.a true).1.name) w.fs.xs=g1:=⟨_,rfl⟩
     obtain ⟨g2,hg2⟩:∃ g2,qI (isV w.fs o.b false).1.dir (zY (isV w.fs o.b false).1.name (isV w.fs o.a true).1.ino) g1=g2:=⟨_,rfl⟩
     have hR1:qc g1:=by rw[←hg1];exact qd hw.fs.rises
     have hb1:zG (isV w.fs o.b false).1.dir g1=true:=by rw[←hg1,qg t1.has];exact hfree.has
     have hn1:∀ z∈g1,U7 N z:=fun z hz=>by
      rw[←hg1]at hz
      rcases (jR t1.has).1 hz with rfl | ⟨hz,_⟩
      ·exact Vo (jK hb.node t1.has) _
      ·exact hb.node z hz
     have hn2:∀ z∈g2,U7 (N+1) z:=fun z hz=>by
      rw[←hg2]at hz
      rcases (jR hb1).1 hz with rfl | ⟨hz,_⟩
      ·exact V2 (jK hn1 hb1) hln _
      ·exact (hn1 z hz).up
     have hl2:g2.length=w.fs.xs.length:=by rw[←hg2,jQ hR1 hb1,←hg1,jQ hw.fs.rises t1.has]
     have hi2:zG (isV w.fs o.a true).1.ino g2=true:=by rw[←hg2,qg hb1,←hg1,qg t1.has];exact hi
     have hR2:qc g2:=by rw[←hg2];exact qd hR1
     unfold Q7
     rw[hg1,hg2]
     simp only
     split
     ·refine fsB hb ?_ (Zy hn2 (jK hn2 hi2)) rfl ⟨rfl,rfl⟩
      show (qF _ _).length<=N+1
      rw[XV hR2 (by show zG (zg _ _).ino _=true;rw[(zm hi2).2.2];exact hi2),hl2]
      exact Nat.le_succ_of_le hb.len
     ·refine fsB hb ?_ hn2 rfl ⟨rfl,rfl⟩
      show g2.length<=N+1
      rw[hl2];exact Nat.le_succ_of_le hb.len
  rw[if_neg h6]
  unfold qu
  simp only
  split
  ·exact hb.up
  ·rename_i ha
   split
   ·exact hb.up
   ·obtain ⟨t1,t2⟩:=jF hw.fs p1 (Classical.not_not.1 ha)
    have hi:=qh.ino hw.fs t1
    unfold JO
    split
    ·exact hb.up
    ·obtain ⟨u1,u2,u3,u4,u5⟩:=zlg hw.fs hb.len hb.node t1
     refine ⟨Nat.le_succ_of_le u1,fun x hx=>(u2 x hx).up,?_,fun k hk=>?_,?_,fun x hx=>?_,?_,?_⟩
     ·show (qr _ _).length<=N+1
      rw[Nu]
      have:=hb.klen;omega
     ·rcases Zm.1 hk with rfl | hk
      ·exact Nat.zero_le _
      ·exact hb.kdata k hk
     ·show (if _ then _ else _:List zA).length<=N+1
      split
      ·exact Nat.le_trans zdN (by have:=hb.plen;omega)
      ·exact Nat.le_succ_of_le hb.plen
     ·have hx:x∈(if (zg (isV w.fs o.a true).1.ino w.fs.xs).links=1 then qF { zg (isV w.fs o.a true).1.ino w.fs.xs with links:=0,parent:=0 } w.pool else w.pool):=hx
      split at hx
      ·exact Zy (x:={ zg (isV w.fs o.a true).1.ino w.fs.xs with links:=0,parent:=0 }) (fun z hz=>(hb.pnode z hz).up) (show U7 (N+1) _ from (jK hb.node hi).up) x hx
      ·exact (hb.pnode x hx).up
     ·show (zS _ _).next<=_
      rw[u3];have:=hb.next;omega
     ·show (zS _ _).maxI<=_/\(zS _ _).maxB<=_/\_<=(zS _ _).maxI/\_<=(zS _ _).maxB
      rw[u4,u5];exact hb.room
end
section
open CA CB
open Go.RowKit
section
variable {G:zq}
theorem x6 (f:FsV):Fun Tryz.prog G 229 [.agg (fsC f)] (.sc (.int .i64 (f.xs.length:Nat))) 0:=by
 refine fon Tryz.func229 ?_;dsimp only[Tryz.f229]
 push_cast -dsimp
 exact dn (by push_cast -dsimp [zb,za,CLe,ze,show (zr f.xs).length=f.xs.length from List.length_map ..])
theorem uS (f:FsV) (hf:FsS f):Fun Tryz.prog G 230 [.agg (fsC f)] (.sc (.int .i64 (jd f.xs:Nat))) 0:=by
 have hll:(zr f.xs).length=f.xs.length:=List.length_map ..
 have hb:=hf.bytes
 have h4:=hf.len
 have hb0:jd []=0:=rfl
 have hmono:∀ i,jd (f.xs.take i)<=100000000:=fun i=>by
  have h1:=UA (xs:=f.xs.take i) (n:=10000) fun x hx=>(hf.node x (List.mem_of_mem_take hx)).2.1
  have h2:(f.xs.take i).length<=10000:=by rw[List.length_take];have:=hf.len;omega
  have:(f.xs.take i).length*10000<=10000*10000:=Nat.mul_le_mul_right _ h2
  omega
 refine fon Tryz.func230 ?_;dsimp only[Tryz.f230]
 push_cast -dsimp
 refine loop (fun i:Nat=>⟨[(1,.ptr 0 0),(3,.sc (.int .i64 (jd (f.xs.take i):Nat))),(7,.sc (.int .i64 (f.xs.length:Nat))),(8,.sc (.int .i64 i))],[fsC f],0,0⟩) (fun i=>i<=f.xs.length) (fun i=>f.xs.length-i) 0 (Nat.zero_le _) ?_ ?_
 ·exact wk (by push_cast -dsimp [zb,za,CLe,ze,hb0,hll,List.take_zero])
 ·intro i h1
  by_cases h:i<f.xs.length
  ·have g1:=jg f.xs i h
   have ht:=kZ h
   have hm:=hmono (i+1)
   have hm0:=hmono i
   rw[ht]at hm
   by_cases hk:f.xs[i].kind=1
   ·rw[if_pos hk]at ht hm
    push_cast -dsimp [hll,h,g1,hk]
    repeat refine an ?_
    exact ⟨i+1,h,by omega,wk (by push_cast -dsimp [zb,za,CLe,ze,ht])⟩
   ·rw[if_neg hk]at ht hm
    push_cast -dsimp [hll,h,g1,hk]
    repeat refine an ?_
    exact ⟨i+1,h,by omega,wk (by push_cast -dsimp [zb,za,CLe,ze,ht,Nat.add_zero])⟩
  ·rw[List.take_of_length_le (by omega)]
   push_cast -dsimp [hll,h]
   exact dn
theorem UR (f:FsV) (hf:FsS f) (n b:Int) (hn:-1000000000<=n/\n<=1000000000) (hb:-1000000000<=b/\b<=1000000000):Fun Tryz.prog G 200 [.agg (fsC f),.sc (.int .i64 n),.sc (.int .i64 b)] (.sc (.bool (Jq f n b))) 0:=by
 have h1:=x6 (G:=G) f
 have h2:=uS (G:=G) f hf
 have h3:=hf.bytes
 have h4:=hf.len
 by_cases c1:(f.xs.length:Int)+n<=f.maxI
 ·have e:Jq f n b=decide ((jd f.xs:Int)+b<=f.maxB):=by unfold Jq;rw[decide_eq_true c1,Bool.true_and]
  refine fon Tryz.func200 ?_;dsimp only[Tryz.f200]
  push_cast -dsimp
  refine cl (h1) ?_;push_cast -dsimp [c1]
  repeat refine an ?_
  refine cl (h2) ?_;push_cast -dsimp
  repeat refine an ?_
  exact dn (by push_cast -dsimp [zb,za,CLe,ze,e])
 ·have e:Jq f n b=false:=by unfold Jq;rw[decide_eq_false c1,Bool.false_and]
  refine fon Tryz.func200 ?_;dsimp only[Tryz.f200]
  push_cast -dsimp
  refine cl (h1) ?_;push_cast -dsimp [c1]
  repeat refine an ?_
  exact dn (by push_cast -dsimp [zb,za,CLe,ze,e])
end
end
section
open CA CB
open Go.RowKit
abbrev YG (s:qM):List C:=[.sc (.int .i64 s.dir),.str s.name,.sc (.int .i64 s.ino)]
theorem FsS.es {f:FsV} (h:FsS f) {n:Int} (hh:zG n f.xs=true):(zg n f.xs).es.length<=10000:=(h.node _ (zm hh).2.1).1
theorem NO {xs:List (List UInt8)} {k:Nat} (h:k<xs.length):(qv xs)[k]?=some [.str xs[k]]:=by simp[List.getElem?_map,List.getElem?_eq_getElem h]
theorem vv (f:FsV) (hf:FsI f) (hs:FsS f) (p:List UInt8) (hp:p.length<=100000):Fun Tryz.prog G0 199 [.agg (fsC f),.str p] (.tup [.agg (YG (atV f p).1),.sc (.int .i64 (atV f p).2)]) 0:=by
 have hpl:=NG p (by omega)
 have hlen:=hs.len
 have hnl:(zJ p).length<=100000:=by have:=Jc p;omega
 cases hpp:Yj p with
 | false =>
  have e:atV f p=(Qj,9):=by unfold atV;rw[hpp];rfl
  unfold Ys at hpl
  rw[hpp]at hpl
  refine fon Tryz.func199 ?_;dsimp only[Tryz.f199]
  push_cast -dsimp
  refine cl (hpl) ?_;push_cast -dsimp
  exact dn (by push_cast -dsimp [zb,za,CLe,ze,e,Qj])
 | true =>
  have e:atV f p=atW f.xs (zJ p) ⟨0,[],1⟩:=by unfold atV;rw[hpp];rfl
  unfold Ys at hpl
  rw[hpp,if_pos rfl]at hpl
  generalize zJ p=ns at hpl hnl e
  have hsl:(qv ns).length=ns.length:=List.length_map ..
  refine fon Tryz.func199 ?_;dsimp only[Tryz.f199]
  push_cast -dsimp
  refine cl (hpl) ?_;push_cast -dsimp
  refine loop (fun x:Nat×qM=>⟨[(1,.str p),(2,.ptr 0 0),(4,.ptr 1 0),(8,.ptr 2 0),(24,.own 0 9 1 (qv ns)),(25,.sc (.int .i64 (ns.length:Nat))),(26,.sc (.int .i64 x.1))],[fsC f,[.sc (.int .i64 0),.str [],.sc (.int .i64 0)],YG x.2],1,0⟩)
   (fun x=>x.1<=ns.length/\atW f.xs ns ⟨0,[],1⟩=atW f.xs (ns.drop x.1) x.2/\(x.2.ino≠0->zG x.2.ino f.xs=true)) (fun x=>ns.length-x.1) (0,⟨0,[],1⟩) ⟨Nat.zero_le _,rfl,fun _=>hf.root⟩ ?_ ?_
  ·exact wks [.inl 0] (by push_cast -dsimp [zb,za,CLe,ze,hsl])
  rintro ⟨k,s⟩ ⟨hk,hat,hin⟩
  simp only at hk hat hin ⊢
  by_cases hlt:k<ns.length
  ·have gs:=NO hlt
   have hdr:ns.drop k=ns[k] :: ns.drop (k+1):=List.drop_eq_getElem_cons hlt
   obtain ⟨nm,hnm⟩:∃ nm,ns[k]=nm:=⟨_,rfl⟩
   rw[hnm]at gs hdr
   have hg:=jO (G:=G0) f s.ino (by omega) hf.rises
   cases hh:zG s.ino f.xs with
   | false =>
    have h0:s.ino=0:=Classical.byContradiction fun hne=>by rw[hin hne]at hh;cases hh
    have hr:atV f p=(Qj,1):=by rw[e,hat,hdr];unfold atW;rw[if_pos h0]
    rw[hh]at hg
    push_cast -dsimp [hlt,gs]
    repeat refine an ?_
    refine cl (hg) ?_;push_cast -dsimp
    exact dn (by push_cast -dsimp [zb,za,CLe,ze,hr,Qj])
   | true =>
    have hn0:s.ino≠0:=zdP hf hh
    have hgg:=zm hh
    rw[hh]at hg
    by_cases hk2:(zg s.ino f.xs).kind=2
    ·have hfd:=zex (G:=G0) (zg s.ino f.xs).es nm (by have:=hs.es hh;omega) (hf.es _ hgg.2.1)
     have hnx:atW f.xs ns ⟨0,[],1⟩=atW f.xs (ns.drop (k+1)) ⟨(zg s.ino f.xs).ino,nm,jP nm (zg s.ino f.xs).es⟩:=by
      rw[hat,hdr]
      conv=>lhs;unfold atW
      rw[if_neg hn0,if_neg (by simp[hk2])]
     have hin2:jP nm (zg s.ino f.xs).es≠0->zG (jP nm (zg s.ino f.xs).es) f.xs=true:=fun hne=>by
      refine xx hf hh ?_
      unfold VH
      rw[jz]
      cases hq:Jm z6.name nm (zg s.ino f.xs).es with
      | some e=>rfl
      | none=>unfold jP at hne;rw[hq]at hne;exact absurd rfl hne
     push_cast -dsimp [hlt,gs]
     repeat refine an ?_
     refine cl (hg) ?_;push_cast -dsimp [hk2]
     refine cl (hfd) ?_;push_cast -dsimp
     repeat refine an ?_
     exact ⟨(k+1,⟨(zg s.ino f.xs).ino,nm,jP nm (zg s.ino f.xs).es⟩),⟨hlt,hnx,hin2⟩,by simp only;omega,wks [.inl 0]⟩
    ·have hr:atV f p=(Qj,3):=by rw[e,hat,hdr];unfold atW;rw[if_neg hn0,if_pos hk2]
     push_cast -dsimp [hlt,gs]
     repeat refine an ?_
     refine cl (hg) ?_;push_cast -dsimp [hk2]
     exact dn (by push_cast -dsimp [zb,za,CLe,ze,hr,Qj])
  ·have hr:atV f p=(s,0):=by rw[e,hat,List.drop_of_length_le (by omega)];unfold atW;rfl
   push_cast -dsimp [hlt]
   exact dn (by push_cast -dsimp [zb,za,CLe,ze,hr])
end
section
open CA CB
open Go.RowKit
abbrev zld (f:FsV):Prop:=0<=f.next/\f.next<=4000000000000000000
theorem UG {f:FsV} (hf:FsI f):f.xs≠[]:=fun h=>by have:=hf.root;rw[h]at this;cases this
theorem YQ {f:FsV} (hf:FsI f) {n:Int} (hh:zG n f.xs=true):JA (zg n f.xs).es:=hf.es _ (zm hh).2.1
theorem Fun.argsLe {P:Program} {G:zq} {f:FuncId} {args args':List C} {r:C} {n:Nat} (h:Fun P G f args r n) (ha:∀ R vs,zw R zH args' vs->zw R zH args vs):Fun P G f args' r n:=
 ⟨h.1,fun R vs hg hv=>h.2 R vs hg (ha R vs hv)⟩
theorem uG {R:Env} {L:Loc} {k:Nat} {v:Value} (h:Rep R L (.sc (.slice none 0 0)) v):Rep R L (.sl k []) v:=by
 rw[zo]at h
 subst h
 unfold Rep
 exact ⟨none,0,rfl,Nat.le_refl _,Nat.zero_le _,.inl rfl⟩
theorem zkL {G:zq} (f:FsV) (x:zA) (hx:x.es = []) (hl:f.xs.length<=90000) (hR:qc f.xs) :
  Fun Tryz.prog G 203 [.agg (fsC f),.agg [.sc (.int .i64 x.ino),.sc (.int .i64 x.kind),.sc (.int .i64 x.links),.str x.data,.sc (.int .i64 x.parent),.sc (.slice none 0 0)]] (.agg [.sc (.int .i64 f.maxI),.sc (.int .i64 f.maxB),.sc (.int .i64 f.next),.own 0 75 6 (zr (qF x f.xs))]) 1:=by
 refine (YH f x hl hR).argsLe fun R vs h=>?_
 obtain ⟨v1,us1,rfl,h1,h⟩:=zd.1 h
 obtain ⟨v2,us2,rfl,h2,h⟩:=zd.1 h
 refine zd.2 ⟨_,_,rfl,h1,zd.2 ⟨_,_,rfl,?_,h⟩⟩
 obtain ⟨ws,rfl,hw⟩:=jN.1 h2
 obtain ⟨w1,t1,e1,g1,hw⟩:=zd.1 hw
 obtain ⟨w2,t2,e2,g2,hw⟩:=zd.1 hw
 obtain ⟨w3,t3,e3,g3,hw⟩:=zd.1 hw
 obtain ⟨w4,t4,e4,g4,hw⟩:=zd.1 hw
 obtain ⟨w5,t5,e5,g5,hw⟩:=zd.1 hw
 obtain ⟨w6,t6,e6,g6,hw⟩:=zd.1 hw
 refine jN.2 ⟨ws,rfl,?_⟩
 have g6':Rep R zH (.sl 2 (zI x.es)) w6:=by rw[hx];exact uG g6
 rw[e1,e2,e3,e4,e5,e6]
 exact zd.2 ⟨_,_,rfl,g1,zd.2 ⟨_,_,rfl,g2,zd.2 ⟨_,_,rfl,g3,zd.2 ⟨_,_,rfl,g4,zd.2 ⟨_,_,rfl,g5,zd.2 ⟨_,_,rfl,g6',hw⟩⟩⟩⟩⟩⟩
theorem zaC (f:FsV) (hf:FsI f) (hs:FsS f) (hn:zld f) (s:qM) (hsp:XB f s) (hnl:s.name.length<=100000) (k:Int) (t:List UInt8) (ht:t.length<=100000) :
  Fun Tryz.prog G0 166 [.agg (fsC f),.agg (YG s),.sc (.int .i64 k),.str t] (.tup [.agg (fsC (Zq f s k t).1),.sc (.int .i64 (Zq f s k t).2)]) 0:=by
 have hm:=ze2 s.name (by omega)
 have hlen:=hs.len
 cases hmay:may s.name with
 | false =>
  have e:Zq f s k t=(f,9):=by unfold Zq;rw[hmay];rfl
  rw[hmay]at hm
  by_cases hk:k=1
  ·have hk':=eq_true hk
   refine fof (fun j=>if j=14 then [false,false,false,false,false,true] else []) Tryz.func166 ?_;dsimp only[Tryz.f166]
   push_cast -dsimp [hk']
   refine cl (hm) ?_;push_cast -dsimp
   exact dn (by push_cast -dsimp [zb,za,CLe,ze,e])
  ·have hk':=eq_false hk
   refine fof (fun j=>if j=14 then [false,false,false,false,false,true] else []) Tryz.func166 ?_;dsimp only[Tryz.f166]
   push_cast -dsimp [hk']
   refine cl (hm) ?_;push_cast -dsimp
   exact dn (by push_cast -dsimp [zb,za,CLe,ze,e])
 | true =>
  rw[hmay]at hm
  have key:∀ b:Int,(if k=1 then (t.length:Int) else 0)=b->Jq f 1 b=false->Zq f s k t=(f,8):=fun b hb hr=>by unfold Zq;rw[hmay,if_pos rfl,hb,hr];rfl
  have key2:∀ b:Int,(if k=1 then (t.length:Int) else 0)=b->Jq f 1 b=true->Zq f s k t=(zaB f s k t,0):=fun b hb hr=>by unfold Zq;rw[hmay,if_pos rfl,hb,hr];rfl
  have hg:=jO (G:=G0) f s.dir (by omega) hf.rises
  rw[hsp.has]at hg
  have htk:=zic (G:=G0) f (by omega) (UG hf) (by have:=hn.1;omega) (by have:=hn.2;omega)
  have hes:=hs.es hsp.has
  have hw:=VT (G:=G0) (zg s.dir f.xs).es s.name f.next (by omega) (YQ hf hsp.has)
  have hd1:=YH (G:=G0) ⟨f.maxI,f.maxB,f.next+1,f.xs⟩ (qq (zg s.dir f.xs) (zY s.name f.next (zg s.dir f.xs).es)) (by simp only;omega) hf.rises
  have hdl:(qI s.dir (zY s.name f.next) f.xs).length=f.xs.length:=jQ hf.rises hsp.has
  have hd2:=fun pr:Int=>zkL (G:=G0) ⟨f.maxI,f.maxB,f.next+1,qI s.dir (zY s.name f.next) f.xs⟩ ⟨f.next,k,1,t,pr,[]⟩ rfl (by simp only;omega) (qd hf.rises)
  have hx0:k=2->zaB f s k t=⟨f.maxI,f.maxB,f.next+1,qF ⟨f.next,k,1,t,s.dir,[]⟩ (qI s.dir (zY s.name f.next) f.xs)⟩:=fun h=>by unfold zaB;rw[if_pos h]
  have hx1:k≠2->zaB f s k t=⟨f.maxI,f.maxB,f.next+1,qF ⟨f.next,k,1,t,0,[]⟩ (qI s.dir (zY s.name f.next) f.xs)⟩:=fun h=>by unfold zaB;rw[if_neg h]
  unfold qI at hd2 hx0 hx1
  by_cases hk:k=1
  ·have hk':=eq_true hk
   have hk2:(k=2)=False:=eq_false (by omega)
   have hr:=UR (G:=G0) f hs 1 t.length (by omega) (by omega)
   cases hrm:Jq f 1 t.length with
   | false =>
    have e:=key _ (if_pos hk) hrm
    rw[hrm]at hr
    refine fof (fun j=>if j=14 then [false,false,false,false,false,true] else []) Tryz.func166 ?_;dsimp only[Tryz.f166]
    push_cast -dsimp [hk']
    refine cl (hm) ?_;push_cast -dsimp
    refine cl (hr) ?_;push_cast -dsimp
    exact dn (by push_cast -dsimp [zb,za,CLe,ze,e])
   | true =>
    have e:=key2 _ (if_pos hk) hrm
    have ex:=hx1 (by omega)
    rw[hrm]at hr
    refine fof (fun j=>if j=14 then [false,false,false,false,false,true] else []) Tryz.func166 ?_;dsimp only[Tryz.f166]
    push_cast -dsimp [hk']
    refine cl (hm) ?_;push_cast -dsimp
    refine cl (hr) ?_;push_cast -dsimp
    refine cl (hg) ?_;push_cast -dsimp
    refine cl (htk) ?_;push_cast -dsimp [hk2]
    refine cl (hw) ?_;push_cast -dsimp
    refine cl (hd1) ?_;push_cast -dsimp
    refine cl (hd2 0) ?_;push_cast -dsimp
    exact dn (by push_cast -dsimp [zb,za,CLe,ze,e,ex])
  ·have hk':=eq_false hk
   have hr:=UR (G:=G0) f hs 1 0 (by omega) (by omega)
   cases hrm:Jq f 1 0 with
   | false =>
    have e:=key _ (if_neg hk) hrm
    rw[hrm]at hr
    refine fof (fun j=>if j=14 then [false,false,false,false,false,true] else []) Tryz.func166 ?_;dsimp only[Tryz.f166]
    push_cast -dsimp [hk']
    refine cl (hm) ?_;push_cast -dsimp
    refine cl (hr) ?_;push_cast -dsimp
    exact dn (by push_cast -dsimp [zb,za,CLe,ze,e])
   | true =>
    have e:=key2 _ (if_neg hk) hrm
    rw[hrm]at hr
    by_cases hk2:k=2
    ·have ex:=hx0 hk2
     have hk2':=eq_true hk2
     refine fof (fun j=>if j=14 then [false,false,false,false,false,true] else []) Tryz.func166 ?_;dsimp only[Tryz.f166]
     push_cast -dsimp [hk']
     refine cl (hm) ?_;push_cast -dsimp
     refine cl (hr) ?_;push_cast -dsimp
     refine cl (hg) ?_;push_cast -dsimp
     refine cl (htk) ?_;push_cast -dsimp [hk2']
     refine cl (hw) ?_;push_cast -dsimp
     refine cl (hd1) ?_;push_cast -dsimp
     refine cl (hd2 s.dir) ?_;push_cast -dsimp
     exact dn (by push_cast -dsimp [zb,za,CLe,ze,e,ex])
    ·have ex:=hx1 hk2
     have hk2':=eq_false hk2
     refine fof (fun j=>if j=14 then [false,false,false,false,false,true] else []) Tryz.func166 ?_;dsimp only[Tryz.f166]
     push_cast -dsimp [hk']
     refine cl (hm) ?_;push_cast -dsimp
     refine cl (hr) ?_;push_cast -dsimp
     refine cl (hg) ?_;push_cast -dsimp
     refine cl (htk) ?_;push_cast -dsimp [hk2']
     refine cl (hw) ?_;push_cast -dsimp
     refine cl (hd1) ?_;push_cast -dsimp
     refine cl (hd2 0) ?_;push_cast -dsimp
     exact dn (by push_cast -dsimp [zb,za,CLe,ze,e,ex])
end
section
open CA CB
open Go.RowKit
theorem zfr {g:zA->Nat} {n:Nat}:∀ {xs:List zA},(∀ x∈xs,g x<=n)->MY g xs<=xs.length*n
 | [],_=>by simp[MY]
 | x :: r,h=>by
  have ih:=zfr (g:=g) (n:=n) (xs:=r) fun y hy=>h y (List.mem_cons_of_mem _ hy)
  have hx:=h x List.mem_cons_self
  unfold MY at ih ⊢
  simp only[List.map_cons,List.sum_cons,List.length_cons]
  rw[Nat.succ_mul];omega
theorem VL {f:FsV} (hf:FsI f) (hs:FsS f) {n:Int} (hh:zG n f.xs=true):0<=(zg n f.xs).links/\(zg n f.xs).links<=100000000:=by
 have h1:=hf.links _ (zm hh).2.1
 have h2:=zfr (g:=JV (zg n f.xs).ino) (n:=10000) (xs:=f.xs) fun x hx=>Nat.le_trans (List.length_filter_le _ _) (hs.node x hx).1
 have h3:=hs.len
 have h4:f.xs.length*10000<=10000*10000:=Nat.mul_le_mul_right _ h3
 unfold JM at h1
 omega
theorem zgh (f:FsV) (hf:FsI f) (hs:FsS f) (s:qM) (hsp:XB f s) (i:Int) (hi:zG i f.xs=true) (hne:s.dir≠i):Fun Tryz.prog G0 171 [.agg (fsC f),.agg (YG s),.sc (.int .i64 i)] (.agg (fsC (V3 f s i))) 0:=by
 have hlen:=hs.len
 have hg:=jO (G:=G0) f s.dir (by omega) hf.rises
 rw[hsp.has]at hg
 have hes:=hs.es hsp.has
 have hw:=VT (G:=G0) (zg s.dir f.xs).es s.name i (by omega) (YQ hf hsp.has)
 have hd1:=YH (G:=G0) f (qq (zg s.dir f.xs) (zY s.name i (zg s.dir f.xs).es)) (by omega) hf.rises
 have hdl:(qI s.dir (zY s.name i) f.xs).length=f.xs.length:=jQ hf.rises hsp.has
 have hR1:qc (qI s.dir (zY s.name i) f.xs):=qd hf.rises
 have hg2:=jO (G:=G0) ⟨f.maxI,f.maxB,f.next,qI s.dir (zY s.name i) f.xs⟩ i (by simp only;omega) hR1
 simp only at hg2
 rw[qg hsp.has,hi,J1 hsp.has,if_neg hne]at hg2
 have hl:=VL hf hs hi
 have hd2:=YH (G:=G0) ⟨f.maxI,f.maxB,f.next,qI s.dir (zY s.name i) f.xs⟩ { zg i f.xs with links:=(zg i f.xs).links+1 } (by simp only;omega) hR1
 have e:V3 f s i=⟨f.maxI,f.maxB,f.next,qF { zg i f.xs with links:=(zg i f.xs).links+1 } (qI s.dir (zY s.name i) f.xs)⟩:=rfl
 unfold qI at hg2 hd2 e
 refine fon Tryz.func171 ?_;dsimp only[Tryz.f171]
 push_cast -dsimp
 refine cl (hg) ?_;push_cast -dsimp
 refine cl (hw) ?_;push_cast -dsimp
 refine cl (hd1) ?_;push_cast -dsimp
 refine cl (hg2) ?_;push_cast -dsimp
 repeat refine an ?_
 refine cl (hd2) ?_;push_cast -dsimp
 exact dn (by push_cast -dsimp [zb,za,CLe,ze,e])
theorem zbt (f:FsV) (hf:FsI f) (hs:FsS f) (s:qM) (hsp:qh f s) (hne:s.dir≠s.ino):Fun Tryz.prog G0 174 [.agg (fsC f),.agg (YG s)] (.agg (fsC (zS f s))) 0:=by
 have hi:=qh.ino hf hsp
 have hlen:=hs.len
 have hg:=jO (G:=G0) f s.dir (by omega) hf.rises
 rw[hsp.has]at hg
 have hes:=hs.es hsp.has
 have hhe:JQ z6.name s.name (zg s.dir f.xs).es=true:=by rw[jz,hsp.there];rfl
 have hw:=Z7 (G:=G0) (zg s.dir f.xs).es s.name (by omega) (YQ hf hsp.has) hhe
 have hd1:=YH (G:=G0) f (qq (zg s.dir f.xs) (zh s.name (zg s.dir f.xs).es)) (by omega) hf.rises
 have hdl:(qI s.dir (zh s.name) f.xs).length=f.xs.length:=jQ hf.rises hsp.has
 have hR1:qc (qI s.dir (zh s.name) f.xs):=qd hf.rises
 have hg2:=jO (G:=G0) ⟨f.maxI,f.maxB,f.next,qI s.dir (zh s.name) f.xs⟩ s.ino (by simp only;omega) hR1
 simp only at hg2
 rw[qg hsp.has,hi,J1 hsp.has,if_neg hne]at hg2
 have hl:=VL hf hs hi
 have hxi:=(zm hi).2.2
 have hd2:=YH (G:=G0) ⟨f.maxI,f.maxB,f.next,qI s.dir (zh s.name) f.xs⟩ { zg s.ino f.xs with links:=(zg s.ino f.xs).links-1 } (by simp only;omega) hR1
 have hd3:=zf1 (G:=G0) ⟨f.maxI,f.maxB,f.next,qI s.dir (zh s.name) f.xs⟩ s.ino (by simp only;omega) hR1 (by intro h;have h0:f.xs = []:=List.length_eq_zero_iff.1 (by rw[←hdl];exact congrArg List.length h);exact UG hf h0)
 have e0:zS f s=if (zg s.ino f.xs).links-1=0 then ⟨f.maxI,f.maxB,f.next,qk s.ino (qI s.dir (zh s.name) f.xs)⟩ else ⟨f.maxI,f.maxB,f.next,qF { zg s.ino f.xs with links:=(zg s.ino f.xs).links-1 } (qI s.dir (zh s.name) f.xs)⟩:=rfl
 unfold qI at hg2 hd2 hd3 e0
 by_cases hz:(zg s.ino f.xs).links-1=0
 ·rw[if_pos hz]at e0
  have hz':=eq_true hz
  rw[←hxi]at hd3
  refine fon Tryz.func174 ?_;dsimp only[Tryz.f174]
  push_cast -dsimp
  refine cl (hg) ?_;push_cast -dsimp
  refine cl (hw) ?_;push_cast -dsimp
  refine cl (hd1) ?_;push_cast -dsimp
  refine cl (hg2) ?_;push_cast -dsimp [hz']
  repeat refine an ?_
  refine cl (hd3) ?_;push_cast -dsimp
  exact dn (by push_cast -dsimp [zb,za,CLe,ze,e0,hxi])
 ·rw[if_neg hz]at e0
  have hz':=eq_false hz
  refine fon Tryz.func174 ?_;dsimp only[Tryz.f174]
  push_cast -dsimp
  refine cl (hg) ?_;push_cast -dsimp
  refine cl (hw) ?_;push_cast -dsimp
  refine cl (hd1) ?_;push_cast -dsimp
  refine cl (hg2) ?_;push_cast -dsimp [hz']
  repeat refine an ?_
  refine cl (hd2) ?_;push_cast -dsimp
  exact dn (by push_cast -dsimp [zb,za,CLe,ze,e0])
theorem xo (f:FsV) (hf:FsI f) (hs:FsS f) (i:Int) (hi:zG i f.xs=true) (t:List UInt8) (ht:t.length<=10000):Fun Tryz.prog G0 169 [.agg (fsC f),.sc (.int .i64 i),.str t] (.tup [.agg (fsC (J7 f i t).1),.sc (.int .i64 (J7 f i t).2)]) 0:=by
 have hlen:=hs.len
 have hg:=jO (G:=G0) f i (by omega) hf.rises
 rw[hi]at hg
 have hdat:=(hs.node _ (zm hi).2.1).2.1
 have hr:=UR (G:=G0) f hs 0 ((t.length:Int)-((zg i f.xs).data.length:Int)) (by omega) (by omega)
 have hd:=YH (G:=G0) f { zg i f.xs with data:=t } (by omega) hf.rises
 cases hrm:Jq f 0 ((t.length:Int)-((zg i f.xs).data.length:Int)) with
 | false =>
  have e:J7 f i t=(f,8):=by unfold J7;rw[hrm];rfl
  rw[hrm]at hr
  refine fon Tryz.func169 ?_;dsimp only[Tryz.f169]
  push_cast -dsimp
  refine cl (hg) ?_;push_cast -dsimp
  repeat refine an ?_
  refine cl (hr) ?_;push_cast -dsimp
  exact dn (by push_cast -dsimp [zb,za,CLe,ze,e])
 | true =>
  have e:J7 f i t=(⟨f.maxI,f.maxB,f.next,qF { zg i f.xs with data:=t } f.xs⟩,0):=by unfold J7;rw[hrm];rfl
  rw[hrm]at hr
  refine fon Tryz.func169 ?_;dsimp only[Tryz.f169]
  push_cast -dsimp
  refine cl (hg) ?_;push_cast -dsimp
  repeat refine an ?_
  refine cl (hr) ?_;push_cast -dsimp
  refine cl (hd) ?_;push_cast -dsimp
  exact dn (by push_cast -dsimp [zb,za,CLe,ze,e])
end
section
open CA CB
open Go.RowKit
theorem ziz (f:FsV) (hf:FsI f) (hs:FsS f) (a b:qM) (ha:qh f a) (hb:XB f b) (hb0:b.ino=0):Fun Tryz.prog G0 172 [.agg (fsC f),.agg (YG a),.agg (YG b)] (.agg (fsC (Q7 f a b))) 0:=by
 have hai:=qh.ino hf ha
 have hlen:=hs.len
 have hhe:JQ z6.name a.name (zg a.dir f.xs).es=true:=by rw[jz,ha.there];rfl
 have hga:=jO (G:=G0) f a.dir (by omega) hf.rises
 rw[ha.has]at hga
 have hwa:=Z7 (G:=G0) (zg a.dir f.xs).es a.name (by have:=hs.es ha.has;omega) (YQ hf ha.has) hhe
 have hda:=YH (G:=G0) f (qq (zg a.dir f.xs) (zh a.name (zg a.dir f.xs).es)) (by omega) hf.rises
 obtain ⟨g1,hg1⟩:∃ g1,qI a.dir (zh a.name) f.xs=g1:=⟨_,rfl⟩
 obtain ⟨g2,hg2⟩:∃ g2,qI b.dir (zY b.name a.ino) g1=g2:=⟨_,rfl⟩
 have hR1:qc g1:=by rw[←hg1];exact qd hf.rises
 have hR2:qc g2:=by rw[←hg2];exact qd hR1
 have hl1:g1.length=f.xs.length:=by rw[←hg1];exact jQ hf.rises ha.has
 have hb1:zG b.dir g1=true:=by rw[←hg1,qg ha.has];exact hb.has
 have hl2:g2.length=f.xs.length:=by rw[←hg2,jQ hR1 hb1,hl1]
 have hi2:zG a.ino g2=true:=by rw[←hg2,qg hb1,←hg1,qg ha.has];exact hai
 have hgb:=jO (G:=G0) ⟨f.maxI,f.maxB,f.next,g1⟩ b.dir (by simp only;omega) hR1
 simp only at hgb
 rw[hb1]at hgb
 have hres:JA (zg b.dir g1).es/\(zg b.dir g1).es.length<=10000:=by
  rw[←hg1,J1 ha.has]
  split
  ·refine ⟨JP (YQ hf ha.has),?_⟩
   show (JJ z6.name _ _).length<=10000
   have:=YJ (key:=z6.name) a.name (zg a.dir f.xs).es
   have:=hs.es ha.has
   omega
  ·exact ⟨YQ hf hb.has,hs.es hb.has⟩
 have hwb:=VT (G:=G0) (zg b.dir g1).es b.name a.ino (by have:=hres.2;omega) hres.1
 have hdb:=YH (G:=G0) ⟨f.maxI,f.maxB,f.next,g1⟩ (qq (zg b.dir g1) (zY b.name a.ino (zg b.dir g1).es)) (by simp only;omega) hR1
 have hgx:=jO (G:=G0) ⟨f.maxI,f.maxB,f.next,g2⟩ a.ino (by simp only;omega) hR2
 simp only at hgx
 rw[hi2]at hgx
 have hxi:=(zm hi2).2.2
 have e0:Q7 f a b=if (zg a.ino g2).kind=2 then ⟨f.maxI,f.maxB,f.next,qF { zg a.ino g2 with parent:=b.dir } g2⟩ else ⟨f.maxI,f.maxB,f.next,g2⟩:=by unfold Q7;rw[hg1,hg2]
 have hdx:=fun x:zA=>YH (G:=G0) ⟨f.maxI,f.maxB,f.next,g2⟩ x (by simp only;omega) hR2
 have hda':Fun Tryz.prog G0 203 [.agg (fsC f),.agg (Yi (qq (zg a.dir f.xs) (zh a.name (zg a.dir f.xs).es)))] (.agg [.sc (.int .i64 f.maxI),.sc (.int .i64 f.maxB),.sc (.int .i64 f.next),.own 0 75 6 (zr g1)]) 1:=by rw[←hg1];exact hda
 have hdb':Fun Tryz.prog G0 203 [.agg (fsC ⟨f.maxI,f.maxB,f.next,g1⟩),.agg (Yi (qq (zg b.dir g1) (zY b.name a.ino (zg b.dir g1).es)))] (.agg [.sc (.int .i64 f.maxI),.sc (.int .i64 f.maxB),.sc (.int .i64 f.next),.own 0 75 6 (zr g2)]) 1:=by rw[←hg2];exact hdb
 have hb0':=eq_true hb0
 by_cases hk:(zg a.ino g2).kind=2
 ·rw[if_pos hk]at e0
  have hk':=eq_true hk
  have hd:=hdx { zg a.ino g2 with parent:=b.dir }
  refine fon Tryz.func172 ?_;dsimp only[Tryz.f172]
  push_cast -dsimp [hb0']
  refine cl (hga) ?_;push_cast -dsimp
  refine cl (hwa) ?_;push_cast -dsimp
  refine cl (hda') ?_;push_cast -dsimp
  refine cl (hgb) ?_;push_cast -dsimp
  refine cl (hwb) ?_;push_cast -dsimp
  refine cl (hdb') ?_;push_cast -dsimp
  refine cl (hgx) ?_;push_cast -dsimp [hk']
  refine cl (hd) ?_;push_cast -dsimp
  exact dn (by push_cast -dsimp [zb,za,CLe,ze,e0])
 ·rw[if_neg hk]at e0
  have hk':=eq_false hk
  have hsm:qF (zg a.ino g2) g2=g2:=MA hR2 (by rw[hxi];exact (zm hi2).1)
  have hd:=hdx (zg a.ino g2)
  rw[hsm]at hd
  refine fon Tryz.func172 ?_;dsimp only[Tryz.f172]
  push_cast -dsimp [hb0']
  refine cl (hga) ?_;push_cast -dsimp
  refine cl (hwa) ?_;push_cast -dsimp
  refine cl (hda') ?_;push_cast -dsimp
  refine cl (hgb) ?_;push_cast -dsimp
  refine cl (hwb) ?_;push_cast -dsimp
  refine cl (hdb') ?_;push_cast -dsimp
  refine cl (hgx) ?_;push_cast -dsimp [hk']
  refine cl (hd) ?_;push_cast -dsimp
  exact dn (by push_cast -dsimp [zb,za,CLe,ze,e0])
end
section
open Go.RowKit
section
variable {G:zq}
theorem kM (rows:List (List C)) (hk:∀ r∈rows,r.length=4) (hs:qV rows) (hl:rows.length<=100000) :
  JT Tryz.prog G 214 [.sl 4 rows] [] 0 (zcy 4 rows):=by
 refine JT.bySlice (fun h=>?_) (fun h a cap hr=>?_)
 ·refine foX (fun i=>if i=1000000+25 then [true,true] else []) Tryz.func214 ?_;dsimp only[Tryz.f214]
  push_cast -dsimp
  refine ⟨h,Qq UV VX rfl rfl (by decide) rfl (qf hk) rfl (Nat.le_refl _) (Nat.le_refl _) (by omega) (by omega) (fun hc=>absurd hc ?_) (fun _ c hc hm=>?_)⟩
  ·have:=List.length_pos_iff.2 h;omega
  ·push_cast -dsimp
   rw[Nat.zero_add]at hc
   refine ⟨_,_,_,⟨⟨rfl,.inl ⟨h,c,hc,hm,rfl,rfl⟩⟩,Nat.zero_le _⟩,[],rfl,rfl,?_,by push_cast -dsimp [zb,za,CLe,ze]⟩
   push_cast -dsimp [zb,za,CLe,ze]
   exact zp (zD hs)
 ·cases a with
  | none =>
   refine foX (fun i=>if i=1000000+25 then [true,true] else []) Tryz.func214 ?_;dsimp only[Tryz.f214]
   push_cast -dsimp [hr,Option.isNone_none]
   exact ⟨_,_,_,⟨⟨rfl,.inr ⟨h,.inl ⟨rfl,rfl⟩⟩⟩,Nat.zero_le _⟩,[],rfl,rfl,by push_cast -dsimp [zb,za,CLe,ze],by push_cast -dsimp [zb,za,CLe,ze]⟩
  | some a =>
   refine foX (fun i=>if i=1000000+25 then [true,true] else []) Tryz.func214 ?_;dsimp only[Tryz.f214]
   push_cast -dsimp [hr,Option.isNone_some]
   have hx:C.xs? 4 [[]] (C.sc (.slice (some a) 0 cap))=some (0,[]):=by simp[C.xs?,hr]
   refine Qq UV VX hx rfl (by decide) rfl rfl rfl (Nat.le_refl _) (Nat.le_refl _) (by omega) (by omega) (fun _=>?_) (fun hc=>absurd hc (by omega))
   push_cast -dsimp
   exact ⟨_,_,_,⟨⟨rfl,.inr ⟨h,.inr ⟨rfl,rfl⟩⟩⟩,Nat.zero_le _⟩,[],rfl,rfl,by (push_cast -dsimp [zb,za,CLe,ze];simp[spl,ze]),by push_cast -dsimp [zb,za,CLe,ze]⟩
theorem VP (rows:List (List C)) (x:List C) (i c e:Nat) (hk:∀ r∈rows,r.length=4) (hx:x.length=4) (hs:qV rows) (hsx:(x.all C.stayB)=true) (hl:rows.length<=100000) (hi:i<=rows.length) (hc:rows.length<=c) (hcm:c<=9223372036854775807) :
  JT Tryz.prog G 213 [.bs 0 0 4 rows.length c,.sc (.int .i64 i),.own 0 e 4 [x]] [qn 4 rows c] 1 (zoI 4 (c*4) (rows.take i++x :: rows.drop i)):=by
 refine foX (fun j=>if j=1000000+25 then [true,true] else if j=11 then [false,false,false,false,false,false,false,false,true] else if j=15 then [false,false,false,false,false,false,false,false,true] else []) Tryz.func213 ?_;dsimp only[Tryz.f213]
 push_cast -dsimp
 have hlen:(rows.take i++x :: rows.drop i).length=rows.length+1:=by simp;omega
 have hki:∀ r∈rows.take i++x :: rows.drop i,r.length=4:=fun r hr=>by
  rcases List.mem_append.1 hr with hr | hr
  ·exact hk r (List.mem_of_mem_take hr)
  ·rcases List.mem_cons.1 hr with rfl | hr
   ·exact hx
   ·exact hk r (List.mem_of_mem_drop hr)
 have hsi:qV (rows.take i++x :: rows.drop i):=fun r hr=>by
  rcases List.mem_append.1 hr with hr | hr
  ·exact hs r (List.mem_of_mem_take hr)
  ·rcases List.mem_cons.1 hr with rfl | hr
   ·exact hsx
   ·exact hs r (List.mem_of_mem_drop hr)
 have hbl:=Jv hk hc
 have hfl:=qf hk
 have hxl:[x].flatten.length=1*4:=by simp[hx]
 have hpre:(qn 4 rows c).take rows.flatten.length=rows.flatten:=by unfold qn;rw[List.take_left]
 refine ⟨hc,⟨by omega,hi⟩,br (fun h=>?_) (fun h=>?_)⟩
 ·push_cast -dsimp
  refine Qq UV VX rfl rfl (by decide) rfl hxl rfl (by rw[hbl];omega) hc (by simp;omega) (by simp;omega) (fun h1=>?_) (fun h1 c' h2 h3=>?_)
  ·push_cast -dsimp
   have hi':i=rows.length:=of_decide_eq_true h
   refine ⟨_,_,_,⟨⟨rfl,c,by rw[hlen];exact h1,hcm,.inl ⟨rfl,rfl⟩⟩,Nat.le_refl _⟩,[],rfl,rfl,?_,by push_cast -dsimp [zb,za,CLe,ze,hlen]⟩
   push_cast -dsimp [zb,za,CLe,ze]
   have h6:rows.length*4+4<=c*4:=by have:rows.length+1<=c:=h1;omega
   refine Jr hki hsi (by rw[hlen];exact h1) (by rw[Qr (by rw[hbl,hx];exact h6),hbl]) ?_
   rw[hlen,hi',List.take_length,List.drop_length]
   unfold spl
   rw[←hfl,hpre,List.take_left' (by simp[hx,hfl];omega)]
   simp
  ·push_cast -dsimp
   have hi':i=rows.length:=of_decide_eq_true h
   have h2':rows.length+1<=c':=h2
   refine ⟨_,_,_,⟨⟨rfl,c',by rw[hlen];exact h2,h3,.inr ⟨rfl,rfl⟩⟩,Nat.le_of_ble_eq_true rfl⟩,[],rfl,rfl,?_,by push_cast -dsimp [zb,za,CLe,ze,hlen]⟩
   push_cast -dsimp [zb,za,CLe,ze]
   refine ⟨Xa hbl,Jr hki hsi (by rw[hlen];exact h2) (by simp[hx,hbl];omega) ?_⟩
   rw[hlen,hi',List.take_length,List.drop_length,←hfl,hpre,List.take_left' (by simp[hx,hfl];omega)]
   simp
 ·have hne:i≠rows.length:=of_decide_eq_false h
  push_cast -dsimp
  refine ⟨⟨by omega,by omega⟩,br (fun h1=>?_) (fun h1=>?_)⟩
  ·have h1':(c:Int)<(rows.length:Int)+1:=of_decide_eq_true h1
   push_cast -dsimp
   repeat refine an ?_
   refine zkv UV zl7 VX rfl (by decide) rfl rfl (by rw[hbl];omega) (by omega) (by omega) (by omega) (by omega) (by omega) (fun c' B h2 h3 hBl hBt=>?_)
   have e1:((rows.length:Int)+1-(i:Int)).toNat=rows.length+1-i:=by omega
   rw[e1]at h2 ⊢
   have e2:i+(rows.length+1-i)=rows.length+1:=by omega
   rw[e2]at h2 ⊢
   push_cast -dsimp
   repeat refine an ?_
   refine Xq UV VX rfl rfl hxl (by rw[hBl];omega) (fun B1 hB1 hl1=>?_)
   rw[hBl]at hl1
   push_cast -dsimp
   repeat refine an ?_
   have hbp:=Y4 (c:=c) hk hi
   refine Xq UV VX (QJ rfl (by rw[hbl];omega)) rfl (by rw[hbp,List.length_drop,hfl];omega) (by rw[hl1];omega) (fun B2 hB2 hl2=>?_)
   rw[hl1]at hl2
   have hX:[x].flatten.take (min [x].length (rows.length+1-i)*4)=x:=by
    rw[List.length_singleton,Nat.min_eq_left (by omega),List.take_of_length_le (by omega)];simp
   rw[hX]at hB1
   rw[hbp,show min (rows.length-i) (rows.length-i)*4=(rows.length-i)*4 by omega,List.take_of_length_le (by rw[List.length_drop,hfl];omega),hB1]at hB2
   push_cast -dsimp
   refine ⟨_,_,_,⟨⟨rfl,c',by rw[hlen];exact h2,h3,.inr ⟨rfl,rfl⟩⟩,Nat.le_of_ble_eq_true rfl⟩,[],rfl,rfl,?_,by push_cast -dsimp [zb,za,CLe,ze,hlen]⟩
   push_cast -dsimp [zb,za,CLe,ze]
   refine ⟨Xa hbl,Jr hki hsi (by rw[hlen];exact h2) hl2 ?_⟩
   rw[hlen,←X3 hk,hB2]
   have hg:=Hq (cs:=B) (L:=rows.flatten) (X:=x) (p:=i*4) (q:=(i+1)*4) (by omega) (by omega) (by
    rw[hBt,List.drop_zero];unfold qn;rw[List.take_append_of_le_length (by omega)]) (by omega)
   rw[hfl,hx]at hg
   rw[←hg]
   congr 1;omega
  ·have h1':¬(c:Int)<(rows.length:Int)+1:=of_decide_eq_false h1
   push_cast -dsimp
   repeat refine an ?_
   refine zkn (x8 (P:=Tryz.prog) (tR:=4) Tryz.func239 (by kernel_rfl) (by kernel_rfl) (by kernel_rfl) (by kernel_rfl) UV VX rfl (List.ne_nil_of_length_pos (by rw[hbl];omega)) (by simp) (by omega)) ?_
   push_cast -dsimp
   repeat refine an ?_
   have hbp:=Y4 (c:=c) hk hi
   refine Xq UV VX (QJ rfl (by rw[hbl];omega)) rfl (by simp[hbl];omega) (by rw[hbl];omega) (fun B1 hB1 hl1=>?_)
   rw[hbl]at hl1
   rw[List.take_take,Nat.min_eq_left (by omega),show min (rows.length+1-i) (rows.length-i)*4=(rows.length-i)*4 by omega,hbp]at hB1
   push_cast -dsimp
   repeat refine an ?_
   refine Xq UV VX rfl rfl hxl (by rw[hl1];omega) (fun B2 hB2 hl2=>?_)
   rw[hl1]at hl2
   have hX:[x].flatten.take (min [x].length (rows.length+1-i)*4)=x:=by
    rw[List.length_singleton,Nat.min_eq_left (by omega),List.take_of_length_le (by omega)];simp
   rw[hX,hB1]at hB2
   push_cast -dsimp
   have hcc:rows.length+1<=c:=by omega
   refine ⟨_,_,_,⟨⟨rfl,c,by rw[hlen];exact hcc,hcm,.inl ⟨rfl,rfl⟩⟩,Nat.le_of_ble_eq_true rfl⟩,[],rfl,rfl,?_,by push_cast -dsimp [zb,za,CLe,ze,hlen]⟩
   push_cast -dsimp [zb,za,CLe,ze]
   refine Jr hki hsi (by rw[hlen];exact hcc) hl2 ?_
   rw[hlen,←X3 hk,hB2]
   have hg:=VY (cs:=qn 4 rows c) (L:=rows.flatten) (X:=x) (p:=i*4) (q:=(i+1)*4) (by omega) (by omega) hpre (by omega)
   rw[hfl,hx]at hg
   rw[←hg]
   congr 1;omega
theorem vL {e:Nat} (x:List C) (hx:x.length=4) (hsx:(x.all C.stayB)=true) :
  JT Tryz.prog G 213 [.sc (.slice none 0 0),.sc (.int .i64 0),.own 0 e 4 [x]] [] 1 (fun r bx' n=>n=0/\∃ c,1<=c/\c<=9223372036854775807/\r = .bs 0 0 4 1 c/\bx' = [qn 4 [x] c]):=by
 refine foX (fun j=>if j=1000000+25 then [true,true] else if j=11 then [false,false,false,false,false,false,false,false,true] else if j=15 then [false,false,false,false,false,false,false,false,true] else []) Tryz.func213 ?_;dsimp only[Tryz.f213]
 push_cast -dsimp
 refine Gs UV VX rfl rfl (by decide) rfl (by simp[hx]) (by simp) (by simp) (by simp) (fun c h1 h2=>?_)
 push_cast -dsimp
 refine ⟨_,_,_,⟨⟨rfl,c,h1,h2,rfl,rfl⟩,Nat.zero_le _⟩,[],rfl,rfl,?_,by push_cast -dsimp [zb,za,CLe,ze]⟩
 push_cast -dsimp [zb,za,CLe,ze]
 have:=zp (src:=[]) (n:=1) (zD (k:=4) (c:=c) (rows:=[x]) fun r hr=>by
  rw[List.mem_singleton.1 hr];exact hsx)
 unfold qn at this ⊢
 simpa using this
end
end
section
open CA CB
open Go.RowKit
abbrev jX (k:zN):List C:=[.sc (.int .i64 k.slot),.sc (.int .i64 k.ino),.sc (.bool k.content),.str k.data]
abbrev zF (ks:List zN):List (List C):=ks.map jX
theorem jE (ks:List zN) (i:Nat) (h:i<ks.length):(zF ks)[i]?=some (jX ks[i]):=by simp[List.getElem?_map,List.getElem?_eq_getElem h]
abbrev Ga (w:qy):List C:=[.sc (.int .i64 w.fs.maxI),.sc (.int .i64 w.fs.maxB),.sc (.int .i64 w.fs.next),.sl 6 (zr w.fs.xs),.sl 4 (zF w.kept),.sl 6 (zr w.pool)]
abbrev js (w:qy):C:=.agg (Ga w)
theorem zdW (a b:Int):VG a b<0↔jC.lt a b=true:=by
 show VG a b<0↔decide (a<b)=true
 unfold VG
 rw[decide_eq_true_eq]
 split
 ·simp;assumption
 ·split<;>omega
theorem zfS (a b:Int):VG a b=0↔a=b:=by
 unfold VG
 split
 ·constructor
  ·intro h;cases h
  ·intro h;omega
 ·split
  ·constructor
   ·intro h;cases h
   ·intro h;omega
  ·constructor
   ·intro _;omega
   ·intro _;rfl
section
variable {G:zq}
theorem zhR (k:zN):Fun Tryz.prog G 206 [.agg (jX k)] (.sc (.int .i64 k.slot)) 0:=by
 refine fon Tryz.func206 ?_;dsimp only[Tryz.f206]
 push_cast -dsimp
 exact dn
theorem uk (k:zN) (n:Int):Fun Tryz.prog G 235 [.agg (jX k),.sc (.int .i64 n),.row [.clo (.func 206) [] []]] (.sc (.int .i64 (VG k.slot n))) 0:=by
 refine fon Tryz.func235 ?_;dsimp only[Tryz.f235]
 push_cast -dsimp
 refine cl (zhR k) ?_;push_cast -dsimp
 refine cl (xJ k.slot n) ?_;push_cast -dsimp
 exact dn
theorem Nz (ks:List zN) (n:Int) (hl:ks.length<=100000) (hR:qA jC zN.slot ks) :
  Fun Tryz.prog G 234 [.sl 4 (zF ks),.sc (.int .i64 n),.clo (.func 235) [] [.row [.clo (.func 206) [] []]]] (.tup [.sc (.int .i64 (ql jC zN.slot n ks:Nat)),.sc (.bool (JQ zN.slot n ks))]) 0:=by
 refine fon Tryz.func234 ?_;dsimp only[Tryz.f234]
 push_cast -dsimp
 refine loop (fun p:Nat×Nat=>⟨[(0,.sl 4 (zF ks)),(1,.sc (.int .i64 n)),(2,.clo (.func 235) [] [.row [.clo (.func 206) [] []]]),(8,.sc (.int .i64 (ks.length:Nat))),(9,.sc (.int .i64 p.1)),(10,.sc (.int .i64 p.2))],[],0,0⟩)
  (fun p=>p.1<=p.2/\p.2<=ks.length/\(∀ t (h:t<ks.length),t<p.1->(jC).lt (zN.slot ks[t]) n=true)/\∀ t (h:t<ks.length),p.2<=t->(jC).lt (zN.slot ks[t]) n=false) (fun p=>p.2-p.1) (0,ks.length) ⟨Nat.zero_le _,Nat.le_refl _,fun t _ h=>by (simp at h),fun t h h'=>by (dsimp only at h';omega)⟩ ?_ ?_
 ·exact wk (by push_cast -dsimp [zb,za,CLe,ze,List.length_map])
 ·rintro ⟨i,j⟩ ⟨h1,h2,h3,h4⟩
  dsimp only at h1 h2 h3 h4 ⊢
  by_cases h:i<j
  ·obtain ⟨m,hm⟩:∃ m,m=(i+j) / 2:=⟨_,rfl⟩
   have hmi:((i:Int)+(j:Int)) / 2=(m:Int):=by omega
   have hml:m<ks.length:=by omega
   have hat:=jE ks m hml
   have hlt:=(zdW ks[m].slot n)
   push_cast -dsimp [h,hmi,hat]
   repeat refine an ?_
   refine cl ((uk ks[m] n)) ?_;push_cast -dsimp
   cases hc:(jC).lt (zN.slot ks[m]) n with
   | true =>
    have hcv:(VG ks[m].slot n<0)=True:=eq_true (hlt.mpr hc)
    push_cast -dsimp [hcv]
    repeat refine an ?_
    refine ⟨(m+1,j),⟨by omega,h2,fun t ht hlt2=>?_,h4⟩,by dsimp only;omega,wk⟩
    dsimp only at hlt2
    rcases Nat.lt_or_ge t m with q | q
    ·exact (jC).tr ((List.pairwise_iff_getElem.1 hR) t m ht hml q) hc
    ·have:t=m:=by omega
     subst this;exact hc
   | false =>
    have hcv:(VG ks[m].slot n<0)=False:=eq_false (fun e=>by have h7:(jC).lt (zN.slot ks[m]) n=true:=hlt.mp e;rw[hc]at h7;cases h7)
    push_cast -dsimp [hcv]
    repeat refine an ?_
    refine ⟨(i,m),⟨by omega,by omega,h3,fun t ht hge=>?_⟩,by dsimp only;omega,wk⟩
    dsimp only at hge
    rcases Nat.lt_or_ge m t with q | q
    ·cases h9:(jC).lt (zN.slot ks[t]) n with
     | false=>rfl
     | true=>have:=(jC).tr ((List.pairwise_iff_getElem.1 hR) m t hml ht q) h9;rw[hc]at this;cases this
    ·have:t=m:=by omega
     subst this;exact hc
  ·have hij:i=j:=by omega
   subst hij
   have hrk:=QO (o:=jC) (key:=zN.slot) n ks i h2 h3 h4
   push_cast -dsimp [h]
   refine br (fun hx=>?_) (fun hx=>?_)
   ·have hx:i<ks.length:=by simpa using hx
    have hat:=jE ks i hx
    have hh:=xn n hR hrk hx
    push_cast -dsimp [hx,hat]
    repeat refine an ?_
    refine cl ((uk ks[i] n)) ?_;push_cast -dsimp
    have hcv:decide (VG ks[i].slot n=0)=JQ zN.slot n ks:=by
     rw[hh]
     exact decide_eq_decide.2 (zfS ks[i].slot n)
    push_cast -dsimp [hcv]
    exact dn (by push_cast -dsimp [zb,za,CLe,ze,hrk])
   ·have hx:¬i<ks.length:=by simpa using hx
    have hh:=GF n hR (by omega)
    push_cast -dsimp [hx]
    exact dn (by push_cast -dsimp [zb,za,CLe,ze,hrk,hh])
theorem xO (ks:List zN) (n:Int) (hl:ks.length<=100000) (hR:qA jC zN.slot ks):Fun Tryz.prog G 205 [.sl 4 (zF ks),.sc (.int .i64 n),.clo (.func 206) [] []] (.tup [.sc (.int .i64 (ql jC zN.slot n ks:Nat)),.sc (.bool (JQ zN.slot n ks))]) 0:=by
 refine fon Tryz.func205 ?_;dsimp only[Tryz.f205]
 push_cast -dsimp
 refine kr [.sl 4 (zF ks),.sc (.int .i64 n),.clo (.func 235) [] [.row [.clo (.func 206) [] []]]] (Nz ks n hl hR) rfl ?_ ?_
 ·simp[je,qZ,C.frz,C.frzL]
 push_cast -dsimp
 exact dn
def Ub (n:Int) (ks:List zN):zN:=(Jm zN.slot n ks).getD zfq
theorem NE (w:qy) (n:Int) (hl:w.kept.length<=100000) (hR:qA jC zN.slot w.kept):Fun Tryz.prog G 173 [js w,.sc (.int .i64 n)] (.tup [.agg (jX (Ub n w.kept)),.sc (.bool (U3 n w.kept))]) 0:=by
 obtain ⟨_,_,h3,h4⟩:=Vu n hR
 have h:=xO (G:=G) w.kept n hl hR
 cases hh:JQ zN.slot n w.kept with
 | false =>
  have hf:Ub n w.kept=zfq:=by unfold Ub;rw[(h4 hh).1];rfl
  have he:U3 n w.kept=false:=hh
  rw[hh]at h
  refine fon Tryz.func173 ?_;dsimp only[Tryz.f173]
  push_cast -dsimp
  refine cl (h) ?_;push_cast -dsimp
  exact dn (by push_cast -dsimp [zb,za,CLe,ze,hf,he,zfq])
 | true =>
  obtain ⟨hlt,_,g2,_⟩:=h3 hh
  have hf:Ub n w.kept=w.kept[ql jC zN.slot n w.kept]:=by unfold Ub;rw[g2];rfl
  have he:U3 n w.kept=true:=hh
  have hat:=jE w.kept _ hlt
  rw[hh]at h
  refine fon Tryz.func173 ?_;dsimp only[Tryz.f173]
  push_cast -dsimp
  refine cl (h) ?_;push_cast -dsimp [hat]
  repeat refine an ?_
  exact dn (by push_cast -dsimp [zb,za,CLe,ze,hf,he])
end
end
section
open Go.RowKit Go.ChangeMaps Go.ChangeShapes Go.WideShapes Go.Deep Go.Joins
section
variable {H:Type} {enc:TypeId×Value->H} {P:Program} {W:World}
theorem jb.two {t:TypeId} {f1 f2:Field} {k1 k2:Nat} {Q1 Q2:List C->Prop} (hs:P.underlying t=some (.struct #[f1,f2])) (h1:jb enc P W f1.type k1 Q1) (h2:jb enc P W f2.type k2 Q2)
  (e1:f1.offset=0) (e2:P.cellsOf f1.type=k1) (e3:f2.offset=k1) (e4:P.cellsOf f2.type=k2) (e5:P.cellsOf t=k1+k2):jb enc P W t (k1+k2) fun row=>∃ a b,row=a++b/\Q1 a/\Q2 b:=fun fuel cs x hx=>by
 obtain ⟨ys,n',hn',hy,hlen,hyl,hf⟩:=DataW.trod_struct hs hx
 rw[e5]at hlen
 have g1:=hf 0 f1 rfl
 have g2:=hf 1 f2 rfl
 have hy2:ys.length=2:=by simpa using hyl
 rw[e1,e2,List.drop_zero,List.getElem?_eq_getElem (by omega)]at g1
 rw[e3,e4,List.getElem?_eq_getElem (by omega)]at g2
 obtain ⟨a,qa,la,la',ra⟩:=h1 _ _ _ g1
 obtain ⟨b,qb,lb,lb',rb⟩:=h2 _ _ _ g2
 refine ⟨a++b,⟨a,b,rfl,qa,qb⟩,by rw[List.length_append,la,lb],hlen,fun j c v h3 h4=>?_⟩
 rcases Nat.lt_or_ge j k1 with hj | hj
 ·rw[List.getElem?_append_left (by omega)]at h3
  exact ra j c v h3 (by rw[List.getElem?_take_of_lt hj];exact h4)
 ·rw[List.getElem?_append_right (by omega),la]at h3
  have hjl:=(List.getElem?_eq_some_iff.1 h3).1
  refine rb (j-k1) c v h3 ?_
  rw[List.getElem?_take_of_lt (by omega),List.getElem?_drop,show k1+(j-k1)=j by omega];exact h4
theorem zgJ:jb enc Tryz.prog W 92 4 fun row=>∃ o:zN,row=jX o/\o.data.length<=maxLen:=fun fuel cs x hx=>by
 obtain ⟨row,⟨hl,hq⟩,h1,h2,h3⟩:=jb.struct (W:=W) (enc:=enc) (Qs:=fun j c=>match j with | 0=>∃ n,c = .sc (.int .i64 n)/\(Lit.int .i64 n).wf=true | 1=>∃ n,c = .sc (.int .i64 n)/\(Lit.int .i64 n).wf=true | 2=>∃ b,c = .sc (.bool b) | 3=>∃ l:List UInt8,c = .str l/\l.length<=maxLen | _=>True) Tryz.underlying92 (by kernel_rfl) (by kernel_rfl) (fun j f hj=>by
  match j,hj with
  | 0,hj=>cases hj;exact Opn.int Tryz.underlying3
  | 1,hj=>cases hj;exact Opn.int Tryz.underlying3
  | 2,hj=>cases hj;exact Opn.bool Tryz.underlying4
  | 3,hj=>cases hj;exact Opn.str Tryz.underlying9
  | j+4,hj=>simp at hj) fuel cs x hx
 match row,h1,hq,h3 with
 | [c0,c1,c2,c3],_,hq,h3 =>
  obtain ⟨a,rfl,_⟩:=hq 0 c0 rfl
  obtain ⟨b,rfl,_⟩:=hq 1 c1 rfl
  obtain ⟨c,rfl⟩:=hq 2 c2 rfl
  obtain ⟨d,rfl,hd⟩:=hq 3 c3 rfl
  exact ⟨_,⟨⟨a,b,c,d⟩,rfl,hd⟩,rfl,h2,h3⟩
theorem zfv:Opn enc Tryz.prog W 25 fun c=>∃ xs:List zN,c = .sl 4 (zF xs)/\xs.length<=maxLen/\∀ x∈xs,x.data.length<=maxLen:=fun fuel cs x hx=>by
 obtain ⟨v,c,rfl,⟨rows,rfl,hl,hr⟩,h1,h2⟩:=Opn.slice (W:=W) (enc:=enc) Tryz.underlying25 (show Tryz.prog.cellsOf 92=4 by kernel_rfl) (by decide) zgJ fuel cs x hx
 obtain ⟨xs,rfl,hq⟩:=GJ hr
 exact ⟨v,_,rfl,⟨xs,rfl,by simpa using hl,hq⟩,h1,h2⟩
theorem zd3:jb enc Tryz.prog W 27 2 fun row=>∃ (ks:List zN) (pool:List zA),row = [.sl 4 (zF ks),.sl 6 (zr pool)]/\ks.length<=maxLen/\pool.length<=maxLen:=fun fuel cs x hx=>by
 obtain ⟨row,⟨hl,hq⟩,h1,h2,h3⟩:=jb.struct (W:=W) (enc:=enc) (Qs:=fun j c=>match j with | 0=>∃ xs:List zN,c = .sl 4 (zF xs)/\xs.length<=maxLen/\∀ x∈xs,x.data.length<=maxLen | 1=>∃ xs:List zA,c = .sl 6 (zr xs)/\xs.length<=maxLen/\∀ x∈xs,zcY x | _=>True) Tryz.underlying27 (by kernel_rfl) (by kernel_rfl) (fun j f hj=>by
  match j,hj with
  | 0,hj=>cases hj;exact zfv
  | 1,hj=>cases hj;exact uA
  | j+2,hj=>simp at hj) fuel cs x hx
 match row,h1,hq,h3 with
 | [c0,c1],_,hq,h3 =>
  obtain ⟨a,rfl,ha,_⟩:=hq 0 c0 rfl
  obtain ⟨b,rfl,hb,_⟩:=hq 1 c1 rfl
  exact ⟨_,⟨a,b,rfl,ha,hb⟩,rfl,h2,h3⟩
theorem zem:jb enc Tryz.prog W 29 6 fun row=>∃ w:qy,row=Ga w/\w.fs.xs.length<=maxLen:=fun fuel cs x hx=>by
 obtain ⟨row,⟨a,b,rfl,⟨f,rfl,hf,_⟩,⟨ks,pool,rfl,_⟩⟩,h1,h2,h3⟩:=jb.two (W:=W) (enc:=enc) Tryz.underlying29 zmn zd3 rfl (by kernel_rfl) rfl (by kernel_rfl) (by kernel_rfl) fuel cs x hx
 exact ⟨_,⟨⟨f,ks,pool⟩,rfl,hf⟩,h1,h2,h3⟩
end
end
section
open CA CB
open Go.RowKit
section
variable {G:zq}
theorem zX {ks:List zN}:∀ r∈zF ks,r.length=4:=fun r hr=>by
 obtain ⟨x,_,rfl⟩:=List.mem_map.1 hr;rfl
theorem zu {ks:List zN}:qV (zF ks):=fun r hr=>by
 obtain ⟨x,_,rfl⟩:=List.mem_map.1 hr;rfl
theorem Nj (w:qy) (k:zN) (hl:w.kept.length<=90000) (hR:qA jC zN.slot w.kept) (hn:U3 k.slot w.kept=false):Fun Tryz.prog G 179 [js w,.agg (jX k)] (js { w with kept:=qr k w.kept }) 0:=by
 obtain ⟨_,_,h3,h4⟩:=Vu (o:=jC) k.slot hR
 have hll:(zF w.kept).length=w.kept.length:=List.length_map ..
 have hat:=xO (G:=G) w.kept k.slot (by omega) hR
 have hrl:=QV (o:=jC) (key:=zN.slot) k.slot w.kept
 have hn':JQ zN.slot k.slot w.kept=false:=hn
 rw[hn']at hat
 have hw:qr k w.kept=w.kept.take (ql jC zN.slot k.slot w.kept)++k :: w.kept.drop (ql jC zN.slot k.slot w.kept):=(h4 hn').2.2 k rfl
 have hset:zF (qr k w.kept)=(zF w.kept).take (ql jC zN.slot k.slot w.kept)++jX k :: (zF w.kept).drop (ql jC zN.slot k.slot w.kept):=by rw[hw];simp
 have hsl:(zF (qr k w.kept)).length=(zF w.kept).length+1:=by rw[hset];simp;omega
 refine foF (fun i=>if i=2 then Vf [(0,.pure),(1,.pure),(2,.pure),(4,.pure),(5,.pure),(6,.pure),(3,.flt [3,4,5]),(7,.bar),(8,.pure),(9,.pure),(10,.bar)] else []) Tryz.func179 ?_;dsimp only[Tryz.f179]
 push_cast -dsimp
 refine cl (hat) ?_;push_cast -dsimp
 refine zlf [] (kM (zF w.kept) zX zu (by omega)) (by decide) (by simp) (by push_cast -dsimp) (by push_cast -dsimp) (fun r bx' m hp=>?_)
 obtain ⟨rfl,⟨hne,c,h1,h2,rfl,rfl⟩ | ⟨he,⟨rfl,rfl⟩ | ⟨rfl,rfl⟩⟩⟩:=hp
 ·have hbl:=Jv zX h1
  have hre:∀ fp fo,C.reL fp fo (qn 4 (zF w.kept) c)=qn 4 (zF w.kept) c:=fun fp fo=>zl (zD zu)
  have hpos:=List.length_pos_iff.2 hne
  have hre2:∀ fp fo c,C.reL fp fo (qn 4 (zF (qr k w.kept)) c)=qn 4 (zF (qr k w.kept)) c:=fun fp fo c=>zl (zD zu)
  push_cast -dsimp [hre]
  refine jo [4] [0] (VP (e:=92) (zF w.kept) (jX k) (ql jC zN.slot k.slot w.kept) c zX rfl zu rfl (by omega) (by omega) h1 h2) rfl (by decide) (by decide) (by simp) (by push_cast -dsimp) (by push_cast -dsimp [hre]) (fun r bx' m hp=>?_)
  rw[←hset]at hp
  obtain ⟨rfl,c',g1,g2,⟨rfl,rfl⟩ | ⟨rfl,rfl⟩⟩:=hp
  ·push_cast -dsimp [hre2,hre]
   exact ⟨[(4,92,4,zF (qr k w.kept),c')],[],zy rfl (by omega) g1 g2 zX zu,rfl,rfl,by push_cast -dsimp [zb,za,CLe,ze]⟩
  ·have hra:∀ fp fo,C.reL fp fo (List.replicate (c*4) .any)=List.replicate (c*4) .any:=fun fp fo=>zl (by simp[List.all_replicate,C.stayB])
   push_cast -dsimp [hre2,hre,hra]
   exact ⟨[(5,92,4,zF (qr k w.kept),c')],[],zy rfl (by omega) g1 g2 zX zu,rfl,rfl,by push_cast -dsimp [zb,za,CLe,ze]⟩
 ·have he:w.kept = []:=by simpa using he
  have hr0:ql jC zN.slot k.slot w.kept=0:=by rw[he];rfl
  have hs1:qr k w.kept = [k]:=by rw[he];rfl
  push_cast -dsimp [hr0]
  refine jo [] [0] (vL (e:=92) (jX k) rfl rfl) rfl (by decide) (by decide) (by simp) (by push_cast -dsimp) (by push_cast -dsimp) (fun r bx' m hp=>?_)
  obtain ⟨rfl,c,g1,g2,rfl,rfl⟩:=hp
  have hre:∀ fp fo,C.reL fp fo (qn 4 [jX k] c)=qn 4 [jX k] c:=fun fp fo=>zl (zD (zu (ks:=[k])))
  push_cast -dsimp [hre]
  exact ⟨[(3,92,4,zF [k],c)],[],zy rfl (by omega) g1 g2 zX zu,rfl,rfl,by push_cast -dsimp [zb,za,CLe,ze,hs1]⟩
 ·have he:w.kept = []:=by simpa using he
  have hr0:ql jC zN.slot k.slot w.kept=0:=by rw[he];rfl
  have hs1:qr k w.kept = [k]:=by rw[he];rfl
  push_cast -dsimp [hr0]
  refine jo [3] [0] (VP (e:=92) [] (jX k) 0 0 (fun r hr=>by cases hr) rfl (fun r hr=>by cases hr) rfl (by simp) (by simp) (by simp) (by simp)) rfl (by decide) (by decide) (by simp) (by push_cast -dsimp) (by push_cast -dsimp [qn]) (fun r bx' m hp=>?_)
  obtain ⟨rfl,c,g1,g2,hp⟩:=hp
  have hre:∀ fp fo,C.reL fp fo (qn 4 [jX k] c)=qn 4 [jX k] c:=fun fp fo=>zl (zD (zu (ks:=[k])))
  rcases hp with ⟨rfl,rfl⟩ | ⟨rfl,rfl⟩
  ·push_cast -dsimp [hre]
   exact ⟨[(3,92,4,zF [k],c)],[],zy rfl (Nat.lt_of_lt_of_le (Nat.zero_lt_succ _) g1) g1 g2 zX zu,rfl,rfl,by push_cast -dsimp [zb,za,CLe,ze,hs1]⟩
  ·push_cast -dsimp [hre]
   exact ⟨[(4,92,4,zF [k],c)],[],zy rfl (Nat.lt_of_lt_of_le (Nat.zero_lt_succ _) g1) g1 g2 zX zu,rfl,rfl,by push_cast -dsimp [zb,za,CLe,ze,hs1]⟩
theorem Q8 (f:FsV) (hf:FsI f) (hs:FsS f) (p:List UInt8) (hp:p.length<=100000):Fun Tryz.prog G0 170 [.agg (fsC f),.str p] (.tup [.agg (YG (isV f p true).1),.agg (Yi (isV f p true).2.1),.sc (.int .i64 (isV f p true).2.2)]) 0:=by
 have h1:=vv f hf hs p hp
 have h2:=jO (G:=G0) f (atV f p).1.ino (by have:=hs.len;omega) hf.rises
 have e1:(isV f p true).1=(atV f p).1:=rfl
 have e2:(isV f p true).2.1=zg (atV f p).1.ino f.xs:=rfl
 by_cases h0:(atV f p).2=0
 ·have h0':=eq_true h0
  cases hz:zG (atV f p).1.ino f.xs with
  | true =>
   have e3:(isV f p true).2.2=0:=by unfold isV;simp[h0,hz]
   rw[hz]at h2
   refine fof (fun i=>if i=4 then Vf [(0,.pure),(1,.pure),(2,.pure),(3,.flt [1,2]),(4,.flt [2]),(5,.pure)] else if i=6 then Vf [(0,.pure),(1,.pure),(2,.flt [1]),(3,.flt []),(4,.pure)] else if i=7 then Vf [(0,.pure),(1,.pure),(2,.flt [1]),(3,.flt []),(4,.pure)] else []) Tryz.func170 ?_;dsimp only[Tryz.f170]
   push_cast -dsimp
   refine cl (h1) ?_;push_cast -dsimp
   refine cl (h2) ?_;push_cast -dsimp [h0']
   exact dn (by push_cast -dsimp [zb,za,CLe,ze,e1,e2,e3])
  | false =>
   have e3:(isV f p true).2.2=1:=by unfold isV;simp[h0,hz]
   rw[hz]at h2
   refine fof (fun i=>if i=4 then Vf [(0,.pure),(1,.pure),(2,.pure),(3,.flt [1,2]),(4,.flt [2]),(5,.pure)] else if i=6 then Vf [(0,.pure),(1,.pure),(2,.flt [1]),(3,.flt []),(4,.pure)] else if i=7 then Vf [(0,.pure),(1,.pure),(2,.flt [1]),(3,.flt []),(4,.pure)] else []) Tryz.func170 ?_;dsimp only[Tryz.f170]
   push_cast -dsimp
   refine cl (h1) ?_;push_cast -dsimp
   refine cl (h2) ?_;push_cast -dsimp [h0']
   exact dn (by push_cast -dsimp [zb,za,CLe,ze,e1,e2,e3])
 ·have h0':=eq_false h0
  have e3:(isV f p true).2.2=(atV f p).2:=by unfold isV;simp[h0]
  refine fof (fun i=>if i=4 then Vf [(0,.pure),(1,.pure),(2,.pure),(3,.flt [1,2]),(4,.flt [2]),(5,.pure)] else if i=6 then Vf [(0,.pure),(1,.pure),(2,.flt [1]),(3,.flt []),(4,.pure)] else if i=7 then Vf [(0,.pure),(1,.pure),(2,.flt [1]),(3,.flt []),(4,.pure)] else []) Tryz.func170 ?_;dsimp only[Tryz.f170]
  push_cast -dsimp
  refine cl (h1) ?_;push_cast -dsimp
  refine cl (h2) ?_;push_cast -dsimp [h0',ite_self]
  exact dn (by push_cast -dsimp [zb,za,CLe,ze,e1,e2,e3])
end
end
section
open CA CB
open Go.RowKit
section
variable {G:zq}
theorem zha (k:zA):Fun Tryz.prog G 176 [.agg (Yi k)] (.sc (.int .i64 k.ino)) 0:=by
 refine fon Tryz.func176 ?_;dsimp only[Tryz.f176]
 push_cast -dsimp
 exact dn
theorem ub (k:zA) (n:Int):Fun Tryz.prog G 209 [.agg (Yi k),.sc (.int .i64 n),.row [.clo (.func 176) [] []]] (.sc (.int .i64 (VG k.ino n))) 0:=by
 refine fon Tryz.func209 ?_;dsimp only[Tryz.f209]
 push_cast -dsimp
 refine cl (zha k) ?_;push_cast -dsimp
 refine cl (xJ k.ino n) ?_;push_cast -dsimp
 exact dn
theorem Me (ks:List zA) (n:Int) (hl:ks.length<=100000) (hR:qA jC zA.ino ks) :
  Fun Tryz.prog G 208 [.sl 6 (zr ks),.sc (.int .i64 n),.clo (.func 209) [] [.row [.clo (.func 176) [] []]]] (.tup [.sc (.int .i64 (ql jC zA.ino n ks:Nat)),.sc (.bool (JQ zA.ino n ks))]) 0:=by
 refine fon Tryz.func208 ?_;dsimp only[Tryz.f208]
 push_cast -dsimp
 refine loop (fun p:Nat×Nat=>⟨[(0,.sl 6 (zr ks)),(1,.sc (.int .i64 n)),(2,.clo (.func 209) [] [.row [.clo (.func 176) [] []]]),(8,.sc (.int .i64 (ks.length:Nat))),(9,.sc (.int .i64 p.1)),(10,.sc (.int .i64 p.2))],[],0,0⟩)
  (fun p=>p.1<=p.2/\p.2<=ks.length/\(∀ t (h:t<ks.length),t<p.1->(jC).lt (zA.ino ks[t]) n=true)/\∀ t (h:t<ks.length),p.2<=t->(jC).lt (zA.ino ks[t]) n=false) (fun p=>p.2-p.1) (0,ks.length) ⟨Nat.zero_le _,Nat.le_refl _,fun t _ h=>by (simp at h),fun t h h'=>by (dsimp only at h';omega)⟩ ?_ ?_
 ·exact wk (by push_cast -dsimp [zb,za,CLe,ze,List.length_map])
 ·rintro ⟨i,j⟩ ⟨h1,h2,h3,h4⟩
  dsimp only at h1 h2 h3 h4 ⊢
  by_cases h:i<j
  ·obtain ⟨m,hm⟩:∃ m,m=(i+j) / 2:=⟨_,rfl⟩
   have hmi:((i:Int)+(j:Int)) / 2=(m:Int):=by omega
   have hml:m<ks.length:=by omega
   have hat:=jg ks m hml
   have hlt:=(zdW ks[m].ino n)
   push_cast -dsimp [h,hmi,hat]
   repeat refine an ?_
   refine cl ((ub ks[m] n)) ?_;push_cast -dsimp
   cases hc:(jC).lt (zA.ino ks[m]) n with
   | true =>
    have hcv:(VG ks[m].ino n<0)=True:=eq_true (hlt.mpr hc)
    push_cast -dsimp [hcv]
    repeat refine an ?_
    refine ⟨(m+1,j),⟨by omega,h2,fun t ht hlt2=>?_,h4⟩,by dsimp only;omega,wk⟩
    dsimp only at hlt2
    rcases Nat.lt_or_ge t m with q | q
    ·exact (jC).tr ((List.pairwise_iff_getElem.1 hR) t m ht hml q) hc
    ·have:t=m:=by omega
     subst this;exact hc
   | false =>
    have hcv:(VG ks[m].ino n<0)=False:=eq_false (fun e=>by have h7:(jC).lt (zA.ino ks[m]) n=true:=hlt.mp e;rw[hc]at h7;cases h7)
    push_cast -dsimp [hcv]
    repeat refine an ?_
    refine ⟨(i,m),⟨by omega,by omega,h3,fun t ht hge=>?_⟩,by dsimp only;omega,wk⟩
    dsimp only at hge
    rcases Nat.lt_or_ge m t with q | q
    ·cases h9:(jC).lt (zA.ino ks[t]) n with
     | false=>rfl
     | true=>have:=(jC).tr ((List.pairwise_iff_getElem.1 hR) m t hml ht q) h9;rw[hc]at this;cases this
    ·have:t=m:=by omega
     subst this;exact hc
  ·have hij:i=j:=by omega
   subst hij
   have hrk:=QO (o:=jC) (key:=zA.ino) n ks i h2 h3 h4
   push_cast -dsimp [h]
   refine br (fun hx=>?_) (fun hx=>?_)
   ·have hx:i<ks.length:=by simpa using hx
    have hat:=jg ks i hx
    have hh:=xn n hR hrk hx
    push_cast -dsimp [hx,hat]
    repeat refine an ?_
    refine cl ((ub ks[i] n)) ?_;push_cast -dsimp
    have hcv:decide (VG ks[i].ino n=0)=JQ zA.ino n ks:=by
     rw[hh]
     exact decide_eq_decide.2 (zfS ks[i].ino n)
    push_cast -dsimp [hcv]
    exact dn (by push_cast -dsimp [zb,za,CLe,ze,hrk])
   ·have hx:¬i<ks.length:=by simpa using hx
    have hh:=GF n hR (by omega)
    push_cast -dsimp [hx]
    exact dn (by push_cast -dsimp [zb,za,CLe,ze,hrk,hh])
theorem zkN (ks:List zA) (n:Int) (hl:ks.length<=100000) (hR:qA jC zA.ino ks):Fun Tryz.prog G 175 [.sl 6 (zr ks),.sc (.int .i64 n),.clo (.func 176) [] []] (.tup [.sc (.int .i64 (ql jC zA.ino n ks:Nat)),.sc (.bool (JQ zA.ino n ks))]) 0:=by
 refine fon Tryz.func175 ?_;dsimp only[Tryz.f175]
 push_cast -dsimp
 refine kr [.sl 6 (zr ks),.sc (.int .i64 n),.clo (.func 209) [] [.row [.clo (.func 176) [] []]]] (Me ks n hl hR) rfl ?_ ?_
 ·simp[je,qZ,C.frz,C.frzL]
 push_cast -dsimp
 exact dn
end
end
section
open CA CB
open Go.RowKit
section
variable {G:zq}
abbrev zn3 (w:qy) (kc pc:C):C:=.agg [.sc (.int .i64 w.fs.maxI),.sc (.int .i64 w.fs.maxB),.sc (.int .i64 w.fs.next),.sl 6 (zr w.fs.xs),kc,pc]
def zo9 (w:qy) (k:zN) (B:List C) (pn pc:Nat) (r:C) (bx':List (List C)) (m:Nat):Prop:=
 m=0/\∃ (c':Nat) (Ls:List (List C)),(Ls = []∨(∃ X,Ls = [X]/\(X.all C.stayB)=true)∨∃ X Y,Ls = [X,Y]/\(X.all C.stayB)=true/\(Y.all C.stayB)=true)/\(zF (qr k w.kept)).length<=c'/\c'<=9223372036854775807/\r=zn3 w (.bs (4+Ls.length) 0 4 (zF (qr k w.kept)).length c') (.bs 0 0 6 pn pc) /\
  bx'=B :: [.any,.any,.any,.any,.any,.any] :: [.any,.any,.any,.any] :: [.any,.any,.any,.any,.any,.any] :: (Ls++[qn 4 (zF (qr k w.kept)) c'])
theorem VW (w:qy) (k:zN) (B:List C) (pn pc:Nat) (hB:(B.all C.stayB)=true) (hl:w.kept.length<=90000) (hR:qA jC zN.slot w.kept) (hn:U3 k.slot w.kept=false):JT Tryz.prog G 179 [zn3 w (.sl 4 (zF w.kept)) (.bs 0 0 6 pn pc),.agg (jX k)] [B] 0 (zo9 w k B pn pc):=by
 obtain ⟨_,_,h3,h4⟩:=Vu (o:=jC) k.slot hR
 have hll:(zF w.kept).length=w.kept.length:=List.length_map ..
 have hat:=xO (G:=G) w.kept k.slot (by omega) hR
 have hrl:=QV (o:=jC) (key:=zN.slot) k.slot w.kept
 have hn':JQ zN.slot k.slot w.kept=false:=hn
 rw[hn']at hat
 have hw:qr k w.kept=w.kept.take (ql jC zN.slot k.slot w.kept)++k :: w.kept.drop (ql jC zN.slot k.slot w.kept):=(h4 hn').2.2 k rfl
 have hset:zF (qr k w.kept)=(zF w.kept).take (ql jC zN.slot k.slot w.kept)++jX k :: (zF w.kept).drop (ql jC zN.slot k.slot w.kept):=by rw[hw];simp
 have hsl:(zF (qr k w.kept)).length=(zF w.kept).length+1:=by rw[hset];simp;omega
 refine foX (fun i=>if i=2 then Vf [(0,.pure),(1,.pure),(2,.pure),(4,.pure),(5,.pure),(6,.pure),(3,.flt [3,4,5]),(7,.bar),(8,.pure),(9,.pure),(10,.bar)] else []) Tryz.func179 ?_;dsimp only[Tryz.f179]
 have hBr:∀ fp fo,C.reL fp fo B=B:=fun fp fo=>zl hB
 push_cast -dsimp
 refine cl (hat) ?_;push_cast -dsimp
 refine zlf [] (kM (zF w.kept) zX zu (by omega)) (by decide) (by simp) (by push_cast -dsimp) (by push_cast -dsimp) (fun r bx' m hp=>?_)
 obtain ⟨rfl,⟨hne,c,h1,h2,rfl,rfl⟩ | ⟨he,⟨rfl,rfl⟩ | ⟨rfl,rfl⟩⟩⟩:=hp
 ·have hbl:=Jv zX h1
  have hre:∀ fp fo,C.reL fp fo (qn 4 (zF w.kept) c)=qn 4 (zF w.kept) c:=fun fp fo=>zl (zD zu)
  have hpos:=List.length_pos_iff.2 hne
  have hre2:∀ fp fo c,C.reL fp fo (qn 4 (zF (qr k w.kept)) c)=qn 4 (zF (qr k w.kept)) c:=fun fp fo c=>zl (zD zu)
  push_cast -dsimp [hre,hBr]
  refine jo [5] [0] (VP (e:=92) (zF w.kept) (jX k) (ql jC zN.slot k.slot w.kept) c zX rfl zu rfl (by omega) (by omega) h1 h2) rfl (by decide) (by decide) (by simp) (by push_cast -dsimp [hBr]) (by push_cast -dsimp [hre,hBr]) (fun r bx' m hp=>?_)
  rw[←hset]at hp
  obtain ⟨rfl,c',g1,g2,⟨rfl,rfl⟩ | ⟨rfl,rfl⟩⟩:=hp
  ·push_cast -dsimp [hre2,hre,hBr]
   refine ⟨_,_,0,⟨⟨rfl,c',[[]],.inr (.inl ⟨[],rfl,rfl⟩),g1,g2,rfl,rfl⟩,by simp⟩,[],rfl,rfl,?_,by push_cast -dsimp [zb,za,CLe,ze]⟩
   push_cast -dsimp [zb,za,CLe,ze]
   exact ⟨zp hB,zp (zD zu)⟩
  ·have hra:∀ fp fo,C.reL fp fo (List.replicate (c*4) .any)=List.replicate (c*4) .any:=fun fp fo=>zl (by simp[List.all_replicate,C.stayB])
   push_cast -dsimp [hre2,hre,hra,hBr]
   refine ⟨_,_,0,⟨⟨rfl,c',[[],List.replicate (c*4) .any],.inr (.inr ⟨[],_,rfl,rfl,by simp[List.all_replicate,C.stayB]⟩),g1,g2,rfl,rfl⟩,by simp⟩,[],rfl,rfl,?_,by push_cast -dsimp [zb,za,CLe,ze]⟩
   push_cast -dsimp [zb,za,CLe,ze]
   exact ⟨zp hB,zp (by simp[List.all_replicate,C.stayB]),zp (zD zu)⟩
 ·have he:w.kept = []:=by simpa using he
  have hr0:ql jC zN.slot k.slot w.kept=0:=by rw[he];rfl
  have hs1:qr k w.kept = [k]:=by rw[he];rfl
  push_cast -dsimp [hr0]
  refine jo [] [0] (vL (e:=92) (jX k) rfl rfl) rfl (by decide) (by decide) (by simp) (by push_cast -dsimp) (by push_cast -dsimp) (fun r bx' m hp=>?_)
  obtain ⟨rfl,c,g1,g2,rfl,rfl⟩:=hp
  have hre:∀ fp fo,C.reL fp fo (qn 4 [jX k] c)=qn 4 [jX k] c:=fun fp fo=>zl (zD (zu (ks:=[k])))
  push_cast -dsimp [hre,hBr]
  refine ⟨zn3 w (.bs 4 0 4 1 c) (.bs 0 0 6 pn pc),B :: [.any,.any,.any,.any,.any,.any] :: [.any,.any,.any,.any] :: [.any,.any,.any,.any,.any,.any] :: ([]++[qn 4 [jX k] c]),0,⟨⟨rfl,c,[],.inl rfl,by rw[hs1];exact g1,g2,by rw[hs1];rfl,by rw[hs1];rfl⟩,by simp⟩,[],rfl,rfl,?_,by push_cast -dsimp [zb,za,CLe,ze]⟩
  push_cast -dsimp [zb,za,CLe,ze]
  exact ⟨zp hB,zp (zD (zu (ks:=[k])))⟩
 ·have he:w.kept = []:=by simpa using he
  have hr0:ql jC zN.slot k.slot w.kept=0:=by rw[he];rfl
  have hs1:qr k w.kept = [k]:=by rw[he];rfl
  push_cast -dsimp [hr0]
  refine jo [4] [0] (VP (e:=92) [] (jX k) 0 0 (fun r hr=>by cases hr) rfl (fun r hr=>by cases hr) rfl (by simp) (by simp) (by simp) (by simp)) rfl (by decide) (by decide) (by simp) (by push_cast -dsimp) (by push_cast -dsimp [qn]) (fun r bx' m hp=>?_)
  obtain ⟨rfl,c,g1,g2,hp⟩:=hp
  have hre:∀ fp fo,C.reL fp fo (qn 4 [jX k] c)=qn 4 [jX k] c:=fun fp fo=>zl (zD (zu (ks:=[k])))
  rcases hp with ⟨rfl,rfl⟩ | ⟨rfl,rfl⟩
  ·push_cast -dsimp [hre,hBr]
   refine ⟨zn3 w (.bs 4 0 4 1 c) (.bs 0 0 6 pn pc),B :: [.any,.any,.any,.any,.any,.any] :: [.any,.any,.any,.any] :: [.any,.any,.any,.any,.any,.any] :: ([]++[qn 4 [jX k] c]),0,⟨⟨rfl,c,[],.inl rfl,by rw[hs1];exact g1,g2,by rw[hs1];rfl,by rw[hs1];rfl⟩,by simp⟩,[],rfl,rfl,?_,by push_cast -dsimp [zb,za,CLe,ze]⟩
   push_cast -dsimp [zb,za,CLe,ze]
   exact ⟨zp hB,zp (zD (zu (ks:=[k])))⟩
  ·push_cast -dsimp [hre,hBr]
   refine ⟨zn3 w (.bs 5 0 4 1 c) (.bs 0 0 6 pn pc),B :: [.any,.any,.any,.any,.any,.any] :: [.any,.any,.any,.any] :: [.any,.any,.any,.any,.any,.any] :: ([[]]++[qn 4 [jX k] c]),0,⟨⟨rfl,c,[[]],.inr (.inl ⟨[],rfl,rfl⟩),by rw[hs1];exact g1,g2,by rw[hs1];rfl,by rw[hs1];rfl⟩,by simp⟩,[],rfl,rfl,?_,by push_cast -dsimp [zb,za,CLe,ze]⟩
   push_cast -dsimp [zb,za,CLe,ze]
   exact ⟨zp hB,zp (zD (zu (ks:=[k])))⟩
end
end
section
open CA CB
open Go.RowKit
theorem jh {bx:List (List C)} {a b:Nat×TypeId×Nat×List (List C)×Nat} (h1:zbl [a] bx) (h2:zbl [b] bx) (hne:a.1≠b.1):zbl [a,b] bx:=⟨by simp[hne],fun x hx=>by
 rcases List.mem_cons.1 hx with rfl | hx
 ·exact h1.2 _ List.mem_cons_self
 ·exact h2.2 _ hx⟩
theorem uL {f:FsV} (hf:FsI f) {s:qM} (hs:qh f s):(zS f s).xs.length<=f.xs.length:=by
 have hi:=qh.ino hf hs
 have hl:=jQ (F:=zh s.name) hf.rises hs.has
 unfold zS
 split
 ·show (qk _ _).length<=_
  exact Nat.le_trans Q6 (by rw[hl];exact Nat.le_refl _)
 ·show (qF _ _).length<=_
  rw[XV (show qc (qI s.dir (zh s.name) f.xs) from qd hf.rises) ?_,hl]
  ·exact Nat.le_refl _
  ·show zG (zg s.ino f.xs).ino (qI _ _ _)=true
   rw[(zm hi).2.2,qg hs.has];exact hi
theorem zi6 {xs:List zA} (h:qc xs):qA jC zA.ino xs:=List.Pairwise.imp (fun {a b} h=>by show decide (a.ino<b.ino)=true;exact decide_eq_true h) h
theorem zjf (x:zA):∀ xs:List zA,Zp x xs=Xc jC zA.ino x xs
 | []=>rfl
 | y :: r=>by
  unfold Zp Xc
  rw[zjf x r]
  have e:jC.lt x.ino y.ino=decide (x.ino<y.ino):=rfl
  rw[e]
  by_cases h:x.ino<y.ino
  ·rw[if_pos h,if_pos (decide_eq_true h)]
  ·rw[if_neg h,if_neg (by simpa using h)]
theorem zlF {x:zA} {xs:List zA} (hR:qc xs) (h:∀ y∈xs,y.ino≠x.ino):qF x xs=xs.take (ql jC zA.ino x.ino xs)++x :: xs.drop (ql jC zA.ino x.ino xs):=by
 have h1:qk x.ino xs=xs:=List.filter_eq_self.2 fun y hy=>by simpa using h y hy
 have h2:JQ zA.ino x.ino xs=false:=by
  unfold JQ
  rw[List.any_eq_false]
  intro y hy
  simpa using h y hy
 obtain ⟨_,_,_,h4⟩:=Vu (o:=jC) x.ino (zi6 hR)
 unfold qF
 rw[h1,zjf]
 exact (h4 h2).2.2 x rfl
theorem zhN (w:qy) (hw:Xl w) (hs:FsS w.fs) (hk:w.kept.length<=90000) (hp:w.pool.length<=90000) (n:Int) (s:qM) (hsp:qh w.fs s) (he:(zg s.ino w.fs.xs).es = []):Fun Tryz.prog G0 146 [js w,.sc (.int .i64 n),.agg (YG s)] (.tup [js (JO w n s).1,.sc (.int .i64 (JO w n s).2)]) 0:=by
 have hf:=hw.fs
 have hlen:=hs.len
 have hino:=hsp.ino hf
 have h1:=NE (G:=G0) w n (by omega) hw.kept
 cases hh:U3 n w.kept with
 | true =>
  have e:JO w n s=(w,13):=by unfold JO;rw[hh];rfl
  rw[hh]at h1
  refine fof (fun i=>if i=10 then Vf [(0,.pure),(1,.pure),(2,.pure),(4,.pure),(5,.pure),(6,.pure),(3,.flt [3,4,5]),(7,.bar),(8,.pure),(9,.pure),(10,.bar)] else []) Tryz.func146 ?_;dsimp only[Tryz.f146]
  push_cast -dsimp
  refine cl (h1) ?_;push_cast -dsimp
  exact dn (by push_cast -dsimp [zb,za,CLe,ze,e])
 | false =>
  rw[hh]at h1
  have hg:=jO (G:=G0) w.fs s.ino (by omega) hf.rises
  rw[hino]at hg
  have hne:s.dir≠s.ino:=fun e=>by
   have:=hsp.there
   rw[e,he]at this;cases this
  have hu:=zbt w.fs hf hs s hsp hne
  have hul:=uL hf hsp
  have hg2:=jO (G:=G0) (zS w.fs s) s.ino (by omega) (Nd hf hsp he).rises
  rw[Hl hsp.has hino]at hg2
  by_cases hz:(zg s.ino w.fs.xs).links=1
  ·rw[if_pos (show (zg s.ino w.fs.xs).links-1=0 by omega)]at hg2
   simp only[decide_true,Bool.not_true,Bool.false_and]at hg2
   have hxi:=(zm hino).2.2
   have hno:∀ y∈w.pool,y.ino≠s.ino:=fun y hy e=>by
    have:=(hw.apart y hy).1
    rw[e,hino]at this;cases this
   have hnk:JQ zA.ino s.ino w.pool=false:=by
    unfold JQ
    rw[List.any_eq_false]
    intro y hy
    simpa using hno y hy
   have e:JO w n s=(⟨zS w.fs s,qr ⟨n,s.ino,false,[]⟩ w.kept,qF { zg s.ino w.fs.xs with links:=0,parent:=0 } w.pool⟩,0):=by unfold JO;rw[hh,if_pos hz];rfl
   have hset:=zlF (x:={ zg s.ino w.fs.xs with links:=0,parent:=0 }) hw.pool (fun y hy=>by rw[show ({ zg s.ino w.fs.xs with links:=0,parent:=0 }:zA).ino=(zg s.ino w.fs.xs).ino from rfl,hxi];exact hno y hy)
   rw[show ({ zg s.ino w.fs.xs with links:=0,parent:=0 }:zA).ino=s.ino from hxi]at hset
   have hat:=zkN (G:=G0) w.pool s.ino (by omega) (zi6 hw.pool)
   rw[hnk]at hat
   have hll:(zr w.pool).length=w.pool.length:=List.length_map ..
   have hrl:=QV (o:=jC) (key:=zA.ino) s.ino w.pool
   generalize ql jC zA.ino s.ino w.pool=r at *
   generalize hpl:qF { zg s.ino w.fs.xs with links:=0,parent:=0 } w.pool=pl at *
   have hpc:zr pl=(zr w.pool).take r++[.sc (.int .i64 s.ino),.sc (.int .i64 (zg s.ino w.fs.xs).kind),.sc (.int .i64 0),.str (zg s.ino w.fs.xs).data,.sc (.int .i64 0),.sl 2 (zI (zg s.ino w.fs.xs).es)] :: (zr w.pool).drop r:=by rw[hset];simp[hxi]
   have hpl1:(zr pl).length=(zr w.pool).length+1:=by rw[hpc];simp;omega
   have hre2:∀ fp fo c,C.reL fp fo (qn 6 (zr pl) c)=qn 6 (zr pl) c:=fun fp fo c=>zl (zD zt)
   have hre4:∀ fp fo c,C.reL fp fo (qn 4 (zF (qr ⟨n,s.ino,false,[]⟩ w.kept)) c)=qn 4 (zF (qr ⟨n,s.ino,false,[]⟩ w.kept)) c:=fun fp fo c=>zl (zD zu)
   have hkp:0<(zF (qr ⟨n,s.ino,false,[]⟩ w.kept)).length:=by rw[List.length_map,qr,VA];omega
   refine foF (fun i=>if i=10 then Vf [(0,.pure),(1,.pure),(2,.pure),(4,.pure),(5,.pure),(6,.pure),(3,.flt [3,4,5]),(7,.bar),(8,.pure),(9,.pure),(10,.bar)] else []) Tryz.func146 ?_;dsimp only[Tryz.f146]
   push_cast -dsimp
   refine cl (h1) ?_;push_cast -dsimp
   refine cl (hg) ?_;push_cast -dsimp
   refine cl (hu) ?_;push_cast -dsimp
   refine cl (hg2) ?_;push_cast -dsimp
   rw[hxi]
   refine cl (hat) ?_;push_cast -dsimp
   refine zlf [] (X1 (zr w.pool) zT zt (by omega)) (by decide) (by simp) (by push_cast -dsimp) (by push_cast -dsimp) (fun r0 bx' m hp=>?_)
   obtain ⟨rfl,⟨hne',c,c1,c2,rfl,rfl⟩ | ⟨hnil,⟨rfl,rfl⟩ | ⟨rfl,rfl⟩⟩⟩:=hp
   ·have hbl:=Jv zT c1
    have hre:∀ fp fo,C.reL fp fo (qn 6 (zr w.pool) c)=qn 6 (zr w.pool) c:=fun fp fo=>zl (zD zt)
    push_cast -dsimp [hre]
    refine jo [7] [0] (VO (e:=75) (zr w.pool) [.sc (.int .i64 s.ino),.sc (.int .i64 (zg s.ino w.fs.xs).kind),.sc (.int .i64 0),.str (zg s.ino w.fs.xs).data,.sc (.int .i64 0),.sl 2 (zI (zg s.ino w.fs.xs).es)] r c zT rfl zt rfl (by omega) (by omega) c1 c2) rfl (by decide) (by decide) (by simp) (by push_cast -dsimp) (by push_cast -dsimp [hre]) (fun r1 bx' m hp=>?_)
    rw[←hpc]at hp
    obtain ⟨rfl,c',g1,g2,⟨rfl,rfl⟩ | ⟨rfl,rfl⟩⟩:=hp
    ·push_cast -dsimp [hre2,hre]
     refine jo [7] [] (VW (G:=G0) { w with fs:=zS w.fs s } ⟨n,s.ino,false,[]⟩ (qn 6 (zr pl) c') (zr pl).length c' (zD zt) hk hw.kept hh) rfl (by decide) (by decide) (by simp) (by push_cast -dsimp) (by push_cast -dsimp [hre2]) (fun r2 bx' m hp=>?_)
     obtain ⟨rfl,c3,Ls,hLs,k1,k2,rfl,rfl⟩:=hp
     rcases hLs with rfl | ⟨X,rfl,hX⟩ | ⟨X,Y,rfl,hX,hY⟩
     ·push_cast -dsimp [hre2,hre4]
      exact ⟨[(11,92,4,zF (qr ⟨n,s.ino,false,[]⟩ w.kept),c3),(7,75,6,zr pl,c')],[],jh (zy rfl (Nat.lt_of_lt_of_le hkp k1) k1 k2 zX zu) (zy rfl (by omega) g1 g2 zT zt) (show (11:Nat)≠7 by decide),rfl,rfl,by push_cast -dsimp [zb,za,CLe,ze,e,false_and,if_false]⟩
     ·have hXr:∀ fp fo,C.reL fp fo X=X:=fun fp fo=>zl hX
      push_cast -dsimp [hre2,hre4,hXr]
      exact ⟨[(12,92,4,zF (qr ⟨n,s.ino,false,[]⟩ w.kept),c3),(7,75,6,zr pl,c')],[],jh (zy rfl (Nat.lt_of_lt_of_le hkp k1) k1 k2 zX zu) (zy rfl (by omega) g1 g2 zT zt) (show (12:Nat)≠7 by decide),rfl,rfl,by push_cast -dsimp [zb,za,CLe,ze,e,false_and,if_false]⟩
     ·have hXr:∀ fp fo,C.reL fp fo X=X:=fun fp fo=>zl hX
      have hYr:∀ fp fo,C.reL fp fo Y=Y:=fun fp fo=>zl hY
      push_cast -dsimp [hre2,hre4,hXr,hYr]
      exact ⟨[(13,92,4,zF (qr ⟨n,s.ino,false,[]⟩ w.kept),c3),(7,75,6,zr pl,c')],[],jh (zy rfl (Nat.lt_of_lt_of_le hkp k1) k1 k2 zX zu) (zy rfl (by omega) g1 g2 zT zt) (show (13:Nat)≠7 by decide),rfl,rfl,by push_cast -dsimp [zb,za,CLe,ze,e,false_and,if_false]⟩
    ·have hra:∀ fp fo,C.reL fp fo (List.replicate (c*6) .any)=List.replicate (c*6) .any:=fun fp fo=>zl (by simp[List.all_replicate,C.stayB])
     push_cast -dsimp [hre2,hre,hra]
     refine jo [8] [] (VW (G:=G0) { w with fs:=zS w.fs s } ⟨n,s.ino,false,[]⟩ (qn 6 (zr pl) c') (zr pl).length c' (zD zt) hk hw.kept hh) rfl (by decide) (by decide) (by simp) (by push_cast -dsimp) (by push_cast -dsimp [hre2,hra]) (fun r2 bx' m hp=>?_)
     obtain ⟨rfl,c3,Ls,hLs,k1,k2,rfl,rfl⟩:=hp
     rcases hLs with rfl | ⟨X,rfl,hX⟩ | ⟨X,Y,rfl,hX,hY⟩
     ·push_cast -dsimp [hre2,hre4,hra]
      exact ⟨[(12,92,4,zF (qr ⟨n,s.ino,false,[]⟩ w.kept),c3),(8,75,6,zr pl,c')],[],jh (zy rfl (Nat.lt_of_lt_of_le hkp k1) k1 k2 zX zu) (zy rfl (by omega) g1 g2 zT zt) (show (12:Nat)≠8 by decide),rfl,rfl,by push_cast -dsimp [zb,za,CLe,ze,e,false_and,if_false]⟩
     ·have hXr:∀ fp fo,C.reL fp fo X=X:=fun fp fo=>zl hX
      push_cast -dsimp [hre2,hre4,hra,hXr]
      exact ⟨[(13,92,4,zF (qr ⟨n,s.ino,false,[]⟩ w.kept),c3),(8,75,6,zr pl,c')],[],jh (zy rfl (Nat.lt_of_lt_of_le hkp k1) k1 k2 zX zu) (zy rfl (by omega) g1 g2 zT zt) (show (13:Nat)≠8 by decide),rfl,rfl,by push_cast -dsimp [zb,za,CLe,ze,e,false_and,if_false]⟩
     ·have hXr:∀ fp fo,C.reL fp fo X=X:=fun fp fo=>zl hX
      have hYr:∀ fp fo,C.reL fp fo Y=Y:=fun fp fo=>zl hY
      push_cast -dsimp [hre2,hre4,hra,hXr,hYr]
      exact ⟨[(14,92,4,zF (qr ⟨n,s.ino,false,[]⟩ w.kept),c3),(8,75,6,zr pl,c')],[],jh (zy rfl (Nat.lt_of_lt_of_le hkp k1) k1 k2 zX zu) (zy rfl (by omega) g1 g2 zT zt) (show (14:Nat)≠8 by decide),rfl,rfl,by push_cast -dsimp [zb,za,CLe,ze,e,false_and,if_false]⟩
   ·have hpe:w.pool = []:=by simpa using hnil
    have hr0:r=0:=by rw[hpe]at hrl;exact Nat.le_zero.1 hrl
    subst hr0
    have hq:zr pl = [[.sc (.int .i64 s.ino),.sc (.int .i64 (zg s.ino w.fs.xs).kind),.sc (.int .i64 0),.str (zg s.ino w.fs.xs).data,.sc (.int .i64 0),.sl 2 (zI (zg s.ino w.fs.xs).es)]]:=by rw[hpc,hpe];rfl
    push_cast -dsimp
    refine jo [] [0] (vo (e:=75) [.sc (.int .i64 s.ino),.sc (.int .i64 (zg s.ino w.fs.xs).kind),.sc (.int .i64 0),.str (zg s.ino w.fs.xs).data,.sc (.int .i64 0),.sl 2 (zI (zg s.ino w.fs.xs).es)] rfl rfl) rfl (by decide) (by decide) (by simp) (by push_cast -dsimp) (by push_cast -dsimp) (fun r1 bx' m hp=>?_)
    have hp:m=0/\∃ c,(zr pl).length<=c/\c<=9223372036854775807/\r1 = .bs 0 0 6 (zr pl).length c/\bx' = [qn 6 (zr pl) c]:=by rw[hq];exact hp
    obtain ⟨rfl,c',g1,g2,rfl,rfl⟩:=hp
    push_cast -dsimp [hre2]
    refine jo [6] [] (VW (G:=G0) { w with fs:=zS w.fs s } ⟨n,s.ino,false,[]⟩ (qn 6 (zr pl) c') (zr pl).length c' (zD zt) hk hw.kept hh) rfl (by decide) (by decide) (by simp) (by push_cast -dsimp) (by push_cast -dsimp [hre2]) (fun r2 bx' m hp=>?_)
    obtain ⟨rfl,c3,Ls,hLs,k1,k2,rfl,rfl⟩:=hp
    rcases hLs with rfl | ⟨X,rfl,hX⟩ | ⟨X,Y,rfl,hX,hY⟩
    ·push_cast -dsimp [hre2,hre4]
     exact ⟨[(10,92,4,zF (qr ⟨n,s.ino,false,[]⟩ w.kept),c3),(6,75,6,zr pl,c')],[],jh (zy rfl (Nat.lt_of_lt_of_le hkp k1) k1 k2 zX zu) (zy rfl (by omega) g1 g2 zT zt) (show (10:Nat)≠6 by decide),rfl,rfl,by push_cast -dsimp [zb,za,CLe,ze,e,false_and,if_false]⟩
    ·have hXr:∀ fp fo,C.reL fp fo X=X:=fun fp fo=>zl hX
     push_cast -dsimp [hre2,hre4,hXr]
     exact ⟨[(11,92,4,zF (qr ⟨n,s.ino,false,[]⟩ w.kept),c3),(6,75,6,zr pl,c')],[],jh (zy rfl (Nat.lt_of_lt_of_le hkp k1) k1 k2 zX zu) (zy rfl (by omega) g1 g2 zT zt) (show (11:Nat)≠6 by decide),rfl,rfl,by push_cast -dsimp [zb,za,CLe,ze,e,false_and,if_false]⟩
    ·have hXr:∀ fp fo,C.reL fp fo X=X:=fun fp fo=>zl hX
     have hYr:∀ fp fo,C.reL fp fo Y=Y:=fun fp fo=>zl hY
     push_cast -dsimp [hre2,hre4,hXr,hYr]
     exact ⟨[(12,92,4,zF (qr ⟨n,s.ino,false,[]⟩ w.kept),c3),(6,75,6,zr pl,c')],[],jh (zy rfl (Nat.lt_of_lt_of_le hkp k1) k1 k2 zX zu) (zy rfl (by omega) g1 g2 zT zt) (show (12:Nat)≠6 by decide),rfl,rfl,by push_cast -dsimp [zb,za,CLe,ze,e,false_and,if_false]⟩
   ·have hpe:w.pool = []:=by simpa using hnil
    have hr0:r=0:=by rw[hpe]at hrl;exact Nat.le_zero.1 hrl
    subst hr0
    have hq:zr pl = [[.sc (.int .i64 s.ino),.sc (.int .i64 (zg s.ino w.fs.xs).kind),.sc (.int .i64 0),.str (zg s.ino w.fs.xs).data,.sc (.int .i64 0),.sl 2 (zI (zg s.ino w.fs.xs).es)]]:=by rw[hpc,hpe];rfl
    push_cast -dsimp
    refine jo [6] [0] (VO (e:=75) [] [.sc (.int .i64 s.ino),.sc (.int .i64 (zg s.ino w.fs.xs).kind),.sc (.int .i64 0),.str (zg s.ino w.fs.xs).data,.sc (.int .i64 0),.sl 2 (zI (zg s.ino w.fs.xs).es)] 0 0 (fun r hr=>by cases hr) rfl (fun r hr=>by cases hr) rfl (by simp) (by simp) (by simp) (by simp)) rfl (by decide) (by decide) (by simp) (by push_cast -dsimp) (by push_cast -dsimp [qn]) (fun r1 bx' m hp=>?_)
    have hp:zoI 6 (0*6) (zr pl) r1 bx' m:=by rw[hq];exact hp
    obtain ⟨rfl,c',g1,g2,⟨rfl,rfl⟩ | ⟨rfl,rfl⟩⟩:=hp
    ·push_cast -dsimp [hre2]
     refine jo [6] [] (VW (G:=G0) { w with fs:=zS w.fs s } ⟨n,s.ino,false,[]⟩ (qn 6 (zr pl) c') (zr pl).length c' (zD zt) hk hw.kept hh) rfl (by decide) (by decide) (by simp) (by push_cast -dsimp) (by push_cast -dsimp [hre2]) (fun r2 bx' m hp=>?_)
     obtain ⟨rfl,c3,Ls,hLs,k1,k2,rfl,rfl⟩:=hp
     rcases hLs with rfl | ⟨X,rfl,hX⟩ | ⟨X,Y,rfl,hX,hY⟩
     ·push_cast -dsimp [hre2,hre4]
      exact ⟨[(10,92,4,zF (qr ⟨n,s.ino,false,[]⟩ w.kept),c3),(6,75,6,zr pl,c')],[],jh (zy rfl (Nat.lt_of_lt_of_le hkp k1) k1 k2 zX zu) (zy rfl (by omega) g1 g2 zT zt) (show (10:Nat)≠6 by decide),rfl,rfl,by push_cast -dsimp [zb,za,CLe,ze,e,false_and,if_false]⟩
     ·have hXr:∀ fp fo,C.reL fp fo X=X:=fun fp fo=>zl hX
      push_cast -dsimp [hre2,hre4,hXr]
      exact ⟨[(11,92,4,zF (qr ⟨n,s.ino,false,[]⟩ w.kept),c3),(6,75,6,zr pl,c')],[],jh (zy rfl (Nat.lt_of_lt_of_le hkp k1) k1 k2 zX zu) (zy rfl (by omega) g1 g2 zT zt) (show (11:Nat)≠6 by decide),rfl,rfl,by push_cast -dsimp [zb,za,CLe,ze,e,false_and,if_false]⟩
     ·have hXr:∀ fp fo,C.reL fp fo X=X:=fun fp fo=>zl hX
      have hYr:∀ fp fo,C.reL fp fo Y=Y:=fun fp fo=>zl hY
      push_cast -dsimp [hre2,hre4,hXr,hYr]
      exact ⟨[(12,92,4,zF (qr ⟨n,s.ino,false,[]⟩ w.kept),c3),(6,75,6,zr pl,c')],[],jh (zy rfl (Nat.lt_of_lt_of_le hkp k1) k1 k2 zX zu) (zy rfl (by omega) g1 g2 zT zt) (show (12:Nat)≠6 by decide),rfl,rfl,by push_cast -dsimp [zb,za,CLe,ze,e,false_and,if_false]⟩
    ·push_cast -dsimp [hre2]
     refine jo [7] [] (VW (G:=G0) { w with fs:=zS w.fs s } ⟨n,s.ino,false,[]⟩ (qn 6 (zr pl) c') (zr pl).length c' (zD zt) hk hw.kept hh) rfl (by decide) (by decide) (by simp) (by push_cast -dsimp) (by push_cast -dsimp [hre2]) (fun r2 bx' m hp=>?_)
     obtain ⟨rfl,c3,Ls,hLs,k1,k2,rfl,rfl⟩:=hp
     rcases hLs with rfl | ⟨X,rfl,hX⟩ | ⟨X,Y,rfl,hX,hY⟩
     ·push_cast -dsimp [hre2,hre4]
      exact ⟨[(11,92,4,zF (qr ⟨n,s.ino,false,[]⟩ w.kept),c3),(7,75,6,zr pl,c')],[],jh (zy rfl (Nat.lt_of_lt_of_le hkp k1) k1 k2 zX zu) (zy rfl (by omega) g1 g2 zT zt) (show (11:Nat)≠7 by decide),rfl,rfl,by push_cast -dsimp [zb,za,CLe,ze,e,false_and,if_false]⟩
     ·have hXr:∀ fp fo,C.reL fp fo X=X:=fun fp fo=>zl hX
      push_cast -dsimp [hre2,hre4,hXr]
      exact ⟨[(12,92,4,zF (qr ⟨n,s.ino,false,[]⟩ w.kept),c3),(7,75,6,zr pl,c')],[],jh (zy rfl (Nat.lt_of_lt_of_le hkp k1) k1 k2 zX zu) (zy rfl (by omega) g1 g2 zT zt) (show (12:Nat)≠7 by decide),rfl,rfl,by push_cast -dsimp [zb,za,CLe,ze,e,false_and,if_false]⟩
     ·have hXr:∀ fp fo,C.reL fp fo X=X:=fun fp fo=>zl hX
      have hYr:∀ fp fo,C.reL fp fo Y=Y:=fun fp fo=>zl hY
      push_cast -dsimp [hre2,hre4,hXr,hYr]
      exact ⟨[(13,92,4,zF (qr ⟨n,s.ino,false,[]⟩ w.kept),c3),(7,75,6,zr pl,c')],[],jh (zy rfl (Nat.lt_of_lt_of_le hkp k1) k1 k2 zX zu) (zy rfl (by omega) g1 g2 zT zt) (show (13:Nat)≠7 by decide),rfl,rfl,by push_cast -dsimp [zb,za,CLe,ze,e,false_and,if_false]⟩
  ·have hz2:¬(zg s.ino w.fs.xs).links-1=0:=by omega
   rw[if_neg hz2,hino]at hg2
   have e:JO w n s=({ w with fs:=zS w.fs s,kept:=qr ⟨n,s.ino,false,[]⟩ w.kept },0):=by unfold JO;rw[hh,if_neg hz];rfl
   have hwi:=Nj (G:=G0) { w with fs:=zS w.fs s } ⟨n,s.ino,false,[]⟩ hk hw.kept hh
   refine fof (fun i=>if i=10 then Vf [(0,.pure),(1,.pure),(2,.pure),(4,.pure),(5,.pure),(6,.pure),(3,.flt [3,4,5]),(7,.bar),(8,.pure),(9,.pure),(10,.bar)] else []) Tryz.func146 ?_;dsimp only[Tryz.f146]
   push_cast -dsimp
   refine cl (h1) ?_;push_cast -dsimp
   refine cl (hg) ?_;push_cast -dsimp
   refine cl (hu) ?_;push_cast -dsimp
   refine cl (hg2) ?_;push_cast -dsimp
   refine cl (hwi) ?_;push_cast -dsimp
   exact dn (by push_cast -dsimp [zb,za,CLe,ze,e])
end
section
open CA CB
open Go.RowKit
theorem Nk (w:qy) (hf:FsI w.fs) (hs:FsS w.fs) (hk:w.kept.length<=90000) (hR:qA jC zN.slot w.kept) (n i:Int):Fun Tryz.prog G0 168 [js w,.sc (.int .i64 n),.sc (.int .i64 i)] (.tup [js (zW w n i).1,.sc (.int .i64 (zW w n i).2)]) 0:=by
 have hlen:=hs.len
 have h1:=NE (G:=G0) w n (by omega) hR
 have hg:=jO (G:=G0) w.fs i (by omega) hf.rises
 cases hh:U3 n w.kept with
 | true =>
  have e:zW w n i=(w,13):=by unfold zW;rw[hh];rfl
  rw[hh]at h1
  refine fon Tryz.func168 ?_;dsimp only[Tryz.f168]
  push_cast -dsimp
  refine cl (h1) ?_;push_cast -dsimp
  exact dn (by push_cast -dsimp [zb,za,CLe,ze,e])
 | false =>
  have e:zW w n i=({ w with kept:=qr ⟨n,i,true,(zg i w.fs.xs).data⟩ w.kept },0):=by unfold zW;rw[hh];rfl
  have hw:=Nj (G:=G0) w ⟨n,i,true,(zg i w.fs.xs).data⟩ hk hR hh
  rw[hh]at h1
  refine fon Tryz.func168 ?_;dsimp only[Tryz.f168]
  push_cast -dsimp
  refine cl (h1) ?_;push_cast -dsimp
  refine cl (hg) ?_;push_cast -dsimp
  refine cl (hw) ?_;push_cast -dsimp
  exact dn (by push_cast -dsimp [zb,za,CLe,ze,e])
end
section
open CA CB
open Go.RowKit
theorem zmY {f:FsV} (hf:FsI f) (p:List UInt8):(atV f p).1.ino≠0->zG (atV f p).1.ino f.xs=true:=by
 unfold atV
 split
 ·exact zc3 hf (zJ p) ⟨0,[],1⟩ fun _=>hf.root
 ·intro h;exact absurd rfl h
theorem zfi {f:FsV} (hf:FsI f) (p:List UInt8):zG (atV f p).1.ino f.xs = !decide ((atV f p).1.ino=0):=by
 by_cases h:(atV f p).1.ino=0
 ·rw[decide_eq_true h]
  cases hh:zG (atV f p).1.ino f.xs with
  | false=>rfl
  | true=>exact absurd h (zdP hf hh)
 ·rw[zmY hf p h,decide_eq_false h];rfl
theorem HJ (f:FsV) (hf:FsI f) (hs:FsS f) (p:List UInt8) (hp:p.length<=100000):Fun Tryz.prog G0 165 [.agg (fsC f),.str p] (.tup [.agg (YG (isV f p false).1),.sc (.int .i64 (isV f p false).2.2)]) 0:=by
 have h1:=vv f hf hs p hp
 have hi:=zfi hf p
 have e1:(isV f p false).1=(atV f p).1:=rfl
 by_cases h0:(atV f p).2=0
 ·have h0':=eq_true h0
  by_cases hz:(atV f p).1.ino=0
  ·have hz':=eq_true hz
   rw[decide_eq_true hz]at hi
   have e3:(isV f p false).2.2=0:=by unfold isV;simp[h0,hi]
   refine fon Tryz.func165 ?_;dsimp only[Tryz.f165]
   push_cast -dsimp
   refine cl (h1) ?_;push_cast -dsimp [h0',hz']
   exact dn (by push_cast -dsimp [zb,za,CLe,ze,e1,e3])
  ·have hz':=eq_false hz
   rw[decide_eq_false hz]at hi
   have e3:(isV f p false).2.2=2:=by unfold isV;simp[h0,hi]
   refine fon Tryz.func165 ?_;dsimp only[Tryz.f165]
   push_cast -dsimp
   refine cl (h1) ?_;push_cast -dsimp [h0',hz']
   exact dn (by push_cast -dsimp [zb,za,CLe,ze,e1,e3])
 ·have h0':=eq_false h0
  have e3:(isV f p false).2.2=(atV f p).2:=by unfold isV;simp[h0]
  refine fon Tryz.func165 ?_;dsimp only[Tryz.f165]
  push_cast -dsimp
  refine cl (h1) ?_;push_cast -dsimp [h0']
  exact dn (by push_cast -dsimp [zb,za,CLe,ze,e1,e3])
theorem zaK {f:FsV} (hf:FsI f) {p:List UInt8} (h:(isV f p true).2.2=0):(isV f p true).2.1.kind=1∨(isV f p true).2.1.kind=2∨(isV f p true).2.1.kind=3:=by
 have hz:=Zu h
 have hh:zG (atV f p).1.ino f.xs=true:=by
  unfold isV at h
  simp only[hz]at h
  cases hq:zG (atV f p).1.ino f.xs with
  | true=>rfl
  | false=>rw[hq]at h;simp at h
 exact hf.kind _ (zm hh).2.1
theorem Gg (f:FsV) (hf:FsI f) (hs:FsS f) (p:List UInt8) (hp:p.length<=100000):Fun Tryz.prog G0 167 [.agg (fsC f),.str p] (.tup [.agg (Yi (zM f p).1),.sc (.int .i64 (zM f p).2)]) 0:=by
 have h1:=Q8 f hf hs p hp
 have e1:(zM f p).1=(isV f p true).2.1:=rfl
 have e2:(zM f p).2=if (isV f p true).2.2≠0 then (isV f p true).2.2 else if (isV f p true).2.1.kind=2 then 4 else if (isV f p true).2.1.kind=3 then 9 else 0:=rfl
 have hkt:=fun h=>zaK hf (p:=p) h
 generalize isV f p true=r at h1 e1 e2 hkt
 obtain ⟨s,x,w⟩:=r
 simp only at h1 e1 e2 hkt
 by_cases h0:w=0
 ·have h0':=eq_true h0
  by_cases k2:x.kind=2
  ·have k2':=eq_true k2
   have e3:(zM f p).2=4:=by rw[e2];simp[h0,k2]
   refine fon Tryz.func167 ?_;dsimp only[Tryz.f167]
   push_cast -dsimp
   refine cl (h1) ?_;push_cast -dsimp [h0',k2']
   exact dn (by push_cast -dsimp [zb,za,CLe,ze,e1,e3])
  ·have k2':=eq_false k2
   by_cases k1:x.kind=1
   ·have k1':=eq_true k1
    have e3:(zM f p).2=0:=by rw[e2];simp[h0,k1]
    refine fon Tryz.func167 ?_;dsimp only[Tryz.f167]
    push_cast -dsimp
    refine cl (h1) ?_;push_cast -dsimp [h0',k2',k1']
    exact dn (by push_cast -dsimp [zb,za,CLe,ze,e1,e3])
   ·have k1':=eq_false k1
    have k3:x.kind=3:=by rcases hkt h0 with h | h | h;exact absurd h k1;exact absurd h k2;exact h
    have e3:(zM f p).2=9:=by rw[e2];simp[h0,k3]
    refine fon Tryz.func167 ?_;dsimp only[Tryz.f167]
    push_cast -dsimp
    refine cl (h1) ?_;push_cast -dsimp [h0',k2',k1']
    exact dn (by push_cast -dsimp [zb,za,CLe,ze,e1,e3])
 ·have h0':=eq_false h0
  have e3:(zM f p).2=w:=by rw[e2];simp[h0]
  refine fon Tryz.func167 ?_;dsimp only[Tryz.f167]
  push_cast -dsimp
  refine cl (h1) ?_;push_cast -dsimp [h0']
  exact dn (by push_cast -dsimp [zb,za,CLe,ze,e1,e3])
structure VI (w:qy):Prop where
 fs:FsS w.fs
 next:zld w.fs
 kept:w.kept.length<=10000
 pool:w.pool.length<=10000
theorem GQ (w:qy) (hw:Xl w) (hs:VI w) (p:List UInt8) (hp:p.length<=100000) (hpl:zP p=true) (k:Int) (t:List UInt8) (ht:t.length<=10000):Fun Tryz.prog G0 137 [js w,.str p,.sc (.int .i64 k),.str t] (.tup [js (Jk w p k t).1,.sc (.int .i64 (Jk w p k t).2)]) 0:=by
 have h1:=HJ w.fs hw.fs hs.fs p hp
 by_cases h0:(isV w.fs p false).2.2=0
 ·have h0':=eq_true h0
  have hfr:=JH hw.fs hpl h0
  have hln:=vr hw.fs hpl (Zu h0)
  have hln:(isV w.fs p false).1.name.length<=300:=hln
  have hc:=zaC w.fs hw.fs hs.fs hs.next (isV w.fs p false).1 hfr (by omega) k t (by omega)
  have e:Jk w p k t=({ w with fs:=(Zq w.fs (isV w.fs p false).1 k t).1 },(Zq w.fs (isV w.fs p false).1 k t).2):=by unfold Jk;rw[if_neg (by simp[h0])]
  refine fon Tryz.func137 ?_;dsimp only[Tryz.f137]
  push_cast -dsimp
  refine cl (h1) ?_;push_cast -dsimp [h0']
  refine cl (hc) ?_;push_cast -dsimp
  exact dn (by push_cast -dsimp [zb,za,CLe,ze,e])
 ·have h0':=eq_false h0
  have e:Jk w p k t=(w,(isV w.fs p false).2.2):=by unfold Jk;rw[if_pos h0]
  refine fon Tryz.func137 ?_;dsimp only[Tryz.f137]
  push_cast -dsimp
  refine cl (h1) ?_;push_cast -dsimp [h0']
  exact dn (by push_cast -dsimp [zb,za,CLe,ze,e])
end
section
open CA CB
open Go.RowKit
theorem QS {w:qy} (hw:Xl w) (hs:VI w) {p:List UInt8} (hp:zP p=true) (h:(zM w.fs p).2=0):(zM w.fs p).1.data.length<=10000:=by
 obtain ⟨h1,_,h3⟩:=Qm hw.fs hp h
 rw[h3]
 exact (hs.fs.node _ (zm h1).2.1).2.1
theorem uX (w:qy) (hw:Xl w) (hs:VI w) (o:OpV) (ho:short o) (pa:zP o.a=true) (pb:zP o.b=true):Fun Tryz.prog G0 138 [js w,.agg (opL o)] (.tup [js (j0 w o).1,.sc (.int .i64 (j0 w o).2)]) 0:=by
 have h1:=Gg w.fs hw.fs hs.fs o.a ho.1
 unfold opL
 by_cases h0:(zM w.fs o.a).2=0
 ·have h0':=eq_true h0
  have hm:=GQ w hw hs o.b ho.2.1 pb 1 (zM w.fs o.a).1.data (QS hw hs pa h0)
  have e:j0 w o=Jk w o.b 1 (zM w.fs o.a).1.data:=by unfold j0;rw[if_neg (by simp[h0])]
  refine fon Tryz.func138 ?_;dsimp only[Tryz.f138]
  push_cast -dsimp
  refine cl (h1) ?_;push_cast -dsimp [h0']
  refine cl (hm) ?_;push_cast -dsimp
  exact dn (by push_cast -dsimp [zb,za,CLe,ze,e])
 ·have h0':=eq_false h0
  have e:j0 w o=(w,(zM w.fs o.a).2):=by unfold j0;rw[if_pos h0]
  refine fon Tryz.func138 ?_;dsimp only[Tryz.f138]
  push_cast -dsimp
  refine cl (h1) ?_;push_cast -dsimp [h0']
  exact dn (by push_cast -dsimp [zb,za,CLe,ze,e])
theorem zbG (w:qy) (hw:Xl w) (hs:VI w) (o:OpV) (ho:short o) (pa:zP o.a=true) (pb:zP o.b=true):Fun Tryz.prog G0 141 [js w,.agg (opL o)] (.tup [js (qE w o).1,.sc (.int .i64 (qE w o).2)]) 0:=by
 have h1:=Q8 w.fs hw.fs hs.fs o.a ho.1
 have h2:=HJ w.fs hw.fs hs.fs o.b ho.2.1
 unfold opL
 by_cases h0:(isV w.fs o.a true).2.2=0
 ·have h0':=eq_true h0
  obtain ⟨t1,t2⟩:=jF hw.fs pa h0
  have hi:=qh.ino hw.fs t1
  have hino:(isV w.fs o.a true).2.1.ino=(isV w.fs o.a true).1.ino:=by rw[t2,(zm hi).2.2]
  by_cases hk:(isV w.fs o.a true).2.1.kind=2
  ·have hk':=eq_true hk
   have e:qE w o=(w,11):=by unfold qE;simp[h0,hk]
   refine fon Tryz.func141 ?_;dsimp only[Tryz.f141]
   push_cast -dsimp
   refine cl (h1) ?_;push_cast -dsimp [h0',hk']
   exact dn (by push_cast -dsimp [zb,za,CLe,ze,e])
  ·have hk':=eq_false hk
   by_cases hb:(isV w.fs o.b false).2.2=0
   ·have hb':=eq_true hb
    have hfree:=JH hw.fs pb hb
    have hne:(isV w.fs o.b false).1.dir≠(isV w.fs o.a true).2.1.ino:=fun e=>by
     rw[hino]at e
     have:=hfree.kind
     rw[e,←t2]at this
     exact hk this
    have hn:=zgh w.fs hw.fs hs.fs (isV w.fs o.b false).1 hfree (isV w.fs o.a true).2.1.ino (by rw[hino];exact hi) hne
    have e:qE w o=({ w with fs:=V3 w.fs (isV w.fs o.b false).1 (isV w.fs o.a true).2.1.ino },0):=by unfold qE;simp[h0,hk,hb]
    refine fon Tryz.func141 ?_;dsimp only[Tryz.f141]
    push_cast -dsimp
    refine cl (h1) ?_;push_cast -dsimp [h0',hk']
    refine cl (h2) ?_;push_cast -dsimp [hb']
    refine cl (hn) ?_;push_cast -dsimp
    exact dn (by push_cast -dsimp [zb,za,CLe,ze,e,hb])
   ·have hb':=eq_false hb
    have e:qE w o=(w,(isV w.fs o.b false).2.2):=by unfold qE;simp[h0,hk,hb]
    refine fon Tryz.func141 ?_;dsimp only[Tryz.f141]
    push_cast -dsimp
    refine cl (h1) ?_;push_cast -dsimp [h0',hk']
    refine cl (h2) ?_;push_cast -dsimp [hb']
    exact dn (by push_cast -dsimp [zb,za,CLe,ze,e])
 ·have h0':=eq_false h0
  have e:qE w o=(w,(isV w.fs o.a true).2.2):=by unfold qE;simp[h0]
  refine fon Tryz.func141 ?_;dsimp only[Tryz.f141]
  push_cast -dsimp
  refine cl (h1) ?_;push_cast -dsimp [h0']
  exact dn (by push_cast -dsimp [zb,za,CLe,ze,e])
theorem NH {f:FsV} (hf:FsI f) {p:List UInt8} (h:(isV f p false).2.2=0):(isV f p false).1.ino=0:=by
 have hz:=Zu h
 have hi:=zfi hf p
 unfold isV at h ⊢
 simp only[hz]at h ⊢
 by_cases h0:(atV f p).1.ino=0
 ·exact h0
 ·rw[decide_eq_false h0]at hi
  rw[hi]at h
  simp at h
theorem zeI (w:qy) (hw:Xl w) (hs:VI w) (o:OpV) (ho:short o) (pa:zP o.a=true) (pb:zP o.b=true):Fun Tryz.prog G0 142 [js w,.agg (opL o)] (.tup [js (Jf w o).1,.sc (.int .i64 (Jf w o).2)]) 0:=by
 have h1:=Q8 w.fs hw.fs hs.fs o.a ho.1
 have h2:=HJ w.fs hw.fs hs.fs o.b ho.2.1
 unfold opL
 by_cases h0:(isV w.fs o.a true).2.2=0
 ·have h0':=eq_true h0
  obtain ⟨t1,t2⟩:=jF hw.fs pa h0
  by_cases hb:(isV w.fs o.b false).2.2=0
  ·have hb':=eq_true hb
   have hfree:=JH hw.fs pb hb
   have hn:=ziz w.fs hw.fs hs.fs (isV w.fs o.a true).1 (isV w.fs o.b false).1 t1 hfree (NH hw.fs hb)
   have e:Jf w o=({ w with fs:=Q7 w.fs (isV w.fs o.a true).1 (isV w.fs o.b false).1 },0):=by unfold Jf;simp[h0,hb]
   refine fon Tryz.func142 ?_;dsimp only[Tryz.f142]
   push_cast -dsimp
   refine cl (h1) ?_;push_cast -dsimp [h0']
   refine cl (h2) ?_;push_cast -dsimp [hb']
   refine cl (hn) ?_;push_cast -dsimp
   exact dn (by push_cast -dsimp [zb,za,CLe,ze,e,hb])
  ·have hb':=eq_false hb
   have e:Jf w o=(w,(isV w.fs o.b false).2.2):=by unfold Jf;simp[h0,hb]
   refine fon Tryz.func142 ?_;dsimp only[Tryz.f142]
   push_cast -dsimp
   refine cl (h1) ?_;push_cast -dsimp [h0']
   refine cl (h2) ?_;push_cast -dsimp [hb']
   exact dn (by push_cast -dsimp [zb,za,CLe,ze,e])
 ·have h0':=eq_false h0
  have e:Jf w o=(w,(isV w.fs o.a true).2.2):=by unfold Jf;simp[h0]
  refine fon Tryz.func142 ?_;dsimp only[Tryz.f142]
  push_cast -dsimp
  refine cl (h1) ?_;push_cast -dsimp [h0']
  exact dn (by push_cast -dsimp [zb,za,CLe,ze,e])
end
section
open CA CB
open Go.RowKit
theorem xz (w:qy) (hw:Xl w) (hs:VI w) (o:OpV) (ho:short o) (pa:zP o.a=true) (pb:zP o.b=true):Fun Tryz.prog G0 139 [js w,.agg (opL o)] (.tup [js (zU w o).1,.sc (.int .i64 (zU w o).2)]) 0:=by
 have h1:=Gg w.fs hw.fs hs.fs o.a ho.1
 have h2:=Gg w.fs hw.fs hs.fs o.b ho.2.1
 have h3:=Nk w hw.fs hs.fs (by have:=hs.kept;omega) hw.kept o.slot (zM w.fs o.b).1.ino
 unfold opL
 by_cases a0:(zM w.fs o.a).2=0
 rotate_left
 ·have a0':=eq_false a0
  have e:zU w o=(w,(zM w.fs o.a).2):=by unfold zU;rw[if_pos a0]
  refine fon Tryz.func139 ?_;dsimp only[Tryz.f139]
  push_cast -dsimp
  refine cl (h1) ?_;push_cast -dsimp [a0']
  exact dn (by push_cast -dsimp [zb,za,CLe,ze,e])
 have a0':=eq_true a0
 have hfa:=QS hw hs pa a0
 by_cases b0:(zM w.fs o.b).2=0
 rotate_left
 ·have b0':=eq_false b0
  have e:zU w o=(w,(zM w.fs o.b).2):=by unfold zU;rw[if_neg (by simp[a0]),if_pos b0]
  refine fon Tryz.func139 ?_;dsimp only[Tryz.f139]
  push_cast -dsimp
  refine cl (h1) ?_;push_cast -dsimp [a0']
  refine cl (h2) ?_;push_cast -dsimp [b0']
  exact dn (by push_cast -dsimp [zb,za,CLe,ze,e])
 have b0':=eq_true b0
 obtain ⟨fb1,fb2,fb3⟩:=Qm hw.fs pb b0
 by_cases i0:(zM w.fs o.a).1.ino=(zM w.fs o.b).1.ino
 ·have i0':=eq_true i0
  have e:zU w o=(w,9):=by unfold zU;rw[if_neg (by simp[a0]),if_neg (by simp[b0]),if_pos i0]
  refine fon Tryz.func139 ?_;dsimp only[Tryz.f139]
  push_cast -dsimp
  refine cl (h1) ?_;push_cast -dsimp [a0']
  refine cl (h2) ?_;push_cast -dsimp [b0',i0']
  exact dn (by push_cast -dsimp [zb,za,CLe,ze,e])
 have i0':=eq_false i0
 cases hh:U3 o.slot w.kept with
 | true =>
  have ek:zW w o.slot (zM w.fs o.b).1.ino=(w,13):=by unfold zW;rw[hh];rfl
  have e:zU w o=(w,13):=by unfold zU;rw[if_neg (by simp[a0]),if_neg (by simp[b0]),if_neg i0,ek];rfl
  rw[ek]at h3
  refine fon Tryz.func139 ?_;dsimp only[Tryz.f139]
  push_cast -dsimp
  refine cl (h1) ?_;push_cast -dsimp [a0']
  refine cl (h2) ?_;push_cast -dsimp [b0',i0']
  refine cl (h3) ?_;push_cast -dsimp
  exact dn (by push_cast -dsimp [zb,za,CLe,ze,e])
 | false =>
  have ek:zW w o.slot (zM w.fs o.b).1.ino=({ w with kept:=qr ⟨o.slot,(zM w.fs o.b).1.ino,true,(zg (zM w.fs o.b).1.ino w.fs.xs).data⟩ w.kept },0):=by unfold zW;rw[hh];rfl
  have h4:=xo w.fs hw.fs hs.fs (zM w.fs o.b).1.ino fb1 (zM w.fs o.a).1.data hfa
  rw[ek]at h3
  by_cases d0:(J7 w.fs (zM w.fs o.b).1.ino (zM w.fs o.a).1.data).2=0
  ·have d0':=eq_true d0
   have e:zU w o=(⟨(J7 w.fs (zM w.fs o.b).1.ino (zM w.fs o.a).1.data).1,qr ⟨o.slot,(zM w.fs o.b).1.ino,true,(zg (zM w.fs o.b).1.ino w.fs.xs).data⟩ w.kept,w.pool⟩,0):=by unfold zU;rw[if_neg (by simp[a0]),if_neg (by simp[b0]),if_neg i0,ek,if_neg (by simp),if_neg (by simp[d0])]
   refine fon Tryz.func139 ?_;dsimp only[Tryz.f139]
   push_cast -dsimp
   refine cl (h1) ?_;push_cast -dsimp [a0']
   refine cl (h2) ?_;push_cast -dsimp [b0',i0']
   refine cl (h3) ?_;push_cast -dsimp
   refine cl (h4) ?_;push_cast -dsimp [d0']
   exact dn (by push_cast -dsimp [zb,za,CLe,ze,e])
  ·have d0':=eq_false d0
   have e:zU w o=(w,(J7 w.fs (zM w.fs o.b).1.ino (zM w.fs o.a).1.data).2):=by unfold zU;rw[if_neg (by simp[a0]),if_neg (by simp[b0]),if_neg i0,ek,if_neg (by simp),if_pos d0]
   refine fon Tryz.func139 ?_;dsimp only[Tryz.f139]
   push_cast -dsimp
   refine cl (h1) ?_;push_cast -dsimp [a0']
   refine cl (h2) ?_;push_cast -dsimp [b0',i0']
   refine cl (h3) ?_;push_cast -dsimp
   refine cl (h4) ?_;push_cast -dsimp [d0']
   exact dn (by push_cast -dsimp [zb,za,CLe,ze,e])
theorem uQ (w:qy) (hw:Xl w) (hs:VI w) (o:OpV) (s:qM) (hsp:qh w.fs s) (he:(zg s.ino w.fs.xs).es = []):MZ Tryz.prog G0 145 [.agg (YG s),.ptr 0 0,.ptr 1 0] [Ga w,opL o] 0 (.tup [js (JO w o.slot s).1,.sc (.int .i64 (JO w o.slot s).2)]) [Ga w,opL o] 0:=by
 have h:=zhN w hw hs.fs (by have:=hs.kept;omega) (by have:=hs.pool;omega) o.slot s hsp he
 unfold opL
 refine foB (fun _=>[]) Tryz.func145 ?_;dsimp only[Tryz.f145]
 push_cast -dsimp
 refine cl (h) ?_;push_cast -dsimp
 exact ⟨[],rfl,rfl,by push_cast -dsimp [zb,za,CLe,ze],by push_cast -dsimp [zb,za,CLe,ze]⟩
theorem zgR (w:qy) (hw:Xl w) (hs:VI w) (o:OpV) (ho:short o) (pa:zP o.a=true):MZ Tryz.prog G0 144 [js w,.str o.a,.clo (.func 145) [] [.ptr 0 0,.ptr 1 0]] [Ga w,opL o] 0 (.tup [js (qu w o).1,.sc (.int .i64 (qu w o).2)]) [Ga w,opL o] 0:=by
 have h1:=Q8 w.fs hw.fs hs.fs o.a ho.1
 by_cases h0:(isV w.fs o.a true).2.2=0
 ·have h0':=eq_true h0
  obtain ⟨t1,t2⟩:=jF hw.fs pa h0
  by_cases hes:(isV w.fs o.a true).2.1.es = []
  ·have hel:(0<(zI (isV w.fs o.a true).2.1.es).length)=False:=eq_false (by rw[hes];simp)
   have he:(zg (isV w.fs o.a true).1.ino w.fs.xs).es = []:=by rw[←t2];exact hes
   have hd:=uQ w hw hs o (isV w.fs o.a true).1 t1 he
   have e:qu w o=JO w o.slot (isV w.fs o.a true).1:=by unfold qu;simp[h0,hes]
   unfold opL at hd ⊢
   refine foB (fun _=>[]) Tryz.func144 ?_;dsimp only[Tryz.f144]
   push_cast -dsimp
   refine cl (h1) ?_;push_cast -dsimp [h0',hel]
   refine yY [0,1] [] hd rfl (by decide) (by decide) (by simp) (by push_cast -dsimp) (by push_cast -dsimp) ?_
   push_cast -dsimp
   exact ⟨[],rfl,rfl,by push_cast -dsimp [zb,za,CLe,ze],by push_cast -dsimp [zb,za,CLe,ze,e]⟩
  ·have hel:(0<(zI (isV w.fs o.a true).2.1.es).length)=True:=eq_true (by rw[List.length_map];exact List.length_pos_iff.2 hes)
   have e:qu w o=(w,5):=by unfold qu;simp[h0,hes]
   unfold opL
   refine foB (fun _=>[]) Tryz.func144 ?_;dsimp only[Tryz.f144]
   push_cast -dsimp
   refine cl (h1) ?_;push_cast -dsimp [h0',hel]
   exact ⟨[],rfl,rfl,by push_cast -dsimp [zb,za,CLe,ze],by push_cast -dsimp [zb,za,CLe,ze,e]⟩
 ·have h0':=eq_false h0
  have e:qu w o=(w,(isV w.fs o.a true).2.2):=by unfold qu;simp[h0]
  unfold opL
  refine foB (fun _=>[]) Tryz.func144 ?_;dsimp only[Tryz.f144]
  push_cast -dsimp
  refine cl (h1) ?_;push_cast -dsimp [h0']
  exact ⟨[],rfl,rfl,by push_cast -dsimp [zb,za,CLe,ze],by push_cast -dsimp [zb,za,CLe,ze,e]⟩
theorem zc1 (w:qy) (hw:Xl w) (hs:VI w) (o:OpV) (ho:short o) (pa:zP o.a=true):Fun Tryz.prog G0 136 [js w,.agg (opL o)] (.tup [js (Jk w o.a 2 []).1,.sc (.int .i64 (Jk w o.a 2 []).2)]) 0:=by
 have h:=GQ w hw hs o.a ho.1 pa 2 [] (by simp)
 unfold opL
 refine fon Tryz.func136 ?_;dsimp only[Tryz.f136]
 push_cast -dsimp
 refine cl (h) ?_;push_cast -dsimp
 exact dn
theorem zee (w:qy) (hw:Xl w) (hs:VI w) (o:OpV) (ho:short o) (pa:zP o.a=true) (hd:o.d.length<=10000):Fun Tryz.prog G0 140 [js w,.agg (opL o)] (.tup [js (Jk w o.a 3 o.d).1,.sc (.int .i64 (Jk w o.a 3 o.d).2)]) 0:=by
 have h:=GQ w hw hs o.a ho.1 pa 3 o.d hd
 unfold opL
 refine fon Tryz.func140 ?_;dsimp only[Tryz.f140]
 push_cast -dsimp
 refine cl (h) ?_;push_cast -dsimp
 exact dn
theorem zfE (w:qy) (hw:Xl w) (hs:VI w) (o:OpV) (ho:short o) (pa:zP o.a=true):Fun Tryz.prog G0 143 [js w,.agg (opL o)] (.tup [js (qu w o).1,.sc (.int .i64 (qu w o).2)]) 0:=by
 have h:=zgR w hw hs o ho pa
 unfold opL at h ⊢
 refine fon Tryz.func143 ?_;dsimp only[Tryz.f143]
 push_cast -dsimp
 refine yY [0,1] [] h rfl (by decide) (by decide) (by simp) (by push_cast -dsimp) (by push_cast -dsimp) ?_
 push_cast -dsimp
 exact dn
end
section
open Go.RowKit
section
variable {G:zq}
abbrev zng:List C:=[.clo (.func 136) [] [],.clo (.func 138) [] [],.clo (.func 139) [] [],.clo (.func 140) [] [],.clo (.func 141) [] [],.clo (.func 142) [] [],.clo (.func 143) [] [],.clo (.func 147) [] [],.clo (.func 150) [] [],.clo (.func 151) [] []]
theorem J5:Fun Tryz.prog G 99 [] (.mo 0 140 (.int .i64 [1,2,3,4,5,6,7,8,9,10]) zng) 1:=by
 refine fon Tryz.func99 ?_;dsimp only[Tryz.f99]
 push_cast -dsimp [kf,Zs,Option.map_none,List.nil_append,List.cons_append,reduceIte,Int.reduceEq]
 exact ⟨[.inl 0],rfl,rfl,by push_cast -dsimp [zb,za,CLe,ze]⟩
end
end
section
open CA CB
open Go.RowKit
theorem Fun.g0 {P:Program} {G':zq} {f:FuncId} {args:List C} {r:C} {n:Nat} (h:Fun P G0 f args r n):Fun P G' f args r n:=⟨h.1,fun R vs hg hv=>h.2 R vs (yF R) hv⟩
theorem Mo (w:qy) (hw:Xl w) (hs:VI w) (o:OpV) (ho:short o) (hd:o.d.length<=10000) (hk:o.kind<=7):Fun Tryz.prog G1 57 [js w,.agg (opL o)] (.tup [js (doV w o).1,.sc (.int .i64 (doV w o).2)]) 0:=by
 obtain ⟨k,s,a,b,d⟩:=o
 cases hm:Z4 ⟨k,s,a,b,d⟩ with
 | false =>
  have e:doV w ⟨k,s,a,b,d⟩=(w,12):=by unfold doV;rw[hm];rfl
  have hop:=Jz k s a b d ho
  rw[hm]at hop
  rw[e]
  unfold opL qG at hop
  unfold opL
  refine fof (fun i=>if i=3 then [false,false,false,false,false,false,false,false,false,true] else []) Tryz.func57 ?_;dsimp only[Tryz.f57]
  push_cast -dsimp
  refine cl (hop) ?_;push_cast -dsimp
  exact dn
 | true =>
 have hk1:1<=k:=by
  unfold Z4 at hm
  simp only[Bool.and_eq_true,decide_eq_true_eq]at hm
  exact hm.1.1.1.1.1.1
 obtain ⟨p1,p2,_⟩:=XT hm
 have hk7:k<=7:=hk
 obtain rfl | rfl | rfl | rfl | rfl | rfl | rfl:k=1∨k=2∨k=3∨k=4∨k=5∨k=6∨k=7:=by omega
 ·have e:doV w ⟨1,s,a,b,d⟩=Jk w a 2 []:=by unfold doV;rw[hm];rfl
  have hq:=(zc1 w hw hs ⟨1,s,a,b,d⟩ ho p1).g0 (G':=G1)
  have hop:=Jz 1 s a b d ho
  rw[hm]at hop
  rw[e]
  unfold opL qG at hop
  unfold opL at hq ⊢
  refine fof (fun i=>if i=3 then [false,false,false,false,false,false,false,false,false,true] else []) Tryz.func57 ?_;dsimp only[Tryz.f57]
  push_cast -dsimp
  refine cl (hop) ?_;push_cast -dsimp
  refine cl (J5 (G:=G1)) ?_;push_cast -dsimp [vV,Zs,reduceIte,Int.reduceEq,Option.map_some,Option.map_none]
  refine cl (hq) ?_;push_cast -dsimp
  exact dn
 ·have e:doV w ⟨2,s,a,b,d⟩=j0 w ⟨2,s,a,b,d⟩:=by unfold doV;rw[hm];rfl
  have hq:=(uX w hw hs ⟨2,s,a,b,d⟩ ho p1 (p2 rfl)).g0 (G':=G1)
  have hop:=Jz 2 s a b d ho
  rw[hm]at hop
  rw[e]
  unfold opL qG at hop
  unfold opL at hq ⊢
  refine fof (fun i=>if i=3 then [false,false,false,false,false,false,false,false,false,true] else []) Tryz.func57 ?_;dsimp only[Tryz.f57]
  push_cast -dsimp
  refine cl (hop) ?_;push_cast -dsimp
  refine cl (J5 (G:=G1)) ?_;push_cast -dsimp [vV,Zs,reduceIte,Int.reduceEq,Option.map_some,Option.map_none]
  refine cl (hq) ?_;push_cast -dsimp
  exact dn
 ·have e:doV w ⟨3,s,a,b,d⟩=zU w ⟨3,s,a,b,d⟩:=by unfold doV;rw[hm];rfl
  have hq:=(xz w hw hs ⟨3,s,a,b,d⟩ ho p1 (p2 rfl)).g0 (G':=G1)
  have hop:=Jz 3 s a b d ho
  rw[hm]at hop
  rw[e]
  unfold opL qG at hop
  unfold opL at hq ⊢
  refine fof (fun i=>if i=3 then [false,false,false,false,false,false,false,false,false,true] else []) Tryz.func57 ?_;dsimp only[Tryz.f57]
  push_cast -dsimp
  refine cl (hop) ?_;push_cast -dsimp
  refine cl (J5 (G:=G1)) ?_;push_cast -dsimp [vV,Zs,reduceIte,Int.reduceEq,Option.map_some,Option.map_none]
  refine cl (hq) ?_;push_cast -dsimp
  exact dn
 ·have e:doV w ⟨4,s,a,b,d⟩=Jk w a 3 d:=by unfold doV;rw[hm];rfl
  have hq:=(zee w hw hs ⟨4,s,a,b,d⟩ ho p1 hd).g0 (G':=G1)
  have hop:=Jz 4 s a b d ho
  rw[hm]at hop
  rw[e]
  unfold opL qG at hop
  unfold opL at hq ⊢
  refine fof (fun i=>if i=3 then [false,false,false,false,false,false,false,false,false,true] else []) Tryz.func57 ?_;dsimp only[Tryz.f57]
  push_cast -dsimp
  refine cl (hop) ?_;push_cast -dsimp
  refine cl (J5 (G:=G1)) ?_;push_cast -dsimp [vV,Zs,reduceIte,Int.reduceEq,Option.map_some,Option.map_none]
  refine cl (hq) ?_;push_cast -dsimp
  exact dn
 ·have e:doV w ⟨5,s,a,b,d⟩=qE w ⟨5,s,a,b,d⟩:=by unfold doV;rw[hm];rfl
  have hq:=(zbG w hw hs ⟨5,s,a,b,d⟩ ho p1 (p2 rfl)).g0 (G':=G1)
  have hop:=Jz 5 s a b d ho
  rw[hm]at hop
  rw[e]
  unfold opL qG at hop
  unfold opL at hq ⊢
  refine fof (fun i=>if i=3 then [false,false,false,false,false,false,false,false,false,true] else []) Tryz.func57 ?_;dsimp only[Tryz.f57]
  push_cast -dsimp
  refine cl (hop) ?_;push_cast -dsimp
  refine cl (J5 (G:=G1)) ?_;push_cast -dsimp [vV,Zs,reduceIte,Int.reduceEq,Option.map_some,Option.map_none]
  refine cl (hq) ?_;push_cast -dsimp
  exact dn
 ·have e:doV w ⟨6,s,a,b,d⟩=Jf w ⟨6,s,a,b,d⟩:=by unfold doV;rw[hm];rfl
  have hq:=(zeI w hw hs ⟨6,s,a,b,d⟩ ho p1 (p2 rfl)).g0 (G':=G1)
  have hop:=Jz 6 s a b d ho
  rw[hm]at hop
  rw[e]
  unfold opL qG at hop
  unfold opL at hq ⊢
  refine fof (fun i=>if i=3 then [false,false,false,false,false,false,false,false,false,true] else []) Tryz.func57 ?_;dsimp only[Tryz.f57]
  push_cast -dsimp
  refine cl (hop) ?_;push_cast -dsimp
  refine cl (J5 (G:=G1)) ?_;push_cast -dsimp [vV,Zs,reduceIte,Int.reduceEq,Option.map_some,Option.map_none]
  refine cl (hq) ?_;push_cast -dsimp
  exact dn
 ·have e:doV w ⟨7,s,a,b,d⟩=qu w ⟨7,s,a,b,d⟩:=by unfold doV;rw[hm];rfl
  have hq:=(zfE w hw hs ⟨7,s,a,b,d⟩ ho p1).g0 (G':=G1)
  have hop:=Jz 7 s a b d ho
  rw[hm]at hop
  rw[e]
  unfold opL qG at hop
  unfold opL at hq ⊢
  refine fof (fun i=>if i=3 then [false,false,false,false,false,false,false,false,false,true] else []) Tryz.func57 ?_;dsimp only[Tryz.f57]
  push_cast -dsimp
  refine cl (hop) ?_;push_cast -dsimp
  refine cl (J5 (G:=G1)) ?_;push_cast -dsimp [vV,Zs,reduceIte,Int.reduceEq,Option.map_some,Option.map_none]
  refine cl (hq) ?_;push_cast -dsimp
  exact dn
end
section
open Go.RowKit
section
variable {G:zq}
theorem zf4 (w:qy) (hk:w.kept.length<=100000):Fun Tryz.prog G 64 [js w] (.sc (.int .i64 (jM w.kept))) 0:=by
 obtain ⟨f,ks,pool⟩:=w
 have hk:ks.length<=100000:=hk
 have hll:(zF ks).length=ks.length:=List.length_map ..
 rcases Nat.eq_zero_or_pos ks.length with h0 | h0
 ·have e:ks = []:=List.length_eq_zero_iff.1 h0
  subst e
  refine fon Tryz.func64 ?_;dsimp only[Tryz.f64]
  push_cast -dsimp [List.map_nil,List.length_nil]
  exact dn (by push_cast -dsimp [zb,za,CLe,ze,show jM []=0 from rfl])
 ·obtain ⟨m,hm⟩:∃ m,ks.length=m+1:=⟨ks.length-1,by omega⟩
  have hz:(((zF ks).length:Int)=0)=False:=eq_false (by omega)
  have hn:((zF ks).length:Int)-1=(m:Int):=by omega
  have hat:=jE ks m (by omega)
  have hls:jM ks=(ks[m]'(by omega)).slot:=by
   unfold jM
   rw[List.getLast?_eq_getElem?,show ks.length-1=m by omega,List.getElem?_eq_getElem (by omega)]
  refine fon Tryz.func64 ?_;dsimp only[Tryz.f64]
  push_cast -dsimp [hz,hn,hat,Int.toNat_natCast]
  refine ⟨by omega,by omega,?_⟩
  exact dn (by push_cast -dsimp [zb,za,CLe,ze,hls])
theorem XA (o:OpV):Fun Tryz.prog G 56 [.agg (opL o)] (.sc (.bool (decide (o.kind=3∨o.kind=7)))) 0:=by
 unfold opL
 by_cases h:o.kind=3
 ·have h':=eq_true h
  refine fon Tryz.func56 ?_;dsimp only[Tryz.f56]
  push_cast -dsimp [h']
  exact dn (by push_cast -dsimp [zb,za,CLe,ze,h',true_or,decide_true])
 ·have h':=eq_false h
  refine fon Tryz.func56 ?_;dsimp only[Tryz.f56]
  push_cast -dsimp [h']
  exact dn (by push_cast -dsimp [zb,za,CLe,ze,h',false_or])
end
end
section
open CA CB
open Go.RowKit
abbrev kG (d:qC):List C:=[.sc (.int .i64 d.w.fs.maxI),.sc (.int .i64 d.w.fs.maxB),.sc (.int .i64 d.w.fs.next),.sl 6 (zr d.w.fs.xs),.sl 4 (zF d.w.kept),.sl 6 (zr d.w.pool),.sl 5 (d.ops.map opL),.sl 1 (qv d.diags),.sc (.int .i64 d.status),.sc (.int .i64 d.slot)]
abbrev v8 (d:qC):C:=.agg (kG d)
section
variable {G:zq}
theorem uE (w:qy) (hk:w.kept.length<=100000):Fun Tryz.prog G 30 [js w] (v8 (zfD w)) 0:=by
 have h:=zf4 (G:=G) w hk
 refine fof (fun i=>if i=1 then [false,false,false,false,true] else []) Tryz.func30 ?_;dsimp only[Tryz.f30]
 push_cast -dsimp
 refine cl (h) ?_;push_cast -dsimp
 exact dn (by push_cast -dsimp [zb,za,CLe,ze,zfD])
end
end
section
open CA CB
open Go.RowKit
theorem Hm {α κ:Type} [DecidableEq κ] {key:α->κ} {n:κ} {xs:List α} {i:Nat} (h:i<xs.length) (h0:JQ key n (xs.take i)=false) :
  (key xs[i]=n->Jm key n xs=some xs[i])/\(key xs[i]≠n->JQ key n (xs.take (i+1))=false):=by
 have e:xs=xs.take i++xs[i] :: xs.drop (i+1):=by rw[←List.drop_eq_getElem_cons h,List.take_append_drop]
 refine ⟨fun hk=>?_,fun hk=>?_⟩
 ·have q:Jm key n xs=Jm key n (xs.take i++xs[i] :: xs.drop (i+1)):=congrArg _ e
  rw[q]
  unfold Jm
  unfold JQ at h0
  rw[List.any_eq_false]at h0
  rw[List.find?_append,List.find?_eq_none.2 fun x hx=>h0 x hx,Option.none_or,List.find?_cons,decide_eq_true hk]
 ·unfold JQ at h0 ⊢
  rw[List.take_add_one,List.getElem?_eq_getElem h,List.any_append,h0]
  simp[hk]
theorem ue {α κ:Type} [DecidableEq κ] {key:α->κ} {n:κ} {xs:List α} (h0:JQ key n xs=false):Jm key n xs=none:=by
 rw[jz]at h0
 cases h:Jm key n xs with
 | none=>rfl
 | some x=>rw[h]at h0;cases h0
theorem zbj {α κ:Type} [DecidableEq κ] {key:α->κ} {n:κ} {xs:List α} {i:Nat} (h:i<xs.length) :
  JJ key n (xs.take (i+1))=if key xs[i]=n then JJ key n (xs.take i) else JJ key n (xs.take i)++[xs[i]]:=by
 unfold JJ
 rw[List.take_add_one,List.getElem?_eq_getElem h,List.filter_append]
 by_cases hk:key xs[i]=n<;>simp[hk]
theorem zil (a b:List UInt8):(Op.bytesLess a b||decide (a=b)) = !Op.bytesLess b a:=by
 cases h:Op.bytesLess b a with
 | true =>
  have h1:Op.bytesLess a b=false:=jp.asym h
  have h2:a≠b:=fun e=>by rw[e,Um]at h;cases h
  rw[h1,decide_eq_false h2];rfl
 | false =>
  cases h1:Op.bytesLess a b with
  | true=>rfl
  | false=>rw[decide_eq_true (V9 h1 h)];rfl
section
variable {G:zq}
theorem zdx (es:List z6) (n:List UInt8) (hl:es.length<=100000):Fun Tryz.prog G 76 [.sl 2 (zI es),.str n] (.tup [.sc (.int .i64 (jP n es)),.sc (.bool (VH n es))]) 0:=by
 have hll:(zI es).length=es.length:=List.length_map ..
 refine fon Tryz.func76 ?_;dsimp only[Tryz.f76]
 push_cast -dsimp
 refine loop (fun i:Nat=>⟨[(0,.sl 2 (zI es)),(1,.str n),(6,.sc (.int .i64 i))],[],0,0⟩) (fun i=>i<=es.length/\JQ z6.name n (es.take i)=false) (fun i=>es.length-i) 0 ⟨Nat.zero_le _,rfl⟩ ?_ ?_
 ·exact wk
 ·rintro i ⟨h1,h2⟩
  by_cases h:i<es.length
  ·have g1:=Jt es i h
   obtain ⟨q1,q2⟩:=Hm h h2
   by_cases he:es[i].name=n
   ·have q:=q1 he
    have e1:VH n es=true:=by unfold VH;rw[jz,q];rfl
    have e2:jP n es=es[i].ino:=by unfold jP;rw[q]
    push_cast -dsimp [hll,h,g1,he]
    repeat refine an ?_
    exact dn (by push_cast -dsimp [zb,za,CLe,ze,e1,e2])
   ·push_cast -dsimp [hll,h,g1,he]
    repeat refine an ?_
    exact ⟨i+1,⟨h,q2 he⟩,by omega,wk⟩
  ·rw[List.take_of_length_le (by omega)]at h2
   have e1:VH n es=false:=h2
   have e2:jP n es=0:=by unfold jP;rw[ue h2]
   push_cast -dsimp [hll,h]
   exact dn (by push_cast -dsimp [zb,za,CLe,ze,e1,e2])
theorem XN (es:List z6) (n:List UInt8) (hl:es.length<=90000):Fun Tryz.prog G 129 [.sl 2 (zI es),.str n] (.own 0 108 2 (zI (zh n es))) 1:=by
 have hll:(zI es).length=es.length:=List.length_map ..
 refine fon Tryz.func129 ?_;dsimp only[Tryz.f129]
 push_cast -dsimp
 refine loop (fun i:Nat=>⟨[(0,.sl 2 (zI es)),(1,.str n),(5,.own 0 108 2 (zI (zh n (es.take i)))),(6,.sc (.int .i64 i))],[],1,0⟩) (fun i=>i<=es.length) (fun i=>es.length-i) 0 (Nat.zero_le _) ?_ ?_
 ·exact wks [.inr (108,2)] (by push_cast -dsimp [zb,za,CLe,ze,zh,JJ,List.filter_nil])
 ·intro i h1
  by_cases h:i<es.length
  ·have g1:=Jt es i h
   have ht:zh n (es.take (i+1))=if es[i].name=n then zh n (es.take i) else zh n (es.take i)++[es[i]]:=zbj h
   have hle:(zh n (es.take i)).length<=i:=Nat.le_trans (YJ n _) (by simp;omega)
   by_cases hc:es[i].name=n
   ·rw[if_pos hc]at ht
    push_cast -dsimp [hll,h,g1,hc]
    repeat refine an ?_
    exact ⟨i+1,h,by omega,wks [.inl 0] (by push_cast -dsimp [zb,za,CLe,ze,ht])⟩
   ·rw[if_neg hc]at ht
    push_cast -dsimp [hll,h,g1,hc]
    repeat refine an ?_
    exact ⟨i+1,h,by omega,wks [.inl 0] (by push_cast -dsimp [zb,za,CLe,ze,ht,List.map_append])⟩
  ·rw[List.take_of_length_le (by omega)]
   push_cast -dsimp [hll,h]
   exact ⟨[.inl 0],rfl,rfl,by push_cast -dsimp [zb,za,CLe,ze]⟩
theorem UQ (es:List z6) (n:List UInt8) (j:Int) (hl:es.length<=90000):Fun Tryz.prog G 128 [.sl 2 (zI es),.str n,.sc (.int .i64 j)] (.own 0 108 2 (zI (zY n j es))) 1:=by
 have hdl:(zh n es).length<=90000:=Nat.le_trans (YJ n _) hl
 have hl2:(zI (zh n es)).length=(zh n es).length:=List.length_map ..
 refine fon Tryz.func128 ?_;dsimp only[Tryz.f128]
 push_cast -dsimp
 refine cl (XN es n hl) ?_;push_cast -dsimp
 show zeC _ _ _ _ _ _
 have hw:zY n j es=Xc jp z6.name ⟨n,j⟩ (zh n es):=rfl
 rw[hw]
 generalize zh n es=rest at hdl hl2
 refine loop (fun p:Nat×List z6×Bool=>⟨[(1,.str n),(2,.sc (.int .i64 j)),(7,.sl 2 (zI rest)),(8,.own 0 108 2 (zI p.2.1)),(9,.sc (.bool p.2.2)),(10,.sc (.int .i64 p.1))],[],1,0⟩)
  (fun p=>p.1<=rest.length/\p.2.1.length<=p.1+p.2.2.toNat/\Xc jp z6.name ⟨n,j⟩ rest=p.2.1++(if p.2.2 then rest.drop p.1 else Xc jp z6.name ⟨n,j⟩ (rest.drop p.1))) (fun p=>rest.length-p.1) (0,[],false) ⟨Nat.zero_le _,Nat.zero_le _,by simp⟩ ?_ ?_
 ·exact wks [.inr (108,2)]
 ·rintro ⟨i,out,d⟩ ⟨h1,h2,h3⟩
  dsimp only at h1 h2 h3 ⊢
  have hlo:(zI out).length=out.length:=List.length_map ..
  by_cases h:i<rest.length
  ·have g1:=Jt rest i h
   rw[List.drop_eq_getElem_cons h]at h3
   cases d with
   | true =>
    simp only[Bool.toNat_true]at h2
    push_cast -dsimp [hl2,h,g1]
    repeat refine an ?_
    exact ⟨(i+1,out++[rest[i]],true),⟨h,by simp;omega,by rw[h3];simp⟩,by dsimp only;omega,wks [.inl 0] (by push_cast -dsimp [zb,za,CLe,ze,List.map_append])⟩
   | false =>
    simp only[Bool.false_eq_true,if_false,Xc]at h3
    simp only[Bool.toNat_false]at h2
    have hgl:=zil rest[i].name n
    cases hc:Op.bytesLess n rest[i].name with
    | true =>
     rw[if_pos (show jp.lt n rest[i].name=true from hc)]at h3
     rw[hc]at hgl
     push_cast -dsimp [hl2,h,g1,hgl]
     repeat refine an ?_
     exact ⟨(i+1,out++[(⟨n,j⟩:z6)]++[rest[i]],true),⟨h,by simp;omega,by rw[h3];simp⟩,by dsimp only;omega,wks [.inl 0] (by push_cast -dsimp [zb,za,CLe,ze,List.map_append])⟩
    | false =>
     rw[if_neg (show ¬jp.lt n rest[i].name=true by rw[show jp.lt n rest[i].name=false from hc];decide)]at h3
     rw[hc]at hgl
     push_cast -dsimp [hl2,h,g1,hgl]
     repeat refine an ?_
     exact ⟨(i+1,out++[rest[i]],false),⟨h,by simp;omega,by rw[h3];simp⟩,by dsimp only;omega,wks [.inl 0] (by push_cast -dsimp [zb,za,CLe,ze,List.map_append])⟩
  ·rw[List.drop_of_length_le (by omega)]at h3
   cases d with
   | true =>
    simp only[Bool.toNat_true]at h2
    have h3:Xc jp z6.name ⟨n,j⟩ rest=out:=by rw[h3];simp
    push_cast -dsimp [hl2,h]
    exact ⟨[.inl 0],rfl,rfl,by push_cast -dsimp [zb,za,CLe,ze,h3]⟩
   | false =>
    simp only[Bool.toNat_false]at h2
    have h3:Xc jp z6.name ⟨n,j⟩ rest=out++[⟨n,j⟩]:=by rw[h3];simp[Xc]
    push_cast -dsimp [hl2,h]
    repeat refine an ?_
    exact ⟨[.inl 0],rfl,rfl,by push_cast -dsimp [zb,za,CLe,ze,h3,List.map_append]⟩
theorem UC (f:FsV) (hf:FsS f) (n b:Int) (hn:-1000000000<=n/\n<=1000000000) (hb:-1000000000<=b/\b<=1000000000):Fun Tryz.prog G 72 [.agg (fsC f),.sc (.int .i64 n),.sc (.int .i64 b)] (.sc (.bool (Jq f n b))) 0:=by
 have hll:(zr f.xs).length=f.xs.length:=List.length_map ..
 have h40:=hf.len
 have hbb:=hf.bytes
 have hbf:=Nc (G:=G) f hf
 by_cases h:(f.xs.length:Int)+n<=f.maxI
 ·have e:Jq f n b=decide ((jd f.xs:Int)+b<=f.maxB):=by unfold Jq;rw[decide_eq_true h,Bool.true_and]
  have h':(f.maxI<(f.xs.length:Int)+n)=False:=eq_false (by omega)
  refine fon Tryz.func72 ?_;dsimp only[Tryz.f72]
  push_cast -dsimp [hll,h']
  repeat refine an ?_
  refine cl (hbf) ?_;push_cast -dsimp
  repeat refine an ?_
  exact dn (by push_cast -dsimp [zb,za,CLe,ze,e])
 ·have e:Jq f n b=false:=by unfold Jq;rw[decide_eq_false h,Bool.false_and]
  have h':(f.maxI<(f.xs.length:Int)+n)=True:=eq_true (by omega)
  refine fon Tryz.func72 ?_;dsimp only[Tryz.f72]
  push_cast -dsimp [hll,h']
  repeat refine an ?_
  exact dn (by push_cast -dsimp [zb,za,CLe,ze,e])
end
theorem zk7 (f:FsV) (hf:FsI f) (hs:FsS f) (p:List UInt8) (hp:p.length<=100000):Fun Tryz.prog G0 115 [.agg (fsC f),.str p] (.tup [.agg (YG (atV f p).1),.sc (.int .i64 (atV f p).2)]) 0:=by
 have hpl:=Vb p (by omega)
 have hlen:=hs.len
 have hnl:(zJ p).length<=100000:=by have:=Jc p;omega
 cases hpp:Yj p with
 | false =>
  have e:atV f p=(Qj,9):=by unfold atV;rw[hpp];rfl
  unfold Ys at hpl
  rw[hpp]at hpl
  refine fof (fun i=>if i=14 then [false,false,false,false,false,false,false,false,true] else []) Tryz.func115 ?_;dsimp only[Tryz.f115]
  push_cast -dsimp
  refine cl (hpl) ?_;push_cast -dsimp
  exact dn (by push_cast -dsimp [zb,za,CLe,ze,e,Qj])
 | true =>
  have e:atV f p=atW f.xs (zJ p) ⟨0,[],1⟩:=by unfold atV;rw[hpp];rfl
  unfold Ys at hpl
  rw[hpp,if_pos rfl]at hpl
  generalize zJ p=ns at hpl hnl e
  have hsl:(qv ns).length=ns.length:=List.length_map ..
  refine fof (fun i=>if i=14 then [false,false,false,false,false,false,false,false,true] else []) Tryz.func115 ?_;dsimp only[Tryz.f115]
  push_cast -dsimp
  refine cl (hpl) ?_;push_cast -dsimp
  refine loop (fun x:Nat×qM=>⟨[(1,.str p),(2,.ptr 0 0),(4,.ptr 1 0),(6,.own 0 9 1 (qv ns)),(8,.ptr 2 0),(9,.sc (.int .i64 x.1))],[fsC f,[.sc (.int .i64 0),.str [],.sc (.int .i64 0)],YG x.2],1,0⟩)
   (fun x=>x.1<=ns.length/\atW f.xs ns ⟨0,[],1⟩=atW f.xs (ns.drop x.1) x.2/\(x.2.ino≠0->zG x.2.ino f.xs=true)) (fun x=>ns.length-x.1) (0,⟨0,[],1⟩) ⟨Nat.zero_le _,rfl,fun _=>hf.root⟩ ?_ ?_
  ·exact wks [.inl 0] (by push_cast -dsimp [zb,za,CLe,ze,hsl])
  rintro ⟨k,s⟩ ⟨hk,hat,hin⟩
  simp only at hk hat hin ⊢
  by_cases hlt:k<ns.length
  ·have gs:=NO hlt
   have hdr:ns.drop k=ns[k] :: ns.drop (k+1):=List.drop_eq_getElem_cons hlt
   obtain ⟨nm,hnm⟩:∃ nm,ns[k]=nm:=⟨_,rfl⟩
   rw[hnm]at gs hdr
   by_cases h0:s.ino=0
   ·have hr:atV f p=(Qj,1):=by rw[e,hat,hdr];unfold atW;rw[if_pos h0]
    push_cast -dsimp [hsl,hlt,h0]
    exact dn (by push_cast -dsimp [zb,za,CLe,ze,hr,Qj])
   ·have hh:=hin h0
    have hg:=qz (G:=G0) f s.ino (by omega)
    have hgg:=zm hh
    rw[hh]at hg
    by_cases hk2:(zg s.ino f.xs).kind=2
    ·have hfd:=zdx (G:=G0) (zg s.ino f.xs).es nm (by have:=hs.es hh;omega)
     have hnx:atW f.xs ns ⟨0,[],1⟩=atW f.xs (ns.drop (k+1)) ⟨(zg s.ino f.xs).ino,nm,jP nm (zg s.ino f.xs).es⟩:=by
      rw[hat,hdr]
      conv=>lhs;unfold atW
      rw[if_neg h0,if_neg (by simp[hk2])]
     have hin2:jP nm (zg s.ino f.xs).es≠0->zG (jP nm (zg s.ino f.xs).es) f.xs=true:=fun hne=>by
      refine xx hf hh ?_
      unfold VH
      rw[jz]
      cases hq:Jm z6.name nm (zg s.ino f.xs).es with
      | some e=>rfl
      | none=>unfold jP at hne;rw[hq]at hne;exact absurd rfl hne
     push_cast -dsimp [hsl,hlt,h0]
     refine cl (hg) ?_;push_cast -dsimp [hk2,gs]
     repeat refine an ?_
     refine cl (hfd) ?_;push_cast -dsimp [gs]
     repeat refine an ?_
     exact ⟨(k+1,⟨(zg s.ino f.xs).ino,nm,jP nm (zg s.ino f.xs).es⟩),⟨hlt,hnx,hin2⟩,by simp only;omega,wks [.inl 0]⟩
    ·have hr:atV f p=(Qj,3):=by rw[e,hat,hdr];unfold atW;rw[if_neg h0,if_pos hk2]
     push_cast -dsimp [hsl,hlt,h0]
     refine cl (hg) ?_;push_cast -dsimp [hk2]
     exact dn (by push_cast -dsimp [zb,za,CLe,ze,hr,Qj])
  ·have hd0:ns.drop k = []:=List.drop_of_length_le (by omega)
   have hr:atV f p=(s,0):=by rw[e,hat,hd0];rfl
   push_cast -dsimp [hsl,hlt]
   exact dn (by push_cast -dsimp [zb,za,CLe,ze,hr])
end
section
open CA CB
open Go.RowKit
theorem zgM {f:C} {x:zA} (hx:x.es = []) (R:Env) (vs:List Value) (h:zw R zH [f,.agg [.sc (.int .i64 x.ino),.sc (.int .i64 x.kind),.sc (.int .i64 x.links),.str x.data,.sc (.int .i64 x.parent),.sc (.slice none 0 0)]] vs):zw R zH [f,.agg (Yi x)] vs:=by
 obtain ⟨v1,us1,rfl,h1,h⟩:=zd.1 h
 obtain ⟨v2,us2,rfl,h2,h⟩:=zd.1 h
 refine zd.2 ⟨_,_,rfl,h1,zd.2 ⟨_,_,rfl,?_,h⟩⟩
 obtain ⟨ws,rfl,hw⟩:=jN.1 h2
 obtain ⟨w1,t1,e1,g1,hw⟩:=zd.1 hw
 obtain ⟨w2,t2,e2,g2,hw⟩:=zd.1 hw
 obtain ⟨w3,t3,e3,g3,hw⟩:=zd.1 hw
 obtain ⟨w4,t4,e4,g4,hw⟩:=zd.1 hw
 obtain ⟨w5,t5,e5,g5,hw⟩:=zd.1 hw
 obtain ⟨w6,t6,e6,g6,hw⟩:=zd.1 hw
 refine jN.2 ⟨ws,rfl,?_⟩
 have g6':Rep R zH (.sl 2 (zI x.es)) w6:=by rw[hx];exact uG g6
 rw[e1,e2,e3,e4,e5,e6]
 exact zd.2 ⟨_,_,rfl,g1,zd.2 ⟨_,_,rfl,g2,zd.2 ⟨_,_,rfl,g3,zd.2 ⟨_,_,rfl,g4,zd.2 ⟨_,_,rfl,g5,zd.2 ⟨_,_,rfl,g6',hw⟩⟩⟩⟩⟩⟩
theorem Gr {G:zq} (f:FsV) (x:zA) (hx:x.es = []) (hl:f.xs.length<=90000) :
  Fun Tryz.prog G 63 [.agg (fsC f),.agg [.sc (.int .i64 x.ino),.sc (.int .i64 x.kind),.sc (.int .i64 x.links),.str x.data,.sc (.int .i64 x.parent),.sc (.slice none 0 0)]] (.agg [.sc (.int .i64 f.maxI),.sc (.int .i64 f.maxB),.sc (.int .i64 f.next),.own 0 75 6 (zr (qF x f.xs))]) 1:=
 (jY f x hl).argsLe (zgM hx)
theorem xZ (f:FsV) (hf:FsI f) (hs:FsS f) (hn:zld f) (s:qM) (hsp:XB f s) (hnl:s.name.length<=100000) (k:Int) (t:List UInt8) (ht:t.length<=100000) :
  Fun Tryz.prog G0 125 [.agg (fsC f),.agg (YG s),.sc (.int .i64 k),.str t] (.tup [.agg (fsC (Zq f s k t).1),.sc (.int .i64 (Zq f s k t).2)]) 0:=by
 have hm:=ZJ s.name (by omega)
 have hlen:=hs.len
 cases hmay:may s.name with
 | false =>
  have e:Zq f s k t=(f,9):=by unfold Zq;rw[hmay];rfl
  rw[hmay]at hm
  refine fof (fun j=>if j=13 then [false,false,false,false,false,true] else []) Tryz.func125 ?_;dsimp only[Tryz.f125]
  push_cast -dsimp
  refine cl (hm) ?_;push_cast -dsimp
  exact dn (by push_cast -dsimp [zb,za,CLe,ze,e])
 | true =>
  rw[hmay]at hm
  have key:∀ b:Int,(if k=1 then (t.length:Int) else 0)=b->Jq f 1 b=false->Zq f s k t=(f,8):=fun b hb hr=>by unfold Zq;rw[hmay,if_pos rfl,hb,hr];rfl
  have key2:∀ b:Int,(if k=1 then (t.length:Int) else 0)=b->Jq f 1 b=true->Zq f s k t=(zaB f s k t,0):=fun b hb hr=>by unfold Zq;rw[hmay,if_pos rfl,hb,hr];rfl
  have hg:=qz (G:=G0) f s.dir (by omega)
  rw[hsp.has]at hg
  have hes:=hs.es hsp.has
  have hw:=UQ (G:=G0) (zg s.dir f.xs).es s.name f.next (by omega)
  have hd1:=jY (G:=G0) f (qq (zg s.dir f.xs) (zY s.name f.next (zg s.dir f.xs).es)) (by omega)
  have hdl:(qI s.dir (zY s.name f.next) f.xs).length=f.xs.length:=jQ hf.rises hsp.has
  have hd2:=fun pr:Int=>Gr (G:=G0) ⟨f.maxI,f.maxB,f.next,qI s.dir (zY s.name f.next) f.xs⟩ ⟨f.next,k,1,t,pr,[]⟩ rfl (by simp only;omega)
  have hn1:=hn.1
  have hn2:=hn.2
  have hx0:k=2->zaB f s k t=⟨f.maxI,f.maxB,f.next+1,qF ⟨f.next,k,1,t,s.dir,[]⟩ (qI s.dir (zY s.name f.next) f.xs)⟩:=fun h=>by unfold zaB;rw[if_pos h]
  have hx1:k≠2->zaB f s k t=⟨f.maxI,f.maxB,f.next+1,qF ⟨f.next,k,1,t,0,[]⟩ (qI s.dir (zY s.name f.next) f.xs)⟩:=fun h=>by unfold zaB;rw[if_neg h]
  unfold qI at hd2 hx0 hx1
  by_cases hk:k=1
  ·have hk':=eq_true hk
   have hk2:(k=2)=False:=eq_false (by omega)
   have hr:=UC (G:=G0) f hs 1 t.length (by omega) (by omega)
   cases hrm:Jq f 1 t.length with
   | false =>
    have e:=key _ (if_pos hk) hrm
    rw[hrm]at hr
    refine fof (fun j=>if j=13 then [false,false,false,false,false,true] else []) Tryz.func125 ?_;dsimp only[Tryz.f125]
    push_cast -dsimp
    refine cl (hm) ?_;push_cast -dsimp [hk']
    refine cl (hr) ?_;push_cast -dsimp
    exact dn (by push_cast -dsimp [zb,za,CLe,ze,e])
   | true =>
    have e:=key2 _ (if_pos hk) hrm
    have ex:=hx1 (by omega)
    rw[hrm]at hr
    refine fof (fun j=>if j=13 then [false,false,false,false,false,true] else []) Tryz.func125 ?_;dsimp only[Tryz.f125]
    push_cast -dsimp
    refine cl (hm) ?_;push_cast -dsimp [hk']
    refine cl (hr) ?_;push_cast -dsimp
    refine cl (hg) ?_;push_cast -dsimp
    refine cl (hw) ?_;push_cast -dsimp [hk2]
    refine cl (hd1) ?_;push_cast -dsimp
    refine cl (hd2 0) ?_;push_cast -dsimp
    repeat refine an ?_
    exact dn (by push_cast -dsimp [zb,za,CLe,ze,e,ex])
  ·have hk':=eq_false hk
   have hr:=UC (G:=G0) f hs 1 0 (by omega) (by omega)
   cases hrm:Jq f 1 0 with
   | false =>
    have e:=key _ (if_neg hk) hrm
    rw[hrm]at hr
    refine fof (fun j=>if j=13 then [false,false,false,false,false,true] else []) Tryz.func125 ?_;dsimp only[Tryz.f125]
    push_cast -dsimp
    refine cl (hm) ?_;push_cast -dsimp [hk']
    refine cl (hr) ?_;push_cast -dsimp
    exact dn (by push_cast -dsimp [zb,za,CLe,ze,e])
   | true =>
    have e:=key2 _ (if_neg hk) hrm
    rw[hrm]at hr
    by_cases hk2:k=2
    ·have ex:=hx0 hk2
     have hk2':=eq_true hk2
     refine fof (fun j=>if j=13 then [false,false,false,false,false,true] else []) Tryz.func125 ?_;dsimp only[Tryz.f125]
     push_cast -dsimp
     refine cl (hm) ?_;push_cast -dsimp [hk']
     refine cl (hr) ?_;push_cast -dsimp
     refine cl (hg) ?_;push_cast -dsimp
     refine cl (hw) ?_;push_cast -dsimp [hk2']
     refine cl (hd1) ?_;push_cast -dsimp
     refine cl (hd2 s.dir) ?_;push_cast -dsimp
     repeat refine an ?_
     exact dn (by push_cast -dsimp [zb,za,CLe,ze,e,ex])
    ·have ex:=hx1 hk2
     have hk2':=eq_false hk2
     refine fof (fun j=>if j=13 then [false,false,false,false,false,true] else []) Tryz.func125 ?_;dsimp only[Tryz.f125]
     push_cast -dsimp
     refine cl (hm) ?_;push_cast -dsimp [hk']
     refine cl (hr) ?_;push_cast -dsimp
     refine cl (hg) ?_;push_cast -dsimp
     refine cl (hw) ?_;push_cast -dsimp [hk2']
     refine cl (hd1) ?_;push_cast -dsimp
     refine cl (hd2 0) ?_;push_cast -dsimp
     repeat refine an ?_
     exact dn (by push_cast -dsimp [zb,za,CLe,ze,e,ex])
theorem ze3 (f:FsV) (hf:FsI f) (hs:FsS f) (s:qM) (hsp:XB f s) (i:Int) (hi:zG i f.xs=true) (hne:s.dir≠i):Fun Tryz.prog G0 90 [.agg (fsC f),.agg (YG s),.sc (.int .i64 i)] (.agg (fsC (V3 f s i))) 0:=by
 have hlen:=hs.len
 have hdl:(qI s.dir (zY s.name i) f.xs).length=f.xs.length:=jQ hf.rises hsp.has
 have hg:=qz (G:=G0) f s.dir (by omega)
 have hg2:=qz (G:=G0) f i (by omega)
 rw[hsp.has]at hg
 rw[hi]at hg2
 have hes:=hs.es hsp.has
 have hw:=UQ (G:=G0) (zg s.dir f.xs).es s.name i (by omega)
 have hd1:=jY (G:=G0) f (qq (zg s.dir f.xs) (zY s.name i (zg s.dir f.xs).es)) (by omega)
 have hd2:=jY (G:=G0) ⟨f.maxI,f.maxB,f.next,qI s.dir (zY s.name i) f.xs⟩ { zg i f.xs with links:=(zg i f.xs).links+1 } (by simp only;omega)
 have hll:=VL hf hs hi
 have e:V3 f s i=⟨f.maxI,f.maxB,f.next,qF { zg i f.xs with links:=(zg i f.xs).links+1 } (qI s.dir (zY s.name i) f.xs)⟩:=rfl
 unfold qI at hd2 e
 refine fof (fun j=>if j=5 then [false,false,false,false,false,true] else []) Tryz.func90 ?_;dsimp only[Tryz.f90]
 push_cast -dsimp
 refine cl (hg) ?_;push_cast -dsimp
 refine cl (hg2) ?_;push_cast -dsimp
 refine cl (hw) ?_;push_cast -dsimp
 repeat refine an ?_
 refine cl (hd1) ?_;push_cast -dsimp
 refine cl (hd2) ?_;push_cast -dsimp
 exact dn (by push_cast -dsimp [zb,za,CLe,ze,e])
theorem xa (f:FsV) (hf:FsI f) (hs:FsS f) (s:qM) (hsp:qh f s):Fun Tryz.prog G0 93 [.agg (fsC f),.agg (YG s)] (.agg (fsC (zS f s))) 0:=by
 have hlen:=hs.len
 have hi:=hsp.ino hf
 have hdl:(qI s.dir (zh s.name) f.xs).length=f.xs.length:=jQ hf.rises hsp.has
 have hg:=qz (G:=G0) f s.dir (by omega)
 have hg2:=qz (G:=G0) f s.ino (by omega)
 rw[hsp.has]at hg
 rw[hi]at hg2
 have hes:=hs.es hsp.has
 have hw:=XN (G:=G0) (zg s.dir f.xs).es s.name (by omega)
 have hd1:=jY (G:=G0) f (qq (zg s.dir f.xs) (zh s.name (zg s.dir f.xs).es)) (by omega)
 have hd2:=jY (G:=G0) ⟨f.maxI,f.maxB,f.next,qI s.dir (zh s.name) f.xs⟩ { zg s.ino f.xs with links:=(zg s.ino f.xs).links-1 } (by simp only;omega)
 have hd3:=N7 (G:=G0) ⟨f.maxI,f.maxB,f.next,qI s.dir (zh s.name) f.xs⟩ s.ino (by simp only;omega)
 have hll:=VL hf hs hi
 by_cases hz:(zg s.ino f.xs).links-1=0
 ·have e:zS f s=⟨f.maxI,f.maxB,f.next,qk s.ino (qI s.dir (zh s.name) f.xs)⟩:=by unfold zS;rw[if_pos hz]
  unfold qI at hd3 e
  have hz':=eq_true hz
  refine fon Tryz.func93 ?_;dsimp only[Tryz.f93]
  push_cast -dsimp
  refine cl (hg) ?_;push_cast -dsimp
  refine cl (hg2) ?_;push_cast -dsimp
  refine cl (hw) ?_;push_cast -dsimp
  repeat refine an ?_
  refine cl (hd1) ?_;push_cast -dsimp [hz']
  refine cl (hd3) ?_;push_cast -dsimp
  exact dn (by push_cast -dsimp [zb,za,CLe,ze,e])
 ·have e:zS f s=⟨f.maxI,f.maxB,f.next,qF { zg s.ino f.xs with links:=(zg s.ino f.xs).links-1 } (qI s.dir (zh s.name) f.xs)⟩:=by unfold zS;rw[if_neg hz]
  unfold qI at hd2 e
  have hz':=eq_false hz
  refine fon Tryz.func93 ?_;dsimp only[Tryz.f93]
  push_cast -dsimp
  refine cl (hg) ?_;push_cast -dsimp
  refine cl (hg2) ?_;push_cast -dsimp
  refine cl (hw) ?_;push_cast -dsimp
  repeat refine an ?_
  refine cl (hd1) ?_;push_cast -dsimp [hz']
  refine cl (hd2) ?_;push_cast -dsimp
  exact dn (by push_cast -dsimp [zb,za,CLe,ze,e])
theorem zcc (f:FsV) (hf:FsI f) (hs:FsS f) (i:Int) (hi:zG i f.xs=true) (t:List UInt8) (ht:t.length<=10000):Fun Tryz.prog G0 127 [.agg (fsC f),.sc (.int .i64 i),.str t] (.tup [.agg (fsC (J7 f i t).1),.sc (.int .i64 (J7 f i t).2)]) 0:=by
 have hlen:=hs.len
 have hg:=qz (G:=G0) f i (by omega)
 rw[hi]at hg
 have hdl:=(hs.node _ (zm hi).2.1).2.1
 have hr:=UC (G:=G0) f hs 0 ((t.length:Int)-(zg i f.xs).data.length) (by omega) (by omega)
 have hst:=jY (G:=G0) f { zg i f.xs with data:=t } (by omega)
 cases hrm:Jq f 0 ((t.length:Int)-(zg i f.xs).data.length) with
 | false =>
  have e:J7 f i t=(f,8):=by unfold J7;rw[hrm];rfl
  rw[hrm]at hr
  refine fon Tryz.func127 ?_;dsimp only[Tryz.f127]
  push_cast -dsimp
  refine cl (hg) ?_;push_cast -dsimp
  repeat refine an ?_
  refine cl (hr) ?_;push_cast -dsimp
  exact dn (by push_cast -dsimp [zb,za,CLe,ze,e])
 | true =>
  have e:J7 f i t=(yk f i t,0):=by unfold J7;rw[hrm];rfl
  have e2:yk f i t=⟨f.maxI,f.maxB,f.next,qF { zg i f.xs with data:=t } f.xs⟩:=rfl
  rw[hrm]at hr
  refine fon Tryz.func127 ?_;dsimp only[Tryz.f127]
  push_cast -dsimp
  refine cl (hg) ?_;push_cast -dsimp
  repeat refine an ?_
  refine cl (hr) ?_;push_cast -dsimp
  refine cl (hst) ?_;push_cast -dsimp
  exact dn (by push_cast -dsimp [zb,za,CLe,ze,e,e2])
end
section
open CA CB
open Go.RowKit
theorem zds (f:FsV) (hf:FsI f) (hs:FsS f) (a b:qM) (ha:qh f a) (hb:XB f b) (hb0:b.ino=0):Fun Tryz.prog G0 91 [.agg (fsC f),.agg (YG a),.agg (YG b)] (.agg (fsC (Q7 f a b))) 0:=by
 have hai:=qh.ino hf ha
 have hlen:=hs.len
 have hga:=qz (G:=G0) f a.dir (by omega)
 rw[ha.has]at hga
 have hwa:=XN (G:=G0) (zg a.dir f.xs).es a.name (by have:=hs.es ha.has;omega)
 have hda:=jY (G:=G0) f (qq (zg a.dir f.xs) (zh a.name (zg a.dir f.xs).es)) (by omega)
 obtain ⟨g1,hg1⟩:∃ g1,qI a.dir (zh a.name) f.xs=g1:=⟨_,rfl⟩
 obtain ⟨g2,hg2⟩:∃ g2,qI b.dir (zY b.name a.ino) g1=g2:=⟨_,rfl⟩
 have hR1:qc g1:=by rw[←hg1];exact qd hf.rises
 have hl1:g1.length=f.xs.length:=by rw[←hg1];exact jQ hf.rises ha.has
 have hb1:zG b.dir g1=true:=by rw[←hg1,qg ha.has];exact hb.has
 have hl2:g2.length=f.xs.length:=by rw[←hg2,jQ hR1 hb1,hl1]
 have hi2:zG a.ino g2=true:=by rw[←hg2,qg hb1,←hg1,qg ha.has];exact hai
 have hgb:=qz (G:=G0) ⟨f.maxI,f.maxB,f.next,g1⟩ b.dir (by simp only;omega)
 simp only at hgb
 rw[hb1]at hgb
 have hres:(zg b.dir g1).es.length<=10000:=by
  rw[←hg1,J1 ha.has]
  split
  ·show (JJ z6.name _ _).length<=10000
   have:=YJ (key:=z6.name) a.name (zg a.dir f.xs).es
   have:=hs.es ha.has
   omega
  ·exact hs.es hb.has
 have hwb:=UQ (G:=G0) (zg b.dir g1).es b.name a.ino (by omega)
 have hdb:=jY (G:=G0) ⟨f.maxI,f.maxB,f.next,g1⟩ (qq (zg b.dir g1) (zY b.name a.ino (zg b.dir g1).es)) (by simp only;omega)
 have hgx:=qz (G:=G0) ⟨f.maxI,f.maxB,f.next,g2⟩ a.ino (by simp only;omega)
 simp only at hgx
 rw[hi2]at hgx
 have e0:Q7 f a b=if (zg a.ino g2).kind=2 then ⟨f.maxI,f.maxB,f.next,qF { zg a.ino g2 with parent:=b.dir } g2⟩ else ⟨f.maxI,f.maxB,f.next,g2⟩:=by unfold Q7;rw[hg1,hg2]
 have hda':Fun Tryz.prog G0 63 [.agg (fsC f),.agg (Yi (qq (zg a.dir f.xs) (zh a.name (zg a.dir f.xs).es)))] (.agg [.sc (.int .i64 f.maxI),.sc (.int .i64 f.maxB),.sc (.int .i64 f.next),.own 0 75 6 (zr g1)]) 1:=by rw[←hg1];exact hda
 have hdb':Fun Tryz.prog G0 63 [.agg (fsC ⟨f.maxI,f.maxB,f.next,g1⟩),.agg (Yi (qq (zg b.dir g1) (zY b.name a.ino (zg b.dir g1).es)))] (.agg [.sc (.int .i64 f.maxI),.sc (.int .i64 f.maxB),.sc (.int .i64 f.next),.own 0 75 6 (zr g2)]) 1:=by rw[←hg2];exact hdb
 have hb0':=eq_true hb0
 by_cases hk:(zg a.ino g2).kind=2
 ·rw[if_pos hk]at e0
  have hk':=eq_true hk
  have hd:=jY (G:=G0) ⟨f.maxI,f.maxB,f.next,g2⟩ { zg a.ino g2 with parent:=b.dir } (by simp only;omega)
  refine fon Tryz.func91 ?_;dsimp only[Tryz.f91]
  push_cast -dsimp [hb0']
  refine cl (hga) ?_;push_cast -dsimp
  refine cl (hwa) ?_;push_cast -dsimp
  refine cl (hda') ?_;push_cast -dsimp
  refine cl (hgb) ?_;push_cast -dsimp
  refine cl (hwb) ?_;push_cast -dsimp
  refine cl (hdb') ?_;push_cast -dsimp
  refine cl (hgx) ?_;push_cast -dsimp [hk']
  refine cl (hd) ?_;push_cast -dsimp
  exact dn (by push_cast -dsimp [zb,za,CLe,ze,e0])
 ·rw[if_neg hk]at e0
  have hk':=eq_false hk
  refine fon Tryz.func91 ?_;dsimp only[Tryz.f91]
  push_cast -dsimp [hb0']
  refine cl (hga) ?_;push_cast -dsimp
  refine cl (hwa) ?_;push_cast -dsimp
  refine cl (hda') ?_;push_cast -dsimp
  refine cl (hgb) ?_;push_cast -dsimp
  refine cl (hwb) ?_;push_cast -dsimp
  refine cl (hdb') ?_;push_cast -dsimp
  refine cl (hgx) ?_;push_cast -dsimp [hk']
  exact dn (by push_cast -dsimp [zb,za,CLe,ze,e0])
theorem Uh {ks:List zN} {i:Nat} (h:i<ks.length):jM (ks.take (i+1))=ks[i].slot:=by
 have q:(ks.take (i+1)).getLast?=some ks[i]:=by
  rw[List.getLast?_eq_getElem?,show (ks.take (i+1)).length-1=i by rw[List.length_take];omega,List.getElem?_take_of_lt (by omega),List.getElem?_eq_getElem h]
 unfold jM
 rw[q]
section
variable {G:zq}
theorem kV (w:qy) (n:Int) (hl:w.kept.length<=100000):Fun Tryz.prog G 95 [js w,.sc (.int .i64 n)] (.tup [.agg (jX (Ub n w.kept)),.sc (.bool (U3 n w.kept))]) 0:=by
 obtain ⟨f,ks,pool⟩:=w
 have hl:ks.length<=100000:=hl
 have hll:(zF ks).length=ks.length:=List.length_map ..
 show Fun Tryz.prog G 95 [js ⟨f,ks,pool⟩,.sc (.int .i64 n)] (.tup [.agg (jX (Ub n ks)),.sc (.bool (U3 n ks))]) 0
 refine fon Tryz.func95 ?_;dsimp only[Tryz.f95]
 push_cast -dsimp
 refine loop (fun i:Nat=>⟨[(1,.sc (.int .i64 n)),(2,.ptr 0 0),(4,.ptr 1 0),(6,.sc (.int .i64 i))],[Ga ⟨f,ks,pool⟩,[.sc (.int .i64 0),.sc (.int .i64 0),.sc (.bool false),.str []]],0,0⟩) (fun i=>i<=ks.length/\JQ zN.slot n (ks.take i)=false) (fun i=>ks.length-i) 0 ⟨Nat.zero_le _,rfl⟩ ?_ ?_
 ·exact wk
 ·rintro i ⟨h1,h2⟩
  by_cases h:i<ks.length
  ·have g1:=jE ks i h
   obtain ⟨q1,q2⟩:=Hm h h2
   by_cases he:ks[i].slot=n
   ·have q:=q1 he
    have e1:U3 n ks=true:=by unfold U3;rw[jz,q];rfl
    have e2:Ub n ks=ks[i]:=by unfold Ub;rw[q];rfl
    push_cast -dsimp [hll,h,g1,he]
    repeat refine an ?_
    exact dn (by push_cast -dsimp [zb,za,CLe,ze,e1,e2,he])
   ·push_cast -dsimp [hll,h,g1,he]
    repeat refine an ?_
    exact ⟨i+1,⟨h,q2 he⟩,by omega,wk⟩
  ·rw[List.take_of_length_le (by omega)]at h2
   have e1:U3 n ks=false:=h2
   have e2:Ub n ks=zfq:=by unfold Ub;rw[ue h2];rfl
   push_cast -dsimp [hll,h]
   exact dn (by push_cast -dsimp [zb,za,CLe,ze,e1,e2,zfq])
theorem Zx (w:qy) (k:zN) (hl:w.kept.length<=90000):Fun Tryz.prog G 130 [js w,.agg (jX k)] (js { w with kept:=qr k w.kept }) 0:=by
 obtain ⟨f,ks,pool⟩:=w
 have hl:ks.length<=90000:=hl
 have hll:(zF ks).length=ks.length:=List.length_map ..
 show Fun Tryz.prog G 130 [js ⟨f,ks,pool⟩,.agg (jX k)] (js ⟨f,Xc jC zN.slot k ks,pool⟩) 0
 refine fon Tryz.func130 ?_;dsimp only[Tryz.f130]
 push_cast -dsimp
 refine loop (fun p:Nat×List zN×Bool=>⟨[(2,.ptr 0 0),(3,.ptr 1 0),(4,.ptr 2 0),(5,.own 0 92 4 (zF p.2.1)),(6,.sc (.bool p.2.2)),(7,.sc (.int .i64 p.1))],[Ga ⟨f,ks,pool⟩,jX k,[.sc (.int .i64 0),.sc (.int .i64 0),.sc (.int .i64 0),.sc (.slice none 0 0),.sc (.slice none 0 0),.sc (.slice none 0 0)]],1,0⟩)
  (fun p=>p.1<=ks.length/\p.2.1.length<=p.1+p.2.2.toNat/\Xc jC zN.slot k ks=p.2.1++(if p.2.2 then ks.drop p.1 else Xc jC zN.slot k (ks.drop p.1))) (fun p=>ks.length-p.1) (0,[],false) ⟨Nat.zero_le _,Nat.zero_le _,by simp⟩ ?_ ?_
 ·exact wks [.inr (92,4)]
 ·rintro ⟨i,out,d⟩ ⟨h1,h2,h3⟩
  dsimp only at h1 h2 h3 ⊢
  have hlo:(zF out).length=out.length:=List.length_map ..
  by_cases h:i<ks.length
  ·have g1:=jE ks i h
   rw[List.drop_eq_getElem_cons h]at h3
   cases d with
   | true =>
    simp only[Bool.toNat_true]at h2
    push_cast -dsimp [hll,h,g1]
    repeat refine an ?_
    exact ⟨(i+1,out++[ks[i]],true),⟨h,by simp;omega,by rw[h3];simp⟩,by dsimp only;omega,wks [.inl 0] (by push_cast -dsimp [zb,za,CLe,ze,List.map_append])⟩
   | false =>
    simp only[Bool.false_eq_true,if_false,Xc]at h3
    simp only[Bool.toNat_false]at h2
    by_cases hc:k.slot<ks[i].slot
    ·rw[if_pos (show jC.lt k.slot ks[i].slot=true from decide_eq_true hc)]at h3
     push_cast -dsimp [hll,h,g1,hc]
     repeat refine an ?_
     exact ⟨(i+1,out++[k]++[ks[i]],true),⟨h,by simp;omega,by rw[h3];simp⟩,by dsimp only;omega,wks [.inl 0] (by push_cast -dsimp [zb,za,CLe,ze,List.map_append])⟩
    ·rw[if_neg (show ¬jC.lt k.slot ks[i].slot=true by rw[show jC.lt k.slot ks[i].slot=false from decide_eq_false hc];decide)]at h3
     push_cast -dsimp [hll,h,g1,hc]
     repeat refine an ?_
     exact ⟨(i+1,out++[ks[i]],false),⟨h,by simp;omega,by rw[h3];simp⟩,by dsimp only;omega,wks [.inl 0] (by push_cast -dsimp [zb,za,CLe,ze,List.map_append])⟩
  ·rw[List.drop_of_length_le (by omega)]at h3
   cases d with
   | true =>
    simp only[Bool.toNat_true]at h2
    have h3:Xc jC zN.slot k ks=out:=by rw[h3];simp
    push_cast -dsimp [hll,h]
    exact dn (by push_cast -dsimp [zb,za,CLe,ze,h3])
   | false =>
    simp only[Bool.toNat_false]at h2
    have h3:Xc jC zN.slot k ks=out++[k]:=by rw[h3];simp[Xc]
    push_cast -dsimp [hll,h]
    repeat refine an ?_
    exact dn (by push_cast -dsimp [zb,za,CLe,ze,h3,List.map_append])
theorem Zl (w:qy):Fun Tryz.prog G 50 [js w] (.agg [.sc (.int .i64 0),.sc (.int .i64 0),.sc (.int .i64 0),.sl 6 (zr w.pool)]) 0:=by
 refine fon Tryz.func50 ?_;dsimp only[Tryz.f50]
 push_cast -dsimp
 exact dn
theorem My (w:qy) (hk:w.kept.length<=100000) (hR:qA jC zN.slot w.kept) (hp:∀ k∈w.kept,1<=k.slot):Fun Tryz.prog G 22 [js w] (.sc (.int .i64 (jM w.kept))) 0:=by
 obtain ⟨f,ks,pool⟩:=w
 have hk:ks.length<=100000:=hk
 have hll:(zF ks).length=ks.length:=List.length_map ..
 show Fun Tryz.prog G 22 [js ⟨f,ks,pool⟩] (.sc (.int .i64 (jM ks))) 0
 have h0:jM []=0:=rfl
 refine fon Tryz.func22 ?_;dsimp only[Tryz.f22]
 push_cast -dsimp
 refine loop (fun i:Nat=>⟨[(1,.ptr 0 0),(3,.sc (.int .i64 (jM (ks.take i)))),(4,.sc (.int .i64 i))],[Ga ⟨f,ks,pool⟩],0,0⟩) (fun i=>i<=ks.length) (fun i=>ks.length-i) 0 (Nat.zero_le _) ?_ ?_
 ·exact wk (by push_cast -dsimp [zb,za,CLe,ze,List.take_zero,h0])
 ·intro i hi
  by_cases h:i<ks.length
  ·have g1:=jE ks i h
   have e1:jM (ks.take (i+1))=ks[i].slot:=Uh h
   have e2:(if ks[i].slot>jM (ks.take i) then ks[i].slot else jM (ks.take i))=ks[i].slot:=by
    suffices hle:jM (ks.take i)<=ks[i].slot by split<;>omega
    rcases Nat.eq_zero_or_pos i with rfl | hpos
    ·have:=hp _ (List.getElem_mem h)
     show (0:Int)<=_
     omega
    ·obtain ⟨j,rfl⟩:∃ j,i=j+1:=⟨i-1,by omega⟩
     have hj:j<ks.length:=by omega
     rw[Uh hj]
     have:=(List.pairwise_iff_getElem.1 hR) j (j+1) hj h (by omega)
     have:ks[j].slot<ks[j+1].slot:=of_decide_eq_true this
     omega
   push_cast -dsimp [hll,h,g1]
   repeat refine an ?_
   exact ⟨i+1,h,by omega,wk (by push_cast -dsimp [zb,za,CLe,ze,e1,e2])⟩
  ·rw[List.take_of_length_le (by omega)]
   push_cast -dsimp [hll,h]
   exact dn
end
end
section
open CA CB
open Go.RowKit
theorem Hy (w:qy) (hs:FsS w.fs) (hk:w.kept.length<=90000) (n i:Int):Fun Tryz.prog G0 126 [js w,.sc (.int .i64 n),.sc (.int .i64 i)] (.tup [js (zW w n i).1,.sc (.int .i64 (zW w n i).2)]) 0:=by
 have hlen:=hs.len
 have h1:=kV (G:=G0) w n (by omega)
 cases hh:U3 n w.kept with
 | true =>
  have e:zW w n i=(w,13):=by unfold zW;rw[hh];rfl
  rw[hh]at h1
  refine fon Tryz.func126 ?_;dsimp only[Tryz.f126]
  push_cast -dsimp
  refine cl (h1) ?_;push_cast -dsimp
  exact dn (by push_cast -dsimp [zb,za,CLe,ze,e])
 | false =>
  have e:zW w n i=({ w with kept:=qr ⟨n,i,true,(zg i w.fs.xs).data⟩ w.kept },0):=by unfold zW;rw[hh];rfl
  rw[hh]at h1
  have hg:=qz (G:=G0) w.fs i (by omega)
  have hw:=Zx (G:=G0) w ⟨n,i,true,(zg i w.fs.xs).data⟩ hk
  refine fon Tryz.func126 ?_;dsimp only[Tryz.f126]
  push_cast -dsimp
  refine cl (h1) ?_;push_cast -dsimp
  refine cl (hg) ?_;push_cast -dsimp
  refine cl (hw) ?_;push_cast -dsimp
  exact dn (by push_cast -dsimp [zb,za,CLe,ze,e])
theorem zca (w:qy) (hw:Xl w) (hs:FsS w.fs) (hk:w.kept.length<=90000) (hp:w.pool.length<=90000) (n:Int) (s:qM) (hsp:qh w.fs s):Fun Tryz.prog G0 92 [js w,.sc (.int .i64 n),.agg (YG s)] (.tup [js (JO w n s).1,.sc (.int .i64 (JO w n s).2)]) 0:=by
 have hf:=hw.fs
 have hlen:=hs.len
 have hino:=hsp.ino hf
 have h1:=kV (G:=G0) w n (by omega)
 cases hh:U3 n w.kept with
 | true =>
  have e:JO w n s=(w,13):=by unfold JO;rw[hh];rfl
  rw[hh]at h1
  refine fof (fun j=>if j=9 then [false,false,false,false,false,false,false,true] else []) Tryz.func92 ?_;dsimp only[Tryz.f92]
  push_cast -dsimp
  refine cl (h1) ?_;push_cast -dsimp
  exact dn (by push_cast -dsimp [zb,za,CLe,ze,e])
 | false =>
  rw[hh]at h1
  have hg:=qz (G:=G0) w.fs s.ino (by omega)
  rw[hino]at hg
  have hu:=xa w.fs hf hs s hsp
  by_cases hz:(zg s.ino w.fs.xs).links=1
  ·have e:JO w n s=(⟨zS w.fs s,qr ⟨n,s.ino,false,[]⟩ w.kept,qF { zg s.ino w.fs.xs with links:=0,parent:=0 } w.pool⟩,0):=by unfold JO;rw[hh,if_pos hz];rfl
   have hz':=eq_true hz
   have hpo:=Zl (G:=G0) ⟨zS w.fs s,w.kept,w.pool⟩
   have hst:=jY (G:=G0) ⟨0,0,0,w.pool⟩ { zg s.ino w.fs.xs with links:=0,parent:=0 } hp
   have hwi:=Zx (G:=G0) ⟨zS w.fs s,w.kept,qF { zg s.ino w.fs.xs with links:=0,parent:=0 } w.pool⟩ ⟨n,s.ino,false,[]⟩ hk
   refine fof (fun j=>if j=9 then [false,false,false,false,false,false,false,true] else []) Tryz.func92 ?_;dsimp only[Tryz.f92]
   push_cast -dsimp
   refine cl (h1) ?_;push_cast -dsimp
   refine cl (hg) ?_;push_cast -dsimp
   refine cl (hu) ?_;push_cast -dsimp [hz']
   refine cl (hpo) ?_;push_cast -dsimp
   refine cl (hst) ?_;push_cast -dsimp
   refine cl (hwi) ?_;push_cast -dsimp
   exact dn (by push_cast -dsimp [zb,za,CLe,ze,e])
  ·have e:JO w n s=(⟨zS w.fs s,qr ⟨n,s.ino,false,[]⟩ w.kept,w.pool⟩,0):=by unfold JO;rw[hh,if_neg hz];rfl
   have hz':=eq_false hz
   have hwi:=Zx (G:=G0) ⟨zS w.fs s,w.kept,w.pool⟩ ⟨n,s.ino,false,[]⟩ hk
   refine fof (fun j=>if j=9 then [false,false,false,false,false,false,false,true] else []) Tryz.func92 ?_;dsimp only[Tryz.f92]
   push_cast -dsimp
   refine cl (h1) ?_;push_cast -dsimp
   refine cl (hg) ?_;push_cast -dsimp
   refine cl (hu) ?_;push_cast -dsimp [hz']
   refine cl (hwi) ?_;push_cast -dsimp
   exact dn (by push_cast -dsimp [zb,za,CLe,ze,e])
theorem Qy (f:FsV) (hf:FsI f) (hs:FsS f) (p:List UInt8) (hp:p.length<=100000) (b:Bool):Fun Tryz.prog G0 89 [.agg (fsC f),.str p,.sc (.int .i64 (if b then 1 else 0))] (.tup [.agg (YG (isV f p b).1),.agg (Yi (isV f p b).2.1),.sc (.int .i64 (isV f p b).2.2)]) 0:=by
 have hlen:=hs.len
 have h1:=zk7 f hf hs p hp
 have h2:=qz (G:=G0) f (atV f p).1.ino (by omega)
 have e1:(isV f p b).1=(atV f p).1:=rfl
 have e2:(isV f p b).2.1=zg (atV f p).1.ino f.xs:=rfl
 have e3:(isV f p b).2.2=if (atV f p).2≠0 then (atV f p).2 else if b&&!zG (atV f p).1.ino f.xs then 1 else if !b&&zG (atV f p).1.ino f.xs then 2 else 0:=rfl
 by_cases h0:(atV f p).2=0
 ·rw[if_neg (fun h=>h h0)]at e3
  have h0':=eq_true h0
  rw[h0]at h1
  cases hb:b with
  | true =>
   subst hb
   cases hh:zG (atV f p).1.ino f.xs with
   | true =>
    rw[hh]at h2 e3
    simp only[Bool.true_and,Bool.not_true,Bool.false_and,if_false,Bool.false_eq_true]at e3
    refine fof (fun i=>if i=7 then Vf [(0,.pure),(1,.pure),(2,.pure),(3,.flt [1,2]),(4,.flt [2]),(5,.pure)] else []) Tryz.func89 ?_;dsimp only[Tryz.f89]
    push_cast -dsimp [if_true]
    refine cl (h1) ?_;push_cast -dsimp
    refine cl (h2) ?_;push_cast -dsimp
    exact dn (by push_cast -dsimp [zb,za,CLe,ze,e1,e2,e3])
   | false =>
    rw[hh]at h2 e3
    simp only[Bool.true_and,Bool.not_false,if_true]at e3
    refine fof (fun i=>if i=7 then Vf [(0,.pure),(1,.pure),(2,.pure),(3,.flt [1,2]),(4,.flt [2]),(5,.pure)] else []) Tryz.func89 ?_;dsimp only[Tryz.f89]
    push_cast -dsimp [if_true]
    refine cl (h1) ?_;push_cast -dsimp
    refine cl (h2) ?_;push_cast -dsimp
    exact dn (by push_cast -dsimp [zb,za,CLe,ze,e1,e2,e3])
  | false =>
   subst hb
   cases hh:zG (atV f p).1.ino f.xs with
   | true =>
    rw[hh]at h2 e3
    simp only[Bool.false_and,Bool.not_false,Bool.true_and,if_true,if_false,Bool.false_eq_true]at e3
    refine fof (fun i=>if i=7 then Vf [(0,.pure),(1,.pure),(2,.pure),(3,.flt [1,2]),(4,.flt [2]),(5,.pure)] else []) Tryz.func89 ?_;dsimp only[Tryz.f89]
    push_cast -dsimp [Bool.false_eq_true,if_false]
    refine cl (h1) ?_;push_cast -dsimp
    refine cl (h2) ?_;push_cast -dsimp
    exact dn (by push_cast -dsimp [zb,za,CLe,ze,e1,e2,e3])
   | false =>
    rw[hh]at h2 e3
    simp only[Bool.false_and,Bool.not_false,Bool.true_and,if_false,Bool.false_eq_true]at e3
    refine fof (fun i=>if i=7 then Vf [(0,.pure),(1,.pure),(2,.pure),(3,.flt [1,2]),(4,.flt [2]),(5,.pure)] else []) Tryz.func89 ?_;dsimp only[Tryz.f89]
    push_cast -dsimp [Bool.false_eq_true,if_false]
    refine cl (h1) ?_;push_cast -dsimp
    refine cl (h2) ?_;push_cast -dsimp
    exact dn (by push_cast -dsimp [zb,za,CLe,ze,e1,e2,e3])
 ·rw[if_pos h0]at e3
  have h0':=eq_false h0
  refine fof (fun i=>if i=7 then Vf [(0,.pure),(1,.pure),(2,.pure),(3,.flt [1,2]),(4,.flt [2]),(5,.pure)] else []) Tryz.func89 ?_;dsimp only[Tryz.f89]
  push_cast -dsimp
  refine cl (h1) ?_;push_cast -dsimp
  refine cl (h2) ?_;push_cast -dsimp [h0']
  exact dn (by push_cast -dsimp [zb,za,CLe,ze,e1,e2,e3])
theorem UP (f:FsV) (hf:FsI f) (hs:FsS f) (p:List UInt8) (hp:p.length<=100000):Fun Tryz.prog G0 87 [.agg (fsC f),.str p] (.tup [.agg (Yi (zM f p).1),.sc (.int .i64 (zM f p).2)]) 0:=by
 have h1:=Qy f hf hs p hp true
 rw[if_pos rfl]at h1
 have e1:(zM f p).1=(isV f p true).2.1:=rfl
 have e2:(zM f p).2=if (isV f p true).2.2≠0 then (isV f p true).2.2 else if (isV f p true).2.1.kind=2 then 4 else if (isV f p true).2.1.kind=3 then 9 else 0:=rfl
 by_cases h0:(isV f p true).2.2=0
 ·rw[if_neg (fun h=>h h0)]at e2
  have h0':=eq_true h0
  rw[h0]at h1
  by_cases hk:(isV f p true).2.1.kind=2
  ·rw[if_pos hk]at e2
   have hk':=eq_true hk
   refine fon Tryz.func87 ?_;dsimp only[Tryz.f87]
   push_cast -dsimp
   refine cl (h1) ?_;push_cast -dsimp [hk']
   exact dn (by push_cast -dsimp [zb,za,CLe,ze,e1,e2])
  ·rw[if_neg hk]at e2
   have hk':=eq_false hk
   by_cases hk3:(isV f p true).2.1.kind=3
   ·rw[if_pos hk3]at e2
    have hk3':=eq_true hk3
    refine fon Tryz.func87 ?_;dsimp only[Tryz.f87]
    push_cast -dsimp
    refine cl (h1) ?_;push_cast -dsimp [hk',hk3']
    exact dn (by push_cast -dsimp [zb,za,CLe,ze,e1,e2])
   ·rw[if_neg hk3]at e2
    have hk3':=eq_false hk3
    refine fon Tryz.func87 ?_;dsimp only[Tryz.f87]
    push_cast -dsimp
    refine cl (h1) ?_;push_cast -dsimp [hk',hk3']
    exact dn (by push_cast -dsimp [zb,za,CLe,ze,e1,e2])
 ·rw[if_pos h0]at e2
  have h0':=eq_false h0
  refine fon Tryz.func87 ?_;dsimp only[Tryz.f87]
  push_cast -dsimp
  refine cl (h1) ?_;push_cast -dsimp [h0']
  exact dn (by push_cast -dsimp [zb,za,CLe,ze,e1,e2])
theorem V4 (w:qy) (hw:Xl w) (hs:VI w) (p:List UInt8) (hp:p.length<=100000) (hpl:zP p=true) (k:Int) (t:List UInt8) (ht:t.length<=10000):Fun Tryz.prog G0 86 [js w,.str p,.sc (.int .i64 k),.str t] (.tup [js (Jk w p k t).1,.sc (.int .i64 (Jk w p k t).2)]) 0:=by
 have h1:=Qy w.fs hw.fs hs.fs p hp false
 rw[if_neg (by decide)]at h1
 by_cases h0:(isV w.fs p false).2.2=0
 ·have h0':=eq_true h0
  have hfr:=JH hw.fs hpl h0
  have hln:=vr hw.fs hpl (Zu h0)
  have hln:(isV w.fs p false).1.name.length<=300:=hln
  have hc:=xZ w.fs hw.fs hs.fs hs.next (isV w.fs p false).1 hfr (by omega) k t (by omega)
  have e:Jk w p k t=({ w with fs:=(Zq w.fs (isV w.fs p false).1 k t).1 },(Zq w.fs (isV w.fs p false).1 k t).2):=by unfold Jk;rw[if_neg (fun h=>h h0)]
  rw[h0]at h1
  refine fon Tryz.func86 ?_;dsimp only[Tryz.f86]
  push_cast -dsimp
  refine cl (h1) ?_;push_cast -dsimp
  refine cl (hc) ?_;push_cast -dsimp
  exact dn (by push_cast -dsimp [zb,za,CLe,ze,e])
 ·have h0':=eq_false h0
  have e:Jk w p k t=(w,(isV w.fs p false).2.2):=by unfold Jk;rw[if_pos h0]
  refine fon Tryz.func86 ?_;dsimp only[Tryz.f86]
  push_cast -dsimp
  refine cl (h1) ?_;push_cast -dsimp [h0']
  exact dn (by push_cast -dsimp [zb,za,CLe,ze,e])
theorem Mw (w:qy) (hw:Xl w) (hs:VI w) (o:OpV) (ho:short o) (pa:zP o.a=true) (pb:zP o.b=true):Fun Tryz.prog G0 88 [js w,.agg (opL o)] (.tup [js (zU w o).1,.sc (.int .i64 (zU w o).2)]) 0:=by
 obtain ⟨k,s,a,b,d⟩:=o
 obtain ⟨la,lb,_⟩:=ho
 have la:a.length<=100000:=la
 have lb:b.length<=100000:=lb
 have h1:=UP w.fs hw.fs hs.fs a la
 have h2:=UP w.fs hw.fs hs.fs b lb
 by_cases c1:(zM w.fs a).2=0
 case neg =>
  have c1':=eq_false c1
  have e:zU w ⟨k,s,a,b,d⟩=(w,(zM w.fs a).2):=by unfold zU;rw[if_pos c1]
  unfold opL
  refine fon Tryz.func88 ?_;dsimp only[Tryz.f88]
  push_cast -dsimp
  refine cl (h1) ?_;push_cast -dsimp [c1']
  exact dn (by push_cast -dsimp [zb,za,CLe,ze,e])
 have f1:=QS hw hs pa c1
 rw[c1]at h1
 by_cases c2:(zM w.fs b).2=0
 case neg =>
  have c2':=eq_false c2
  have e:zU w ⟨k,s,a,b,d⟩=(w,(zM w.fs b).2):=by unfold zU;rw[if_neg (fun h=>h c1),if_pos c2]
  unfold opL
  refine fon Tryz.func88 ?_;dsimp only[Tryz.f88]
  push_cast -dsimp
  refine cl (h1) ?_;push_cast -dsimp
  refine cl (h2) ?_;push_cast -dsimp [c2']
  exact dn (by push_cast -dsimp [zb,za,CLe,ze,e])
 rw[c2]at h2
 have f2:=(Qm hw.fs pb c2).1
 by_cases c3:(zM w.fs a).1.ino=(zM w.fs b).1.ino
 ·have c3':=eq_true c3
  have e:zU w ⟨k,s,a,b,d⟩=(w,9):=by unfold zU;rw[if_neg (fun h=>h c1),if_neg (fun h=>h c2),if_pos c3]
  unfold opL
  refine fon Tryz.func88 ?_;dsimp only[Tryz.f88]
  push_cast -dsimp
  refine cl (h1) ?_;push_cast -dsimp
  refine cl (h2) ?_;push_cast -dsimp [c3']
  exact dn (by push_cast -dsimp [zb,za,CLe,ze,e])
 have c3':=eq_false c3
 have h3:=Hy w hs.fs (by have:=hs.kept;omega) s (zM w.fs b).1.ino
 by_cases c4:(zW w s (zM w.fs b).1.ino).2=0
 case neg =>
  have c4':=eq_false c4
  have e:zU w ⟨k,s,a,b,d⟩=(w,(zW w s (zM w.fs b).1.ino).2):=by unfold zU;rw[if_neg (fun h=>h c1),if_neg (fun h=>h c2),if_neg c3,if_pos c4]
  unfold opL
  refine fon Tryz.func88 ?_;dsimp only[Tryz.f88]
  push_cast -dsimp
  refine cl (h1) ?_;push_cast -dsimp
  refine cl (h2) ?_;push_cast -dsimp [c3']
  refine cl (h3) ?_;push_cast -dsimp [c4']
  exact dn (by push_cast -dsimp [zb,za,CLe,ze,e])
 rw[c4]at h3
 have efs:(zW w s (zM w.fs b).1.ino).1.fs=w.fs:=by unfold zW;split<;>rfl
 have h4:=zcc w.fs hw.fs hs.fs (zM w.fs b).1.ino f2 (zM w.fs a).1.data f1
 by_cases c5:(J7 w.fs (zM w.fs b).1.ino (zM w.fs a).1.data).2=0
 case neg =>
  have c5':=eq_false c5
  have e:zU w ⟨k,s,a,b,d⟩=(w,(J7 w.fs (zM w.fs b).1.ino (zM w.fs a).1.data).2):=by unfold zU;rw[if_neg (fun h=>h c1),if_neg (fun h=>h c2),if_neg c3,if_neg (fun h=>h c4),if_pos c5]
  unfold opL
  refine fon Tryz.func88 ?_;dsimp only[Tryz.f88]
  push_cast -dsimp
  refine cl (h1) ?_;push_cast -dsimp
  refine cl (h2) ?_;push_cast -dsimp [c3']
  refine cl (h3) ?_;push_cast -dsimp [efs]
  refine cl (h4) ?_;push_cast -dsimp [c5']
  exact dn (by push_cast -dsimp [zb,za,CLe,ze,e])
 rw[c5]at h4
 have e:zU w ⟨k,s,a,b,d⟩=({ (zW w s (zM w.fs b).1.ino).1 with fs:=(J7 w.fs (zM w.fs b).1.ino (zM w.fs a).1.data).1 },0):=by unfold zU;rw[if_neg (fun h=>h c1),if_neg (fun h=>h c2),if_neg c3,if_neg (fun h=>h c4),if_neg (fun h=>h c5)]
 unfold opL
 refine fon Tryz.func88 ?_;dsimp only[Tryz.f88]
 push_cast -dsimp
 refine cl (h1) ?_;push_cast -dsimp
 refine cl (h2) ?_;push_cast -dsimp [c3']
 refine cl (h3) ?_;push_cast -dsimp [efs]
 refine cl (h4) ?_;push_cast -dsimp
 exact dn (by push_cast -dsimp [zb,za,CLe,ze,e])
end
section
open CA CB
open Go.RowKit
def zqf (n:Int):List C:=[.sc (.int .i64 n)]
abbrev zp4 (l:List Int):List (List C):=l.map zqf
theorem xI (l:List Int):(zp4 l).length=l.length:=List.length_map _
theorem zcs (l:List Int) (n:Int):zp4 l++[[.sc (.int .i64 n)]]=zp4 (l++[n]):=by simp[zqf]
attribute [push_cast] xI zcs
abbrev GV (l:List OpV):List (List C):=l.map opL
theorem QB (l:List OpV):(GV l).length=l.length:=List.length_map _
theorem GB (l:List OpV) (k:Nat) (h:k<l.length):(GV l)[k]?=some (opL (l[k]'h)):=by rw[List.getElem?_map,List.getElem?_eq_getElem h];rfl
theorem zfB (l:List OpV) (k:Nat):(GV l).take k=GV (l.take k):=List.map_take.symm
theorem zcu (l:List OpV) (k:Nat):(GV l).drop k=GV (l.drop k):=List.map_drop.symm
attribute [push_cast] QB zfB zcu
end
section
open Go.RowKit
end
section
open Go.RowKit
def zjc (o p:OpV):Bool:=decide (o.kind=p.kind)&&decide (o.slot=p.slot)&&decide (o.a=p.a)&&decide (o.b=p.b)&&decide (o.d=p.d)
def Ya:List OpV->List OpV->Bool
 | [],[]=>true
 | o :: r,p :: s=>zjc o p&&Ya r s
 | _,_=>false
theorem J4:∀ l m:List OpV,Ya l m=true↔l.length=m.length/\∀ (j:Nat) (h:j<l.length) (h':j<m.length),zjc (l[j]'h) (m[j]'h')=true
 | [],[]=>by simp[Ya]
 | [],p :: s=>by simp[Ya]
 | o :: r,[]=>by simp[Ya]
 | o :: r,p :: s=>by
  have ih:=J4 r s
  simp only[Ya,Bool.and_eq_true,ih,List.length_cons]
  constructor
  ·rintro ⟨h1,h2,h3⟩
   refine ⟨by omega,fun j hj hj'=>?_⟩
   cases j with
   | zero=>exact h1
   | succ j=>exact h3 j (by omega) (by omega)
  ·rintro ⟨h1,h2⟩
   exact ⟨h2 0 (by omega) (by omega),by omega,fun j hj hj'=>h2 (j+1) (by omega) (by omega)⟩
end
section
open CA CB
open Go.RowKit
theorem kB (p:List UInt8) (hp:p.length<=100000):Fun Tryz.prog G0 83 [.str p] (qG (zP p)) 0:=by
 have h:=Vb p hp
 unfold Ys at h
 cases hb:Yj p with
 | false =>
  rw[hb]at h
  refine fon Tryz.func83 ?_;dsimp only[Tryz.f83]
  push_cast -dsimp
  refine cl (h) ?_;push_cast -dsimp
  exact ⟨[],rfl,rfl,by push_cast -dsimp [zb,za,CLe,ze];simp[zP,hb]⟩
 | true =>
  rw[hb,if_pos rfl]at h
  refine fon Tryz.func83 ?_;dsimp only[Tryz.f83]
  push_cast -dsimp
  refine cl (h) ?_;push_cast -dsimp
  refine ⟨[],rfl,rfl,?_⟩
  push_cast -dsimp [zb,za,CLe,ze]
  by_cases hn:zJ p = []
  ·simp[zP,hb,hn]
  ·have:=List.length_pos_iff.2 hn
   simp[zP,hb,hn,this]
theorem xb (s:List UInt8) (hs:s.length<=1000000):Fun Tryz.prog G0 84 [.str s] (qG (Xd s)) 0:=by
 refine fon Tryz.func84 ?_;dsimp only[Tryz.f84]
 push_cast -dsimp
 refine loop (fun k:Nat=>⟨[(0,.str s),(3,.sc (.int .i64 k))],[],0,0⟩) (fun k=>k<=s.length/\∀ j (hj:j<s.length),j<k->decide (s[j]'hj=0)=false) (fun k=>s.length-k) 0 ⟨Nat.zero_le _,fun j _ hj=>by omega⟩ ?_ ?_
 ·exact wk
 ·intro k hk
  have hk1:=hk.1
  have hk2:=hk.2
  by_cases h:k<s.length
  ·have hb:s[k]?=some (s[k]'h):=List.getElem?_eq_getElem h
   by_cases h0:s[k]'h=0
   ·have h1:((s[k]'h).toNat:Int)=0:=by rw[h0];rfl
    push_cast -dsimp [h,hb,h1]
    refine ⟨by omega,[],rfl,rfl,?_⟩
    push_cast -dsimp [zb,za,CLe,ze]
    have:s.any (fun b=>decide (b=0))=true:=List.any_eq_true.2 ⟨s[k]'h,List.getElem_mem h,by simpa using h0⟩
    simp[Xd,this]
   ·have h1:¬((s[k]'h).toNat:Int)=0:=zgm h0
    push_cast -dsimp [h,hb,h1]
    repeat refine an ?_
    refine ⟨k+1,⟨by omega,fun j hj hjk=>?_⟩,by omega,wk⟩
    rcases Nat.lt_or_ge j k with g | g
    ·exact hk2 j hj g
    ·have:j=k:=by omega
     subst this;simpa using h0
  ·have hall:s.any (fun b=>decide (b=0))=false:=List.any_eq_false.2 fun x hx=>by
    obtain ⟨j,hj,rfl⟩:=List.getElem_of_mem hx
    have:=hk2 j hj (by omega)
    simp[this]
   by_cases h1:s = []
   ·have hn:¬(1:Int)<=(s.length:Int):=by rw[h1];simp
    push_cast -dsimp [h,hn]
    exact ⟨[],rfl,rfl,by push_cast -dsimp [zb,za,CLe,ze]<;>simp[Xd,h1]⟩
   ·have hpos:1<=s.length:=List.length_pos_iff.2 h1
    have hpos':(1:Int)<=(s.length:Int):=by omega
    push_cast -dsimp [h,hpos,hpos']
    refine ⟨[],rfl,rfl,?_⟩
    push_cast -dsimp [zb,za,CLe,ze]
    have:decide ((s.length:Int)<=4095)=decide (s.length<=4095):=by rw[decide_eq_decide];omega
    simp[Xd,h1,hall,this]
theorem xQ (k:Int):Fun Tryz.prog G0 48 [.sc (.int .i64 k)] (qG (Z0 k)) 0:=by
 refine fon Tryz.func48 ?_;dsimp only[Tryz.f48]
 push_cast -dsimp
 repeat' (first
  | (refine br (fun h=>?_) (fun h=>?_)<;>push_cast -dsimp [h])
  | (refine ⟨[],rfl,rfl,?_⟩;push_cast -dsimp [zb,za,CLe,ze];simp_all [Z0]))
theorem Uf {a b:List UInt8} (ha:zP a=true) (hb:zP b=true):Xo a b=Yy a b:=by
 simp only[zP,Bool.and_eq_true]at ha hb
 exact yc a b ha.1 hb.1
theorem Yt (k s:Int) (a b d:List UInt8) (hs:short ⟨k,s,a,b,d⟩):Fun Tryz.prog G0 47 [.agg (opL ⟨k,s,a,b,d⟩)] (qG (Z4 ⟨k,s,a,b,d⟩)) 0:=by
 have hs1:a.length<=100000:=hs.1
 have hs2:b.length<=100000:=hs.2.1
 have hs3:d.length<=100000:=hs.2.2
 have h1:=(kB a (by omega))
 have h2:=(kB b (by omega))
 have h3:=(xb d (by omega))
 have h4:=(Z6 a b (by omega) (by omega))
 have h5:=(Z6 b a (by omega) (by omega))
 have h6:=xQ k
 unfold opL
 by_cases hk1:k<1
 ·have:¬1<=k:=by omega
  refine fon Tryz.func47 ?_;dsimp only[Tryz.f47]
  push_cast -dsimp [hk1]
  exact ⟨[],rfl,rfl,by push_cast -dsimp [zb,za,CLe,ze];simp[Z4,this]⟩
 by_cases hk2:10<k
 ·have:¬k<=10:=by omega
  refine fon Tryz.func47 ?_;dsimp only[Tryz.f47]
  push_cast -dsimp [hk1,hk2]
  exact ⟨[],rfl,rfl,by push_cast -dsimp [zb,za,CLe,ze];simp[Z4,this]⟩
 cases hp:zP a with
 | false =>
  rw[hp]at h1
  refine fon Tryz.func47 ?_;dsimp only[Tryz.f47]
  push_cast -dsimp [hk1,hk2]
  refine cl (h1) ?_;push_cast -dsimp
  exact ⟨[],rfl,rfl,by push_cast -dsimp [zb,za,CLe,ze];simp[Z4,hp]⟩
 | true =>
  rw[hp]at h1
  have hu:zP b=true->Xo a b=Yy a b:=fun hb=>Uf hp hb
  have hu2:zP b=true->Xo b a=Yy b a:=fun hb=>Uf hb hp
  have hk:k=1∨k=2∨k=3∨k=4∨k=5∨k=6∨k=7∨k=8∨k=9∨k=10:=by omega
  clear hk1 hk2 hs hs1 hs2 hs3
  rcases hk with rfl | rfl | rfl | rfl | rfl | rfl | rfl | rfl | rfl | rfl
  all_goals
   simp[Z0]at h6
   refine fon Tryz.func47 ?_;dsimp only[Tryz.f47]
   push_cast -dsimp
   refine cl (h1) ?_;push_cast -dsimp
   refine cl (h6) ?_;push_cast -dsimp
   repeat' (first
    | (refine call h2 ?_;push_cast -dsimp)
    | (refine kl h2 ?_;push_cast -dsimp)
    | (refine call h3 ?_;push_cast -dsimp)
    | (refine kl h3 ?_;push_cast -dsimp)
    | (refine call h4 ?_;push_cast -dsimp)
    | (refine kl h4 ?_;push_cast -dsimp)
    | (refine call h5 ?_;push_cast -dsimp)
    | (refine kl h5 ?_;push_cast -dsimp)
    | (refine br (fun h=>?_) (fun h=>?_)<;>push_cast -dsimp [h])
    | (refine ⟨[],rfl,rfl,?_⟩;push_cast -dsimp [zb,za,CLe,ze];clear h1 h2 h3 h4 h5 h6;simp_all [Z4,Z0,zes]<;>omega))
end
section
open CA CB
open Go.RowKit
theorem ziE (w:qy) (hw:Xl w) (hs:VI w) (s:Int) (a b d:List UInt8) (ho:short ⟨1,s,a,b,d⟩) (hd:d.length<=10000) (hm:Z4 ⟨1,s,a,b,d⟩=true) (p1:zP a=true) (p2:zes 1=true->zP b=true):Fun Tryz.prog G0 53 [js w,.agg (opL ⟨1,s,a,b,d⟩)] (.tup [js (doV w ⟨1,s,a,b,d⟩).1,.sc (.int .i64 (doV w ⟨1,s,a,b,d⟩).2)]) 0:=by
 have e0:doV w ⟨1,s,a,b,d⟩=Jk w a 2 []:=by unfold doV;rw[hm];rfl
 have hop:=Yt 1 s a b d ho
 rw[hm]at hop
 rw[e0]
 unfold qG opL at hop
 unfold opL
 have h1:=V4 w hw hs a ho.1 p1 2 [] (by simp)
 refine fon Tryz.func53 ?_;dsimp only[Tryz.f53]
 push_cast -dsimp
 refine cl (hop) ?_;push_cast -dsimp
 refine cl (h1) ?_;push_cast -dsimp
 exact dn
theorem zf8 (w:qy) (hw:Xl w) (hs:VI w) (s:Int) (a b d:List UInt8) (ho:short ⟨2,s,a,b,d⟩) (hd:d.length<=10000) (hm:Z4 ⟨2,s,a,b,d⟩=true) (p1:zP a=true) (p2:zes 2=true->zP b=true):Fun Tryz.prog G0 53 [js w,.agg (opL ⟨2,s,a,b,d⟩)] (.tup [js (doV w ⟨2,s,a,b,d⟩).1,.sc (.int .i64 (doV w ⟨2,s,a,b,d⟩).2)]) 0:=by
 have e0:doV w ⟨2,s,a,b,d⟩=j0 w ⟨2,s,a,b,d⟩:=by unfold doV;rw[hm];rfl
 have hop:=Yt 2 s a b d ho
 rw[hm]at hop
 rw[e0]
 unfold qG opL at hop
 unfold opL
 have h1:=UP w.fs hw.fs hs.fs a ho.1
 by_cases h0:(zM w.fs a).2=0
 ·have h0':=eq_true h0
  have h2:=V4 w hw hs b ho.2.1 (p2 rfl) 1 (zM w.fs a).1.data (QS hw hs p1 h0)
  have e:j0 w ⟨2,s,a,b,d⟩=Jk w b 1 (zM w.fs a).1.data:=by unfold j0;simp[h0]
  refine fon Tryz.func53 ?_;dsimp only[Tryz.f53]
  push_cast -dsimp
  refine cl (hop) ?_;push_cast -dsimp
  refine cl (h1) ?_;push_cast -dsimp [h0']
  refine cl (h2) ?_;push_cast -dsimp
  exact dn (by push_cast -dsimp [zb,za,CLe,ze,e])
 ·have h0':=eq_false h0
  have e:j0 w ⟨2,s,a,b,d⟩=(w,(zM w.fs a).2):=by unfold j0;simp[h0]
  refine fon Tryz.func53 ?_;dsimp only[Tryz.f53]
  push_cast -dsimp
  refine cl (hop) ?_;push_cast -dsimp
  refine cl (h1) ?_;push_cast -dsimp [h0']
  exact dn (by push_cast -dsimp [zb,za,CLe,ze,e])
theorem zgE (w:qy) (hw:Xl w) (hs:VI w) (s:Int) (a b d:List UInt8) (ho:short ⟨3,s,a,b,d⟩) (hd:d.length<=10000) (hm:Z4 ⟨3,s,a,b,d⟩=true) (p1:zP a=true) (p2:zes 3=true->zP b=true):Fun Tryz.prog G0 53 [js w,.agg (opL ⟨3,s,a,b,d⟩)] (.tup [js (doV w ⟨3,s,a,b,d⟩).1,.sc (.int .i64 (doV w ⟨3,s,a,b,d⟩).2)]) 0:=by
 have e0:doV w ⟨3,s,a,b,d⟩=zU w ⟨3,s,a,b,d⟩:=by unfold doV;rw[hm];rfl
 have hop:=Yt 3 s a b d ho
 rw[hm]at hop
 rw[e0]
 unfold qG opL at hop
 unfold opL
 have h1:=Mw w hw hs ⟨3,s,a,b,d⟩ ho p1 (p2 rfl)
 unfold opL at h1
 refine fon Tryz.func53 ?_;dsimp only[Tryz.f53]
 push_cast -dsimp
 refine cl (hop) ?_;push_cast -dsimp
 refine cl (h1) ?_;push_cast -dsimp
 exact dn
theorem zgT (w:qy) (hw:Xl w) (hs:VI w) (s:Int) (a b d:List UInt8) (ho:short ⟨4,s,a,b,d⟩) (hd:d.length<=10000) (hm:Z4 ⟨4,s,a,b,d⟩=true) (p1:zP a=true) (p2:zes 4=true->zP b=true):Fun Tryz.prog G0 53 [js w,.agg (opL ⟨4,s,a,b,d⟩)] (.tup [js (doV w ⟨4,s,a,b,d⟩).1,.sc (.int .i64 (doV w ⟨4,s,a,b,d⟩).2)]) 0:=by
 have e0:doV w ⟨4,s,a,b,d⟩=Jk w a 3 d:=by unfold doV;rw[hm];rfl
 have hop:=Yt 4 s a b d ho
 rw[hm]at hop
 rw[e0]
 unfold qG opL at hop
 unfold opL
 have h1:=V4 w hw hs a ho.1 p1 3 d hd
 refine fon Tryz.func53 ?_;dsimp only[Tryz.f53]
 push_cast -dsimp
 refine cl (hop) ?_;push_cast -dsimp
 refine cl (h1) ?_;push_cast -dsimp
 exact dn
theorem zh4 (w:qy) (hw:Xl w) (hs:VI w) (s:Int) (a b d:List UInt8) (ho:short ⟨5,s,a,b,d⟩) (hd:d.length<=10000) (hm:Z4 ⟨5,s,a,b,d⟩=true) (p1:zP a=true) (p2:zes 5=true->zP b=true):Fun Tryz.prog G0 53 [js w,.agg (opL ⟨5,s,a,b,d⟩)] (.tup [js (doV w ⟨5,s,a,b,d⟩).1,.sc (.int .i64 (doV w ⟨5,s,a,b,d⟩).2)]) 0:=by
 have e0:doV w ⟨5,s,a,b,d⟩=qE w ⟨5,s,a,b,d⟩:=by unfold doV;rw[hm];rfl
 have hop:=Yt 5 s a b d ho
 rw[hm]at hop
 rw[e0]
 unfold qG opL at hop
 unfold opL
 have h1:=Qy w.fs hw.fs hs.fs a ho.1 true
 have h2:=Qy w.fs hw.fs hs.fs b ho.2.1 false
 rw[if_pos rfl]at h1
 rw[if_neg (by decide)]at h2
 by_cases h0:(isV w.fs a true).2.2=0
 ·have h0':=eq_true h0
  obtain ⟨t1,t2⟩:=jF hw.fs p1 h0
  have hi:=qh.ino hw.fs t1
  have hino:(isV w.fs a true).2.1.ino=(isV w.fs a true).1.ino:=by rw[t2,(zm hi).2.2]
  by_cases hk:(isV w.fs a true).2.1.kind=2
  ·have hk':=eq_true hk
   have e:qE w ⟨5,s,a,b,d⟩=(w,11):=by unfold qE;simp[h0,hk]
   refine fon Tryz.func53 ?_;dsimp only[Tryz.f53]
   push_cast -dsimp
   refine cl (hop) ?_;push_cast -dsimp
   refine cl (h1) ?_;push_cast -dsimp [h0',hk']
   exact dn (by push_cast -dsimp [zb,za,CLe,ze,e])
  ·have hk':=eq_false hk
   by_cases hb:(isV w.fs b false).2.2=0
   ·have hb':=eq_true hb
    have hfree:=JH hw.fs (p2 rfl) hb
    have hne:(isV w.fs b false).1.dir≠(isV w.fs a true).2.1.ino:=fun e=>by
     rw[hino]at e
     have:=hfree.kind
     rw[e,←t2]at this
     exact hk this
    have hn:=ze3 w.fs hw.fs hs.fs (isV w.fs b false).1 hfree (isV w.fs a true).2.1.ino (by rw[hino];exact hi) hne
    have e:qE w ⟨5,s,a,b,d⟩=({ w with fs:=V3 w.fs (isV w.fs b false).1 (isV w.fs a true).2.1.ino },0):=by unfold qE;simp[h0,hk,hb]
    refine fon Tryz.func53 ?_;dsimp only[Tryz.f53]
    push_cast -dsimp
    refine cl (hop) ?_;push_cast -dsimp
    refine cl (h1) ?_;push_cast -dsimp [h0',hk']
    refine cl (h2) ?_;push_cast -dsimp [hb']
    refine cl (hn) ?_;push_cast -dsimp
    exact dn (by push_cast -dsimp [zb,za,CLe,ze,e])
   ·have hb':=eq_false hb
    have e:qE w ⟨5,s,a,b,d⟩=(w,(isV w.fs b false).2.2):=by unfold qE;simp[h0,hk,hb]
    refine fon Tryz.func53 ?_;dsimp only[Tryz.f53]
    push_cast -dsimp
    refine cl (hop) ?_;push_cast -dsimp
    refine cl (h1) ?_;push_cast -dsimp [h0',hk']
    refine cl (h2) ?_;push_cast -dsimp [hb']
    exact dn (by push_cast -dsimp [zb,za,CLe,ze,e])
 ·have h0':=eq_false h0
  have e:qE w ⟨5,s,a,b,d⟩=(w,(isV w.fs a true).2.2):=by unfold qE;simp[h0]
  refine fon Tryz.func53 ?_;dsimp only[Tryz.f53]
  push_cast -dsimp
  refine cl (hop) ?_;push_cast -dsimp
  refine cl (h1) ?_;push_cast -dsimp [h0']
  exact dn (by push_cast -dsimp [zb,za,CLe,ze,e])
theorem zhz (w:qy) (hw:Xl w) (hs:VI w) (s:Int) (a b d:List UInt8) (ho:short ⟨6,s,a,b,d⟩) (hd:d.length<=10000) (hm:Z4 ⟨6,s,a,b,d⟩=true) (p1:zP a=true) (p2:zes 6=true->zP b=true):Fun Tryz.prog G0 53 [js w,.agg (opL ⟨6,s,a,b,d⟩)] (.tup [js (doV w ⟨6,s,a,b,d⟩).1,.sc (.int .i64 (doV w ⟨6,s,a,b,d⟩).2)]) 0:=by
 have e0:doV w ⟨6,s,a,b,d⟩=Jf w ⟨6,s,a,b,d⟩:=by unfold doV;rw[hm];rfl
 have hop:=Yt 6 s a b d ho
 rw[hm]at hop
 rw[e0]
 unfold qG opL at hop
 unfold opL
 have h1:=Qy w.fs hw.fs hs.fs a ho.1 true
 have h2:=Qy w.fs hw.fs hs.fs b ho.2.1 false
 rw[if_pos rfl]at h1
 rw[if_neg (by decide)]at h2
 by_cases h0:(isV w.fs a true).2.2=0
 ·have h0':=eq_true h0
  obtain ⟨t1,t2⟩:=jF hw.fs p1 h0
  by_cases hb:(isV w.fs b false).2.2=0
  ·have hb':=eq_true hb
   have hfree:=JH hw.fs (p2 rfl) hb
   have hn:=zds w.fs hw.fs hs.fs (isV w.fs a true).1 (isV w.fs b false).1 t1 hfree (NH hw.fs hb)
   have e:Jf w ⟨6,s,a,b,d⟩=({ w with fs:=Q7 w.fs (isV w.fs a true).1 (isV w.fs b false).1 },0):=by unfold Jf;simp[h0,hb]
   refine fon Tryz.func53 ?_;dsimp only[Tryz.f53]
   push_cast -dsimp
   refine cl (hop) ?_;push_cast -dsimp
   refine cl (h1) ?_;push_cast -dsimp [h0']
   refine cl (h2) ?_;push_cast -dsimp [hb']
   refine cl (hn) ?_;push_cast -dsimp
   exact dn (by push_cast -dsimp [zb,za,CLe,ze,e])
  ·have hb':=eq_false hb
   have e:Jf w ⟨6,s,a,b,d⟩=(w,(isV w.fs b false).2.2):=by unfold Jf;simp[h0,hb]
   refine fon Tryz.func53 ?_;dsimp only[Tryz.f53]
   push_cast -dsimp
   refine cl (hop) ?_;push_cast -dsimp
   refine cl (h1) ?_;push_cast -dsimp [h0']
   refine cl (h2) ?_;push_cast -dsimp [hb']
   exact dn (by push_cast -dsimp [zb,za,CLe,ze,e])
 ·have h0':=eq_false h0
  have e:Jf w ⟨6,s,a,b,d⟩=(w,(isV w.fs a true).2.2):=by unfold Jf;simp[h0]
  refine fon Tryz.func53 ?_;dsimp only[Tryz.f53]
  push_cast -dsimp
  refine cl (hop) ?_;push_cast -dsimp
  refine cl (h1) ?_;push_cast -dsimp [h0']
  exact dn (by push_cast -dsimp [zb,za,CLe,ze,e])
theorem zg8 (w:qy) (hw:Xl w) (hs:VI w) (s:Int) (a b d:List UInt8) (ho:short ⟨7,s,a,b,d⟩) (hd:d.length<=10000) (hm:Z4 ⟨7,s,a,b,d⟩=true) (p1:zP a=true) (p2:zes 7=true->zP b=true):Fun Tryz.prog G0 53 [js w,.agg (opL ⟨7,s,a,b,d⟩)] (.tup [js (doV w ⟨7,s,a,b,d⟩).1,.sc (.int .i64 (doV w ⟨7,s,a,b,d⟩).2)]) 0:=by
 have e0:doV w ⟨7,s,a,b,d⟩=qu w ⟨7,s,a,b,d⟩:=by unfold doV;rw[hm];rfl
 have hop:=Yt 7 s a b d ho
 rw[hm]at hop
 rw[e0]
 unfold qG opL at hop
 unfold opL
 have h1:=Qy w.fs hw.fs hs.fs a ho.1 true
 rw[if_pos rfl]at h1
 by_cases h0:(isV w.fs a true).2.2=0
 ·have h0':=eq_true h0
  obtain ⟨t1,t2⟩:=jF hw.fs p1 h0
  by_cases hes:(isV w.fs a true).2.1.es = []
  ·have hel:(0<(zI (isV w.fs a true).2.1.es).length)=False:=eq_false (by rw[hes];simp)
   have hd:=zca w hw hs.fs (by have:=hs.kept;omega) (by have:=hs.pool;omega) s (isV w.fs a true).1 t1
   have e:qu w ⟨7,s,a,b,d⟩=JO w s (isV w.fs a true).1:=by unfold qu;simp[h0,hes]
   refine fon Tryz.func53 ?_;dsimp only[Tryz.f53]
   push_cast -dsimp
   refine cl (hop) ?_;push_cast -dsimp
   refine cl (h1) ?_;push_cast -dsimp [h0',hel]
   refine cl (hd) ?_;push_cast -dsimp
   exact dn (by push_cast -dsimp [zb,za,CLe,ze,e])
  ·have hel:(0<(zI (isV w.fs a true).2.1.es).length)=True:=eq_true (by rw[List.length_map];exact List.length_pos_iff.2 hes)
   have e:qu w ⟨7,s,a,b,d⟩=(w,5):=by unfold qu;simp[h0,hes]
   refine fon Tryz.func53 ?_;dsimp only[Tryz.f53]
   push_cast -dsimp
   refine cl (hop) ?_;push_cast -dsimp
   refine cl (h1) ?_;push_cast -dsimp [h0',hel]
   exact dn (by push_cast -dsimp [zb,za,CLe,ze,e])
 ·have h0':=eq_false h0
  have e:qu w ⟨7,s,a,b,d⟩=(w,(isV w.fs a true).2.2):=by unfold qu;simp[h0]
  refine fon Tryz.func53 ?_;dsimp only[Tryz.f53]
  push_cast -dsimp
  refine cl (hop) ?_;push_cast -dsimp
  refine cl (h1) ?_;push_cast -dsimp [h0']
  exact dn (by push_cast -dsimp [zb,za,CLe,ze,e])
theorem zdT (w:qy) (hw:Xl w) (hs:VI w) (o:OpV) (ho:short o) (hd:o.d.length<=10000) (hk:o.kind<=7):Fun Tryz.prog G0 53 [js w,.agg (opL o)] (.tup [js (doV w o).1,.sc (.int .i64 (doV w o).2)]) 0:=by
 obtain ⟨k,s,a,b,d⟩:=o
 cases hm:Z4 ⟨k,s,a,b,d⟩ with
 | false =>
  have e:doV w ⟨k,s,a,b,d⟩=(w,12):=by unfold doV;rw[hm];rfl
  have hop:=Yt k s a b d ho
  rw[hm]at hop
  rw[e]
  unfold opL qG at hop
  unfold opL
  refine fon Tryz.func53 ?_;dsimp only[Tryz.f53]
  push_cast -dsimp
  refine cl (hop) ?_;push_cast -dsimp
  exact dn
 | true =>
 have hk1:1<=k:=by
  unfold Z4 at hm
  simp only[Bool.and_eq_true,decide_eq_true_eq]at hm
  exact hm.1.1.1.1.1.1
 obtain ⟨p1,p2,_⟩:=XT hm
 have hk7:k<=7:=hk
 obtain rfl | rfl | rfl | rfl | rfl | rfl | rfl:k=1∨k=2∨k=3∨k=4∨k=5∨k=6∨k=7:=by omega
 ·exact ziE w hw hs s a b d ho hd hm p1 p2
 ·exact zf8 w hw hs s a b d ho hd hm p1 p2
 ·exact zgE w hw hs s a b d ho hd hm p1 p2
 ·exact zgT w hw hs s a b d ho hd hm p1 p2
 ·exact zh4 w hw hs s a b d ho hd hm p1 p2
 ·exact zhz w hw hs s a b d ho hd hm p1 p2
 ·exact zg8 w hw hs s a b d ho hd hm p1 p2
end
section
open CA CB
open Go.RowKit
def Jy (f:FsV):Prop:=1<=f.maxI/\f.maxI<=1073741824/\0<=f.maxB/\f.maxB<=1073741824/\f.next<=1099511627776/\(∀ x∈f.xs,1<=x.ino/\x.ino<f.next)/\qc f.xs/\zG 1 f.xs=true/\(zg 1 f.xs).kind=2
instance (f:FsV):Decidable (Jy f):=by unfold Jy;infer_instance
def YU (f:FsV):Prop:=∀ x∈f.xs,∀ e∈x.es,zG e.ino f.xs=true
instance (f:FsV):Decidable (YU f):=by unfold YU;infer_instance
def HQ (f:FsV):Prop:=(f.xs.length:Int)<=f.maxI/\(jd f.xs:Int)<=f.maxB
instance (f:FsV):Decidable (HQ f):=by unfold HQ;infer_instance
theorem qi {α:Type} {l:List α} {i:Nat} (h:i<l.length) {P:α->Prop} (h1:∀ x∈l.take i,P x) (h2:P l[i]):∀ x∈l.take (i+1),P x:=fun x hx=>by
 rw[List.take_add_one,List.getElem?_eq_getElem h]at hx
 rcases List.mem_append.1 hx with hx | hx
 ·exact h1 x hx
 ·simp at hx;subst hx;exact h2
section
variable {G:zq}
theorem N9 (f:FsV) (hl:f.xs.length<=100000):Fun Tryz.prog G 67 [.agg (fsC f)] (.sc (.bool (decide (Jy f)))) 0:=by
 have hll:(zr f.xs).length=f.xs.length:=List.length_map ..
 refine fon Tryz.func67 ?_;dsimp only[Tryz.f67]
 by_cases e0:f.maxI<1
 case pos =>
  have hn:¬Jy f:=fun h=>by have:=h.1;omega
  push_cast -dsimp [e0]
  exact dn (by push_cast -dsimp [zb,za,CLe,ze,hn])
 by_cases e1:1073741824<f.maxI
 case pos =>
  have hn:¬Jy f:=fun h=>by have:=h.2.1;omega
  push_cast -dsimp [e0,e1]
  exact dn (by push_cast -dsimp [zb,za,CLe,ze,hn])
 by_cases e2:f.maxB<0
 case pos =>
  have hn:¬Jy f:=fun h=>by have:=h.2.2.1;omega
  push_cast -dsimp [e0,e1,e2]
  exact dn (by push_cast -dsimp [zb,za,CLe,ze,hn])
 by_cases e3:1073741824<f.maxB
 case pos =>
  have hn:¬Jy f:=fun h=>by have:=h.2.2.2.1;omega
  push_cast -dsimp [e0,e1,e2,e3]
  exact dn (by push_cast -dsimp [zb,za,CLe,ze,hn])
 by_cases e4:1099511627776<f.next
 case pos =>
  have hn:¬Jy f:=fun h=>by have:=h.2.2.2.2.1;omega
  push_cast -dsimp [e0,e1,e2,e3,e4]
  exact dn (by push_cast -dsimp [zb,za,CLe,ze,hn])
 push_cast -dsimp [e0,e1,e2,e3,e4]
 refine loop (fun i:Nat=>⟨[(1,.ptr 0 0),(3,.sc (.int .i64 i))],[fsC f],0,0⟩) (fun i=>i<=f.xs.length/\∀ x∈f.xs.take i,1<=x.ino/\x.ino<f.next) (fun i=>f.xs.length-i) 0 ⟨Nat.zero_le _,fun x hx=>by simp at hx⟩ ?_ ?_
 ·exact wk
 ·rintro i ⟨h1,h2⟩
  by_cases h:i<f.xs.length
  ·have g1:=jg f.xs i h
   by_cases c1:f.xs[i].ino<1
   ·have hn:¬Jy f:=fun h'=>by have:=h'.2.2.2.2.2.1 _ (List.getElem_mem h);omega
    push_cast -dsimp [hll,h,g1,c1]
    repeat refine an ?_
    exact dn (by push_cast -dsimp [zb,za,CLe,ze,hn])
   ·by_cases c2:f.next<=f.xs[i].ino
    ·have hn:¬Jy f:=fun h'=>by have:=h'.2.2.2.2.2.1 _ (List.getElem_mem h);omega
     push_cast -dsimp [hll,h,g1,c1,c2]
     repeat refine an ?_
     exact dn (by push_cast -dsimp [zb,za,CLe,ze,hn])
    ·push_cast -dsimp [hll,h,g1,c1,c2]
     repeat refine an ?_
     exact ⟨i+1,⟨h,qi h h2 (by omega)⟩,by omega,wk⟩
  ·rw[List.take_of_length_le (by omega)]at h2
   have hf:Jy f↔qc f.xs/\zG 1 f.xs=true/\(zg 1 f.xs).kind=2:=⟨fun h=>h.2.2.2.2.2.2,fun h=>⟨by omega,by omega,by omega,by omega,by omega,h2,h⟩⟩
   push_cast -dsimp [hll,h]
   refine cl (qz f 1 hl) ?_;push_cast -dsimp
   by_cases c1:qc f.xs
   ·cases c2:zG 1 f.xs with
    | true =>
     refine cl (Vz f hl) ?_;push_cast -dsimp [decide_eq_true c1,c2]
     exact dn (by push_cast -dsimp [zb,za,CLe,ze,hf,c1,c2])
    | false =>
     have hn:¬Jy f:=fun h=>by have:=(hf.1 h).2.1;rw[c2]at this;cases this
     refine cl (Vz f hl) ?_;push_cast -dsimp [decide_eq_true c1,c2]
     exact dn (by push_cast -dsimp [zb,za,CLe,ze,hn])
   ·have hn:¬Jy f:=fun h=>c1 (hf.1 h).1
    refine cl (Vz f hl) ?_;push_cast -dsimp [decide_eq_false c1]
    exact dn (by push_cast -dsimp [zb,za,CLe,ze,hn])
theorem NU (f:FsV) (hf:FsS f):Fun Tryz.prog G 69 [.agg (fsC f)] (.sc (.bool (decide (YU f)))) 0:=by
 have hll:(zr f.xs).length=f.xs.length:=List.length_map ..
 have h40:=hf.len
 refine fof (fun i=>if i=7 then kj 15 16 else []) Tryz.func69 ?_;dsimp only[Tryz.f69]
 push_cast -dsimp
 refine loop (fun i:Nat=>⟨[(1,.ptr 0 0),(3,.sc (.int .i64 i))],[fsC f],0,0⟩) (fun i=>i<=f.xs.length/\∀ x∈f.xs.take i,∀ e∈x.es,zG e.ino f.xs=true) (fun i=>f.xs.length-i) 0 ⟨Nat.zero_le _,fun x hx=>by simp at hx⟩ ?_ ?_
 ·exact wk
 ·rintro i ⟨h1,h2⟩
  by_cases h:i<f.xs.length
  ·have g1:=jg f.xs i h
   have he:=(hf.node _ (List.getElem_mem h)).1
   have hle:(zI f.xs[i].es).length=f.xs[i].es.length:=List.length_map ..
   push_cast -dsimp [hll,h]
   refine loop (fun k:Nat=>⟨[(1,.ptr 0 0),(3,.sc (.int .i64 i)),(4,.sc (.int .i64 k))],[fsC f],0,0⟩) (fun k=>k<=f.xs[i].es.length/\∀ e∈f.xs[i].es.take k,zG e.ino f.xs=true) (fun k=>f.xs[i].es.length-k) 0 ⟨Nat.zero_le _,fun x hx=>by simp at hx⟩ ?_ ?_
   ·exact wk
   ·rintro k ⟨h3,h4⟩
    by_cases hk:k<f.xs[i].es.length
    ·have g2:=Jt f.xs[i].es k hk
     push_cast -dsimp [g1,hle,hk,g2]
     repeat refine an ?_
     refine cl (qz f f.xs[i].es[k].ino (by omega)) ?_;push_cast -dsimp
     cases hh:zG f.xs[i].es[k].ino f.xs with
     | true =>
      push_cast -dsimp [hh]
      repeat refine an ?_
      exact ⟨k+1,⟨hk,qi hk h4 hh⟩,by omega,wk⟩
     | false =>
      have hn:¬YU f:=fun h'=>by have:=h' _ (List.getElem_mem h) _ (List.getElem_mem hk);rw[hh]at this;cases this
      push_cast -dsimp [hh]
      exact dn (by push_cast -dsimp [zb,za,CLe,ze,hn])
    ·rw[List.take_of_length_le (by omega)]at h4
     push_cast -dsimp [g1,hle,hk]
     repeat refine an ?_
     exact ⟨i+1,⟨h,qi h h2 h4⟩,by omega,wk⟩
  ·rw[List.take_of_length_le (by omega)]at h2
   have hn:YU f:=h2
   push_cast -dsimp [hll,h]
   exact dn (by push_cast -dsimp [zb,za,CLe,ze,hn])
theorem vw (f:FsV) (hf:FsS f) (hb:jd f.xs<=100000000):Fun Tryz.prog G 72 [.agg (fsC f),.sc (.int .i64 0),.sc (.int .i64 0)] (.sc (.bool (decide (HQ f)))) 0:=by
 have hll:(zr f.xs).length=f.xs.length:=List.length_map ..
 have h40:=hf.len
 refine fon Tryz.func72 ?_;dsimp only[Tryz.f72]
 by_cases c1:f.maxI<f.xs.length
 ·have hn:¬HQ f:=fun h=>by have:=h.1;omega
  push_cast -dsimp [hll,c1]
  repeat refine an ?_
  exact dn (by push_cast -dsimp [zb,za,CLe,ze,hn])
 ·have hn:HQ f↔(jd f.xs:Int)<=f.maxB:=⟨fun h=>h.2,fun h=>⟨by omega,h⟩⟩
  push_cast -dsimp [hll,c1]
  repeat refine an ?_
  refine cl (Nc f hf) ?_;push_cast -dsimp
  repeat refine an ?_
  exact dn (by push_cast -dsimp [zb,za,CLe,ze,hn])
end
end
end Go.Proofs.YtiblepfehggicaaGreatDoor.Vcg
