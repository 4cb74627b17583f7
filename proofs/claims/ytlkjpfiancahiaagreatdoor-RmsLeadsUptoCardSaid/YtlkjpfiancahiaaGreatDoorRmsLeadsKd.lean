/- What the proof of RmsLeads leans on, part 4: Path5 Ref3 PathLaw Open Laid Op1 QuotePlain QuotePlain2 QuotePlain3 OpV Op2 Wld0 Ent1 Ent2 EntW TabW Wld1 Wld2 Wld3 Wld4 Wld5 Room Plc Crt Drp Mov SlcK Sts OpenW StW Sts2 StX Kep Stp Stp2 Stp3 Stp4 Deed Doo Dra1 Dra2 Rf4 Rf5 Rf6 Rf7 Op3 Op4 Op5 Ref19 Rf8 Snd2 Snd3 Snd4 Snd5 Snd6 Snd7 Rf9 Rf10 Grw Con Kit KitBytes QuoteWalk1 Builder QuoteWalk2. No condition beyond what each theorem states. -/
import Derived.Test.YtlkjpfiancahiaaGreatDoorRmsLeadsKc
import Derived.ProofKit
import Derived.Deep.Slices
import Derived.Deep.Fields
import Derived.ChangeSame
import Derived.ChangeOld
import Derived.Lib.SmallJoins
import Derived.Lib.LaidU8
import Derived.OpenShut
import Derived.FnData
import Derived.Lib.Bytealg
import Derived.WalkKit
import Derived.Lib.Hide
import Derived.Lib.Join
import Derived.Deep.Draws
import Derived.Lib.SlBytesRow
import Derived.StillTailTactics
import Derived.Test.YtlkjpfiancahiaaGreatDoorProg
import Derived.WalkLawsBesides
import Derived.WalkSpells
import Derived.Shelf.Strings.Builder1
import Derived.Shelf.Strings.BuilderF
set_option linter.unusedVariables false
set_option linter.unusedSimpArgs false
set_option linter.unusedSectionVars false
set_option maxRecDepth 100000
set_option maxHeartbeats 4000000
namespace Go.Proofs.YtlkjpfiancahiaaGreatDoor.Vcg
section
open Go.RowKit
def zcC (xs:List (List UInt8)):Int:=match xs.findIdx? (fun x=>!may x) with | some i=>(i:Int) | none=>-1
theorem ziQ (xs:List (List UInt8)):decide (0<=zcC xs) = !xs.all may:=by
 unfold zcC
 cases h:xs.findIdx? (fun x=>!may x) with
 | none =>
  have:=List.findIdx?_eq_none_iff.1 h
  have h2:xs.all may=true:=List.all_eq_true.2 fun x hx=>by simpa using this x hx
  rw[h2];rfl
 | some i =>
  have h1:=List.findIdx?_eq_some_iff_getElem.1 h
  obtain ⟨hi,hp,_⟩:=h1
  have h2:xs.all may=false:=List.all_eq_false.2 ⟨xs[i],List.getElem_mem hi,by simpa using hp⟩
  rw[h2];simp
theorem GX (xs:List (List UInt8)) (hx:xs.length<=1000001) (hl:∀ x∈xs,x.length<=1000000):Fun Tryz.prog G0 261 [.sl 1 (zQ xs),.clo (.func 238) [] []] (.sc (.int .i64 (zcC xs))) 0:=by
 refine fon Tryz.func261 ?_;dsimp only[Tryz.f261]
 push_cast -dsimp
 refine loop (fun k:Nat=>⟨[(0,.sl 1 (zQ xs)),(1,.clo (.func 238) [] []),(7,.sc (.int .i64 (xs.length:Int))),(8,.sc (.int .i64 k))],[],0,0⟩) (fun k=>k<=xs.length/\∀ j (hj:j<xs.length),j<k->may (xs[j]'hj)=true) (fun k=>xs.length-k) 0 ⟨Nat.zero_le _,fun j _ hj=>by omega⟩ ?_ ?_
 ·exact wk
 ·intro k hk
  have hk1:=hk.1
  have hk2:=hk.2
  by_cases h:k<xs.length
  ·have hg:(zQ xs)[k]?=some [.str (xs[k]'h)]:=by rw[strs_get?,List.getElem?_eq_getElem h];rfl
   push_cast -dsimp [h,hg]
   refine ⟨by omega,?_⟩
   refine call (zbe (xs[k]'h) (hl _ (List.getElem_mem h))) ?_
   push_cast -dsimp
   cases hm:may (xs[k]'h) with
   | true =>
    push_cast -dsimp
    refine ⟨by omega,k+1,⟨by omega,fun j hj hjk=>?_⟩,by omega,wk⟩
    rcases Nat.lt_or_ge j k with g | g
    ·exact hk2 j hj g
    ·have:j=k:=by omega
     subst this;exact hm
   | false =>
    push_cast -dsimp
    refine ⟨[],rfl,rfl,?_⟩
    push_cast -dsimp [zb,za,CLe,zd]
    have:xs.findIdx? (fun x=>!may x)=some k:=List.findIdx?_eq_some_iff_getElem.2 ⟨h,by simp[hm],fun j hj=>by simp[hk2 j (by omega) hj]⟩
    simp[zcC,this]
  ·push_cast -dsimp [h]
   refine ⟨[],rfl,rfl,?_⟩
   push_cast -dsimp [zb,za,CLe,zd]
   have:xs.findIdx? (fun x=>!may x)=none:=List.findIdx?_eq_none_iff.2 fun x hx=>by
    obtain ⟨j,hj,rfl⟩:=List.getElem_of_mem hx
    simp[hk2 j hj (by omega)]
   simp[zcC,this]
theorem VG (xs:List (List UInt8)) (hx:xs.length<=1000001) (hl:∀ x∈xs,x.length<=1000000):Fun Tryz.prog G0 237 [.sl 1 (zQ xs),.clo (.func 238) [] []] (qt (!xs.all may)) 0:=by
 have h:=ziQ xs
 refine fon Tryz.func237 ?_;dsimp only[Tryz.f237]
 push_cast -dsimp
 refine call (GX xs hx hl) ?_
 push_cast -dsimp
 exact dn (by push_cast -dsimp [zb,za,CLe,zd,h])
def Jc (p:List UInt8):Bool:=decide (zS (zk p)=p)&&(zk p).all may
def JL (p:List UInt8):C:=.tup [.own 0 9 1 (zQ (if Jc p then zk p else [])),qt (Jc p)]
theorem jf (x y:List UInt8) (r:List (List UInt8)) (sep:List UInt8):Lib.join (x :: y :: r) sep=x++sep++Lib.join (y :: r) sep:=by
 simp[Lib.join,List.intercalate,List.intersperse]
theorem YN:∀ xs:List (List UInt8),xs≠[]->(Lib.join xs [47]).length+1=(xs.map fun x=>x.length+1).sum
 | [],h=>absurd rfl h
 | [x],_=>by simp[Lib.join]
 | x :: y :: r,_=>by
  have ih:=YN (y :: r) (by simp)
  rw[jf]
  simp only[List.length_append,List.length_cons,List.length_nil,List.map_cons,List.sum_cons]at ih ⊢
  omega
theorem vf:∀ l:List UInt8,((jG l).map fun x=>x.length+1).sum=l.length+1
 | []=>rfl
 | b :: l=>by
  have ih:=vf l
  unfold jG
  split
  ·simp only[List.map_cons,List.sum_cons,List.length_nil,List.length_cons,ih];omega
  ·cases h:jG l with
   | nil=>exact absurd h (Hj l)
   | cons x r =>
    rw[h]at ih
    simp only[List.map_cons,List.sum_cons,List.length_cons]at ih ⊢
    omega
theorem ZD (f:List UInt8->Bool):∀ xs:List (List UInt8),((xs.filter f).map fun x=>x.length+1).sum<=(xs.map fun x=>x.length+1).sum
 | []=>by simp
 | x :: r=>by
  have ih:=ZD f r
  rw[List.filter_cons]
  split
  ·simp only[List.map_cons,List.sum_cons];omega
  ·simp only[List.map_cons,List.sum_cons];omega
theorem zcJ:∀ (xs:List (List UInt8)) (x:List UInt8),x∈xs->x.length+1<=(xs.map fun x=>x.length+1).sum
 | y :: r,x,h=>by
  simp only[List.map_cons,List.sum_cons]
  rcases List.mem_cons.1 h with rfl | h
  ·omega
  ·have:=zcJ r x h;omega
theorem ML (l:List UInt8):(Lib.join (zk l) [47]).length<=l.length/\∀ x∈zk l,x.length<=l.length:=by
 have h1:=vf l
 have h2:=ZD (fun x=>!decide (x = [])) (jG l)
 rw[←jR]at h2
 refine ⟨?_,fun x hx=>?_⟩
 ·by_cases h:zk l = []
  ·rw[h];simp[Lib.join]
  ·have:=YN (zk l) h;omega
 ·have:=zcJ (zk l) x hx;omega
theorem MB (p:List UInt8) (hp:p.length<=1000000):Fun Tryz.prog G0 210 [.str p] (JL p) 1:=by
 have hz:=qo p
 have hj:=ML p
 by_cases h1:zS (zk p)=p
 ·have h1':(p=zS (zk p)):=h1.symm
  refine fon Tryz.func210 ?_;dsimp only[Tryz.f210]
  push_cast -dsimp
  refine call (JF p) ?_
  push_cast -dsimp
  refine call (Xu p hp) ?_
  push_cast -dsimp
  refine call (XC (zk p) (by omega) (by omega)) ?_
  push_cast -dsimp [h1]
  refine call (VG (zk p) (by omega) fun x hx=>by have:=hj.2 x hx;omega) ?_
  push_cast -dsimp
  cases hm:(zk p).all may with
  | true =>
   push_cast -dsimp
   exact ⟨[.inl 0],rfl,rfl,by simp only[JL,Jc,h1,hm];push_cast -dsimp [zb,za,CLe,zd]<;>simp⟩
  | false =>
   push_cast -dsimp
   exact ⟨[.inr (9,1)],rfl,rfl,by simp only[JL,Jc,h1,hm];push_cast -dsimp [zb,za,CLe,zd]<;>simp⟩
 ·refine fon Tryz.func210 ?_;dsimp only[Tryz.f210]
  push_cast -dsimp
  refine call (JF p) ?_
  push_cast -dsimp
  refine call (Xu p hp) ?_
  push_cast -dsimp
  refine call (XC (zk p) (by omega) (by omega)) ?_
  push_cast -dsimp [h1]
  exact ⟨[.inr (9,1)],rfl,rfl,by simp only[JL,Jc,h1];push_cast -dsimp [zb,za,CLe,zd]<;>simp⟩
end
section
open Go.RowKit
theorem znJ (l:List UInt8) (b:UInt8) (h:l[0]?=some b):Lib.hasPrefix l [47]=decide ((b.toNat:Int)=47):=by
 cases l with
 | nil=>simp at h
 | cons x r =>
  simp at h;subst h
  unfold Lib.hasPrefix
  by_cases h:x=47
  ·subst h;rfl
  ·have h2:¬((x.toNat:Int)=47):=NG h
   have h3:¬(47=x):=fun e=>h e.symm
   simp[List.isPrefixOf,h2,h3]
theorem zoD (l:List UInt8) (b:UInt8) (h:l[l.length-1]?=some b):Lib.hasSuffix l [47]=decide ((b.toNat:Int)=47):=by
 have hne:l≠[]:=fun e=>by subst e;simp at h
 have hl:l=l.take (l.length-1)++[b]:=by
  have hlt:l.length-1<l.length:=by have:=List.length_pos_iff.2 hne;omega
  have:=List.take_append_drop (l.length-1) l
  rw[List.drop_eq_getElem_cons hlt]at this
  rw[List.getElem?_eq_getElem hlt]at h
  cases h
  rw[List.drop_eq_nil_of_le (by omega)]at this
  exact this.symm
 rw[hl]
 unfold Lib.hasSuffix
 by_cases h:b=47
 ·subst h
  have:([47]:List UInt8) <:+ l.take (l.length-1)++[47]:=List.suffix_append _ _
  rw[List.isSuffixOf_iff_suffix.2 this];rfl
 ·have h2:¬((b.toNat:Int)=47):=NG h
  have h3:¬([47]:List UInt8) <:+ l.take (l.length-1)++[b]:=fun ⟨t,ht⟩=>by
   have:=List.append_inj_right' ht rfl
   simp at this
   exact h this.symm
  have h4:([47]:List UInt8).isSuffixOf (l.take (l.length-1)++[b])=false:=by
   rw[Bool.eq_false_iff];exact fun e=>h3 (List.isSuffixOf_iff_suffix.1 e)
  rw[h4];simp[h2]
theorem zfk:zk [] = []:=rfl
theorem NJ (xs:List (List UInt8)) (k:Nat) (x:List UInt8) (h:xs[k]?=some x):Lib.join (xs.take (k+1)) [47]=(if k=0 then x else Lib.join (xs.take k) [47]++[47]++x):=by
 cases xs with
 | nil=>simp at h
 | cons y r =>
  cases k with
  | zero=>simp at h;subst h;simp[Lib.join_one]
  | succ k =>
   simp only[List.take_succ_cons,Nat.succ_ne_zero,if_false]
   rw[Lib.join_cons,Lib.join_cons,Lib.joinTail_take_succ _ _ _ x (by simpa using h)]
   simp[List.append_assoc]
theorem zni (xs:List (List UInt8)) (k:Nat):(Lib.join (xs.take k) [47]).length<=(Lib.join xs [47]).length:=by
 by_cases h:xs.take k = []
 ·rw[h];simp[Lib.join]
 ·have h1:=YN (xs.take k) h
  have hx:xs≠[]:=fun e=>h (by rw[e];simp)
  have h2:=YN xs hx
  have h3:((xs.take k).map fun x=>x.length+1).sum<=(xs.map fun x=>x.length+1).sum:=by
   conv=>rhs;rw[←List.take_append_drop k xs,List.map_append,List.sum_append]
   omega
  omega
theorem zbd (xs:List (List UInt8)) (k:Nat) (x:List UInt8) (h:xs[k]?=some x):(if xs.take (k+1) = [] then [] else zS (xs.take (k+1)))=(if xs.take k = [] then [] else zS (xs.take k))++[47]++x:=by
 have hk:k<xs.length:=(List.getElem?_eq_some_iff.1 h).1
 have h1:xs.take (k+1)≠[]:=fun e=>by have:=congrArg List.length e;rw[List.length_take]at this;simp only[List.length_nil]at this;omega
 rw[if_neg h1]
 unfold zS
 rw[if_neg h1,NJ xs k x h]
 by_cases hk0:k=0
 ·subst hk0;simp
 ·have h2:xs.take k≠[]:=fun e=>by have:=congrArg List.length e;rw[List.length_take]at this;simp only[List.length_nil]at this;omega
  simp[h2,hk0]
def jst (xs:List (List UInt8)) (k:Nat):List UInt8:=if xs.take k = [] then [] else zS (xs.take k)
theorem zdL (xs:List (List UInt8)) (k:Nat):(jst xs k).length<=(Lib.join xs [47]).length+1:=by
 unfold jst
 split
 ·simp
 ·rename_i h
  have:=zni xs k
  unfold zS
  rw[if_neg h]
  simp;omega
theorem xO (xs:List (List UInt8)) (hx:xs.length<=2000001) (hl:(Lib.join xs [47]).length<=100000000):Fun Tryz.prog G0 49 [.sl 1 (zQ xs)] (.str (zS xs)) 0:=by
 by_cases h0:xs = []
 ·subst h0
  refine fon Tryz.func49 ?_;dsimp only[Tryz.f49]
  push_cast -dsimp
  exact ⟨[],rfl,rfl,by push_cast -dsimp [zb,za,CLe,zd]<;>simp[zS]⟩
 ·have h0':¬((xs.length:Int)=0):=by have:=List.length_pos_iff.2 h0;omega
  refine fon Tryz.func49 ?_;dsimp only[Tryz.f49]
  push_cast -dsimp [h0']
  refine loop (fun k:Nat=>⟨[(0,.sl 1 (zQ xs)),(3,.str (jst xs k)),(4,.sc (.int .i64 k))],[],0,0⟩) (fun k=>k<=xs.length) (fun k=>xs.length-k) 0 (Nat.zero_le _) ?_ ?_
  ·exact Ji.mk [] rfl rfl (Nat.zero_le _) rfl (by push_cast -dsimp [zb,za,CLe,zd]<;>simp[jst]) (by push_cast -dsimp [zb,za,CLe,zd])
  ·intro k hk
   by_cases h:k<xs.length
   ·have hg:=Qx xs k h
    have hst:jst xs (k+1)=jst xs k++[47]++xs[k]'h:=zbd xs k (xs[k]'h) (List.getElem?_eq_getElem h)
    have hjk:=zdL xs k
    have hjl:=zdL xs (k+1)
    rw[hst]at hjl
    simp only[List.length_append,List.length_cons,List.length_nil]at hjl
    push_cast -dsimp [h,hg]
    repeat refine an ?_
    refine ⟨k+1,by omega,by omega,Ji.mk [] rfl rfl (Nat.zero_le _) rfl ?_ (by push_cast -dsimp [zb,za,CLe,zd])⟩
    push_cast -dsimp [zb,za,CLe,zd]
    simp[hst]
   ·have hkl:k=xs.length:=by omega
    push_cast -dsimp [h]
    exact ⟨[],rfl,rfl,by push_cast -dsimp [zb,za,CLe,zd]<;>simp[jst,hkl,h0]⟩
theorem Hl (l:List UInt8) (hl:l.length<=2000000):Fun Tryz.prog G0 48 [.str l] (qt (may l)) 0:=by
 refine fon Tryz.func48 ?_;dsimp only[Tryz.f48]
 push_cast -dsimp
 refine loop (fun k:Nat=>⟨[(0,.str l),(3,.sc (.int .i64 k))],[],0,0⟩) (fun k=>k<=l.length/\∀ j (hj:j<l.length),j<k->bad (l[j]'hj)=false) (fun k=>l.length-k) 0 ⟨Nat.zero_le _,fun j _ hj=>by omega⟩ ?_ ?_
 ·exact wk
 ·intro k hk
  have hk1:=hk.1
  have hk2:=hk.2
  by_cases h:k<l.length
  ·have hb:l[k]?=some (l[k]'h):=List.getElem?_eq_getElem h
   have hbad:bad (l[k]'h)=true->may l=false:=fun hb=>by
    have:l.any bad=true:=List.any_eq_true.2 ⟨l[k]'h,List.getElem_mem h,hb⟩
    simp[may,this]
   by_cases h47:l[k]'h=47
   ·have h1:(((l[k]'h).toNat:Int)=47):=by rw[h47];rfl
    push_cast -dsimp [h,hb,h1]
    refine ⟨by omega,[],rfl,rfl,?_⟩
    push_cast -dsimp [zb,za,CLe,zd]
    rw[hbad (by simp[bad,h47])]
   ·have h1:¬(((l[k]'h).toNat:Int)=47):=NG h47
    by_cases h00:l[k]'h=0
    ·have h2:(((l[k]'h).toNat:Int)=0):=by rw[h00];rfl
     push_cast -dsimp [h,hb,h1,h2]
     refine ⟨by omega,by omega,[],rfl,rfl,?_⟩
     push_cast -dsimp [zb,za,CLe,zd]
     rw[hbad (by simp[bad,h00])]
    ·have h2:¬(((l[k]'h).toNat:Int)=0):=NG h00
     push_cast -dsimp [h,hb,h1,h2]
     repeat refine an ?_
     refine ⟨k+1,⟨by omega,fun j hj hjk=>?_⟩,by omega,wk⟩
     rcases Nat.lt_or_ge j k with g | g
     ·exact hk2 j hj g
     ·have:j=k:=by omega
      subst this
      simp[bad,h47,h00]
  ·have hany:l.any bad=false:=List.any_eq_false.2 fun x hx=>by
    obtain ⟨j,hj,rfl⟩:=List.getElem_of_mem hx
    simp[hk2 j hj (by omega)]
   obtain rfl:k=l.length:=by omega
   by_cases h0:l = []
   ·subst h0
    push_cast -dsimp
    exact ⟨[],rfl,rfl,by push_cast -dsimp [zb,za,CLe,zd]<;>simp[may]⟩
   ·have h1:(1:Int)<=(l.length:Int):=by have:=List.length_pos_iff.2 h0;omega
    by_cases h2:(l.length:Int)<=255
    ·have h2':l.length<=255:=by omega
     by_cases h4:l = [46]
     ·subst h4
      push_cast -dsimp
      exact ⟨[],rfl,rfl,by push_cast -dsimp [zb,za,CLe,zd]<;>simp[may]⟩
     ·by_cases h5:l = [46,46]
      ·subst h5
       push_cast -dsimp [h4]
       exact ⟨[],rfl,rfl,by push_cast -dsimp [zb,za,CLe,zd]<;>simp[may]⟩
      ·push_cast -dsimp [h,h1,h2,h4,h5]
       exact ⟨[],rfl,rfl,by push_cast -dsimp [zb,za,CLe,zd]<;>simp[may,h0,h2',hany,h4,h5]⟩
    ·have h2':¬l.length<=255:=by omega
     push_cast -dsimp [h,h1,h2]
     exact ⟨[],rfl,rfl,by push_cast -dsimp [zb,za,CLe,zd]<;>simp[may,h2']⟩
def J0 (p q:List UInt8):Bool:=decide ((zk p).take (zk q).length=zk q)
theorem Vg (p q:List UInt8) (hp:p.length<=100000) (hq:q.length<=100000):Fun Tryz.prog G0 91 [.str p,.str q] (qt (J0 p q)) 0:=by
 have hn:=Uk p (by omega)
 have hm:=Uk q (by omega)
 have hs:=qo p
 have ht:=qo q
 by_cases h:(zk p).length<(zk q).length
 ·refine fon Tryz.func91 ?_;dsimp only[Tryz.f91]
  push_cast -dsimp
  refine call hn ?_
  push_cast -dsimp
  refine call hm ?_
  push_cast -dsimp [h]
  refine ⟨[],rfl,rfl,?_⟩
  push_cast -dsimp [zb,za,CLe,zd]
  have:¬(zk p).take (zk q).length=zk q:=fun e=>by have:=congrArg List.length e;rw[List.length_take]at this;omega
  simp[J0,this]
 ·refine fon Tryz.func91 ?_;dsimp only[Tryz.f91]
  push_cast -dsimp
  refine call hn ?_
  push_cast -dsimp
  refine call hm ?_
  push_cast -dsimp [h]
  refine loop (fun k:Nat=>⟨[(5,.own 0 9 1 (zQ (zk p))),(6,.own 1 9 1 (zQ (zk q))),(7,.sc (.int .i64 k))],[],2,0⟩) (fun k=>k<=(zk q).length/\(zk p).take k=(zk q).take k) (fun k=>(zk q).length-k) 0 ⟨Nat.zero_le _,rfl⟩ ?_ ?_
  ·exact wks [.inl 0,.inl 1]
  ·intro k hk
   have hk1:=hk.1
   have hk2:=hk.2
   by_cases h3:k<(zk q).length
   ·have hg1:=Qx (zk p) k (by omega)
    have hg2:=Qx (zk q) k h3
    by_cases he:(zk p)[k]'(by omega)=(zk q)[k]'h3
    ·push_cast -dsimp [h3,hg1,hg2,he]
     repeat refine an ?_
     refine ⟨k+1,⟨by omega,?_⟩,by omega,wks [.inl 0,.inl 1]⟩
     rw[List.take_add_one,List.take_add_one,hk2,List.getElem?_eq_getElem h3,List.getElem?_eq_getElem (by omega:k<(zk p).length),he]
    ·push_cast -dsimp [h3,hg1,hg2,he]
     repeat refine an ?_
     refine ⟨[],rfl,rfl,?_⟩
     push_cast -dsimp [zb,za,CLe,zd]
     have:¬(zk p).take (zk q).length=zk q:=fun e=>he (by
      have:=congrArg (·[k]?) e
      simp only[List.getElem?_take,if_pos h3]at this
      rw[List.getElem?_eq_getElem (by omega),List.getElem?_eq_getElem h3]at this
      exact Option.some.inj this)
     simp[J0,this]
   ·have hkl:k=(zk q).length:=by omega
    push_cast -dsimp [h3]
    refine ⟨[],rfl,rfl,?_⟩
    push_cast -dsimp [zb,za,CLe,zd]
    rw[hkl,List.take_length]at hk2
    simp[J0,hk2]
theorem XS (p:List UInt8) (hp:p.length<=2000000):Fun Tryz.prog G0 21 [.str p] (JL p) 1:=by
 have hn:=Uk p (by omega)
 have hs:=qo p
 have hj:=ML p
 refine fon Tryz.func21 ?_;dsimp only[Tryz.f21]
 push_cast -dsimp
 refine call hn ?_
 push_cast -dsimp
 refine loop (fun k:Nat=>⟨[(0,.str p),(4,.own 0 9 1 (zQ (zk p))),(5,.sc (.int .i64 k))],[],1,0⟩) (fun k=>k<=(zk p).length/\∀ j (hj:j<(zk p).length),j<k->may ((zk p)[j]'hj)=true) (fun k=>(zk p).length-k) 0 ⟨Nat.zero_le _,fun j _ hj=>by omega⟩ ?_ ?_
 ·exact wks [.inl 0]
 ·intro k hk
  have hk1:=hk.1
  have hk2:=hk.2
  by_cases h:k<(zk p).length
  ·have hg:=Qx (zk p) k h
   have hlen:=hj.2 ((zk p)[k]'h) (List.getElem_mem h)
   push_cast -dsimp [h,hg]
   refine ⟨by omega,?_⟩
   refine call (Hl ((zk p)[k]'h) (by omega)) ?_
   push_cast -dsimp
   cases hm:may ((zk p)[k]'h) with
   | true =>
    push_cast -dsimp
    repeat refine an ?_
    refine ⟨k+1,⟨by omega,fun j hj hjk=>?_⟩,by omega,wks [.inl 0]⟩
    rcases Nat.lt_or_ge j k with g | g
    ·exact hk2 j hj g
    ·have:j=k:=by omega
     subst this;exact hm
   | false =>
    have hall:(zk p).all may=false:=List.all_eq_false.2 ⟨(zk p)[k]'h,List.getElem_mem h,by simp[hm]⟩
    push_cast -dsimp
    exact ⟨[.inr (9,1)],rfl,rfl,by simp only[JL,Jc,hall];push_cast -dsimp [zb,za,CLe,zd]<;>simp⟩
  ·have hall:(zk p).all may=true:=List.all_eq_true.2 fun x hx=>by
    obtain ⟨j,hj,rfl⟩:=List.getElem_of_mem hx
    exact hk2 j hj (by omega)
   push_cast -dsimp [h]
   refine call (xO (zk p) (by omega) (by omega)) ?_
   push_cast -dsimp
   by_cases h1:zS (zk p)=p
   ·push_cast -dsimp [h1]
    exact ⟨[.inl 0],rfl,rfl,by simp only[JL,Jc,h1,hall];push_cast -dsimp [zb,za,CLe,zd]<;>simp⟩
   ·push_cast -dsimp [h1]
    exact ⟨[.inr (9,1)],rfl,rfl,by simp only[JL,Jc,h1];push_cast -dsimp [zb,za,CLe,zd]<;>simp⟩
end
section
open Go.RowKit
def Xe (x:List UInt8):Prop:=x≠[]/\(47:UInt8)∉x
theorem zcX:∀ a t:List UInt8,jG (a++47 :: t)=jG a++jG t
 | [],t=>by
  have:jG (47 :: t) = [] :: jG t:=rfl
  exact this
 | b :: a,t=>by
  have ih:=zcX a t
  have e1:jG (b :: (a++47 :: t))=if b=47 then [] :: jG (a++47 :: t) else match jG (a++47 :: t) with
   | []=>[[b]]
   | x :: r=>(b :: x) :: r:=rfl
  have e2:jG (b :: a)=if b=47 then [] :: jG a else match jG a with
   | []=>[[b]]
   | x :: r=>(b :: x) :: r:=rfl
  rw[List.cons_append,e1,e2,ih]
  by_cases hb:b=47
  ·simp[hb]
  ·rw[if_neg hb,if_neg hb]
   have hne:=Hj a
   cases hs:jG a with
   | nil=>exact absurd hs hne
   | cons x r=>simp
theorem zdC:∀ x:List UInt8,(47:UInt8)∉x->jG x = [x]
 | [],_=>rfl
 | b :: x,h=>by
  have hb:¬(b=47):=fun e=>h (by rw[e];exact List.mem_cons_self)
  have ih:=zdC x (fun hx=>h (List.mem_cons_of_mem _ hx))
  unfold jG
  rw[if_neg hb,ih]
theorem zeP:∀ (l x:List UInt8),x∈jG l->(47:UInt8)∉x
 | [],x,h=>by simp[jG]at h;subst h;simp
 | b :: l,x,h=>by
  have ih:=zeP l
  unfold jG at h
  by_cases hb:b=47
  ·rw[if_pos hb]at h
   rcases List.mem_cons.1 h with rfl | h
   ·simp
   ·exact ih x h
  ·rw[if_neg hb]at h
   have hne:=Hj l
   cases hs:jG l with
   | nil=>exact absurd hs hne
   | cons y r =>
    rw[hs]at h ih
    simp only at h
    rcases List.mem_cons.1 h with rfl | h
    ·intro hm
     rcases List.mem_cons.1 hm with e | hm
     ·exact hb e.symm
     ·exact ih y List.mem_cons_self hm
    ·exact ih x (List.mem_cons_of_mem _ h)
theorem ki {l x:List UInt8} (h:x∈zk l):Xe x:=by
 rw[jR,List.mem_filter]at h
 exact ⟨by simpa using h.2,zeP l x h.1⟩
theorem Zi (a t:List UInt8):zk (a++47 :: t)=zk a++zk t:=by
 rw[jR,jR,jR,zcX,List.filter_append]
theorem MN {x:List UInt8} (h:Xe x):zk x = [x]:=by
 rw[jR,zdC x h.2]
 simp[h.1]
theorem Qu (l:List UInt8):zk (47 :: l)=zk l:=Zi [] l
theorem Z7:∀ xs:List (List UInt8),(∀ x∈xs,Xe x)->zk (Lib.join xs [47])=xs
 | [],_=>rfl
 | [x],h=>by rw[Lib.join_one];exact MN (h x List.mem_cons_self)
 | x :: y :: r,h=>by
  have ih:=Z7 (y :: r) fun z hz=>h z (List.mem_cons_of_mem _ hz)
  rw[jf,List.append_assoc]
  show zk (x++47 :: Lib.join (y :: r) [47])=_
  rw[Zi,ih,MN (h x List.mem_cons_self)]
  rfl
theorem YS (xs:List (List UInt8)) (h:∀ x∈xs,Xe x):zk (zS xs)=xs:=by
 unfold zS
 by_cases hx:xs = []
 ·rw[if_pos hx,hx];rfl
 ·rw[if_neg hx,Qu,Z7 xs h]
theorem zgk (a:Bool) (xs:List (List UInt8)) (s:Bool) (h:∀ x∈xs,Xe x):zk (put a xs s)=xs:=by
 have hj:=Z7 xs h
 unfold put
 have e1:∀ t:List UInt8,zk ((if a then [47] else [])++t)=zk t:=fun t=>by
  cases a
  ·rfl
  ·exact Qu t
 rw[List.append_assoc,e1]
 split
 ·rw[show Lib.join xs [47]++[47]=Lib.join xs [47]++47 :: [] from rfl,Zi,hj]
  simp[zfk]
 ·rw[List.append_nil,hj]
theorem V4 (b:UInt8) (l:List UInt8):Lib.hasPrefix (b :: l) [47]=decide (b=47):=by
 have:=znJ (b :: l) b rfl
 rw[this]
 by_cases h:b=47
 ·subst h;rfl
 ·have h2:¬((b.toNat:Int)=47):=NG h
  simp[h,h2]
theorem zm3:Lib.hasPrefix [] [47]=false:=rfl
theorem zgr (x:List UInt8) (r:List (List UInt8)):∃ t,Lib.join (x :: r) [47]=x++t:=by
 cases r with
 | nil=>exact ⟨[],by rw[Lib.join_one];simp⟩
 | cons y r=>exact ⟨[47]++Lib.join (y :: r) [47],by rw[jf,List.append_assoc]⟩
theorem zmO (a:Bool) (xs:List (List UInt8)) (s:Bool) (h:∀ x∈xs,Xe x):Lib.hasPrefix (put a xs s) [47]=a:=by
 unfold put
 cases a
 ·cases xs with
  | nil=>simp[Lib.join,zm3]
  | cons x r =>
   obtain ⟨t,ht⟩:=zgr x r
   have hx:=h x List.mem_cons_self
   rw[ht]
   cases x with
   | nil=>exact absurd rfl hx.1
   | cons b x =>
    have:¬(b=47):=fun e=>hx.2 (by rw[e];exact List.mem_cons_self)
    simp[V4,this]
 ·simp[V4]
theorem vZ (l:List UInt8) (b:UInt8):Lib.hasSuffix (l++[b]) [47]=decide (b=47):=by
 have:=zoD (l++[b]) b (by simp)
 rw[this]
 by_cases h:b=47
 ·subst h;rfl
 ·have h2:¬((b.toNat:Int)=47):=NG h
  simp[h,h2]
theorem xm:∀ xs:List (List UInt8),xs≠[]->(∀ x∈xs,Xe x)->∃ t b,Lib.join xs [47]=t++[b]/\b≠47
 | [],h,_=>absurd rfl h
 | [x],_,h=>by
  have hx:=h x List.mem_cons_self
  refine ⟨x.dropLast,x.getLast hx.1,?_,fun e=>hx.2 ?_⟩
  ·rw[Lib.join_one,List.dropLast_concat_getLast]
  ·rw[←e];exact List.getLast_mem _
 | x :: y :: r,_,h=>by
  obtain ⟨t,b,e,hb⟩:=xm (y :: r) (by simp) fun z hz=>h z (List.mem_cons_of_mem _ hz)
  exact ⟨x++[47]++t,b,by rw[jf,e];simp,hb⟩
theorem MW (a:Bool) (xs:List (List UInt8)) (s:Bool) (h:∀ x∈xs,Xe x):(!decide (xs = [])&&Lib.hasSuffix (put a xs s) [47])=(s&&!decide (xs = [])):=by
 by_cases hx:xs = []
 ·simp[hx]
 ·unfold put
  cases s
  ·obtain ⟨t,b,e,hb⟩:=xm xs hx h
   have:=vZ ((if a then [47] else [])++t) b
   simp only[Bool.false_and,Bool.false_eq_true,if_false,List.append_nil,e]
   rw[←List.append_assoc,this]
   simp[hb]
  ·have:=vZ ((if a then [47] else [])++Lib.join xs [47]) 47
   simp only[hx,Bool.true_and,decide_false,Bool.not_false,if_true]
   rw[this];rfl
theorem zcb (p:List UInt8) (h:zk p = []):Lib.hasPrefix p [47] = !decide (p = []):=by
 cases p with
 | nil=>rfl
 | cons b l =>
  rw[V4]
  by_cases hb:b=47
  ·simp[hb]
  ·exfalso
   rw[jR]at h
   have hne:=Hj l
   have:∃ x r,jG (b :: l)=(b :: x) :: r:=by
    unfold jG
    rw[if_neg hb]
    cases hs:jG l with
    | nil=>exact absurd hs hne
    | cons x r=>exact ⟨x,r,rfl⟩
   obtain ⟨x,r,e⟩:=this
   rw[e]at h
   simp at h
theorem X1 {x:List UInt8} (h:may x=true):Xe x:=by
 simp only[may,Bool.and_eq_true,Bool.not_eq_true',decide_eq_false_iff_not]at h
 refine ⟨h.1.1.1.1,fun hm=>?_⟩
 have:=List.any_eq_false.1 h.1.1.2 47 hm
 exact this (by decide)
theorem zfB (xs zs:List (List UInt8)) (hx:xs≠[]) (hz:zs≠[]):zS (xs++zs)=zS xs++47 :: Lib.join zs [47]:=by
 unfold zS
 rw[if_neg hx,if_neg (by simp[hx])]
 simp only[List.cons_append,List.cons.injEq,true_and]
 induction xs with
 | nil=>exact absurd rfl hx
 | cons x r ih =>
  cases r with
  | nil =>
   cases zs with
   | nil=>exact absurd rfl hz
   | cons z zs=>simp only[List.cons_append,List.nil_append];rw[jf,Lib.join_one];simp
  | cons y r =>
   have:=ih (by simp)
   simp only[List.cons_append]at this ⊢
   rw[jf,jf,this]
   simp
theorem x5 (xs ys:List (List UInt8)) (hx:∀ x∈xs,Xe x) (hy:∀ y∈ys,Xe y):Xb (zS xs) (zS ys)=decide (xs.take ys.length=ys):=by
 have nx:=YS xs hx
 have ny:=YS ys hy
 rw[Bool.eq_iff_iff]
 simp only[decide_eq_true_eq,Xb,Bool.or_eq_true]
 constructor
 ·rintro ((h | h) | h)
  ·have:xs=ys:=by rw[←nx,←ny,h]
   rw[this,List.take_length]
  ·have:ys = []:=by rw[←ny,h];rfl
   rw[this];rfl
  ·unfold Lib.hasPrefix at h
   obtain ⟨t,ht⟩:=List.isPrefixOf_iff_prefix.1 h
   have:xs=ys++zk t:=by
    rw[←nx,←ht,List.append_assoc]
    show zk (zS ys++47 :: t)=_
    rw[Zi,ny]
   rw[this,List.take_left]
 ·intro h
  have e:xs=ys++xs.drop ys.length:=by
   conv=>lhs;rw[←List.take_append_drop ys.length xs,h]
  by_cases hys:ys = []
  ·exact .inl (.inr (by rw[hys];rfl))
  ·by_cases hd:xs.drop ys.length = []
   ·refine .inl (.inl ?_)
    rw[hd,List.append_nil]at e
    rw[e]
   ·refine .inr ?_
    rw[e,zfB _ _ hys hd]
    unfold Lib.hasPrefix
    refine List.isPrefixOf_iff_prefix.2 ⟨Lib.join (xs.drop ys.length) [47],?_⟩
    simp
theorem U0 {p:List UInt8} (h:Jc p=true):zS (zk p)=p:=by
 unfold Jc at h
 simp only[Bool.and_eq_true,decide_eq_true_eq]at h
 exact h.1
theorem yF (p q:List UInt8) (hp:Jc p=true) (hq:Jc q=true):Xb p q=J0 p q:=by
 have h:=x5 (zk p) (zk q) (fun x hx=>ki hx) (fun x hx=>ki hx)
 rw[U0 hp,U0 hq]at h
 exact h
end
section
open Go.RowKit Go.ChangeMaps Go.ChangeShapes Go.WideShapes Go.Deep Go.Joins
theorem vi (R:Env):Xd G0 R:=fun g cs h=>by cases h
theorem VD:∀ {rows:List (List C)},(∀ r∈rows,∃ c,r = [c]/\∃ l:List UInt8,c = .str l/\l.length<=maxLen)->∃ xs:List (List UInt8),rows=zQ xs/\∀ x∈xs,x.length<=maxLen
 | [],_=>⟨[],rfl,fun x h=>by cases h⟩
 | r :: rows,h=>by
  obtain ⟨xs,rfl,hx⟩:=VD fun r' hr=>h r' (List.mem_cons_of_mem _ hr)
  obtain ⟨c,rfl,l,rfl,hl⟩:=h r List.mem_cons_self
  exact ⟨l :: xs,rfl,fun x hx'=>(List.mem_cons.1 hx').elim (fun e=>e▸hl) (hx x)⟩
section
variable {H:Type} {enc:TypeId×Value->H} {W:World}
theorem ziN:Opn enc Tryz.prog W 30 fun c=>∃ xs:List (List UInt8),c = .sl 1 (zQ xs)/\xs.length<=maxLen/\∀ x∈xs,x.length<=maxLen:=fun fuel cs x hx=>by
 obtain ⟨v,c,rfl,⟨rows,rfl,hl,hr⟩,h1,h2⟩:=Opn.slice (W:=W) (enc:=enc) Tryz.underlying30 (show Tryz.prog.cellsOf 9=1 by kernel_rfl) (Nat.zero_lt_one) (ja.one (Opn.str Tryz.underlying9)) fuel cs x hx
 obtain ⟨xs,rfl,hx'⟩:=VD hr
 exact ⟨v,_,rfl,⟨xs,rfl,by simpa using hl,hx'⟩,h1,h2⟩
end
end
section
open Go.RowKit
mutual
/-- the cells that read as a datum of Jc data -/
def ZV:DataW Unit->Option (List Value)
 | .lit (.int k n)=>some [.int k n]
 | .lit (.bool b)=>some [.bool b]
 | .lit (.string l)=>some [.string ⟨l.toArray⟩]
 | .agg ds=>U7 ds
 | _=>none
def U7:List (DataW Unit)->Option (List Value)
 | []=>some []
 | d :: ds=>match ZV d,U7 ds with
  | some a,some b=>some (a++b)
  | _,_=>none
end
def xp (P:Program):Nat->List Field->Nat->Bool
 | j,[],n=>j==n
 | j,f :: fs,n=>f.offset==j&&xp P (j+P.cellsOf f.type) fs n
def Ul (P:Program):Nat->TypeId->Bool
 | 0,_=>false
 | m+1,t=>match P.underlying t with
  | some .bool=>true
  | some (.int _)=>true
  | some .string=>true
  | some (.struct fs)=>xp P 0 fs.toList (P.cellsOf t)&&fs.toList.all fun f=>Ul P m f.type
  | some (.array n e)=>Ul P m e&&P.cellsOf t==n*P.cellsOf e
  | _=>false
section
variable {enc:TypeId×Value->Unit} {P:Program} {w:World} {base:Nat} {spare:Nat->Bool} {held:Bool}
theorem U4 {d:DataW Unit} {ds:List (DataW Unit)} {a b:List Value} (h1:ZV d=some a) (h2:U7 ds=some b):U7 (d :: ds)=some (a++b):=by
 rw[U7,h1,h2]
theorem Zx {n:Nat} {cs:List Value} (ih:∀ t cs d p,Ul P n t=true->DataW.trod enc P w base spare held n t cs=some (d,p)->ZV d=some cs) {m:Nat} (hm:∀ t cs d p,Ul P m t=true->DataW.trod enc P w base spare held n t cs=some (d,p)->ZV d=some cs) :
  ∀ (fs:List Field) (j N:Nat) (xs:List (DataW Unit×List MemPlace)),xp P j fs N=true->(fs.all fun f=>Ul P m f.type)=true->cs.length=N->xs.length=fs.length ->
   (∀ (i:Nat) (f:Field),fs[i]?=some f->DataW.trod enc P w base spare held n f.type ((cs.drop f.offset).take (P.cellsOf f.type))=xs[i]?)->U7 (xs.map (·.1))=some (cs.drop j)
 | [],j,N,xs,hc,_,hl,hx,_=>by
  simp only[xp,beq_iff_eq]at hc
  match xs,hx with
  | [],_=>rw[List.drop_of_length_le (by omega)];rfl
 | f :: fs,j,N,xs,hc,ha,hl,hx,hf=>by
  simp only[xp,Bool.and_eq_true,beq_iff_eq]at hc
  simp only[List.all_cons,Bool.and_eq_true]at ha
  match xs,hx with
  | x :: xs,hx =>
   have h0:=hf 0 f rfl
   have e0:ZV x.1=some ((cs.drop f.offset).take (P.cellsOf f.type)):=hm _ _ _ x.2 ha.1 h0
   have e1:=Zx ih hm fs _ N xs hc.2 ha.2 hl (by simpa using hx) fun i g hg=>hf (i+1) g hg
   rw[List.map_cons,U4 e0 e1,hc.1,←List.drop_drop,List.take_append_drop]
theorem VB {n:Nat} {e:TypeId} {cs:List Value}:∀ (N j:Nat) (xs:List (DataW Unit×List MemPlace)),(∀ cs d p,DataW.trod enc P w base spare held n e cs=some (d,p)->ZV d=some cs)->cs.length=(j+N)*P.cellsOf e->xs.length=N ->
   (∀ (i:Nat),i<N->DataW.trod enc P w base spare held n e ((cs.drop ((j+i)*P.cellsOf e)).take (P.cellsOf e))=xs[i]?)->U7 (xs.map (·.1))=some (cs.drop (j*P.cellsOf e))
 | 0,j,xs,_,hl,hx,_=>by
  match xs,hx with
  | [],_=>rw[List.drop_of_length_le (by simp at hl;omega)];rfl
 | N+1,j,xs,hm,hl,hx,hf=>by
  match xs,hx with
  | x :: xs,hx =>
   have e0:=hm _ _ x.2 (hf 0 (Nat.zero_lt_succ _))
   have e1:=VB N (j+1) xs hm (by rw[hl];congr 1;omega) (by simpa using hx) fun i hi=>by
    have:=hf (i+1) (by omega)
    rw[show j+(i+1)=j+1+i by omega]at this
    exact this
   rw[List.map_cons,U4 e0 e1,Nat.add_zero,show (j+1)*P.cellsOf e=j*P.cellsOf e+P.cellsOf e by rw[Nat.add_mul];omega,←List.drop_drop,List.take_append_drop]
theorem XG:∀ (n m:Nat) (t:TypeId) (cs:List Value) (d:DataW Unit) (p:List MemPlace),Ul P m t=true->DataW.trod enc P w base spare held n t cs=some (d,p)->ZV d=some cs
 | 0,m,t,cs,d,p,_,h=>by simp[DataW.trod]at h
 | n+1,0,t,cs,d,p,hf,h=>by simp[Ul]at hf
 | n+1,m+1,t,cs,d,p,hf,h=>by
  unfold Ul at hf
  split at hf
  ·rename_i hu
   obtain ⟨b,rfl,e⟩:=DataW.trod_bool hu h
   cases e;rfl
  ·rename_i k hu
   obtain ⟨b,rfl,e,_⟩:=DataW.trod_int hu h
   cases e;rfl
  ·rename_i hu
   obtain ⟨s,rfl,e,_⟩:=DataW.trod_string hu h
   cases e
   rw[ZV]
  ·rename_i fs hu
   simp only[Bool.and_eq_true]at hf
   obtain ⟨xs,n',hn,e,hl,hx,hg⟩:=DataW.trod_struct hu h
   cases hn;cases e
   have hrec:∀ t cs d p,Ul P m t=true->DataW.trod enc P w base spare held n t cs=some (d,p)->ZV d=some cs:=fun t cs d p=>XG n m t cs d p
   have:=Zx (n:=n) (fun t cs d p=>XG n n t cs d p) hrec fs.toList 0 _ xs hf.1 hf.2 hl (by rw[hx];rfl) fun i f hif=>hg i f (by simpa using hif)
   rw[List.drop_zero]at this
   rw[ZV,this]
  ·rename_i N e hu
   simp only[Bool.and_eq_true,beq_iff_eq]at hf
   obtain ⟨xs,n',hn,e',hl,hx,hg⟩:=DataW.trod_array hu h
   cases hn;cases e'
   have:=VB (n:=n) (e:=e) (cs:=cs) N 0 xs (fun cs d p=>XG n m e cs d p hf.1) (by rw[hl,hf.2,Nat.zero_add]) hx fun i hi=>by rw[Nat.zero_add];exact hg i hi
   rw[Nat.zero_mul,List.drop_zero]at this
   rw[ZV,this]
  ·cases hf
end
theorem H9 {W:World} {g:Nat}:∀ (vs:List Value) (o:Nat),(∀ (i:Nat) v,vs[i]?=some v->W.cell? ⟨g,o+i,none⟩=some v)->(vs.all fun v=>v.oneCell')=true->zJ (M5 W) (vs.map zy) g o:=fun vs o h ho=>by
 refine zY fun i c hc=>?_
 rw[List.getElem?_map,Option.map_eq_some_iff]at hc
 obtain ⟨v,hv,rfl⟩:=hc
 exact ⟨v,h i v hv,fun hf=>hf,jn _ _ v,List.all_eq_true.1 ho v (List.mem_of_getElem? hv)⟩
theorem GC {P:Program} {W:World} {l:List (String×DataW Unit)} (h:laidMetH P l W) (hp:(l.filter fun x=>x.2.handleName?.isSome) = []) {n:String} {d:DataW Unit} (hm:(n,d)∈l) {g:Nat} {t:TypeId} {m:Nat} {vs:List Value}
  (hg:P.globalNamed n=some g) (ht:(P.globals[g]?).map (·.type)=some t) (hf:Ul P m t=true) (hd:ZV d=some vs) (ho:(vs.all fun v=>v.oneCell')=true):zJ (M5 W) (vs.map zy) g 0:=by
 unfold laidMetH at h
 rw[hp]at h
 obtain ⟨g',t',cs,fuel,p,hg',ht',hvar,htr⟩:=Lib.laidMet.reads h hm
 rw[hg]at hg';cases hg'
 rw[ht]at ht';cases ht'
 have e:=XG _ _ _ _ _ _ hf htr
 have e':vs=cs.toList:=Option.some.inj (hd.symm.trans e)
 subst e'
 refine H9 _ 0 (fun i v hv=>?_) ho
 rw[World.var?_cell hg hvar,Nat.zero_add]
 simpa using hv
theorem Jg {P:Program} {W:World} {l:List (String×DataW Unit)} (h:laidMetH P l W) (hp:(l.filter fun x=>x.2.handleName?.isSome) = []) {n:String} {d:DataW Unit} (hm:(n,d)∈l) {g:Nat} {t:TypeId} {m:Nat} {vs:List Value}
  (hg:P.globalNamed n=some g) (ht:(P.globals[g]?).map (·.type)=some t) (hf:Ul P m t=true) (hd:ZV d=some vs) (ho:(vs.all fun v=>v.oneCell')=true) :
  zJ (M5 W) (vs.map zy) g 0/\(∃ us ty fl,(M5 W).w.heap[g]?=some (.cells us ty fl)/\us.size=(vs.map zy).length)/\∀ o,¬(M5 W).M g o:=by
 refine ⟨GC h hp hm hg ht hf hd ho,?_,fun o h=>h⟩
 unfold laidMetH at h
 rw[hp]at h
 obtain ⟨g',t',cs,fuel,p,hg',ht',hvar,htr⟩:=Lib.laidMet.reads h hm
 rw[hg]at hg';cases hg'
 rw[ht]at ht';cases ht'
 have e:=XG _ _ _ _ _ _ hf htr
 have e':vs=cs.toList:=Option.some.inj (hd.symm.trans e)
 subst e'
 unfold World.var? at hvar
 rw[hg]at hvar
 simp only[Option.bind_some]at hvar
 split at hvar
 ·rename_i cs' ty fl hh
  cases hvar
  exact ⟨_,_,_,hh,by simp⟩
 ·cases hvar
theorem Fun.glob {P:Program} {G G':zo} {f:FuncId} {args:List C} {r:C} {n:Nat} (h:Fun P G f args r n) (hG:∀ g cs,G g=some cs->G' g=some cs):Fun P G' f args r n:=
 ⟨h.1,fun R vs hg ha=>h.2 R vs (fun g cs e=>hg g cs (hG g cs e)) ha⟩
theorem Fun.glob0 {P:Program} {G':zo} {f:FuncId} {args:List C} {r:C} {n:Nat} (h:Fun P G0 f args r n):Fun P G' f args r n:=h.glob fun g cs e=>by cases e
end
section
open CA CB
open Go.RowKit
def zpI:List Value:=[.bool false,.bool false,.bool false,.bool false,.bool false,.bool false,.bool false,.bool true,.bool false,.bool true,.bool true,.bool false,.bool false,.bool false,.bool true,.bool false,.bool true,.bool false,.bool false,.bool true,.bool false,.bool true,.bool false,.bool false,.bool false,.bool false,.bool false,.bool true,.bool false,.bool false,.bool true,.bool false,.bool false]
def G1:zo:=fun g=>if g=4 then some (zpI.map zy) else none
theorem zob:G1 4=some [.sc (.bool false),.sc (.bool false),.sc (.bool false),.sc (.bool false),.sc (.bool false),.sc (.bool false),.sc (.bool false),.sc (.bool true),.sc (.bool false),.sc (.bool true),.sc (.bool true),.sc (.bool false),.sc (.bool false),.sc (.bool false),.sc (.bool true),.sc (.bool false),.sc (.bool true),.sc (.bool false),.sc (.bool false),.sc (.bool true),.sc (.bool false),.sc (.bool true),.sc (.bool false),.sc (.bool false),.sc (.bool false),.sc (.bool false),.sc (.bool false),.sc (.bool true),.sc (.bool false),.sc (.bool false),.sc (.bool true),.sc (.bool false),.sc (.bool false)]:=rfl
attribute [push_cast] zob
def qD (p:List UInt8):Bool:=Jc p&&!decide (zk p = [])
theorem NA (p:List UInt8) (hp:p.length<=1000000):Fun Tryz.prog G0 183 [.str p] (qt (qD p)) 0:=by
 have h:=MB p hp
 unfold JL at h
 cases hb:Jc p with
 | false =>
  rw[hb]at h
  refine fon Tryz.func183 ?_;dsimp only[Tryz.f183]
  push_cast -dsimp
  refine cl (h) ?_;push_cast -dsimp
  exact ⟨[],rfl,rfl,by push_cast -dsimp [zb,za,CLe,zd];simp[qD,hb]⟩
 | true =>
  rw[hb,if_pos rfl]at h
  refine fon Tryz.func183 ?_;dsimp only[Tryz.f183]
  push_cast -dsimp
  refine cl (h) ?_;push_cast -dsimp
  refine ⟨[],rfl,rfl,?_⟩
  push_cast -dsimp [zb,za,CLe,zd]
  by_cases hn:zk p = []
  ·simp[qD,hb,hn]
  ·have:=List.length_pos_iff.2 hn
   simp[qD,hb,hn,this]
theorem zbM (l:List UInt8):Fun Tryz.prog G0 170 [.str l,.str [0]] (.sc (.int .i64 (Lib.indexByte l 0))) 0:=by
 refine Fun.wrap (by kernel_rfl) fun R vs h=>?_
 obtain ⟨v1,us1,rfl,h1,h⟩:=ze.1 h
 obtain ⟨v2,us2,rfl,h2,h⟩:=ze.1 h
 rw[zj]at h
 subst h
 rw[zN]at h1 h2
 subst h1 h2
 refine (Tryz.strings_Index_one ⟨l.toArray⟩ 0 R.w).mono ?_
 rintro e w' ⟨rfl,rfl⟩
 exact ⟨_,rfl,Below.refl _ _,fun R' _=>zm.2 (by simp)⟩
theorem Hu:∀ l:List UInt8,decide (0<=Lib.indexByte l 0)=l.any (fun b=>decide (b=0))/\-1<=Lib.indexByte l 0
 | []=>⟨rfl,by decide⟩
 | b :: l=>by
  obtain ⟨h1,h2⟩:=Hu l
  unfold Lib.indexByte
  by_cases hb:b=0
  ·subst hb;simp
  ·have hb':(b==0)=false:=by simpa using hb
   rw[hb']
   simp only[Bool.false_eq_true,if_false,List.any_cons,hb,decide_false,Bool.false_or,←h1]
   split
   ·rename_i hm
    have:=beq_iff_eq.1 hm
    rw[this];simp
   ·rename_i hm
    have:¬Lib.indexByte l 0 = -1:=fun e=>hm (by rw[e];rfl)
    constructor
    ·rw[decide_eq_decide];omega
    ·omega
theorem Gm (l:List UInt8) (hl:l.length<=1000000):Fun Tryz.prog G0 212 [.str l,.str [0]] (qt (l.any fun b=>decide (b=0))) 0:=by
 have h:=(Hu l).1
 refine fon Tryz.func212 ?_;dsimp only[Tryz.f212]
 push_cast -dsimp
 refine cl (zbM l) ?_;push_cast -dsimp
 exact dn (by push_cast -dsimp [zb,za,CLe,zd,h])
def YK (s:List UInt8):Bool:=!decide (s = [])&&decide (s.length<=4095)&&!(s.any fun b=>decide (b=0))
theorem zaz (s:List UInt8) (hs:s.length<=1000000):Fun Tryz.prog G0 184 [.str s] (qt (YK s)) 0:=by
 have h:=Gm s hs
 by_cases h1:s = []
 ·refine fon Tryz.func184 ?_;dsimp only[Tryz.f184]
  push_cast -dsimp [h1]
  exact ⟨[],rfl,rfl,by push_cast -dsimp [zb,za,CLe,zd];simp[YK,h1]⟩
 ·by_cases h2:s.length<=4095
  ·have h2':(s.length:Int)<=4095:=by omega
   refine fon Tryz.func184 ?_;dsimp only[Tryz.f184]
   push_cast -dsimp [h1,h2']
   refine cl (h) ?_;push_cast -dsimp
   exact ⟨[],rfl,rfl,by push_cast -dsimp [zb,za,CLe,zd];simp[YK,h1,h2]⟩
  ·have h2':¬(s.length:Int)<=4095:=by omega
   refine fon Tryz.func184 ?_;dsimp only[Tryz.f184]
   push_cast -dsimp [h1,h2']
   exact ⟨[],rfl,rfl,by push_cast -dsimp [zb,za,CLe,zd];simp[YK,h1,h2]⟩
end
end Go.Proofs.YtlkjpfiancahiaaGreatDoor.Vcg
section
namespace Go.Proofs.YtlkjpfiancahiaaGreatDoor.QuotePlain
abbrev Bs:=List UInt8
def good (c:UInt8):Bool:=decide (32<=c.toNat/\c.toNat<=126/\c.toNat≠34/\c.toNat≠92)
def zkv:Bs:=[48,49,50,51,52,53,54,55,56,57,97,98,99,100,101,102]
def GF (n:Nat):UInt8:=zkv.getD n 0
def qb (c:UInt8):Bs:=if good c then [c] else [92,120,GF (c.toNat / 16),GF (c.toNat % 16)]
def mid (l:Bs):Bs:=l.flatMap qb
def qm (l:Bs):Bs:=34 :: (mid l++[34])
def zqm (l:Bs):Bool:=decide (l≠[])&&l.all fun c=>decide (33<=c.toNat/\c.toNat<=126/\c.toNat≠34)
def znw (c:UInt8):Nat:=(zkv.findIdx? (·==c)).getD 16
def ziP:Bs->UInt8×Nat
 | []=>(0,0)
 | c :: r =>
  if c≠92 then (if good c then (c,1) else (0,0))
  else match r with
   | x :: a :: b :: _=>if x=120/\znw a<16/\znw b<16/\good (UInt8.ofNat (znw a*16+znw b))=false then (UInt8.ofNat (znw a*16+znw b),4) else (0,0)
   | _=>(0,0)
theorem zcN {p:UInt8->Bool} (h:(List.range 256).all (fun n=>p (UInt8.ofNat n))=true) (c:UInt8):p c=true:=by
 have h1:=List.all_eq_true.1 h c.toNat (List.mem_range.2 c.toNat_lt)
 simpa using h1
def zpD:Nat->Bs->Option (Bs×Nat)
 | 0,_=>none
 | _+1,[]=>none
 | f+1,c :: r=>if c=34 then some ([],1) else if (ziP (c :: r)).2=0 then none else (zpD f ((c :: r).drop (ziP (c :: r)).2)).map fun x=>((ziP (c :: r)).1 :: x.1,(ziP (c :: r)).2+x.2)
def body (l:Bs):Option (Bs×Nat):=zpD (l.length+1) l
def qtd:Bs->Option (Bs×Nat)
 | []=>none
 | c :: r=>if c=34 then (body r).map fun x=>(x.1,x.2+1) else none
def unq (l:Bs):Option Bs:=match qtd l with | some (t,n)=>if n=l.length then some t else none | none=>none
end Go.Proofs.YtlkjpfiancahiaaGreatDoor.QuotePlain
end
section
namespace Go.Proofs.YtlkjpfiancahiaaGreatDoor.QuotePlain
def okw (w:Bs):Bool:=(unq w).isSome||zqm w
def cut:Bs->Bs->Bool->Option (List Bs)
 | [],w,_=>if okw w then some [w] else none
 | c :: r,w,i=>if c=32/\i=false then (if okw w then (cut r [] i).map (w :: ·) else none) else cut r (w++[c]) (if c=34 then !i else i)
end Go.Proofs.YtlkjpfiancahiaaGreatDoor.QuotePlain
end
section
namespace Go.Proofs.YtlkjpfiancahiaaGreatDoor.QuotePlain
def F (q:List Bs):Bs:=q.flatMap (·++[32])
end Go.Proofs.YtlkjpfiancahiaaGreatDoor.QuotePlain
end
namespace Go.Proofs.YtlkjpfiancahiaaGreatDoor.Vcg
section
structure OpV where
 kind:Int
 slot:Int
 a:List UInt8
 b:List UInt8
 d:List UInt8
deriving DecidableEq,Inhabited
def jZ (k:Int):Bool:=decide (k=3)||decide (k=7)||decide (k=9)||decide (k=10)
def znE (k:Int):Bool:=decide (k=2)||decide (k=3)||decide (k=5)||decide (k=6)
end
section
open CA CB
open Go.RowKit
def opL (o:OpV):List C:=[.sc (.int .i64 o.kind),.sc (.int .i64 o.slot),.str o.a,.str o.b,.str o.d]
def QL (o:OpV):Bool:=decide (1<=o.kind)&&decide (o.kind<=10)&&qD o.a&&(if jZ o.kind then decide (1<=o.slot)&&decide (o.slot<=1073741824) else decide (o.slot=0))&&(if znE o.kind then qD o.b else decide (o.b = []))
 && (if o.kind=4 then YK o.d else decide (o.d = []))&&(!decide (o.kind=6)||(!Xb o.a o.b&&!Xb o.b o.a))
def vC (o:OpV):Prop:=o.a.length<=100000/\o.b.length<=100000/\o.d.length<=100000
theorem zgm (k s:Int) (a b d:List UInt8) (hs:vC ⟨k,s,a,b,d⟩):Fun Tryz.prog G1 159 [.agg (opL ⟨k,s,a,b,d⟩)] (qt (QL ⟨k,s,a,b,d⟩)) 0:=by
 have hs1:a.length<=100000:=hs.1
 have hs2:b.length<=100000:=hs.2.1
 have hs3:d.length<=100000:=hs.2.2
 have h1:=(NA a (by omega)).glob0 (G':=G1)
 have h2:=(NA b (by omega)).glob0 (G':=G1)
 have h3:=(zaz d (by omega)).glob0 (G':=G1)
 have h4:=(Hh a b (by omega)).glob0 (G':=G1)
 have h5:=(Hh b a (by omega)).glob0 (G':=G1)
 unfold opL
 by_cases hk1:k<1
 ·have:¬1<=k:=by omega
  refine fon Tryz.func159 ?_;dsimp only[Tryz.f159]
  push_cast -dsimp [hk1]
  exact ⟨[],rfl,rfl,by push_cast -dsimp [zb,za,CLe,zd];simp[QL,this]⟩
 by_cases hk2:10<k
 ·have:¬k<=10:=by omega
  refine fon Tryz.func159 ?_;dsimp only[Tryz.f159]
  push_cast -dsimp [hk1,hk2]
  exact ⟨[],rfl,rfl,by push_cast -dsimp [zb,za,CLe,zd];simp[QL,this]⟩
 cases hp:qD a with
 | false =>
  rw[hp]at h1
  refine fon Tryz.func159 ?_;dsimp only[Tryz.f159]
  push_cast -dsimp [hk1,hk2]
  refine cl (h1) ?_;push_cast -dsimp
  exact ⟨[],rfl,rfl,by push_cast -dsimp [zb,za,CLe,zd];simp[QL,hp]⟩
 | true =>
  rw[hp]at h1
  have hk:k=1∨k=2∨k=3∨k=4∨k=5∨k=6∨k=7∨k=8∨k=9∨k=10:=by omega
  clear hk1 hk2 hs hs1 hs2 hs3
  rcases hk with rfl | rfl | rfl | rfl | rfl | rfl | rfl | rfl | rfl | rfl
  all_goals
   refine fon Tryz.func159 ?_;dsimp only[Tryz.f159]
   push_cast -dsimp
   refine cl (h1) ?_;push_cast -dsimp
   repeat' (first
    | (refine call h2 ?_;push_cast -dsimp)
    | (refine kM h2 ?_;push_cast -dsimp)
    | (refine call h3 ?_;push_cast -dsimp)
    | (refine kM h3 ?_;push_cast -dsimp)
    | (refine call h4 ?_;push_cast -dsimp)
    | (refine kM h4 ?_;push_cast -dsimp)
    | (refine call h5 ?_;push_cast -dsimp)
    | (refine kM h5 ?_;push_cast -dsimp)
    | (refine br (fun h=>?_) (fun h=>?_)<;>push_cast -dsimp [h])
    | (refine ⟨[],rfl,rfl,?_⟩;push_cast -dsimp [zb,za,CLe,zd];clear h1 h2 h3 h4 h5;simp_all [QL,jZ,znE]<;>omega))
end
section
structure zZ where
 dir:Int
 name:List UInt8
 ino:Int
deriving DecidableEq,Inhabited
structure zK where
 slot:Int
 ino:Int
 content:Bool
 data:List UInt8
deriving DecidableEq,Inhabited
structure qk where
 fs:FsV
 kept:List zK
 pool:List zn
deriving DecidableEq,Inhabited
def qL:zZ:=⟨0,[],0⟩
def zdj:zK:=⟨0,0,false,[]⟩
abbrev XO (es:List zX):Prop:=qC Xm zX.name es
def Xv (n:List UInt8) (es:List zX):Bool:=JV zX.name n es
def zM (n:List UInt8) (es:List zX):Int:=match jl zX.name n es with | some e=>e.ino | none=>0
def zg (n:List UInt8) (es:List zX):List zX:=JJ zX.name n es
def zmb (n:List UInt8) (i:Int) (es:List zX):List zX:=ZS Xm zX.name ⟨n,i⟩ (JJ zX.name n es)
def atW (xs:List zn):List (List UInt8)->zZ->zZ×Int
 | [],s=>(s,0)
 | n :: r,s=>if s.ino=0 then (qL,1) else if (zf s.ino xs).kind≠2 then (qL,3) else atW xs r ⟨(zf s.ino xs).ino,n,zM n (zf s.ino xs).es⟩
def atV (f:FsV) (p:List UInt8):zZ×Int:=if Jc p then atW f.xs (zk p) ⟨0,[],1⟩ else (qL,9)
def zpr (f:FsV) (n b:Int):Bool:=decide (f.xs.length+n<=f.maxI)&&decide (qp f.xs+b<=f.maxB)
def jk (d:Int) (es:List zX->List zX) (xs:List zn):List zn:=qP { zf d xs with es:=es (zf d xs).es } xs
def zsK (f:FsV) (s:zZ) (k:Int) (t:List UInt8):FsV:={ f with next:=f.next+1,xs:=qP ⟨f.next,k,1,t,if k=2 then s.dir else 0,[]⟩ (jk s.dir (zmb s.name f.next) f.xs) }
def zse (f:FsV) (s:zZ) (k:Int) (t:List UInt8):FsV×Int:=
 if may s.name then (if zpr f 1 (if k=1 then (t.length:Int) else 0) then (zsK f s k t,0) else (f,8)) else (f,9)
def zi (f:FsV) (s:zZ):FsV:=
 if (zf s.ino f.xs).links-1=0 then { f with xs:=zT s.ino (jk s.dir (zg s.name) f.xs) }
 else { f with xs:=qP { zf s.ino f.xs with links:=(zf s.ino f.xs).links-1 } (jk s.dir (zg s.name) f.xs) }
def zqE (f:FsV) (s:zZ) (i:Int):FsV:={ f with xs:=qP { zf i f.xs with links:=(zf i f.xs).links+1 } (jk s.dir (zmb s.name i) f.xs) }
def zqM (f:FsV) (a b:zZ):FsV:=
 let g:=jk b.dir (zmb b.name a.ino) (jk a.dir (zg a.name) f.xs)
 if (zf a.ino g).kind=2 then { f with xs:=qP { zf a.ino g with parent:=b.dir } g } else { f with xs:=g }
def zrZ (f:FsV) (i:Int) (t:List UInt8):FsV:={ f with xs:=qP { zf i f.xs with data:=t } f.xs }
def znk (f:FsV) (i:Int) (t:List UInt8):FsV×Int:=
 if zpr f 0 ((t.length:Int)-(zf i f.xs).data.length) then (zrZ f i t,0) else (f,8)
def VS (n:Int) (ks:List zK):Bool:=JV zK.slot n ks
def qi (k:zK) (ks:List zK):List zK:=ZS ju zK.slot k ks
def qZ (w:qk) (n:Int) (s:zZ):qk×Int:=
 if VS n w.kept then (w,13)
 else (⟨zi w.fs s,qi ⟨n,s.ino,false,[]⟩ w.kept,if (zf s.ino w.fs.xs).links=1 then qP { zf s.ino w.fs.xs with links:=0,parent:=0 } w.pool else w.pool⟩,0)
def UQ (w:qk) (n i:Int):qk×Int:=
 if VS n w.kept then (w,13) else ({ w with kept:=qi ⟨n,i,true,(zf i w.fs.xs).data⟩ w.kept },0)
def isV (f:FsV) (p:List UInt8) (want:Bool):zZ×zn×Int:=
 let a:=atV f p
 (a.1,zf a.1.ino f.xs,if a.2≠0 then a.2 else if want&&!zt a.1.ino f.xs then 1 else if !want&&zt a.1.ino f.xs then 2 else 0)
def Xr (f:FsV) (p:List UInt8):zn×Int:=
 let a:=isV f p true
 (a.2.1,if a.2.2≠0 then a.2.2 else if a.2.1.kind=2 then 4 else if a.2.1.kind=3 then 9 else 0)
def zkT (w:qk) (p:List UInt8) (k:Int) (t:List UInt8):qk×Int:=
 if (isV w.fs p false).2.2≠0 then (w,(isV w.fs p false).2.2) else ({ w with fs:=(zse w.fs (isV w.fs p false).1 k t).1 },(zse w.fs (isV w.fs p false).1 k t).2)
def zkY (w:qk) (o:OpV):qk×Int:=
 if (Xr w.fs o.a).2≠0 then (w,(Xr w.fs o.a).2) else zkT w o.b 1 (Xr w.fs o.a).1.data
def zhE (w:qk) (o:OpV):qk×Int:=
 if (Xr w.fs o.a).2≠0 then (w,(Xr w.fs o.a).2)
 else if (Xr w.fs o.b).2≠0 then (w,(Xr w.fs o.b).2)
 else if (Xr w.fs o.a).1.ino=(Xr w.fs o.b).1.ino then (w,9)
 else if (UQ w o.slot (Xr w.fs o.b).1.ino).2≠0 then (w,(UQ w o.slot (Xr w.fs o.b).1.ino).2)
 else if (znk w.fs (Xr w.fs o.b).1.ino (Xr w.fs o.a).1.data).2≠0 then (w,(znk w.fs (Xr w.fs o.b).1.ino (Xr w.fs o.a).1.data).2)
 else ({ (UQ w o.slot (Xr w.fs o.b).1.ino).1 with fs:=(znk w.fs (Xr w.fs o.b).1.ino (Xr w.fs o.a).1.data).1 },0)
def zmN (w:qk) (o:OpV):qk×Int:=
 let a:=isV w.fs o.a true
 if a.2.2≠0 then (w,a.2.2) else if a.2.1.kind=2 then (w,11)
 else if (isV w.fs o.b false).2.2≠0 then (w,(isV w.fs o.b false).2.2)
 else ({ w with fs:=zqE w.fs (isV w.fs o.b false).1 a.2.1.ino },0)
def zn5 (w:qk) (o:OpV):qk×Int:=
 if (isV w.fs o.a true).2.2≠0 then (w,(isV w.fs o.a true).2.2)
 else if (isV w.fs o.b false).2.2≠0 then (w,(isV w.fs o.b false).2.2)
 else ({ w with fs:=zqM w.fs (isV w.fs o.a true).1 (isV w.fs o.b false).1 },0)
def qg (w:qk) (o:OpV):qk×Int:=
 let a:=isV w.fs o.a true
 if a.2.2≠0 then (w,a.2.2) else if a.2.1.es≠[] then (w,5) else qZ w o.slot a.1
def doV (w:qk) (o:OpV):qk×Int:=
 if !QL o then (w,12)
 else if o.kind=1 then zkT w o.a 2 []
 else if o.kind=2 then zkY w o
 else if o.kind=3 then zhE w o
 else if o.kind=4 then zkT w o.a 3 o.d
 else if o.kind=5 then zmN w o
 else if o.kind=6 then zn5 w o
 else qg w o
def jJ (ks:List zK):Int:=match ks.getLast? with | some k=>k.slot | none=>0
structure zD where
 w:qk
 ops:List OpV
 diags:List (List UInt8)
 status:Int
 slot:Int
deriving DecidableEq,Inhabited
def Zz (w:qk):zD:=⟨w,[],[],0,jJ w.kept⟩
def kg (d:zD) (o:OpV):OpV:={ o with slot:=if o.kind=3∨o.kind=7 then d.slot+1 else 0 }
def YV (d:zD) (o:OpV):zD×Int:=
 if 7<o.kind then (d,12)
 else if (doV d.w (kg d o)).2≠0 then (d,(doV d.w (kg d o)).2)
 else (⟨(doV d.w (kg d o)).1,d.ops++[kg d o],d.diags,d.status,if 0<(kg d o).slot then (kg d o).slot else d.slot⟩,0)
end
section
open CA CB
open Go.RowKit
theorem zbf (a b:List UInt8):Fun Tryz.prog G0 182 [.str a,.str b] (.sc (.int .i64 (Lib.compareBytes a b))) 0:=by
 refine Fun.wrap (by kernel_rfl) fun R vs h=>?_
 obtain ⟨v1,us1,rfl,h1,h⟩:=ze.1 h
 obtain ⟨v2,us2,rfl,h2,h⟩:=ze.1 h
 rw[zj]at h
 subst h
 rw[zN]at h1 h2
 subst h1 h2
 refine (Tryz.strings_Compare ⟨a.toArray⟩ ⟨b.toArray⟩ R.w).mono ?_
 rintro e w' ⟨rfl,rfl⟩
 exact ⟨_,rfl,Below.refl _ _,fun R' _=>zm.2 (by simp)⟩
section
variable {G:zo}
theorem u6 (e:zX) (n:List UInt8):Fun Tryz.prog G 181 [.agg (zj7 e),.str n] (.sc (.int .i64 (Lib.compareBytes e.name n))) 0:=by
 have h:=(zbf e.name n).glob0 (G':=G)
 refine fon Tryz.func181 ?_;dsimp only[Tryz.f181]
 push_cast -dsimp
 refine cl (h) ?_;push_cast -dsimp
 exact dn
theorem Nd (es:List zX) (n:List UInt8) (hl:es.length<=100000) (hR:qC Xm zX.name es) :
  Fun Tryz.prog G 180 [.sl 2 (zW es),.str n,.clo (.func 181) [] []] (.tup [.sc (.int .i64 (qn Xm zX.name n es:Nat)),.sc (.bool (JV zX.name n es))]) 0:=by
 refine fon Tryz.func180 ?_;dsimp only[Tryz.f180]
 push_cast -dsimp
 refine loop (fun p:Nat×Nat=>⟨[(0,.sl 2 (zW es)),(1,.str n),(2,.clo (.func 181) [] []),(8,.sc (.int .i64 (es.length:Nat))),(9,.sc (.int .i64 p.1)),(10,.sc (.int .i64 p.2))],[],0,0⟩)
  (fun p=>p.1<=p.2/\p.2<=es.length/\(∀ t (h:t<es.length),t<p.1->(Xm).lt (zX.name es[t]) n=true)/\∀ t (h:t<es.length),p.2<=t->(Xm).lt (zX.name es[t]) n=false) (fun p=>p.2-p.1) (0,es.length) ⟨Nat.zero_le _,Nat.le_refl _,fun t _ h=>by (simp at h),fun t h h'=>by (dsimp only at h';omega)⟩ ?_ ?_
 ·exact wk (by push_cast -dsimp [zb,za,CLe,zd,List.length_map])
 ·rintro ⟨i,j⟩ ⟨h1,h2,h3,h4⟩
  dsimp only at h1 h2 h3 h4 ⊢
  by_cases h:i<j
  ·obtain ⟨m,hm⟩:∃ m,m=(i+j) / 2:=⟨_,rfl⟩
   have hmi:((i:Int)+(j:Int)) / 2=(m:Int):=by omega
   have hml:m<es.length:=by omega
   have hat:=Jd es m hml
   have hlt:=(zfz es[m].name n).to_iff
   push_cast -dsimp [h,hmi,hat]
   repeat refine an ?_
   refine cl ((u6 es[m] n)) ?_;push_cast -dsimp
   cases hc:(Xm).lt (zX.name es[m]) n with
   | true =>
    have hcv:(Lib.compareBytes es[m].name n<0)=True:=eq_true (hlt.mpr hc)
    push_cast -dsimp [hcv]
    repeat refine an ?_
    refine ⟨(m+1,j),⟨by omega,h2,fun t ht hlt2=>?_,h4⟩,by dsimp only;omega,wk⟩
    dsimp only at hlt2
    rcases Nat.lt_or_ge t m with q | q
    ·exact (Xm).tr ((List.pairwise_iff_getElem.1 hR) t m ht hml q) hc
    ·have:t=m:=by omega
     subst this;exact hc
   | false =>
    have hcv:(Lib.compareBytes es[m].name n<0)=False:=eq_false (fun e=>by have h7:(Xm).lt (zX.name es[m]) n=true:=hlt.mp e;rw[hc]at h7;cases h7)
    push_cast -dsimp [hcv]
    repeat refine an ?_
    refine ⟨(i,m),⟨by omega,by omega,h3,fun t ht hge=>?_⟩,by dsimp only;omega,wk⟩
    dsimp only at hge
    rcases Nat.lt_or_ge m t with q | q
    ·cases h9:(Xm).lt (zX.name es[t]) n with
     | false=>rfl
     | true=>have:=(Xm).tr ((List.pairwise_iff_getElem.1 hR) m t hml ht q) h9;rw[hc]at this;cases this
    ·have:t=m:=by omega
     subst this;exact hc
  ·have hij:i=j:=by omega
   subst hij
   have hrk:=Zg (o:=Xm) (key:=zX.name) n es i h2 h3 h4
   push_cast -dsimp [h]
   refine br (fun hx=>?_) (fun hx=>?_)
   ·have hx:i<es.length:=by simpa using hx
    have hat:=Jd es i hx
    have hh:=yB n hR hrk hx
    push_cast -dsimp [hx,hat]
    repeat refine an ?_
    refine cl ((u6 es[i] n)) ?_;push_cast -dsimp
    have hcv:decide (Lib.compareBytes es[i].name n=0)=JV zX.name n es:=by
     rw[hh]
     exact decide_eq_decide.2 (zeH es[i].name n).to_iff
    push_cast -dsimp [hcv]
    exact dn (by push_cast -dsimp [zb,za,CLe,zd,hrk])
   ·have hx:¬i<es.length:=by simpa using hx
    have hh:=GQ n hR (by omega)
    push_cast -dsimp [hx]
    exact dn (by push_cast -dsimp [zb,za,CLe,zd,hrk,hh])
theorem zfI (es:List zX) (n:List UInt8) (hl:es.length<=100000) (hR:XO es):Fun Tryz.prog G 154 [.sl 2 (zW es),.str n] (.tup [.sc (.int .i64 (qn Xm zX.name n es:Nat)),.sc (.bool (JV zX.name n es))]) 0:=by
 refine fon Tryz.func154 ?_;dsimp only[Tryz.f154]
 push_cast -dsimp
 refine cl (Nd es n hl hR) ?_;push_cast -dsimp
 exact dn
theorem MD (es:List zX) (n:List UInt8) (hl:es.length<=100000) (hR:XO es):Fun Tryz.prog G 111 [.sl 2 (zW es),.str n] (.tup [.sc (.int .i64 (zM n es)),.sc (.bool (Xv n es))]) 0:=by
 obtain ⟨_,_,h3,h4⟩:=kC n hR
 have h:=zfI (G:=G) es n hl hR
 cases hh:JV zX.name n es with
 | false =>
  have hf:zM n es=0:=by unfold zM;rw[(h4 hh).1]
  have he:Xv n es=false:=hh
  rw[hh]at h
  refine fon Tryz.func111 ?_;dsimp only[Tryz.f111]
  push_cast -dsimp
  refine cl (h) ?_;push_cast -dsimp
  exact dn (by push_cast -dsimp [zb,za,CLe,zd,hf,he])
 | true =>
  obtain ⟨hlt,_,g2,_⟩:=h3 hh
  have hf:zM n es=es[qn Xm zX.name n es].ino:=by unfold zM;rw[g2]
  have he:Xv n es=true:=hh
  have hat:=Jd es _ hlt
  rw[hh]at h
  refine fon Tryz.func111 ?_;dsimp only[Tryz.f111]
  push_cast -dsimp
  refine cl (h) ?_;push_cast -dsimp [hat]
  repeat refine an ?_
  exact dn (by push_cast -dsimp [zb,za,CLe,zd,hf,he])
end
end
section
open CA CB
open Go.RowKit
section
variable {G:zo}
theorem H3 {es:List zX}:∀ r∈zW es,r.length=2:=fun r hr=>by
 obtain ⟨x,_,rfl⟩:=List.mem_map.1 hr;rfl
theorem zd1 {es:List zX}:jA (zW es):=fun r hr=>by
 obtain ⟨x,_,rfl⟩:=List.mem_map.1 hr;rfl
end
end
section
open CA CB
open Go.RowKit
section
variable {G:zo}
theorem zld {A B Z:List C} {r k:Nat} (hA:A.length=r*2) (hB:B.length=(k-r)*2) (hZ:Z.length=k*2) (hr:r<=k):spl (A++Z.drop (r*2)) (r*2) (B.take ((k-r)*2))=A++B:=by
 unfold spl
 rw[List.take_of_length_le (l:=B) (by omega),List.take_append_of_le_length (by omega),List.take_of_length_le (l:=A) (by omega),List.drop_of_length_le (l:=A++Z.drop (r*2)) (by rw[List.length_append,List.length_drop];omega),List.append_nil]
theorem Nj (es:List zX) (n:List UInt8) (hl:es.length<=90000) (hR:XO es) (hh:JV zX.name n es=true) :
  Fun Tryz.prog G 245 [.sl 2 (zW es),.str n] (.own 0 100 2 (zW (zg n es))) 1:=by
 obtain ⟨_,_,h3,h4⟩:=kC n hR
 have hll:(zW es).length=es.length:=List.length_map ..
 have hat:=zfI (G:=G) es n (by omega) hR
 have hrl:=VW (o:=Xm) (key:=zX.name) n es
 rw[hh]at hat
 obtain ⟨hlt,g1,g2,g3,g4⟩:=h3 hh
 have hw:zg n es=es.take (qn Xm zX.name n es)++es.drop (qn Xm zX.name n es+1):=g3
 obtain ⟨k,hk⟩:∃ k,es.length=k+1:=⟨es.length-1,by omega⟩
 have hkc:(zW es).length=k+1:=by omega
 have hn:((zW es).length:Int)-1=(k:Int):=by omega
 have hwl:(zg n es).length=k:=by rw[hw];simp;omega
 generalize qn Xm zX.name n es=r at *
 have hm:min r k=r:=by omega
 rcases Nat.eq_zero_or_pos k with h1 | h1
 ·subst h1
  obtain rfl:r=0:=by omega
  have hn:((zW es).length:Int)-1=0:=hn
  have hwe:zg n es = []:=List.length_eq_zero_iff.1 hwl
  refine fof (fun i=>if i=5 then V1 [(0,.pure),(1,.pure),(2,.pure),(3,.pure),(4,.pure),(7,.pure),(8,.pure),(9,.pure),(10,.pure),(5,.flt [0,5,6,7,8]),(6,.pure),(11,.bar)] else []) Tryz.func245 ?_;dsimp only[Tryz.f245]
  push_cast -dsimp
  refine cl (hat) ?_;push_cast -dsimp [hn,Int.toNat_zero]
  refine ⟨by omega,by omega,zoW (m:=0) (xs:=[]) zcV MR rfl rfl (fun _ _ _ _ _ h=>by cases h) rfl ?_⟩
  push_cast -dsimp
  have hd:(zW es).drop 1 = []:=List.drop_of_length_le (by omega)
  rw[hd]
  refine ⟨⟨by split<;>first | omega | trivial,by split<;>first | omega | trivial⟩,zoW (m:=0) (xs:=[]) zcV MR rfl rfl (fun _ _ _ _ _ h=>by cases h) rfl ?_⟩
  push_cast -dsimp
  exact ⟨[.inl 0],rfl,rfl,by push_cast -dsimp [zb,za,CLe,zd,hwe]⟩
 ·refine foF (fun i=>if i=5 then V1 [(0,.pure),(1,.pure),(2,.pure),(3,.pure),(4,.pure),(7,.pure),(8,.pure),(9,.pure),(10,.pure),(5,.flt [0,5,6,7,8]),(6,.pure),(11,.bar)] else if i=1000000+51 then [true,true] else []) Tryz.func245 ?_;dsimp only[Tryz.f245]
  push_cast -dsimp
  refine cl (hat) ?_;push_cast -dsimp [hn,Int.toNat_natCast]
  have hA:((zW es).take r).flatten.length=r*2:=by
   rw[qu (k:=2) fun x hx=>H3 x (List.mem_of_mem_take hx),List.length_take,hkc,Nat.min_eq_left (by omega)]
  have hB:((zW es).drop (r+1)).flatten.length=(k-r)*2:=by
   rw[qu (k:=2) fun x hx=>H3 x (List.mem_of_mem_drop hx),List.length_drop,hkc];omega
  have hZ:((List.replicate k [C.str [],C.sc (.int .i64 0)]).flatten).length=k*2:=by simp
  refine ⟨⟨by omega,by omega⟩,by omega,by omega,by omega,by omega,⟨by omega,by omega⟩,⟨by omega,by omega⟩,⟨by omega,by omega⟩,zlQ (m:=r) (xs:=((zW es).take r).flatten) zcV MR (by simp[C.xs?,C.rows?,hkc];omega) rfl hA (by rw[hZ];omega) ?_⟩
  rw[hm]
  push_cast -dsimp
  have hS:spl (List.replicate k [C.str [],C.sc (.int .i64 0)]).flatten 0 (((zW es).take r).flatten.take (r*2))=((zW es).take r).flatten++((List.replicate k [C.str [],C.sc (.int .i64 0)]).flatten).drop (r*2):=by
   unfold spl
   rw[List.take_zero,List.nil_append,Nat.zero_add,List.take_of_length_le (by omega),hA]
  have hm2:min (k-r) (k-r)=k-r:=Nat.min_self _
  rw[hS]
  refine ⟨⟨by split<;>first | exact ⟨by omega,by omega⟩ | trivial,by split<;>first | exact ⟨by omega,by omega⟩ | trivial,by split<;>first | exact ⟨by omega,by omega⟩ | trivial⟩,Nat.le_refl _,⟨by omega,by omega⟩,zlQ (m:=k-r) (xs:=((zW es).drop (r+1)).flatten) zcV MR (by simp[C.xs?,C.rows?,hkc]) rfl hB (by rw[List.length_append,List.length_drop,hA,hZ];omega) ?_⟩
  rw[hm2]
  push_cast -dsimp
  have hwc:(zW (zg n es)).length=k:=(List.length_map ..).trans hwl
  have hF:spl (((zW es).take r).flatten++((List.replicate k [C.str [],C.sc (.int .i64 0)]).flatten).drop (r*2)) (r*2) (((zW es).drop (r+1)).flatten.take ((k-r)*2))=qF 2 (zW (zg n es)) k:=by
   rw[zld hA hB hZ (by omega)]
   unfold qF
   rw[hwc,Nat.sub_self,Nat.zero_mul,hw]
   simp
  rw[hF]
  refine ⟨[(0,100,2,zW (zg n es),k)],[.inl 0],zB rfl h1 (by omega) (by omega) H3 zd1,rfl,rfl,?_⟩
  push_cast -dsimp [zb,za,CLe,zd,hwc]
end
end
section
theorem Zh (n:Int) (xs:List zn):zt n xs=(QG n xs).isSome:=by
 unfold zt QG
 induction xs with
 | nil=>rfl
 | cons y r ih =>
  rw[List.any_cons,List.find?_cons]
  cases h:(y.ino==n) with
  | true=>rfl
  | false=>rw[Bool.false_or,ih]
theorem zhr {n:Int} {xs:List zn} {x:zn} (h:QG n xs=some x):x.ino=n/\x∈xs:=by
 unfold QG at h
 have h1:=List.find?_some h
 exact ⟨by simpa using h1,List.mem_of_find?_eq_some h⟩
theorem uL (n:Int) (x:zn):∀ xs:List zn,(∀ z∈xs,z.ino≠x.ino)->QG n (ZO x xs)=if x.ino=n then some x else QG n xs
 | [],_=>by
  unfold ZO QG
  by_cases h:x.ino=n<;>simp[h]
 | y :: r,hn=>by
  have hy:=hn y List.mem_cons_self
  have ih:=uL n x r fun z hz=>hn z (List.mem_cons_of_mem _ hz)
  unfold QG at ih ⊢
  unfold ZO
  split
  ·by_cases h:x.ino=n
   ·simp[h]
   ·simp[h,List.find?_cons]
  ·by_cases h:x.ino=n
   ·rw[if_pos h]at ih ⊢
    have hyn:(y.ino==n)=false:=by simp;omega
    rw[List.find?_cons,hyn];exact ih
   ·rw[if_neg h]at ih ⊢
    rw[List.find?_cons,List.find?_cons,ih]
theorem Zo (n m:Int):∀ xs:List zn,QG n (zT m xs)=if n=m then none else QG n xs
 | []=>by unfold QG zT;simp
 | y :: r=>by
  have ih:=Zo n m r
  by_cases hy:y.ino=m
  ·rw[Jo hy,ih]
   by_cases h:n=m
   ·rw[if_pos h,if_pos h]
   ·rw[if_neg h,if_neg h]
    have hyn:(y.ino==n)=false:=by simp;omega
    unfold QG
    rw[List.find?_cons,hyn]
  ·rw[Jl hy]
   unfold QG at ih ⊢
   rw[List.find?_cons,List.find?_cons,ih]
   by_cases h:n=m
   ·have hyn:(y.ino==n)=false:=by simp;omega
    simp only[hyn,if_pos h]
   ·simp only[if_neg h]
theorem zm4 {n:Int} {xs:List zn}:∀ z∈zT n xs,z.ino≠n:=fun z hz=>by
 unfold zT at hz
 simpa using (List.mem_filter.1 hz).2
theorem ur (n:Int) (x:zn) (xs:List zn):QG n (qP x xs)=if x.ino=n then some x else QG n xs:=by
 unfold qP
 rw[uL n x _ zm4,Zo]
 by_cases h:x.ino=n
 ·rw[if_pos h,if_pos h]
 ·rw[if_neg h,if_neg h,if_neg (fun e=>h e.symm)]
theorem VN (n:Int) (x:zn) (xs:List zn):zt n (qP x xs)=(decide (x.ino=n)||zt n xs):=by
 rw[Zh,ur,Zh]
 by_cases h:x.ino=n<;>simp[h]
theorem YA (n m:Int) (xs:List zn):zt n (zT m xs)=(!decide (n=m)&&zt n xs):=by
 rw[Zh,Zo,Zh]
 by_cases h:n=m<;>simp[h]
def jP (g:zn->Nat) (xs:List zn):Nat:=(xs.map g).sum
theorem XD (g:zn->Nat) {n:Int}:∀ {xs:List zn},z8 xs->jP g xs=jP g (zT n xs)+(match QG n xs with | some x=>g x | none=>0)
 | [],_=>rfl
 | y :: r,hR=>by
  obtain ⟨h1,h2⟩:=Je.1 hR
  have ih:=XD g (n:=n) h2
  unfold jP at ih ⊢
  by_cases hy:y.ino=n
  ·have hb:zt n r=false:=Ug fun z hz=>by have:=h1 z hz;omega
   have hg:QG n (y :: r)=some y:=by unfold QG;rw[List.find?_cons_of_pos (by simpa using hy)]
   rw[hg,Jo hy,Zd hb]
   simp;omega
  ·have hg:QG n (y :: r)=QG n r:=by unfold QG;rw[List.find?_cons_of_neg (by simpa using hy)]
   rw[hg,Jl hy]
   simp only[List.map_cons,List.sum_cons]
   omega
theorem uM (g:zn->Nat) (x:zn):∀ xs:List zn,jP g (ZO x xs)=jP g xs+g x
 | []=>by unfold ZO jP;simp
 | y :: r=>by
  have ih:=uM g x r
  unfold jP at ih ⊢
  unfold ZO
  split
  ·simp;omega
  ·simp only[List.map_cons,List.sum_cons];omega
theorem VY (g:zn->Nat) {x:zn} {xs:List zn} (hR:z8 xs):jP g (qP x xs)+(match QG x.ino xs with | some y=>g y | none=>0)=jP g xs+g x:=by
 unfold qP
 rw[uM,XD g (n:=x.ino) hR]
 omega
end
section
def Hw (n:Int) (x:zn):Nat:=(x.es.filter fun e=>decide (e.ino=n)).length
def VH (n:Int) (xs:List zn):Nat:=jP (Hw n) xs
structure FsI (f:FsV):Prop where
 rises:z8 f.xs
 ino:∀ x∈f.xs,1<=x.ino/\x.ino<f.next
 kind:∀ x∈f.xs,x.kind=1∨x.kind=2∨x.kind=3
 es:∀ x∈f.xs,XO x.es
 file:∀ x∈f.xs,x.kind≠2->x.es = []
 led:∀ x∈f.xs,∀ e∈x.es,zt e.ino f.xs=true
 links:∀ x∈f.xs,x.links=(VH x.ino f.xs:Int)
 root:zt 1 f.xs=true
 base:(zf 1 f.xs).kind=2
 bare:VH 1 f.xs=0
theorem zh {n:Int} {xs:List zn} (h:zt n xs=true):QG n xs=some (zf n xs)/\zf n xs∈xs/\(zf n xs).ino=n:=by
 rw[Zh]at h
 obtain ⟨x,hx⟩:=Option.isSome_iff_exists.1 h
 have e:zf n xs=x:=by unfold zf;rw[hx];rfl
 obtain ⟨h1,h2⟩:=zhr hx
 rw[e]
 exact ⟨hx,h2,h1⟩
theorem YD {n:Int} {xs:List zn} (h:zt n xs=false):QG n xs=none/\zf n xs=vh:=by
 have h1:=HZ h
 exact ⟨h1,by unfold zf;rw[h1];rfl⟩
theorem Y8 (n:Int) (x:zn) (xs:List zn):zf n (qP x xs)=if x.ino=n then x else zf n xs:=by
 unfold zf
 rw[ur]
 split<;>rfl
theorem Q3 (n m:Int) (xs:List zn):zf n (zT m xs)=if n=m then vh else zf n xs:=by
 unfold zf
 rw[Zo]
 split<;>rfl
theorem jY {x z:zn} {xs:List zn}:z∈qP x xs↔z=x∨(z∈xs/\z.ino≠x.ino):=by
 unfold qP
 rw[G5]
 unfold zT
 simp
theorem JQ {n:Int} {z:zn} {xs:List zn}:z∈zT n xs↔z∈xs/\z.ino≠n:=by
 unfold zT
 simp
theorem J3 {x:zn} {xs:List zn} (h:x∈xs):zt x.ino xs=true:=by
 unfold zt
 exact List.any_eq_true.2 ⟨x,h,by simp⟩
theorem NB {α κ:Type} [DecidableEq κ] {o:zlA κ} {key:α->κ} (p:α->Bool) {n:κ} {xs:List α} (hR:qC o key xs) {e:α} (h:jl key n xs=some e):(xs.filter p).length=((JJ key n xs).filter p).length+if p e then 1 else 0:=by
 obtain ⟨_,_,h3,h4⟩:=kC n hR
 cases hh:JV key n xs with
 | false=>rw[(h4 hh).1]at h;cases h
 | true =>
  obtain ⟨g,_,g2,g3,_⟩:=h3 hh
  rw[g2]at h
  simp only[Option.some.injEq]at h
  have e0:xs=xs.take (qn o key n xs)++e :: xs.drop (qn o key n xs+1):=by
   rw[←h,←List.drop_eq_getElem_cons g,List.take_append_drop]
  rw[g3]
  conv=>lhs;rw[e0]
  rw[List.filter_append,List.filter_append,List.filter_cons]
  cases hp:p e<;>simp<;>omega
theorem qq {α κ:Type} [DecidableEq κ] {key:α->κ} {n:κ} {xs:List α} {e:α} (h:jl key n xs=some e):key e=n/\e∈xs:=by
 unfold jl at h
 exact ⟨by have:=List.find?_some h;simpa using this,List.mem_of_find?_eq_some h⟩
theorem qE {α κ:Type} [DecidableEq κ] {key:α->κ} {n:κ} {xs:List α}:JV key n xs=(jl key n xs).isSome:=by
 unfold JV jl
 induction xs with
 | nil=>rfl
 | cons y r ih =>
  rw[List.any_cons,List.find?_cons]
  cases h:decide (key y=n) with
  | true=>rfl
  | false=>rw[Bool.false_or,ih]
theorem zde {n m:Int} {x:zn} {xs:List zn} (hR:z8 xs) (hh:zt n xs=true) (hx:x.ino=n):VH m (qP x xs)+Hw m (zf n xs)=VH m xs+Hw m x:=by
 have h:=VY (Hw m) (x:=x) hR
 rw[hx,(zh hh).1]at h
 exact h
theorem zhU {n m:Int} {xs:List zn} (hR:z8 xs) (hh:zt n xs=true):VH m xs=VH m (zT n xs)+Hw m (zf n xs):=by
 have h:=XD (Hw m) (n:=n) hR
 rw[(zh hh).1]at h
 exact h
theorem vR {n:Int} {xs:List zn} (h:VH n xs=0):∀ x∈xs,∀ e∈x.es,e.ino≠n:=fun x hx e he hn=>by
 unfold VH jP at h
 rw[List.sum_eq_zero_iff_forall_eq_nat]at h
 have:=h _ (List.mem_map_of_mem hx)
 unfold Hw at this
 rw[List.length_eq_zero_iff,List.filter_eq_nil_iff]at this
 exact this e he (by simpa using hn)
theorem N1 {m i:Int} {n:List UInt8} {es:List zX} {x:zn} (hR:XO es) (h:jl zX.name n es=some ⟨n,i⟩):Hw m { x with es:=es }=Hw m { x with es:=zg n es }+if i=m then 1 else 0:=by
 unfold zg Hw
 have:=NB (fun e:zX=>decide (e.ino=m)) hR h
 simp only at this ⊢
 rw[this]
 by_cases hi:i=m<;>simp[hi]
theorem X3 {n:List UInt8} {es:List zX} (h:Xv n es=true):jl zX.name n es=some ⟨n,zM n es⟩:=by
 unfold Xv at h
 rw[qE]at h
 obtain ⟨e,he⟩:=Option.isSome_iff_exists.1 h
 have h1:=(qq he).1
 unfold zM
 rw[he]
 cases e with
 | mk a b=>simp at h1 ⊢;exact h1
theorem QV {n:List UInt8} {es:List zX} (h:XO es):XO (zg n es):=xP n h
theorem jK {n:List UInt8} {es:List zX} {e:zX} (h:e∈zg n es):e∈es/\e.name≠n:=zgv.1 h
end
section
structure zsa (f:FsV) (s:zZ):Prop where
 has:zt s.dir f.xs=true
 kind:(zf s.dir f.xs).kind=2
 free:Xv s.name (zf s.dir f.xs).es=false
structure zH (f:FsV) (s:zZ):Prop where
 has:zt s.dir f.xs=true
 kind:(zf s.dir f.xs).kind=2
 there:jl zX.name s.name (zf s.dir f.xs).es=some ⟨s.name,s.ino⟩
theorem zH.ino {f:FsV} {s:zZ} (hf:FsI f) (h:zH f s):zt s.ino f.xs=true:=by
 have:=hf.led _ (zh h.has).2.1 ⟨s.name,s.ino⟩ (qq h.there).2
 exact this
abbrev jS (d:zn) (es:List zX):zn:={ d with es:=es }
theorem Xw {xs:List zn} {n:Int} {F:List zX->List zX} (hh:zt n xs=true) {z:zn}:z∈jk n F xs↔z=jS (zf n xs) (F (zf n xs).es)∨(z∈xs/\z.ino≠n):=by
 unfold jk
 rw[jY]
 show z=jS _ _∨(z∈xs/\z.ino≠(zf n xs).ino)↔_
 rw[(zh hh).2.2]
theorem JN {xs:List zn} {n m:Int} {F:List zX->List zX} (hh:zt n xs=true):zt m (jk n F xs)=zt m xs:=by
 unfold jk
 rw[VN]
 show (decide ((zf n xs).ino=m)||zt m xs)=_
 rw[(zh hh).2.2]
 by_cases h:n=m
 ·subst h;rw[hh];simp
 ·simp[h]
theorem YQ {xs:List zn} {n m:Int} {F:List zX->List zX} (hh:zt n xs=true):zf m (jk n F xs)=if n=m then jS (zf n xs) (F (zf n xs).es) else zf m xs:=by
 unfold jk
 rw[Y8]
 show (if (zf n xs).ino=m then _ else _)=_
 rw[(zh hh).2.2]
theorem zk2 {xs:List zn} {n m:Int} {F:List zX->List zX} (hR:z8 xs) (hh:zt n xs=true):VH m (jk n F xs)+Hw m (zf n xs)=VH m xs+Hw m (jS (zf n xs) (F (zf n xs).es)):=
 zde hR hh (zh hh).2.2
theorem zkP {f:FsV} (hf:FsI f):1<f.next:=by
 have:=(hf.ino _ (zh hf.root).2.1).2
 rw[(zh hf.root).2.2]at this
 exact this
theorem HE {f:FsV} (hf:FsI f) {s:zZ} (hs:zH f s):s.ino≠1:=fun e =>
 vR hf.bare _ (zh hs.has).2.1 _ (qq hs.there).2 e
theorem Ux {f:FsV} (hf:FsI f) {s:zZ} (hs:zH f s) (he:(zf s.ino f.xs).es = []):FsI (zi f s):=by
 have hi:=zH.ino hf hs
 have hd:=zh hs.has
 have hx:=zh hi
 have hr:=HE hf hs
 have hne:s.dir≠s.ino:=fun e=>by
  have:=(qq hs.there).2
  rw[e,he]at this
  cases this
 have hR1:z8 (jk s.dir (zg s.name) f.xs):=Jp hf.rises
 have hi1:zt s.ino (jk s.dir (zg s.name) f.xs)=true:=by rw[JN hs.has];exact hi
 have hg1:zf s.ino (jk s.dir (zg s.name) f.xs)=zf s.ino f.xs:=by rw[YQ hs.has,if_neg hne]
 have hc1:∀ m,VH m (jk s.dir (zg s.name) f.xs)+(if s.ino=m then 1 else 0)=VH m f.xs:=fun m=>by
  have hc:=zk2 (m:=m) (F:=zg s.name) hf.rises hs.has
  have hw:Hw m (zf s.dir f.xs)=Hw m (jS (zf s.dir f.xs) (zg s.name (zf s.dir f.xs).es))+if s.ino=m then 1 else 0:=N1 (m:=m) (i:=s.ino) (x:=zf s.dir f.xs) (hf.es (zf s.dir f.xs) hd.2.1) hs.there
  omega
 have hlk:=hf.links (zf s.ino f.xs) hx.2.1
 rw[hx.2.2]at hlk
 have hci:=hc1 s.ino
 rw[if_pos rfl]at hci
 have hz:∀ m,Hw m (zf s.ino f.xs)=0:=fun m=>by unfold Hw;rw[he];rfl
 unfold zi
 by_cases hl:(zf s.ino f.xs).links-1=0
 ·rw[if_pos hl]
  have hc0:VH s.ino (jk s.dir (zg s.name) f.xs)=0:=by omega
  have hcnt:∀ m,VH m (zT s.ino (jk s.dir (zg s.name) f.xs))=VH m (jk s.dir (zg s.name) f.xs):=fun m=>by
   have:=zhU (m:=m) hR1 hi1
   rw[hg1,hz]at this
   omega
  have hmem:∀ {z:zn},z∈zT s.ino (jk s.dir (zg s.name) f.xs)->(z=jS (zf s.dir f.xs) (zg s.name (zf s.dir f.xs).es)∨(z∈f.xs/\z.ino≠s.dir))/\z.ino≠s.ino:=fun {z} hz=>by
   obtain ⟨hz,hzi⟩:=JQ.1 hz
   exact ⟨(Xw hs.has).1 hz,hzi⟩
  have hin:∀ {z:zn},z∈zT s.ino (jk s.dir (zg s.name) f.xs)->z∈jk s.dir (zg s.name) f.xs:=fun {z} hz=>(JQ.1 hz).1
  refine ⟨Hk hR1,fun x hx'=>?_,fun x hx'=>?_,fun x hx'=>?_,fun x hx' hk2=>?_,fun x hx' e hee=>?_,fun x hx'=>?_,?_,?_,?_⟩
  ·rcases hmem hx' with ⟨rfl | ⟨h,_⟩,_⟩
   ·exact hf.ino (zf s.dir f.xs) hd.2.1
   ·exact hf.ino _ h
  ·rcases hmem hx' with ⟨rfl | ⟨h,_⟩,_⟩
   ·exact hf.kind (zf s.dir f.xs) hd.2.1
   ·exact hf.kind _ h
  ·rcases hmem hx' with ⟨rfl | ⟨h,_⟩,_⟩
   ·exact QV (hf.es (zf s.dir f.xs) hd.2.1)
   ·exact hf.es _ h
  ·rcases hmem hx' with ⟨rfl | ⟨h,_⟩,_⟩
   ·exact absurd hs.kind hk2
   ·exact hf.file _ h hk2
  ·show zt e.ino (zT _ _)=true
   rw[YA,JN hs.has]
   have h1:e.ino≠s.ino:=vR hc0 x (hin hx') e hee
   rw[decide_eq_false h1]
   show zt e.ino f.xs=true
   rcases hmem hx' with ⟨rfl | ⟨h,_⟩,_⟩
   ·exact hf.led (zf s.dir f.xs) hd.2.1 e (jK hee).1
   ·exact hf.led _ h e hee
  ·show x.links=((VH x.ino (zT _ _):Nat):Int)
   rw[hcnt]
   obtain ⟨h1,h2⟩:=hmem hx'
   have h3:=hc1 x.ino
   rw[if_neg fun e=>h2 e.symm]at h3
   have h4:x.links=(VH x.ino f.xs:Int):=by
    rcases h1 with rfl | ⟨h,_⟩
    ·exact hf.links (zf s.dir f.xs) hd.2.1
    ·exact hf.links _ h
   omega
  ·show zt 1 (zT _ _)=true
   rw[YA,JN hs.has,hf.root,decide_eq_false fun e=>hr e.symm];rfl
  ·show (zf 1 (zT _ _)).kind=2
   rw[Q3,if_neg fun e=>hr e.symm,YQ hs.has]
   split
   ·exact hs.kind
   ·exact hf.base
  ·show VH 1 (zT _ _)=0
   rw[hcnt]
   have:=hc1 1
   have:=hf.bare
   omega
 ·rw[if_neg hl]
  have hmem:∀ {z:zn},z∈qP { zf s.ino f.xs with links:=(zf s.ino f.xs).links-1 } (jk s.dir (zg s.name) f.xs)->z = { zf s.ino f.xs with links:=(zf s.ino f.xs).links-1 }∨z=jS (zf s.dir f.xs) (zg s.name (zf s.dir f.xs).es)∨(z∈f.xs/\z.ino≠s.dir/\z.ino≠s.ino):=fun {z} hz=>by
   rcases jY.1 hz with rfl | ⟨hz,hzi⟩
   ·exact .inl rfl
   ·have hzi:z.ino≠(zf s.ino f.xs).ino:=hzi
    rw[hx.2.2]at hzi
    rcases (Xw hs.has).1 hz with rfl | ⟨hz,hzd⟩
    ·exact .inr (.inl rfl)
    ·exact .inr (.inr ⟨hz,hzd,hzi⟩)
  have hhas:∀ m,zt m (qP { zf s.ino f.xs with links:=(zf s.ino f.xs).links-1 } (jk s.dir (zg s.name) f.xs))=zt m f.xs:=fun m=>by
   rw[VN,JN hs.has]
   show (decide ((zf s.ino f.xs).ino=m)||_)=_
   rw[hx.2.2]
   by_cases h:s.ino=m
   ·rw[←h,hi];simp
   ·simp[h]
  have hcnt:∀ m,VH m (qP { zf s.ino f.xs with links:=(zf s.ino f.xs).links-1 } (jk s.dir (zg s.name) f.xs))=VH m (jk s.dir (zg s.name) f.xs):=fun m=>by
   have h:=zde (m:=m) (x:={ zf s.ino f.xs with links:=(zf s.ino f.xs).links-1 }) hR1 hi1 hx.2.2
   rw[hg1]at h
   have e:Hw m { zf s.ino f.xs with links:=(zf s.ino f.xs).links-1 }=Hw m (zf s.ino f.xs):=rfl
   omega
  refine ⟨Jp hR1,fun x hx'=>?_,fun x hx'=>?_,fun x hx'=>?_,fun x hx' hk2=>?_,fun x hx' e hee=>?_,fun x hx'=>?_,by rw[hhas];exact hf.root,?_,?_⟩
  ·rcases hmem hx' with rfl | rfl | ⟨h,_⟩
   ·exact hf.ino (zf s.ino f.xs) hx.2.1
   ·exact hf.ino (zf s.dir f.xs) hd.2.1
   ·exact hf.ino _ h
  ·rcases hmem hx' with rfl | rfl | ⟨h,_⟩
   ·exact hf.kind (zf s.ino f.xs) hx.2.1
   ·exact hf.kind (zf s.dir f.xs) hd.2.1
   ·exact hf.kind _ h
  ·rcases hmem hx' with rfl | rfl | ⟨h,_⟩
   ·exact hf.es (zf s.ino f.xs) hx.2.1
   ·exact QV (hf.es (zf s.dir f.xs) hd.2.1)
   ·exact hf.es _ h
  ·rcases hmem hx' with rfl | rfl | ⟨h,_⟩
   ·exact he
   ·exact absurd hs.kind hk2
   ·exact hf.file _ h hk2
  ·rw[hhas]
   rcases hmem hx' with rfl | rfl | ⟨h,_⟩
   ·exact hf.led (zf s.ino f.xs) hx.2.1 e hee
   ·exact hf.led (zf s.dir f.xs) hd.2.1 e (jK hee).1
   ·exact hf.led _ h e hee
  ·rw[hcnt]
   rcases hmem hx' with rfl | rfl | ⟨h,_,hzi⟩
   ·show (zf s.ino f.xs).links-1=((VH (zf s.ino f.xs).ino (jk s.dir (zg s.name) f.xs):Nat):Int)
    rw[hx.2.2];omega
   ·have h3:=hc1 (zf s.dir f.xs).ino
    have h4:=hf.links (zf s.dir f.xs) hd.2.1
    rw[if_neg (by rw[hd.2.2];exact fun e=>hne e.symm)]at h3
    show (zf s.dir f.xs).links=((VH (zf s.dir f.xs).ino (jk s.dir (zg s.name) f.xs):Nat):Int)
    omega
   ·have h3:=hc1 x.ino
    rw[if_neg fun e=>hzi e.symm]at h3
    have h4:=hf.links _ h
    omega
  ·show (zf 1 (qP _ _)).kind=2
   rw[Y8,if_neg (show ¬(zf s.ino f.xs).ino=1 by rw[hx.2.2];exact hr),YQ hs.has]
   split
   ·exact hs.kind
   ·exact hf.base
  ·rw[hcnt]
   have:=hc1 1
   have:=hf.bare
   omega
end
section
theorem zku {f:FsV} (hf:FsI f):∀ (ns:List (List UInt8)) (s:zZ),(s.ino≠0->zt s.ino f.xs=true)->(atW f.xs ns s).2=0->ns≠[] ->
  zt (atW f.xs ns s).1.dir f.xs=true/\(zf (atW f.xs ns s).1.dir f.xs).kind=2/\(atW f.xs ns s).1.ino=zM (atW f.xs ns s).1.name (zf (atW f.xs ns s).1.dir f.xs).es/\(atW f.xs ns s).1.name∈ns
 | [],s,_,_,h=>absurd rfl h
 | n :: r,s,hs,h0,_=>by
  unfold atW at h0 ⊢
  by_cases h1:s.ino=0
  ·rw[if_pos h1]at h0;cases h0
  rw[if_neg h1]at h0 ⊢
  by_cases h2:(zf s.ino f.xs).kind≠2
  ·rw[if_pos h2]at h0;cases h0
  rw[if_neg h2]at h0 ⊢
  have h2:(zf s.ino f.xs).kind=2:=Classical.not_not.1 h2
  have hg:=zh (hs h1)
  have hnx:zM n (zf s.ino f.xs).es≠0->zt (zM n (zf s.ino f.xs).es) f.xs=true:=fun hne=>by
   have hh:Xv n (zf s.ino f.xs).es=true:=by
    unfold Xv
    rw[qE]
    cases hq:jl zX.name n (zf s.ino f.xs).es with
    | some e=>rfl
    | none=>unfold zM at hne;rw[hq]at hne;exact absurd rfl hne
   exact hf.led _ hg.2.1 _ (qq (X3 hh)).2
  cases r with
  | nil =>
   unfold atW
   rw[hg.2.2]
   exact ⟨hs h1,h2,rfl,List.mem_cons_self⟩
  | cons m r =>
   obtain ⟨i1,i2,i3,i4⟩:=zku hf (m :: r) ⟨(zf s.ino f.xs).ino,n,zM n (zf s.ino f.xs).es⟩ hnx h0 (by simp)
   exact ⟨i1,i2,i3,List.mem_cons_of_mem _ i4⟩
theorem zfG {f:FsV} (hf:FsI f):∀ (ns:List (List UInt8)) (s:zZ),(s.ino≠0->zt s.ino f.xs=true)->(atW f.xs ns s).1.ino≠0->zt (atW f.xs ns s).1.ino f.xs=true
 | [],s,hs,h=>hs h
 | n :: r,s,hs,h=>by
  unfold atW at h ⊢
  by_cases h1:s.ino=0
  ·rw[if_pos h1]at h;exact absurd rfl h
  rw[if_neg h1]at h ⊢
  by_cases h2:(zf s.ino f.xs).kind≠2
  ·rw[if_pos h2]at h;exact absurd rfl h
  rw[if_neg h2]at h ⊢
  have hg:=zh (hs h1)
  refine zfG hf r _ (fun hne=>?_) h
  have hne:zM n (zf s.ino f.xs).es≠0:=hne
  have hh:Xv n (zf s.ino f.xs).es=true:=by
   unfold Xv
   rw[qE]
   cases hq:jl zX.name n (zf s.ino f.xs).es with
   | some e=>rfl
   | none=>unfold zM at hne;rw[hq]at hne;exact absurd rfl hne
  exact hf.led _ hg.2.1 _ (qq (X3 hh)).2
end
section
structure H6 (w:qk):Prop where
 fs:FsI w.fs
 kept:qC ju zK.slot w.kept
 pool:z8 w.pool
 apart:∀ x∈w.pool,zt x.ino w.fs.xs=false/\x.ino<w.fs.next
theorem Ui {f:FsV} (hf:FsI f) {n:Int} (h:zt n f.xs=true):n≠0:=fun e=>by
 have:=(hf.ino _ (zh h).2.1).1
 rw[(zh h).2.2]at this
 omega
theorem HL {f:FsV} (hf:FsI f) {d:Int} (hd:zt d f.xs=true) {n:List UInt8} (h:Xv n (zf d f.xs).es=true):zt (zM n (zf d f.xs).es) f.xs=true:=
 hf.led _ (zh hd).2.1 _ (qq (X3 h)).2
theorem zrA {f:FsV} (hf:FsI f) {p:List UInt8} (hp:qD p=true) (h:(atV f p).2=0) :
  zt (atV f p).1.dir f.xs=true/\(zf (atV f p).1.dir f.xs).kind=2/\(atV f p).1.ino=zM (atV f p).1.name (zf (atV f p).1.dir f.xs).es/\(atV f p).1.name∈zk p:=by
 unfold qD at hp
 simp only[Bool.and_eq_true,Bool.not_eq_true',decide_eq_false_iff_not]at hp
 unfold atV at h ⊢
 rw[if_pos hp.1]at h ⊢
 exact zku hf (zk p) ⟨0,[],1⟩ (fun _=>hf.root) h hp.2
theorem GM {f:FsV} (hf:FsI f) {p:List UInt8} (hp:qD p=true) (h:(isV f p true).2.2=0):zH f (isV f p true).1/\(isV f p true).2.1=zf (isV f p true).1.ino f.xs:=by
 unfold isV at h ⊢
 simp only at h ⊢
 by_cases h0:(atV f p).2≠0
 ·rw[if_pos h0]at h;exact absurd h h0
 rw[if_neg h0]at h
 have h0:(atV f p).2=0:=Classical.not_not.1 h0
 obtain ⟨a1,a2,a3,_⟩:=zrA hf hp h0
 refine ⟨⟨a1,a2,?_⟩,trivial⟩
 have hh:zt (atV f p).1.ino f.xs=true:=by
  cases hq:zt (atV f p).1.ino f.xs with
  | true=>rfl
  | false=>rw[hq]at h;simp at h
 have he:Xv (atV f p).1.name (zf (atV f p).1.dir f.xs).es=true:=by
  unfold Xv
  rw[qE]
  cases hq:jl zX.name (atV f p).1.name (zf (atV f p).1.dir f.xs).es with
  | some e=>rfl
  | none =>
   unfold zM at a3
   rw[hq]at a3
   exact absurd a3 (Ui hf hh)
 rw[X3 he,←a3]
theorem X5 {o:OpV} (h:QL o=true):qD o.a=true/\(znE o.kind=true->qD o.b=true)/\1<=o.kind/\o.kind<=10:=by
 unfold QL at h
 simp only[Bool.and_eq_true,decide_eq_true_eq]at h
 obtain ⟨⟨⟨⟨⟨⟨h1,h2⟩,h3⟩,h4⟩,h5⟩,h6⟩,h7⟩:=h
 exact ⟨h3,fun hb=>by rw[if_pos hb]at h5;exact h5,h1,h2⟩
theorem zlc {k:zK} {ks:List zK} (h:qC ju zK.slot ks) (hn:VS k.slot ks=false):qC ju zK.slot (qi k ks):=
 Hm h fun y hy e=>by
  unfold VS JV at hn
  rw[List.any_eq_false]at hn
  exact hn y hy (by simpa using e)
theorem Qc {f:FsV} {s:zZ} (h:zt s.dir f.xs=true) (hi:zt s.ino f.xs=true) (m:Int):zt m (zi f s).xs=if (zf s.ino f.xs).links-1=0 then (!decide (m=s.ino)&&zt m f.xs) else zt m f.xs:=by
 unfold zi
 split
 ·show zt m (zT _ _)=_
  rw[YA,JN h]
 ·show zt m (qP _ _)=_
  rw[VN,JN h]
  show (decide ((zf s.ino f.xs).ino=m)||_)=_
  rw[(zh hi).2.2]
  by_cases e:s.ino=m
  ·rw[←e,hi];simp
  ·simp[e]
theorem JK (f:FsV) (s:zZ):(zi f s).next=f.next:=by unfold zi;split<;>rfl
theorem xW {w:qk} (hw:H6 w) {n:Int} {s:zZ} (hs:zH w.fs s) (he:(zf s.ino w.fs.xs).es = []):H6 (qZ w n s).1:=by
 unfold qZ
 cases hn:VS n w.kept with
 | true=>rw[if_pos rfl];exact hw
 | false =>
  rw[if_neg (by simp)]
  have hi:=zH.ino hw.fs hs
  have hg:=zh hi
  have hf:=Ux hw.fs hs he
  refine ⟨hf,zlc hw.kept hn,?_,fun x hx=>?_⟩
  ·show z8 (if _ then _ else _)
   split
   ·exact Jp hw.pool
   ·exact hw.pool
  ·show zt x.ino (zi w.fs s).xs=false/\x.ino<(zi w.fs s).next
   rw[Qc hs.has hi,JK]
   have hx:x∈(if (zf s.ino w.fs.xs).links=1 then qP { zf s.ino w.fs.xs with links:=0,parent:=0 } w.pool else w.pool):=hx
   by_cases h1:(zf s.ino w.fs.xs).links=1
   ·rw[if_pos h1]at hx
    rw[if_pos (by omega)]
    rcases jY.1 hx with rfl | ⟨hx,_⟩
    ·refine ⟨?_,?_⟩
     ·show (!decide ((zf s.ino w.fs.xs).ino=s.ino)&&_)=false
      rw[hg.2.2];simp
     ·exact (hw.fs.ino _ hg.2.1).2
    ·obtain ⟨a1,a2⟩:=hw.apart x hx
     rw[a1,Bool.and_false]
     exact ⟨rfl,a2⟩
   ·rw[if_neg h1]at hx
    rw[if_neg (by omega)]
    exact hw.apart x hx
end
section
def zbw (N:Nat) (x:zn):Prop:=x.es.length<=N/\x.data.length<=5000/\∀ e∈x.es,e.name.length<=300
structure zr3 (N:Nat) (w:qk):Prop where
 len:w.fs.xs.length<=N
 node:∀ x∈w.fs.xs,zbw N x
 klen:w.kept.length<=N
 kdata:∀ k∈w.kept,k.data.length<=5000
 plen:w.pool.length<=N
 pnode:∀ x∈w.pool,zbw N x
 next:w.fs.next<=1099511627776+N
 room:w.fs.maxI<=1073741824/\w.fs.maxB<=1073741824/\-1073741824<=w.fs.maxI/\-1073741824<=w.fs.maxB
theorem zeY {n:List UInt8} (h:may n=true):n.length<=255:=by
 unfold may at h
 simp only[Bool.and_eq_true,decide_eq_true_eq]at h
 exact h.1.1.1.2
theorem NP {N:Nat} {x:zn} (h:zbw N x) (n:List UInt8):zbw N (jS x (zg n x.es)):=by
 refine ⟨?_,h.2.1,fun e he=>h.2.2 e (jK he).1⟩
 have:=NT (key:=zX.name) n x.es
 have:=h.1
 show (JJ zX.name n x.es).length<=N
 omega
theorem vS {N:Nat} {xs:List zn} (h:∀ x∈xs,zbw N x) {n:Int} (hh:zt n xs=true):zbw N (zf n xs):=h _ (zh hh).2.1
theorem zmC {N:Nat} {xs:List zn} {x:zn} (h:∀ x∈xs,zbw N x) (hx:zbw N x):∀ z∈qP x xs,zbw N z:=fun z hz=>by
 rcases jY.1 hz with rfl | ⟨hz,_⟩
 ·exact hx
 ·exact h z hz
theorem QQ {x:zn} {xs:List zn} (hR:z8 xs) (hh:zt x.ino xs=true):(qP x xs).length=xs.length:=by rw[←x8 hR hh];simp
theorem Z3 {xs:List zn} {n:Int} {F:List zX->List zX} (hR:z8 xs) (hh:zt n xs=true):(jk n F xs).length=xs.length:=by
 unfold jk
 refine QQ hR ?_
 show zt (zf n xs).ino xs=true
 rw[(zh hh).2.2];exact hh
theorem MC (k:zK) (ks:List zK):(qi k ks).length=ks.length+1:=HJ k ks
theorem zmL {N:Nat} {f:FsV} (hf:FsI f) (h1:f.xs.length<=N) (h2:∀ x∈f.xs,zbw N x) {s:zZ} (hs:zH f s):(zi f s).xs.length<=N/\(∀ x∈(zi f s).xs,zbw N x)/\(zi f s).next=f.next/\(zi f s).maxI=f.maxI/\(zi f s).maxB=f.maxB:=by
 have hi:=zH.ino hf hs
 have hd:∀ z∈jk s.dir (zg s.name) f.xs,zbw N z:=fun z hz=>by
  rcases (Xw hs.has).1 hz with rfl | ⟨hz,_⟩
  ·exact NP (vS h2 hs.has) _
  ·exact h2 z hz
 have hl:=Z3 (F:=zg s.name) hf.rises hs.has
 unfold zi
 split
 ·refine ⟨?_,fun x hx=>hd x (JQ.1 hx).1,rfl,rfl,rfl⟩
  show (zT _ _).length<=N
  exact Nat.le_trans VQ (by rw[hl];exact h1)
 ·refine ⟨?_,zmC hd (vS h2 hi),rfl,rfl,rfl⟩
  show (qP _ _).length<=N
  rw[QQ (show z8 (jk s.dir (zg s.name) f.xs) from Jp hf.rises) ?_,hl]
  ·exact h1
  ·show zt (zf s.ino f.xs).ino (jk _ _ _)=true
   rw[(zh hi).2.2,JN hs.has];exact hi
end
section
open CA CB
open Go.RowKit
section
variable {G:zo}
end
end
section
open CA CB
open Go.RowKit
abbrev XT (s:zZ):List C:=[.sc (.int .i64 s.dir),.str s.name,.sc (.int .i64 s.ino)]
theorem FsS.es {f:FsV} (h:FsS f) {n:Int} (hh:zt n f.xs=true):(zf n f.xs).es.length<=10000:=(h.node _ (zh hh).2.1).1
theorem Mq {xs:List (List UInt8)} {k:Nat} (h:k<xs.length):(zQ xs)[k]?=some [.str xs[k]]:=by simp[List.getElem?_map,List.getElem?_eq_getElem h]
theorem ue (f:FsV) (hf:FsI f) (hs:FsS f) (p:List UInt8) (hp:p.length<=100000):Fun Tryz.prog G0 179 [.agg (fsC f),.str p] (.tup [.agg (XT (atV f p).1),.sc (.int .i64 (atV f p).2)]) 0:=by
 have hpl:=MB p (by omega)
 have hlen:=hs.len
 have hnl:(zk p).length<=100000:=by have:=qo p;omega
 cases hpp:Jc p with
 | false =>
  have e:atV f p=(qL,9):=by unfold atV;rw[hpp];rfl
  unfold JL at hpl
  rw[hpp]at hpl
  refine fon Tryz.func179 ?_;dsimp only[Tryz.f179]
  push_cast -dsimp
  refine cl (hpl) ?_;push_cast -dsimp
  exact dn (by push_cast -dsimp [zb,za,CLe,zd,e,qL])
 | true =>
  have e:atV f p=atW f.xs (zk p) ⟨0,[],1⟩:=by unfold atV;rw[hpp];rfl
  unfold JL at hpl
  rw[hpp,if_pos rfl]at hpl
  generalize zk p=ns at hpl hnl e
  have hsl:(zQ ns).length=ns.length:=List.length_map ..
  refine fon Tryz.func179 ?_;dsimp only[Tryz.f179]
  push_cast -dsimp
  refine cl (hpl) ?_;push_cast -dsimp
  refine loop (fun x:Nat×zZ=>⟨[(1,.str p),(2,.ptr 0 0),(4,.ptr 1 0),(8,.ptr 2 0),(24,.own 0 9 1 (zQ ns)),(25,.sc (.int .i64 (ns.length:Nat))),(26,.sc (.int .i64 x.1))],[fsC f,[.sc (.int .i64 0),.str [],.sc (.int .i64 0)],XT x.2],1,0⟩)
   (fun x=>x.1<=ns.length/\atW f.xs ns ⟨0,[],1⟩=atW f.xs (ns.drop x.1) x.2/\(x.2.ino≠0->zt x.2.ino f.xs=true)) (fun x=>ns.length-x.1) (0,⟨0,[],1⟩) ⟨Nat.zero_le _,rfl,fun _=>hf.root⟩ ?_ ?_
  ·exact wks [.inl 0] (by push_cast -dsimp [zb,za,CLe,zd,hsl])
  rintro ⟨k,s⟩ ⟨hk,hat,hin⟩
  simp only at hk hat hin ⊢
  by_cases hlt:k<ns.length
  ·have gs:=Mq hlt
   have hdr:ns.drop k=ns[k] :: ns.drop (k+1):=List.drop_eq_getElem_cons hlt
   obtain ⟨nm,hnm⟩:∃ nm,ns[k]=nm:=⟨_,rfl⟩
   rw[hnm]at gs hdr
   have hg:=jH (G:=G0) f s.ino (by omega) hf.rises
   cases hh:zt s.ino f.xs with
   | false =>
    have h0:s.ino=0:=Classical.byContradiction fun hne=>by rw[hin hne]at hh;cases hh
    have hr:atV f p=(qL,1):=by rw[e,hat,hdr];unfold atW;rw[if_pos h0]
    rw[hh]at hg
    push_cast -dsimp [hlt,gs]
    repeat refine an ?_
    refine cl (hg) ?_;push_cast -dsimp
    exact dn (by push_cast -dsimp [zb,za,CLe,zd,hr,qL])
   | true =>
    have hn0:s.ino≠0:=Ui hf hh
    have hgg:=zh hh
    rw[hh]at hg
    by_cases hk2:(zf s.ino f.xs).kind=2
    ·have hfd:=MD (G:=G0) (zf s.ino f.xs).es nm (by have:=hs.es hh;omega) (hf.es _ hgg.2.1)
     have hnx:atW f.xs ns ⟨0,[],1⟩=atW f.xs (ns.drop (k+1)) ⟨(zf s.ino f.xs).ino,nm,zM nm (zf s.ino f.xs).es⟩:=by
      rw[hat,hdr]
      conv=>lhs;unfold atW
      rw[if_neg hn0,if_neg (by simp[hk2])]
     have hin2:zM nm (zf s.ino f.xs).es≠0->zt (zM nm (zf s.ino f.xs).es) f.xs=true:=fun hne=>by
      refine HL hf hh ?_
      unfold Xv
      rw[qE]
      cases hq:jl zX.name nm (zf s.ino f.xs).es with
      | some e=>rfl
      | none=>unfold zM at hne;rw[hq]at hne;exact absurd rfl hne
     push_cast -dsimp [hlt,gs]
     repeat refine an ?_
     refine cl (hg) ?_;push_cast -dsimp [hk2]
     refine cl (hfd) ?_;push_cast -dsimp
     repeat refine an ?_
     exact ⟨(k+1,⟨(zf s.ino f.xs).ino,nm,zM nm (zf s.ino f.xs).es⟩),⟨hlt,hnx,hin2⟩,by simp only;omega,wks [.inl 0]⟩
    ·have hr:atV f p=(qL,3):=by rw[e,hat,hdr];unfold atW;rw[if_neg hn0,if_pos hk2]
     push_cast -dsimp [hlt,gs]
     repeat refine an ?_
     refine cl (hg) ?_;push_cast -dsimp [hk2]
     exact dn (by push_cast -dsimp [zb,za,CLe,zd,hr,qL])
  ·have hr:atV f p=(s,0):=by rw[e,hat,List.drop_of_length_le (by omega)];unfold atW;rfl
   push_cast -dsimp [hlt]
   exact dn (by push_cast -dsimp [zb,za,CLe,zd,hr])
end
section
open CA CB
open Go.RowKit
abbrev zqT (f:FsV):Prop:=0<=f.next/\f.next<=4000000000000000000
theorem xz {f:FsV} (hf:FsI f):f.xs≠[]:=fun h=>by have:=hf.root;rw[h]at this;cases this
theorem zgq {f:FsV} (hf:FsI f) {n:Int} (hh:zt n f.xs=true):XO (zf n f.xs).es:=hf.es _ (zh hh).2.1
theorem Fun.argsLe {P:Program} {G:zo} {f:FuncId} {args args':List C} {r:C} {n:Nat} (h:Fun P G f args r n) (ha:∀ R vs,zu R zF args' vs->zu R zF args vs):Fun P G f args' r n:=
 ⟨h.1,fun R vs hg hv=>h.2 R vs hg (ha R vs hv)⟩
theorem zjM {R:Env} {L:Loc} {k:Nat} {v:Value} (h:Rep R L (.sc (.slice none 0 0)) v):Rep R L (.sl k []) v:=by
 rw[zm]at h
 subst h
 unfold Rep
 exact ⟨none,0,rfl,Nat.le_refl _,Nat.zero_le _,.inl rfl⟩
end
section
open CA CB
open Go.RowKit
theorem zcW {g:zn->Nat} {n:Nat}:∀ {xs:List zn},(∀ x∈xs,g x<=n)->jP g xs<=xs.length*n
 | [],_=>by simp[jP]
 | x :: r,h=>by
  have ih:=zcW (g:=g) (n:=n) (xs:=r) fun y hy=>h y (List.mem_cons_of_mem _ hy)
  have hx:=h x List.mem_cons_self
  unfold jP at ih ⊢
  simp only[List.map_cons,List.sum_cons,List.length_cons]
  rw[Nat.succ_mul];omega
theorem vT {f:FsV} (hf:FsI f) (hs:FsS f) {n:Int} (hh:zt n f.xs=true):0<=(zf n f.xs).links/\(zf n f.xs).links<=100000000:=by
 have h1:=hf.links _ (zh hh).2.1
 have h2:=zcW (g:=Hw (zf n f.xs).ino) (n:=10000) (xs:=f.xs) fun x hx=>Nat.le_trans (List.length_filter_le _ _) (hs.node x hx).1
 have h3:=hs.len
 have h4:f.xs.length*10000<=10000*10000:=Nat.mul_le_mul_right _ h3
 unfold VH at h1
 omega
theorem zaM (f:FsV) (hf:FsI f) (hs:FsS f) (s:zZ) (hsp:zH f s) (hne:s.dir≠s.ino):Fun Tryz.prog G0 222 [.agg (fsC f),.agg (XT s)] (.agg (fsC (zi f s))) 0:=by
 have hi:=zH.ino hf hsp
 have hlen:=hs.len
 have hg:=jH (G:=G0) f s.dir (by omega) hf.rises
 rw[hsp.has]at hg
 have hes:=hs.es hsp.has
 have hhe:JV zX.name s.name (zf s.dir f.xs).es=true:=by rw[qE,hsp.there];rfl
 have hw:=Nj (G:=G0) (zf s.dir f.xs).es s.name (by omega) (zgq hf hsp.has) hhe
 have hd1:=zeU (G:=G0) f (jS (zf s.dir f.xs) (zg s.name (zf s.dir f.xs).es)) (by omega) hf.rises
 have hdl:(jk s.dir (zg s.name) f.xs).length=f.xs.length:=Z3 hf.rises hsp.has
 have hR1:z8 (jk s.dir (zg s.name) f.xs):=Jp hf.rises
 have hg2:=jH (G:=G0) ⟨f.maxI,f.maxB,f.next,jk s.dir (zg s.name) f.xs⟩ s.ino (by simp only;omega) hR1
 simp only at hg2
 rw[JN hsp.has,hi,YQ hsp.has,if_neg hne]at hg2
 have hl:=vT hf hs hi
 have hxi:=(zh hi).2.2
 have hd2:=zeU (G:=G0) ⟨f.maxI,f.maxB,f.next,jk s.dir (zg s.name) f.xs⟩ { zf s.ino f.xs with links:=(zf s.ino f.xs).links-1 } (by simp only;omega) hR1
 have hd3:=zhj (G:=G0) ⟨f.maxI,f.maxB,f.next,jk s.dir (zg s.name) f.xs⟩ s.ino (by simp only;omega) hR1 (by intro h;have h0:f.xs = []:=List.length_eq_zero_iff.1 (by rw[←hdl];exact congrArg List.length h);exact xz hf h0)
 have e0:zi f s=if (zf s.ino f.xs).links-1=0 then ⟨f.maxI,f.maxB,f.next,zT s.ino (jk s.dir (zg s.name) f.xs)⟩ else ⟨f.maxI,f.maxB,f.next,qP { zf s.ino f.xs with links:=(zf s.ino f.xs).links-1 } (jk s.dir (zg s.name) f.xs)⟩:=rfl
 unfold jk at hg2 hd2 hd3 e0
 by_cases hz:(zf s.ino f.xs).links-1=0
 ·rw[if_pos hz]at e0
  have hz':=eq_true hz
  rw[←hxi]at hd3
  refine fon Tryz.func222 ?_;dsimp only[Tryz.f222]
  push_cast -dsimp
  refine cl (hg) ?_;push_cast -dsimp
  refine cl (hw) ?_;push_cast -dsimp
  refine cl (hd1) ?_;push_cast -dsimp
  refine cl (hg2) ?_;push_cast -dsimp [hz']
  repeat refine an ?_
  refine cl (hd3) ?_;push_cast -dsimp
  exact dn (by push_cast -dsimp [zb,za,CLe,zd,e0,hxi])
 ·rw[if_neg hz]at e0
  have hz':=eq_false hz
  refine fon Tryz.func222 ?_;dsimp only[Tryz.f222]
  push_cast -dsimp
  refine cl (hg) ?_;push_cast -dsimp
  refine cl (hw) ?_;push_cast -dsimp
  refine cl (hd1) ?_;push_cast -dsimp
  refine cl (hg2) ?_;push_cast -dsimp [hz']
  repeat refine an ?_
  refine cl (hd2) ?_;push_cast -dsimp
  exact dn (by push_cast -dsimp [zb,za,CLe,zd,e0])
end
section
open CA CB
open Go.RowKit
end
section
open Go.RowKit
section
variable {G:zo}
theorem Hs (rows:List (List C)) (hk:∀ r∈rows,r.length=4) (hs:jA rows) (hl:rows.length<=100000) :
  Xc Tryz.prog G 253 [.sl 4 rows] [] 0 (zky 4 rows):=by
 refine Xc.bySlice (fun h=>?_) (fun h a cap hr=>?_)
 ·refine foX (fun i=>if i=1000000+25 then [true,true] else []) Tryz.func253 ?_;dsimp only[Tryz.f253]
  push_cast -dsimp
  refine ⟨h,Uq UO Ur rfl rfl (by decide) rfl (qu hk) rfl (Nat.le_refl _) (Nat.le_refl _) (by omega) (by omega) (fun hc=>absurd hc ?_) (fun _ c hc hm=>?_)⟩
  ·have:=List.length_pos_iff.2 h;omega
  ·push_cast -dsimp
   rw[Nat.zero_add]at hc
   refine ⟨_,_,_,⟨⟨rfl,.inl ⟨h,c,hc,hm,rfl,rfl⟩⟩,Nat.zero_le _⟩,[],rfl,rfl,?_,by push_cast -dsimp [zb,za,CLe,zd]⟩
   push_cast -dsimp [zb,za,CLe,zd]
   exact zO (zG hs)
 ·cases a with
  | none =>
   refine foX (fun i=>if i=1000000+25 then [true,true] else []) Tryz.func253 ?_;dsimp only[Tryz.f253]
   push_cast -dsimp [hr,Option.isNone_none]
   exact ⟨_,_,_,⟨⟨rfl,.inr ⟨h,.inl ⟨rfl,rfl⟩⟩⟩,Nat.zero_le _⟩,[],rfl,rfl,by push_cast -dsimp [zb,za,CLe,zd],by push_cast -dsimp [zb,za,CLe,zd]⟩
  | some a =>
   refine foX (fun i=>if i=1000000+25 then [true,true] else []) Tryz.func253 ?_;dsimp only[Tryz.f253]
   push_cast -dsimp [hr,Option.isNone_some]
   have hx:C.xs? 4 [[]] (C.sc (.slice (some a) 0 cap))=some (0,[]):=by simp[C.xs?,hr]
   refine Uq UO Ur hx rfl (by decide) rfl rfl rfl (Nat.le_refl _) (Nat.le_refl _) (by omega) (by omega) (fun _=>?_) (fun hc=>absurd hc (by omega))
   push_cast -dsimp
   exact ⟨_,_,_,⟨⟨rfl,.inr ⟨h,.inr ⟨rfl,rfl⟩⟩⟩,Nat.zero_le _⟩,[],rfl,rfl,by (push_cast -dsimp [zb,za,CLe,zd];simp[spl,zd]),by push_cast -dsimp [zb,za,CLe,zd]⟩
theorem VR (rows:List (List C)) (x:List C) (i c e:Nat) (hk:∀ r∈rows,r.length=4) (hx:x.length=4) (hs:jA rows) (hsx:(x.all C.stayB)=true) (hl:rows.length<=100000) (hi:i<=rows.length) (hc:rows.length<=c) (hcm:c<=9223372036854775807) :
  Xc Tryz.prog G 252 [.bs 0 0 4 rows.length c,.sc (.int .i64 i),.own 0 e 4 [x]] [qF 4 rows c] 1 (zq8 4 (c*4) (rows.take i++x :: rows.drop i)):=by
 refine foX (fun j=>if j=1000000+25 then [true,true] else if j=11 then [false,false,false,false,false,false,false,false,true] else if j=15 then [false,false,false,false,false,false,false,false,true] else []) Tryz.func252 ?_;dsimp only[Tryz.f252]
 push_cast -dsimp
 have hlen:(rows.take i++x :: rows.drop i).length=rows.length+1:=by simp;omega
 have hki:∀ r∈rows.take i++x :: rows.drop i,r.length=4:=fun r hr=>by
  rcases List.mem_append.1 hr with hr | hr
  ·exact hk r (List.mem_of_mem_take hr)
  ·rcases List.mem_cons.1 hr with rfl | hr
   ·exact hx
   ·exact hk r (List.mem_of_mem_drop hr)
 have hsi:jA (rows.take i++x :: rows.drop i):=fun r hr=>by
  rcases List.mem_append.1 hr with hr | hr
  ·exact hs r (List.mem_of_mem_take hr)
  ·rcases List.mem_cons.1 hr with rfl | hr
   ·exact hsx
   ·exact hs r (List.mem_of_mem_drop hr)
 have hbl:=J6 hk hc
 have hfl:=qu hk
 have hxl:[x].flatten.length=1*4:=by simp[hx]
 have hpre:(qF 4 rows c).take rows.flatten.length=rows.flatten:=by unfold qF;rw[List.take_left]
 refine ⟨hc,⟨by omega,hi⟩,br (fun h=>?_) (fun h=>?_)⟩
 ·push_cast -dsimp
  refine Uq UO Ur rfl rfl (by decide) rfl hxl rfl (by rw[hbl];omega) hc (by simp;omega) (by simp;omega) (fun h1=>?_) (fun h1 c' h2 h3=>?_)
  ·push_cast -dsimp
   have hi':i=rows.length:=of_decide_eq_true h
   refine ⟨_,_,_,⟨⟨rfl,c,by rw[hlen];exact h1,hcm,.inl ⟨rfl,rfl⟩⟩,Nat.le_refl _⟩,[],rfl,rfl,?_,by push_cast -dsimp [zb,za,CLe,zd,hlen]⟩
   push_cast -dsimp [zb,za,CLe,zd]
   have h6:rows.length*4+4<=c*4:=by have:rows.length+1<=c:=h1;omega
   refine YX hki hsi (by rw[hlen];exact h1) (by rw[ZB (by rw[hbl,hx];exact h6),hbl]) ?_
   rw[hlen,hi',List.take_length,List.drop_length]
   unfold spl
   rw[←hfl,hpre,List.take_left' (by simp[hx,hfl];omega)]
   simp
  ·push_cast -dsimp
   have hi':i=rows.length:=of_decide_eq_true h
   have h2':rows.length+1<=c':=h2
   refine ⟨_,_,_,⟨⟨rfl,c',by rw[hlen];exact h2,h3,.inr ⟨rfl,rfl⟩⟩,Nat.le_of_ble_eq_true rfl⟩,[],rfl,rfl,?_,by push_cast -dsimp [zb,za,CLe,zd,hlen]⟩
   push_cast -dsimp [zb,za,CLe,zd]
   refine ⟨Qy hbl,YX hki hsi (by rw[hlen];exact h2) (by simp[hx,hbl];omega) ?_⟩
   rw[hlen,hi',List.take_length,List.drop_length,←hfl,hpre,List.take_left' (by simp[hx,hfl];omega)]
   simp
 ·have hne:i≠rows.length:=of_decide_eq_false h
  push_cast -dsimp
  refine ⟨⟨by omega,by omega⟩,br (fun h1=>?_) (fun h1=>?_)⟩
  ·have h1':(c:Int)<(rows.length:Int)+1:=of_decide_eq_true h1
   push_cast -dsimp
   repeat refine an ?_
   refine znY UO zox Ur rfl (by decide) rfl rfl (by rw[hbl];omega) (by omega) (by omega) (by omega) (by omega) (by omega) (fun c' B h2 h3 hBl hBt=>?_)
   have e1:((rows.length:Int)+1-(i:Int)).toNat=rows.length+1-i:=by omega
   rw[e1]at h2 ⊢
   have e2:i+(rows.length+1-i)=rows.length+1:=by omega
   rw[e2]at h2 ⊢
   push_cast -dsimp
   repeat refine an ?_
   refine Vu UO Ur rfl rfl hxl (by rw[hBl];omega) (fun B1 hB1 hl1=>?_)
   rw[hBl]at hl1
   push_cast -dsimp
   repeat refine an ?_
   have hbp:=QX (c:=c) hk hi
   refine Vu UO Ur (Ne rfl (by rw[hbl];omega)) rfl (by rw[hbp,List.length_drop,hfl];omega) (by rw[hl1];omega) (fun B2 hB2 hl2=>?_)
   rw[hl1]at hl2
   have hX:[x].flatten.take (min [x].length (rows.length+1-i)*4)=x:=by
    rw[List.length_singleton,Nat.min_eq_left (by omega),List.take_of_length_le (by omega)];simp
   rw[hX]at hB1
   rw[hbp,show min (rows.length-i) (rows.length-i)*4=(rows.length-i)*4 by omega,List.take_of_length_le (by rw[List.length_drop,hfl];omega),hB1]at hB2
   push_cast -dsimp
   refine ⟨_,_,_,⟨⟨rfl,c',by rw[hlen];exact h2,h3,.inr ⟨rfl,rfl⟩⟩,Nat.le_of_ble_eq_true rfl⟩,[],rfl,rfl,?_,by push_cast -dsimp [zb,za,CLe,zd,hlen]⟩
   push_cast -dsimp [zb,za,CLe,zd]
   refine ⟨Qy hbl,YX hki hsi (by rw[hlen];exact h2) hl2 ?_⟩
   rw[hlen,←VO hk,hB2]
   have hg:=uk (cs:=B) (L:=rows.flatten) (X:=x) (p:=i*4) (q:=(i+1)*4) (by omega) (by omega) (by
    rw[hBt,List.drop_zero];unfold qF;rw[List.take_append_of_le_length (by omega)]) (by omega)
   rw[hfl,hx]at hg
   rw[←hg]
   congr 1;omega
  ·have h1':¬(c:Int)<(rows.length:Int)+1:=of_decide_eq_false h1
   push_cast -dsimp
   repeat refine an ?_
   refine zpY (zgb (P:=Tryz.prog) (tR:=4) Tryz.func271 (by kernel_rfl) (by kernel_rfl) (by kernel_rfl) (by kernel_rfl) UO Ur rfl (List.ne_nil_of_length_pos (by rw[hbl];omega)) (by simp) (by omega)) ?_
   push_cast -dsimp
   repeat refine an ?_
   have hbp:=QX (c:=c) hk hi
   refine Vu UO Ur (Ne rfl (by rw[hbl];omega)) rfl (by simp[hbl];omega) (by rw[hbl];omega) (fun B1 hB1 hl1=>?_)
   rw[hbl]at hl1
   rw[List.take_take,Nat.min_eq_left (by omega),show min (rows.length+1-i) (rows.length-i)*4=(rows.length-i)*4 by omega,hbp]at hB1
   push_cast -dsimp
   repeat refine an ?_
   refine Vu UO Ur rfl rfl hxl (by rw[hl1];omega) (fun B2 hB2 hl2=>?_)
   rw[hl1]at hl2
   have hX:[x].flatten.take (min [x].length (rows.length+1-i)*4)=x:=by
    rw[List.length_singleton,Nat.min_eq_left (by omega),List.take_of_length_le (by omega)];simp
   rw[hX,hB1]at hB2
   push_cast -dsimp
   have hcc:rows.length+1<=c:=by omega
   refine ⟨_,_,_,⟨⟨rfl,c,by rw[hlen];exact hcc,hcm,.inl ⟨rfl,rfl⟩⟩,Nat.le_of_ble_eq_true rfl⟩,[],rfl,rfl,?_,by push_cast -dsimp [zb,za,CLe,zd,hlen]⟩
   push_cast -dsimp [zb,za,CLe,zd]
   refine YX hki hsi (by rw[hlen];exact hcc) hl2 ?_
   rw[hlen,←VO hk,hB2]
   have hg:=N3 (cs:=qF 4 rows c) (L:=rows.flatten) (X:=x) (p:=i*4) (q:=(i+1)*4) (by omega) (by omega) hpre (by omega)
   rw[hfl,hx]at hg
   rw[←hg]
   congr 1;omega
theorem uu {e:Nat} (x:List C) (hx:x.length=4) (hsx:(x.all C.stayB)=true) :
  Xc Tryz.prog G 252 [.sc (.slice none 0 0),.sc (.int .i64 0),.own 0 e 4 [x]] [] 1 (fun r bx' n=>n=0/\∃ c,1<=c/\c<=9223372036854775807/\r = .bs 0 0 4 1 c/\bx' = [qF 4 [x] c]):=by
 refine foX (fun j=>if j=1000000+25 then [true,true] else if j=11 then [false,false,false,false,false,false,false,false,true] else if j=15 then [false,false,false,false,false,false,false,false,true] else []) Tryz.func252 ?_;dsimp only[Tryz.f252]
 push_cast -dsimp
 refine uo UO Ur rfl rfl (by decide) rfl (by simp[hx]) (by simp) (by simp) (by simp) (fun c h1 h2=>?_)
 push_cast -dsimp
 refine ⟨_,_,_,⟨⟨rfl,c,h1,h2,rfl,rfl⟩,Nat.zero_le _⟩,[],rfl,rfl,?_,by push_cast -dsimp [zb,za,CLe,zd]⟩
 push_cast -dsimp [zb,za,CLe,zd]
 have:=zO (src:=[]) (n:=1) (zG (k:=4) (c:=c) (rows:=[x]) fun r hr=>by
  rw[List.mem_singleton.1 hr];exact hsx)
 unfold qF at this ⊢
 simpa using this
end
end
section
open CA CB
open Go.RowKit
abbrev jF (k:zK):List C:=[.sc (.int .i64 k.slot),.sc (.int .i64 k.ino),.sc (.bool k.content),.str k.data]
abbrev zC (ks:List zK):List (List C):=ks.map jF
theorem ji (ks:List zK) (i:Nat) (h:i<ks.length):(zC ks)[i]?=some (jF ks[i]):=by simp[List.getElem?_map,List.getElem?_eq_getElem h]
abbrev QJ (w:qk):List C:=[.sc (.int .i64 w.fs.maxI),.sc (.int .i64 w.fs.maxB),.sc (.int .i64 w.fs.next),.sl 6 (zp w.fs.xs),.sl 4 (zC w.kept),.sl 6 (zp w.pool)]
abbrev Yp (w:qk):C:=.agg (QJ w)
theorem zdU (a b:Int):VX a b<0↔ju.lt a b=true:=by
 show VX a b<0↔decide (a<b)=true
 unfold VX
 rw[decide_eq_true_eq]
 split
 ·simp;assumption
 ·split<;>omega
theorem zfc (a b:Int):VX a b=0↔a=b:=by
 unfold VX
 split
 ·constructor
  ·intro h;cases h
  ·intro h;omega
 ·split
  ·constructor
   ·intro h;cases h
   ·intro h;omega
  ·constructor
   ·intro _;omega
   ·intro _;rfl
section
variable {G:zo}
theorem zj5 (k:zK):Fun Tryz.prog G 247 [.agg (jF k)] (.sc (.int .i64 k.slot)) 0:=by
 refine fon Tryz.func247 ?_;dsimp only[Tryz.f247]
 push_cast -dsimp
 exact dn
theorem uZ (k:zK) (n:Int):Fun Tryz.prog G 268 [.agg (jF k),.sc (.int .i64 n),.row [.clo (.func 247) [] []]] (.sc (.int .i64 (VX k.slot n))) 0:=by
 refine fon Tryz.func268 ?_;dsimp only[Tryz.f268]
 push_cast -dsimp
 refine cl (zj5 k) ?_;push_cast -dsimp
 refine cl (vv k.slot n) ?_;push_cast -dsimp
 exact dn
theorem NR (ks:List zK) (n:Int) (hl:ks.length<=100000) (hR:qC ju zK.slot ks) :
  Fun Tryz.prog G 267 [.sl 4 (zC ks),.sc (.int .i64 n),.clo (.func 268) [] [.row [.clo (.func 247) [] []]]] (.tup [.sc (.int .i64 (qn ju zK.slot n ks:Nat)),.sc (.bool (JV zK.slot n ks))]) 0:=by
 refine fon Tryz.func267 ?_;dsimp only[Tryz.f267]
 push_cast -dsimp
 refine loop (fun p:Nat×Nat=>⟨[(0,.sl 4 (zC ks)),(1,.sc (.int .i64 n)),(2,.clo (.func 268) [] [.row [.clo (.func 247) [] []]]),(8,.sc (.int .i64 (ks.length:Nat))),(9,.sc (.int .i64 p.1)),(10,.sc (.int .i64 p.2))],[],0,0⟩)
  (fun p=>p.1<=p.2/\p.2<=ks.length/\(∀ t (h:t<ks.length),t<p.1->(ju).lt (zK.slot ks[t]) n=true)/\∀ t (h:t<ks.length),p.2<=t->(ju).lt (zK.slot ks[t]) n=false) (fun p=>p.2-p.1) (0,ks.length) ⟨Nat.zero_le _,Nat.le_refl _,fun t _ h=>by (simp at h),fun t h h'=>by (dsimp only at h';omega)⟩ ?_ ?_
 ·exact wk (by push_cast -dsimp [zb,za,CLe,zd,List.length_map])
 ·rintro ⟨i,j⟩ ⟨h1,h2,h3,h4⟩
  dsimp only at h1 h2 h3 h4 ⊢
  by_cases h:i<j
  ·obtain ⟨m,hm⟩:∃ m,m=(i+j) / 2:=⟨_,rfl⟩
   have hmi:((i:Int)+(j:Int)) / 2=(m:Int):=by omega
   have hml:m<ks.length:=by omega
   have hat:=ji ks m hml
   have hlt:=(zdU ks[m].slot n)
   push_cast -dsimp [h,hmi,hat]
   repeat refine an ?_
   refine cl ((uZ ks[m] n)) ?_;push_cast -dsimp
   cases hc:(ju).lt (zK.slot ks[m]) n with
   | true =>
    have hcv:(VX ks[m].slot n<0)=True:=eq_true (hlt.mpr hc)
    push_cast -dsimp [hcv]
    repeat refine an ?_
    refine ⟨(m+1,j),⟨by omega,h2,fun t ht hlt2=>?_,h4⟩,by dsimp only;omega,wk⟩
    dsimp only at hlt2
    rcases Nat.lt_or_ge t m with q | q
    ·exact (ju).tr ((List.pairwise_iff_getElem.1 hR) t m ht hml q) hc
    ·have:t=m:=by omega
     subst this;exact hc
   | false =>
    have hcv:(VX ks[m].slot n<0)=False:=eq_false (fun e=>by have h7:(ju).lt (zK.slot ks[m]) n=true:=hlt.mp e;rw[hc]at h7;cases h7)
    push_cast -dsimp [hcv]
    repeat refine an ?_
    refine ⟨(i,m),⟨by omega,by omega,h3,fun t ht hge=>?_⟩,by dsimp only;omega,wk⟩
    dsimp only at hge
    rcases Nat.lt_or_ge m t with q | q
    ·cases h9:(ju).lt (zK.slot ks[t]) n with
     | false=>rfl
     | true=>have:=(ju).tr ((List.pairwise_iff_getElem.1 hR) m t hml ht q) h9;rw[hc]at this;cases this
    ·have:t=m:=by omega
     subst this;exact hc
  ·have hij:i=j:=by omega
   subst hij
   have hrk:=Zg (o:=ju) (key:=zK.slot) n ks i h2 h3 h4
   push_cast -dsimp [h]
   refine br (fun hx=>?_) (fun hx=>?_)
   ·have hx:i<ks.length:=by simpa using hx
    have hat:=ji ks i hx
    have hh:=yB n hR hrk hx
    push_cast -dsimp [hx,hat]
    repeat refine an ?_
    refine cl ((uZ ks[i] n)) ?_;push_cast -dsimp
    have hcv:decide (VX ks[i].slot n=0)=JV zK.slot n ks:=by
     rw[hh]
     exact decide_eq_decide.2 (zfc ks[i].slot n)
    push_cast -dsimp [hcv]
    exact dn (by push_cast -dsimp [zb,za,CLe,zd,hrk])
   ·have hx:¬i<ks.length:=by simpa using hx
    have hh:=GQ n hR (by omega)
    push_cast -dsimp [hx]
    exact dn (by push_cast -dsimp [zb,za,CLe,zd,hrk,hh])
theorem yI (ks:List zK) (n:Int) (hl:ks.length<=100000) (hR:qC ju zK.slot ks):Fun Tryz.prog G 246 [.sl 4 (zC ks),.sc (.int .i64 n),.clo (.func 247) [] []] (.tup [.sc (.int .i64 (qn ju zK.slot n ks:Nat)),.sc (.bool (JV zK.slot n ks))]) 0:=by
 refine fon Tryz.func246 ?_;dsimp only[Tryz.f246]
 push_cast -dsimp
 refine znW [.sl 4 (zC ks),.sc (.int .i64 n),.clo (.func 268) [] [.row [.clo (.func 247) [] []]]] (NR ks n hl hR) rfl ?_ ?_
 ·simp[Xl,XI,C.frz,C.frzL]
 push_cast -dsimp
 exact dn
def Uc (n:Int) (ks:List zK):zK:=(jl zK.slot n ks).getD zdj
theorem zdS (w:qk) (n:Int) (hl:w.kept.length<=100000) (hR:qC ju zK.slot w.kept):Fun Tryz.prog G 221 [Yp w,.sc (.int .i64 n)] (.tup [.agg (jF (Uc n w.kept)),.sc (.bool (VS n w.kept))]) 0:=by
 obtain ⟨_,_,h3,h4⟩:=kC n hR
 have h:=yI (G:=G) w.kept n hl hR
 cases hh:JV zK.slot n w.kept with
 | false =>
  have hf:Uc n w.kept=zdj:=by unfold Uc;rw[(h4 hh).1];rfl
  have he:VS n w.kept=false:=hh
  rw[hh]at h
  refine fon Tryz.func221 ?_;dsimp only[Tryz.f221]
  push_cast -dsimp
  refine cl (h) ?_;push_cast -dsimp
  exact dn (by push_cast -dsimp [zb,za,CLe,zd,hf,he,zdj])
 | true =>
  obtain ⟨hlt,_,g2,_⟩:=h3 hh
  have hf:Uc n w.kept=w.kept[qn ju zK.slot n w.kept]:=by unfold Uc;rw[g2];rfl
  have he:VS n w.kept=true:=hh
  have hat:=ji w.kept _ hlt
  rw[hh]at h
  refine fon Tryz.func221 ?_;dsimp only[Tryz.f221]
  push_cast -dsimp
  refine cl (h) ?_;push_cast -dsimp [hat]
  repeat refine an ?_
  exact dn (by push_cast -dsimp [zb,za,CLe,zd,hf,he])
end
end
section
open Go.RowKit Go.ChangeMaps Go.ChangeShapes Go.WideShapes Go.Deep Go.Joins
section
variable {H:Type} {enc:TypeId×Value->H} {P:Program} {W:World}
theorem ja.two {t:TypeId} {f1 f2:Field} {k1 k2:Nat} {Q1 Q2:List C->Prop} (hs:P.underlying t=some (.struct #[f1,f2])) (h1:ja enc P W f1.type k1 Q1) (h2:ja enc P W f2.type k2 Q2)
  (e1:f1.offset=0) (e2:P.cellsOf f1.type=k1) (e3:f2.offset=k1) (e4:P.cellsOf f2.type=k2) (e5:P.cellsOf t=k1+k2):ja enc P W t (k1+k2) fun row=>∃ a b,row=a++b/\Q1 a/\Q2 b:=fun fuel cs x hx=>by
 obtain ⟨ys,n',hn',hy,hlen,hyl,hf⟩:=DataW.trod_struct hs hx
 rw[e5]at hlen
 have g1:=hf 0 f1 rfl
 have g2:=hf 1 f2 rfl
 have hy2:ys.length=2:=by simpa using hyl
 rw[e1,e2,List.drop_zero,List.getElem?_eq_getElem (by omega)]at g1
 rw[e3,e4,List.getElem?_eq_getElem (by omega)]at g2
 obtain ⟨a,qa,la,la',ra⟩:=h1 _ _ _ g1
 obtain ⟨b,qb,lb,lb',rb⟩:=h2 _ _ _ g2
 refine ⟨a++b,⟨a,b,rfl,qa,qb⟩,by rw[List.length_append,la,lb],hlen,fun j c v h3 h4=>?_⟩
 rcases Nat.lt_or_ge j k1 with hj | hj
 ·rw[List.getElem?_append_left (by omega)]at h3
  exact ra j c v h3 (by rw[List.getElem?_take_of_lt hj];exact h4)
 ·rw[List.getElem?_append_right (by omega),la]at h3
  have hjl:=(List.getElem?_eq_some_iff.1 h3).1
  refine rb (j-k1) c v h3 ?_
  rw[List.getElem?_take_of_lt (by omega),List.getElem?_drop,show k1+(j-k1)=j by omega];exact h4
theorem zin:ja enc Tryz.prog W 94 4 fun row=>∃ o:zK,row=jF o/\o.data.length<=maxLen:=fun fuel cs x hx=>by
 obtain ⟨row,⟨hl,hq⟩,h1,h2,h3⟩:=ja.struct (W:=W) (enc:=enc) (Qs:=fun j c=>match j with | 0=>∃ n,c = .sc (.int .i64 n)/\(Lit.int .i64 n).wf=true | 1=>∃ n,c = .sc (.int .i64 n)/\(Lit.int .i64 n).wf=true | 2=>∃ b,c = .sc (.bool b) | 3=>∃ l:List UInt8,c = .str l/\l.length<=maxLen | _=>True) Tryz.underlying94 (by kernel_rfl) (by kernel_rfl) (fun j f hj=>by
  match j,hj with
  | 0,hj=>cases hj;exact Opn.int Tryz.underlying3
  | 1,hj=>cases hj;exact Opn.int Tryz.underlying3
  | 2,hj=>cases hj;exact Opn.bool Tryz.underlying4
  | 3,hj=>cases hj;exact Opn.str Tryz.underlying9
  | j+4,hj=>simp at hj) fuel cs x hx
 match row,h1,hq,h3 with
 | [c0,c1,c2,c3],_,hq,h3 =>
  obtain ⟨a,rfl,_⟩:=hq 0 c0 rfl
  obtain ⟨b,rfl,_⟩:=hq 1 c1 rfl
  obtain ⟨c,rfl⟩:=hq 2 c2 rfl
  obtain ⟨d,rfl,hd⟩:=hq 3 c3 rfl
  exact ⟨_,⟨⟨a,b,c,d⟩,rfl,hd⟩,rfl,h2,h3⟩
theorem zdY:Opn enc Tryz.prog W 25 fun c=>∃ xs:List zK,c = .sl 4 (zC xs)/\xs.length<=maxLen/\∀ x∈xs,x.data.length<=maxLen:=fun fuel cs x hx=>by
 obtain ⟨v,c,rfl,⟨rows,rfl,hl,hr⟩,h1,h2⟩:=Opn.slice (W:=W) (enc:=enc) Tryz.underlying25 (show Tryz.prog.cellsOf 94=4 by kernel_rfl) (by decide) zin fuel cs x hx
 obtain ⟨xs,rfl,hq⟩:=GA hr
 exact ⟨v,_,rfl,⟨xs,rfl,by simpa using hl,hq⟩,h1,h2⟩
theorem zgL:ja enc Tryz.prog W 27 2 fun row=>∃ (ks:List zK) (pool:List zn),row = [.sl 4 (zC ks),.sl 6 (zp pool)]/\ks.length<=maxLen/\pool.length<=maxLen:=fun fuel cs x hx=>by
 obtain ⟨row,⟨hl,hq⟩,h1,h2,h3⟩:=ja.struct (W:=W) (enc:=enc) (Qs:=fun j c=>match j with | 0=>∃ xs:List zK,c = .sl 4 (zC xs)/\xs.length<=maxLen/\∀ x∈xs,x.data.length<=maxLen | 1=>∃ xs:List zn,c = .sl 6 (zp xs)/\xs.length<=maxLen/\∀ x∈xs,zdO x | _=>True) Tryz.underlying27 (by kernel_rfl) (by kernel_rfl) (fun j f hj=>by
  match j,hj with
  | 0,hj=>cases hj;exact zdY
  | 1,hj=>cases hj;exact zaa
  | j+2,hj=>simp at hj) fuel cs x hx
 match row,h1,hq,h3 with
 | [c0,c1],_,hq,h3 =>
  obtain ⟨a,rfl,ha,_⟩:=hq 0 c0 rfl
  obtain ⟨b,rfl,hb,_⟩:=hq 1 c1 rfl
  exact ⟨_,⟨a,b,rfl,ha,hb⟩,rfl,h2,h3⟩
theorem zgj:ja enc Tryz.prog W 29 6 fun row=>∃ w:qk,row=QJ w/\w.fs.xs.length<=maxLen:=fun fuel cs x hx=>by
 obtain ⟨row,⟨a,b,rfl,⟨f,rfl,hf,_⟩,⟨ks,pool,rfl,_⟩⟩,h1,h2,h3⟩:=ja.two (W:=W) (enc:=enc) Tryz.underlying29 zo2 zgL rfl (by kernel_rfl) rfl (by kernel_rfl) (by kernel_rfl) fuel cs x hx
 exact ⟨_,⟨⟨f,ks,pool⟩,rfl,hf⟩,h1,h2,h3⟩
end
end
section
open CA CB
open Go.RowKit
section
variable {G:zo}
theorem zR {ks:List zK}:∀ r∈zC ks,r.length=4:=fun r hr=>by
 obtain ⟨x,_,rfl⟩:=List.mem_map.1 hr;rfl
theorem zq {ks:List zK}:jA (zC ks):=fun r hr=>by
 obtain ⟨x,_,rfl⟩:=List.mem_map.1 hr;rfl
theorem zgG (w:qk) (k:zK) (hl:w.kept.length<=90000) (hR:qC ju zK.slot w.kept) (hn:VS k.slot w.kept=false):Fun Tryz.prog G 227 [Yp w,.agg (jF k)] (Yp { w with kept:=qi k w.kept }) 0:=by
 obtain ⟨_,_,h3,h4⟩:=kC (o:=ju) k.slot hR
 have hll:(zC w.kept).length=w.kept.length:=List.length_map ..
 have hat:=yI (G:=G) w.kept k.slot (by omega) hR
 have hrl:=VW (o:=ju) (key:=zK.slot) k.slot w.kept
 have hn':JV zK.slot k.slot w.kept=false:=hn
 rw[hn']at hat
 have hw:qi k w.kept=w.kept.take (qn ju zK.slot k.slot w.kept)++k :: w.kept.drop (qn ju zK.slot k.slot w.kept):=(h4 hn').2.2 k rfl
 have hset:zC (qi k w.kept)=(zC w.kept).take (qn ju zK.slot k.slot w.kept)++jF k :: (zC w.kept).drop (qn ju zK.slot k.slot w.kept):=by rw[hw];simp
 have hsl:(zC (qi k w.kept)).length=(zC w.kept).length+1:=by rw[hset];simp;omega
 refine foF (fun i=>if i=2 then V1 [(0,.pure),(1,.pure),(2,.pure),(4,.pure),(5,.pure),(6,.pure),(3,.flt [3,4,5]),(7,.bar),(8,.pure),(9,.pure),(10,.bar)] else []) Tryz.func227 ?_;dsimp only[Tryz.f227]
 push_cast -dsimp
 refine cl (hat) ?_;push_cast -dsimp
 refine zmh [] (Hs (zC w.kept) zR zq (by omega)) (by decide) (by simp) (by push_cast -dsimp) (by push_cast -dsimp) (fun r bx' m hp=>?_)
 obtain ⟨rfl,⟨hne,c,h1,h2,rfl,rfl⟩ | ⟨he,⟨rfl,rfl⟩ | ⟨rfl,rfl⟩⟩⟩:=hp
 ·have hbl:=J6 zR h1
  have hre:∀ fp fo,C.reL fp fo (qF 4 (zC w.kept) c)=qF 4 (zC w.kept) c:=fun fp fo=>zE (zG zq)
  have hpos:=List.length_pos_iff.2 hne
  have hre2:∀ fp fo c,C.reL fp fo (qF 4 (zC (qi k w.kept)) c)=qF 4 (zC (qi k w.kept)) c:=fun fp fo c=>zE (zG zq)
  push_cast -dsimp [hre]
  refine j7 [4] [0] (VR (e:=94) (zC w.kept) (jF k) (qn ju zK.slot k.slot w.kept) c zR rfl zq rfl (by omega) (by omega) h1 h2) rfl (by decide) (by decide) (by simp) (by push_cast -dsimp) (by push_cast -dsimp [hre]) (fun r bx' m hp=>?_)
  rw[←hset]at hp
  obtain ⟨rfl,c',g1,g2,⟨rfl,rfl⟩ | ⟨rfl,rfl⟩⟩:=hp
  ·push_cast -dsimp [hre2,hre]
   exact ⟨[(4,94,4,zC (qi k w.kept),c')],[],zB rfl (by omega) g1 g2 zR zq,rfl,rfl,by push_cast -dsimp [zb,za,CLe,zd]⟩
  ·have hra:∀ fp fo,C.reL fp fo (List.replicate (c*4) .any)=List.replicate (c*4) .any:=fun fp fo=>zE (by simp[List.all_replicate,C.stayB])
   push_cast -dsimp [hre2,hre,hra]
   exact ⟨[(5,94,4,zC (qi k w.kept),c')],[],zB rfl (by omega) g1 g2 zR zq,rfl,rfl,by push_cast -dsimp [zb,za,CLe,zd]⟩
 ·have he:w.kept = []:=by simpa using he
  have hr0:qn ju zK.slot k.slot w.kept=0:=by rw[he];rfl
  have hs1:qi k w.kept = [k]:=by rw[he];rfl
  push_cast -dsimp [hr0]
  refine j7 [] [0] (uu (e:=94) (jF k) rfl rfl) rfl (by decide) (by decide) (by simp) (by push_cast -dsimp) (by push_cast -dsimp) (fun r bx' m hp=>?_)
  obtain ⟨rfl,c,g1,g2,rfl,rfl⟩:=hp
  have hre:∀ fp fo,C.reL fp fo (qF 4 [jF k] c)=qF 4 [jF k] c:=fun fp fo=>zE (zG (zq (ks:=[k])))
  push_cast -dsimp [hre]
  exact ⟨[(3,94,4,zC [k],c)],[],zB rfl (by omega) g1 g2 zR zq,rfl,rfl,by push_cast -dsimp [zb,za,CLe,zd,hs1]⟩
 ·have he:w.kept = []:=by simpa using he
  have hr0:qn ju zK.slot k.slot w.kept=0:=by rw[he];rfl
  have hs1:qi k w.kept = [k]:=by rw[he];rfl
  push_cast -dsimp [hr0]
  refine j7 [3] [0] (VR (e:=94) [] (jF k) 0 0 (fun r hr=>by cases hr) rfl (fun r hr=>by cases hr) rfl (by simp) (by simp) (by simp) (by simp)) rfl (by decide) (by decide) (by simp) (by push_cast -dsimp) (by push_cast -dsimp [qF]) (fun r bx' m hp=>?_)
  obtain ⟨rfl,c,g1,g2,hp⟩:=hp
  have hre:∀ fp fo,C.reL fp fo (qF 4 [jF k] c)=qF 4 [jF k] c:=fun fp fo=>zE (zG (zq (ks:=[k])))
  rcases hp with ⟨rfl,rfl⟩ | ⟨rfl,rfl⟩
  ·push_cast -dsimp [hre]
   exact ⟨[(3,94,4,zC [k],c)],[],zB rfl (Nat.lt_of_lt_of_le (Nat.zero_lt_succ _) g1) g1 g2 zR zq,rfl,rfl,by push_cast -dsimp [zb,za,CLe,zd,hs1]⟩
  ·push_cast -dsimp [hre]
   exact ⟨[(4,94,4,zC [k],c)],[],zB rfl (Nat.lt_of_lt_of_le (Nat.zero_lt_succ _) g1) g1 g2 zR zq,rfl,rfl,by push_cast -dsimp [zb,za,CLe,zd,hs1]⟩
theorem zeS (f:FsV) (hf:FsI f) (hs:FsS f) (p:List UInt8) (hp:p.length<=100000):Fun Tryz.prog G0 218 [.agg (fsC f),.str p] (.tup [.agg (XT (isV f p true).1),.agg (Js (isV f p true).2.1),.sc (.int .i64 (isV f p true).2.2)]) 0:=by
 have h1:=ue f hf hs p hp
 have h2:=jH (G:=G0) f (atV f p).1.ino (by have:=hs.len;omega) hf.rises
 have e1:(isV f p true).1=(atV f p).1:=rfl
 have e2:(isV f p true).2.1=zf (atV f p).1.ino f.xs:=rfl
 by_cases h0:(atV f p).2=0
 ·have h0':=eq_true h0
  cases hz:zt (atV f p).1.ino f.xs with
  | true =>
   have e3:(isV f p true).2.2=0:=by unfold isV;simp[h0,hz]
   rw[hz]at h2
   refine fof (fun i=>if i=4 then V1 [(0,.pure),(1,.pure),(2,.pure),(3,.flt [1,2]),(4,.flt [2]),(5,.pure)] else if i=6 then V1 [(0,.pure),(1,.pure),(2,.flt [1]),(3,.flt []),(4,.pure)] else if i=7 then V1 [(0,.pure),(1,.pure),(2,.flt [1]),(3,.flt []),(4,.pure)] else []) Tryz.func218 ?_;dsimp only[Tryz.f218]
   push_cast -dsimp
   refine cl (h1) ?_;push_cast -dsimp
   refine cl (h2) ?_;push_cast -dsimp [h0']
   exact dn (by push_cast -dsimp [zb,za,CLe,zd,e1,e2,e3])
  | false =>
   have e3:(isV f p true).2.2=1:=by unfold isV;simp[h0,hz]
   rw[hz]at h2
   refine fof (fun i=>if i=4 then V1 [(0,.pure),(1,.pure),(2,.pure),(3,.flt [1,2]),(4,.flt [2]),(5,.pure)] else if i=6 then V1 [(0,.pure),(1,.pure),(2,.flt [1]),(3,.flt []),(4,.pure)] else if i=7 then V1 [(0,.pure),(1,.pure),(2,.flt [1]),(3,.flt []),(4,.pure)] else []) Tryz.func218 ?_;dsimp only[Tryz.f218]
   push_cast -dsimp
   refine cl (h1) ?_;push_cast -dsimp
   refine cl (h2) ?_;push_cast -dsimp [h0']
   exact dn (by push_cast -dsimp [zb,za,CLe,zd,e1,e2,e3])
 ·have h0':=eq_false h0
  have e3:(isV f p true).2.2=(atV f p).2:=by unfold isV;simp[h0]
  refine fof (fun i=>if i=4 then V1 [(0,.pure),(1,.pure),(2,.pure),(3,.flt [1,2]),(4,.flt [2]),(5,.pure)] else if i=6 then V1 [(0,.pure),(1,.pure),(2,.flt [1]),(3,.flt []),(4,.pure)] else if i=7 then V1 [(0,.pure),(1,.pure),(2,.flt [1]),(3,.flt []),(4,.pure)] else []) Tryz.func218 ?_;dsimp only[Tryz.f218]
  push_cast -dsimp
  refine cl (h1) ?_;push_cast -dsimp
  refine cl (h2) ?_;push_cast -dsimp [h0',ite_self]
  exact dn (by push_cast -dsimp [zb,za,CLe,zd,e1,e2,e3])
end
end
section
open CA CB
open Go.RowKit
section
variable {G:zo}
theorem zjB (k:zn):Fun Tryz.prog G 224 [.agg (Js k)] (.sc (.int .i64 k.ino)) 0:=by
 refine fon Tryz.func224 ?_;dsimp only[Tryz.f224]
 push_cast -dsimp
 exact dn
theorem ui (k:zn) (n:Int):Fun Tryz.prog G 249 [.agg (Js k),.sc (.int .i64 n),.row [.clo (.func 224) [] []]] (.sc (.int .i64 (VX k.ino n))) 0:=by
 refine fon Tryz.func249 ?_;dsimp only[Tryz.f249]
 push_cast -dsimp
 refine cl (zjB k) ?_;push_cast -dsimp
 refine cl (vv k.ino n) ?_;push_cast -dsimp
 exact dn
theorem Ms (ks:List zn) (n:Int) (hl:ks.length<=100000) (hR:qC ju zn.ino ks) :
  Fun Tryz.prog G 118 [.sl 6 (zp ks),.sc (.int .i64 n),.clo (.func 249) [] [.row [.clo (.func 224) [] []]]] (.tup [.sc (.int .i64 (qn ju zn.ino n ks:Nat)),.sc (.bool (JV zn.ino n ks))]) 0:=by
 refine fon Tryz.func118 ?_;dsimp only[Tryz.f118]
 push_cast -dsimp
 refine loop (fun p:Nat×Nat=>⟨[(0,.sl 6 (zp ks)),(1,.sc (.int .i64 n)),(2,.clo (.func 249) [] [.row [.clo (.func 224) [] []]]),(8,.sc (.int .i64 (ks.length:Nat))),(9,.sc (.int .i64 p.1)),(10,.sc (.int .i64 p.2))],[],0,0⟩)
  (fun p=>p.1<=p.2/\p.2<=ks.length/\(∀ t (h:t<ks.length),t<p.1->(ju).lt (zn.ino ks[t]) n=true)/\∀ t (h:t<ks.length),p.2<=t->(ju).lt (zn.ino ks[t]) n=false) (fun p=>p.2-p.1) (0,ks.length) ⟨Nat.zero_le _,Nat.le_refl _,fun t _ h=>by (simp at h),fun t h h'=>by (dsimp only at h';omega)⟩ ?_ ?_
 ·exact wk (by push_cast -dsimp [zb,za,CLe,zd,List.length_map])
 ·rintro ⟨i,j⟩ ⟨h1,h2,h3,h4⟩
  dsimp only at h1 h2 h3 h4 ⊢
  by_cases h:i<j
  ·obtain ⟨m,hm⟩:∃ m,m=(i+j) / 2:=⟨_,rfl⟩
   have hmi:((i:Int)+(j:Int)) / 2=(m:Int):=by omega
   have hml:m<ks.length:=by omega
   have hat:=qI ks m hml
   have hlt:=(zdU ks[m].ino n)
   push_cast -dsimp [h,hmi,hat]
   repeat refine an ?_
   refine cl ((ui ks[m] n)) ?_;push_cast -dsimp
   cases hc:(ju).lt (zn.ino ks[m]) n with
   | true =>
    have hcv:(VX ks[m].ino n<0)=True:=eq_true (hlt.mpr hc)
    push_cast -dsimp [hcv]
    repeat refine an ?_
    refine ⟨(m+1,j),⟨by omega,h2,fun t ht hlt2=>?_,h4⟩,by dsimp only;omega,wk⟩
    dsimp only at hlt2
    rcases Nat.lt_or_ge t m with q | q
    ·exact (ju).tr ((List.pairwise_iff_getElem.1 hR) t m ht hml q) hc
    ·have:t=m:=by omega
     subst this;exact hc
   | false =>
    have hcv:(VX ks[m].ino n<0)=False:=eq_false (fun e=>by have h7:(ju).lt (zn.ino ks[m]) n=true:=hlt.mp e;rw[hc]at h7;cases h7)
    push_cast -dsimp [hcv]
    repeat refine an ?_
    refine ⟨(i,m),⟨by omega,by omega,h3,fun t ht hge=>?_⟩,by dsimp only;omega,wk⟩
    dsimp only at hge
    rcases Nat.lt_or_ge m t with q | q
    ·cases h9:(ju).lt (zn.ino ks[t]) n with
     | false=>rfl
     | true=>have:=(ju).tr ((List.pairwise_iff_getElem.1 hR) m t hml ht q) h9;rw[hc]at this;cases this
    ·have:t=m:=by omega
     subst this;exact hc
  ·have hij:i=j:=by omega
   subst hij
   have hrk:=Zg (o:=ju) (key:=zn.ino) n ks i h2 h3 h4
   push_cast -dsimp [h]
   refine br (fun hx=>?_) (fun hx=>?_)
   ·have hx:i<ks.length:=by simpa using hx
    have hat:=qI ks i hx
    have hh:=yB n hR hrk hx
    push_cast -dsimp [hx,hat]
    repeat refine an ?_
    refine cl ((ui ks[i] n)) ?_;push_cast -dsimp
    have hcv:decide (VX ks[i].ino n=0)=JV zn.ino n ks:=by
     rw[hh]
     exact decide_eq_decide.2 (zfc ks[i].ino n)
    push_cast -dsimp [hcv]
    exact dn (by push_cast -dsimp [zb,za,CLe,zd,hrk])
   ·have hx:¬i<ks.length:=by simpa using hx
    have hh:=GQ n hR (by omega)
    push_cast -dsimp [hx]
    exact dn (by push_cast -dsimp [zb,za,CLe,zd,hrk,hh])
theorem zlv (ks:List zn) (n:Int) (hl:ks.length<=100000) (hR:qC ju zn.ino ks):Fun Tryz.prog G 223 [.sl 6 (zp ks),.sc (.int .i64 n),.clo (.func 224) [] []] (.tup [.sc (.int .i64 (qn ju zn.ino n ks:Nat)),.sc (.bool (JV zn.ino n ks))]) 0:=by
 refine fon Tryz.func223 ?_;dsimp only[Tryz.f223]
 push_cast -dsimp
 refine znW [.sl 6 (zp ks),.sc (.int .i64 n),.clo (.func 249) [] [.row [.clo (.func 224) [] []]]] (Ms ks n hl hR) rfl ?_ ?_
 ·simp[Xl,XI,C.frz,C.frzL]
 push_cast -dsimp
 exact dn
end
end
section
open CA CB
open Go.RowKit
section
variable {G:zo}
abbrev zn0 (w:qk) (kc pc:C):C:=.agg [.sc (.int .i64 w.fs.maxI),.sc (.int .i64 w.fs.maxB),.sc (.int .i64 w.fs.next),.sl 6 (zp w.fs.xs),kc,pc]
def zrz (w:qk) (k:zK) (B:List C) (pn pc:Nat) (r:C) (bx':List (List C)) (m:Nat):Prop:=
 m=0/\∃ (c':Nat) (Ls:List (List C)),(Ls = []∨(∃ X,Ls = [X]/\(X.all C.stayB)=true)∨∃ X Y,Ls = [X,Y]/\(X.all C.stayB)=true/\(Y.all C.stayB)=true)/\(zC (qi k w.kept)).length<=c'/\c'<=9223372036854775807/\r=zn0 w (.bs (4+Ls.length) 0 4 (zC (qi k w.kept)).length c') (.bs 0 0 6 pn pc) /\
  bx'=B :: [.any,.any,.any,.any,.any,.any] :: [.any,.any,.any,.any] :: [.any,.any,.any,.any,.any,.any] :: (Ls++[qF 4 (zC (qi k w.kept)) c'])
theorem UT (w:qk) (k:zK) (B:List C) (pn pc:Nat) (hB:(B.all C.stayB)=true) (hl:w.kept.length<=90000) (hR:qC ju zK.slot w.kept) (hn:VS k.slot w.kept=false):Xc Tryz.prog G 227 [zn0 w (.sl 4 (zC w.kept)) (.bs 0 0 6 pn pc),.agg (jF k)] [B] 0 (zrz w k B pn pc):=by
 obtain ⟨_,_,h3,h4⟩:=kC (o:=ju) k.slot hR
 have hll:(zC w.kept).length=w.kept.length:=List.length_map ..
 have hat:=yI (G:=G) w.kept k.slot (by omega) hR
 have hrl:=VW (o:=ju) (key:=zK.slot) k.slot w.kept
 have hn':JV zK.slot k.slot w.kept=false:=hn
 rw[hn']at hat
 have hw:qi k w.kept=w.kept.take (qn ju zK.slot k.slot w.kept)++k :: w.kept.drop (qn ju zK.slot k.slot w.kept):=(h4 hn').2.2 k rfl
 have hset:zC (qi k w.kept)=(zC w.kept).take (qn ju zK.slot k.slot w.kept)++jF k :: (zC w.kept).drop (qn ju zK.slot k.slot w.kept):=by rw[hw];simp
 have hsl:(zC (qi k w.kept)).length=(zC w.kept).length+1:=by rw[hset];simp;omega
 refine foX (fun i=>if i=2 then V1 [(0,.pure),(1,.pure),(2,.pure),(4,.pure),(5,.pure),(6,.pure),(3,.flt [3,4,5]),(7,.bar),(8,.pure),(9,.pure),(10,.bar)] else []) Tryz.func227 ?_;dsimp only[Tryz.f227]
 have hBr:∀ fp fo,C.reL fp fo B=B:=fun fp fo=>zE hB
 push_cast -dsimp
 refine cl (hat) ?_;push_cast -dsimp
 refine zmh [] (Hs (zC w.kept) zR zq (by omega)) (by decide) (by simp) (by push_cast -dsimp) (by push_cast -dsimp) (fun r bx' m hp=>?_)
 obtain ⟨rfl,⟨hne,c,h1,h2,rfl,rfl⟩ | ⟨he,⟨rfl,rfl⟩ | ⟨rfl,rfl⟩⟩⟩:=hp
 ·have hbl:=J6 zR h1
  have hre:∀ fp fo,C.reL fp fo (qF 4 (zC w.kept) c)=qF 4 (zC w.kept) c:=fun fp fo=>zE (zG zq)
  have hpos:=List.length_pos_iff.2 hne
  have hre2:∀ fp fo c,C.reL fp fo (qF 4 (zC (qi k w.kept)) c)=qF 4 (zC (qi k w.kept)) c:=fun fp fo c=>zE (zG zq)
  push_cast -dsimp [hre,hBr]
  refine j7 [5] [0] (VR (e:=94) (zC w.kept) (jF k) (qn ju zK.slot k.slot w.kept) c zR rfl zq rfl (by omega) (by omega) h1 h2) rfl (by decide) (by decide) (by simp) (by push_cast -dsimp [hBr]) (by push_cast -dsimp [hre,hBr]) (fun r bx' m hp=>?_)
  rw[←hset]at hp
  obtain ⟨rfl,c',g1,g2,⟨rfl,rfl⟩ | ⟨rfl,rfl⟩⟩:=hp
  ·push_cast -dsimp [hre2,hre,hBr]
   refine ⟨_,_,0,⟨⟨rfl,c',[[]],.inr (.inl ⟨[],rfl,rfl⟩),g1,g2,rfl,rfl⟩,by simp⟩,[],rfl,rfl,?_,by push_cast -dsimp [zb,za,CLe,zd]⟩
   push_cast -dsimp [zb,za,CLe,zd]
   exact ⟨zO hB,zO (zG zq)⟩
  ·have hra:∀ fp fo,C.reL fp fo (List.replicate (c*4) .any)=List.replicate (c*4) .any:=fun fp fo=>zE (by simp[List.all_replicate,C.stayB])
   push_cast -dsimp [hre2,hre,hra,hBr]
   refine ⟨_,_,0,⟨⟨rfl,c',[[],List.replicate (c*4) .any],.inr (.inr ⟨[],_,rfl,rfl,by simp[List.all_replicate,C.stayB]⟩),g1,g2,rfl,rfl⟩,by simp⟩,[],rfl,rfl,?_,by push_cast -dsimp [zb,za,CLe,zd]⟩
   push_cast -dsimp [zb,za,CLe,zd]
   exact ⟨zO hB,zO (by simp[List.all_replicate,C.stayB]),zO (zG zq)⟩
 ·have he:w.kept = []:=by simpa using he
  have hr0:qn ju zK.slot k.slot w.kept=0:=by rw[he];rfl
  have hs1:qi k w.kept = [k]:=by rw[he];rfl
  push_cast -dsimp [hr0]
  refine j7 [] [0] (uu (e:=94) (jF k) rfl rfl) rfl (by decide) (by decide) (by simp) (by push_cast -dsimp) (by push_cast -dsimp) (fun r bx' m hp=>?_)
  obtain ⟨rfl,c,g1,g2,rfl,rfl⟩:=hp
  have hre:∀ fp fo,C.reL fp fo (qF 4 [jF k] c)=qF 4 [jF k] c:=fun fp fo=>zE (zG (zq (ks:=[k])))
  push_cast -dsimp [hre,hBr]
  refine ⟨zn0 w (.bs 4 0 4 1 c) (.bs 0 0 6 pn pc),B :: [.any,.any,.any,.any,.any,.any] :: [.any,.any,.any,.any] :: [.any,.any,.any,.any,.any,.any] :: ([]++[qF 4 [jF k] c]),0,⟨⟨rfl,c,[],.inl rfl,by rw[hs1];exact g1,g2,by rw[hs1];rfl,by rw[hs1];rfl⟩,by simp⟩,[],rfl,rfl,?_,by push_cast -dsimp [zb,za,CLe,zd]⟩
  push_cast -dsimp [zb,za,CLe,zd]
  exact ⟨zO hB,zO (zG (zq (ks:=[k])))⟩
 ·have he:w.kept = []:=by simpa using he
  have hr0:qn ju zK.slot k.slot w.kept=0:=by rw[he];rfl
  have hs1:qi k w.kept = [k]:=by rw[he];rfl
  push_cast -dsimp [hr0]
  refine j7 [4] [0] (VR (e:=94) [] (jF k) 0 0 (fun r hr=>by cases hr) rfl (fun r hr=>by cases hr) rfl (by simp) (by simp) (by simp) (by simp)) rfl (by decide) (by decide) (by simp) (by push_cast -dsimp) (by push_cast -dsimp [qF]) (fun r bx' m hp=>?_)
  obtain ⟨rfl,c,g1,g2,hp⟩:=hp
  have hre:∀ fp fo,C.reL fp fo (qF 4 [jF k] c)=qF 4 [jF k] c:=fun fp fo=>zE (zG (zq (ks:=[k])))
  rcases hp with ⟨rfl,rfl⟩ | ⟨rfl,rfl⟩
  ·push_cast -dsimp [hre,hBr]
   refine ⟨zn0 w (.bs 4 0 4 1 c) (.bs 0 0 6 pn pc),B :: [.any,.any,.any,.any,.any,.any] :: [.any,.any,.any,.any] :: [.any,.any,.any,.any,.any,.any] :: ([]++[qF 4 [jF k] c]),0,⟨⟨rfl,c,[],.inl rfl,by rw[hs1];exact g1,g2,by rw[hs1];rfl,by rw[hs1];rfl⟩,by simp⟩,[],rfl,rfl,?_,by push_cast -dsimp [zb,za,CLe,zd]⟩
   push_cast -dsimp [zb,za,CLe,zd]
   exact ⟨zO hB,zO (zG (zq (ks:=[k])))⟩
  ·push_cast -dsimp [hre,hBr]
   refine ⟨zn0 w (.bs 5 0 4 1 c) (.bs 0 0 6 pn pc),B :: [.any,.any,.any,.any,.any,.any] :: [.any,.any,.any,.any] :: [.any,.any,.any,.any,.any,.any] :: ([[]]++[qF 4 [jF k] c]),0,⟨⟨rfl,c,[[]],.inr (.inl ⟨[],rfl,rfl⟩),by rw[hs1];exact g1,g2,by rw[hs1];rfl,by rw[hs1];rfl⟩,by simp⟩,[],rfl,rfl,?_,by push_cast -dsimp [zb,za,CLe,zd]⟩
   push_cast -dsimp [zb,za,CLe,zd]
   exact ⟨zO hB,zO (zG (zq (ks:=[k])))⟩
end
end
section
open CA CB
open Go.RowKit
theorem qW {bx:List (List C)} {a b:Nat×TypeId×Nat×List (List C)×Nat} (h1:zbO [a] bx) (h2:zbO [b] bx) (hne:a.1≠b.1):zbO [a,b] bx:=⟨by simp[hne],fun x hx=>by
 rcases List.mem_cons.1 hx with rfl | hx
 ·exact h1.2 _ List.mem_cons_self
 ·exact h2.2 _ hx⟩
theorem zaT {f:FsV} (hf:FsI f) {s:zZ} (hs:zH f s):(zi f s).xs.length<=f.xs.length:=by
 have hi:=zH.ino hf hs
 have hl:=Z3 (F:=zg s.name) hf.rises hs.has
 unfold zi
 split
 ·show (zT _ _).length<=_
  exact Nat.le_trans VQ (by rw[hl];exact Nat.le_refl _)
 ·show (qP _ _).length<=_
  rw[QQ (show z8 (jk s.dir (zg s.name) f.xs) from Jp hf.rises) ?_,hl]
  ·exact Nat.le_refl _
  ·show zt (zf s.ino f.xs).ino (jk _ _ _)=true
   rw[(zh hi).2.2,JN hs.has];exact hi
theorem zkc {xs:List zn} (h:z8 xs):qC ju zn.ino xs:=List.Pairwise.imp (fun {a b} h=>by show decide (a.ino<b.ino)=true;exact decide_eq_true h) h
theorem zkb (x:zn):∀ xs:List zn,ZO x xs=ZS ju zn.ino x xs
 | []=>rfl
 | y :: r=>by
  unfold ZO ZS
  rw[zkb x r]
  have e:ju.lt x.ino y.ino=decide (x.ino<y.ino):=rfl
  rw[e]
  by_cases h:x.ino<y.ino
  ·rw[if_pos h,if_pos (decide_eq_true h)]
  ·rw[if_neg h,if_neg (by simpa using h)]
theorem zmz {x:zn} {xs:List zn} (hR:z8 xs) (h:∀ y∈xs,y.ino≠x.ino):qP x xs=xs.take (qn ju zn.ino x.ino xs)++x :: xs.drop (qn ju zn.ino x.ino xs):=by
 have h1:zT x.ino xs=xs:=List.filter_eq_self.2 fun y hy=>by simpa using h y hy
 have h2:JV zn.ino x.ino xs=false:=by
  unfold JV
  rw[List.any_eq_false]
  intro y hy
  simpa using h y hy
 obtain ⟨_,_,_,h4⟩:=kC (o:=ju) x.ino (zkc hR)
 unfold qP
 rw[h1,zkb]
 exact (h4 h2).2.2 x rfl
theorem zjO (w:qk) (hw:H6 w) (hs:FsS w.fs) (hk:w.kept.length<=90000) (hp:w.pool.length<=90000) (n:Int) (s:zZ) (hsp:zH w.fs s) (he:(zf s.ino w.fs.xs).es = []):Fun Tryz.prog G0 196 [Yp w,.sc (.int .i64 n),.agg (XT s)] (.tup [Yp (qZ w n s).1,.sc (.int .i64 (qZ w n s).2)]) 0:=by
 have hf:=hw.fs
 have hlen:=hs.len
 have hino:=hsp.ino hf
 have h1:=zdS (G:=G0) w n (by omega) hw.kept
 cases hh:VS n w.kept with
 | true =>
  have e:qZ w n s=(w,13):=by unfold qZ;rw[hh];rfl
  rw[hh]at h1
  refine fof (fun i=>if i=10 then V1 [(0,.pure),(1,.pure),(2,.pure),(4,.pure),(5,.pure),(6,.pure),(3,.flt [3,4,5]),(7,.bar),(8,.pure),(9,.pure),(10,.bar)] else []) Tryz.func196 ?_;dsimp only[Tryz.f196]
  push_cast -dsimp
  refine cl (h1) ?_;push_cast -dsimp
  exact dn (by push_cast -dsimp [zb,za,CLe,zd,e])
 | false =>
  rw[hh]at h1
  have hg:=jH (G:=G0) w.fs s.ino (by omega) hf.rises
  rw[hino]at hg
  have hne:s.dir≠s.ino:=fun e=>by
   have:=hsp.there
   rw[e,he]at this;cases this
  have hu:=zaM w.fs hf hs s hsp hne
  have hul:=zaT hf hsp
  have hg2:=jH (G:=G0) (zi w.fs s) s.ino (by omega) (Ux hf hsp he).rises
  rw[Qc hsp.has hino]at hg2
  by_cases hz:(zf s.ino w.fs.xs).links=1
  ·rw[if_pos (show (zf s.ino w.fs.xs).links-1=0 by omega)]at hg2
   simp only[decide_true,Bool.not_true,Bool.false_and]at hg2
   have hxi:=(zh hino).2.2
   have hno:∀ y∈w.pool,y.ino≠s.ino:=fun y hy e=>by
    have:=(hw.apart y hy).1
    rw[e,hino]at this;cases this
   have hnk:JV zn.ino s.ino w.pool=false:=by
    unfold JV
    rw[List.any_eq_false]
    intro y hy
    simpa using hno y hy
   have e:qZ w n s=(⟨zi w.fs s,qi ⟨n,s.ino,false,[]⟩ w.kept,qP { zf s.ino w.fs.xs with links:=0,parent:=0 } w.pool⟩,0):=by unfold qZ;rw[hh,if_pos hz];rfl
   have hset:=zmz (x:={ zf s.ino w.fs.xs with links:=0,parent:=0 }) hw.pool (fun y hy=>by rw[show ({ zf s.ino w.fs.xs with links:=0,parent:=0 }:zn).ino=(zf s.ino w.fs.xs).ino from rfl,hxi];exact hno y hy)
   rw[show ({ zf s.ino w.fs.xs with links:=0,parent:=0 }:zn).ino=s.ino from hxi]at hset
   have hat:=zlv (G:=G0) w.pool s.ino (by omega) (zkc hw.pool)
   rw[hnk]at hat
   have hll:(zp w.pool).length=w.pool.length:=List.length_map ..
   have hrl:=VW (o:=ju) (key:=zn.ino) s.ino w.pool
   generalize qn ju zn.ino s.ino w.pool=r at *
   generalize hpl:qP { zf s.ino w.fs.xs with links:=0,parent:=0 } w.pool=pl at *
   have hpc:zp pl=(zp w.pool).take r++[.sc (.int .i64 s.ino),.sc (.int .i64 (zf s.ino w.fs.xs).kind),.sc (.int .i64 0),.str (zf s.ino w.fs.xs).data,.sc (.int .i64 0),.sl 2 (zW (zf s.ino w.fs.xs).es)] :: (zp w.pool).drop r:=by rw[hset];simp[hxi]
   have hpl1:(zp pl).length=(zp w.pool).length+1:=by rw[hpc];simp;omega
   have hre2:∀ fp fo c,C.reL fp fo (qF 6 (zp pl) c)=qF 6 (zp pl) c:=fun fp fo c=>zE (zG zw)
   have hre4:∀ fp fo c,C.reL fp fo (qF 4 (zC (qi ⟨n,s.ino,false,[]⟩ w.kept)) c)=qF 4 (zC (qi ⟨n,s.ino,false,[]⟩ w.kept)) c:=fun fp fo c=>zE (zG zq)
   have hkp:0<(zC (qi ⟨n,s.ino,false,[]⟩ w.kept)).length:=by rw[List.length_map,qi,HJ];omega
   refine foF (fun i=>if i=10 then V1 [(0,.pure),(1,.pure),(2,.pure),(4,.pure),(5,.pure),(6,.pure),(3,.flt [3,4,5]),(7,.bar),(8,.pure),(9,.pure),(10,.bar)] else []) Tryz.func196 ?_;dsimp only[Tryz.f196]
   push_cast -dsimp
   refine cl (h1) ?_;push_cast -dsimp
   refine cl (hg) ?_;push_cast -dsimp
   refine cl (hu) ?_;push_cast -dsimp
   refine cl (hg2) ?_;push_cast -dsimp
   rw[hxi]
   refine cl (hat) ?_;push_cast -dsimp
   refine zmh [] (Va (zp w.pool) zP zw (by omega)) (by decide) (by simp) (by push_cast -dsimp) (by push_cast -dsimp) (fun r0 bx' m hp=>?_)
   obtain ⟨rfl,⟨hne',c,c1,c2,rfl,rfl⟩ | ⟨hnil,⟨rfl,rfl⟩ | ⟨rfl,rfl⟩⟩⟩:=hp
   ·have hbl:=J6 zP c1
    have hre:∀ fp fo,C.reL fp fo (qF 6 (zp w.pool) c)=qF 6 (zp w.pool) c:=fun fp fo=>zE (zG zw)
    push_cast -dsimp [hre]
    refine j7 [7] [0] (VP (e:=53) (zp w.pool) [.sc (.int .i64 s.ino),.sc (.int .i64 (zf s.ino w.fs.xs).kind),.sc (.int .i64 0),.str (zf s.ino w.fs.xs).data,.sc (.int .i64 0),.sl 2 (zW (zf s.ino w.fs.xs).es)] r c zP rfl zw rfl (by omega) (by omega) c1 c2) rfl (by decide) (by decide) (by simp) (by push_cast -dsimp) (by push_cast -dsimp [hre]) (fun r1 bx' m hp=>?_)
    rw[←hpc]at hp
    obtain ⟨rfl,c',g1,g2,⟨rfl,rfl⟩ | ⟨rfl,rfl⟩⟩:=hp
    ·push_cast -dsimp [hre2,hre]
     refine j7 [7] [] (UT (G:=G0) { w with fs:=zi w.fs s } ⟨n,s.ino,false,[]⟩ (qF 6 (zp pl) c') (zp pl).length c' (zG zw) hk hw.kept hh) rfl (by decide) (by decide) (by simp) (by push_cast -dsimp) (by push_cast -dsimp [hre2]) (fun r2 bx' m hp=>?_)
     obtain ⟨rfl,c3,Ls,hLs,k1,k2,rfl,rfl⟩:=hp
     rcases hLs with rfl | ⟨X,rfl,hX⟩ | ⟨X,Y,rfl,hX,hY⟩
     ·push_cast -dsimp [hre2,hre4]
      exact ⟨[(11,94,4,zC (qi ⟨n,s.ino,false,[]⟩ w.kept),c3),(7,53,6,zp pl,c')],[],qW (zB rfl (Nat.lt_of_lt_of_le hkp k1) k1 k2 zR zq) (zB rfl (by omega) g1 g2 zP zw) (show (11:Nat)≠7 by decide),rfl,rfl,by push_cast -dsimp [zb,za,CLe,zd,e,false_and,if_false]⟩
     ·have hXr:∀ fp fo,C.reL fp fo X=X:=fun fp fo=>zE hX
      push_cast -dsimp [hre2,hre4,hXr]
      exact ⟨[(12,94,4,zC (qi ⟨n,s.ino,false,[]⟩ w.kept),c3),(7,53,6,zp pl,c')],[],qW (zB rfl (Nat.lt_of_lt_of_le hkp k1) k1 k2 zR zq) (zB rfl (by omega) g1 g2 zP zw) (show (12:Nat)≠7 by decide),rfl,rfl,by push_cast -dsimp [zb,za,CLe,zd,e,false_and,if_false]⟩
     ·have hXr:∀ fp fo,C.reL fp fo X=X:=fun fp fo=>zE hX
      have hYr:∀ fp fo,C.reL fp fo Y=Y:=fun fp fo=>zE hY
      push_cast -dsimp [hre2,hre4,hXr,hYr]
      exact ⟨[(13,94,4,zC (qi ⟨n,s.ino,false,[]⟩ w.kept),c3),(7,53,6,zp pl,c')],[],qW (zB rfl (Nat.lt_of_lt_of_le hkp k1) k1 k2 zR zq) (zB rfl (by omega) g1 g2 zP zw) (show (13:Nat)≠7 by decide),rfl,rfl,by push_cast -dsimp [zb,za,CLe,zd,e,false_and,if_false]⟩
    ·have hra:∀ fp fo,C.reL fp fo (List.replicate (c*6) .any)=List.replicate (c*6) .any:=fun fp fo=>zE (by simp[List.all_replicate,C.stayB])
     push_cast -dsimp [hre2,hre,hra]
     refine j7 [8] [] (UT (G:=G0) { w with fs:=zi w.fs s } ⟨n,s.ino,false,[]⟩ (qF 6 (zp pl) c') (zp pl).length c' (zG zw) hk hw.kept hh) rfl (by decide) (by decide) (by simp) (by push_cast -dsimp) (by push_cast -dsimp [hre2,hra]) (fun r2 bx' m hp=>?_)
     obtain ⟨rfl,c3,Ls,hLs,k1,k2,rfl,rfl⟩:=hp
     rcases hLs with rfl | ⟨X,rfl,hX⟩ | ⟨X,Y,rfl,hX,hY⟩
     ·push_cast -dsimp [hre2,hre4,hra]
      exact ⟨[(12,94,4,zC (qi ⟨n,s.ino,false,[]⟩ w.kept),c3),(8,53,6,zp pl,c')],[],qW (zB rfl (Nat.lt_of_lt_of_le hkp k1) k1 k2 zR zq) (zB rfl (by omega) g1 g2 zP zw) (show (12:Nat)≠8 by decide),rfl,rfl,by push_cast -dsimp [zb,za,CLe,zd,e,false_and,if_false]⟩
     ·have hXr:∀ fp fo,C.reL fp fo X=X:=fun fp fo=>zE hX
      push_cast -dsimp [hre2,hre4,hra,hXr]
      exact ⟨[(13,94,4,zC (qi ⟨n,s.ino,false,[]⟩ w.kept),c3),(8,53,6,zp pl,c')],[],qW (zB rfl (Nat.lt_of_lt_of_le hkp k1) k1 k2 zR zq) (zB rfl (by omega) g1 g2 zP zw) (show (13:Nat)≠8 by decide),rfl,rfl,by push_cast -dsimp [zb,za,CLe,zd,e,false_and,if_false]⟩
     ·have hXr:∀ fp fo,C.reL fp fo X=X:=fun fp fo=>zE hX
      have hYr:∀ fp fo,C.reL fp fo Y=Y:=fun fp fo=>zE hY
      push_cast -dsimp [hre2,hre4,hra,hXr,hYr]
      exact ⟨[(14,94,4,zC (qi ⟨n,s.ino,false,[]⟩ w.kept),c3),(8,53,6,zp pl,c')],[],qW (zB rfl (Nat.lt_of_lt_of_le hkp k1) k1 k2 zR zq) (zB rfl (by omega) g1 g2 zP zw) (show (14:Nat)≠8 by decide),rfl,rfl,by push_cast -dsimp [zb,za,CLe,zd,e,false_and,if_false]⟩
   ·have hpe:w.pool = []:=by simpa using hnil
    have hr0:r=0:=by rw[hpe]at hrl;exact Nat.le_zero.1 hrl
    subst hr0
    have hq:zp pl = [[.sc (.int .i64 s.ino),.sc (.int .i64 (zf s.ino w.fs.xs).kind),.sc (.int .i64 0),.str (zf s.ino w.fs.xs).data,.sc (.int .i64 0),.sl 2 (zW (zf s.ino w.fs.xs).es)]]:=by rw[hpc,hpe];rfl
    push_cast -dsimp
    refine j7 [] [0] (zam (e:=53) [.sc (.int .i64 s.ino),.sc (.int .i64 (zf s.ino w.fs.xs).kind),.sc (.int .i64 0),.str (zf s.ino w.fs.xs).data,.sc (.int .i64 0),.sl 2 (zW (zf s.ino w.fs.xs).es)] rfl rfl) rfl (by decide) (by decide) (by simp) (by push_cast -dsimp) (by push_cast -dsimp) (fun r1 bx' m hp=>?_)
    have hp:m=0/\∃ c,(zp pl).length<=c/\c<=9223372036854775807/\r1 = .bs 0 0 6 (zp pl).length c/\bx' = [qF 6 (zp pl) c]:=by rw[hq];exact hp
    obtain ⟨rfl,c',g1,g2,rfl,rfl⟩:=hp
    push_cast -dsimp [hre2]
    refine j7 [6] [] (UT (G:=G0) { w with fs:=zi w.fs s } ⟨n,s.ino,false,[]⟩ (qF 6 (zp pl) c') (zp pl).length c' (zG zw) hk hw.kept hh) rfl (by decide) (by decide) (by simp) (by push_cast -dsimp) (by push_cast -dsimp [hre2]) (fun r2 bx' m hp=>?_)
    obtain ⟨rfl,c3,Ls,hLs,k1,k2,rfl,rfl⟩:=hp
    rcases hLs with rfl | ⟨X,rfl,hX⟩ | ⟨X,Y,rfl,hX,hY⟩
    ·push_cast -dsimp [hre2,hre4]
     exact ⟨[(10,94,4,zC (qi ⟨n,s.ino,false,[]⟩ w.kept),c3),(6,53,6,zp pl,c')],[],qW (zB rfl (Nat.lt_of_lt_of_le hkp k1) k1 k2 zR zq) (zB rfl (by omega) g1 g2 zP zw) (show (10:Nat)≠6 by decide),rfl,rfl,by push_cast -dsimp [zb,za,CLe,zd,e,false_and,if_false]⟩
    ·have hXr:∀ fp fo,C.reL fp fo X=X:=fun fp fo=>zE hX
     push_cast -dsimp [hre2,hre4,hXr]
     exact ⟨[(11,94,4,zC (qi ⟨n,s.ino,false,[]⟩ w.kept),c3),(6,53,6,zp pl,c')],[],qW (zB rfl (Nat.lt_of_lt_of_le hkp k1) k1 k2 zR zq) (zB rfl (by omega) g1 g2 zP zw) (show (11:Nat)≠6 by decide),rfl,rfl,by push_cast -dsimp [zb,za,CLe,zd,e,false_and,if_false]⟩
    ·have hXr:∀ fp fo,C.reL fp fo X=X:=fun fp fo=>zE hX
     have hYr:∀ fp fo,C.reL fp fo Y=Y:=fun fp fo=>zE hY
     push_cast -dsimp [hre2,hre4,hXr,hYr]
     exact ⟨[(12,94,4,zC (qi ⟨n,s.ino,false,[]⟩ w.kept),c3),(6,53,6,zp pl,c')],[],qW (zB rfl (Nat.lt_of_lt_of_le hkp k1) k1 k2 zR zq) (zB rfl (by omega) g1 g2 zP zw) (show (12:Nat)≠6 by decide),rfl,rfl,by push_cast -dsimp [zb,za,CLe,zd,e,false_and,if_false]⟩
   ·have hpe:w.pool = []:=by simpa using hnil
    have hr0:r=0:=by rw[hpe]at hrl;exact Nat.le_zero.1 hrl
    subst hr0
    have hq:zp pl = [[.sc (.int .i64 s.ino),.sc (.int .i64 (zf s.ino w.fs.xs).kind),.sc (.int .i64 0),.str (zf s.ino w.fs.xs).data,.sc (.int .i64 0),.sl 2 (zW (zf s.ino w.fs.xs).es)]]:=by rw[hpc,hpe];rfl
    push_cast -dsimp
    refine j7 [6] [0] (VP (e:=53) [] [.sc (.int .i64 s.ino),.sc (.int .i64 (zf s.ino w.fs.xs).kind),.sc (.int .i64 0),.str (zf s.ino w.fs.xs).data,.sc (.int .i64 0),.sl 2 (zW (zf s.ino w.fs.xs).es)] 0 0 (fun r hr=>by cases hr) rfl (fun r hr=>by cases hr) rfl (by simp) (by simp) (by simp) (by simp)) rfl (by decide) (by decide) (by simp) (by push_cast -dsimp) (by push_cast -dsimp [qF]) (fun r1 bx' m hp=>?_)
    have hp:zq8 6 (0*6) (zp pl) r1 bx' m:=by rw[hq];exact hp
    obtain ⟨rfl,c',g1,g2,⟨rfl,rfl⟩ | ⟨rfl,rfl⟩⟩:=hp
    ·push_cast -dsimp [hre2]
     refine j7 [6] [] (UT (G:=G0) { w with fs:=zi w.fs s } ⟨n,s.ino,false,[]⟩ (qF 6 (zp pl) c') (zp pl).length c' (zG zw) hk hw.kept hh) rfl (by decide) (by decide) (by simp) (by push_cast -dsimp) (by push_cast -dsimp [hre2]) (fun r2 bx' m hp=>?_)
     obtain ⟨rfl,c3,Ls,hLs,k1,k2,rfl,rfl⟩:=hp
     rcases hLs with rfl | ⟨X,rfl,hX⟩ | ⟨X,Y,rfl,hX,hY⟩
     ·push_cast -dsimp [hre2,hre4]
      exact ⟨[(10,94,4,zC (qi ⟨n,s.ino,false,[]⟩ w.kept),c3),(6,53,6,zp pl,c')],[],qW (zB rfl (Nat.lt_of_lt_of_le hkp k1) k1 k2 zR zq) (zB rfl (by omega) g1 g2 zP zw) (show (10:Nat)≠6 by decide),rfl,rfl,by push_cast -dsimp [zb,za,CLe,zd,e,false_and,if_false]⟩
     ·have hXr:∀ fp fo,C.reL fp fo X=X:=fun fp fo=>zE hX
      push_cast -dsimp [hre2,hre4,hXr]
      exact ⟨[(11,94,4,zC (qi ⟨n,s.ino,false,[]⟩ w.kept),c3),(6,53,6,zp pl,c')],[],qW (zB rfl (Nat.lt_of_lt_of_le hkp k1) k1 k2 zR zq) (zB rfl (by omega) g1 g2 zP zw) (show (11:Nat)≠6 by decide),rfl,rfl,by push_cast -dsimp [zb,za,CLe,zd,e,false_and,if_false]⟩
     ·have hXr:∀ fp fo,C.reL fp fo X=X:=fun fp fo=>zE hX
      have hYr:∀ fp fo,C.reL fp fo Y=Y:=fun fp fo=>zE hY
      push_cast -dsimp [hre2,hre4,hXr,hYr]
      exact ⟨[(12,94,4,zC (qi ⟨n,s.ino,false,[]⟩ w.kept),c3),(6,53,6,zp pl,c')],[],qW (zB rfl (Nat.lt_of_lt_of_le hkp k1) k1 k2 zR zq) (zB rfl (by omega) g1 g2 zP zw) (show (12:Nat)≠6 by decide),rfl,rfl,by push_cast -dsimp [zb,za,CLe,zd,e,false_and,if_false]⟩
    ·push_cast -dsimp [hre2]
     refine j7 [7] [] (UT (G:=G0) { w with fs:=zi w.fs s } ⟨n,s.ino,false,[]⟩ (qF 6 (zp pl) c') (zp pl).length c' (zG zw) hk hw.kept hh) rfl (by decide) (by decide) (by simp) (by push_cast -dsimp) (by push_cast -dsimp [hre2]) (fun r2 bx' m hp=>?_)
     obtain ⟨rfl,c3,Ls,hLs,k1,k2,rfl,rfl⟩:=hp
     rcases hLs with rfl | ⟨X,rfl,hX⟩ | ⟨X,Y,rfl,hX,hY⟩
     ·push_cast -dsimp [hre2,hre4]
      exact ⟨[(11,94,4,zC (qi ⟨n,s.ino,false,[]⟩ w.kept),c3),(7,53,6,zp pl,c')],[],qW (zB rfl (Nat.lt_of_lt_of_le hkp k1) k1 k2 zR zq) (zB rfl (by omega) g1 g2 zP zw) (show (11:Nat)≠7 by decide),rfl,rfl,by push_cast -dsimp [zb,za,CLe,zd,e,false_and,if_false]⟩
     ·have hXr:∀ fp fo,C.reL fp fo X=X:=fun fp fo=>zE hX
      push_cast -dsimp [hre2,hre4,hXr]
      exact ⟨[(12,94,4,zC (qi ⟨n,s.ino,false,[]⟩ w.kept),c3),(7,53,6,zp pl,c')],[],qW (zB rfl (Nat.lt_of_lt_of_le hkp k1) k1 k2 zR zq) (zB rfl (by omega) g1 g2 zP zw) (show (12:Nat)≠7 by decide),rfl,rfl,by push_cast -dsimp [zb,za,CLe,zd,e,false_and,if_false]⟩
     ·have hXr:∀ fp fo,C.reL fp fo X=X:=fun fp fo=>zE hX
      have hYr:∀ fp fo,C.reL fp fo Y=Y:=fun fp fo=>zE hY
      push_cast -dsimp [hre2,hre4,hXr,hYr]
      exact ⟨[(13,94,4,zC (qi ⟨n,s.ino,false,[]⟩ w.kept),c3),(7,53,6,zp pl,c')],[],qW (zB rfl (Nat.lt_of_lt_of_le hkp k1) k1 k2 zR zq) (zB rfl (by omega) g1 g2 zP zw) (show (13:Nat)≠7 by decide),rfl,rfl,by push_cast -dsimp [zb,za,CLe,zd,e,false_and,if_false]⟩
  ·have hz2:¬(zf s.ino w.fs.xs).links-1=0:=by omega
   rw[if_neg hz2,hino]at hg2
   have e:qZ w n s=({ w with fs:=zi w.fs s,kept:=qi ⟨n,s.ino,false,[]⟩ w.kept },0):=by unfold qZ;rw[hh,if_neg hz];rfl
   have hwi:=zgG (G:=G0) { w with fs:=zi w.fs s } ⟨n,s.ino,false,[]⟩ hk hw.kept hh
   refine fof (fun i=>if i=10 then V1 [(0,.pure),(1,.pure),(2,.pure),(4,.pure),(5,.pure),(6,.pure),(3,.flt [3,4,5]),(7,.bar),(8,.pure),(9,.pure),(10,.bar)] else []) Tryz.func196 ?_;dsimp only[Tryz.f196]
   push_cast -dsimp
   refine cl (h1) ?_;push_cast -dsimp
   refine cl (hg) ?_;push_cast -dsimp
   refine cl (hu) ?_;push_cast -dsimp
   refine cl (hg2) ?_;push_cast -dsimp
   refine cl (hwi) ?_;push_cast -dsimp
   exact dn (by push_cast -dsimp [zb,za,CLe,zd,e])
end
section
open CA CB
open Go.RowKit
end
section
open CA CB
open Go.RowKit
structure zkA (w:qk):Prop where
 fs:FsS w.fs
 next:zqT w.fs
 kept:w.kept.length<=10000
 pool:w.pool.length<=10000
end
section
open CA CB
open Go.RowKit
end
section
open CA CB
open Go.RowKit
theorem zbR (w:qk) (hw:H6 w) (hs:zkA w) (o:OpV) (s:zZ) (hsp:zH w.fs s) (he:(zf s.ino w.fs.xs).es = []):MV Tryz.prog G0 195 [.agg (XT s),.ptr 0 0,.ptr 1 0] [QJ w,opL o] 0 (.tup [Yp (qZ w o.slot s).1,.sc (.int .i64 (qZ w o.slot s).2)]) [QJ w,opL o] 0:=by
 have h:=zjO w hw hs.fs (by have:=hs.kept;omega) (by have:=hs.pool;omega) o.slot s hsp he
 unfold opL
 refine foB (fun _=>[]) Tryz.func195 ?_;dsimp only[Tryz.f195]
 push_cast -dsimp
 refine cl (h) ?_;push_cast -dsimp
 exact ⟨[],rfl,rfl,by push_cast -dsimp [zb,za,CLe,zd],by push_cast -dsimp [zb,za,CLe,zd]⟩
theorem zi4 (w:qk) (hw:H6 w) (hs:zkA w) (o:OpV) (ho:vC o) (pa:qD o.a=true):MV Tryz.prog G0 194 [Yp w,.str o.a,.clo (.func 195) [] [.ptr 0 0,.ptr 1 0]] [QJ w,opL o] 0 (.tup [Yp (qg w o).1,.sc (.int .i64 (qg w o).2)]) [QJ w,opL o] 0:=by
 have h1:=zeS w.fs hw.fs hs.fs o.a ho.1
 by_cases h0:(isV w.fs o.a true).2.2=0
 ·have h0':=eq_true h0
  obtain ⟨t1,t2⟩:=GM hw.fs pa h0
  by_cases hes:(isV w.fs o.a true).2.1.es = []
  ·have hel:(0<(zW (isV w.fs o.a true).2.1.es).length)=False:=eq_false (by rw[hes];simp)
   have he:(zf (isV w.fs o.a true).1.ino w.fs.xs).es = []:=by rw[←t2];exact hes
   have hd:=zbR w hw hs o (isV w.fs o.a true).1 t1 he
   have e:qg w o=qZ w o.slot (isV w.fs o.a true).1:=by unfold qg;simp[h0,hes]
   unfold opL at hd ⊢
   refine foB (fun _=>[]) Tryz.func194 ?_;dsimp only[Tryz.f194]
   push_cast -dsimp
   refine cl (h1) ?_;push_cast -dsimp [h0',hel]
   refine Qz [0,1] [] hd rfl (by decide) (by decide) (by simp) (by push_cast -dsimp) (by push_cast -dsimp) ?_
   push_cast -dsimp
   exact ⟨[],rfl,rfl,by push_cast -dsimp [zb,za,CLe,zd],by push_cast -dsimp [zb,za,CLe,zd,e]⟩
  ·have hel:(0<(zW (isV w.fs o.a true).2.1.es).length)=True:=eq_true (by rw[List.length_map];exact List.length_pos_iff.2 hes)
   have e:qg w o=(w,5):=by unfold qg;simp[h0,hes]
   unfold opL
   refine foB (fun _=>[]) Tryz.func194 ?_;dsimp only[Tryz.f194]
   push_cast -dsimp
   refine cl (h1) ?_;push_cast -dsimp [h0',hel]
   exact ⟨[],rfl,rfl,by push_cast -dsimp [zb,za,CLe,zd],by push_cast -dsimp [zb,za,CLe,zd,e]⟩
 ·have h0':=eq_false h0
  have e:qg w o=(w,(isV w.fs o.a true).2.2):=by unfold qg;simp[h0]
  unfold opL
  refine foB (fun _=>[]) Tryz.func194 ?_;dsimp only[Tryz.f194]
  push_cast -dsimp
  refine cl (h1) ?_;push_cast -dsimp [h0']
  exact ⟨[],rfl,rfl,by push_cast -dsimp [zb,za,CLe,zd],by push_cast -dsimp [zb,za,CLe,zd,e]⟩
theorem zdg (w:qk) (hw:H6 w) (hs:zkA w) (o:OpV) (ho:vC o) (pa:qD o.a=true):Fun Tryz.prog G0 193 [Yp w,.agg (opL o)] (.tup [Yp (qg w o).1,.sc (.int .i64 (qg w o).2)]) 0:=by
 have h:=zi4 w hw hs o ho pa
 unfold opL at h ⊢
 refine fon Tryz.func193 ?_;dsimp only[Tryz.f193]
 push_cast -dsimp
 refine Qz [0,1] [] h rfl (by decide) (by decide) (by simp) (by push_cast -dsimp) (by push_cast -dsimp) ?_
 push_cast -dsimp
 exact dn
end
section
open Go.RowKit
section
variable {G:zo}
abbrev zoz:List C:=[.clo (.func 186) [] [],.clo (.func 188) [] [],.clo (.func 189) [] [],.clo (.func 190) [] [],.clo (.func 191) [] [],.clo (.func 192) [] [],.clo (.func 193) [] [],.clo (.func 197) [] [],.clo (.func 200) [] [],.clo (.func 201) [] []]
theorem zgd:Fun Tryz.prog G 160 [] (.mo 0 211 (.int .i64 [1,2,3,4,5,6,7,8,9,10]) zoz) 1:=by
 refine fon Tryz.func160 ?_;dsimp only[Tryz.f160]
 push_cast -dsimp [kD,km,Option.map_none,List.nil_append,List.cons_append,reduceIte,Int.reduceEq]
 exact ⟨[.inl 0],rfl,rfl,by push_cast -dsimp [zb,za,CLe,zd]⟩
end
end
section
open CA CB
open Go.RowKit
theorem Fun.g0 {P:Program} {G':zo} {f:FuncId} {args:List C} {r:C} {n:Nat} (h:Fun P G0 f args r n):Fun P G' f args r n:=⟨h.1,fun R vs hg hv=>h.2 R vs (vi R) hv⟩
end
section
open Go.RowKit
section
variable {G:zo}
theorem Mz (o:OpV):Fun Tryz.prog G 121 [.agg (opL o)] (.sc (.bool (decide (o.kind=3∨o.kind=7)))) 0:=by
 unfold opL
 by_cases h:o.kind=3
 ·have h':=eq_true h
  refine fon Tryz.func121 ?_;dsimp only[Tryz.f121]
  push_cast -dsimp [h']
  exact dn (by push_cast -dsimp [zb,za,CLe,zd,h',true_or,decide_true])
 ·have h':=eq_false h
  refine fon Tryz.func121 ?_;dsimp only[Tryz.f121]
  push_cast -dsimp [h']
  exact dn (by push_cast -dsimp [zb,za,CLe,zd,h',false_or])
end
end
section
open Go.RowKit
abbrev znl (d:zD):List C:=[.sc (.int .i64 d.w.fs.maxI),.sc (.int .i64 d.w.fs.maxB),.sc (.int .i64 d.w.fs.next),.sl 6 (zp d.w.fs.xs),.sl 4 (zC d.w.kept),.sl 6 (zp d.w.pool),.sl 5 (d.ops.map opL),.sl 1 (zQ d.diags),.sc (.int .i64 d.status),.sc (.int .i64 d.slot)]
abbrev kI (d:zD):C:=.agg (znl d)
section
variable {G:zo}
end
end
section
open CA CB
open Go.RowKit
theorem Ht {α κ:Type} [DecidableEq κ] {key:α->κ} {n:κ} {xs:List α} {i:Nat} (h:i<xs.length) (h0:JV key n (xs.take i)=false) :
  (key xs[i]=n->jl key n xs=some xs[i])/\(key xs[i]≠n->JV key n (xs.take (i+1))=false):=by
 have e:xs=xs.take i++xs[i] :: xs.drop (i+1):=by rw[←List.drop_eq_getElem_cons h,List.take_append_drop]
 refine ⟨fun hk=>?_,fun hk=>?_⟩
 ·have q:jl key n xs=jl key n (xs.take i++xs[i] :: xs.drop (i+1)):=congrArg _ e
  rw[q]
  unfold jl
  unfold JV at h0
  rw[List.any_eq_false]at h0
  rw[List.find?_append,List.find?_eq_none.2 fun x hx=>h0 x hx,Option.none_or,List.find?_cons,decide_eq_true hk]
 ·unfold JV at h0 ⊢
  rw[List.take_add_one,List.getElem?_eq_getElem h,List.any_append,h0]
  simp[hk]
theorem vV {α κ:Type} [DecidableEq κ] {key:α->κ} {n:κ} {xs:List α} (h0:JV key n xs=false):jl key n xs=none:=by
 rw[qE]at h0
 cases h:jl key n xs with
 | none=>rfl
 | some x=>rw[h]at h0;cases h0
theorem zcq {α κ:Type} [DecidableEq κ] {key:α->κ} {n:κ} {xs:List α} {i:Nat} (h:i<xs.length) :
  JJ key n (xs.take (i+1))=if key xs[i]=n then JJ key n (xs.take i) else JJ key n (xs.take i)++[xs[i]]:=by
 unfold JJ
 rw[List.take_add_one,List.getElem?_eq_getElem h,List.filter_append]
 by_cases hk:key xs[i]=n<;>simp[hk]
section
variable {G:zo}
theorem zea (es:List zX) (n:List UInt8) (hl:es.length<=100000):Fun Tryz.prog G 164 [.sl 2 (zW es),.str n] (.tup [.sc (.int .i64 (zM n es)),.sc (.bool (Xv n es))]) 0:=by
 have hll:(zW es).length=es.length:=List.length_map ..
 refine fon Tryz.func164 ?_;dsimp only[Tryz.f164]
 push_cast -dsimp
 refine loop (fun i:Nat=>⟨[(0,.sl 2 (zW es)),(1,.str n),(6,.sc (.int .i64 i))],[],0,0⟩) (fun i=>i<=es.length/\JV zX.name n (es.take i)=false) (fun i=>es.length-i) 0 ⟨Nat.zero_le _,rfl⟩ ?_ ?_
 ·exact wk
 ·rintro i ⟨h1,h2⟩
  by_cases h:i<es.length
  ·have g1:=Jd es i h
   obtain ⟨q1,q2⟩:=Ht h h2
   by_cases he:es[i].name=n
   ·have q:=q1 he
    have e1:Xv n es=true:=by unfold Xv;rw[qE,q];rfl
    have e2:zM n es=es[i].ino:=by unfold zM;rw[q]
    push_cast -dsimp [hll,h,g1,he]
    repeat refine an ?_
    exact dn (by push_cast -dsimp [zb,za,CLe,zd,e1,e2])
   ·push_cast -dsimp [hll,h,g1,he]
    repeat refine an ?_
    exact ⟨i+1,⟨h,q2 he⟩,by omega,wk⟩
  ·rw[List.take_of_length_le (by omega)]at h2
   have e1:Xv n es=false:=h2
   have e2:zM n es=0:=by unfold zM;rw[vV h2]
   push_cast -dsimp [hll,h]
   exact dn (by push_cast -dsimp [zb,za,CLe,zd,e1,e2])
theorem Mu (es:List zX) (n:List UInt8) (hl:es.length<=90000):Fun Tryz.prog G 137 [.sl 2 (zW es),.str n] (.own 0 100 2 (zW (zg n es))) 1:=by
 have hll:(zW es).length=es.length:=List.length_map ..
 refine fon Tryz.func137 ?_;dsimp only[Tryz.f137]
 push_cast -dsimp
 refine loop (fun i:Nat=>⟨[(0,.sl 2 (zW es)),(1,.str n),(5,.own 0 100 2 (zW (zg n (es.take i)))),(6,.sc (.int .i64 i))],[],1,0⟩) (fun i=>i<=es.length) (fun i=>es.length-i) 0 (Nat.zero_le _) ?_ ?_
 ·exact wks [.inr (100,2)] (by push_cast -dsimp [zb,za,CLe,zd,zg,JJ,List.filter_nil])
 ·intro i h1
  by_cases h:i<es.length
  ·have g1:=Jd es i h
   have ht:zg n (es.take (i+1))=if es[i].name=n then zg n (es.take i) else zg n (es.take i)++[es[i]]:=zcq h
   have hle:(zg n (es.take i)).length<=i:=Nat.le_trans (NT n _) (by simp;omega)
   by_cases hc:es[i].name=n
   ·rw[if_pos hc]at ht
    push_cast -dsimp [hll,h,g1,hc]
    repeat refine an ?_
    exact ⟨i+1,h,by omega,wks [.inl 0] (by push_cast -dsimp [zb,za,CLe,zd,ht])⟩
   ·rw[if_neg hc]at ht
    push_cast -dsimp [hll,h,g1,hc]
    repeat refine an ?_
    exact ⟨i+1,h,by omega,wks [.inl 0] (by push_cast -dsimp [zb,za,CLe,zd,ht,List.map_append])⟩
  ·rw[List.take_of_length_le (by omega)]
   push_cast -dsimp [hll,h]
   exact ⟨[.inl 0],rfl,rfl,by push_cast -dsimp [zb,za,CLe,zd]⟩
end
theorem zmi (f:FsV) (hf:FsI f) (hs:FsS f) (p:List UInt8) (hp:p.length<=100000):Fun Tryz.prog G0 135 [.agg (fsC f),.str p] (.tup [.agg (XT (atV f p).1),.sc (.int .i64 (atV f p).2)]) 0:=by
 have hpl:=XS p (by omega)
 have hlen:=hs.len
 have hnl:(zk p).length<=100000:=by have:=qo p;omega
 cases hpp:Jc p with
 | false =>
  have e:atV f p=(qL,9):=by unfold atV;rw[hpp];rfl
  unfold JL at hpl
  rw[hpp]at hpl
  refine fof (fun i=>if i=14 then [false,false,false,false,false,false,false,false,true] else []) Tryz.func135 ?_;dsimp only[Tryz.f135]
  push_cast -dsimp
  refine cl (hpl) ?_;push_cast -dsimp
  exact dn (by push_cast -dsimp [zb,za,CLe,zd,e,qL])
 | true =>
  have e:atV f p=atW f.xs (zk p) ⟨0,[],1⟩:=by unfold atV;rw[hpp];rfl
  unfold JL at hpl
  rw[hpp,if_pos rfl]at hpl
  generalize zk p=ns at hpl hnl e
  have hsl:(zQ ns).length=ns.length:=List.length_map ..
  refine fof (fun i=>if i=14 then [false,false,false,false,false,false,false,false,true] else []) Tryz.func135 ?_;dsimp only[Tryz.f135]
  push_cast -dsimp
  refine cl (hpl) ?_;push_cast -dsimp
  refine loop (fun x:Nat×zZ=>⟨[(1,.str p),(2,.ptr 0 0),(4,.ptr 1 0),(6,.own 0 9 1 (zQ ns)),(8,.ptr 2 0),(9,.sc (.int .i64 x.1))],[fsC f,[.sc (.int .i64 0),.str [],.sc (.int .i64 0)],XT x.2],1,0⟩)
   (fun x=>x.1<=ns.length/\atW f.xs ns ⟨0,[],1⟩=atW f.xs (ns.drop x.1) x.2/\(x.2.ino≠0->zt x.2.ino f.xs=true)) (fun x=>ns.length-x.1) (0,⟨0,[],1⟩) ⟨Nat.zero_le _,rfl,fun _=>hf.root⟩ ?_ ?_
  ·exact wks [.inl 0] (by push_cast -dsimp [zb,za,CLe,zd,hsl])
  rintro ⟨k,s⟩ ⟨hk,hat,hin⟩
  simp only at hk hat hin ⊢
  by_cases hlt:k<ns.length
  ·have gs:=Mq hlt
   have hdr:ns.drop k=ns[k] :: ns.drop (k+1):=List.drop_eq_getElem_cons hlt
   obtain ⟨nm,hnm⟩:∃ nm,ns[k]=nm:=⟨_,rfl⟩
   rw[hnm]at gs hdr
   by_cases h0:s.ino=0
   ·have hr:atV f p=(qL,1):=by rw[e,hat,hdr];unfold atW;rw[if_pos h0]
    push_cast -dsimp [hsl,hlt,h0]
    exact dn (by push_cast -dsimp [zb,za,CLe,zd,hr,qL])
   ·have hh:=hin h0
    have hg:=jU (G:=G0) f s.ino (by omega)
    have hgg:=zh hh
    rw[hh]at hg
    by_cases hk2:(zf s.ino f.xs).kind=2
    ·have hfd:=zea (G:=G0) (zf s.ino f.xs).es nm (by have:=hs.es hh;omega)
     have hnx:atW f.xs ns ⟨0,[],1⟩=atW f.xs (ns.drop (k+1)) ⟨(zf s.ino f.xs).ino,nm,zM nm (zf s.ino f.xs).es⟩:=by
      rw[hat,hdr]
      conv=>lhs;unfold atW
      rw[if_neg h0,if_neg (by simp[hk2])]
     have hin2:zM nm (zf s.ino f.xs).es≠0->zt (zM nm (zf s.ino f.xs).es) f.xs=true:=fun hne=>by
      refine HL hf hh ?_
      unfold Xv
      rw[qE]
      cases hq:jl zX.name nm (zf s.ino f.xs).es with
      | some e=>rfl
      | none=>unfold zM at hne;rw[hq]at hne;exact absurd rfl hne
     push_cast -dsimp [hsl,hlt,h0]
     refine cl (hg) ?_;push_cast -dsimp [hk2,gs]
     repeat refine an ?_
     refine cl (hfd) ?_;push_cast -dsimp [gs]
     repeat refine an ?_
     exact ⟨(k+1,⟨(zf s.ino f.xs).ino,nm,zM nm (zf s.ino f.xs).es⟩),⟨hlt,hnx,hin2⟩,by simp only;omega,wks [.inl 0]⟩
    ·have hr:atV f p=(qL,3):=by rw[e,hat,hdr];unfold atW;rw[if_neg h0,if_pos hk2]
     push_cast -dsimp [hsl,hlt,h0]
     refine cl (hg) ?_;push_cast -dsimp [hk2]
     exact dn (by push_cast -dsimp [zb,za,CLe,zd,hr,qL])
  ·have hd0:ns.drop k = []:=List.drop_of_length_le (by omega)
   have hr:atV f p=(s,0):=by rw[e,hat,hd0];rfl
   push_cast -dsimp [hsl,hlt]
   exact dn (by push_cast -dsimp [zb,za,CLe,zd,hr])
end
section
open CA CB
open Go.RowKit
theorem zja {f:C} {x:zn} (hx:x.es = []) (R:Env) (vs:List Value) (h:zu R zF [f,.agg [.sc (.int .i64 x.ino),.sc (.int .i64 x.kind),.sc (.int .i64 x.links),.str x.data,.sc (.int .i64 x.parent),.sc (.slice none 0 0)]] vs):zu R zF [f,.agg (Js x)] vs:=by
 obtain ⟨v1,us1,rfl,h1,h⟩:=ze.1 h
 obtain ⟨v2,us2,rfl,h2,h⟩:=ze.1 h
 refine ze.2 ⟨_,_,rfl,h1,ze.2 ⟨_,_,rfl,?_,h⟩⟩
 obtain ⟨ws,rfl,hw⟩:=jT.1 h2
 obtain ⟨w1,t1,e1,g1,hw⟩:=ze.1 hw
 obtain ⟨w2,t2,e2,g2,hw⟩:=ze.1 hw
 obtain ⟨w3,t3,e3,g3,hw⟩:=ze.1 hw
 obtain ⟨w4,t4,e4,g4,hw⟩:=ze.1 hw
 obtain ⟨w5,t5,e5,g5,hw⟩:=ze.1 hw
 obtain ⟨w6,t6,e6,g6,hw⟩:=ze.1 hw
 refine jT.2 ⟨ws,rfl,?_⟩
 have g6':Rep R zF (.sl 2 (zW x.es)) w6:=by rw[hx];exact zjM g6
 rw[e1,e2,e3,e4,e5,e6]
 exact ze.2 ⟨_,_,rfl,g1,ze.2 ⟨_,_,rfl,g2,ze.2 ⟨_,_,rfl,g3,ze.2 ⟨_,_,rfl,g4,ze.2 ⟨_,_,rfl,g5,ze.2 ⟨_,_,rfl,g6',hw⟩⟩⟩⟩⟩⟩
theorem zhh {G:zo} (f:FsV) (x:zn) (hx:x.es = []) (hl:f.xs.length<=90000) :
  Fun Tryz.prog G 46 [.agg (fsC f),.agg [.sc (.int .i64 x.ino),.sc (.int .i64 x.kind),.sc (.int .i64 x.links),.str x.data,.sc (.int .i64 x.parent),.sc (.slice none 0 0)]] (.agg [.sc (.int .i64 f.maxI),.sc (.int .i64 f.maxB),.sc (.int .i64 f.next),.own 0 53 6 (zp (qP x f.xs))]) 1:=
 (X9 f x hl).argsLe (zja hx)
theorem xQ (f:FsV) (hf:FsI f) (hs:FsS f) (s:zZ) (hsp:zH f s):Fun Tryz.prog G0 85 [.agg (fsC f),.agg (XT s)] (.agg (fsC (zi f s))) 0:=by
 have hlen:=hs.len
 have hi:=hsp.ino hf
 have hdl:(jk s.dir (zg s.name) f.xs).length=f.xs.length:=Z3 hf.rises hsp.has
 have hg:=jU (G:=G0) f s.dir (by omega)
 have hg2:=jU (G:=G0) f s.ino (by omega)
 rw[hsp.has]at hg
 rw[hi]at hg2
 have hes:=hs.es hsp.has
 have hw:=Mu (G:=G0) (zf s.dir f.xs).es s.name (by omega)
 have hd1:=X9 (G:=G0) f (jS (zf s.dir f.xs) (zg s.name (zf s.dir f.xs).es)) (by omega)
 have hd2:=X9 (G:=G0) ⟨f.maxI,f.maxB,f.next,jk s.dir (zg s.name) f.xs⟩ { zf s.ino f.xs with links:=(zf s.ino f.xs).links-1 } (by simp only;omega)
 have hd3:=NU (G:=G0) ⟨f.maxI,f.maxB,f.next,jk s.dir (zg s.name) f.xs⟩ s.ino (by simp only;omega)
 have hll:=vT hf hs hi
 by_cases hz:(zf s.ino f.xs).links-1=0
 ·have e:zi f s=⟨f.maxI,f.maxB,f.next,zT s.ino (jk s.dir (zg s.name) f.xs)⟩:=by unfold zi;rw[if_pos hz]
  unfold jk at hd3 e
  have hz':=eq_true hz
  refine fon Tryz.func85 ?_;dsimp only[Tryz.f85]
  push_cast -dsimp
  refine cl (hg) ?_;push_cast -dsimp
  refine cl (hg2) ?_;push_cast -dsimp
  refine cl (hw) ?_;push_cast -dsimp
  repeat refine an ?_
  refine cl (hd1) ?_;push_cast -dsimp [hz']
  refine cl (hd3) ?_;push_cast -dsimp
  exact dn (by push_cast -dsimp [zb,za,CLe,zd,e])
 ·have e:zi f s=⟨f.maxI,f.maxB,f.next,qP { zf s.ino f.xs with links:=(zf s.ino f.xs).links-1 } (jk s.dir (zg s.name) f.xs)⟩:=by unfold zi;rw[if_neg hz]
  unfold jk at hd2 e
  have hz':=eq_false hz
  refine fon Tryz.func85 ?_;dsimp only[Tryz.f85]
  push_cast -dsimp
  refine cl (hg) ?_;push_cast -dsimp
  refine cl (hg2) ?_;push_cast -dsimp
  refine cl (hw) ?_;push_cast -dsimp
  repeat refine an ?_
  refine cl (hd1) ?_;push_cast -dsimp [hz']
  refine cl (hd2) ?_;push_cast -dsimp
  exact dn (by push_cast -dsimp [zb,za,CLe,zd,e])
end
section
open CA CB
open Go.RowKit
theorem UZ {ks:List zK} {i:Nat} (h:i<ks.length):jJ (ks.take (i+1))=ks[i].slot:=by
 have q:(ks.take (i+1)).getLast?=some ks[i]:=by
  rw[List.getLast?_eq_getElem?,show (ks.take (i+1)).length-1=i by rw[List.length_take];omega,List.getElem?_take_of_lt (by omega),List.getElem?_eq_getElem h]
 unfold jJ
 rw[q]
section
variable {G:zo}
theorem zbx (w:qk) (n:Int) (hl:w.kept.length<=100000):Fun Tryz.prog G 87 [Yp w,.sc (.int .i64 n)] (.tup [.agg (jF (Uc n w.kept)),.sc (.bool (VS n w.kept))]) 0:=by
 obtain ⟨f,ks,pool⟩:=w
 have hl:ks.length<=100000:=hl
 have hll:(zC ks).length=ks.length:=List.length_map ..
 show Fun Tryz.prog G 87 [Yp ⟨f,ks,pool⟩,.sc (.int .i64 n)] (.tup [.agg (jF (Uc n ks)),.sc (.bool (VS n ks))]) 0
 refine fon Tryz.func87 ?_;dsimp only[Tryz.f87]
 push_cast -dsimp
 refine loop (fun i:Nat=>⟨[(1,.sc (.int .i64 n)),(2,.ptr 0 0),(4,.ptr 1 0),(6,.sc (.int .i64 i))],[QJ ⟨f,ks,pool⟩,[.sc (.int .i64 0),.sc (.int .i64 0),.sc (.bool false),.str []]],0,0⟩) (fun i=>i<=ks.length/\JV zK.slot n (ks.take i)=false) (fun i=>ks.length-i) 0 ⟨Nat.zero_le _,rfl⟩ ?_ ?_
 ·exact wk
 ·rintro i ⟨h1,h2⟩
  by_cases h:i<ks.length
  ·have g1:=ji ks i h
   obtain ⟨q1,q2⟩:=Ht h h2
   by_cases he:ks[i].slot=n
   ·have q:=q1 he
    have e1:VS n ks=true:=by unfold VS;rw[qE,q];rfl
    have e2:Uc n ks=ks[i]:=by unfold Uc;rw[q];rfl
    push_cast -dsimp [hll,h,g1,he]
    repeat refine an ?_
    exact dn (by push_cast -dsimp [zb,za,CLe,zd,e1,e2,he])
   ·push_cast -dsimp [hll,h,g1,he]
    repeat refine an ?_
    exact ⟨i+1,⟨h,q2 he⟩,by omega,wk⟩
  ·rw[List.take_of_length_le (by omega)]at h2
   have e1:VS n ks=false:=h2
   have e2:Uc n ks=zdj:=by unfold Uc;rw[vV h2];rfl
   push_cast -dsimp [hll,h]
   exact dn (by push_cast -dsimp [zb,za,CLe,zd,e1,e2,zdj])
theorem HF (w:qk) (k:zK) (hl:w.kept.length<=90000):Fun Tryz.prog G 138 [Yp w,.agg (jF k)] (Yp { w with kept:=qi k w.kept }) 0:=by
 obtain ⟨f,ks,pool⟩:=w
 have hl:ks.length<=90000:=hl
 have hll:(zC ks).length=ks.length:=List.length_map ..
 show Fun Tryz.prog G 138 [Yp ⟨f,ks,pool⟩,.agg (jF k)] (Yp ⟨f,ZS ju zK.slot k ks,pool⟩) 0
 refine fon Tryz.func138 ?_;dsimp only[Tryz.f138]
 push_cast -dsimp
 refine loop (fun p:Nat×List zK×Bool=>⟨[(2,.ptr 0 0),(3,.ptr 1 0),(4,.ptr 2 0),(5,.own 0 94 4 (zC p.2.1)),(6,.sc (.bool p.2.2)),(7,.sc (.int .i64 p.1))],[QJ ⟨f,ks,pool⟩,jF k,[.sc (.int .i64 0),.sc (.int .i64 0),.sc (.int .i64 0),.sc (.slice none 0 0),.sc (.slice none 0 0),.sc (.slice none 0 0)]],1,0⟩)
  (fun p=>p.1<=ks.length/\p.2.1.length<=p.1+p.2.2.toNat/\ZS ju zK.slot k ks=p.2.1++(if p.2.2 then ks.drop p.1 else ZS ju zK.slot k (ks.drop p.1))) (fun p=>ks.length-p.1) (0,[],false) ⟨Nat.zero_le _,Nat.zero_le _,by simp⟩ ?_ ?_
 ·exact wks [.inr (94,4)]
 ·rintro ⟨i,out,d⟩ ⟨h1,h2,h3⟩
  dsimp only at h1 h2 h3 ⊢
  have hlo:(zC out).length=out.length:=List.length_map ..
  by_cases h:i<ks.length
  ·have g1:=ji ks i h
   rw[List.drop_eq_getElem_cons h]at h3
   cases d with
   | true =>
    simp only[Bool.toNat_true]at h2
    push_cast -dsimp [hll,h,g1]
    repeat refine an ?_
    exact ⟨(i+1,out++[ks[i]],true),⟨h,by simp;omega,by rw[h3];simp⟩,by dsimp only;omega,wks [.inl 0] (by push_cast -dsimp [zb,za,CLe,zd,List.map_append])⟩
   | false =>
    simp only[Bool.false_eq_true,if_false,ZS]at h3
    simp only[Bool.toNat_false]at h2
    by_cases hc:k.slot<ks[i].slot
    ·rw[if_pos (show ju.lt k.slot ks[i].slot=true from decide_eq_true hc)]at h3
     push_cast -dsimp [hll,h,g1,hc]
     repeat refine an ?_
     exact ⟨(i+1,out++[k]++[ks[i]],true),⟨h,by simp;omega,by rw[h3];simp⟩,by dsimp only;omega,wks [.inl 0] (by push_cast -dsimp [zb,za,CLe,zd,List.map_append])⟩
    ·rw[if_neg (show ¬ju.lt k.slot ks[i].slot=true by rw[show ju.lt k.slot ks[i].slot=false from decide_eq_false hc];decide)]at h3
     push_cast -dsimp [hll,h,g1,hc]
     repeat refine an ?_
     exact ⟨(i+1,out++[ks[i]],false),⟨h,by simp;omega,by rw[h3];simp⟩,by dsimp only;omega,wks [.inl 0] (by push_cast -dsimp [zb,za,CLe,zd,List.map_append])⟩
  ·rw[List.drop_of_length_le (by omega)]at h3
   cases d with
   | true =>
    simp only[Bool.toNat_true]at h2
    have h3:ZS ju zK.slot k ks=out:=by rw[h3];simp
    push_cast -dsimp [hll,h]
    exact dn (by push_cast -dsimp [zb,za,CLe,zd,h3])
   | false =>
    simp only[Bool.toNat_false]at h2
    have h3:ZS ju zK.slot k ks=out++[k]:=by rw[h3];simp[ZS]
    push_cast -dsimp [hll,h]
    repeat refine an ?_
    exact dn (by push_cast -dsimp [zb,za,CLe,zd,h3,List.map_append])
theorem Zl (w:qk):Fun Tryz.prog G 94 [Yp w] (.agg [.sc (.int .i64 0),.sc (.int .i64 0),.sc (.int .i64 0),.sl 6 (zp w.pool)]) 0:=by
 refine fon Tryz.func94 ?_;dsimp only[Tryz.f94]
 push_cast -dsimp
 exact dn
theorem UN (w:qk) (hk:w.kept.length<=100000) (hR:qC ju zK.slot w.kept) (hp:∀ k∈w.kept,1<=k.slot):Fun Tryz.prog G 23 [Yp w] (.sc (.int .i64 (jJ w.kept))) 0:=by
 obtain ⟨f,ks,pool⟩:=w
 have hk:ks.length<=100000:=hk
 have hll:(zC ks).length=ks.length:=List.length_map ..
 show Fun Tryz.prog G 23 [Yp ⟨f,ks,pool⟩] (.sc (.int .i64 (jJ ks))) 0
 have h0:jJ []=0:=rfl
 refine fon Tryz.func23 ?_;dsimp only[Tryz.f23]
 push_cast -dsimp
 refine loop (fun i:Nat=>⟨[(1,.ptr 0 0),(3,.sc (.int .i64 (jJ (ks.take i)))),(4,.sc (.int .i64 i))],[QJ ⟨f,ks,pool⟩],0,0⟩) (fun i=>i<=ks.length) (fun i=>ks.length-i) 0 (Nat.zero_le _) ?_ ?_
 ·exact wk (by push_cast -dsimp [zb,za,CLe,zd,List.take_zero,h0])
 ·intro i hi
  by_cases h:i<ks.length
  ·have g1:=ji ks i h
   have e1:jJ (ks.take (i+1))=ks[i].slot:=UZ h
   have e2:(if ks[i].slot>jJ (ks.take i) then ks[i].slot else jJ (ks.take i))=ks[i].slot:=by
    suffices hle:jJ (ks.take i)<=ks[i].slot by split<;>omega
    rcases Nat.eq_zero_or_pos i with rfl | hpos
    ·have:=hp _ (List.getElem_mem h)
     show (0:Int)<=_
     omega
    ·obtain ⟨j,rfl⟩:∃ j,i=j+1:=⟨i-1,by omega⟩
     have hj:j<ks.length:=by omega
     rw[UZ hj]
     have:=(List.pairwise_iff_getElem.1 hR) j (j+1) hj h (by omega)
     have:ks[j].slot<ks[j+1].slot:=of_decide_eq_true this
     omega
   push_cast -dsimp [hll,h,g1]
   repeat refine an ?_
   exact ⟨i+1,h,by omega,wk (by push_cast -dsimp [zb,za,CLe,zd,e1,e2])⟩
  ·rw[List.take_of_length_le (by omega)]
   push_cast -dsimp [hll,h]
   exact dn
end
end
section
open CA CB
open Go.RowKit
theorem zdR (w:qk) (hw:H6 w) (hs:FsS w.fs) (hk:w.kept.length<=90000) (hp:w.pool.length<=90000) (n:Int) (s:zZ) (hsp:zH w.fs s):Fun Tryz.prog G0 84 [Yp w,.sc (.int .i64 n),.agg (XT s)] (.tup [Yp (qZ w n s).1,.sc (.int .i64 (qZ w n s).2)]) 0:=by
 have hf:=hw.fs
 have hlen:=hs.len
 have hino:=hsp.ino hf
 have h1:=zbx (G:=G0) w n (by omega)
 cases hh:VS n w.kept with
 | true =>
  have e:qZ w n s=(w,13):=by unfold qZ;rw[hh];rfl
  rw[hh]at h1
  refine fof (fun j=>if j=9 then [false,false,false,false,false,false,false,true] else []) Tryz.func84 ?_;dsimp only[Tryz.f84]
  push_cast -dsimp
  refine cl (h1) ?_;push_cast -dsimp
  exact dn (by push_cast -dsimp [zb,za,CLe,zd,e])
 | false =>
  rw[hh]at h1
  have hg:=jU (G:=G0) w.fs s.ino (by omega)
  rw[hino]at hg
  have hu:=xQ w.fs hf hs s hsp
  by_cases hz:(zf s.ino w.fs.xs).links=1
  ·have e:qZ w n s=(⟨zi w.fs s,qi ⟨n,s.ino,false,[]⟩ w.kept,qP { zf s.ino w.fs.xs with links:=0,parent:=0 } w.pool⟩,0):=by unfold qZ;rw[hh,if_pos hz];rfl
   have hz':=eq_true hz
   have hpo:=Zl (G:=G0) ⟨zi w.fs s,w.kept,w.pool⟩
   have hst:=X9 (G:=G0) ⟨0,0,0,w.pool⟩ { zf s.ino w.fs.xs with links:=0,parent:=0 } hp
   have hwi:=HF (G:=G0) ⟨zi w.fs s,w.kept,qP { zf s.ino w.fs.xs with links:=0,parent:=0 } w.pool⟩ ⟨n,s.ino,false,[]⟩ hk
   refine fof (fun j=>if j=9 then [false,false,false,false,false,false,false,true] else []) Tryz.func84 ?_;dsimp only[Tryz.f84]
   push_cast -dsimp
   refine cl (h1) ?_;push_cast -dsimp
   refine cl (hg) ?_;push_cast -dsimp
   refine cl (hu) ?_;push_cast -dsimp [hz']
   refine cl (hpo) ?_;push_cast -dsimp
   refine cl (hst) ?_;push_cast -dsimp
   refine cl (hwi) ?_;push_cast -dsimp
   exact dn (by push_cast -dsimp [zb,za,CLe,zd,e])
  ·have e:qZ w n s=(⟨zi w.fs s,qi ⟨n,s.ino,false,[]⟩ w.kept,w.pool⟩,0):=by unfold qZ;rw[hh,if_neg hz];rfl
   have hz':=eq_false hz
   have hwi:=HF (G:=G0) ⟨zi w.fs s,w.kept,w.pool⟩ ⟨n,s.ino,false,[]⟩ hk
   refine fof (fun j=>if j=9 then [false,false,false,false,false,false,false,true] else []) Tryz.func84 ?_;dsimp only[Tryz.f84]
   push_cast -dsimp
   refine cl (h1) ?_;push_cast -dsimp
   refine cl (hg) ?_;push_cast -dsimp
   refine cl (hu) ?_;push_cast -dsimp [hz']
   refine cl (hwi) ?_;push_cast -dsimp
   exact dn (by push_cast -dsimp [zb,za,CLe,zd,e])
theorem zlX (f:FsV) (hf:FsI f) (hs:FsS f) (p:List UInt8) (hp:p.length<=100000) (b:Bool):Fun Tryz.prog G0 81 [.agg (fsC f),.str p,.sc (.int .i64 (if b then 1 else 0))] (.tup [.agg (XT (isV f p b).1),.agg (Js (isV f p b).2.1),.sc (.int .i64 (isV f p b).2.2)]) 0:=by
 have hlen:=hs.len
 have h1:=zmi f hf hs p hp
 have h2:=jU (G:=G0) f (atV f p).1.ino (by omega)
 have e1:(isV f p b).1=(atV f p).1:=rfl
 have e2:(isV f p b).2.1=zf (atV f p).1.ino f.xs:=rfl
 have e3:(isV f p b).2.2=if (atV f p).2≠0 then (atV f p).2 else if b&&!zt (atV f p).1.ino f.xs then 1 else if !b&&zt (atV f p).1.ino f.xs then 2 else 0:=rfl
 by_cases h0:(atV f p).2=0
 ·rw[if_neg (fun h=>h h0)]at e3
  have h0':=eq_true h0
  rw[h0]at h1
  cases hb:b with
  | true =>
   subst hb
   cases hh:zt (atV f p).1.ino f.xs with
   | true =>
    rw[hh]at h2 e3
    simp only[Bool.true_and,Bool.not_true,Bool.false_and,if_false,Bool.false_eq_true]at e3
    refine fof (fun i=>if i=7 then V1 [(0,.pure),(1,.pure),(2,.pure),(3,.flt [1,2]),(4,.flt [2]),(5,.pure)] else []) Tryz.func81 ?_;dsimp only[Tryz.f81]
    push_cast -dsimp [if_true]
    refine cl (h1) ?_;push_cast -dsimp
    refine cl (h2) ?_;push_cast -dsimp
    exact dn (by push_cast -dsimp [zb,za,CLe,zd,e1,e2,e3])
   | false =>
    rw[hh]at h2 e3
    simp only[Bool.true_and,Bool.not_false,if_true]at e3
    refine fof (fun i=>if i=7 then V1 [(0,.pure),(1,.pure),(2,.pure),(3,.flt [1,2]),(4,.flt [2]),(5,.pure)] else []) Tryz.func81 ?_;dsimp only[Tryz.f81]
    push_cast -dsimp [if_true]
    refine cl (h1) ?_;push_cast -dsimp
    refine cl (h2) ?_;push_cast -dsimp
    exact dn (by push_cast -dsimp [zb,za,CLe,zd,e1,e2,e3])
  | false =>
   subst hb
   cases hh:zt (atV f p).1.ino f.xs with
   | true =>
    rw[hh]at h2 e3
    simp only[Bool.false_and,Bool.not_false,Bool.true_and,if_true,if_false,Bool.false_eq_true]at e3
    refine fof (fun i=>if i=7 then V1 [(0,.pure),(1,.pure),(2,.pure),(3,.flt [1,2]),(4,.flt [2]),(5,.pure)] else []) Tryz.func81 ?_;dsimp only[Tryz.f81]
    push_cast -dsimp [Bool.false_eq_true,if_false]
    refine cl (h1) ?_;push_cast -dsimp
    refine cl (h2) ?_;push_cast -dsimp
    exact dn (by push_cast -dsimp [zb,za,CLe,zd,e1,e2,e3])
   | false =>
    rw[hh]at h2 e3
    simp only[Bool.false_and,Bool.not_false,Bool.true_and,if_false,Bool.false_eq_true]at e3
    refine fof (fun i=>if i=7 then V1 [(0,.pure),(1,.pure),(2,.pure),(3,.flt [1,2]),(4,.flt [2]),(5,.pure)] else []) Tryz.func81 ?_;dsimp only[Tryz.f81]
    push_cast -dsimp [Bool.false_eq_true,if_false]
    refine cl (h1) ?_;push_cast -dsimp
    refine cl (h2) ?_;push_cast -dsimp
    exact dn (by push_cast -dsimp [zb,za,CLe,zd,e1,e2,e3])
 ·rw[if_pos h0]at e3
  have h0':=eq_false h0
  refine fof (fun i=>if i=7 then V1 [(0,.pure),(1,.pure),(2,.pure),(3,.flt [1,2]),(4,.flt [2]),(5,.pure)] else []) Tryz.func81 ?_;dsimp only[Tryz.f81]
  push_cast -dsimp
  refine cl (h1) ?_;push_cast -dsimp
  refine cl (h2) ?_;push_cast -dsimp [h0']
  exact dn (by push_cast -dsimp [zb,za,CLe,zd,e1,e2,e3])
end
section
open CA CB
open Go.RowKit
def zr8 (n:Int):List C:=[.sc (.int .i64 n)]
abbrev zrE (l:List Int):List (List C):=l.map zr8
theorem yD (l:List Int):(zrE l).length=l.length:=List.length_map _
theorem zc4 (l:List Int) (n:Int):zrE l++[[.sc (.int .i64 n)]]=zrE (l++[n]):=by simp[zr8]
attribute [push_cast] yD zc4
abbrev zcv (l:List OpV):List (List C):=l.map opL
theorem vn (l:List OpV):(zcv l).length=l.length:=List.length_map _
theorem vz (l:List OpV) (k:Nat) (h:k<l.length):(zcv l)[k]?=some (opL (l[k]'h)):=by rw[List.getElem?_map,List.getElem?_eq_getElem h];rfl
theorem zep (l:List OpV) (k:Nat):(zcv l).take k=zcv (l.take k):=List.map_take.symm
theorem zdH (l:List OpV) (k:Nat):(zcv l).drop k=zcv (l.drop k):=List.map_drop.symm
attribute [push_cast] vn zep zdH
def znA (a b:Int):Int:=if a<b then -1 else if b<a then 1 else 0
def uq (w:Int):List Int->Bool
 | a :: b :: r=>decide (znA b a=w)&&uq w (b :: r)
 | _=>true
theorem vX (w:Int):∀ l:List Int,uq w l=true↔∀ (j:Nat) (h:j+1<l.length),znA (l[j+1]'h) (l[j]'(by omega))=w
 | []=>by simp[uq]
 | [a]=>by simp[uq]
 | a :: b :: r=>by
  have ih:=vX w (b :: r)
  simp only[uq,Bool.and_eq_true,decide_eq_true_eq,ih]
  constructor
  ·rintro ⟨h1,h2⟩ j h
   cases j with
   | zero=>exact h1
   | succ j=>exact h2 j (by simpa using h)
  ·exact fun h=>⟨h 0 (by simp),fun j hj=>h (j+1) (by simpa using hj)⟩
end
section
open Go.RowKit
def jj (l:List OpV):List Int:=(l.filter fun o=>jZ o.kind).map (·.slot)
theorem U6 (l:List OpV) (k:Nat) (h:k<l.length):jj (l.take (k+1))=if jZ (l[k]'h).kind then jj (l.take k)++[(l[k]'h).slot] else jj (l.take k):=by
 unfold jj
 rw[List.take_add_one,List.getElem?_eq_getElem h,List.filter_append]
 cases hf:jZ (l[k]'h).kind<;>simp[hf]
end
section
open Go.RowKit
def XL (o:OpV):Bool:=!QL o||decide (7<o.kind)
def zoI (l:List OpV):Prop:=∀ o∈l,vC o
def XM (l:List OpV):Bool:=!l.any XL&&uq 1 (jj l)
def znr (o p:OpV):Bool:=decide (o.kind=p.kind)&&decide (o.slot=p.slot)&&decide (o.a=p.a)&&decide (o.b=p.b)&&decide (o.d=p.d)
def JH:List OpV->List OpV->Bool
 | [],[]=>true
 | o :: r,p :: s=>znr o p&&JH r s
 | _,_=>false
theorem YP:∀ l m:List OpV,JH l m=true↔l.length=m.length/\∀ (j:Nat) (h:j<l.length) (h':j<m.length),znr (l[j]'h) (m[j]'h')=true
 | [],[]=>by simp[JH]
 | [],p :: s=>by simp[JH]
 | o :: r,[]=>by simp[JH]
 | o :: r,p :: s=>by
  have ih:=YP r s
  simp only[JH,Bool.and_eq_true,ih,List.length_cons]
  constructor
  ·rintro ⟨h1,h2,h3⟩
   refine ⟨by omega,fun j hj hj'=>?_⟩
   cases j with
   | zero=>exact h1
   | succ j=>exact h3 j (by omega) (by omega)
  ·rintro ⟨h1,h2⟩
   exact ⟨h2 0 (by omega) (by omega),by omega,fun j hj hj'=>h2 (j+1) (by omega) (by omega)⟩
end
section
open CA CB
open Go.RowKit
theorem kW (p:List UInt8) (hp:p.length<=100000):Fun Tryz.prog G0 89 [.str p] (qt (qD p)) 0:=by
 have h:=XS p (by omega)
 unfold JL at h
 cases hb:Jc p with
 | false =>
  rw[hb]at h
  refine fon Tryz.func89 ?_;dsimp only[Tryz.f89]
  push_cast -dsimp
  refine cl (h) ?_;push_cast -dsimp
  exact ⟨[],rfl,rfl,by push_cast -dsimp [zb,za,CLe,zd];simp[qD,hb]⟩
 | true =>
  rw[hb,if_pos rfl]at h
  refine fon Tryz.func89 ?_;dsimp only[Tryz.f89]
  push_cast -dsimp
  refine cl (h) ?_;push_cast -dsimp
  refine ⟨[],rfl,rfl,?_⟩
  push_cast -dsimp [zb,za,CLe,zd]
  by_cases hn:zk p = []
  ·simp[qD,hb,hn]
  ·have:=List.length_pos_iff.2 hn
   simp[qD,hb,hn,this]
theorem vF (s:List UInt8) (hs:s.length<=1000000):Fun Tryz.prog G0 90 [.str s] (qt (YK s)) 0:=by
 refine fon Tryz.func90 ?_;dsimp only[Tryz.f90]
 push_cast -dsimp
 refine loop (fun k:Nat=>⟨[(0,.str s),(3,.sc (.int .i64 k))],[],0,0⟩) (fun k=>k<=s.length/\∀ j (hj:j<s.length),j<k->decide (s[j]'hj=0)=false) (fun k=>s.length-k) 0 ⟨Nat.zero_le _,fun j _ hj=>by omega⟩ ?_ ?_
 ·exact wk
 ·intro k hk
  have hk1:=hk.1
  have hk2:=hk.2
  by_cases h:k<s.length
  ·have hb:s[k]?=some (s[k]'h):=List.getElem?_eq_getElem h
   by_cases h0:s[k]'h=0
   ·have h1:((s[k]'h).toNat:Int)=0:=by rw[h0];rfl
    push_cast -dsimp [h,hb,h1]
    refine ⟨by omega,[],rfl,rfl,?_⟩
    push_cast -dsimp [zb,za,CLe,zd]
    have:s.any (fun b=>decide (b=0))=true:=List.any_eq_true.2 ⟨s[k]'h,List.getElem_mem h,by simpa using h0⟩
    simp[YK,this]
   ·have h1:¬((s[k]'h).toNat:Int)=0:=NG h0
    push_cast -dsimp [h,hb,h1]
    repeat refine an ?_
    refine ⟨k+1,⟨by omega,fun j hj hjk=>?_⟩,by omega,wk⟩
    rcases Nat.lt_or_ge j k with g | g
    ·exact hk2 j hj g
    ·have:j=k:=by omega
     subst this;simpa using h0
  ·have hall:s.any (fun b=>decide (b=0))=false:=List.any_eq_false.2 fun x hx=>by
    obtain ⟨j,hj,rfl⟩:=List.getElem_of_mem hx
    have:=hk2 j hj (by omega)
    simp[this]
   by_cases h1:s = []
   ·have hn:¬(1:Int)<=(s.length:Int):=by rw[h1];simp
    push_cast -dsimp [h,hn]
    exact ⟨[],rfl,rfl,by push_cast -dsimp [zb,za,CLe,zd]<;>simp[YK,h1]⟩
   ·have hpos:1<=s.length:=List.length_pos_iff.2 h1
    have hpos':(1:Int)<=(s.length:Int):=by omega
    push_cast -dsimp [h,hpos,hpos']
    refine ⟨[],rfl,rfl,?_⟩
    push_cast -dsimp [zb,za,CLe,zd]
    have:decide ((s.length:Int)<=4095)=decide (s.length<=4095):=by rw[decide_eq_decide];omega
    simp[YK,h1,hall,this]
theorem Uh (k:Int):Fun Tryz.prog G0 42 [.sc (.int .i64 k)] (qt (jZ k)) 0:=by
 refine fon Tryz.func42 ?_;dsimp only[Tryz.f42]
 push_cast -dsimp
 repeat' (first
  | (refine br (fun h=>?_) (fun h=>?_)<;>push_cast -dsimp [h])
  | (refine ⟨[],rfl,rfl,?_⟩;push_cast -dsimp [zb,za,CLe,zd];simp_all [jZ]))
theorem kl {a b:List UInt8} (ha:qD a=true) (hb:qD b=true):Xb a b=J0 a b:=by
 simp only[qD,Bool.and_eq_true]at ha hb
 exact yF a b ha.1 hb.1
theorem ux (k s:Int) (a b d:List UInt8) (hs:vC ⟨k,s,a,b,d⟩):Fun Tryz.prog G0 41 [.agg (opL ⟨k,s,a,b,d⟩)] (qt (QL ⟨k,s,a,b,d⟩)) 0:=by
 have hs1:a.length<=100000:=hs.1
 have hs2:b.length<=100000:=hs.2.1
 have hs3:d.length<=100000:=hs.2.2
 have h1:=(kW a (by omega))
 have h2:=(kW b (by omega))
 have h3:=(vF d (by omega))
 have h4:=(Vg a b (by omega) (by omega))
 have h5:=(Vg b a (by omega) (by omega))
 have h6:=Uh k
 unfold opL
 by_cases hk1:k<1
 ·have:¬1<=k:=by omega
  refine fon Tryz.func41 ?_;dsimp only[Tryz.f41]
  push_cast -dsimp [hk1]
  exact ⟨[],rfl,rfl,by push_cast -dsimp [zb,za,CLe,zd];simp[QL,this]⟩
 by_cases hk2:10<k
 ·have:¬k<=10:=by omega
  refine fon Tryz.func41 ?_;dsimp only[Tryz.f41]
  push_cast -dsimp [hk1,hk2]
  exact ⟨[],rfl,rfl,by push_cast -dsimp [zb,za,CLe,zd];simp[QL,this]⟩
 cases hp:qD a with
 | false =>
  rw[hp]at h1
  refine fon Tryz.func41 ?_;dsimp only[Tryz.f41]
  push_cast -dsimp [hk1,hk2]
  refine cl (h1) ?_;push_cast -dsimp
  exact ⟨[],rfl,rfl,by push_cast -dsimp [zb,za,CLe,zd];simp[QL,hp]⟩
 | true =>
  rw[hp]at h1
  have hu:qD b=true->Xb a b=J0 a b:=fun hb=>kl hp hb
  have hu2:qD b=true->Xb b a=J0 b a:=fun hb=>kl hb hp
  have hk:k=1∨k=2∨k=3∨k=4∨k=5∨k=6∨k=7∨k=8∨k=9∨k=10:=by omega
  clear hk1 hk2 hs hs1 hs2 hs3
  rcases hk with rfl | rfl | rfl | rfl | rfl | rfl | rfl | rfl | rfl | rfl
  all_goals
   simp[jZ]at h6
   refine fon Tryz.func41 ?_;dsimp only[Tryz.f41]
   push_cast -dsimp
   refine cl (h1) ?_;push_cast -dsimp
   refine cl (h6) ?_;push_cast -dsimp
   repeat' (first
    | (refine call h2 ?_;push_cast -dsimp)
    | (refine kM h2 ?_;push_cast -dsimp)
    | (refine call h3 ?_;push_cast -dsimp)
    | (refine kM h3 ?_;push_cast -dsimp)
    | (refine call h4 ?_;push_cast -dsimp)
    | (refine kM h4 ?_;push_cast -dsimp)
    | (refine call h5 ?_;push_cast -dsimp)
    | (refine kM h5 ?_;push_cast -dsimp)
    | (refine br (fun h=>?_) (fun h=>?_)<;>push_cast -dsimp [h])
    | (refine ⟨[],rfl,rfl,?_⟩;push_cast -dsimp [zb,za,CLe,zd];clear h1 h2 h3 h4 h5 h6;simp_all [QL,jZ,znE]<;>omega))
end
section
open CA CB
open Go.RowKit
theorem ziz (w:qk) (hw:H6 w) (hs:zkA w) (s:Int) (a b d:List UInt8) (ho:vC ⟨7,s,a,b,d⟩) (hd:d.length<=10000) (hm:QL ⟨7,s,a,b,d⟩=true) (p1:qD a=true) (p2:znE 7=true->qD b=true):Fun Tryz.prog G0 40 [Yp w,.agg (opL ⟨7,s,a,b,d⟩)] (.tup [Yp (doV w ⟨7,s,a,b,d⟩).1,.sc (.int .i64 (doV w ⟨7,s,a,b,d⟩).2)]) 0:=by
 have e0:doV w ⟨7,s,a,b,d⟩=qg w ⟨7,s,a,b,d⟩:=by unfold doV;rw[hm];rfl
 have hop:=ux 7 s a b d ho
 rw[hm]at hop
 rw[e0]
 unfold qt opL at hop
 unfold opL
 have h1:=zlX w.fs hw.fs hs.fs a ho.1 true
 rw[if_pos rfl]at h1
 by_cases h0:(isV w.fs a true).2.2=0
 ·have h0':=eq_true h0
  obtain ⟨t1,t2⟩:=GM hw.fs p1 h0
  by_cases hes:(isV w.fs a true).2.1.es = []
  ·have hel:(0<(zW (isV w.fs a true).2.1.es).length)=False:=eq_false (by rw[hes];simp)
   have hd:=zdR w hw hs.fs (by have:=hs.kept;omega) (by have:=hs.pool;omega) s (isV w.fs a true).1 t1
   have e:qg w ⟨7,s,a,b,d⟩=qZ w s (isV w.fs a true).1:=by unfold qg;simp[h0,hes]
   refine fon Tryz.func40 ?_;dsimp only[Tryz.f40]
   push_cast -dsimp
   refine cl (hop) ?_;push_cast -dsimp
   refine cl (h1) ?_;push_cast -dsimp [h0',hel]
   refine cl (hd) ?_;push_cast -dsimp
   exact dn (by push_cast -dsimp [zb,za,CLe,zd,e])
  ·have hel:(0<(zW (isV w.fs a true).2.1.es).length)=True:=eq_true (by rw[List.length_map];exact List.length_pos_iff.2 hes)
   have e:qg w ⟨7,s,a,b,d⟩=(w,5):=by unfold qg;simp[h0,hes]
   refine fon Tryz.func40 ?_;dsimp only[Tryz.f40]
   push_cast -dsimp
   refine cl (hop) ?_;push_cast -dsimp
   refine cl (h1) ?_;push_cast -dsimp [h0',hel]
   exact dn (by push_cast -dsimp [zb,za,CLe,zd,e])
 ·have h0':=eq_false h0
  have e:qg w ⟨7,s,a,b,d⟩=(w,(isV w.fs a true).2.2):=by unfold qg;simp[h0]
  refine fon Tryz.func40 ?_;dsimp only[Tryz.f40]
  push_cast -dsimp
  refine cl (hop) ?_;push_cast -dsimp
  refine cl (h1) ?_;push_cast -dsimp [h0']
  exact dn (by push_cast -dsimp [zb,za,CLe,zd,e])
end
section
open CA CB
open Go.RowKit
def Jb (f:FsV):Prop:=1<=f.maxI/\f.maxI<=1073741824/\0<=f.maxB/\f.maxB<=1073741824/\f.next<=1099511627776/\(∀ x∈f.xs,1<=x.ino/\x.ino<f.next)/\z8 f.xs/\zt 1 f.xs=true/\(zf 1 f.xs).kind=2
instance (f:FsV):Decidable (Jb f):=by unfold Jb;infer_instance
def Ya (f:FsV):Prop:=∀ x∈f.xs,∀ e∈x.es,zt e.ino f.xs=true
instance (f:FsV):Decidable (Ya f):=by unfold Ya;infer_instance
def kJ (f:FsV):Prop:=(f.xs.length:Int)<=f.maxI/\(qp f.xs:Int)<=f.maxB
instance (f:FsV):Decidable (kJ f):=by unfold kJ;infer_instance
theorem qe {α:Type} {l:List α} {i:Nat} (h:i<l.length) {P:α->Prop} (h1:∀ x∈l.take i,P x) (h2:P l[i]):∀ x∈l.take (i+1),P x:=fun x hx=>by
 rw[List.take_add_one,List.getElem?_eq_getElem h]at hx
 rcases List.mem_append.1 hx with hx | hx
 ·exact h1 x hx
 ·simp at hx;subst hx;exact h2
section
variable {G:zo}
theorem Mt (f:FsV) (hl:f.xs.length<=100000):Fun Tryz.prog G 141 [.agg (fsC f)] (.sc (.bool (decide (Jb f)))) 0:=by
 have hll:(zp f.xs).length=f.xs.length:=List.length_map ..
 refine fon Tryz.func141 ?_;dsimp only[Tryz.f141]
 by_cases e0:f.maxI<1
 case pos =>
  have hn:¬Jb f:=fun h=>by have:=h.1;omega
  push_cast -dsimp [e0]
  exact dn (by push_cast -dsimp [zb,za,CLe,zd,hn])
 by_cases e1:1073741824<f.maxI
 case pos =>
  have hn:¬Jb f:=fun h=>by have:=h.2.1;omega
  push_cast -dsimp [e0,e1]
  exact dn (by push_cast -dsimp [zb,za,CLe,zd,hn])
 by_cases e2:f.maxB<0
 case pos =>
  have hn:¬Jb f:=fun h=>by have:=h.2.2.1;omega
  push_cast -dsimp [e0,e1,e2]
  exact dn (by push_cast -dsimp [zb,za,CLe,zd,hn])
 by_cases e3:1073741824<f.maxB
 case pos =>
  have hn:¬Jb f:=fun h=>by have:=h.2.2.2.1;omega
  push_cast -dsimp [e0,e1,e2,e3]
  exact dn (by push_cast -dsimp [zb,za,CLe,zd,hn])
 by_cases e4:1099511627776<f.next
 case pos =>
  have hn:¬Jb f:=fun h=>by have:=h.2.2.2.2.1;omega
  push_cast -dsimp [e0,e1,e2,e3,e4]
  exact dn (by push_cast -dsimp [zb,za,CLe,zd,hn])
 push_cast -dsimp [e0,e1,e2,e3,e4]
 refine loop (fun i:Nat=>⟨[(1,.ptr 0 0),(3,.sc (.int .i64 i))],[fsC f],0,0⟩) (fun i=>i<=f.xs.length/\∀ x∈f.xs.take i,1<=x.ino/\x.ino<f.next) (fun i=>f.xs.length-i) 0 ⟨Nat.zero_le _,fun x hx=>by simp at hx⟩ ?_ ?_
 ·exact wk
 ·rintro i ⟨h1,h2⟩
  by_cases h:i<f.xs.length
  ·have g1:=qI f.xs i h
   by_cases c1:f.xs[i].ino<1
   ·have hn:¬Jb f:=fun h'=>by have:=h'.2.2.2.2.2.1 _ (List.getElem_mem h);omega
    push_cast -dsimp [hll,h,g1,c1]
    repeat refine an ?_
    exact dn (by push_cast -dsimp [zb,za,CLe,zd,hn])
   ·by_cases c2:f.next<=f.xs[i].ino
    ·have hn:¬Jb f:=fun h'=>by have:=h'.2.2.2.2.2.1 _ (List.getElem_mem h);omega
     push_cast -dsimp [hll,h,g1,c1,c2]
     repeat refine an ?_
     exact dn (by push_cast -dsimp [zb,za,CLe,zd,hn])
    ·push_cast -dsimp [hll,h,g1,c1,c2]
     repeat refine an ?_
     exact ⟨i+1,⟨h,qe h h2 (by omega)⟩,by omega,wk⟩
  ·rw[List.take_of_length_le (by omega)]at h2
   have hf:Jb f↔z8 f.xs/\zt 1 f.xs=true/\(zf 1 f.xs).kind=2:=⟨fun h=>h.2.2.2.2.2.2,fun h=>⟨by omega,by omega,by omega,by omega,by omega,h2,h⟩⟩
   push_cast -dsimp [hll,h]
   refine cl (jU f 1 hl) ?_;push_cast -dsimp
   by_cases c1:z8 f.xs
   ·cases c2:zt 1 f.xs with
    | true =>
     refine cl (V8 f hl) ?_;push_cast -dsimp [decide_eq_true c1,c2]
     exact dn (by push_cast -dsimp [zb,za,CLe,zd,hf,c1,c2])
    | false =>
     have hn:¬Jb f:=fun h=>by have:=(hf.1 h).2.1;rw[c2]at this;cases this
     refine cl (V8 f hl) ?_;push_cast -dsimp [decide_eq_true c1,c2]
     exact dn (by push_cast -dsimp [zb,za,CLe,zd,hn])
   ·have hn:¬Jb f:=fun h=>c1 (hf.1 h).1
    refine cl (V8 f hl) ?_;push_cast -dsimp [decide_eq_false c1]
    exact dn (by push_cast -dsimp [zb,za,CLe,zd,hn])
theorem Nk (f:FsV) (hf:FsS f):Fun Tryz.prog G 143 [.agg (fsC f)] (.sc (.bool (decide (Ya f)))) 0:=by
 have hll:(zp f.xs).length=f.xs.length:=List.length_map ..
 have h40:=hf.len
 refine fof (fun i=>if i=7 then jB 15 16 else []) Tryz.func143 ?_;dsimp only[Tryz.f143]
 push_cast -dsimp
 refine loop (fun i:Nat=>⟨[(1,.ptr 0 0),(3,.sc (.int .i64 i))],[fsC f],0,0⟩) (fun i=>i<=f.xs.length/\∀ x∈f.xs.take i,∀ e∈x.es,zt e.ino f.xs=true) (fun i=>f.xs.length-i) 0 ⟨Nat.zero_le _,fun x hx=>by simp at hx⟩ ?_ ?_
 ·exact wk
 ·rintro i ⟨h1,h2⟩
  by_cases h:i<f.xs.length
  ·have g1:=qI f.xs i h
   have he:=(hf.node _ (List.getElem_mem h)).1
   have hle:(zW f.xs[i].es).length=f.xs[i].es.length:=List.length_map ..
   push_cast -dsimp [hll,h]
   refine loop (fun k:Nat=>⟨[(1,.ptr 0 0),(3,.sc (.int .i64 i)),(4,.sc (.int .i64 k))],[fsC f],0,0⟩) (fun k=>k<=f.xs[i].es.length/\∀ e∈f.xs[i].es.take k,zt e.ino f.xs=true) (fun k=>f.xs[i].es.length-k) 0 ⟨Nat.zero_le _,fun x hx=>by simp at hx⟩ ?_ ?_
   ·exact wk
   ·rintro k ⟨h3,h4⟩
    by_cases hk:k<f.xs[i].es.length
    ·have g2:=Jd f.xs[i].es k hk
     push_cast -dsimp [g1,hle,hk,g2]
     repeat refine an ?_
     refine cl (jU f f.xs[i].es[k].ino (by omega)) ?_;push_cast -dsimp
     cases hh:zt f.xs[i].es[k].ino f.xs with
     | true =>
      push_cast -dsimp [hh]
      repeat refine an ?_
      exact ⟨k+1,⟨hk,qe hk h4 hh⟩,by omega,wk⟩
     | false =>
      have hn:¬Ya f:=fun h'=>by have:=h' _ (List.getElem_mem h) _ (List.getElem_mem hk);rw[hh]at this;cases this
      push_cast -dsimp [hh]
      exact dn (by push_cast -dsimp [zb,za,CLe,zd,hn])
    ·rw[List.take_of_length_le (by omega)]at h4
     push_cast -dsimp [g1,hle,hk]
     repeat refine an ?_
     exact ⟨i+1,⟨h,qe h h2 h4⟩,by omega,wk⟩
  ·rw[List.take_of_length_le (by omega)]at h2
   have hn:Ya f:=h2
   push_cast -dsimp [hll,h]
   exact dn (by push_cast -dsimp [zb,za,CLe,zd,hn])
theorem um (f:FsV) (hf:FsS f) (hb:qp f.xs<=100000000):Fun Tryz.prog G 139 [.agg (fsC f),.sc (.int .i64 0),.sc (.int .i64 0)] (.sc (.bool (decide (kJ f)))) 0:=by
 have hll:(zp f.xs).length=f.xs.length:=List.length_map ..
 have h40:=hf.len
 refine fon Tryz.func139 ?_;dsimp only[Tryz.f139]
 by_cases c1:f.maxI<f.xs.length
 ·have hn:¬kJ f:=fun h=>by have:=h.1;omega
  push_cast -dsimp [hll,c1]
  repeat refine an ?_
  exact dn (by push_cast -dsimp [zb,za,CLe,zd,hn])
 ·have hn:kJ f↔(qp f.xs:Int)<=f.maxB:=⟨fun h=>h.2,fun h=>⟨by omega,h⟩⟩
  push_cast -dsimp [hll,c1]
  repeat refine an ?_
  refine cl (zdw f hf) ?_;push_cast -dsimp
  repeat refine an ?_
  exact dn (by push_cast -dsimp [zb,za,CLe,zd,hn])
end
end
section
open Go.RowKit
abbrev ZF (x:zn) (es:List zX):List (Int×Int):=es.map fun e=>(e.ino,x.ino)
def qc (xs:List zn):List (Int×Int):=xs.flatMap fun x=>ZF x x.es
def QK (n:Int) (l:List (Int×Int)):Nat:=(l.filter fun p=>p.1==n).length
def VI (n:Int) (l:List (Int×Int)):Int:=(((l.filter fun p=>p.1==n).getLast?).map (·.2)).getD 0
theorem znn {n:Int} {l:List (Int×Int)} {p:Int×Int}:QK n (l++[p])=QK n l+if p.1=n then 1 else 0:=by
 unfold QK
 rw[List.filter_append,List.length_append]
 by_cases h:p.1=n<;>simp[h]
theorem zhG {n:Int} {l:List (Int×Int)} {p:Int×Int}:VI n (l++[p])=if p.1=n then p.2 else VI n l:=by
 unfold VI
 rw[List.filter_append]
 by_cases h:p.1=n<;>simp[h]
theorem zcg {xs:List zn} {i:Nat} (h:i<xs.length):qc (xs.take (i+1))=qc (xs.take i)++ZF xs[i] xs[i].es:=by
 unfold qc
 rw[List.take_add_one,List.getElem?_eq_getElem h,List.flatMap_append]
 simp
theorem zcp {x:zn} {es:List zX} {k:Nat} (h:k<es.length):ZF x (es.take (k+1))=ZF x (es.take k)++[(es[k].ino,x.ino)]:=by
 rw[List.take_add_one,List.getElem?_eq_getElem h,Option.toList_some]
 exact List.map_append
theorem zd6 {xs:List zn} (hf:∀ x∈xs,x.es.length<=10000):(qc xs).length<=xs.length*10000:=by
 induction xs with
 | nil=>exact Nat.le_refl _
 | cons x r ih =>
  have h1:=hf x List.mem_cons_self
  have h2:=ih fun y hy=>hf y (List.mem_cons_of_mem _ hy)
  unfold qc at h2 ⊢
  rw[List.flatMap_cons,List.length_append,List.length_map,List.length_cons]
  omega
theorem zqp {n:Int} {l:List (Int×Int)}:QK n l<=l.length:=List.length_filter_le _ _
def Vd (xs:List zn) (x:zn):Prop:=x.links=QK x.ino (qc xs)/\if x.ino=1 then QK x.ino (qc xs)=0/\x.parent=1 else 1<=QK x.ino (qc xs)/\(x.kind=2->QK x.ino (qc xs)=1/\x.parent=VI x.ino (qc xs))
instance (xs:List zn) (x:zn):Decidable (Vd xs x):=by unfold Vd;infer_instance
def Ye (f:FsV):Prop:=∀ x∈f.xs,Vd f.xs x
instance (f:FsV):Decidable (Ye f):=by unfold Ye;infer_instance
section
variable {G:zo}
theorem zaO (f:FsV) (n:Int) (hf:FsS f):Fun Tryz.prog G 167 [.agg (fsC f),.sc (.int .i64 n)] (.tup [.sc (.int .i64 (QK n (qc f.xs):Nat)),.sc (.int .i64 (VI n (qc f.xs)))]) 0:=by
 have hll:(zp f.xs).length=f.xs.length:=List.length_map ..
 have h40:=hf.len
 have hc0:QK n (qc [])=0:=rfl
 have hl0:VI n (qc [])=0:=rfl
 refine fon Tryz.func167 ?_;dsimp only[Tryz.f167]
 push_cast -dsimp
 refine loop (fun i:Nat=>⟨[(1,.sc (.int .i64 n)),(2,.ptr 0 0),(6,.sc (.int .i64 (QK n (qc (f.xs.take i)):Nat))),(7,.sc (.int .i64 (VI n (qc (f.xs.take i))))),(8,.sc (.int .i64 i))],[fsC f],0,0⟩) (fun i=>i<=f.xs.length) (fun i=>f.xs.length-i) 0 (Nat.zero_le _) ?_ ?_
 ·exact wk (by push_cast -dsimp [zb,za,CLe,zd,List.take_zero,hc0,hl0])
 ·intro i h1
  by_cases h:i<f.xs.length
  ·have g1:=qI f.xs i h
   have hle:(zW f.xs[i].es).length=f.xs[i].es.length:=List.length_map ..
   have hpl:(qc (f.xs.take i)).length<=i*10000:=by
    have:=zd6 (xs:=f.xs.take i) fun x hx=>(hf.node x (List.mem_of_mem_take hx)).1
    rw[List.length_take]at this
    exact Nat.le_trans this (Nat.mul_le_mul_right _ (Nat.min_le_left _ _))
   have h40e:=(hf.node _ (List.getElem_mem h)).1
   push_cast -dsimp [hll,h]
   refine loop (fun k:Nat=>⟨[(1,.sc (.int .i64 n)),(2,.ptr 0 0),(6,.sc (.int .i64 (QK n (qc (f.xs.take i)++ZF f.xs[i] (f.xs[i].es.take k)):Nat))),(7,.sc (.int .i64 (VI n (qc (f.xs.take i)++ZF f.xs[i] (f.xs[i].es.take k))))),(8,.sc (.int .i64 i)),(9,.sc (.int .i64 k))],[fsC f],0,0⟩) (fun k=>k<=f.xs[i].es.length) (fun k=>f.xs[i].es.length-k) 0 (Nat.zero_le _) ?_ ?_
   ·exact wk (by push_cast -dsimp [zb,za,CLe,zd,List.take_zero,List.append_nil])
   ·intro k hk0
    by_cases hk:k<f.xs[i].es.length
    ·have g2:=Jd f.xs[i].es k hk
     have ht:=zcp (x:=f.xs[i]) hk
     have hcl:=zqp (n:=n) (l:=qc (f.xs.take i)++ZF f.xs[i] (f.xs[i].es.take k))
     rw[List.length_append,List.length_map,List.length_take]at hcl
     have hca:=znn (n:=n) (l:=qc (f.xs.take i)++ZF f.xs[i] (f.xs[i].es.take k)) (p:=(f.xs[i].es[k].ino,f.xs[i].ino))
     have hla:=zhG (n:=n) (l:=qc (f.xs.take i)++ZF f.xs[i] (f.xs[i].es.take k)) (p:=(f.xs[i].es[k].ino,f.xs[i].ino))
     rw[List.append_assoc,←ht]at hca hla
     by_cases hc:f.xs[i].es[k].ino=n
     ·rw[if_pos hc]at hca hla
      push_cast -dsimp [g1,hle,hk,g2,hc]
      repeat refine an ?_
      exact ⟨k+1,hk,by omega,wk (by push_cast -dsimp [zb,za,CLe,zd,hca,hla])⟩
     ·rw[if_neg hc]at hca hla
      push_cast -dsimp [g1,hle,hk,g2,hc]
      repeat refine an ?_
      exact ⟨k+1,hk,by omega,wk (by push_cast -dsimp [zb,za,CLe,zd,hca,hla])⟩
    ·have hkk:f.xs[i].es.take k=f.xs[i].es:=List.take_of_length_le (by omega)
     rw[hkk]
     have ht:=zcg h
     push_cast -dsimp [g1,hle,hk]
     repeat refine an ?_
     exact ⟨i+1,h,by omega,wk (by push_cast -dsimp [zb,za,CLe,zd,ht])⟩
  ·rw[List.take_of_length_le (by omega)]
   push_cast -dsimp [hll,h]
   exact dn
end
end
section
open CA CB
open Go.RowKit
section
variable {G:zo}
theorem HC (f:FsV) (hf:FsS f):Fun Tryz.prog G 144 [.agg (fsC f)] (.sc (.bool (decide (Ye f)))) 0:=by
 have hll:(zp f.xs).length=f.xs.length:=List.length_map ..
 have h40:=hf.len
 refine fon Tryz.func144 ?_;dsimp only[Tryz.f144]
 push_cast -dsimp
 refine loop (fun i:Nat=>⟨[(1,.ptr 0 0),(3,.sc (.int .i64 i))],[fsC f],0,0⟩) (fun i=>i<=f.xs.length/\∀ x∈f.xs.take i,Vd f.xs x) (fun i=>f.xs.length-i) 0 ⟨Nat.zero_le _,fun x hx=>by simp at hx⟩ ?_ ?_
 ·exact wk
 ·rintro i ⟨h1,h2⟩
  by_cases h:i<f.xs.length
  ·have g1:=qI f.xs i h
   have hbad:¬Vd f.xs f.xs[i]->¬Ye f:=fun hn h'=>hn (h' _ (List.getElem_mem h))
   have hdef:Vd f.xs f.xs[i]↔f.xs[i].links=QK f.xs[i].ino (qc f.xs)/\if f.xs[i].ino=1 then QK f.xs[i].ino (qc f.xs)=0/\f.xs[i].parent=1 else 1<=QK f.xs[i].ino (qc f.xs)/\(f.xs[i].kind=2->QK f.xs[i].ino (qc f.xs)=1/\f.xs[i].parent=VI f.xs[i].ino (qc f.xs)):=Iff.rfl
   push_cast -dsimp [hll,h,g1]
   repeat refine an ?_
   refine cl (zaO f f.xs[i].ino hf) ?_;push_cast -dsimp
   generalize QK f.xs[i].ino (qc f.xs)=c at hdef
   generalize VI f.xs[i].ino (qc f.xs)=d at hdef
   by_cases c1:f.xs[i].links=(c:Int)
   case neg =>
    have hn:=hbad fun h=>c1 (hdef.1 h).1
    push_cast -dsimp [c1]
    exact dn (by push_cast -dsimp [zb,za,CLe,zd,hn])
   by_cases c2:f.xs[i].ino=1
   ·rw[if_pos c2]at hdef
    by_cases c3:(c:Int)=0
    ·by_cases c4:f.xs[i].parent=1
     ·push_cast -dsimp [c1,c2,c3,c4]
      repeat refine an ?_
      exact ⟨i+1,⟨h,qe h h2 (hdef.2 ⟨c1,by omega,c4⟩)⟩,by omega,wk⟩
     ·have hn:=hbad fun h=>c4 (hdef.1 h).2.2
      push_cast -dsimp [c1,c2,c3,c4]
      exact dn (by push_cast -dsimp [zb,za,CLe,zd,hn])
    ·have hn:=hbad fun h=>by have:=(hdef.1 h).2.1;omega
     push_cast -dsimp [c1,c2,c3]
     exact dn (by push_cast -dsimp [zb,za,CLe,zd,hn])
   ·rw[if_neg c2]at hdef
    by_cases c3:(c:Int)<1
    ·have hn:=hbad fun h=>by have:=(hdef.1 h).2.1;omega
     push_cast -dsimp [c1,c2,c3]
     exact dn (by push_cast -dsimp [zb,za,CLe,zd,hn])
    by_cases c4:f.xs[i].kind=2
    ·by_cases c5:(c:Int)=1
     ·by_cases c6:f.xs[i].parent=d
      ·push_cast -dsimp [c1,c2,c3,c4,c5,c6]
       repeat refine an ?_
       exact ⟨i+1,⟨h,qe h h2 (hdef.2 ⟨c1,by omega,fun _=>⟨by omega,c6⟩⟩)⟩,by omega,wk⟩
      ·have hn:=hbad fun h=>c6 ((hdef.1 h).2.2 c4).2
       push_cast -dsimp [c1,c2,c3,c4,c5,c6]
       exact dn (by push_cast -dsimp [zb,za,CLe,zd,hn])
     ·have hn:=hbad fun h=>by have:=((hdef.1 h).2.2 c4).1;omega
      push_cast -dsimp [c1,c2,c3,c4,c5]
      exact dn (by push_cast -dsimp [zb,za,CLe,zd,hn])
    ·push_cast -dsimp [c1,c2,c3,c4]
     repeat refine an ?_
     exact ⟨i+1,⟨h,qe h h2 (hdef.2 ⟨c1,by omega,fun h=>absurd h c4⟩)⟩,by omega,wk⟩
  ·rw[List.take_of_length_le (by omega)]at h2
   have hn:Ye f:=h2
   push_cast -dsimp [hll,h]
   exact dn (by push_cast -dsimp [zb,za,CLe,zd,hn])
end
end
section
open CA CB
open Go.RowKit
abbrev zaC (S:List Int):List (List C):=S.map fun n=>[C.sc (.int .i64 n)]
def J5 (S:List Int) (n:Int):List Int:=if n∈S then S else S++[n]
def kp (S:List Int) (es:List zX):List Int:=es.foldl (fun s e=>J5 s e.ino) S
def Qp (xs:List zn):Nat->Nat->List Int->List Int
 | 0,_,S=>S
 | m+1,i,S=>match S[i]? with
  | some n=>Qp xs m (i+1) (kp S (zf n xs).es)
  | none=>S
def Qo (f:FsV):Prop:=(Qp f.xs (f.xs.length+1) 0 [1]).length=f.xs.length
instance (f:FsV):Decidable (Qo f):=by unfold Qo;infer_instance
theorem V6:∀ {S T:List Int},S.Nodup->(∀ n∈S,n∈T)->S.length<=T.length
 | [],T,_,_=>Nat.zero_le _
 | a :: r,T,hn,hs=>by
  have ha:=hs a List.mem_cons_self
  obtain ⟨h1,h2⟩:=List.nodup_cons.1 hn
  have:=V6 (S:=r) (T:=T.erase a) h2 fun n hr=>(List.mem_erase_of_ne (fun e=>h1 (by rw[←e];exact hr))).2 (hs n (List.mem_cons_of_mem _ hr))
  rw[List.length_erase_of_mem ha]at this
  have hpos:=List.length_pos_iff.2 (List.ne_nil_of_mem ha)
  rw[List.length_cons];omega
theorem GE {n:Int} {xs:List zn}:zt n xs=true↔n∈xs.map (·.ino):=by
 unfold zt
 rw[List.any_eq_true,List.mem_map]
 simp
theorem Q9 {S:List Int} {xs:List zn} (hn:S.Nodup) (hs:∀ n∈S,zt n xs=true):S.length<=xs.length:=by
 have:=V6 (T:=xs.map (·.ino)) hn fun n h=>GE.1 (hs n h)
 rwa [List.length_map]at this
theorem xl {S:List Int} {n:Int} (h:S.Nodup):(J5 S n).Nodup:=by
 unfold J5
 split
 ·exact h
 ·rw[List.nodup_append]
  refine ⟨h,by simp,fun a ha b hb e=>?_⟩
  simp at hb;subst hb;subst e;contradiction
theorem Ho {S:List Int} {n m:Int}:m∈J5 S n↔m∈S∨m=n:=by
 unfold J5
 split
 ·constructor
  ·exact .inl
  ·rintro (h | h)
   ·exact h
   ·rw[h];assumption
 ·simp
theorem qX {n:Int} {xs:List zn} (h:zt n xs=true):zf n xs∈xs/\(zf n xs).ino=n:=by
 unfold zt at h
 unfold zf QG
 cases hq:xs.find? fun x=>x.ino==n with
 | none =>
  rw[List.find?_eq_none]at hq
  obtain ⟨x,hx,he⟩:=List.any_eq_true.1 h
  exact absurd he (hq x hx)
 | some y =>
  exact ⟨List.mem_of_find?_eq_some hq,by simpa using List.find?_some hq⟩
theorem zdl {S:List Int} {es:List zX} {k:Nat} (h:k<es.length):kp S (es.take (k+1))=J5 (kp S (es.take k)) es[k].ino:=by
 unfold kp
 rw[List.take_add_one,List.getElem?_eq_getElem h,List.foldl_append]
 rfl
theorem zhn (es:List zX):∀ (S:List Int),S <+: kp S es:=by
 induction es with
 | nil=>exact fun S=>List.prefix_refl S
 | cons e r ih =>
  intro S
  refine List.IsPrefix.trans ?_ (ih (J5 S e.ino))
  unfold J5
  split
  ·exact List.prefix_refl S
  ·exact List.prefix_append S _
theorem zhc (S:List Int) (es:List zX):S.length<=(kp S es).length:=(zhn es S).length_le
structure Yc (xs:List zn) (S:List Int):Prop where
 nodup:S.Nodup
 has:∀ n∈S,zt n xs=true
theorem Yc.len {xs:List zn} {S:List Int} (h:Yc xs S):S.length<=xs.length:=Q9 h.nodup h.has
theorem Yc.one {xs:List zn} {S:List Int} {n:Int} (h:Yc xs S) (hn:zt n xs=true):Yc xs (J5 S n):=⟨xl h.nodup,fun m hm=>by
 rcases Ho.1 hm with hm | rfl
 ·exact h.has m hm
 ·exact hn⟩
theorem zcz {S:List Int} {n:Int} {j:Nat} (h:j<S.length):((S.take (j+1)).any fun m=>decide (m=n))=(((S.take j).any fun m=>decide (m=n))||decide (S[j]=n)):=by
 rw[List.take_add_one,List.getElem?_eq_getElem h,List.any_append]
 simp
theorem zlF {S:List Int} {n:Int}:(S.any fun m=>decide (m=n))=decide (n∈S):=by
 rw[Bool.eq_iff_iff,List.any_eq_true,decide_eq_true_iff]
 constructor
 ·rintro ⟨m,hm,h⟩;exact (of_decide_eq_true h)▸hm
 ·exact fun h=>⟨n,h,decide_eq_true rfl⟩
theorem uP (S:List Int) (i:Nat) (h:i<S.length):(zaC S)[i]?=some [.sc (.int .i64 S[i])]:=by simp[List.getElem?_map,List.getElem?_eq_getElem h]
section
variable {G:zo}
theorem MU (f:FsV) (hf:FsS f) (h3:Ya f) (h1:zt 1 f.xs=true):Fun Tryz.prog G 145 [.agg (fsC f)] (.sc (.bool (decide (Qo f)))) 0:=by
 have hll:(zp f.xs).length=f.xs.length:=List.length_map ..
 have h40:=hf.len
 refine fof (fun i=>if i=5 then jB 9 10 else []) Tryz.func145 ?_;dsimp only[Tryz.f145]
 push_cast -dsimp
 refine loop (fun p:Nat×List Int=>⟨[(1,.ptr 0 0),(3,.own 0 3 1 (zaC p.2)),(4,.sc (.int .i64 p.1))],[fsC f],1,0⟩) (fun p=>p.1<=p.2.length/\Yc f.xs p.2/\Qp f.xs (f.xs.length+1-p.1) p.1 p.2=Qp f.xs (f.xs.length+1) 0 [1]) (fun p=>f.xs.length+1-p.1) (0,[1]) ⟨Nat.zero_le _,⟨by simp,fun n hn=>by simp at hn;subst hn;exact h1⟩,rfl⟩ ?_ ?_
 ·exact wks [.inl 0]
 ·rintro ⟨i,S⟩ ⟨k1,k2,k3⟩
  dsimp only at k1 k2 k3 ⊢
  have hSl:=k2.len
  have hli:(zaC S).length=S.length:=List.length_map ..
  by_cases h:i<S.length
  ·have g0:=uP S i h
   obtain ⟨hm,hino⟩:=qX (k2.has S[i] (List.getElem_mem h))
   push_cast -dsimp [hli,h,g0]
   repeat refine an ?_
   refine cl (jU f S[i] (by omega)) ?_;push_cast -dsimp
   rw[show f.xs.length+1-i=(f.xs.length+1-(i+1))+1 by omega,Qp,List.getElem?_eq_getElem h]at k3
   dsimp only at k3
   generalize zf S[i] f.xs=x at hm hino k3
   have hx40:=(hf.node x hm).1
   have hle:(zW x.es).length=x.es.length:=List.length_map ..
   refine loop (fun k:Nat=>⟨[(1,.ptr 0 0),(3,.own 0 3 1 (zaC (kp S (x.es.take k)))),(4,.sc (.int .i64 i)),(5,.ptr 1 0),(7,.sc (.int .i64 k))],[fsC f,Js x],1,0⟩) (fun k=>k<=x.es.length/\Yc f.xs (kp S (x.es.take k))) (fun k=>x.es.length-k) 0 ⟨Nat.zero_le _,k2⟩ ?_ ?_
   ·exact wks [.inl 0] (by push_cast -dsimp [zb,za,CLe,zd,List.take_zero,kp,List.foldl_nil])
   ·rintro k ⟨hk0,k4⟩
    by_cases hk:k<x.es.length
    ·have g2:=Jd x.es k hk
     have hT:=k4.len
     have ht:=zdl (S:=S) hk
     have hhas:zt x.es[k].ino f.xs=true:=h3 x hm _ (List.getElem_mem hk)
     have k5:=k4.one hhas
     rw[←ht]at k5
     generalize hT1:kp S (x.es.take (k+1))=T1 at ht k5
     generalize kp S (x.es.take k)=T at k4 hT ht
     have hlT:(zaC T).length=T.length:=List.length_map ..
     generalize hn:x.es[k].ino=n at g2 ht
     push_cast -dsimp [hle,hk]
     refine loop (fun j:Nat=>⟨[(1,.ptr 0 0),(3,.own 0 3 1 (zaC T)),(4,.sc (.int .i64 i)),(5,.ptr 1 0),(7,.sc (.int .i64 k)),(8,.sc (.bool ((T.take j).any fun m=>decide (m=n)))),(9,.sc (.int .i64 j))],[fsC f,Js x],1,0⟩) (fun j=>j<=T.length) (fun j=>T.length-j) 0 (Nat.zero_le _) ?_ ?_
     ·exact wks [.inl 0] (by push_cast -dsimp [zb,za,CLe,zd,List.take_zero,List.any_nil])
     ·intro j hj0
      by_cases hj:j<T.length
      ·have g3:=uP T j hj
       have ha:=zcz (n:=n) hj
       by_cases hq:((T.take j).any fun m=>decide (m=n))=true
       ·rw[hq,Bool.true_or]at ha
        push_cast -dsimp [hlT,hj,hq]
        repeat refine an ?_
        exact ⟨j+1,hj,by omega,wks [.inl 0] (by push_cast -dsimp [zb,za,CLe,zd,ha])⟩
       ·have hq:=Bool.eq_false_iff.2 hq
        rw[hq,Bool.false_or]at ha
        push_cast -dsimp [hlT,hj,hq,g3,g2,hn]
        repeat refine an ?_
        exact ⟨j+1,hj,by omega,wks [.inl 0] (by push_cast -dsimp [zb,za,CLe,zd,ha])⟩
      ·have hTj:(T.take j)=T:=List.take_of_length_le (by omega)
       have hany:=zlF (S:=T) (n:=n)
       unfold J5 at ht
       by_cases hin:n∈T
       ·rw[if_pos hin]at ht
        rw[decide_eq_true hin]at hany
        push_cast -dsimp [hlT,hj,hTj,hany]
        repeat refine an ?_
        exact ⟨k+1,⟨hk,by rw[hT1];exact k5⟩,by omega,wks [.inl 0] (by push_cast -dsimp [zb,za,CLe,zd,hT1,ht])⟩
       ·rw[if_neg hin]at ht
        rw[decide_eq_false hin]at hany
        push_cast -dsimp [hlT,hj,hTj,hany,g2,hn]
        repeat refine an ?_
        exact ⟨k+1,⟨hk,by rw[hT1];exact k5⟩,by omega,wks [.inl 0] (by push_cast -dsimp [zb,za,CLe,zd,hT1,ht,List.map_append])⟩
    ·have hkk:x.es.take k=x.es:=List.take_of_length_le (by omega)
     rw[hkk]at k4
     have hge:i+1<=(kp S x.es).length:=Nat.le_trans h (zhc S x.es)
     push_cast -dsimp [hle,hk,hkk]
     repeat refine an ?_
     exact ⟨(i+1,kp S x.es),⟨hge,k4,k3⟩,by dsimp only;omega,wks [.inl 0]⟩
  ·push_cast -dsimp [hli,h]
   have hfin:Qp f.xs (f.xs.length+1-i) i S=S:=by
    rw[show f.xs.length+1-i=(f.xs.length-i)+1 by omega,Qp,List.getElem?_eq_none (by omega)]
   rw[hfin]at k3
   have hn:Qo f↔S.length=f.xs.length:=by unfold Qo;rw[←k3]
   exact dn (by push_cast -dsimp [zb,za,CLe,zd,hn,hll])
end
end
section
open CA CB
open Go.RowKit
def YB (es:List zX):Prop:=∀ i (h:i<es.length),may es[i].name=true/\1<=es[i].ino/\(0<i->Op.bytesLess es[i-1].name es[i].name=true)
instance (es:List zX):Decidable (YB es):=by unfold YB;infer_instance
def Yj (x:zn):Prop:=(x.kind=1∨x.kind=2∨x.kind=3)/\(x.kind≠2->x.es = []/\x.parent=0)/\(x.kind=2->x.data = []/\YB x.es)/\(x.kind=3->1<=x.data.length/\x.data.length<=4095/\∀ b∈x.data,b≠0)
instance (x:zn):Decidable (Yj x):=by unfold Yj;infer_instance
def Yf (f:FsV):Prop:=∀ x∈f.xs,Yj x
instance (f:FsV):Decidable (Yf f):=by unfold Yf;infer_instance
def Jn (f:FsV):Int:=if Jb f then if Yf f then if Ya f then if Ye f then if Qo f then if kJ f then 0 else 6 else 5 else 4 else 3 else 2 else 1
def okV (f:FsV):Prop:=Vf f.xs/\Jn f=0
instance (f:FsV):Decidable (okV f):=by unfold okV;infer_instance
theorem zfo (es:List zX) (hl:es.length<=100000) (hn:∀ e∈es,e.name.length<=1000000):Fun Tryz.prog G0 166 [.sl 2 (zW es)] (qt (decide (YB es))) 0:=by
 have hle:(zW es).length=es.length:=List.length_map ..
 refine fon Tryz.func166 ?_;dsimp only[Tryz.f166]
 push_cast -dsimp
 refine loop (fun i:Nat=>⟨[(0,.sl 2 (zW es)),(3,.sc (.int .i64 i))],[],0,0⟩) (fun i=>i<=es.length/\∀ j (h:j<es.length),j<i->may es[j].name=true/\1<=es[j].ino/\(0<j->Op.bytesLess es[j-1].name es[j].name=true)) (fun i=>es.length-i) 0 ⟨Nat.zero_le _,fun j h h'=>absurd h' (Nat.not_lt_zero _)⟩ ?_ ?_
 ·exact wk
 ·rintro i ⟨h1,h2⟩
  by_cases h:i<es.length
  ·have g1:=Jd es i h
   have hm:=Hl es[i].name (by have:=hn _ (List.getElem_mem h);omega)
   push_cast -dsimp [hle,h,g1]
   repeat refine an ?_
   cases c1:may es[i].name with
   | false =>
    have hno:¬YB es:=fun hr=>by have:=(hr i h).1;rw[c1]at this;cases this
    refine cl (hm) ?_;push_cast -dsimp [c1]
    exact dn (by push_cast -dsimp [zb,za,CLe,zd,hno])
   | true =>
    by_cases c2:es[i].ino<1
    ·have hno:¬YB es:=fun hr=>by have:=(hr i h).2.1;omega
     refine cl (hm) ?_;push_cast -dsimp [c1,g1,c2]
     repeat refine an ?_
     exact dn (by push_cast -dsimp [zb,za,CLe,zd,hno])
    ·have step:(0<i->Op.bytesLess es[i-1].name es[i].name=true)->∀ j (h:j<es.length),j<i+1->may es[j].name=true/\1<=es[j].ino/\(0<j->Op.bytesLess es[j-1].name es[j].name=true):=fun hb j hj hlt=>by
      rcases Nat.lt_or_ge j i with q | q
      ·exact h2 j hj q
      ·have:j=i:=by omega
       subst this
       exact ⟨c1,by omega,hb⟩
     by_cases c3:0<i
     ·have g2:=Jd es (i-1) (by omega)
      have e1:(i:Int)-1=((i-1:Nat):Int):=by omega
      cases c4:Op.bytesLess es[i-1].name es[i].name with
      | true =>
       refine cl (hm) ?_;push_cast -dsimp [c1,g1,c2]
       repeat refine an ?_
       push_cast -dsimp [c3,e1,g2,g1,c4]
       repeat refine an ?_
       exact ⟨i+1,⟨h,step fun _=>c4⟩,by omega,wk⟩
      | false =>
       have hno:¬YB es:=fun hr=>by have:=(hr i h).2.2 c3;rw[c4]at this;cases this
       refine cl (hm) ?_;push_cast -dsimp [c1,g1,c2]
       repeat refine an ?_
       push_cast -dsimp [c3,e1,g2,g1,c4]
       repeat refine an ?_
       exact dn (by push_cast -dsimp [zb,za,CLe,zd,hno])
     ·refine cl (hm) ?_;push_cast -dsimp [c1,g1,c2]
      repeat refine an ?_
      push_cast -dsimp [c3]
      repeat refine an ?_
      exact ⟨i+1,⟨h,step fun h=>absurd h c3⟩,by omega,wk⟩
  ·have hr:YB es:=fun j hj=>h2 j hj (by omega)
   push_cast -dsimp [hle,h]
   exact dn (by push_cast -dsimp [zb,za,CLe,zd,hr])
end
section
open CA CB
open Go.RowKit
theorem kU (f:FsV) (hf:FsS f):Fun Tryz.prog G0 142 [.agg (fsC f)] (qt (decide (Yf f))) 0:=by
 have hll:(zp f.xs).length=f.xs.length:=List.length_map ..
 have h40:=hf.len
 refine fon Tryz.func142 ?_;dsimp only[Tryz.f142]
 push_cast -dsimp
 refine loop (fun i:Nat=>⟨[(1,.ptr 0 0),(3,.sc (.int .i64 i))],[fsC f],0,0⟩) (fun i=>i<=f.xs.length/\∀ x∈f.xs.take i,Yj x) (fun i=>f.xs.length-i) 0 ⟨Nat.zero_le _,fun x hx=>by simp at hx⟩ ?_ ?_
 ·exact wk
 ·rintro i ⟨h1,h2⟩
  by_cases h:i<f.xs.length
  case neg =>
   rw[List.take_of_length_le (by omega)]at h2
   have hn:Yf f:=h2
   push_cast -dsimp [hll,h]
   exact dn (by push_cast -dsimp [zb,za,CLe,zd,hn])
  have g1:=qI f.xs i h
  have hbad:¬Yj f.xs[i]->¬Yf f:=fun hn h'=>hn (h' _ (List.getElem_mem h))
  have hs:=hf.node _ (List.getElem_mem h)
  have step:Yj f.xs[i]->∀ x∈f.xs.take (i+1),Yj x:=fun hq=>qe h h2 hq
  push_cast -dsimp [hll,h,g1]
  repeat refine an ?_
  generalize f.xs[i]=x at g1 hbad hs step
  have hle:(zW x.es).length=x.es.length:=List.length_map ..
  have hent:x.es.length<=10000:=hs.1
  by_cases k2:x.kind=2
  ·by_cases d0:x.data = []
   ·have hr:=zfo x.es (by omega) fun e he=>by have:=hs.2.2 e he;omega
    cases c1:decide (YB x.es) with
    | false =>
     have hn:=hbad fun hq=>of_decide_eq_false c1 (hq.2.2.1 k2).2
     push_cast -dsimp [k2,d0]
     refine cl (hr) ?_;push_cast -dsimp [c1]
     exact dn (by push_cast -dsimp [zb,za,CLe,zd,hn])
    | true =>
     have hq:Yj x:=⟨.inr (.inl k2),fun h=>absurd k2 h,fun _=>⟨d0,of_decide_eq_true c1⟩,fun h=>by omega⟩
     push_cast -dsimp [k2,d0]
     refine cl (hr) ?_;push_cast -dsimp [c1,k2]
     refine loop (fun j:Nat=>⟨[(1,.ptr 0 0),(3,.sc (.int .i64 i)),(4,.ptr 1 0),(5,.sc (.int .i64 j))],[fsC f,Js x],0,0⟩) (fun j=>j=0) (fun j=>0) 0 rfl ?_ ?_
     ·exact wk (by push_cast -dsimp [zb,za,CLe,zd,k2,d0]) (by push_cast -dsimp [zb,za,CLe,zd,k2,d0])
     ·rintro j rfl
      push_cast -dsimp [d0]
      repeat refine an ?_
      exact ⟨i+1,⟨h,step hq⟩,by omega,wk⟩
   ·have hn:=hbad fun hq=>d0 (hq.2.2.1 k2).1
    push_cast -dsimp [k2,d0]
    exact dn (by push_cast -dsimp [zb,za,CLe,zd,hn])
  by_cases e0:x.es = []
  case neg =>
   have hn:=hbad fun hq=>e0 (hq.2.1 k2).1
   have hpos:0<(x.es.length:Int):=by have:=List.length_pos_iff.2 e0;omega
   by_cases k1:x.kind=1
   ·push_cast -dsimp [k1,hle,hpos]
    exact dn (by push_cast -dsimp [zb,za,CLe,zd,hn])
   ·by_cases k3:x.kind=3
    ·push_cast -dsimp [k1,k2,k3,hle,hpos]
     exact dn (by push_cast -dsimp [zb,za,CLe,zd,hn])
    ·have hn:=hbad fun hq=>by rcases hq.1 with q | q | q<;>contradiction
     push_cast -dsimp [k1,k2,k3]
     exact dn (by push_cast -dsimp [zb,za,CLe,zd,hn])
  have hl0:x.es.length=0:=by rw[e0];rfl
  by_cases p0:x.parent=0
  case neg =>
   have hn:=hbad fun hq=>p0 (hq.2.1 k2).2
   by_cases k1:x.kind=1
   ·push_cast -dsimp [k1,hle,hl0,p0]
    exact dn (by push_cast -dsimp [zb,za,CLe,zd,hn])
   ·by_cases k3:x.kind=3
    ·push_cast -dsimp [k1,k2,k3,hle,hl0,p0]
     exact dn (by push_cast -dsimp [zb,za,CLe,zd,hn])
    ·have hn:=hbad fun hq=>by rcases hq.1 with q | q | q<;>contradiction
     push_cast -dsimp [k1,k2,k3]
     exact dn (by push_cast -dsimp [zb,za,CLe,zd,hn])
  by_cases k1:x.kind=1
  ·have hq:Yj x:=⟨.inl k1,fun _=>⟨e0,p0⟩,fun h=>absurd h k2,fun h=>by omega⟩
   push_cast -dsimp [k1,hle,hl0,p0]
   refine loop (fun j:Nat=>⟨[(1,.ptr 0 0),(3,.sc (.int .i64 i)),(4,.ptr 1 0),(5,.sc (.int .i64 j))],[fsC f,Js x],0,0⟩) (fun j=>j=0) (fun j=>0) 0 rfl ?_ ?_
   ·exact wk (by push_cast -dsimp [zb,za,CLe,zd,k1,p0]) (by push_cast -dsimp [zb,za,CLe,zd,k1,p0])
   ·rintro j rfl
    by_cases hd:(0:Int)<x.data.length
    ·push_cast -dsimp [hd,k1]
     repeat refine an ?_
     exact ⟨i+1,⟨h,step hq⟩,by omega,wk⟩
    ·push_cast -dsimp [hd,k1]
     repeat refine an ?_
     exact ⟨i+1,⟨h,step hq⟩,by omega,wk⟩
  by_cases k3:x.kind=3
  case neg =>
   have hn:=hbad fun hq=>by rcases hq.1 with q | q | q<;>contradiction
   push_cast -dsimp [k1,k2,k3]
   exact dn (by push_cast -dsimp [zb,za,CLe,zd,hn])
  by_cases l1:(x.data.length:Int)<1
  ·have hn:=hbad fun hq=>by have:=(hq.2.2.2 k3).1;omega
   push_cast -dsimp [k1,k2,k3,hle,hl0,p0,l1]
   exact dn (by push_cast -dsimp [zb,za,CLe,zd,hn])
  by_cases l2:4095<(x.data.length:Int)
  ·have hn:=hbad fun hq=>by have:=(hq.2.2.2 k3).2.1;omega
   push_cast -dsimp [k1,k2,k3,hle,hl0,p0,l1,l2]
   exact dn (by push_cast -dsimp [zb,za,CLe,zd,hn])
  push_cast -dsimp [k1,k2,k3,hle,hl0,p0,l1,l2]
  refine loop (fun j:Nat=>⟨[(1,.ptr 0 0),(3,.sc (.int .i64 i)),(4,.ptr 1 0),(5,.sc (.int .i64 j))],[fsC f,Js x],0,0⟩) (fun j=>j<=x.data.length/\∀ b∈x.data.take j,b≠0) (fun j=>x.data.length-j) 0 ⟨Nat.zero_le _,fun b hb=>by simp at hb⟩ ?_ ?_
  ·exact wk (by push_cast -dsimp [zb,za,CLe,zd,k3,p0]) (by push_cast -dsimp [zb,za,CLe,zd,k3,p0])
  ·rintro j ⟨j1,j2⟩
   by_cases hj:j<x.data.length
   ·have hb:x.data[j]?=some x.data[j]:=List.getElem?_eq_getElem hj
    by_cases z:(x.data[j].toNat:Int)=0
    ·have hn:=hbad fun hq=>(hq.2.2.2 k3).2.2 _ (List.getElem_mem hj) (UInt8.toNat_inj.1 (by simpa using z))
     push_cast -dsimp [hj,k3,hb,z]
     repeat refine an ?_
     exact dn (by push_cast -dsimp [zb,za,CLe,zd,hn])
    ·push_cast -dsimp [hj,k3,hb,z]
     repeat refine an ?_
     exact ⟨j+1,⟨hj,qe hj j2 fun hz=>z (by rw[hz];rfl)⟩,by omega,wk⟩
   ·rw[List.take_of_length_le (by omega)]at j2
    have hq:Yj x:=⟨.inr (.inr k3),fun _=>⟨e0,p0⟩,fun h=>absurd h k2,fun _=>⟨by omega,by omega,j2⟩⟩
    push_cast -dsimp [hj,k3]
    repeat refine an ?_
    exact ⟨i+1,⟨h,step hq⟩,by omega,wk⟩
theorem zcx (f:FsV) (hf:FsS f):Fun Tryz.prog G0 95 [.agg (fsC f)] (.sc (.int .i64 (Jn f))) 0:=by
 have h40:=hf.len
 have hb:qp f.xs<=100000000:=by have:=hf.bytes;omega
 refine fon Tryz.func95 ?_;dsimp only[Tryz.f95]
 push_cast -dsimp
 by_cases c1:Jb f
 case neg =>
  refine cl (Mt f (by omega)) ?_;push_cast -dsimp [decide_eq_false c1]
  exact dn (by push_cast -dsimp [zb,za,CLe,zd,Jn,c1])
 refine cl (Mt f (by omega)) ?_;push_cast -dsimp [decide_eq_true c1]
 by_cases c2:Yf f
 case neg =>
  refine cl (kU f hf) ?_;push_cast -dsimp [decide_eq_false c2]
  exact dn (by push_cast -dsimp [zb,za,CLe,zd,Jn,c1,c2])
 refine cl (kU f hf) ?_;push_cast -dsimp [decide_eq_true c2]
 by_cases c3:Ya f
 case neg =>
  refine cl (Nk f hf) ?_;push_cast -dsimp [decide_eq_false c3]
  exact dn (by push_cast -dsimp [zb,za,CLe,zd,Jn,c1,c2,c3])
 refine cl (Nk f hf) ?_;push_cast -dsimp [decide_eq_true c3]
 by_cases c4:Ye f
 case neg =>
  refine cl (HC f hf) ?_;push_cast -dsimp [decide_eq_false c4]
  exact dn (by push_cast -dsimp [zb,za,CLe,zd,Jn,c1,c2,c3,c4])
 refine cl (HC f hf) ?_;push_cast -dsimp [decide_eq_true c4]
 by_cases c5:Qo f
 case neg =>
  refine cl (MU f hf c3 c1.2.2.2.2.2.2.2.1) ?_;push_cast -dsimp [decide_eq_false c5]
  exact dn (by push_cast -dsimp [zb,za,CLe,zd,Jn,c1,c2,c3,c4,c5])
 refine cl (MU f hf c3 c1.2.2.2.2.2.2.2.1) ?_;push_cast -dsimp [decide_eq_true c5]
 by_cases c6:kJ f
 case neg =>
  refine cl (um f hf hb) ?_;push_cast -dsimp [decide_eq_false c6]
  exact dn (by push_cast -dsimp [zb,za,CLe,zd,Jn,c1,c2,c3,c4,c5,c6])
 refine cl (um f hf hb) ?_;push_cast -dsimp [decide_eq_true c6]
 exact dn (by push_cast -dsimp [zb,za,CLe,zd,Jn,c1,c2,c3,c4,c5,c6])
end
section
open CA CB
open Go.RowKit
def js (x:zn) (k:zK):Bool:=decide (k.ino=x.ino)&&!k.content
def ql (w:qk) (x:zn):Prop:=zt x.ino w.fs.xs=false/\1<=x.ino/\x.ino<w.fs.next/\x.links=0/\x.parent=0/\x.es = []/\(x.kind=1∨x.kind=2∨x.kind=3)/\(x.kind=2->x.data = [])/\(x.kind=3->1<=x.data.length/\x.data.length<=4095/\∀ b∈x.data,b≠0)/\w.kept.any (js x)=true
instance (w:qk) (x:zn):Decidable (ql w x):=by unfold ql;infer_instance
theorem zqA {α:Type} {P:α->Bool} {l:List α} {k:Nat} (h:k<l.length):(l.take (k+1)).any P=((l.take k).any P||P l[k]):=by
 rw[List.take_add_one,List.getElem?_eq_getElem h,List.any_append];simp
theorem zca (w:qk) (x:zn) (hl:w.fs.xs.length<=100000) (hk:w.kept.length<=100000) (he:x.es.length<=100000) (hd:x.data.length<=100000):Fun Tryz.prog G0 97 [Yp w,.agg (Js x)] (qt (decide (ql w x))) 0:=by
 have hg:=jU (G:=G0) w.fs x.ino hl
 have hkl:(zC w.kept).length=w.kept.length:=List.length_map ..
 have hle:(zW x.es).length=x.es.length:=List.length_map ..
 by_cases c1:zt x.ino w.fs.xs=true
 ·have hn:¬ql w x:=fun h=>by have:=h.1;rw[c1]at this;cases this
  rw[c1]at hg
  refine fon Tryz.func97 ?_;dsimp only[Tryz.f97]
  push_cast -dsimp
  refine cl (hg) ?_;push_cast -dsimp
  exact dn (by push_cast -dsimp [zb,za,CLe,zd,hn])
 have c1:=Bool.eq_false_iff.2 c1
 rw[c1]at hg
 by_cases c2:x.ino<1
 case pos =>
  have hn:¬ql w x:=fun h=>by have:=h.2.1;omega
  refine fon Tryz.func97 ?_;dsimp only[Tryz.f97]
  push_cast -dsimp
  refine cl (hg) ?_;push_cast -dsimp [hle,c2]
  exact dn (by push_cast -dsimp [zb,za,CLe,zd,hn])
 by_cases c3:w.fs.next<=x.ino
 case pos =>
  have hn:¬ql w x:=fun h=>by have:=h.2.2.1;omega
  refine fon Tryz.func97 ?_;dsimp only[Tryz.f97]
  push_cast -dsimp
  refine cl (hg) ?_;push_cast -dsimp [hle,c2,c3]
  exact dn (by push_cast -dsimp [zb,za,CLe,zd,hn])
 by_cases c4:x.links=0
 case neg =>
  have hn:¬ql w x:=fun h=>c4 h.2.2.2.1
  refine fon Tryz.func97 ?_;dsimp only[Tryz.f97]
  push_cast -dsimp
  refine cl (hg) ?_;push_cast -dsimp [hle,c2,c3,c4]
  exact dn (by push_cast -dsimp [zb,za,CLe,zd,hn])
 by_cases c5:x.parent=0
 case neg =>
  have hn:¬ql w x:=fun h=>c5 h.2.2.2.2.1
  refine fon Tryz.func97 ?_;dsimp only[Tryz.f97]
  push_cast -dsimp
  refine cl (hg) ?_;push_cast -dsimp [hle,c2,c3,c4,c5]
  exact dn (by push_cast -dsimp [zb,za,CLe,zd,hn])
 by_cases c6:(x.es.length:Int)=0
 case neg =>
  have hn:¬ql w x:=fun h=>c6 (by rw[h.2.2.2.2.2.1];rfl)
  refine fon Tryz.func97 ?_;dsimp only[Tryz.f97]
  push_cast -dsimp
  refine cl (hg) ?_;push_cast -dsimp [hle,c2,c3,c4,c5,c6]
  exact dn (by push_cast -dsimp [zb,za,CLe,zd,hn])
 by_cases c7:x.kind<1
 case pos =>
  have hn:¬ql w x:=fun h=>by have:=h.2.2.2.2.2.2.1;omega
  refine fon Tryz.func97 ?_;dsimp only[Tryz.f97]
  push_cast -dsimp
  refine cl (hg) ?_;push_cast -dsimp [hle,c2,c3,c4,c5,c6,c7]
  exact dn (by push_cast -dsimp [zb,za,CLe,zd,hn])
 by_cases c8:3<x.kind
 case pos =>
  have hn:¬ql w x:=fun h=>by have:=h.2.2.2.2.2.2.1;omega
  refine fon Tryz.func97 ?_;dsimp only[Tryz.f97]
  push_cast -dsimp
  refine cl (hg) ?_;push_cast -dsimp [hle,c2,c3,c4,c5,c6,c7,c8]
  exact dn (by push_cast -dsimp [zb,za,CLe,zd,hn])
 have hes:x.es = []:=List.eq_nil_of_length_eq_zero (by omega)
 have hkd:x.kind=1∨x.kind=2∨x.kind=3:=by omega
 have key:(x.kind=2->x.data = [])->(x.kind=3->1<=x.data.length/\x.data.length<=4095/\∀ b∈x.data,b≠0)->decide (ql w x)=w.kept.any (js x):=fun q1 q2=>by
  cases hn:w.kept.any (js x) with
  | true=>exact decide_eq_true ⟨c1,by omega,by omega,c4,c5,hes,hkd,q1,q2,hn⟩
  | false=>exact decide_eq_false fun h=>by have:=h.2.2.2.2.2.2.2.2.2;rw[hn]at this;cases this
 by_cases k2:x.kind=2
 ·by_cases d0:x.data = []
  ·have hdl:((0:Int)<x.data.length)=False:=eq_false (by rw[d0];simp)
   refine fon Tryz.func97 ?_;dsimp only[Tryz.f97]
   push_cast -dsimp
   refine cl (hg) ?_;push_cast -dsimp [hle,c2,c3,c4,c5,c6,c7,c8,k2,d0,hdl]
   refine loop (fun j:Nat=>⟨[(2,.ptr 0 0),(3,.ptr 1 0),(7,.sc (.int .i64 j))],[QJ w,Js x],0,0⟩) (fun j=>j=0) (fun j=>0) 0 rfl ?_ ?_
   ·exact wk (h5:=by push_cast -dsimp [zb,za,CLe,zd,k2,d0,c4,c5])
   ·rintro j rfl
    push_cast -dsimp [hdl,d0]
    refine loop (fun i:Nat=>⟨[(2,.ptr 0 0),(3,.ptr 1 0),(8,.sc (.bool ((w.kept.take i).any (js x)))),(9,.sc (.int .i64 i))],[QJ w,Js x],0,0⟩) (fun i=>i<=w.kept.length) (fun i=>w.kept.length-i) 0 (Nat.zero_le _) ?_ ?_
    ·exact wk (by push_cast -dsimp [zb,za,CLe,zd,List.take_zero,List.any_nil])
    ·intro i hi
     by_cases h:i<w.kept.length
     ·have g:=ji w.kept i h
      have ha:=zqA (P:=js x) h
      have hp:js x w.kept[i]=(decide (w.kept[i].ino=x.ino)&&!w.kept[i].content):=rfl
      by_cases hn:((w.kept.take i).any (js x))=true
      ·rw[hn,Bool.true_or]at ha
       push_cast -dsimp [hkl,h,hn]
       repeat refine an ?_
       exact ⟨i+1,h,by omega,wk (by push_cast -dsimp [zb,za,CLe,zd,ha])⟩
      ·have hn:=Bool.eq_false_iff.2 hn
       rw[hn,Bool.false_or,hp]at ha
       by_cases he:w.kept[i].ino=x.ino
       ·rw[decide_eq_true he,Bool.true_and]at ha
        push_cast -dsimp [hkl,h,hn,g,he]
        repeat refine an ?_
        exact ⟨i+1,h,by omega,wk (by push_cast -dsimp [zb,za,CLe,zd,ha])⟩
       ·rw[decide_eq_false he,Bool.false_and]at ha
        push_cast -dsimp [hkl,h,hn,g,he]
        repeat refine an ?_
        exact ⟨i+1,h,by omega,wk (by push_cast -dsimp [zb,za,CLe,zd,ha])⟩
     ·rw[List.take_of_length_le (by omega)]
      have hd:decide (ql w x)=w.kept.any (js x):=key (fun _=>d0) (fun h=>by omega)
      push_cast -dsimp [hkl,h]
      exact dn (by push_cast -dsimp [zb,za,CLe,zd,hd])
  ·have hn:¬ql w x:=fun h=>d0 (h.2.2.2.2.2.2.2.1 k2)
   refine fon Tryz.func97 ?_;dsimp only[Tryz.f97]
   push_cast -dsimp
   refine cl (hg) ?_;push_cast -dsimp [hle,c2,c3,c4,c5,c6,c7,c8,k2,d0]
   exact dn (by push_cast -dsimp [zb,za,CLe,zd,hn])
 by_cases k3:x.kind=3
 ·by_cases l1:(x.data.length:Int)<1
  ·have hn:¬ql w x:=fun h=>by have:=(h.2.2.2.2.2.2.2.2.1 k3).1;omega
   refine fon Tryz.func97 ?_;dsimp only[Tryz.f97]
   push_cast -dsimp
   refine cl (hg) ?_;push_cast -dsimp [hle,c2,c3,c4,c5,c6,c7,c8,k2,k3,l1]
   exact dn (by push_cast -dsimp [zb,za,CLe,zd,hn])
  by_cases l2:4095<(x.data.length:Int)
  ·have hn:¬ql w x:=fun h=>by have:=(h.2.2.2.2.2.2.2.2.1 k3).2.1;omega
   refine fon Tryz.func97 ?_;dsimp only[Tryz.f97]
   push_cast -dsimp
   refine cl (hg) ?_;push_cast -dsimp [hle,c2,c3,c4,c5,c6,c7,c8,k2,k3,l1,l2]
   exact dn (by push_cast -dsimp [zb,za,CLe,zd,hn])
  refine fon Tryz.func97 ?_;dsimp only[Tryz.f97]
  push_cast -dsimp
  refine cl (hg) ?_;push_cast -dsimp [hle,c2,c3,c4,c5,c6,c7,c8,k2,k3,l1,l2]
  refine loop (fun j:Nat=>⟨[(2,.ptr 0 0),(3,.ptr 1 0),(7,.sc (.int .i64 j))],[QJ w,Js x],0,0⟩) (fun j=>j<=x.data.length/\∀ b∈x.data.take j,b≠0) (fun j=>x.data.length-j) 0 ⟨Nat.zero_le _,fun b hb=>by simp at hb⟩ ?_ ?_
  ·exact wk (h5:=by push_cast -dsimp [zb,za,CLe,zd,k3,c4,c5])
  ·rintro j ⟨j1,j2⟩
   by_cases hj:j<x.data.length
   ·have hb:x.data[j]?=some x.data[j]:=List.getElem?_eq_getElem hj
    by_cases z:(x.data[j].toNat:Int)=0
    ·have hn:¬ql w x:=fun h=>(h.2.2.2.2.2.2.2.2.1 k3).2.2 _ (List.getElem_mem hj) (UInt8.toNat_inj.1 (by simpa using z))
     push_cast -dsimp [hj,k3,hb,z]
     repeat refine an ?_
     exact dn (by push_cast -dsimp [zb,za,CLe,zd,hn])
    ·push_cast -dsimp [hj,k3,hb,z]
     repeat refine an ?_
     exact ⟨j+1,⟨hj,qe hj j2 fun hz=>z (by rw[hz];rfl)⟩,by omega,wk⟩
   ·rw[List.take_of_length_le (by omega)]at j2
    push_cast -dsimp [hj,k3]
    refine loop (fun i:Nat=>⟨[(2,.ptr 0 0),(3,.ptr 1 0),(8,.sc (.bool ((w.kept.take i).any (js x)))),(9,.sc (.int .i64 i))],[QJ w,Js x],0,0⟩) (fun i=>i<=w.kept.length) (fun i=>w.kept.length-i) 0 (Nat.zero_le _) ?_ ?_
    ·exact wk (by push_cast -dsimp [zb,za,CLe,zd,List.take_zero,List.any_nil])
    ·intro i hi
     by_cases h:i<w.kept.length
     ·have g:=ji w.kept i h
      have ha:=zqA (P:=js x) h
      have hp:js x w.kept[i]=(decide (w.kept[i].ino=x.ino)&&!w.kept[i].content):=rfl
      by_cases hn:((w.kept.take i).any (js x))=true
      ·rw[hn,Bool.true_or]at ha
       push_cast -dsimp [hkl,h,hn]
       repeat refine an ?_
       exact ⟨i+1,h,by omega,wk (by push_cast -dsimp [zb,za,CLe,zd,ha])⟩
      ·have hn:=Bool.eq_false_iff.2 hn
       rw[hn,Bool.false_or,hp]at ha
       by_cases he:w.kept[i].ino=x.ino
       ·rw[decide_eq_true he,Bool.true_and]at ha
        push_cast -dsimp [hkl,h,hn,g,he]
        repeat refine an ?_
        exact ⟨i+1,h,by omega,wk (by push_cast -dsimp [zb,za,CLe,zd,ha])⟩
       ·rw[decide_eq_false he,Bool.false_and]at ha
        push_cast -dsimp [hkl,h,hn,g,he]
        repeat refine an ?_
        exact ⟨i+1,h,by omega,wk (by push_cast -dsimp [zb,za,CLe,zd,ha])⟩
     ·rw[List.take_of_length_le (by omega)]
      have hd:decide (ql w x)=w.kept.any (js x):=key (fun h=>absurd h k2) (fun _=>⟨by omega,by omega,j2⟩)
      push_cast -dsimp [hkl,h]
      exact dn (by push_cast -dsimp [zb,za,CLe,zd,hd])
 ·have k1:x.kind=1:=by omega
  refine fon Tryz.func97 ?_;dsimp only[Tryz.f97]
  push_cast -dsimp
  refine cl (hg) ?_;push_cast -dsimp [hle,c2,c3,c4,c5,c6,c7,c8,k2,k3]
  refine loop (fun j:Nat=>⟨[(2,.ptr 0 0),(3,.ptr 1 0),(7,.sc (.int .i64 j))],[QJ w,Js x],0,0⟩) (fun j=>j=0) (fun j=>0) 0 rfl ?_ ?_
  ·exact wk (h5:=by push_cast -dsimp [zb,za,CLe,zd,c4,c5])
  ·rintro j rfl
   by_cases hd0:(0:Int)<x.data.length
   ·push_cast -dsimp [hd0,k3]
    refine loop (fun i:Nat=>⟨[(2,.ptr 0 0),(3,.ptr 1 0),(8,.sc (.bool ((w.kept.take i).any (js x)))),(9,.sc (.int .i64 i))],[QJ w,Js x],0,0⟩) (fun i=>i<=w.kept.length) (fun i=>w.kept.length-i) 0 (Nat.zero_le _) ?_ ?_
    ·exact wk (by push_cast -dsimp [zb,za,CLe,zd,List.take_zero,List.any_nil])
    ·intro i hi
     by_cases h:i<w.kept.length
     ·have g:=ji w.kept i h
      have ha:=zqA (P:=js x) h
      have hp:js x w.kept[i]=(decide (w.kept[i].ino=x.ino)&&!w.kept[i].content):=rfl
      by_cases hn:((w.kept.take i).any (js x))=true
      ·rw[hn,Bool.true_or]at ha
       push_cast -dsimp [hkl,h,hn]
       repeat refine an ?_
       exact ⟨i+1,h,by omega,wk (by push_cast -dsimp [zb,za,CLe,zd,ha])⟩
      ·have hn:=Bool.eq_false_iff.2 hn
       rw[hn,Bool.false_or,hp]at ha
       by_cases he:w.kept[i].ino=x.ino
       ·rw[decide_eq_true he,Bool.true_and]at ha
        push_cast -dsimp [hkl,h,hn,g,he]
        repeat refine an ?_
        exact ⟨i+1,h,by omega,wk (by push_cast -dsimp [zb,za,CLe,zd,ha])⟩
       ·rw[decide_eq_false he,Bool.false_and]at ha
        push_cast -dsimp [hkl,h,hn,g,he]
        repeat refine an ?_
        exact ⟨i+1,h,by omega,wk (by push_cast -dsimp [zb,za,CLe,zd,ha])⟩
     ·rw[List.take_of_length_le (by omega)]
      have hd:decide (ql w x)=w.kept.any (js x):=key (fun h=>absurd h k2) (fun h=>absurd h k3)
      push_cast -dsimp [hkl,h]
      exact dn (by push_cast -dsimp [zb,za,CLe,zd,hd])
   ·push_cast -dsimp [hd0,k3]
    refine loop (fun i:Nat=>⟨[(2,.ptr 0 0),(3,.ptr 1 0),(8,.sc (.bool ((w.kept.take i).any (js x)))),(9,.sc (.int .i64 i))],[QJ w,Js x],0,0⟩) (fun i=>i<=w.kept.length) (fun i=>w.kept.length-i) 0 (Nat.zero_le _) ?_ ?_
    ·exact wk (by push_cast -dsimp [zb,za,CLe,zd,List.take_zero,List.any_nil])
    ·intro i hi
     by_cases h:i<w.kept.length
     ·have g:=ji w.kept i h
      have ha:=zqA (P:=js x) h
      have hp:js x w.kept[i]=(decide (w.kept[i].ino=x.ino)&&!w.kept[i].content):=rfl
      by_cases hn:((w.kept.take i).any (js x))=true
      ·rw[hn,Bool.true_or]at ha
       push_cast -dsimp [hkl,h,hn]
       repeat refine an ?_
       exact ⟨i+1,h,by omega,wk (by push_cast -dsimp [zb,za,CLe,zd,ha])⟩
      ·have hn:=Bool.eq_false_iff.2 hn
       rw[hn,Bool.false_or,hp]at ha
       by_cases he:w.kept[i].ino=x.ino
       ·rw[decide_eq_true he,Bool.true_and]at ha
        push_cast -dsimp [hkl,h,hn,g,he]
        repeat refine an ?_
        exact ⟨i+1,h,by omega,wk (by push_cast -dsimp [zb,za,CLe,zd,ha])⟩
       ·rw[decide_eq_false he,Bool.false_and]at ha
        push_cast -dsimp [hkl,h,hn,g,he]
        repeat refine an ?_
        exact ⟨i+1,h,by omega,wk (by push_cast -dsimp [zb,za,CLe,zd,ha])⟩
     ·rw[List.take_of_length_le (by omega)]
      have hd:decide (ql w x)=w.kept.any (js x):=key (fun h=>absurd h k2) (fun h=>absurd h k3)
      push_cast -dsimp [hkl,h]
      exact dn (by push_cast -dsimp [zb,za,CLe,zd,hd])
end
section
open CA CB
open Go.RowKit
def zgP (w:qk):Prop:=(∀ k∈w.kept,k.data.length<=5000)/\Vf w.fs.xs/\Vf w.pool/\w.kept.length<=40
instance (w:qk):Decidable (zgP w):=by unfold zgP;infer_instance
def Xk (w:qk) (k:zK):Prop:=k.slot<=1073741824/\(zt k.ino w.fs.xs=true∨zt k.ino w.pool=true)/\(k.content=true->(if zt k.ino w.pool=true then zf k.ino w.pool else zf k.ino w.fs.xs).kind=1)/\(k.content=false->k.data = [])
instance (w:qk) (k:zK):Decidable (Xk w k):=by unfold Xk;infer_instance
def Xz (ks:List zK):Prop:=qC ju zK.slot ks/\∀ k∈ks,1<=k.slot
instance (ks:List zK):Decidable (Xz ks):=by unfold Xz qC;infer_instance
def Xg (w:qk):Prop:=Jn w.fs=0/\z8 w.pool/\(∀ x∈w.pool,ql w x)/\Xz w.kept/\∀ k∈w.kept,Xk w k
instance (w:qk):Decidable (Xg w):=by unfold Xg;infer_instance
def okW (w:qk):Prop:=zgP w/\Xg w
instance (w:qk):Decidable (okW w):=by unfold okW;infer_instance
theorem ke {ks:List zK} (h:Xz ks):0<=jJ ks/\∀ k∈ks,k.slot<=jJ ks:=by
 rcases List.eq_nil_or_concat ks with rfl | ⟨l,b,rfl⟩
 ·exact ⟨Int.le_refl 0,fun k hk=>by cases hk⟩
 ·rw[List.concat_eq_append]at h ⊢
  have hl:jJ (l++[b])=b.slot:=by unfold jJ;rw[List.getLast?_append];rfl
  rw[hl]
  have hb:=h.2 b (by simp)
  refine ⟨by omega,fun k hk=>?_⟩
  rcases List.mem_append.1 hk with hk | hk
  ·have:=(List.pairwise_append.1 h.1).2.2 k hk b (by simp)
   have:k.slot<b.slot:=of_decide_eq_true this
   omega
  ·rw[List.mem_singleton.1 hk];exact Int.le_refl _
theorem Um {ks:List zK} {k:zK}:Xz (ks++[k])↔Xz ks/\jJ ks<k.slot:=by
 constructor
 ·rintro ⟨h1,h2⟩
  have h0:Xz ks:=⟨(List.pairwise_append.1 h1).1,fun x hx=>h2 x (List.mem_append_left _ hx)⟩
  refine ⟨h0,?_⟩
  rcases List.eq_nil_or_concat ks with rfl | ⟨l,b,rfl⟩
  ·have:=h2 k (by simp)
   show (0:Int)<k.slot
   omega
  ·rw[List.concat_eq_append]at h1 ⊢
   have hl:jJ (l++[b])=b.slot:=by unfold jJ;rw[List.getLast?_append];rfl
   rw[hl]
   exact of_decide_eq_true ((List.pairwise_append.1 h1).2.2 b (by simp) k (by simp))
 ·rintro ⟨h,hk⟩
  obtain ⟨q1,q2⟩:=ke h
  refine ⟨List.pairwise_append.2 ⟨h.1,List.pairwise_singleton _ _,fun a ha b hb=>?_⟩,fun x hx=>?_⟩
  ·rw[List.mem_singleton.1 hb]
   have:=q2 a ha
   exact decide_eq_true (show a.slot<k.slot by omega)
  ·rcases List.mem_append.1 hx with hx | hx
   ·exact h.2 x hx
   ·rw[List.mem_singleton.1 hx];omega
theorem kP (w:qk):Fun Tryz.prog G0 50 [Yp w] (qt (decide (zgP w))) 0:=by
 have hkl:(zC w.kept).length=w.kept.length:=List.length_map ..
 have hf:=uh (G:=G0) w.fs
 have hq:=Zl (G:=G0) w
 have hp:=uh (G:=G0) ⟨0,0,0,w.pool⟩
 simp only at hp
 have fin:(∀ k∈w.kept.take 100,k.data.length<=5000)->(zgP w↔Vf w.fs.xs/\Vf w.pool/\w.kept.length<=40):=fun h=>by
  refine ⟨fun q=>q.2,fun q=>⟨?_,q⟩⟩
  rw[List.take_of_length_le (by have:=q.2.2;omega)]at h
  exact h
 refine fon Tryz.func50 ?_;dsimp only[Tryz.f50]
 push_cast -dsimp
 refine loop (fun i:Nat=>⟨[(1,.ptr 0 0),(3,.sc (.int .i64 i))],[QJ w],0,0⟩) (fun i=>i<=w.kept.length/\i<=100/\∀ k∈w.kept.take i,k.data.length<=5000) (fun i=>w.kept.length-i) 0 ⟨Nat.zero_le _,Nat.zero_le _,fun x hx=>by simp at hx⟩ ?_ ?_
 ·exact wk
 ·rintro i ⟨h1,h2,h3⟩
  have last:(∀ k∈w.kept.take 100,k.data.length<=5000)->decide (zgP w)=(decide (Vf w.fs.xs)&&(decide (Vf w.pool)&&decide (w.kept.length<=40))):=fun h=>by
   have:=fin h
   by_cases a:Vf w.fs.xs<;>by_cases b:Vf w.pool<;>by_cases c:w.kept.length<=40<;>simp[this,a,b,c]
  by_cases h:i<w.kept.length
  ·by_cases h100:i<100
   ·have g:=ji w.kept i h
    have h100':((i:Int)<100)=True:=eq_true (by omega)
    by_cases hd:5000<(w.kept[i].data.length:Int)
    ·have hn:¬zgP w:=fun q=>by have:=q.1 _ (List.getElem_mem h);omega
     push_cast -dsimp [hkl,h,h100',g,hd]
     repeat refine an ?_
     exact dn (by push_cast -dsimp [zb,za,CLe,zd,hn])
    ·push_cast -dsimp [hkl,h,h100',g,hd]
     repeat refine an ?_
     exact ⟨i+1,⟨h,h100,qe h h3 (by omega)⟩,by omega,wk⟩
   ·have h100':((i:Int)<100)=False:=eq_false (by omega)
    have e:i=100:=by omega
    have hl:=last (by rw[←e];exact h3)
    have h40:((w.kept.length:Int)<=40)=False:=eq_false (by omega)
    rw[decide_eq_false (show ¬w.kept.length<=40 by omega)]at hl
    rw[hl]
    by_cases a:Vf w.fs.xs
    ·by_cases b:Vf w.pool
     ·push_cast -dsimp [hkl,h,h100']
      refine cl (hf) ?_;push_cast -dsimp [decide_eq_true a]
      refine cl (hq) ?_;push_cast -dsimp
      refine cl (hp) ?_;push_cast -dsimp [decide_eq_true b,hkl,h40]
      exact dn (by push_cast -dsimp [zb,za,CLe,zd,a,b,Bool.false_and])
     ·push_cast -dsimp [hkl,h,h100']
      refine cl (hf) ?_;push_cast -dsimp [decide_eq_true a]
      refine cl (hq) ?_;push_cast -dsimp
      refine cl (hp) ?_;push_cast -dsimp [decide_eq_false b]
      exact dn (by push_cast -dsimp [zb,za,CLe,zd,a,b,Bool.false_and])
    ·push_cast -dsimp [hkl,h,h100']
     refine cl (hf) ?_;push_cast -dsimp [decide_eq_false a]
     exact dn (by push_cast -dsimp [zb,za,CLe,zd,a,Bool.false_and])
  ·rw[List.take_of_length_le (by omega)]at h3
   have hl:=last fun k hk=>h3 k (List.mem_of_mem_take hk)
   rw[hl]
   by_cases a:Vf w.fs.xs
   ·by_cases b:Vf w.pool
    ·by_cases c:w.kept.length<=40
     ·have h40:((w.kept.length:Int)<=40)=True:=eq_true (by omega)
      push_cast -dsimp [hkl,h]
      refine cl (hf) ?_;push_cast -dsimp [decide_eq_true a]
      refine cl (hq) ?_;push_cast -dsimp
      refine cl (hp) ?_;push_cast -dsimp [decide_eq_true b,hkl,h40]
      exact dn (by push_cast -dsimp [zb,za,CLe,zd,a,b,c,Bool.false_and])
     ·have h40:((w.kept.length:Int)<=40)=False:=eq_false (by omega)
      push_cast -dsimp [hkl,h]
      refine cl (hf) ?_;push_cast -dsimp [decide_eq_true a]
      refine cl (hq) ?_;push_cast -dsimp
      refine cl (hp) ?_;push_cast -dsimp [decide_eq_true b,hkl,h40]
      exact dn (by push_cast -dsimp [zb,za,CLe,zd,a,b,c,Bool.false_and])
    ·push_cast -dsimp [hkl,h]
     refine cl (hf) ?_;push_cast -dsimp [decide_eq_true a]
     refine cl (hq) ?_;push_cast -dsimp
     refine cl (hp) ?_;push_cast -dsimp [decide_eq_false b]
     exact dn (by push_cast -dsimp [zb,za,CLe,zd,a,b,Bool.false_and])
   ·push_cast -dsimp [hkl,h]
    refine cl (hf) ?_;push_cast -dsimp [decide_eq_false a]
    exact dn (by push_cast -dsimp [zb,za,CLe,zd,a,Bool.false_and])
structure zsc (w:qk):Prop where
 fs:FsS w.fs
 kept:w.kept.length<=10000
 pool:FsS ⟨0,0,0,w.pool⟩
theorem va (w:qk) (hw:zsc w):Fun Tryz.prog G0 51 [Yp w] (qt (decide (Xg w))) 0:=by
 have hfl:=hw.fs.len
 have hkk:=hw.kept
 have hpp:w.pool.length<=10000:=hw.pool.len
 have hkl:(zC w.kept).length=w.kept.length:=List.length_map ..
 have hpl:(zp w.pool).length=w.pool.length:=List.length_map ..
 have hch:=zcx w.fs hw.fs
 have hq:=Zl (G:=G0) w
 have hri:=V8 (G:=G0) ⟨0,0,0,w.pool⟩ (by simp only;omega)
 by_cases c1:Jn w.fs=0
 case neg =>
  have hn:¬Xg w:=fun h=>c1 h.1
  refine fof (fun i=>if i=14 then jB 8 9 else []) Tryz.func51 ?_;dsimp only[Tryz.f51]
  push_cast -dsimp
  refine cl (hch) ?_;push_cast -dsimp [c1]
  exact dn (by push_cast -dsimp [zb,za,CLe,zd,hn])
 by_cases c2:z8 w.pool
 case neg =>
  have hn:¬Xg w:=fun h=>c2 h.2.1
  rw[decide_eq_false c2]at hri
  refine fof (fun i=>if i=14 then jB 8 9 else []) Tryz.func51 ?_;dsimp only[Tryz.f51]
  push_cast -dsimp
  refine cl (hch) ?_;push_cast -dsimp [c1]
  refine cl (hq) ?_;push_cast -dsimp
  refine cl (hri) ?_;push_cast -dsimp
  exact dn (by push_cast -dsimp [zb,za,CLe,zd,hn])
 rw[decide_eq_true c2]at hri
 refine fof (fun i=>if i=14 then jB 8 9 else []) Tryz.func51 ?_;dsimp only[Tryz.f51]
 push_cast -dsimp
 refine cl (hch) ?_;push_cast -dsimp [c1]
 refine cl (hq) ?_;push_cast -dsimp
 refine cl (hri) ?_;push_cast -dsimp
 refine loop (fun i:Nat=>⟨[(1,.ptr 0 0),(3,.sc (.int .i64 i))],[QJ w],0,0⟩) (fun i=>i<=w.pool.length/\∀ x∈w.pool.take i,ql w x) (fun i=>w.pool.length-i) 0 ⟨Nat.zero_le _,fun x hx=>by simp at hx⟩ ?_ ?_
 ·exact wk
 rintro i ⟨h1,h2⟩
 by_cases h:i<w.pool.length
 ·have g:=qI w.pool i h
  have hn:=hw.pool.node _ (List.getElem_mem h)
  have hpo:=zca w w.pool[i] (by omega) (by omega) (by omega) (by omega)
  by_cases c3:ql w w.pool[i]
  ·rw[decide_eq_true c3]at hpo
   push_cast -dsimp [hpl,h,g]
   repeat refine an ?_
   refine cl (hpo) ?_;push_cast -dsimp
   repeat refine an ?_
   exact ⟨i+1,⟨h,qe h h2 c3⟩,by omega,wk⟩
  ·rw[decide_eq_false c3]at hpo
   have hn:¬Xg w:=fun q=>c3 (q.2.2.1 _ (List.getElem_mem h))
   push_cast -dsimp [hpl,h,g]
   repeat refine an ?_
   refine cl (hpo) ?_;push_cast -dsimp
   exact dn (by push_cast -dsimp [zb,za,CLe,zd,hn])
 rw[List.take_of_length_le (by omega)]at h2
 have hs0:Xz []:=⟨List.Pairwise.nil,fun k hk=>by cases hk⟩
 have hl0:jJ []=0:=rfl
 push_cast -dsimp [hpl,h]
 clear hri hq hch
 refine loop (fun i:Nat=>⟨[(1,.ptr 0 0),(4,.sc (.int .i64 (jJ (w.kept.take i)))),(5,.sc (.int .i64 i))],[QJ w],0,0⟩) (fun i=>i<=w.kept.length/\Xz (w.kept.take i)/\∀ k∈w.kept.take i,Xk w k) (fun i=>w.kept.length-i) 0 ⟨Nat.zero_le _,by rw[List.take_zero];exact hs0,fun x hx=>by simp at hx⟩ ?_ ?_
 ·exact wk (by push_cast -dsimp [zb,za,CLe,zd,List.take_zero,hl0])
 rintro i ⟨i1,i2,i3⟩
 by_cases hi:i<w.kept.length
 case neg =>
  rw[List.take_of_length_le (by omega)]at i2 i3
  have hn:Xg w:=⟨c1,c2,h2,i2,i3⟩
  push_cast -dsimp [hkl,hi]
  exact dn (by push_cast -dsimp [zb,za,CLe,zd,hn])
 have g:=ji w.kept i hi
 have hlt:=UZ hi
 have hst:w.kept.take (i+1)=w.kept.take i++[w.kept[i]]:=by rw[List.take_add_one,List.getElem?_eq_getElem hi];rfl
 have hbad1:¬jJ (w.kept.take i)<w.kept[i].slot->¬Xg w:=fun hn q=>hn (Um.1 (by
  rw[←hst]
  exact ⟨q.2.2.2.1.1.sublist (List.take_sublist _ _),fun k hk=>q.2.2.2.1.2 k (List.mem_of_mem_take hk)⟩)).2
 have hbad2:¬Xk w w.kept[i]->¬Xg w:=fun hn q=>hn (q.2.2.2.2 _ (List.getElem_mem hi))
 have hgood:jJ (w.kept.take i)<w.kept[i].slot->Xz (w.kept.take (i+1)):=fun q=>by rw[hst];exact Um.2 ⟨i2,q⟩
 have hgood2:Xk w w.kept[i]->∀ k∈w.kept.take (i+1),Xk w k:=fun q=>qe hi i3 q
 have hg1:=jU (G:=G0) w.fs w.kept[i].ino (by omega)
 have hq:=Zl (G:=G0) w
 have hg2:=jU (G:=G0) ⟨0,0,0,w.pool⟩ w.kept[i].ino (by simp only;omega)
 simp only at hg2
 generalize w.kept[i]=k at g hlt hbad1 hbad2 hgood hgood2 hg1 hg2
 generalize jJ (w.kept.take i)=la at hbad1 hgood
 clear hst i2 i3
 by_cases d1:k.slot<=la
 ·have hn:=hbad1 (by omega)
  push_cast -dsimp [hkl,hi,g]
  repeat refine an ?_
  refine cl (hg1) ?_;push_cast -dsimp
  refine cl (hq) ?_;push_cast -dsimp
  refine cl (hg2) ?_;push_cast -dsimp [d1]
  exact dn (by push_cast -dsimp [zb,za,CLe,zd,hn])
 have hgd:=hgood (by omega)
 by_cases d2:1073741824<k.slot
 ·have hn:=hbad2 fun q=>by have:=q.1;omega
  push_cast -dsimp [hkl,hi,g]
  repeat refine an ?_
  refine cl (hg1) ?_;push_cast -dsimp
  refine cl (hq) ?_;push_cast -dsimp
  refine cl (hg2) ?_;push_cast -dsimp [d1,d2]
  exact dn (by push_cast -dsimp [zb,za,CLe,zd,hn])
 cases e2:zt k.ino w.pool with
 | true =>
  rw[e2]at hg2
  by_cases d4:k.content=true
  ·by_cases d5:(zf k.ino w.pool).kind=1
   ·have hok:Xk w k:=⟨by omega,.inr e2,fun _=>by rw[if_pos e2];exact d5,fun q=>by rw[d4]at q;cases q⟩
    cases e1:zt k.ino w.fs.xs <;>
    ·rw[e1]at hg1
     push_cast -dsimp [hkl,hi,g]
     repeat refine an ?_
     refine cl (hg1) ?_;push_cast -dsimp
     refine cl (hq) ?_;push_cast -dsimp
     refine cl (hg2) ?_;push_cast -dsimp [d1,d2,d4,d5]
     repeat refine an ?_
     exact ⟨i+1,⟨hi,hgd,hgood2 hok⟩,by omega,wk (by push_cast -dsimp [zb,za,CLe,zd,hlt])⟩
   ·have hn:=hbad2 fun q=>d5 (by have:=q.2.2.1 d4;rwa [if_pos e2]at this)
    cases e1:zt k.ino w.fs.xs <;>
    ·rw[e1]at hg1
     push_cast -dsimp [hkl,hi,g]
     repeat refine an ?_
     refine cl (hg1) ?_;push_cast -dsimp
     refine cl (hq) ?_;push_cast -dsimp
     refine cl (hg2) ?_;push_cast -dsimp [d1,d2,d4,d5]
     exact dn (by push_cast -dsimp [zb,za,CLe,zd,hn])
  ·have d4:=Bool.eq_false_iff.2 d4
   by_cases d6:k.data = []
   ·have hok:Xk w k:=⟨by omega,.inr e2,fun q=>(by rw[d4]at q;cases q),fun _=>d6⟩
    cases e1:zt k.ino w.fs.xs <;>
    ·rw[e1]at hg1
     push_cast -dsimp [hkl,hi,g]
     repeat refine an ?_
     refine cl (hg1) ?_;push_cast -dsimp
     refine cl (hq) ?_;push_cast -dsimp
     refine cl (hg2) ?_;push_cast -dsimp [d1,d2,d4,d6]
     repeat refine an ?_
     exact ⟨i+1,⟨hi,hgd,hgood2 hok⟩,by omega,wk (by push_cast -dsimp [zb,za,CLe,zd,hlt])⟩
   ·have hn:=hbad2 fun q=>d6 (q.2.2.2 d4)
    cases e1:zt k.ino w.fs.xs <;>
    ·rw[e1]at hg1
     push_cast -dsimp [hkl,hi,g]
     repeat refine an ?_
     refine cl (hg1) ?_;push_cast -dsimp
     refine cl (hq) ?_;push_cast -dsimp
     refine cl (hg2) ?_;push_cast -dsimp [d1,d2,d4,d6]
     exact dn (by push_cast -dsimp [zb,za,CLe,zd,hn])
 | false =>
  rw[e2]at hg2
  cases e1:zt k.ino w.fs.xs with
  | false =>
   rw[e1]at hg1
   have hn:=hbad2 fun q=>by
    rcases q.2.1 with q | q
    ·rw[e1]at q;cases q
    ·rw[e2]at q;cases q
   push_cast -dsimp [hkl,hi,g]
   repeat refine an ?_
   refine cl (hg1) ?_;push_cast -dsimp
   refine cl (hq) ?_;push_cast -dsimp
   refine cl (hg2) ?_;push_cast -dsimp [d1,d2]
   exact dn (by push_cast -dsimp [zb,za,CLe,zd,hn])
  | true =>
   rw[e1]at hg1
   have e2':¬zt k.ino w.pool=true:=by rw[e2];decide
   by_cases d4:k.content=true
   ·by_cases d5:(zf k.ino w.fs.xs).kind=1
    ·have hok:Xk w k:=⟨by omega,.inl e1,fun _=>by rw[if_neg e2'];exact d5,fun q=>by rw[d4]at q;cases q⟩
     push_cast -dsimp [hkl,hi,g]
     repeat refine an ?_
     refine cl (hg1) ?_;push_cast -dsimp
     refine cl (hq) ?_;push_cast -dsimp
     refine cl (hg2) ?_;push_cast -dsimp [d1,d2,d4,d5]
     repeat refine an ?_
     exact ⟨i+1,⟨hi,hgd,hgood2 hok⟩,by omega,wk (by push_cast -dsimp [zb,za,CLe,zd,hlt])⟩
    ·have hn:=hbad2 fun q=>d5 (by have:=q.2.2.1 d4;rwa [if_neg e2']at this)
     push_cast -dsimp [hkl,hi,g]
     repeat refine an ?_
     refine cl (hg1) ?_;push_cast -dsimp
     refine cl (hq) ?_;push_cast -dsimp
     refine cl (hg2) ?_;push_cast -dsimp [d1,d2,d4,d5]
     exact dn (by push_cast -dsimp [zb,za,CLe,zd,hn])
   ·have d4:=Bool.eq_false_iff.2 d4
    by_cases d6:k.data = []
    ·have hok:Xk w k:=⟨by omega,.inl e1,fun q=>(by rw[d4]at q;cases q),fun _=>d6⟩
     push_cast -dsimp [hkl,hi,g]
     repeat refine an ?_
     refine cl (hg1) ?_;push_cast -dsimp
     refine cl (hq) ?_;push_cast -dsimp
     refine cl (hg2) ?_;push_cast -dsimp [d1,d2,d4,d6]
     repeat refine an ?_
     exact ⟨i+1,⟨hi,hgd,hgood2 hok⟩,by omega,wk (by push_cast -dsimp [zb,za,CLe,zd,hlt])⟩
    ·have hn:=hbad2 fun q=>d6 (q.2.2.2 d4)
     push_cast -dsimp [hkl,hi,g]
     repeat refine an ?_
     refine cl (hg1) ?_;push_cast -dsimp
     refine cl (hq) ?_;push_cast -dsimp
     refine cl (hg2) ?_;push_cast -dsimp [d1,d2,d4,d6]
     exact dn (by push_cast -dsimp [zb,za,CLe,zd,hn])
theorem zgP.m {w:qk} (h:zgP w):zsc w:=⟨h.2.1.fs,by have:=h.2.2.2;omega,Vf.fs (f:=⟨0,0,0,w.pool⟩) h.2.2.1⟩
theorem zfV (w:qk):Fun Tryz.prog G0 22 [Yp w] (qt (decide (okW w))) 0:=by
 by_cases c:zgP w
 ·have h1:=kP w
  have h2:=va w c.m
  rw[decide_eq_true c]at h1
  have e:decide (okW w)=decide (Xg w):=by by_cases r:Xg w<;>simp[okW,c,r]
  refine fon Tryz.func22 ?_;dsimp only[Tryz.f22]
  push_cast -dsimp
  refine cl (h1) ?_;push_cast -dsimp
  refine cl (h2) ?_;push_cast -dsimp
  exact dn (by push_cast -dsimp [zb,za,CLe,zd,e])
 ·have h1:=kP w
  rw[decide_eq_false c]at h1
  have e:¬okW w:=fun h=>c h.1
  refine fon Tryz.func22 ?_;dsimp only[Tryz.f22]
  push_cast -dsimp
  refine cl (h1) ?_;push_cast -dsimp
  exact dn (by push_cast -dsimp [zb,za,CLe,zd,e])
end
section
open Go.RowKit
section
variable {G:zo}
theorem zdW (n:Nat) (hn:n<=200000) (h0:0<n):Xc Tryz.prog G 161 [.sc (.slice none 0 0),.sc (.int .i64 n)] [] 0 (fun r bx' m=>m=0/\∃ (c:Nat) (B:List C),n<=c/\c<=9223372036854775807/\B.length=c*5/\(B.all C.stayB)=true/\r = .bs 0 0 5 0 c/\bx' = [B]):=by
 have hp:((n:Int)<0)=False:=eq_false (by omega)
 have hq:((0:Int)<(n:Int))=True:=eq_true (by omega)
 refine foX (fun i=>if i=1000000+37 then [true,true] else []) Tryz.func161 ?_;dsimp only[Tryz.f161]
 push_cast -dsimp [hp,hq]
 refine ⟨⟨by omega,by omega⟩,zej zj4 zox zjI rfl (by decide) rfl (by omega) (by omega) (by omega) (fun c h1 h2=>?_)⟩
 push_cast -dsimp
 have hm:(n:Int).toNat=n:=by omega
 rw[hm]at h1
 have h2:c<=9223372036854775807:=h2
 refine ⟨by omega,by omega,_,[(List.replicate n [C.sc (.int .i64 0),C.sc (.int .i64 0),C.str [],C.str [],C.str []]).flatten++List.replicate ((c-n)*5) C.any],0,⟨⟨rfl,c,_,h1,h2,?_,?_,rfl,rfl⟩,Nat.zero_le _⟩,[],rfl,rfl,?_,by push_cast -dsimp [zb,za,CLe,zd]⟩
 ·simp[hm];omega
 ·simp[List.all_append,List.all_replicate,C.stayB]
 ·push_cast -dsimp [zb,za,CLe,zd]
  exact zO (by simp[List.all_append,List.all_replicate,C.stayB])
theorem zb4:Fun Tryz.prog G 103 [.sc (.slice none 0 0),.sc (.int .i64 0)] (.sc (.slice none 0 0)) 0:=by
 refine fon Tryz.func103 ?_;dsimp only[Tryz.f103]
 push_cast -dsimp
 exact dn
theorem ze8 (n:Nat) (hn:n<=200000) (h0:0<n):Xc Tryz.prog G 103 [.sc (.slice none 0 0),.sc (.int .i64 n)] [] 0 (fun r bx' m=>m=0/\∃ (c:Nat) (B:List C),n<=c/\c<=9223372036854775807/\B.length=c*1/\(B.all C.stayB)=true/\r = .bs 0 0 1 0 c/\bx' = [B]):=by
 have hp:((n:Int)<0)=False:=eq_false (by omega)
 have hq:((0:Int)<(n:Int))=True:=eq_true (by omega)
 refine foX (fun i=>if i=1000000+30 then [true,true] else []) Tryz.func103 ?_;dsimp only[Tryz.f103]
 push_cast -dsimp [hp,hq]
 refine ⟨⟨by omega,by omega⟩,zej zjN zox zqz rfl (by decide) rfl (by omega) (by omega) (by omega) (fun c h1 h2=>?_)⟩
 push_cast -dsimp
 have hm:(n:Int).toNat=n:=by omega
 rw[hm]at h1
 have h2:c<=9223372036854775807:=h2
 refine ⟨by omega,by omega,_,[(List.replicate n [C.str []]).flatten++List.replicate ((c-n)*1) C.any],0,⟨⟨rfl,c,_,h1,h2,?_,?_,rfl,rfl⟩,Nat.zero_le _⟩,[],rfl,rfl,?_,by push_cast -dsimp [zb,za,CLe,zd]⟩
 ·simp[hm];omega
 ·simp[List.all_append,List.all_replicate,C.stayB]
 ·push_cast -dsimp [zb,za,CLe,zd]
  exact zO (by simp[List.all_append,List.all_replicate,C.stayB])
end
end
section
open CA CB
open Go.RowKit
def szN (a b:Nat):Nat->Nat
 | 0=>0
 | 1=>a
 | _=>a+b
def znT {α:Type} (a b:List α):Nat->List α
 | 0=>[]
 | 1=>a
 | _=>a++b
structure Gv (k c:Nat) (a b:List (List C)) (j:Nat) (X:List C):Prop where
 len:X.length=c*k
 stay:(X.all C.stayB)=true
 cells:X.take (szN a.length b.length j*k)=(znT a b j).flatten
theorem Gv.step {k c:Nat} {a b r:List (List C)} {j:Nat} {X:List C} (h:Gv k c a b j X) (hr:znT a b (j+1)=znT a b j++r) (hn:szN a.length b.length (j+1)=szN a.length b.length j+r.length) (hk:∀ x∈r,x.length=k) (hs:jA r) (hc:szN a.length b.length (j+1)<=c) :
  Gv k c a b (j+1) (spl X (szN a.length b.length j*k) r.flatten):=by
 have hf:=qu hk
 obtain ⟨h1,h2,h3⟩:=h
 have hle:(szN a.length b.length j+r.length)*k<=c*k:=Nat.mul_le_mul_right k (by omega)
 rw[Nat.add_mul]at hle
 refine ⟨by rw[ZB (by omega)];exact h1,?_,?_⟩
 ·unfold spl
  rw[List.all_append,List.all_append,Bool.and_eq_true,Bool.and_eq_true]
  rw[List.all_eq_true]at h2
  exact ⟨⟨List.all_eq_true.2 fun x hx=>h2 x (List.mem_of_mem_take hx),Qe hs⟩,List.all_eq_true.2 fun x hx=>h2 x (List.mem_of_mem_drop hx)⟩
 ·unfold spl
  rw[hn,Nat.add_mul,hr,List.flatten_append,←h3,List.append_assoc,List.take_append]
  have e1:(X.take (szN a.length b.length j*k)).length=szN a.length b.length j*k:=by rw[List.length_take];omega
  rw[e1,List.take_of_length_le (by omega),Nat.add_sub_cancel_left,List.take_append,←hf,List.take_of_length_le (Nat.le_refl _)]
  simp
structure zn8 (k c:Nat) (rows:List (List C)) (B:List C):Prop where
 fit:rows.length<=c
 max:c<=9223372036854775807
 len:B.length=c*k
 stay:(B.all C.stayB)=true
 cells:B.take (rows.length*k)=rows.flatten
theorem zn8.ok {k c e i:Nat} {rows:List (List C)} {B:List C} {bx:List (List C)} (h:zn8 k c rows B) (hb:bx[i]?=some B) (h0:0<rows.length) (hk:∀ r∈rows,r.length=k):zbO [(i,e,k,rows,c)] bx:=
 ua hb (Nat.lt_of_lt_of_le h0 h.fit) h.fit h.max h.len hk h.stay h.cells
section
variable {G:zo}
theorem zdV (a b:List (List C)) (ka:∀ r∈a,r.length=5) (kb:∀ r∈b,r.length=5) (sa:jA a) (sb:jA b) (la:a.length<=90000) (lb:b.length<=90000) (h0:0<a.length+b.length) :
  Xc Tryz.prog G 123 [.sl 1 [[.sl 5 a],[.sl 5 b]]] [] 0 (fun r bx n=>n=0/\∃ c B,zn8 5 c (a++b) B/\r = .bs 0 0 5 (a++b).length c/\bx = [B]):=by
 refine foX (fun i=>if i=1000000+37 then [true,true] else []) Tryz.func123 ?_;dsimp only[Tryz.f123]
 push_cast -dsimp
 refine loop (fun j:Nat=>⟨[(0,.sl 1 [[.sl 5 a],[.sl 5 b]]),(2,.sc (.slice none 0 0)),(3,.sc (.int .i64 (szN a.length b.length j:Nat))),(9,.sl 1 [[.sl 5 a],[.sl 5 b]]),(10,.sc (.int .i64 2)),(11,.sc (.int .i64 j))],[],0,0⟩) (fun j=>j<=2) (fun j=>2-j) 0 (by decide) ?_ ?_
 ·exact wk (by push_cast -dsimp [zb,za,CLe,zd,szN])
 intro j hj
 obtain rfl | rfl | rfl:j=0∨j=1∨j=2:=by omega
 ·have hn:(((a.length:Int))<0)=False:=eq_false (by omega)
  push_cast -dsimp [szN,hn]
  exact ⟨⟨by omega,by omega⟩,1,by decide,by decide,wk (by push_cast -dsimp [zb,za,CLe,zd,szN])⟩
 ·have hn:(((a.length:Int)+(b.length:Int))<0)=False:=eq_false (by omega)
  push_cast -dsimp [szN,hn]
  exact ⟨⟨by omega,by omega⟩,2,by decide,by decide,wk (by push_cast -dsimp [zb,za,CLe,zd,szN])⟩
 ·push_cast -dsimp [szN]
  refine j7 [] [] (zdW (G:=G) (a.length+b.length) (by omega) (by omega)) rfl (by decide) (by decide) (by simp) (by push_cast -dsimp) (by push_cast -dsimp) (fun r bx' m hp=>?_)
  obtain ⟨rfl,c,B,h1,h2,h3,h4,rfl,rfl⟩:=hp
  have hre:∀ fp fo,C.reL fp fo B=B:=fun fp fo=>zE h4
  push_cast -dsimp [hre]
  refine loop (fun p:Nat×List C=>⟨[(0,.sl 1 [[.sl 5 a],[.sl 5 b]]),(6,.bs 0 0 5 (szN a.length b.length p.1) c),(25,.sl 1 [[.sl 5 a],[.sl 5 b]]),(26,.sc (.int .i64 2)),(27,.sc (.int .i64 p.1))],[p.2],0,0⟩) (fun p=>p.1<=2/\Gv 5 c a b p.1 p.2) (fun p=>2-p.1) (0,B) ⟨Nat.zero_le _,h3,h4,by simp[szN,znT]⟩ ?_ ?_
  ·exact Ji.mk [] rfl rfl (Nat.zero_le _) rfl (by push_cast -dsimp [zb,za,CLe,zd,szN]) (by (push_cast -dsimp [zb,za,CLe,zd];exact zO h4))
  rintro ⟨j,X⟩ ⟨hj,hX⟩
  have hj:j<=2:=hj
  obtain rfl | rfl | rfl:j=0∨j=1∨j=2:=by omega
  ·have hs:=hX.step (r:=a) rfl (by simp[szN]) ka sa (by simp[szN];omega)
   push_cast -dsimp [szN]
   refine Uq zj4 zjI rfl rfl (by decide) rfl (qu ka) rfl (by rw[hX.len];omega) (Nat.zero_le _) (by omega) (by omega) (fun hc=>?_) (fun hc=>absurd hc (by omega))
   push_cast -dsimp
   have hs:Gv 5 c a b 1 (spl X 0 a.flatten):=by simpa [szN] using hs
   exact ⟨(1,spl X 0 a.flatten),⟨Nat.le_succ 1,hs⟩,by (simp only;omega),Ji.mk [] rfl rfl (Nat.zero_le _) rfl (by push_cast -dsimp [zb,za,CLe,zd,szN]) (by (push_cast -dsimp [zb,za,CLe,zd];exact zO hs.stay))⟩
  ·have hs:=hX.step (r:=b) rfl (by simp[szN]) kb sb (by simp[szN];omega)
   push_cast -dsimp [szN]
   refine Uq zj4 zjI rfl rfl (by decide) rfl (qu kb) rfl (by rw[hX.len];omega) (by omega) (by omega) (by omega) (fun hc=>?_) (fun hc=>absurd hc (by omega))
   push_cast -dsimp
   have hs:Gv 5 c a b 2 (spl X (a.length*5) b.flatten):=by simpa [szN] using hs
   exact ⟨(2,spl X (a.length*5) b.flatten),⟨Nat.le_refl 2,hs⟩,by (simp only;omega),Ji.mk [] rfl rfl (Nat.zero_le _) rfl (by push_cast -dsimp [zb,za,CLe,zd,szN]) (by (push_cast -dsimp [zb,za,CLe,zd];exact zO hs.stay))⟩
  ·push_cast -dsimp [szN]
   exact ⟨_,[X],0,⟨⟨rfl,c,X,⟨by rw[List.length_append];omega,h2,hX.len,hX.stay,by rw[List.length_append];exact hX.cells⟩,rfl,rfl⟩,Nat.zero_le _⟩,[],rfl,rfl,by (push_cast -dsimp [zb,za,CLe,zd];exact zO hX.stay),by push_cast -dsimp [zb,za,CLe,zd,List.length_append]⟩
theorem Mh (a b:List (List C)) (ka:∀ r∈a,r.length=1) (kb:∀ r∈b,r.length=1) (sa:jA a) (sb:jA b) (la:a.length<=90000) (lb:b.length<=90000) (h0:0<a.length+b.length) :
  Xc Tryz.prog G 58 [.sl 1 [[.sl 1 a],[.sl 1 b]]] [] 0 (fun r bx n=>n=0/\∃ c B,zn8 1 c (a++b) B/\r = .bs 0 0 1 (a++b).length c/\bx = [B]):=by
 refine foX (fun i=>if i=1000000+30 then [true,true] else []) Tryz.func58 ?_;dsimp only[Tryz.f58]
 push_cast -dsimp
 refine loop (fun j:Nat=>⟨[(0,.sl 1 [[.sl 1 a],[.sl 1 b]]),(2,.sc (.slice none 0 0)),(3,.sc (.int .i64 (szN a.length b.length j:Nat))),(9,.sl 1 [[.sl 1 a],[.sl 1 b]]),(10,.sc (.int .i64 2)),(11,.sc (.int .i64 j))],[],0,0⟩) (fun j=>j<=2) (fun j=>2-j) 0 (by decide) ?_ ?_
 ·exact wk (by push_cast -dsimp [zb,za,CLe,zd,szN])
 intro j hj
 obtain rfl | rfl | rfl:j=0∨j=1∨j=2:=by omega
 ·have hn:(((a.length:Int))<0)=False:=eq_false (by omega)
  push_cast -dsimp [szN,hn]
  exact ⟨⟨by omega,by omega⟩,1,by decide,by decide,wk (by push_cast -dsimp [zb,za,CLe,zd,szN])⟩
 ·have hn:(((a.length:Int)+(b.length:Int))<0)=False:=eq_false (by omega)
  push_cast -dsimp [szN,hn]
  exact ⟨⟨by omega,by omega⟩,2,by decide,by decide,wk (by push_cast -dsimp [zb,za,CLe,zd,szN])⟩
 ·push_cast -dsimp [szN]
  refine j7 [] [] (ze8 (G:=G) (a.length+b.length) (by omega) (by omega)) rfl (by decide) (by decide) (by simp) (by push_cast -dsimp) (by push_cast -dsimp) (fun r bx' m hp=>?_)
  obtain ⟨rfl,c,B,h1,h2,h3,h4,rfl,rfl⟩:=hp
  have hre:∀ fp fo,C.reL fp fo B=B:=fun fp fo=>zE h4
  push_cast -dsimp [hre]
  refine loop (fun p:Nat×List C=>⟨[(0,.sl 1 [[.sl 1 a],[.sl 1 b]]),(6,.bs 0 0 1 (szN a.length b.length p.1) c),(25,.sl 1 [[.sl 1 a],[.sl 1 b]]),(26,.sc (.int .i64 2)),(27,.sc (.int .i64 p.1))],[p.2],0,0⟩) (fun p=>p.1<=2/\Gv 1 c a b p.1 p.2) (fun p=>2-p.1) (0,B) ⟨Nat.zero_le _,h3,h4,by simp[szN,znT]⟩ ?_ ?_
  ·exact Ji.mk [] rfl rfl (Nat.zero_le _) rfl (by push_cast -dsimp [zb,za,CLe,zd,szN]) (by (push_cast -dsimp [zb,za,CLe,zd];exact zO h4))
  rintro ⟨j,X⟩ ⟨hj,hX⟩
  have hj:j<=2:=hj
  obtain rfl | rfl | rfl:j=0∨j=1∨j=2:=by omega
  ·have hs:=hX.step (r:=a) rfl (by simp[szN]) ka sa (by simp[szN];omega)
   push_cast -dsimp [szN]
   refine Uq zjN zqz rfl rfl (by decide) rfl (qu ka) rfl (by rw[hX.len];omega) (Nat.zero_le _) (by omega) (by omega) (fun hc=>?_) (fun hc=>absurd hc (by omega))
   push_cast -dsimp
   have hs:Gv 1 c a b 1 (spl X 0 a.flatten):=by simpa [szN] using hs
   exact ⟨(1,spl X 0 a.flatten),⟨Nat.le_succ 1,hs⟩,by (simp only;omega),Ji.mk [] rfl rfl (Nat.zero_le _) rfl (by push_cast -dsimp [zb,za,CLe,zd,szN]) (by (push_cast -dsimp [zb,za,CLe,zd];exact zO hs.stay))⟩
  ·have hs:=hX.step (r:=b) rfl (by simp[szN]) kb sb (by simp[szN];omega)
   push_cast -dsimp [szN]
   refine Uq zjN zqz rfl rfl (by decide) rfl (qu kb) rfl (by rw[hX.len];omega) (by omega) (by omega) (by omega) (fun hc=>?_) (fun hc=>absurd hc (by omega))
   push_cast -dsimp
   have hs:Gv 1 c a b 2 (spl X (a.length) b.flatten):=by simpa [szN] using hs
   exact ⟨(2,spl X (a.length) b.flatten),⟨Nat.le_refl 2,hs⟩,by (simp only;omega),Ji.mk [] rfl rfl (Nat.zero_le _) rfl (by push_cast -dsimp [zb,za,CLe,zd,szN]) (by (push_cast -dsimp [zb,za,CLe,zd];exact zO hs.stay))⟩
  ·push_cast -dsimp [szN]
   exact ⟨_,[X],0,⟨⟨rfl,c,X,⟨by rw[List.length_append];omega,h2,hX.len,hX.stay,by rw[List.length_append];exact hX.cells⟩,rfl,rfl⟩,Nat.zero_le _⟩,[],rfl,rfl,by (push_cast -dsimp [zb,za,CLe,zd];exact zO hX.stay),by push_cast -dsimp [zb,za,CLe,zd,List.length_append]⟩
theorem Ns:Fun Tryz.prog G 58 [.sl 1 [[.sl 1 []],[.sl 1 []]]] (.sl 1 []) 0:=by
 refine fon Tryz.func58 ?_;dsimp only[Tryz.f58]
 push_cast -dsimp
 refine loop (fun j:Nat=>⟨[(0,.sl 1 [[.sl 1 []],[.sl 1 []]]),(2,.sc (.slice none 0 0)),(3,.sc (.int .i64 0)),(9,.sl 1 [[.sl 1 []],[.sl 1 []]]),(10,.sc (.int .i64 2)),(11,.sc (.int .i64 j))],[],0,0⟩) (fun j=>j<=2) (fun j=>2-j) 0 (by decide) ?_ ?_
 ·exact wk
 intro j hj
 obtain rfl | rfl | rfl:j=0∨j=1∨j=2:=by omega
 ·push_cast -dsimp
  exact ⟨1,by decide,by decide,wk⟩
 ·push_cast -dsimp
  exact ⟨2,by decide,by decide,wk⟩
 ·push_cast -dsimp
  refine cl (zb4) ?_;push_cast -dsimp
  refine loop (fun j:Nat=>⟨[(0,.sl 1 [[.sl 1 []],[.sl 1 []]]),(6,.own 0 9 1 []),(25,.sl 1 [[.sl 1 []],[.sl 1 []]]),(26,.sc (.int .i64 2)),(27,.sc (.int .i64 j))],[],1,0⟩) (fun j=>j<=2) (fun j=>2-j) 0 (by decide) ?_ ?_
  ·exact wks [.inr (9,1)]
  intro j hj
  obtain rfl | rfl | rfl:j=0∨j=1∨j=2:=by omega
  ·push_cast -dsimp
   exact ⟨1,by decide,by decide,wks [.inl 0]⟩
  ·push_cast -dsimp
   exact ⟨2,by decide,by decide,wks [.inl 0]⟩
  ·push_cast -dsimp
   exact dn
end
end
end Go.Proofs.YtlkjpfiancahiaaGreatDoor.Vcg
section
namespace Go.Proofs.YtlkjpfiancahiaaGreatDoor.Kit
open Go.RowKit
theorem Hv {a b:ByteArray} (h:a=b):Ending.returned (.string a) = .returned (.string b):=by rw[h]
def toL (s:ByteArray):List UInt8:=s.data.toList
def ofL (l:List UInt8):ByteArray:=⟨l.toArray⟩
@[simp] theorem zeo (l:List UInt8):toL (ofL l)=l:=by simp[toL,ofL]
@[simp] theorem zrb (s:ByteArray):ofL (toL s)=s:=by cases s;simp[toL,ofL]
theorem kN (a b:List UInt8):ofL a++ofL b=ofL (a++b):=ByteArray.mk_append_mk a b
theorem Gx (s:ByteArray):(toL s).length=s.size:=Array.length_toList
theorem Zv (l:List UInt8):(ofL l).size=l.length:=by rw[←Gx,zeo]
def join (sep:ByteArray) (xs:List ByteArray):ByteArray:=⟨(Lib.join (xs.map (·.data.toList)) sep.data.toList).toArray⟩
theorem join_one (sep x:ByteArray):join sep [x]=x:=by
 cases x;simp[join,Lib.join_one]
end Go.Proofs.YtlkjpfiancahiaaGreatDoor.Kit
end
section
namespace Go.Proofs.YtlkjpfiancahiaaGreatDoor.Kit
open Go.RowKit
def byteCells (l:List UInt8):Array Value:=(l.map fun c=>Value.int .u8 (c.toNat:Int)).toArray
theorem ND (w:World) (l:List UInt8) (T:TypeId) (fr:Nat×Nat) (n:Nat) (hn:n=w.heap.size):Lib.Bytes (w.alloc (.cells (byteCells l) T fr)) n 0 (ofL l):=by
 intro i h
 subst hn
 have h1:(w.alloc (.cells (byteCells l) T fr)).heap[w.heap.size]?=some (.cells (byteCells l) T fr):=by
  show (w.heap.push _)[w.heap.size]?=_
  rw[Array.getElem?_push,if_pos rfl]
 simp only[World.cell?,h1]
 show (byteCells l)[0+i]?=_
 have h2:i<l.length:=by rw[Zv]at h;exact h
 rw[Nat.zero_add,byteCells,List.getElem?_toArray,List.getElem?_map,List.getElem?_eq_getElem h2]
 rfl
theorem Gy {P:Program} (w:World) (l:List UInt8) (src e dst:TypeId) (hs:P.underlying src=some (.slice e)) (he:P.underlying e=some (.int .u8)) (hd:P.underlying dst=some .string) (cs:Array Value) (hcs:cs=byteCells l) (fr:Nat×Nat) (m cap n:Nat) (hm:m=w.heap.size) (hn:n=l.length) :
  (convert src dst (.slice (some ⟨m,0,none⟩) n cap)).run P (w.alloc (.cells cs e fr)) = .ok (.string (ofL l)) (w.alloc (.cells cs e fr)):=by
 subst hcs hm hn
 have:=Lib.run_convert_whole (P:=P) (w.alloc (.cells (byteCells l) e fr)) src e dst hs he hd w.heap.size 0 (ofL l) (ND w l e fr _ rfl) cap
 rw[Zv]at this
 exact this
end Go.Proofs.YtlkjpfiancahiaaGreatDoor.Kit
end
section
namespace Go.Proofs.YtlkjpfiancahiaaGreatDoor
open Go.RowKit
namespace QuoteWalk
open Kit QuotePlain
theorem MO {c:UInt8} (h:good c=false):¬(32:Int)<=(c.toNat:Int)∨((32:Int)<=(c.toNat:Int)/\¬(c.toNat:Int)<=126)∨((32:Int)<=(c.toNat:Int)/\(c.toNat:Int)<=126/\((c.toNat:Int) != 34)=false) ∨
  ((32:Int)<=(c.toNat:Int)/\(c.toNat:Int)<=126/\((c.toNat:Int) != 34)=true/\((c.toNat:Int) != 92)=false):=by
 simp only[good,decide_eq_false_iff_not]at h
 simp only[bne_iff_ne,ne_eq,bne_eq_false_iff_eq]
 omega
theorem He {c:UInt8} (h:good c=true):(32:Int)<=(c.toNat:Int)/\(c.toNat:Int)<=126/\((c.toNat:Int) != 34)=true/\((c.toNat:Int) != 92)=true:=by
 simp only[good,decide_eq_true_eq]at h
 refine ⟨by omega,by omega,?_,?_⟩<;>(simp only[bne_iff_ne,ne_eq];omega)
theorem xv (c:UInt8) (w:World) :
  Calls Tryz.prog 176 #[.int .u8 c.toNat] w fun e w'=>e = .returned (.bool (good c))/\w=w':=by
 have hc:=c.toNat_lt
 cases hg:good c with
 | true =>
  obtain ⟨g1,g2,g3,g4⟩:=He hg
  clear hg
  go_enter Tryz.func176,Tryz.ntmps176
  go_wp2
  go_ret
  exact ⟨rfl,rfl⟩
 | false =>
  rcases MO hg with h | ⟨h0,h⟩ | ⟨h0,h1,h2⟩ | ⟨h0,h1,h2,h3⟩
  all_goals clear hg
  ·go_enter Tryz.func176,Tryz.ntmps176
   go_wp2
   go_ret
   exact ⟨rfl,rfl⟩
  ·go_enter Tryz.func176,Tryz.ntmps176
   go_wp2
   go_ret
   exact ⟨rfl,rfl⟩
  ·go_enter Tryz.func176,Tryz.ntmps176
   go_wp2
   go_ret
   exact ⟨rfl,rfl⟩
  ·go_enter Tryz.func176,Tryz.ntmps176
   go_wp2
   go_ret
   exact ⟨rfl,rfl⟩
theorem xb (c:UInt8) (w:World) (hg:good c=true) :
  Calls Tryz.prog 98 #[.int .u8 c.toNat] w fun e w'=>e = .returned (.string (ofL (qb c)))/\Below w.heap.size w w':=by
 have hc:=c.toNat_lt
 have hq:=Lib.hid (show qb c = [c] by rw[qb,if_pos hg])
 obtain ⟨g1,g2,g3,g4⟩:=He hg
 have hcv:=Gy (P:=Tryz.prog) w [c] 153 5 9 Tryz.underlying153 Tryz.underlying5 Tryz.underlying9 #[.int .u8 c.toNat] rfl (0,0) w.heap.size 1 1 rfl rfl
 clear hg
 go_enter Tryz.func98,Tryz.ntmps98
 go_wp2
 go_ret
 exact ⟨by rw[hq.out];rfl,(Below.refl _ _).alloc (Nat.le_refl _) _⟩
theorem zsh (n:Nat) (h:n<16) (w:World):(Instr.index 9 (.string ⟨#[48,49,50,51,52,53,54,55,56,57,97,98,99,100,101,102]⟩) (.int .u8 (n:Int))).run Tryz.prog w = .ok (.int .u8 ((GF n).toNat:Int)) w:=by
 rcases (by omega:n=0∨n=1∨n=2∨n=3∨n=4∨n=5∨n=6∨n=7∨n=8∨n=9∨n=10∨n=11∨n=12∨n=13∨n=14∨n=15) with rfl | rfl | rfl | rfl | rfl | rfl | rfl | rfl | rfl | rfl | rfl | rfl | rfl | rfl | rfl | rfl
 all_goals kernel_rfl
theorem zkD (c:UInt8) (w:World):(Instr.index 9 (.string ⟨#[48,49,50,51,52,53,54,55,56,57,97,98,99,100,101,102]⟩) (.int .u8 ((c.toNat:Int) / 16))).run Tryz.prog w = .ok (.int .u8 ((GF (c.toNat / 16)).toNat:Int)) w:=
 zsh (c.toNat / 16) (by have:=c.toNat_lt;omega) w
theorem zkF (c:UInt8) (w:World):(Instr.index 9 (.string ⟨#[48,49,50,51,52,53,54,55,56,57,97,98,99,100,101,102]⟩) (.int .u8 ((c.toNat:Int) % 16))).run Tryz.prog w = .ok (.int .u8 ((GF (c.toNat % 16)).toNat:Int)) w:=
 zsh (c.toNat % 16) (by omega) w
theorem zma (c:UInt8):IntKind.u8.wrap ((c.toNat:Int) / 16)=(c.toNat:Int) / 16:=by
 have:=c.toNat_lt
 exact IntWalk.u8_in _ (by omega)
theorem zlZ (c:UInt8):IntKind.u8.wrap ((c.toNat:Int) % 16)=(c.toNat:Int) % 16:=by
 have:=c.toNat_lt
 exact IntWalk.u8_in _ (by omega)
theorem zl0 (c:UInt8):(c.toNat:Int).tmod 16=(c.toNat:Int) % 16:=Int.tmod_eq_emod_of_nonneg (by omega)
theorem yW (c:UInt8) (w:World) (hg:good c=false) :
  Calls Tryz.prog 98 #[.int .u8 c.toNat] w fun e w'=>e = .returned (.string (ofL (qb c)))/\Below w.heap.size w w':=by
 have hc:=c.toNat_lt
 have hq:=Lib.hid (show qb c = [92,120,GF (c.toNat / 16),GF (c.toNat % 16)] by rw[qb,hg];rfl)
 have hb:=MO hg
 have x1:=zkD c
 have x2:=zkF c
 have y1:=zma c
 have y2:=zlZ c
 have y3:=zl0 c
 have hcv:=fun w2:World=>Gy (P:=Tryz.prog) w2 [92,120,GF (c.toNat / 16),GF (c.toNat % 16)] 153 5 9 Tryz.underlying153 Tryz.underlying5 Tryz.underlying9 #[.int .u8 92,.int .u8 120,.int .u8 (GF (c.toNat / 16)).toNat,.int .u8 (GF (c.toNat % 16)).toNat] rfl (0,0) w2.heap.size 4 4 rfl rfl
 clear hg
 rcases hb with h | ⟨h0,h⟩ | ⟨h0,h1,h2⟩ | ⟨h0,h1,h2,h3⟩
 ·go_enter Tryz.func98,Tryz.ntmps98
  go_wp2
  go_still_tail 6,(by kernel_rfl)
  change wpList _ _ _ _ _ w.drew
  obtain ⟨w2,hw2,hsz⟩:∃ w2:World,Below w.heap.size w w2/\w2=w.drew:=⟨_,(Below.refl _ _).drew,rfl⟩
  rw[←hsz]
  clear hsz
  go_wp2
  go_ret
  exact ⟨by rw[hq.out];rfl,hw2.alloc hw2.size _⟩
 ·go_enter Tryz.func98,Tryz.ntmps98
  go_wp2
  go_still_tail 6,(by kernel_rfl)
  change wpList _ _ _ _ _ w.drew
  obtain ⟨w2,hw2,hsz⟩:∃ w2:World,Below w.heap.size w w2/\w2=w.drew:=⟨_,(Below.refl _ _).drew,rfl⟩
  rw[←hsz]
  clear hsz
  go_wp2
  go_ret
  exact ⟨by rw[hq.out];rfl,hw2.alloc hw2.size _⟩
 ·go_enter Tryz.func98,Tryz.ntmps98
  go_wp2
  go_still_tail 6,(by kernel_rfl)
  change wpList _ _ _ _ _ w.drew
  obtain ⟨w2,hw2,hsz⟩:∃ w2:World,Below w.heap.size w w2/\w2=w.drew:=⟨_,(Below.refl _ _).drew,rfl⟩
  rw[←hsz]
  clear hsz
  go_wp2
  go_ret
  exact ⟨by rw[hq.out];rfl,hw2.alloc hw2.size _⟩
 ·go_enter Tryz.func98,Tryz.ntmps98
  go_wp2
  go_still_tail 6,(by kernel_rfl)
  change wpList _ _ _ _ _ w.drew
  obtain ⟨w2,hw2,hsz⟩:∃ w2:World,Below w.heap.size w w2/\w2=w.drew:=⟨_,(Below.refl _ _).drew,rfl⟩
  rw[←hsz]
  clear hsz
  go_wp2
  go_ret
  exact ⟨by rw[hq.out];rfl,hw2.alloc hw2.size _⟩
theorem NF (c:UInt8) (w:World) :
  Calls Tryz.prog 98 #[.int .u8 c.toNat] w fun e w'=>e = .returned (.string (ofL (qb c)))/\Below w.heap.size w w':=by
 cases h:good c with
 | true=>exact xb c w h
 | false=>exact yW c w h
end QuoteWalk
end Go.Proofs.YtlkjpfiancahiaaGreatDoor
end
section
namespace Go.Proofs
open Go.Shelf
def Tryz.zlays166_ren:Go.Shelf.Ren:=⟨fun | 166=>151 | 240=>177 | 276=>208 | n=>n,fun | 0=>0 | 3=>3 | 4=>4 | 9=>9 | 20=>20 | 37=>153 | 70=>197 | 72=>199 | 75=>202 | 164=>249 | 80=>205 | 5=>5 | n=>n,fun | n=>n⟩
theorem Tryz.zlays166:Go.Proofs.Lays.n166 Tryz.prog Tryz.zlays166_ren:={
 mixed:=by kernel_rfl
 f166:=Tryz.func151.trans (congrArg some (by kernel_rfl))
 f240:=Tryz.func177.trans (congrArg some (by kernel_rfl))
 f276:=Tryz.func208.trans (congrArg some (by kernel_rfl))
 t0:=Tryz.underlying0
 a0:=Tryz.isAgg0
 z0:=Tryz.sizeOf0
 v0:=Tryz.zeroValue0
 t3:=Tryz.underlying3
 a3:=Tryz.isAgg3
 z3:=Tryz.sizeOf3
 v3:=Tryz.zeroValue3
 t4:=Tryz.underlying4
 a4:=Tryz.isAgg4
 z4:=Tryz.sizeOf4
 v4:=Tryz.zeroValue4
 t9:=Tryz.underlying9
 a9:=Tryz.isAgg9
 z9:=Tryz.sizeOf9
 v9:=Tryz.zeroValue9
 t20:=Tryz.underlying20
 a20:=Tryz.isAgg20
 z20:=Tryz.sizeOf20
 v20:=Tryz.zeroValue20
 t37:=Tryz.underlying153
 a37:=Tryz.isAgg153
 z37:=Tryz.sizeOf153
 v37:=Tryz.zeroValue153
 t70:=Tryz.underlying197
 a70:=Tryz.isAgg197
 z70:=Tryz.sizeOf197
 v70:=Tryz.zeroValue197
 t72:=Tryz.underlying199
 a72:=Tryz.isAgg199
 z72:=Tryz.sizeOf199
 v72:=Tryz.zeroValue199
 t75:=Tryz.underlying202
 a75:=Tryz.isAgg202
 z75:=Tryz.sizeOf202
 v75:=Tryz.zeroValue202
 t164:=Tryz.underlying249
 a164:=Tryz.isAgg249
 z164:=Tryz.sizeOf249
 v164:=Tryz.zeroValue249 }
theorem Tryz.zBuilder_Extra_166:Builder.Extra Tryz.prog Tryz.zlays166_ren:={
 sizeBuilder:=by kernel_rfl
 liesBuilder:=by kernel_rfl
 t5:=Tryz.underlying5
 a5:=Tryz.isAgg5
 z5:=Tryz.sizeOf5
 v5:=Tryz.zeroValue5
 infoByte:=by kernel_rfl
 cellsByte:=by kernel_rfl
 sizeByte:=by kernel_rfl
 neB5:=by decide }
def Tryz.zlays167_ren:Go.Shelf.Ren:=⟨fun | 167=>175 | 240=>177 | 276=>208 | n=>n,fun | 0=>0 | 4=>4 | 5=>5 | 9=>9 | 20=>20 | 37=>153 | 70=>197 | 72=>199 | 75=>202 | 164=>249 | 80=>205 | n=>n,fun | n=>n⟩
theorem Tryz.zlays167:Go.Proofs.Lays.n167 Tryz.prog Tryz.zlays167_ren:={
 mixed:=by kernel_rfl
 f167:=Tryz.func175.trans (congrArg some (by kernel_rfl))
 f240:=Tryz.func177.trans (congrArg some (by kernel_rfl))
 f276:=Tryz.func208.trans (congrArg some (by kernel_rfl))
 t0:=Tryz.underlying0
 a0:=Tryz.isAgg0
 z0:=Tryz.sizeOf0
 v0:=Tryz.zeroValue0
 t4:=Tryz.underlying4
 a4:=Tryz.isAgg4
 z4:=Tryz.sizeOf4
 v4:=Tryz.zeroValue4
 t5:=Tryz.underlying5
 a5:=Tryz.isAgg5
 z5:=Tryz.sizeOf5
 v5:=Tryz.zeroValue5
 t9:=Tryz.underlying9
 a9:=Tryz.isAgg9
 z9:=Tryz.sizeOf9
 v9:=Tryz.zeroValue9
 t20:=Tryz.underlying20
 a20:=Tryz.isAgg20
 z20:=Tryz.sizeOf20
 v20:=Tryz.zeroValue20
 t37:=Tryz.underlying153
 a37:=Tryz.isAgg153
 z37:=Tryz.sizeOf153
 v37:=Tryz.zeroValue153
 t70:=Tryz.underlying197
 a70:=Tryz.isAgg197
 z70:=Tryz.sizeOf197
 v70:=Tryz.zeroValue197
 t72:=Tryz.underlying199
 a72:=Tryz.isAgg199
 z72:=Tryz.sizeOf199
 v72:=Tryz.zeroValue199
 t75:=Tryz.underlying202
 a75:=Tryz.isAgg202
 z75:=Tryz.sizeOf202
 v75:=Tryz.zeroValue202
 t164:=Tryz.underlying249
 a164:=Tryz.isAgg249
 z164:=Tryz.sizeOf249
 v164:=Tryz.zeroValue249 }
theorem Tryz.zBuilder_Extra_167:Builder.Extra Tryz.prog Tryz.zlays167_ren:={
 sizeBuilder:=by kernel_rfl
 liesBuilder:=by kernel_rfl
 t5:=Tryz.underlying5
 a5:=Tryz.isAgg5
 z5:=Tryz.sizeOf5
 v5:=Tryz.zeroValue5
 infoByte:=by kernel_rfl
 cellsByte:=by kernel_rfl
 sizeByte:=by kernel_rfl
 neB5:=by decide }
open Go.RowKit in
theorem Tryz.zBuilder_WriteByte (B b:Nat) (bs:List Value) (c:Int) (w:World) (h:Lib.IsBuilder 199 5 B b bs w) (hlen:bs.length+1<=140737488355328) (hBw:B<=w.heap.size) :
  Calls Tryz.prog 175 #[.pointer (some ⟨b,0,none⟩),.int .u8 c] w fun e w'=>e = .returned .nilIface/\(Lib.BuilderAt 199 5 B b (.pointer (some ⟨b,0,none⟩)) (bs++[.int .u8 c]) w'/\Below B w w'):=Any.Builder_WriteByte Tryz.zlays167 Tryz.zBuilder_Extra_167 B b bs c w h hlen hBw
open Go.RowKit in
theorem Tryz.zBuilder_WriteString (B b:Nat) (bs:List Value) (s:ByteArray) (w:World) (h:Lib.IsBuilder 199 5 B b bs w) (hlen:bs.length+s.size<=140737488355328) (hBw:B<=w.heap.size) :
  Calls Tryz.prog 151 #[.pointer (some ⟨b,0,none⟩),.string s] w fun e w'=>e = .returned (.tuple #[.int .i64 s.size,.nilIface])/\(Lib.BuilderAt 199 5 B b (.pointer (some ⟨b,0,none⟩)) (bs++Lib.strCells s) w'/\Below B w w'):=Any.Builder_WriteString Tryz.zlays166 Tryz.zBuilder_Extra_166 B b bs s w h hlen hBw
end Go.Proofs
end
section
namespace Go.Proofs.YtlkjpfiancahiaaGreatDoor
open Go.RowKit
namespace QuoteWalk
open Kit QuotePlain
def pre (s:ByteArray) (k:Nat):Bs:=34 :: mid ((toL s).take k)
theorem uc (s:ByteArray):pre s 0 = [34]:=by simp[pre,mid]
theorem uD (s:ByteArray) (k:Nat) (h:k<s.size) {c:UInt8} (hc:s[k]=c):pre s (k+1)=pre s k++qb c:=by
 have h':k<(toL s).length:=by rw[Gx];exact h
 have:(toL s)[k]=c:=hc
 rw[pre,pre,List.take_succ_eq_append_getElem h',this,mid,mid,List.flatMap_append]
 simp
theorem zeM (s:ByteArray) (k:Nat) (h:s.size<=k):pre s k++[34]=qm (toL s):=by
 rw[pre,List.take_of_length_le (by rw[Gx];exact h)];rfl
theorem zkf (c:UInt8):(qb c).length<=4:=by unfold qb;split<;>simp
theorem mid_len (l:Bs):(mid l).length<=4*l.length:=by
 induction l with
 | nil=>simp[mid]
 | cons c l ih =>
  have:=zkf c
  simp only[mid,List.flatMap_cons,List.length_append,List.length_cons]at ih ⊢
  omega
theorem zeJ (s:ByteArray) (k:Nat):(pre s k).length<=1+4*k:=by
 have h1:=mid_len ((toL s).take k)
 have h2:((toL s).take k).length<=k:=List.length_take_le _ _
 simp only[pre,List.length_cons];omega
theorem refQuote_walk (s:ByteArray) (w:World) (hs:s.size<=1099511627776) :
  Calls Tryz.prog 52 #[.string s] w fun e w'=>e = .returned (.string (ofL (qm (toL s))))/\Below w.heap.size w w':=by
 go_enter Tryz.func52,Tryz.ntmps52
 go_wp2
 go_loopw [3,4] (fun o i wr=>∃ k:Nat,k<=s.size/\i = .int .i64 k/\o = .string (ofL (pre s k))/\Below w.heap.size w wr) (fun _ i _=>s.size-(intOf i).toNat)
 case atStart=>exact ⟨0,by omega,rfl,by rw[uc];rfl,Below.refl _ _⟩
 case round =>
  obtain ⟨k,hk,rfl,rfl,hB⟩:=hrel
  have hpl:=zeJ s k
  have hps:(ofL (pre s k)).size<=1+4*k:=by rw[Zv];exact hpl
  by_cases hlt:k<s.size
  ·obtain ⟨c,hc⟩:∃ c,s[k]=c:=⟨_,rfl⟩
   have hsn:=Lib.hid (uD s k hlt hc)
   have hql:=zkf c
   have hqs:(ofL (qb c)).size<=4:=by rw[Zv];exact hql
   generalize hp:ofL (pre s k)=p at *
   have hp':=Lib.hid hp
   clear hp
   go_wp2_with fail
   refine (NF c _).mono ?_
   rintro e w1 ⟨rfl,hb1⟩
   generalize hq:ofL (qb c)=q at *
   have hq':=Lib.hid hq
   clear hq
   go_wp2
   go_roundw
   case rel=>exact ⟨k+1,by omega,by go_num,by rw[hsn.out,←kN,hp'.out,hq'.out],hB.trans (hb1.mono hB.size)⟩
   case measure=>simp[intOf];omega
  ·have hfin:=Lib.hid (zeM s k (by omega))
   generalize hp:ofL (pre s k)=p at *
   have hp':=Lib.hid hp
   clear hp
   go_wp2
   go_ret
   exact ⟨Hv (by rw[←hp'.out,←hfin.out,←kN];rfl),hB⟩
def Bld (B:Nat) (l:Bs) (w:World):Prop:=Lib.BuilderAt 199 5 B B (.pointer (some ⟨B,0,none⟩)) (Lib.byteCells l) w
theorem Bld.alloc {B:Nat} {l:Bs} {w:World} (h:Bld B l w) (o:Obj):Bld B l (w.alloc o):=by
 obtain ⟨h1,v,h2,h3,h4⟩:=h
 refine ⟨h1,v,?_,h3.alloc o,h4⟩
 rw[Lib.alloc_old _ _ _ (Array.getElem?_eq_some_iff.1 h2).1];exact h2
theorem Bld.drew {B:Nat} {l:Bs} {w:World} (h:Bld B l w):Bld B l w.drew:=h
theorem MS (B:Nat) (l:Bs) (c:UInt8) (w:World) (h:Bld B l w) (hl:l.length<140737488355328) (hB:B<=w.heap.size) :
  Calls Tryz.prog 175 #[.pointer (some ⟨B,0,none⟩),.int .u8 (c.toNat:Int)] w fun e w'=>e = .returned .nilIface/\Bld B (l++[c]) w'/\Below B w w':=by
 refine (Tryz.zBuilder_WriteByte B B (Lib.byteCells l) c.toNat w (.inr h) (by rw[Lib.byteCells_length];omega) hB).mono ?_
 rintro e w' ⟨h1,h2,h3⟩
 exact ⟨h1,by rw[Bld,Lib.byteCells_append];exact h2,h3⟩
theorem zaB (w:World) (c:UInt8) :
  Calls Tryz.prog 175 #[.pointer (some ⟨w.heap.size,0,none⟩),.int .u8 (c.toNat:Int)] (w.alloc (.cells #[.pointer none,.slice none 0 0] 199 (0,0))) fun e w'=>e = .returned .nilIface/\Bld w.heap.size [c] w'/\Below w.heap.size w w':=by
 refine (Tryz.zBuilder_WriteByte w.heap.size w.heap.size [] c.toNat _ (Lib.fresh_isBuilder _ _ w) (by decide) (by simp)).mono ?_
 rintro e w' ⟨h1,h2,h3⟩
 exact ⟨h1,h2,((Below.refl _ _).alloc (Nat.le_refl _) _).trans h3⟩
theorem yK (B:Nat) (l:Bs) (x:ByteArray) (w:World) (h:Bld B l w) (hl:l.length+x.size<=140737488355328) (hB:B<=w.heap.size) :
  Calls Tryz.prog 151 #[.pointer (some ⟨B,0,none⟩),.string x] w fun e w'=>e = .returned (.tuple #[.int .i64 x.size,.nilIface])/\Bld B (l++toL x) w'/\Below B w w':=by
 refine (Tryz.zBuilder_WriteString B B (Lib.byteCells l) x w (.inr h) (by rw[Lib.byteCells_length];omega) hB).mono ?_
 rintro e w' ⟨h1,h2,h3⟩
 exact ⟨h1,by rw[Bld,Lib.byteCells_append];exact h2,h3⟩
theorem zer (B:Nat) (l:Bs) (w:World) (h:Bld B l w) (hB:B<=w.heap.size) :
  Calls Tryz.prog 152 #[.pointer (some ⟨B,0,none⟩)] w fun e w'=>e = .returned (.string (ofL l))/\Below B w w':=
 Tryz.Builder_String_any B B l w (.inr h) hB
theorem znM (c:UInt8):bits BinOp.and IntKind.u8 (c.toNat:Int) 15=(c.toNat:Int) % 16:=by
 have:=zcN (p:=fun c=>decide (bits BinOp.and IntKind.u8 (c.toNat:Int) 15=(c.toNat:Int) % 16)) (by decide +kernel) c
 exact of_decide_eq_true this
theorem quote_walk (s:ByteArray) (w:World) (hs:s.size<=1099511627776) :
  Calls Tryz.prog 148 #[.string s] w fun e w'=>e = .returned (.string (ofL (qm (toL s))))/\Below w.heap.size w w':=by
 go_enter Tryz.func148,Tryz.ntmps148
 go_wp2_with fail
 refine (zaB w 34).mono ?_
 rintro e w1 ⟨rfl,hI1,hB1⟩
 go_wp2_with fail
 go_loopw [9] (fun i wr=>∃ k:Nat,k<=s.size/\i = .int .i64 k/\Bld w.heap.size (pre s k) wr/\Below w.heap.size w wr) (fun i _=>s.size-(intOf i).toNat)
 case atStart=>exact ⟨0,by omega,rfl,by rw[uc];exact hI1,hB1⟩
 case round =>
  obtain ⟨k,hk,rfl,hI,hB⟩:=hrel
  clear hI1 hB1
  have hpl:=zeJ s k
  by_cases hlt:k<s.size
  ·obtain ⟨c,hc⟩:∃ c,s[k]=c:=⟨_,rfl⟩
   have hsn:=Lib.hid (uD s k hlt hc)
   go_wp2_with fail
   refine (xv c _).mono ?_
   rintro e w' ⟨rfl,rfl⟩
   cases hg:good c with
   | true =>
    have hq:=Lib.hid (show qb c = [c] by rw[qb,if_pos hg])
    clear hg
    go_wp2_with fail
    refine (MS w.heap.size (pre s k) c _ hI (by omega) hB.size).mono ?_
    rintro e w2 ⟨rfl,hI2,hb2⟩
    go_wp2
    go_roundw
    case rel=>exact ⟨k+1,by omega,by go_num,by rw[hsn.out,hq.out];exact hI2,hB.trans hb2⟩
    case measure=>simp[intOf];omega
   | false =>
    have hq:=Lib.hid (show qb c = [92,120,GF (c.toNat / 16),GF (c.toNat % 16)] by rw[qb,hg];rfl)
    clear hg
    have x1:=zkD c
    have x2:=zkF c
    have x3:=znM c
    have hcv:=fun w2:World=>Gy (P:=Tryz.prog) w2 [92,120,GF (c.toNat / 16),GF (c.toNat % 16)] 153 5 9 Tryz.underlying153 Tryz.underlying5 Tryz.underlying9 #[.int .u8 92,.int .u8 120,.int .u8 (GF (c.toNat / 16)).toNat,.int .u8 (GF (c.toNat % 16)).toNat] rfl (0,0) w2.heap.size 4 4 rfl rfl
    go_wp2_with fail
    go_still_tail 6,(by kernel_rfl)
    change wpList _ _ _ _ _ wr.drew
    obtain ⟨w2,hw2,hI2,hsz⟩:∃ w2:World,Below w.heap.size w w2/\Bld w.heap.size (pre s k) w2/\w2=wr.drew:=⟨_,hB.drew,hI.drew,rfl⟩
    rw[←hsz]
    clear hsz hI hB
    go_wp2_with fail
    refine (yK w.heap.size (pre s k) (ofL [92,120,GF (c.toNat / 16),GF (c.toNat % 16)]) _ (hI2.alloc _) (by rw[Zv];show _+4<=_;omega) (by have:=hw2.size;simp;omega)).mono ?_
    rintro e w3 ⟨rfl,hI3,hb3⟩
    rw[zeo]at hI3
    have hB3:=(hw2.alloc hw2.size _).trans hb3
    clear hb3 hcv x1 x2 x3 hI2
    go_wp2
    go_roundw
    case rel=>exact ⟨k+1,by omega,by go_num,by rw[hsn.out,hq.out];exact hI3,hB3⟩
    case measure=>simp[intOf];omega
  ·have hfin:=Lib.hid (zeM s k (by omega))
   go_wp2_with fail
   refine (MS w.heap.size (pre s k) 34 _ hI (by omega) hB.size).mono ?_
   rintro e w2 ⟨rfl,hI2,hb2⟩
   go_wp2_with fail
   refine (zer w.heap.size _ _ hI2 (hB.trans hb2).size).mono ?_
   rintro e w3 ⟨rfl,hb3⟩
   go_wp2
   go_ret
   exact ⟨Hv (by rw[hfin.out]),(hB.trans hb2).trans hb3⟩
end QuoteWalk
end Go.Proofs.YtlkjpfiancahiaaGreatDoor
end
